/- A part of the proof of SpliceEqualsUptoSaid (texts: SndX SndY). No conditions. -/
import Derived.Test.YtmhkceeiiklfdaaGreatG09
set_option linter.unusedVariables false
set_option linter.unusedSimpArgs false
set_option linter.unusedVariables false
set_option linter.unusedSimpArgs false
namespace Go.Abs
variable {φ : Phi} {E : Env} {H H' : AHeap} {w : World} {run : Run}

/-- what a region that draws its order comes to -/
def DrawOk (E : Env) (run : Run) : Prop := ∀ (ops : Array Oper) (nt : Nat) (T : Tr Value) (L : Loc) (H H' : AHeap) (es : List Ev), aOpsD ops.toList nt E run T ops.toList .nil H = some (L, H', es) → regOk ops.toList = true → evCheck (befores [] ops.toList) [] es = true →
  ∀ (φ : Phi) (w : World) (b : Frame) (a : Act) (k : List Item) (t : Nat) (cs : List Frame), FR φ ⟨.nil, T⟩ a.tmps → a.tmps.size = nt → SimL φ E H w → Free φ H H' →
    ∃ φ' w' a', Goes φ H.size w φ' H'.size w' ∧ SimL φ' E H' w' ∧ FR φ' ⟨L, T⟩ a'.tmps ∧ a'.tmps.size = nt ∧ a'.defers = a.defers ∧ Low H H' ∧
      Steps E.prog (lone (b.atR a (.inRegion ops (Region.linearise .any ops t) :: k)) cs w) (lone (b.atR a' (.inRegion ops [] :: k)) cs w')

theorem findExit {id : Nat} : ∀ {k : List AItem} {k' : List Item}, KRel φ k k' → (aExitTo id k = none → exitTo id k' = none) ∧ (∀ j, aExitTo id k = some j → ∃ j', exitTo id k' = some j' ∧ KRel φ j j')
  | _, _, .nil => ⟨fun _ => rfl, fun j h => by cases h⟩
  | _, _, .cons i i' k k' hi hk => by
    have ih := findExit (id := id) hk
    cases hi with
    | inBlock n =>
      have e : aExitTo id (.inBlock n :: k) = @Bool.rec (fun _ => Option (List AItem)) (aExitTo id k) (some k) (Nat.beq n id) := rfl
      rw [e, brec, nbeq_eq]
      unfold exitTo
      by_cases hn : n = id
      · rw [if_pos (by simpa using hn), if_pos (by simpa using hn)]
        exact ⟨(fun h => by cases h), fun j h => by cases h; exact ⟨k', rfl, hk⟩⟩
      · rw [if_neg (by simpa using hn), if_neg (by simpa using hn)]
        exact ih
    | code c => exact ih
    | inLoop c => exact ih
    | inScope c => exact ih
    | endRange l b n h => exact ih
    | beginRound => exact ih
theorem findGoto {l : Nat} : ∀ {k : List AItem} {k' : List Item}, KRel φ k k' → (aGotoIn l k = none → gotoIn l k' = none) ∧ (∀ j, aGotoIn l k = some j → ∃ j', gotoIn l k' = some j' ∧ KRel φ j j')
  | _, _, .nil => ⟨fun _ => rfl, fun j h => by cases h⟩
  | _, _, .cons i i' k k' hi hk => by
    have ih := findGoto (l := l) hk
    cases hi with
    | inScope body =>
      unfold aGotoIn gotoIn
      cases findLabel body l with
      | none => exact ih
      | some rest => exact ⟨(fun h => by cases h), fun j h => by cases h; exact ⟨_, rfl, .cons _ _ _ _ (.code _) (.cons _ _ _ _ (.inScope _) hk)⟩⟩
    | code c => exact ih
    | inBlock c => exact ih
    | inLoop c => exact ih
    | endRange l b n h => exact ih
    | beginRound => exact ih

/-! ### Leaving -/
theorem takeAll_ok (ok : EnvOk E) (hr : RunOk E run) (hu : RunUp run) (cs : List Frame) : ∀ {d : List ADef} {ds : List Deferred} {φ : Phi} {H H1 : AHeap} {w : World}, DRel φ d ds → takeAll E run d H = some H1 → SimL φ E H w → Free φ H H1 → ∀ (fr : Frame), fr.mode = .returning → fr.defers = ds →
    ∃ φ1 w1, Goes φ H.size w φ1 H1.size w1 ∧ SimL φ1 E H1 w1 ∧ Low H H1 ∧ Steps E.prog (lone fr cs w) (lone { fr with defers := [] } cs w1)
  | _, _, φ, H, H1, w, .nil, h, sim, hf, fr, hm, hd => by
    cases h
    exact ⟨φ, w, Goes.refl _ _ _, sim, .refl _, by
      have : { fr with defers := [] } = fr := by cases fr; simp only at hd; subst hd; rfl
      rw [this]; exact Steps.refl _ _⟩
  | _, _, φ, H, H1, w, .cons A b n r r' hA hrr, h, sim, hf, fr, hm, hd => by
    unfold takeAll at h
    split at h
    · rename_i hg
      obtain ⟨c, hb, hc⟩ := sim.block A b n _ hA hg
      have hc : c = .deferred (some []) := hc
      subst hc
      have htk := run_takeDeferred (P := E.prog) hb
      have ht : Turned φ E H w A (H.put A .dead) (wset w b (.deferred none)) := .inr ⟨b, n, _, _, _, hA, hg, by simp, rfl, rfl, trivial⟩
      obtain ⟨s1, g1⟩ := ht.sim sim
      obtain ⟨φ1, w1, p1, p2, p3, p4⟩ := takeAll_ok ok hr hu cs hrr h s1 hf { fr with defers := [] ++ r' } hm rfl
      refine ⟨φ1, w1, g1.trans p1, p2, ht.low.trans p3, ?_⟩
      have hs := step_collected (P := E.prog) (cs := cs) (fr := fr) (w := w) (w' := wset w b (.deferred none)) (by rw [hm]; simp) hd rfl htk
      exact Steps.head hs p4
    · cases h
  | _, _, φ, H, H1, w, .call g args as bs r r' hl hrr, h, sim, hf, fr, hm, hd => by
    unfold takeAll at h
    split at h
    · rename_i u o s l he
      have hup := up_enter0 hu he
      have hup2 := takeAll_upp hu h
      have he0 := he
      unfold aEnter0 at he
      rw [orec] at he
      split at he
      · rename_i fn hfn
        rw [orec] at he
        split at he
        · rename_i c hc
          rw [brec] at he
          split at he
          · rename_i hle
            have hle := Nat.le_of_ble_eq_true hle
            rw [lenL_eq] at hle
            have hPf := ok.funcs _ _ hfn
            have hng := ok.nogo _ _ _ hfn hc
            let b : Frame := { (default : Frame) with fn := g, kind := .deferred, roundOf := none }
            let a : Act := { tmps := (⟨as ++ bs⟩ : Array Value) ++ Array.replicate (fn.ntmps - (⟨as ++ bs⟩ : Array Value).size) undef, defers := [] }
            have hb0 : Frame.enter E.prog g ⟨as ++ bs⟩ .deferred = b.atR a [.code c] := by
              simp [Frame.enter, Frame.atR, b, a, hPf, hc]
            have hll := hl.length
            have hat : At φ E ⟨g, none, fn.ntmps⟩ [] (Tr.fillK (keepOf E g) args 0 .leaf) b a := by
              refine ⟨rfl, .inr ⟨rfl, rfl⟩, trivial, ?_, ?_, .nil⟩
              · refine fillK_rel 0 .leaf a.tmps hl (fun j v hj => ?_) (fun t v hh => by cases hh)
                have hjl := (List.getElem?_eq_some_iff.1 hj).1
                simp only [a, Nat.zero_add]
                rw [Array.getElem?_append, if_pos (by simpa using hjl)]
                simpa using hj
              · simp [a] at hll ⊢; omega
            obtain ⟨φ', w', v', p1, p2, p3, p4, p5⟩ := hr _ _ _ _ _ _ _ he φ w b a [.code c] ({ fr with defers := r' } :: cs) hat (.cons _ _ _ _ (.code c) .nil) sim (hf.left hup2.low.size)
            obtain ⟨φ2, w2, q1, q2, q3, q4⟩ := takeAll_ok ok hr hu cs (hrr.mono p1.ext) h p2 (hf.right p1) { fr with defers := r' } hm rfl
            refine ⟨φ2, w2, p1.trans q1, q2, p4.trans q3, ?_⟩
            obtain ⟨fr', t1, t2, t3, t4⟩ := p5
            rw [← hb0] at t1
            have hinv : (invoke (.fn (.func g) ⟨bs⟩) ⟨as⟩).run E.prog w = .ok (.enter g ⟨as ++ bs⟩) w := by
              have hng' : ¬ fn.name = "runtime.NumGoroutine" := by simpa using hng
              have e0 : invoke (.fn (.func g) ⟨bs⟩) ⟨as⟩ = callFunc g ⟨as ++ bs⟩ := by
                show callFunc g (⟨as⟩ ++ ⟨bs⟩) = _
                congr 1
                simp
              rw [e0]
              simp [callFunc, program, Sem.run, hPf, hng', hc]
            have s1 := step_defer (P := E.prog) (fr := fr) (cs := cs) (w := w) (by rw [hm]; simp) hd rfl hinv
            have s2 := step_going_returned (P := E.prog) (c := { fr with defers := r' }) (cs := cs) t4 t2
            have e3 : settle ({ fr with defers := r' } : Frame).mode = .returning := by
              show settle fr.mode = _
              rw [hm]; rfl
            rw [e3] at s2
            have e4 : ({ ({ fr with defers := r' } : Frame) with mode := FrameMode.returning } : Frame) = { fr with defers := r' } := by
              cases fr; simp only at hm; subst hm; rfl
            rw [e4] at s2
            exact Steps.head s1 (t1.trans (Steps.head s2 q4))
          · cases he
        · cases he
      · cases he
    · cases h
theorem evalK_rel {m : Nat} {T : Tr Value} {ts : Array Value} (hT : TRel φ m T ts) (t : Tmp) : VRel φ (evalK t T) (ts.getD t undef) := FR.nil hT t
def resF (ts : Array Value) : ResultVar → Sem Value
  | .tmp t => pure (ts.getD t undef)
  | .cell a t => do loadVar t (← asAddr (ts.getD a undef))
theorem result_ok (ok : EnvOk E) {m : Nat} {T : Tr Value} {ts : Array Value} (hT : TRel φ m T ts) (sim : SimL φ E H w) : ∀ {rs : List ResultVar} {vs : List Value}, aResult E H T rs = some vs →
    ∃ vs', LRel φ vs vs' ∧ (rs.mapM (resF ts)).run E.prog w = .ok vs' w
  | [], vs, h => by cases h; exact ⟨[], .nil, rfl⟩
  | .tmp t :: r, vs, h => by
    unfold aResult at h
    split at h
    · rename_i vs1 h1
      cases h
      obtain ⟨vs', p1, p2⟩ := result_ok ok hT sim h1
      refine ⟨_ :: vs', .cons _ _ _ _ (evalK_rel hT t) p1, ?_⟩
      rw [List.mapM_cons]
      simp only [resF, Sem.run_bind, Sem.run_pure, Result.andThen_ok, p2]
    · cases h
  | .cell x t :: r, vs, h => by
    unfold aResult at h
    split at h
    · rename_i v vs1 hv h1
      cases h
      obtain ⟨vs', p1, p2⟩ := result_ok ok hT sim h1
      have hx := evalK_rel hT x
      obtain ⟨v', q1, q2⟩ := run_aLoad ok hv hx (fun A off _ => sim.block A)
      refine ⟨v' :: vs', .cons _ _ _ _ q2 p1, ?_⟩
      have had : ∃ ad, ts.getD x undef = .pointer (some ad) := by
        unfold aLoad at hv
        rw [orec] at hv
        split at hv
        · rename_i q hq
          obtain ⟨A, off⟩ := q
          have := addrOf_some hq
          rw [this] at hx
          obtain ⟨b, n, _, he⟩ := hx.ptr_inv
          exact ⟨_, he⟩
        · cases hv
      obtain ⟨ad, had⟩ := had
      rw [had] at q1
      have q1 : (loadVar t ad).run E.prog w = .ok v' w := by
        simpa [Instr.loadAt, Instr.sureAddr] using q1
      rw [List.mapM_cons]
      simp only [resF, Sem.run_bind, Sem.run_pure, Result.andThen_ok, p2, had, asAddr, q1]
    · cases h
theorem one_rel {vs vs' : List Value} (h : LRel φ vs vs') : VRel φ (one vs) (if h : (⟨vs'⟩ : Array Value).size = 1 then (⟨vs'⟩ : Array Value)[0] else .tuple ⟨vs'⟩) := by
  cases h with
  | nil => exact .top _
  | cons v v' l l' hv hl =>
    cases hl with
    | nil => exact hv
    | cons u u' l l' hu hl =>
      rw [dif_neg (by simp)]
      exact .tuple _ _ _ _ (.cons _ _ _ _ hv (.cons _ _ _ _ hu hl))
theorem results_run {P : Program} {fn : Func} {ts : Array Value} {vs' : List Value} (h : (fn.results.toList.mapM (resF ts)).run P w = .ok vs' w) :
    (results fn ts).run P w = .ok (if h : (⟨vs'⟩ : Array Value).size = 1 then (⟨vs'⟩ : Array Value)[0] else .tuple ⟨vs'⟩) w := by
  have e : results fn ts = (do
    let vs ← fn.results.mapM (resF ts)
    pure (if h : vs.size = 1 then vs[0] else .tuple vs)) := by
    unfold results
    congr 1
  rw [e, Array.mapM_eq_mapM_toList]
  have e2 : (List.toArray <$> fn.results.toList.mapM (resF ts)).run P w = .ok ⟨vs'⟩ w := by
    rw [map_eq_pure_bind, Sem.run_bind, h]; rfl
  rw [Sem.run_bind, e2]
  rfl
theorem leave_ok (ok : EnvOk E) (hr : RunOk E run) (hu : RunUp run) {jump : Option Code} {fi : FInfo} {d : List ADef} {T : Tr Value} {v : Value} {b : Frame} {a : Act} {k : List Item} {cs : List Frame} (h : aLeave jump E run fi d T H = some (v, H')) (hat : At φ E fi d T b a) (sim : SimL φ E H w) (hf : Free φ H H')
    (hret : b.roundOf = none → retJump jump = true → ∃ todo, step E.prog (lone (b.atR a k) cs w) = .next (lone { b.atR a todo with mode := .returning } cs w))
    (hround : ∀ l v w', b.roundOf = some l → (Instr.endRound l jump).run E.prog w = .ok v w' → ∀ c cs', cs = c :: cs' → step E.prog (lone (b.atR a k) cs w) = .next (lone (c.finish v) cs' w')) : Post φ E H w b a k v H' cs := by
  unfold aLeave at h
  have hro := hat.round
  split at h
  · rename_i l hl
    rw [hl] at hro
    split at h
    · unfold leaveRound at h
      split at h
      · rename_i r hg
        cases h
        cases hb : b.roundOf with
        | none => rw [hb] at hro; exact hro.elim
        | some bl =>
          rw [hb] at hro
          obtain ⟨n, hA⟩ := hro
          obtain ⟨c', hbk, r', rfl, hlr⟩ := sim.block l bl n _ hA hg
          have he := run_endRound (P := E.prog) jump hbk
          have ht : Turned φ E H w l (H.put l (.loop { r with state := endState jump, pending := jump })) (wset w bl (.loop { r' with state := if jump.isNone then .ready else .done, pending := jump })) := by
            refine .inr ⟨bl, n, _, _, _, hA, hg, by simp, rfl, rfl, _, rfl, ⟨?_, rfl, hlr.fn, hlr.params, hlr.assign, hlr.body, hlr.defers, hlr.nt, hlr.tmps⟩⟩
            cases jump <;> rfl
          obtain ⟨s1, g1⟩ := ht.sim sim
          refine ⟨φ, _, .bool jump.isNone, g1, s1, .gr _ rfl, ht.low, ?_⟩
          unfold Ends
          rw [hb]
          exact fun c cs' hc => .one (hround bl _ _ hb he c cs' hc)
      · cases h
    · cases h
  · rename_i hl
    rw [hl] at hro
    have hb : b.roundOf = none := by
      cases hb : b.roundOf with
      | none => rfl
      | some bl => rw [hb] at hro; exact hro.elim
    split at h
    · cases h
    · rename_i hj
      unfold leaveFn at h
      split at h
      · cases h
      · rename_i H1 ht
        have hHH : H1 = H' := by
          unfold leaveRes at h
          split at h
          · cases h
          · split at h
            · cases h; rfl
            · cases h
        obtain ⟨todo, hs⟩ := hret hb hj
        obtain ⟨φ1, w1, g1, s1, l1, st⟩ := takeAll_ok ok hr hu cs hat.defers ht sim (by rw [hHH]; exact hf) { b.atR a todo with mode := .returning } rfl rfl
        unfold leaveRes at h
        split at h
        · cases h
        · rename_i fn hfn
          split at h
          · rename_i vs hvs
            cases h
            have hPf := ok.funcs _ _ hfn
            obtain ⟨vs', q1, q2⟩ := result_ok ok (hat.tmps.mono g1.ext) s1 hvs
            refine ⟨φ1, w1, _, g1, s1, one_rel q1, l1, ?_⟩
            unfold Ends
            rw [hb]
            refine ⟨{ b.atR a todo with mode := .returning, defers := [] }, Steps.head hs st, ⟨rfl, rfl, fn, ?_, results_run q2⟩, rfl, rfl⟩
            show E.prog.funcs[b.fn]? = some fn
            rw [hat.fn]; exact hPf
          · cases h
end Go.Abs
set_option linter.unusedVariables false
set_option linter.unusedSimpArgs false
namespace Go.Abs
variable {φ : Phi} {E : Env} {H H' : AHeap} {w : World} {run : Run}
variable {fi : FInfo} {d : List ADef} {T : Tr Value} {v : Value} {b : Frame} {a : Act} {cs : List Frame}

theorem TRel.sound {m : Nat} {ts : Array Value} (h : TRel φ m T ts) : ∀ t v, T.get t = some v → bit m t = true ∧ ¬ (2 ^ 40 ≤ t + 1) := fun t v hv => (h t v hv).2
theorem At.next (hat : At φ E fi d T b a) {φ' : Phi} (e : Ext φ φ') {L : Loc} {a' : Act} (hF : FR φ' ⟨L, T⟩ a'.tmps) (hn : a'.tmps.size = fi.nt) (hd : a'.defers = a.defers) : At φ' E fi d (flush (keepOf E fi.fn) T L) b a' :=
  ⟨hat.fn, hat.kind, hat.round.mono e, flush_rel hat.tmps.sound hF, hn, by rw [hd]; exact hat.defers.mono e⟩

theorem DRel.append : ∀ {x y : List ADef} {x' y' : List Deferred}, DRel φ x x' → DRel φ y y' → DRel φ (x ++ y) (x' ++ y')
  | _, _, _, _, .nil, k => k
  | _, _, _, _, .cons _ _ _ _ _ h hs, k => .cons _ _ _ _ _ h (DRel.append hs k)
  | _, _, _, _, .call _ _ _ _ _ _ h hs, k => .call _ _ _ _ _ _ h (DRel.append hs k)
theorem range_in (ok : EnvOk E) (hr : RunOk E run) (hu : RunUp run) {f : Operand} {ps : Array Tmp} {x y : Code} {k : List AItem} {k' : List Item} {H0 : AHeap} {φ0 : Phi} {w0 : World} {df db m : Nat} {mark : List ADef} {cmark : List Deferred}
    (h : sRange1 f ps x y k E run fi d T df mark H0 = some (v, H')) (hat : At φ E fi d T b a) (hk : KRel φ k k') (hf : Free φ H H')
    (g0 : Goes φ H.size w φ0 H0.size w0) (s0 : SimL φ0 E H0 w0) (l0 : Low H H0) (hdf : φ0 df = some (db, m)) (hm : DRel φ0 mark cmark)
    (he : (Instr.enterLoop b.fn a.tmps ps x y b.roundOf).run E.prog w = .ok (w0.heap.size, cmark) (wpush w0 (.loop { state := .ready, pending := none, fn := b.fn, tmps := a.tmps, params := ps, assign := x, body := y, defers := db }))) :
    Post φ E H w b a (.code (.rangeFunc f ps x y) :: k') v H' cs := by
  unfold sRange1 at h
  split at h
  · rename_i out hi
    unfold sRange2 at h
    split at h
    · rename_i u o2 s2 m2 hc
      have up1 := (up_invoke hi).low.size
      have up2 := (up_call hu hc).low.size
      have up3 := (hu _ _ _ _ _ _ _ h).low.size
      have up0 : H0.size + 1 ≤ H'.size := by
        have : (H0.new (.loop { state := .ready, pending := none, fn := fi.fn, tmps := T, params := ps.toList, assign := x, body := y, defers := df, nt := fi.nt })).size = H0.size + 1 := new_size _ _
        have e1 : H0.size + 1 ≤ (outH out).size := by rw [← this]; exact up1
        exact Nat.le_trans e1 (Nat.le_trans up2 up3)
      have hf0 := hf.right g0
      have hfree : φ0 H0.size = none := (hf0 H0.size (Nat.le_refl _) (by omega)).1
      have hext := Phi.add_ext (b := w0.heap.size) (n := 0) hfree
      have hobj : ObjRel (φ0.add H0.size w0.heap.size 0) E 0 (.loop { state := .ready, pending := none, fn := fi.fn, tmps := T, params := ps.toList, assign := x, body := y, defers := df, nt := fi.nt })
          (.loop { state := .ready, pending := none, fn := b.fn, tmps := a.tmps, params := ps, assign := x, body := y, defers := db }) :=
        ⟨_, rfl, ⟨rfl, rfl, hat.fn, rfl, rfl, rfl, ⟨m, hext _ _ hdf⟩, hat.nt, (hat.tmps.mono g0.ext).mono hext⟩⟩
      obtain ⟨s1, g1⟩ := s0.alloc hfree 0 _ _ hobj
      have g1' : Goes φ0 H0.size w0 (φ0.add H0.size w0.heap.size 0) (H0.new (.loop { state := .ready, pending := none, fn := fi.fn, tmps := T, params := ps.toList, assign := x, body := y, defers := df, nt := fi.nt })).size
          (wpush w0 (.loop { state := .ready, pending := none, fn := b.fn, tmps := a.tmps, params := ps, assign := x, body := y, defers := db })) := by rw [new_size]; exact g1
      have hfv : VRel (φ0.add H0.size w0.heap.size 0) (ev f ⟨.nil, T⟩) (a.eval f) := ev_rel (FR.nil ((hat.tmps.mono g0.ext).mono hext)) f
      have hargs : LRel (φ0.add H0.size w0.heap.size 0) [.func (.yield H0.size) #[] #[]] [.func (.yield w0.heap.size) #[] #[]] := .cons _ _ _ _ (.yield _ _ _ (Phi.add_at ..)) .nil
      have hx := x_invoke ok s1 hi hfv hargs (fun hlt => ((hf0.right g1') _ (Nat.le_refl _) (Nat.lt_of_lt_of_le hlt (Nat.le_trans up2 up3))).1)
      have hgo : Goer E.prog (b.atR a (.code (.rangeFunc f ps x y) :: k')) w (b.atR { a with defers := cmark ++ a.defers } (.inRangeFunc w0.heap.size :: k'))
          (do let d ← Deferred.ofValue (a.eval f) ⟨[.func (.yield w0.heap.size) #[] #[]]⟩; invoke d.target d.args)
          (wpush w0 (.loop { state := .ready, pending := none, fn := b.fn, tmps := a.tmps, params := ps, assign := x, body := y, defers := db })) := by
        intro cs
        have hev := Frame.eval_atR b { a with defers := cmark ++ a.defers } (.inRangeFunc w0.heap.size :: k')
        simp only [Frame.atR] at hev
        simp only [stepG, stepG.exec, Frame.atR, Sem.runT_eq, he, GStep.bare_after, hev]
        have e1 : ({ tmps := a.tmps, defers := cmark ++ a.defers } : Act).eval = a.eval := funext fun z => by cases z <;> rfl
        have e2 : ∀ V, resolve a.eval { callee := .value f, args := #[.const V], argTypes := #[] } 0 = Deferred.ofValue (a.eval f) ⟨[V]⟩ := by
          intro V
          unfold resolve
          simp only [List.map_toArray, List.map_cons, List.map_nil]
          rfl
        rw [e1, e2]
      have hfl := hf0.right g1'
      obtain ⟨φ2, w2, u', q1, q2, q3, q4, q5⟩ := call_ok ok hr hu hx hc (hfl.left up3) (fun d x y k' e => by cases e) hgo s1 cs
      have g2 := (g0.trans g1').trans q1
      have hat2 : At φ2 E fi (mark ++ d) T b { a with defers := cmark ++ a.defers } := by
        have := hat.mono g2.ext
        exact ⟨this.fn, this.kind, this.round, this.tmps, this.nt, (hm.mono (hext.trans q1.ext)).append this.defers⟩
      refine Post.of_steps (b := b) g2 ((l0.trans (.new _ _)).trans q4) ?_ (hr _ _ _ _ _ _ _ h φ2 w2 b { a with defers := cmark ++ a.defers } (.endRangeFunc w0.heap.size :: k') cs hat2 (.cons _ _ _ _ (.endRange _ _ 0 (q1.ext _ _ (Phi.add_at ..))) (hk.mono g2.ext)) q2 (hfl.right q1))
      have := q5
      rw [finish_atR_inRangeFunc] at this
      exact this
    · cases h
  · cases h
theorem ahead_some : ∀ {ops l : List Oper} {c : Call}, ahead ops = some (l, c) → ∃ o, ops = l ++ [o] ∧ o.op = .defer c ∧ o.dst = none ∧ o.guard = none
  | [o], l, c, h => by
    unfold ahead at h
    split at h
    · rename_i c' h1 h2 h3
      cases h
      exact ⟨o, rfl, h1, h2, h3⟩
    · cases h
  | o :: p :: r, l, c, h => by
    unfold ahead at h
    split at h
    · rename_i l' c' h1
      cases h
      obtain ⟨o', h2, h3⟩ := ahead_some h1
      exact ⟨o', by rw [h2]; rfl, h3⟩
    · cases h
/-- a region that ends in a deferred call -/
theorem step_def (ok : EnvOk E) (hr : RunOk E run) (hu : RunUp run) {id : Nat} {ops : Array Oper} {k : List AItem} {k' : List Item} (h : sDef ops.toList E k run fi d T H = some (v, H')) (hat : At φ E fi d T b a) (hk : KRel φ k k') (sim : SimL φ E H w) (hf : Free φ H H') :
    Post φ E H w b a (.code (.region id ops false) :: k') v H' cs := by
  unfold sDef at h
  have hro := hat.round
  split at h
  · rename_i l c hl hah
    rw [hl] at hro
    have hb : b.roundOf = none := by
      cases hb : b.roundOf with
      | none => rfl
      | some bl => rw [hb] at hro; exact hro.elim
    unfold sDef2 at h
    split at h
    · rename_i L H1 h1
      split at h
      · rename_i x hx
        obtain ⟨o, e, ho, hdst, hgd⟩ := ahead_some hah
        have hsz : ops.size = l.length + 1 := by rw [← Array.length_toList, e]; simp
        have hpre : ∀ (j : Nat) (o' : Oper), l[j]? = some o' → ops[0 + j]? = some o' := fun j o' hj => by
          rw [← Array.getElem?_toList, e, Nat.zero_add, List.getElem?_append_left (List.getElem?_eq_some_iff.1 hj).1]
          exact hj
        have hlast : ops[l.length]? = some o := by
          rw [← Array.getElem?_toList, e]
          simp
        obtain ⟨φ1, w1, a1, p1, p2, p3, p4, p5, p6, p7⟩ := region_pre (b := b) (k := k') ok hr hu cs [l.length] l 0 hpre h1 (FR.nil hat.tmps) hat.nt sim (hf.left (hu _ _ _ _ _ _ _ h).low.size)
        unfold defOf at hx
        split at hx
        · rename_i f hcal
          have hfv : VRel φ1 (ev f ⟨L, T⟩) (a1.eval f) := ev_rel p3 f
          have hargs : LRel φ1 (evs ⟨L, T⟩ c.args.toList) (c.args.toList.map a1.eval) := evs_rel p3 c.args.toList
          generalize ev f ⟨L, T⟩ = fv at hx hfv
          unfold deferOf at hx
          split at hx
          · rename_i g first cap
            cases hx
            obtain ⟨as, bs, he, h2, h3⟩ : ∃ as bs, a1.eval f = .func (.func g) ⟨as⟩ ⟨bs⟩ ∧ LRel φ1 first.toList as ∧ LRel φ1 cap.toList bs := by
              generalize a1.eval f = fv' at hfv
              cases hfv with
              | gr _ hg => cases hg
              | func _ as bs as' bs' h1 h2 => exact ⟨as', bs', rfl, h1, h2⟩
            have hdl : LRel φ1 (first.toList ++ (evs ⟨L, T⟩ c.args.toList ++ cap.toList)) ((as ++ c.args.toList.map a1.eval) ++ bs) := by
              rw [List.append_assoc]
              exact h2.append (hargs.append h3)
            have hsem : (o.semAt b.roundOf a1.eval).run E.prog w1 = .ok (.defer { target := .fn (.func g) ⟨bs⟩, args := ⟨as ++ c.args.toList.map a1.eval⟩ }) w1 := by
              rw [hb, Oper.semAt_none]
              unfold execOp
              rw [ho]
              simp only [resolve, hcal, he, Deferred.ofValue, Sem.run_bind, Sem.run_pure, Result.andThen_ok]
              congr 3
              apply Array.ext'
              simp
            have hwant : Region.wanted o (yielded ops a1.tmps) = true := by
              unfold Region.wanted
              rw [hgd]
            have s2 : ∀ cs, step E.prog (lone (b.atR a1 (.inRegion ops [l.length] :: k')) cs w1) =
                .next (lone (b.atR { a1 with defers := { target := .fn (.func g) ⟨bs⟩, args := ⟨as ++ c.args.toList.map a1.eval⟩ } :: a1.defers } (.inRegion ops [] :: k')) cs w1) := fun cs => step_lone_go (by
              rw [stepGR_op hlast hwant]
              simp [stepG.apply, Sem.runT_eq, hsem, Frame.atR, Frame.finish, hlast, hdst])
            refine Post.of_steps (b := b) p1 p6 ?_ (hr _ _ _ _ _ _ _ h φ1 w1 b { a1 with defers := { target := .fn (.func g) ⟨bs⟩, args := ⟨as ++ c.args.toList.map a1.eval⟩ } :: a1.defers } k' cs
              ⟨hat.fn, hat.kind, hat.round.mono p1.ext, flush_rel hat.tmps.sound p3, p4, .call _ _ _ _ _ _ hdl (by rw [p5]; exact hat.defers.mono p1.ext)⟩ (hk.mono p1.ext) p2 (hf.right p1))
            have er : List.range ops.size = List.range' 0 l.length ++ [l.length] := by
              rw [hsz, List.range_succ, List.range_eq_range']
            have hst := p7
            rw [← er] at hst
            exact Steps.head stepR_region (hst.trans (Steps.head (s2 cs) (.one stepR_region_end)))
          · cases hx
        · cases hx
      · cases h
    · cases h
  · cases h
theorem step_code (ok : EnvOk E) (hr : RunOk E run) (hu : RunUp run) (hdraw : DrawOk E run) {c : Code} {k : List AItem} {k' : List Item} (h : stepCode c k E run fi d T H = some (v, H')) (hat : At φ E fi d T b a) (hk : KRel φ k k') (sim : SimL φ E H w) (hf : Free φ H H') :
    Post φ E H w b a (.code c :: k') v H' cs := by
  have gone : ∀ (k1 : List AItem) (k1' : List Item), run fi d k1 T H = some (v, H') → KRel φ k1 k1' → step E.prog (lone (b.atR a (.code c :: k')) cs w) = .next (lone (b.atR a k1') cs w) → Post φ E H w b a (.code c :: k') v H' cs :=
    fun k1 k1' h hk hs => (hr _ _ _ _ _ _ _ h φ w b a k1' cs hat hk sim hf).one hs
  cases c with
  | skip => exact gone k k' h hk (stepR_skip)
  | label l => exact gone k k' h hk (stepR_label)
  | seq x y => exact gone _ _ h (.cons _ _ _ _ (.code _) (.cons _ _ _ _ (.code _) hk)) (stepR_seq)
  | block id x => exact gone _ _ h (.cons _ _ _ _ (.code _) (.cons _ _ _ _ (.inBlock _) hk)) (stepR_block)
  | loop x => exact gone _ _ h (.cons _ _ _ _ (.code _) (.cons _ _ _ _ (.inLoop _) hk)) (stepR_loop)
  | scope x => exact gone _ _ h (.cons _ _ _ _ (.code _) (.cons _ _ _ _ (.inScope _) hk)) (step_lone_go (by simp [stepG, stepG.exec, Frame.atR]))
  | refuse s => cases h
  | ret =>
    refine leave_ok (jump := some .ret) ok hr hu h hat sim hf (fun hb _ => ⟨_, stepR_ret hb⟩) (fun l v w' hb he c cs' hc => by subst hc; exact stepR_round_ret hb (hat.normal hb) he)
  | cond x y z =>
    have h : sCond x y z k E run fi d T H = some (v, H') := h
    unfold sCond at h
    rw [orec] at h
    split at h
    · rename_i x' hx
      have hv : VRel φ (ev x ⟨.nil, T⟩) (a.eval x) := ev_rel (FR.nil hat.tmps) x
      generalize ev x ⟨.nil, T⟩ = ax at hx hv
      cases ax with
      | bool t =>
        have hb := hv.bool_inv
        cases t with
        | true => cases hx; exact gone _ _ h (.cons _ _ _ _ (.code _) hk) (stepR_cond (t := true) hb)
        | false => cases hx; exact gone _ _ h (.cons _ _ _ _ (.code _) hk) (stepR_cond (t := false) hb)
      | _ => cases hx
    · cases h
  | exit id =>
    have h : sExit id k E run fi d T H = some (v, H') := h
    unfold sExit at h
    rw [orec] at h
    obtain ⟨e1, e2⟩ := findExit (id := id) hk
    split at h
    · rename_i j hj
      obtain ⟨j', h1, h2⟩ := e2 j hj
      exact gone _ _ h h2 (stepR_exit h1)
    · rename_i hj
      have hj := e1 hj
      refine leave_ok (jump := some (.exit id)) ok hr hu h hat sim hf (fun hb hjj => by cases hjj) (fun l v w' hb he c cs' hc => by subst hc; exact stepR_round_exit hb (hat.normal hb) hj he)
  | goto id =>
    have h : sGoto id k E run fi d T H = some (v, H') := h
    unfold sGoto at h
    rw [orec] at h
    obtain ⟨e1, e2⟩ := findGoto (l := id) hk
    split at h
    · rename_i j hj
      obtain ⟨j', h1, h2⟩ := e2 j hj
      exact gone _ _ h h2 (stepR_goto h1)
    · rename_i hj
      have hj := e1 hj
      refine leave_ok (jump := some (.goto id)) ok hr hu h hat sim hf (fun hb hjj => by cases hjj) (fun l v w' hb he c cs' hc => by subst hc; exact stepR_round_goto hb (hat.normal hb) hj he)
  | region id ops draw =>
    have h : sRegion id ops draw k E run fi d T H = some (v, H') := h
    unfold sRegion at h
    cases draw with
    | false =>
      have h : sReg2 ops.toList H E k run fi d T (aOps ops.toList fi.nt E run T ops.toList .nil H) = some (v, H') := h
      unfold sReg2 at h
      rw [orec] at h
      split at h
      · rename_i q h1
        obtain ⟨L, H1⟩ := q
        have h : run fi d k (flush (keepOf E fi.fn) T L) H1 = some (v, H') := h
        obtain ⟨φ1, w1, a1, p1, p2, p3, p4, p5, p6, p7⟩ := region_ops (b := b) (k := k') ok hr hu cs ops.toList 0 rfl h1 (FR.nil hat.tmps) hat.nt sim (hf.left (hu _ _ _ _ _ _ _ h).low.size)
        refine Post.of_steps (b := b) p1 p6 ?_ (hr _ _ _ _ _ _ _ h φ1 w1 b a1 k' cs (hat.next p1.ext p3 p4 p5) (hk.mono p1.ext) p2 (hf.right p1))
        have e : List.range' 0 ops.toList.length = List.range ops.size := by rw [List.range_eq_range']; simp
        have hst := p7
        rw [e] at hst
        exact Steps.head stepR_region (hst.trans (.one stepR_region_end))
      · exact step_def ok hr hu h hat hk sim hf
    | true =>
      have h : sReg3 E ops.toList k run fi d T (aOpsD ops.toList fi.nt E run T ops.toList .nil H) = some (v, H') := h
      unfold sReg3 at h
      split at h
      · rename_i L H1 es h1
        split at h
        · rename_i hro
          split at h
          · rename_i hev
            have simd : SimL φ E H w.drew := sim.congr rfl rfl rfl
            obtain ⟨φ1, w1, a1, p1, p2, p3, p4, p5, p6, p7⟩ := hdraw ops fi.nt T L H H1 es h1 hro hev φ w.drew b a k' (w.tape w.drawn (.order b.fn id)) cs (FR.nil hat.tmps) hat.nt simd (hf.left (hu _ _ _ _ _ _ _ h).low.size)
            refine Post.of_steps (b := b) ((Goes.drew φ H.size w).trans p1) p6 ?_ (hr _ _ _ _ _ _ _ h φ1 w1 b a1 k' cs (hat.next p1.ext p3 p4 p5) (hk.mono p1.ext) p2 (hf.right p1))
            have s1 := stepR_region_draw (P := E.prog) (b := b) (a := a) (k := k') (cs := cs) (w := w) (ops := ops) (id := id)
            have e : Region.schedule (E.prog.follows .mixedOrders) ops (w.tape w.drawn (.order b.fn id)) = Region.linearise .any ops (w.tape w.drawn (.order b.fn id)) := by
              unfold Region.schedule
              rw [ok.mixed]; rfl
            rw [e] at s1
            exact Steps.head s1 (p7.trans (.one stepR_region_end))
          · cases h
        · cases h
      · cases h
  | rangeFunc f ps x y =>
    have h : sRange f ps x y k E run fi d T H = some (v, H') := h
    unfold sRange at h
    have hro := hat.round
    split at h
    · rename_i hl
      rw [hl] at hro
      have hb : b.roundOf = none := by
        cases hb : b.roundOf with
        | none => rfl
        | some bl => rw [hb] at hro; exact hro.elim
      have up : H.size < H'.size := by
        have := up_code (T := T) (d := d) (fi := fi) (k := k) (c := .rangeFunc f ps x y) (H := H) (v := v) (H' := H') hu (by
          show sRange f ps x y k E run fi d T H = some (v, H')
          unfold sRange; rw [hl]; exact h)
        unfold sRange1 at h
        split at h
        · rename_i out hi
          unfold sRange2 at h
          split at h
          · rename_i u o2 s2 m2 hc
            have up1 := (up_invoke hi).low.size
            have up2 := (up_call hu hc).low.size
            have up3 := (hu _ _ _ _ _ _ _ h).low.size
            rw [new_size, new_size] at up1
            have e1 : H.size + 1 + 1 ≤ H'.size := Nat.le_trans up1 (Nat.le_trans up2 up3)
            omega
          · cases h
        · cases h
      have hfree := (hf H.size (Nat.le_refl _) up).1
      obtain ⟨s0, g0⟩ := sim.alloc hfree 0 .deferred (.deferred (some [])) rfl
      refine range_in ok hr hu h hat hk hf (by rw [new_size]; exact g0) s0 (.new _ _) (Phi.add_at ..) (.cons _ _ _ _ _ (Phi.add_at ..) .nil) ?_
      rw [hb, run_enterLoop_outer]
      have e : (wpush w (.deferred (some []))).heap.size = w.heap.size + 1 := by show (w.heap.push _).size = _; simp
      rw [e]; rfl
    · rename_i l hl
      rw [hl] at hro
      split at h
      · rename_i r hg
        cases hbr : b.roundOf with
        | none => rw [hbr] at hro; exact hro.elim
        | some bl =>
          rw [hbr] at hro
          obtain ⟨n, hA⟩ := hro
          obtain ⟨c', hb, r', rfl, hlr⟩ := sim.block l bl n _ hA hg
          obtain ⟨m, hm⟩ := hlr.defers
          refine range_in ok hr hu h hat hk hf (Goes.refl _ _ _) sim (.refl _) hm .nil ?_
          rw [hbr]
          unfold Instr.enterLoop
          simp only [Sem.run_bind, run_getLoop hb, run_newObj, Result.andThen_ok, Sem.run_pure]
          rfl
      · cases h
theorem step_todo (ok : EnvOk E) (hr : RunOk E run) (hu : RunUp run) (hdraw : DrawOk E run) {todo : List AItem} {k : List Item} (h : stepTodo todo E run fi d T H = some (v, H')) (hat : At φ E fi d T b a) (hk : KRel φ todo k) (sim : SimL φ E H w) (hf : Free φ H H') :
    Post φ E H w b a k v H' cs := by
  cases hk with
  | nil => exact leave_ok (jump := none) ok hr hu h hat sim hf (fun hb _ => ⟨_, stepR_end hb⟩) (fun l v w' hb he c cs' hc => by subst hc; exact stepR_round_end hb (hat.normal hb) he)
  | cons i j k k' hi hk =>
    cases hi with
    | code c => exact step_code ok hr hu hdraw h hat hk sim hf
    | inBlock id => exact (hr _ _ _ _ _ _ _ h φ w b a k' cs hat hk sim hf).one (stepR_inBlock)
    | inLoop x => exact (hr _ _ _ _ _ _ _ h φ w b a _ cs hat (.cons _ _ _ _ (.code _) (.cons _ _ _ _ (.inLoop _) hk)) sim hf).one (stepR_inLoop)
    | inScope x => exact (hr _ _ _ _ _ _ _ h φ w b a k' cs hat hk sim hf).one (step_lone_go (by simp [stepG, stepG.exec, Frame.atR]))
    | endRange l bl n hA =>
      have h : sEnd l k E run fi d T H = some (v, H') := h
      unfold sEnd at h
      split at h
      · rename_i r hg
        split at h
        · rename_i hnb
          obtain ⟨c', hb, r', rfl, hlr⟩ := sim.block l bl n _ hA hg
          have hne : r'.state ≠ .busy := by
            rw [hlr.state]
            intro e
            rw [e] at hnb
            cases hnb
          have he := run_endLoop (P := E.prog) hb hne
          have ht : Turned φ E H w l (H.put l (.loop { r with state := .exhausted })) (wset w bl (.loop { r' with state := .exhausted })) :=
            .inr ⟨bl, n, _, _, _, hA, hg, by simp, rfl, rfl, _, rfl, ⟨rfl, hlr.pending, hlr.fn, hlr.params, hlr.assign, hlr.body, hlr.defers, hlr.nt, hlr.tmps⟩⟩
          obtain ⟨s1, g1⟩ := ht.sim sim
          refine Post.of_steps (b := b) (a := a) g1 ht.low (.one (stepR_endRangeFunc he)) (hr _ _ _ _ _ _ _ h φ _ b a _ cs hat ?_ s1 hf)
          rw [hlr.pending]
          cases r.pending with
          | none => exact hk
          | some c => exact .cons _ _ _ _ (.code c) hk
        · cases h
      · cases h
    | beginRound =>
      have h : sBegin k E run fi d T H = some (v, H') := h
      unfold sBegin at h
      split at h
      · cases h
      · rename_i l hl
        split at h
        · rename_i r hg
          split at h
          · rename_i hst
            have hro := hat.round
            rw [hl] at hro
            cases hbr : b.roundOf with
            | none => rw [hbr] at hro; exact hro.elim
            | some bl =>
              rw [hbr] at hro
              obtain ⟨n, hA⟩ := hro
              obtain ⟨c', hb, r', rfl, hlr⟩ := sim.block l bl n _ hA hg
              have he := run_beginRound (P := E.prog) hb (by rw [hlr.state]; exact hst)
              have ht : Turned φ E H w l (H.put l (.loop { r with state := .busy })) (wset w bl (.loop { r' with state := .busy })) :=
                .inr ⟨bl, n, _, _, _, hA, hg, by simp, rfl, rfl, _, rfl, ⟨rfl, hlr.pending, hlr.fn, hlr.params, hlr.assign, hlr.body, hlr.defers, hlr.nt, hlr.tmps⟩⟩
              obtain ⟨s1, g1⟩ := ht.sim sim
              exact Post.of_steps (b := b) (a := a) g1 ht.low (.one (stepR_beginRound hbr he)) (hr _ _ _ _ _ _ _ h φ _ b a _ cs hat hk s1 hf)
          · cases h
        · cases h
end Go.Abs
