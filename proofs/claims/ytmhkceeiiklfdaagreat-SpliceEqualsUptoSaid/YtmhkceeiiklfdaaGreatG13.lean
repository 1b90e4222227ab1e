/- A part of the proof of SpliceEqualsUptoSaid (texts: SndDo SndDp SndZ). No conditions. -/
import Derived.Test.YtmhkceeiiklfdaaGreatG12
set_option linter.unusedVariables false
set_option linter.unusedSimpArgs false
set_option linter.unusedVariables false
set_option linter.unusedSimpArgs false
namespace Go.Abs
variable {E : Env} {run : Run}

theorem goer_value {P : Program} {fr0 fr : Frame} {w0 w w1 : World} {s : Sem Next} {v' : Value} (hg : Goer P fr0 w0 fr s w) (h1 : s.run P w = .ok (.value v') w1) : ∀ cs, Steps P (lone fr0 cs w0) (lone (fr.finish v') cs w1) :=
  fun cs => .one (step_lone_go (by
    rw [hg cs]
    simp [stepG.apply, Sem.runT_eq, h1]))
theorem goer_skip {P : Program} {fr0 fr : Frame} {w0 w w1 : World} {s : Sem Next} (hg : Goer P fr0 w0 fr s w) (h1 : s.run P w = .ok .skip w1) : ∀ cs, Steps P (lone fr0 cs w0) (lone (fr.finish undef) cs w1) :=
  fun cs => .one (step_lone_go (by
    rw [hg cs]
    simp [stepG.apply, Sem.runT_eq, h1]))
theorem goes_push {φ : Phi} {N N' n : Nat} {w : World} {c : Obj} (hf : φ N = none) (hN : N' = N + 1) : Goes φ N w (φ.add N w.heap.size n) N' (wpush w c) := by
  subst hN
  have hsz : (wpush w c).heap.size = w.heap.size + 1 := by show (w.heap.push c).size = _; simp
  refine ⟨Phi.add_ext hf, fun A hA => ?_, fun A b k h1 h2 e => ?_, by omega, by omega, fun b hb _ => wpush_old w c b hb, rfl, rfl, rfl, fun _ _ => rfl⟩
  · rw [Phi.add_app, if_neg (by omega)]
  · rw [Phi.add_app] at e
    rw [if_pos (by omega)] at e
    cases e
    exact .inl (Nat.le_refl _)
theorem goes_set {φ : Phi} {N N' A b n : Nat} {w : World} {c : Obj} (hA : A < N) (hφ : φ A = some (b, n)) (hN : N' = N) : Goes φ N w φ N' (wset w b c) := by
  subst hN
  have hsz : (wset w b c).heap.size = w.heap.size := by simp [wset]
  refine ⟨Ext.refl _, fun _ _ => rfl, fun B d k h1 h2 => absurd h2 (by omega), Nat.le_refl _, by omega, fun d hd' hn => ?_, rfl, rfl, rfl, fun _ _ => rfl⟩
  refine wset_ne w b d c ?_
  rintro rfl
  exact hn A n hA hφ

section
variable {ops : Array Oper} {nt : Nat} {T : Tr Value} {Ls : Nat → Loc} {Hs : Nat → AHeap} {es : List Ev} (tx : Text E run ops.toList nt T Ls Hs es)
/-- one operation of a region that draws its order -/
theorem draw_op (ok : EnvOk E) (hr : RunOk E run) (hu : RunUp run) (h0 : Wf (Hs 0)) (tx : Text E run ops.toList nt T Ls Hs es) (hev : evCheck (befores [] ops.toList) [] es = true) (htm : tmpCheck ops.toList (befores [] ops.toList) [] ops.toList = true)
    {D : Nat → Prop} (hD : Closed ops.toList D) {φ0 φ : Phi} {w0 w : World} {a : Act} (ht : TmpsOk φ ops.toList T Ls D a.tmps) (hnt : a.tmps.size = nt) (M : Mem E ops.toList Hs es φ0 w0 D φ w)
    {i : Nat} {oi : Oper} (hi : ops.toList[i]? = some oi) (hni : ¬ D i) (hw : Waits D oi) (b : Frame) (rest : List Nat) (k : List Item) (cs : List Frame) :
    ∃ φ' w' a', TmpsOk φ' ops.toList T Ls (More D i) a'.tmps ∧ a'.tmps.size = nt ∧ a'.defers = a.defers ∧ Mem E ops.toList Hs es φ0 w0 (More D i) φ' w' ∧
      Steps E.prog (lone (b.atR a (.inRegion ops (i :: rest) :: k)) cs w) (lone (b.atR a' (.inRegion ops rest :: k)) cs w') := by
  have hia : ops[i]? = some oi := by rw [← Array.getElem?_toList]; exact hi
  have hli : i < ops.toList.length := (List.getElem?_eq_some_iff.1 hi).1
  have hF : FR φ (only (namesOf ops.toList oi) ⟨Ls i, T⟩) a.tmps := only_FR fun t htn => ht t i (by omega) (cut_names htm hD hi hni hw (.inl htn))
  have wi := tx.wf hu h0 (i := i) (by omega)
  have hup := tx.upp hu hi
  obtain ⟨H1, h1, h2, h3⟩ := tx.step i oi hi
  have hs1 : (Hs (i + 1)).size = H1.size := by rw [h2]; rfl
  obtain ⟨hd, ⟨hwt, hL, hH⟩ | ⟨hwt, out, v, hx, hc, hL⟩⟩ := aOp_some h1
  · -- not wanted
    have hw1 := hwt
    rw [only_wanted] at hwt
    have hwt := wanted_rel hwt hF
    have hev0 : evAt ops.toList oi E ⟨Ls i, T⟩ (Hs i).size H1.low = .float := by unfold evAt; rw [hw1]
    rw [hev0] at h3
    refine ⟨φ, w, a.put oi.dst undef, tmps_step tx htm hD hi hni hw (Ext.refl _) ht hL (hnt ▸ hd) .undef, by rw [put_size', hnt], put_defers _ _ _, mem_quiet h3 (.inl rfl) M, .one ?_⟩
    have := stepR_op_skip (P := E.prog) (b := b) (a := a) (k := k) (cs := cs) (w := w) (ops := ops) (i := i) (rest := rest) (by rw [hia]; simpa using hwt)
    rw [hia] at this
    exact this
  · have hev0 : evAt ops.toList oi E ⟨Ls i, T⟩ (Hs i).size H1.low = evOf E ⟨Ls i, T⟩ (Hs i).size H1.low (kindOf oi.op) := by
      unfold evAt; rw [hwt]
    rw [hev0, evOf_congr (only_operands (ops := ops.toList))] at h3
    rw [exec_congr (only_operands (ops := ops.toList))] at hx
    rw [only_wanted] at hwt
    have hwt := wanted_rel hwt hF
    have hnd : ∀ c, oi.op ≠ .defer c := fun c hc' => by rw [hc'] at hx; cases hx
    have hg : Goer E.prog (b.atR a (.inRegion ops (i :: rest) :: k)) w (b.atR a (.inRegion ops (i :: rest) :: k)) (execOp a.eval oi) w := by
      intro cs
      rw [stepGR_op hia hwt, Oper.semAt_eq _ _ _ hnd]
    have fresh' : ∀ A, (Hs i).size ≤ A → A < (Hs (i + 1)).size → φ A = none ∧ φ.atm A = none := by
      intro A hA1 hA2
      by_cases hφ : φ A ≠ none ∨ φ.atm A ≠ none
      case neg =>
        cases h1 : φ A with
        | some x => exact absurd (.inl (by rw [h1]; simp)) hφ
        | none =>
          cases h2 : φ.atm A with
          | some x => exact absurd (.inr (by rw [h2]; simp)) hφ
          | none => exact ⟨rfl, rfl⟩
      case pos =>
        exfalso
        have m0 := tx.mono hu (Nat.zero_le i) (by omega)
        have m1 := tx.mono hu (show i + 1 ≤ ops.toList.length by omega) (Nat.le_refl _)
        obtain ⟨k', h4, h5, h6, h7⟩ := M.creator A (by omega) (by omega) hφ
        have : k' = i := by
          rcases Nat.lt_trichotomy i k' with h | h | h
          · have := tx.mono hu (show i + 1 ≤ k' by omega) (by omega); omega
          · exact h.symm
          · have := tx.mono hu (show k' + 1 ≤ i by omega) (by omega); omega
        subst this
        exact hni h4
    have fresh : ∀ A, (Hs i).size ≤ A → A < (Hs (i + 1)).size → φ A = none := fun A h1 h2 => (fresh' A h1 h2).1
    have main : ∃ φ' w' v', Ext φ φ' ∧ Mem E ops.toList Hs es φ0 w0 (More D i) φ' w' ∧ VRel φ' v v' ∧
        Steps E.prog (lone (b.atR a (.inRegion ops (i :: rest) :: k)) cs w) (lone ((b.atR a (.inRegion ops (i :: rest) :: k)).finish v') cs w') := by
      have inH : ∀ A o, (Hs i).get A = some o → A < (Hs i).size := fun A o g => by
        rcases Nat.lt_or_ge A (Hs i).size with h | h
        · exact h
        · rw [wi.tot A h] at g; cases g
      have block : ∀ A ei, es[i]? = some ei → Sees ei A → Block φ E (resetLow (Hs i)) w A := by
        intro A ei hei hs b' n' o' hφ hgo
        rw [reset_get] at hgo
        exact M.has A b' n' i o' hφ (by omega) (cut_block tx hu hev hD M hi hei hni hw hs (inH A o' hgo) (by rw [hφ]; simp)) hgo
      generalize hke : evOf E (only (namesOf ops.toList oi) ⟨Ls i, T⟩) (Hs i).size H1.low (kindOf oi.op) = ei at h3
      have hall : isM ei → ∃ φ' w' v', Ext φ φ' ∧ Mem E ops.toList Hs es φ0 w0 (More D i) φ' w' ∧ VRel φ' v v' ∧
          Steps E.prog (lone (b.atR a (.inRegion ops (i :: rest) :: k)) cs w) (lone ((b.atR a (.inRegion ops (i :: rest) :: k)).finish v') cs w') := by
        intro hm
        have sim := sim_at tx hu h0 hev hD M hi h3 hni hw hm
        have hf : Free φ (resetLow (Hs i)) H1 := fun A hA1 hA2 => fresh' A hA1 (by rw [hs1]; exact hA2)
        have hXok := x_exec ok hF sim hx (fun hlt => (hf (resetLow (Hs i)).size (Nat.le_refl _) (Nat.lt_of_lt_of_le hlt (up_call hu hc).low.size)).1)
        obtain ⟨φ', w', v', p1, p2, p3, p4, p5⟩ := call_ok ok hr hu hXok hc hf (fun d x y k' e => by cases e) hg sim cs
        refine ⟨φ', w', v', p1.ext, mem_all tx hu h0 hev hD M hi h3 hni hw hm (by rw [hs1]; exact p1) (p2.congr (by rw [h2]; rfl) (by rw [h2]; rfl) rfl), p3, p5⟩
      cases ei with
      | float =>
        obtain ⟨u, v', rfl, q1, q2⟩ := k_float ok hF hx hke
        cases hc
        exact ⟨φ, w, v', Ext.refl _, mem_quiet h3 (.inl rfl) M, q2, goer_value hg (q1 w) cs⟩
      | load A =>
        obtain ⟨t, x, A', off, q1, q2, q3⟩ := shape_load ⟨A, hke⟩
        rw [q3] at hke
        cases hke
        have hx' : oval (resetLow (Hs i)) (aLoad E (resetLow (Hs i)) t (ev x (only (namesOf ops.toList oi) ⟨Ls i, T⟩))) = some out := by
          rw [q1] at hx; exact hx
        obtain ⟨u, q4, rfl⟩ := oval_some hx'
        cases hc
        obtain ⟨v', q5, q6⟩ := run_aLoad (w := w) ok q4 (ev_rel hF x) (fun B off' hB => by
          rw [q2] at hB
          cases hB
          exact block _ _ h3 (.inl rfl))
        refine ⟨φ, w, v', Ext.refl _, mem_quiet h3 (.inr ⟨_, rfl⟩) M, q6, goer_value hg ?_ cs⟩
        unfold execOp
        rw [q1]
        simp only [Sem.run_bind, q5, Result.andThen_ok, Sem.run_pure]
      | new =>
        obtain ⟨ao, c, n, u, rfl, q1, q2⟩ := k_new ok hF hx hke
        cases hc
        have hs2 : (Hs (i + 1)).size = (Hs i).size + 1 := by rw [hs1, new_size]; rfl
        have hfr := fresh (Hs i).size (Nat.le_refl _) (by omega)
        obtain ⟨v', q3, q4⟩ := q2 w
        refine ⟨_, _, v', Phi.add_ext hfr, mem_new tx hu h0 hev hD M hi h3 hni hw (n := n) (ao := ao) (c := c) hfr hs2 (fun o ho => ?_) (q1 _ hfr) (goes_push hfr hs2), q4 _ (Phi.add_at ..), goer_value hg q3 cs⟩
        rw [h2, lowered_get] at ho
        exact (get_new (resetLow (Hs i)) ao o (wi.tot _ (Nat.le_refl _)) ho).1
      | st B =>
        have hlow : H1.low = (outH out).low := by
          obtain ⟨t, p, x, hop⟩ := st_store hke
          have hx' : ounit (aStore E (resetLow (Hs i)) t (ev x (only (namesOf ops.toList oi) ⟨Ls i, T⟩)) (ev p (only (namesOf ops.toList oi) ⟨Ls i, T⟩))) = some out := by
            rw [hop] at hx; exact hx
          obtain ⟨H2, _, rfl⟩ := ounit_some hx'
          cases hc
          rfl
        rw [hlow] at hke
        obtain ⟨t, p, x, H2, off, ob, ob', q1, rfl, q3, q4, q5, q6, q7⟩ := shape_st hx (reset_low _) wi.reset hke
        cases hc
        have hB := inH B ob q5
        obtain ⟨w', A', off', q8, q9, q10⟩ := run_aStore (w := w) ok q3 (ev_rel hF x) (ev_rel hF p) (fun C off' hC => by
          rw [q4] at hC; cases hC
          exact block B _ h3 (.inr (.inl rfl)))
        rw [q4] at q8
        cases q8
        rcases q10 with ⟨q11, _⟩ | ⟨bb, n, o, o', c, r1, r2, r3, r4, rfl, r6⟩
        · exfalso
          have e1 := congrArg AHeap.low (q7.symm.trans q11)
          rw [put_low, reset_low, lor_zero_shl] at e1
          have := Nat.two_pow_pos B
          omega
        · have hs2 : (Hs (i + 1)).size = (Hs i).size := by rw [hs1, q7]; rfl
          have hgo : (Hs (i + 1)).get B = some o' := by
            rw [h2, lowered_get, r4]
            exact get_put _ _ _ (wi.lowly B ob q5)
          refine ⟨φ, _, undef, Ext.refl _, mem_st tx hu h0 hev hD M hi h3 hni hw r1 r2 r3 hgo r6 (goes_set hB r1 hs2), .top _, goer_skip hg ?_ cs⟩
          unfold execOp
          rw [q1]
          simp only [Sem.run_bind, q9, Result.andThen_ok, Sem.run_pure]
      | pure => exact hall (.inl rfl)
      | wr m => exact hall (.inr ⟨m, rfl⟩)
    obtain ⟨φ', w', v', p1, p2, p3, p4⟩ := main
    refine ⟨φ', w', a.put oi.dst v', tmps_step tx htm hD hi hni hw p1 ht hL (hnt ▸ hd) p3, by rw [put_size', hnt], put_defers _ _ _, p2, ?_⟩
    have := p4
    rw [Frame.finish_atR, hia] at this
    exact this
end
end Go.Abs
set_option linter.unusedVariables false
set_option linter.unusedSimpArgs false
namespace Go.Abs
variable {E : Env} {run : Run}

theorem count_set_false : ∀ (l : List Bool) (i : Nat), l[i]? = some false → (l.set i true).count false + 1 = l.count false
  | [], i, h => by simp at h
  | x :: r, 0, h => by
    simp at h
    subst h
    simp
  | x :: r, i + 1, h => by
    have := count_set_false r i (by simpa using h)
    rw [List.set_cons_succ, List.count_cons, List.count_cons]
    omega
def Dl (listed : Array Bool) : Nat → Prop := fun k => listed.getD k false = true
theorem Dl_more {listed : Array Bool} {i : Nat} (hi : i < listed.size) : More (Dl listed) i = Dl (listed.setIfInBounds i true) := by
  funext k
  apply propext
  unfold More Dl
  by_cases hk : i = k
  · subst hk
    simp [hi]
  · rw [getD_set_ne false hk]
    exact ⟨fun h => h.resolve_right (Ne.symm hk), .inl⟩

section
variable {ops : Array Oper} {nt : Nat} {T : Tr Value} {Ls : Nat → Loc} {Hs : Nat → AHeap} {es : List Ev}
theorem draw_go (ok : EnvOk E) (hr : RunOk E run) (hu : RunUp run) (h0 : Wf (Hs 0)) (tx : Text E run ops.toList nt T Ls Hs es) (hev : evCheck (befores [] ops.toList) [] es = true) (htm : tmpCheck ops.toList (befores [] ops.toList) [] ops.toList = true)
    (hback : backCheck 0 ops.toList = true) {φ0 : Phi} {w0 : World} (b : Frame) (k : List Item) (cs : List Frame) : ∀ (fuel t : Nat) (listed : Array Bool) (φ : Phi) (w : World) (a : Act), listed.size = ops.size → listed.toList.count false ≤ fuel →
    Closed ops.toList (Dl listed) → TmpsOk φ ops.toList T Ls (Dl listed) a.tmps → a.tmps.size = nt → Mem E ops.toList Hs es φ0 w0 (Dl listed) φ w →
    ∃ φ' w' a' D', (∀ k, k < ops.size → D' k) ∧ TmpsOk φ' ops.toList T Ls D' a'.tmps ∧ a'.tmps.size = nt ∧ a'.defers = a.defers ∧ Mem E ops.toList Hs es φ0 w0 D' φ' w' ∧
      Steps E.prog (lone (b.atR a (.inRegion ops (Region.linearise.go .any ops fuel t listed []) :: k)) cs w) (lone (b.atR a' (.inRegion ops [] :: k)) cs w') := by
  intro fuel
  induction fuel with
  | zero =>
    intro t listed φ w a hsz hcount hD ht hnt M
    refine ⟨φ, w, a, Dl listed, fun k hk => ?_, ht, hnt, rfl, M, ?_⟩
    · have hn : ¬ false ∈ listed.toList := List.count_eq_zero.1 (by omega)
      have hlt : k < listed.size := by omega
      have : listed[k] ∈ listed.toList := by simp
      unfold Dl
      rw [Array.getD_eq_getD_getElem?, Array.getElem?_eq_getElem hlt]
      cases hb : listed[k] with
      | true => rfl
      | false => rw [hb] at this; exact absurd this hn
    · simp only [Region.linearise.go, List.reverse_nil]
      exact Steps.refl _ _
  | succ fuel ih =>
    intro t listed φ w a hsz hcount hD ht hnt M
    simp only [Region.linearise.go]
    change ∃ φ' w' a' D', (∀ k, k < ops.size → D' k) ∧ TmpsOk φ' ops.toList T Ls D' a'.tmps ∧ a'.tmps.size = nt ∧ a'.defers = a.defers ∧ Mem E ops.toList Hs es φ0 w0 D' φ' w' ∧
      Steps E.prog (lone (b.atR a (.inRegion ops (match (Region.ready .any ops listed)[t % (Region.ready .any ops listed).length]? with
        | some i => Region.linearise.go .any ops fuel (t / (Region.ready .any ops listed).length) (listed.setIfInBounds i true) [i]
        | none => [].reverse) :: k)) cs w) (lone (b.atR a' (.inRegion ops [] :: k)) cs w')
    cases hri : (Region.ready .any ops listed)[t % (Region.ready .any ops listed).length]? with
    | none =>
      have hnil : Region.ready .any ops listed = [] := by
        cases hr' : Region.ready .any ops listed with
        | nil => rfl
        | cons x xs =>
          rw [hr'] at hri
          have hlt : t % (x :: xs).length < (x :: xs).length := Nat.mod_lt _ (by simp)
          simp at hri
          simp at hlt
          omega
      refine ⟨φ, w, a, Dl listed, fun k hk => ?_, ht, hnt, rfl, M, by simp only [List.reverse_nil]; exact Steps.refl _ _⟩
      have all : ∀ n k, k < n → k < ops.size → Dl listed k := by
        intro n
        induction n with
        | zero => intro k hk; omega
        | succ n ihn =>
          intro k hkn hks
          by_cases hlt : k < n
          · exact ihn k hlt hks
          · have hkl : k < listed.size := by omega
            unfold Dl
            cases hgl : listed.getD k false with
            | true => rfl
            | false =>
              exfalso
              have hmem : k ∈ Region.ready .any ops listed := by
                rw [mem_ready]
                refine ⟨?_, ops[k], Array.getElem?_eq_getElem hks, fun e he hb => ?_⟩
                · rw [Array.getD_eq_getD_getElem?] at hgl ⊢
                  rw [Array.getElem?_eq_getElem hkl] at hgl ⊢
                  exact hgl
                · rw [binds_eq] at hb
                  have hlt2 := back_all _ 0 hback k ops[k] (by rw [Array.getElem?_toList]; exact Array.getElem?_eq_getElem hks) e (by simpa using he) hb
                  exact ihn e.on (by omega) (by omega)
              rw [hnil] at hmem
              cases hmem
      exact all (k + 1) k (by omega) hk
    | some i =>
      have hmem := List.mem_of_getElem? hri
      rw [mem_ready] at hmem
      obtain ⟨hni, oi, hoi, hwaits⟩ := hmem
      have his : i < ops.size := (Array.getElem?_eq_some_iff.1 hoi).1
      have hil : i < listed.size := by omega
      have hifalse : listed[i]? = some false := by
        rw [Array.getD_eq_getD_getElem?, Array.getElem?_eq_getElem hil] at hni
        rw [Array.getElem?_eq_getElem hil]
        exact congrArg some hni
      have hnD : ¬ Dl listed i := by
        unfold Dl
        rw [Array.getD_eq_getD_getElem?, hifalse]
        simp
      have hW : Waits (Dl listed) oi := fun e he hb => hwaits e (by simpa using he) (by rw [binds_eq]; exact hb)
      have hoi' : ops.toList[i]? = some oi := by rw [Array.getElem?_toList]; exact hoi
      simp only []
      rw [linearise_go_acc, List.reverse_singleton, List.singleton_append]
      obtain ⟨φ1, w1, a1, p1, p2, p3, p4, p5⟩ := draw_op ok hr hu h0 tx hev htm hD ht hnt M hoi' hnD hW b (Region.linearise.go .any ops fuel (t / (Region.ready .any ops listed).length) (listed.setIfInBounds i true) []) k cs
      have hDc : Closed ops.toList (More (Dl listed) i) := by
        intro j oj hj hoj e he hb
        rcases hj with hj | rfl
        · exact .inl (hD j oj hj hoj e he hb)
        · rw [hoi'] at hoj
          cases hoj
          exact .inl (hW e he hb)
      rw [Dl_more hil] at p1 p4 hDc
      have hc1 := count_set_false listed.toList i (by rw [Array.getElem?_toList]; exact hifalse)
      obtain ⟨φ2, w2, a2, D2, q0, q1, q2, q3, q4, q5⟩ := ih (t / (Region.ready .any ops listed).length) (listed.setIfInBounds i true) φ1 w1 a1 (by simpa using hsz) (by rw [Array.toList_setIfInBounds]; omega) hDc p1 p2 p4
      exact ⟨φ2, w2, a2, D2, q0, q1, q2, q3.trans p3, q4, p5.trans q5⟩
end

theorem draw_ok (ok : EnvOk E) (hr : RunOk E run) (hu : RunUp run) : DrawOk E run := by
  intro ops nt T L H H' es h hreg hev φ w b a k t cs hF hnt sim hf
  obtain ⟨Ls, Hs, hL0, rfl, rfl, rfl, hlen, hstep⟩ := text_of _ h
  have tx : Text E run ops.toList nt T Ls Hs es := ⟨hlen, hstep⟩
  have h0 : Wf (Hs 0) := sim.wf
  have hback : backCheck 0 ops.toList = true := by
    unfold regOk at hreg
    split at hreg
    · assumption
    · cases hreg
  have htm : tmpCheck ops.toList (befores [] ops.toList) [] ops.toList = true := by
    unfold regOk at hreg
    split at hreg
    · exact hreg
    · cases hreg
  have hmono := tx.mono hu (Nat.zero_le ops.toList.length) (Nat.le_refl _)
  have hrep : ∀ k, ¬ Dl (Array.replicate ops.size false) k := by
    intro k
    unfold Dl
    rw [Array.getD_eq_getD_getElem?, Array.getElem?_replicate]
    split <;> simp
  have still0 : ∀ A j, j ≤ ops.toList.length → CutA Hs es (Dl (Array.replicate ops.size false)) A j → (Hs j).get A = (Hs 0).get A := by
    intro A j hj hc
    have := tx.stillTo hu h0 (A := A) (i := 0) j (by omega) (fun k' e h1 h2 he ht => hrep k' ((hc k' e he ht).2 (by omega)))
    rwa [Nat.zero_add] at this
  have M0 : Mem E ops.toList Hs es φ w (Dl (Array.replicate ops.size false)) φ w := by
    refine ⟨fun A h1 h2 h3 => h3.elim (fun h => absurd (hf A h1 h2).1 h) (fun h => absurd (hf A h1 h2).2 h), ⟨Ext.refl _, fun _ _ => rfl, fun A b' n h1 h2 h3 => (by rw [(hf A h1 h2).1] at h3; cases h3), hmono, Nat.le_refl _, fun _ _ _ => rfl, rfl, rfl, rfl, fun _ _ => rfl⟩, sim.dom, fun A b' n j o h1 h2 h3 h4 => ?_, fun A B b' n m hne h1 h2 => ?_, fun k' A hk => absurd hk (hrep k'), sim.post⟩
    · rw [still0 A j h2 h3] at h4
      exact sim.has A b' n o h1 h4
    · have nf : ∀ A x, φ A = some x → A < (Hs 0).size ∨ (Hs ops.toList.length).size ≤ A := by
        intro A x hx
        rcases Nat.lt_or_ge A (Hs 0).size with h | h
        · exact .inl h
        · rcases Nat.lt_or_ge A (Hs ops.toList.length).size with h' | h'
          · rw [(hf A h h').1] at hx; cases hx
          · exact .inr h'
      refine ⟨?_, 0, nf A _ h1, nf B _ h2, .inl rfl⟩
      rcases sim.inj A B b' n m hne h1 h2 with hd | hd
      · exact .inl fun j hj hc => by rw [still0 A j hj hc]; exact hd
      · exact .inr fun j hj hc => by rw [still0 B j hj hc]; exact hd
  have T0 : TmpsOk φ ops.toList T Ls (Dl (Array.replicate ops.size false)) a.tmps := by
    intro t' j hj hc
    have e := tx.keptTo (t := t') (i := 0) j (by omega) (fun k' o h1 h2 hk hd => hrep k' ((hc k' o hk hd).2 (by omega)))
    rw [Nat.zero_add] at e
    rw [e, hL0]
    exact hF t'
  obtain ⟨φ', w', a', D', q0, q1, q2, q3, q4, q5⟩ := draw_go ok hr hu h0 tx hev htm hback b k cs ops.size t (Array.replicate ops.size false) φ w a (by simp) (by simp) (fun i o hi => absurd hi (hrep i)) T0 hnt M0
  have cutAll : ∀ A, CutA Hs es D' A ops.toList.length := by
    intro A k' e he ht
    have hlk : k' < ops.toList.length := by rw [← tx.len]; exact (List.getElem?_eq_some_iff.1 he).1
    exact ⟨fun _ => hlk, fun _ => q0 k' (by simpa using hlk)⟩
  have wfn := tx.wf hu h0 (Nat.le_refl _)
  refine ⟨φ', w', a', q4.goes, ⟨⟨q4.dom, fun A b' n o h1 h2 => q4.has A b' n _ o h1 (Nat.le_refl _) (cutAll A) h2, wfn.tot, fun A B b' n m hne h1 h2 => ?_, q4.post⟩, wfn.lowly⟩, fun t' => ?_, q2, q3, ?_, q5⟩
  · rcases (q4.share A B b' n m hne h1 h2).1 with hd | hd
    · exact .inl (hd _ (Nat.le_refl _) (cutAll A))
    · exact .inr (hd _ (Nat.le_refl _) (cutAll B))
  · refine q1 t' _ (Nat.le_refl _) fun k' o hk hd => ?_
    have hlk : k' < ops.toList.length := (List.getElem?_eq_some_iff.1 hk).1
    exact ⟨fun _ => hlk, fun _ => q0 k' (by simpa using hlk)⟩
  · have := (tx.upps hu ops.toList.length 0 (by omega)).low
    rwa [Nat.zero_add] at this

theorem run_ok (ok : EnvOk E) : ∀ n, RunOk E (aRun E n)
  | 0 => fun _ _ _ _ _ _ _ h => by cases h
  | n + 1 => fun fi d todo T H v H' h φ w b a k cs hat hk sim hf => step_todo ok (run_ok ok n) (aRun_up E n) (draw_ok ok (run_ok ok n) (aRun_up E n)) h hat hk sim hf
end Go.Abs
set_option linter.unusedVariables false
set_option linter.unusedSimpArgs false
namespace Go.Abs
variable {E : Env} {run : Run}

def noPhi : Phi := ⟨fun _ => none, fun _ => none⟩
theorem sim_empty (E : Env) (w : World) : SimL noPhi E emptyHeap w :=
  ⟨⟨fun A b n h => (by cases h), fun A b n o h => (by cases h), fun A _ => rfl, fun A B b n m _ h => (by cases h), fun A vs h => (by cases h)⟩, fun A o h => (by cases h)⟩

/-- A call that the abstract run answers. -/
theorem call_from (ok : EnvOk E) {n : Nat} {f : FuncId} {args args' : List Value} {v : Value} {H0 H' : AHeap} {φ0 : Phi} (h : aEnter0 f args H0 E (aRun E n) = some (v, H')) (hl : LRel φ0 args args') (w : World) (sim : SimL φ0 E H0 w) (hfree : Free φ0 H0 H') :
    Calls E.prog f ⟨args'⟩ w fun e w' => ∃ φ v', e = .returned v' ∧ VRel φ v v' ∧ Goes φ0 H0.size w φ H'.size w' ∧ SimL φ E H' w' := by
  unfold aEnter0 at h
  rw [orec] at h
  split at h
  · rename_i fn hfn
    rw [orec] at h
    split at h
    · rename_i c hc
      rw [brec] at h
      split at h
      · rename_i hle
        have hle := Nat.le_of_ble_eq_true hle
        rw [lenL_eq] at hle
        have hPf := ok.funcs _ _ hfn
        let b : Frame := { (default : Frame) with fn := f, kind := .normal, roundOf := none }
        let a : Act := { tmps := (⟨args'⟩ : Array Value) ++ Array.replicate (fn.ntmps - (⟨args'⟩ : Array Value).size) undef, defers := [] }
        have hb0 : Frame.enter E.prog f ⟨args'⟩ .normal = b.atR a [.code c] := by
          simp [Frame.enter, Frame.atR, b, a, hPf, hc]
        have hll := hl.length
        have hat : At φ0 E ⟨f, none, fn.ntmps⟩ [] (Tr.fillK (keepOf E f) args 0 .leaf) b a := by
          refine ⟨rfl, .inl rfl, trivial, ?_, ?_, .nil⟩
          · refine fillK_rel 0 .leaf a.tmps hl (fun j v hj => ?_) (fun t v hh => by cases hh)
            have hjl := (List.getElem?_eq_some_iff.1 hj).1
            simp only [a, Nat.zero_add]
            rw [Array.getElem?_append, if_pos (by simpa using hjl)]
            simpa using hj
          · simp [a]; omega
        intro cs
        obtain ⟨φ', w', v', p1, p2, p3, p4, p5⟩ := run_ok ok n _ _ _ _ _ _ _ h φ0 w b a [.code c] cs hat (.cons _ _ _ _ (.code c) .nil) sim hfree
        obtain ⟨fr', q1, q2, q3, q4⟩ := p5
        rw [← hb0] at q1
        exact ⟨.returned v', w', fr', ⟨φ', v', rfl, p3, p1, p2⟩, q1, q3, Frame.leaving_of_going q2 q4⟩
      · cases h
    · cases h
  · cases h

/-- from any memory -/
theorem call_of_run (ok : EnvOk E) {n : Nat} {f : FuncId} {args args' : List Value} {v : Value} {H' : AHeap} (h : aEnter0 f args emptyHeap E (aRun E n) = some (v, H')) (hl : LRel noPhi args args') (w : World) :
    Calls E.prog f ⟨args'⟩ w fun e w' => ∃ φ v', e = .returned v' ∧ VRel φ v v' ∧ Goes noPhi 0 w φ H'.size w' ∧ SimL φ E H' w' :=
  call_from ok h hl w (sim_empty E w) fun A _ _ => ⟨rfl, rfl⟩
/-- a call with arguments that have names -/
theorem call_named (ok : EnvOk E) {n : Nat} {f : FuncId} {args args' : List Value} {v : Value} {H' : AHeap} (σ : Nat → Value) (h : aEnter0 f args (emptyHeap.new .dead) E (aRun E n) = some (v, H')) (hl : LRel (noPhi.addA 0 σ) args args') (w : World) (hp : (E.post 0 σ).says (fun b => b < w.heap.size) w) :
    Calls E.prog f ⟨args'⟩ w fun e w' => ∃ φ v', e = .returned v' ∧ VRel φ v v' ∧ φ.atm 0 = some σ ∧ (∀ A vs, φ.atm A = some vs → (E.post A vs).says (Foreign φ w') w') ∧ RowKit.Below w.heap.size w w' := by
  have s0 := sim_empty E w
  obtain ⟨_, s1⟩ := s0.named (w' := w) σ rfl rfl ((E.post _ σ).stays _ _ _ _ hp (fun b hb => .inl ⟨hb, fun A n e => by cases e⟩) (fun _ _ => rfl) (Nat.le_refl _) rfl rfl rfl) (RowKit.Below.refl _ _)
  refine (call_from ok h hl w s1 fun A h1 h2 => ⟨rfl, ?_⟩).mono ?_
  · rw [new_size] at h1
    rw [Phi.addA_app, if_neg (by omega)]; rfl
  · rintro e w' ⟨φ, v', rfl, hv, g, s⟩
    refine ⟨φ, v', rfl, hv, g.ext.atm _ _ (by rw [Phi.addA_app, if_pos rfl]), s.post, g.os, g.tape, g.output, g.size, fun b hb => g.kept b hb fun A n _ e => by cases e⟩

/-- A closed call that returns true: what was there before stays. -/
theorem true_of_run (ok : EnvOk E) {n : Nat} {f : FuncId} (h : isTrue (aTop E n f []) = true) (w : World) :
    Calls E.prog f #[] w fun e w' => e = .returned (.bool true) ∧ w.heap.size ≤ w'.heap.size ∧ (∀ b, b < w.heap.size → w'.heap[b]? = w.heap[b]?) ∧ w'.os = w.os ∧ w'.tape = w.tape ∧ w'.output = w.output := by
  cases hr : aTop E n f [] with
  | none => rw [hr] at h; cases h
  | some q =>
    obtain ⟨v, H'⟩ := q
    rw [hr] at h
    have hv : v = .bool true := by
      cases v with
      | bool b => have h : b = true := h; rw [h]
      | _ => cases h
    subst hv
    refine Calls.mono (call_of_run ok hr .nil w) ?_
    rintro e w' ⟨φ, v', rfl, hv, g, _⟩
    rw [hv.bool_inv]
    exact ⟨rfl, g.size, fun b hb => g.kept b hb fun A n hA => (by omega), g.os, g.tape, g.output⟩

/-! ### The program's table -/
noncomputable def checkFuncs (p : Program) : Bool := p.funcs.toList.all fun fn => match fn.body with
  | some _ => !(fn.name == "runtime.NumGoroutine")
  | none => true
noncomputable def checkTypes (p : Program) : Bool := p.types.toList.all fun i => Nat.ble i.bytes 65536
theorem envWithOk (p : Program) (nats : List (FuncId × NatK)) (keep : List Nat) (cons : List Con) (post : Nat → (Nat → Value) → Claim) (hf : checkFuncs p = true) (ht : checkTypes p = true) (hm : p.follows .mixedOrders = true)
    (hi : ∀ g k fn, natOf g nats = some k → p.funcs[g]? = some fn → fn.body = none → (fn.name == "runtime.NumGoroutine") = false ∧ Extern.findNext fn = none ∧ NatFn p fn k) (hc : ∀ c ∈ cons, ConOk (envWith p nats keep cons post) c) : EnvOk (envWith p nats keep cons post) := by
  have hF : ∀ f fn, (envWith p nats keep cons post).funcs.get f = some fn → p.funcs[f]? = some fn := fun f fn h => by
    have := Tr.get_ofList _ _ _ h
    rwa [Array.getElem?_toList] at this
  refine ⟨hF, fun t i h => ?_, fun f fn c h hb => ?_, fun g k fn h1 h2 h3 => hi g k fn h1 (hF g fn h2) h3, fun t i h => ?_, hm, hc⟩
  · have := Tr.get_ofList _ _ _ h
    rwa [Array.getElem?_toList] at this
  · have hfn := hF f fn h
    have hmem : fn ∈ p.funcs.toList := by simpa using Array.mem_of_getElem? hfn
    have := List.all_eq_true.1 hf fn hmem
    rw [hb] at this
    simpa using this
  · have h1 := Tr.get_ofList _ _ _ h
    have hmem : i ∈ p.types.toList := List.mem_of_getElem? h1
    have := List.all_eq_true.1 ht i hmem
    exact Nat.le_of_ble_eq_true this
theorem envOk (p : Program) (nats : List (FuncId × NatK)) (keep : List Nat) (hf : checkFuncs p = true) (ht : checkTypes p = true) (hm : p.follows .mixedOrders = true)
    (hi : ∀ g k fn, natOf g nats = some k → p.funcs[g]? = some fn → fn.body = none → (fn.name == "runtime.NumGoroutine") = false ∧ Extern.findNext fn = none ∧ NatFn p fn k) : EnvOk (envOf p nats keep) :=
  envWithOk p nats keep [] _ hf ht hm hi fun c hc => by cases hc
end Go.Abs
