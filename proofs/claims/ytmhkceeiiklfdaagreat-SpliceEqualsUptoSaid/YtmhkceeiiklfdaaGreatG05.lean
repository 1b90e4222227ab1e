/- A part of the proof of SpliceEqualsUptoSaid (texts: SndK SndL). No conditions. -/
import Derived.Test.YtmhkceeiiklfdaaGreatG04
import Derived.Lib.UnsafeStr
set_option linter.unusedVariables false
set_option linter.unusedSimpArgs false
set_option linter.unusedVariables false
set_option linter.unusedSimpArgs false
namespace Go.Abs
variable {φ : Phi} {E : Env} {F : Fr} {a : Act} {H : AHeap} {w : World}

/-- what becomes of a written block -/
def Turned (φ : Phi) (E : Env) (H : AHeap) (w : World) (A : Nat) (H' : AHeap) (w' : World) : Prop :=
  (H' = H ∧ w' = w) ∨ ∃ b n o o' c, φ A = some (b, n) ∧ H.get A = some o ∧ o ≠ .dead ∧ H' = H.put A o' ∧ w' = wset w b c ∧ ObjRel φ E n o' c
theorem Turned.sim {A : Nat} {H' : AHeap} {w' : World} (h : Turned φ E H w A H' w') (s : SimL φ E H w) : SimL φ E H' w' ∧ Goes φ H.size w φ H'.size w' := by
  rcases h with ⟨rfl, rfl⟩ | ⟨b, n, o, o', c, h1, h2, h3, rfl, rfl, h4⟩
  · exact ⟨s, Goes.refl _ _ _⟩
  · exact s.turn A b n o o' c h1 h2 h3 h4

theorem plain_one {v v' : Value} (h : VRel φ v v') (hp : plainCell v = true) : isOne v' = true := by
  cases h with
  | gr v hg => cases v <;> first | rfl | (cases hp; done)
  | atom k vs v h1 h0 h2 => exact h2
  | _ => first | rfl | (cases hp; done)
theorem allPlain_mem : ∀ (l : List Value), allPlain l = true → ∀ v ∈ l, plainCell v = true
  | [], _, v, hv => by simp at hv
  | x :: l, h, v, hv => by
    have e : allPlain (x :: l) = @Bool.rec (fun _ => Bool) false (allPlain l) (plainCell x) := rfl
    rw [e, brec] at h
    split at h
    · rename_i hx
      rcases List.mem_cons.1 hv with rfl | hv
      · exact hx
      · exact allPlain_mem l h v hv
    · cases h
theorem LRel.one : ∀ {l l' : List Value}, LRel φ l l' → allPlain l = true → ∀ v ∈ l', isOne v = true
  | _, _, .nil, _, v, hv => by simp at hv
  | _, _, .cons u u' l l' hu hs, hp, v, hv => by
    have h1 := allPlain_mem _ hp u (by simp)
    have h2 : allPlain l = true := by
      have e : allPlain (u :: l) = @Bool.rec (fun _ => Bool) false (allPlain l) (plainCell u) := rfl
      rw [e, brec, if_pos h1] at hp; exact hp
    rcases List.mem_cons.1 hv with rfl | hv
    · exact plain_one hu h1
    · exact LRel.one hs h2 v hv

theorem over_obj {e : TypeId} {cs : List Value} {fz n : Nat} {ex : Bool} {vs vs' : List Value} {off : Nat} {c : Obj} (h : ObjRel φ E n (.cells e cs fz ex) c) (hv : LRel φ vs vs') (hle : off + vs.length ≤ cs.length) :
    ∃ C lo hi, c = .cells C e (lo, hi) ∧ off + vs'.length ≤ C.size ∧ ObjRel φ E n (.cells e (over off vs cs) fz ex) (.cells ⟨over off vs' C.toList⟩ e (lo, hi)) ∧ (∀ i, lo ≤ i → i < hi → i < fz ∨ n ≤ i) ∧ C.size = n ∧ cs.length ≤ n := by
  obtain ⟨C, lo, hi, rfl, h1, h2, h3, h4, h5⟩ := h
  have hl := hv.length
  have hlC : off + vs'.length ≤ C.toList.length := by simp; omega
  refine ⟨C, lo, hi, rfl, by simpa using hlC, ⟨_, lo, hi, rfl, by simp [over_length _ _ _ hlC]; omega, by rw [over_length _ _ _ hle]; exact h2, fun e => by rw [over_length _ _ _ hle]; exact h3 e, fun i v hi => ?_, h5⟩, h5.1, h1, h2⟩
  rw [over_get _ _ _ hle] at hi
  have hg : (⟨over off vs' C.toList⟩ : Array Value)[i]? = (over off vs' C.toList)[i]? := by simp
  rw [hg, over_get _ _ _ hlC, ← hl]
  split at hi
  · rename_i hc
    rw [if_pos hc]
    exact hv.get _ v hi
  · rename_i hc
    rw [if_neg hc]
    obtain ⟨v', h6, h7⟩ := h4 i v hi
    exact ⟨v', by simpa using h6, h7⟩

theorem writeObj_some {o : AObj} {A off : Nat} {vs : List Value} {H' : AHeap} (h : writeObj o H A off vs = some H') : ∃ e cs fz ex, o = .cells e cs fz ex ∧ fz ≤ off ∧ allPlain vs = true ∧ off + vs.length ≤ cs.length ∧ H' = H.put A (.cells e (over off vs cs) fz ex) := by
  cases o with
  | cells e cs fz ex =>
    have h : (@Bool.rec (fun _ => Option AHeap) none (@Bool.rec (fun _ => Option AHeap) none (@Option.rec _ (fun _ => Option AHeap) none (fun cs => some (H.put A (.cells e cs fz ex))) (writeAt vs off cs)) (allPlain vs)) (Nat.ble fz off)) = some H' := h
    rw [brec] at h
    split at h
    · rename_i h1
      rw [brec] at h
      split at h
      · rename_i h2
        rw [orec] at h
        cases hw : writeAt vs off cs with
        | none => rw [hw] at h; cases h
        | some m =>
          rw [hw] at h
          obtain ⟨rfl, h3⟩ := writeAt_some _ _ _ _ hw
          cases h
          exact ⟨e, cs, fz, ex, rfl, Nat.le_of_ble_eq_true h1, h2, h3, rfl⟩
      · cases h
    · cases h
  | _ => cases h
theorem run_write {A off b k : Nat} {vs vs' : List Value} {H' : AHeap} (h : writeCells H A off vs = some H') (hv : LRel φ vs vs') (hB : Block φ E H w A) (hA : φ A = some (b, k)) :
    ∃ w', (storeCells ⟨b, off, none⟩ vs').run E.prog w = .ok () w' ∧ Turned φ E H w A H' w' := by
  cases hv with
  | nil => cases h; exact ⟨w, rfl, .inl ⟨rfl, rfl⟩⟩
  | cons v v' l l' hv0 hl =>
    have h : (@Option.rec _ (fun _ => Option AHeap) none (fun o => writeObj o H A off (v :: l)) (H.get A)) = some H' := h
    rw [orec] at h
    cases hg : H.get A with
    | none => rw [hg] at h; cases h
    | some o =>
      rw [hg] at h
      obtain ⟨e, cs, fz, ex, rfl, h1, h2, h3, rfl⟩ := writeObj_some h
      obtain ⟨c, hc, hr⟩ := hB b k _ hA hg
      have hvl : LRel φ (v :: l) (v' :: l') := .cons _ _ _ _ hv0 hl
      obtain ⟨C, lo, hi, rfl, h4, h5, h6, h7, h8⟩ := over_obj hr hvl h3
      refine ⟨_, run_storeCells (v' :: l') 0 w C hc h4 (hvl.one h2) (fun j hj1 hj2 hj3 => ?_), .inr ⟨b, k, _, _, _, hA, hg, by simp, rfl, rfl, h5⟩⟩
      rcases h6 j hj3.1 hj3.2 with h9 | h9 <;> omega

/-- A store. -/
theorem run_aStore (ok : EnvOk E) {t : TypeId} {v v' p p' : Value} {H' : AHeap} (h : aStore E H t v p = some H') (hv : VRel φ v v') (hp : VRel φ p p') (hB : ∀ A off, addrOf p = some (A, off) → Block φ E H w A) :
    ∃ w' A off, addrOf p = some (A, off) ∧ (Instr.storeAt t p' v').run E.prog w = .ok () w' ∧ Turned φ E H w A H' w' := by
  unfold aStore at h
  rw [orec] at h
  cases ha : addrOf p with
  | none => rw [ha] at h; cases h
  | some q =>
    obtain ⟨A, off⟩ := q
    rw [ha] at h
    simp only [orec] at h
    cases hcv : cellsV v with
    | none => rw [hcv] at h; cases h
    | some vs =>
      rw [hcv] at h
      simp only [orec] at h
      cases hs : E.size t with
      | none => rw [hs] at h; cases h
      | some n =>
        rw [hs] at h
        simp only [beq_if, lenL_eq] at h
        split at h
        · rename_i hlen
          obtain ⟨vs', h1, h2⟩ := cellsV_some hv hcv
          have hBA := hB A off ha
          obtain rfl := addrOf_some ha
          obtain ⟨b, k, hA, rfl⟩ := hp.ptr_inv
          obtain ⟨w', h3, h4⟩ := run_write h h2 hBA hA
          refine ⟨w', A, off, rfl, ?_, h4⟩
          have hl2 := h2.length
          have hsz : ¬ ((⟨vs'⟩ : Array Value).size ≠ n) := by
            have : (⟨vs'⟩ : Array Value).size = vs'.length := rfl
            omega
          simp only [Instr.storeAt, Instr.sureAddr, storeVar, Sem.run_bind, Sem.run_pure, Result.andThen_ok, ok.run_size hs, h1]
          rw [if_neg hsz]
          exact h3
        · cases h

/-! ### What an operation comes to, in full -/
/-- what is not marked has not been written -/
structure Low (H H' : AHeap) : Prop where
  le : ∀ A, bit H.low A = true → bit H'.low A = true
  same : ∀ A, bit H'.low A = false → A < H.size → H'.get A = H.get A
  size : H.size ≤ H'.size
theorem Low.refl (H : AHeap) : Low H H := ⟨fun _ h => h, fun _ _ _ => rfl, Nat.le_refl _⟩
theorem Low.trans {H H1 H2 : AHeap} (h : Low H H1) (k : Low H1 H2) : Low H H2 := by
  refine ⟨fun A e => k.le A (h.le A e), fun A h1 h2 => ?_, Nat.le_trans h.size k.size⟩
  rw [k.same A h1 (Nat.lt_of_lt_of_le h2 h.size), h.same A ?_ h2]
  cases hb : bit H1.low A with
  | false => rfl
  | true => rw [k.le A hb] at h1; cases h1
theorem Low.new (H : AHeap) (o : AObj) : Low H (H.new o) :=
  ⟨fun A h => by rw [new_low]; exact h, fun A _ h => get_new_ne H o A (by omega), by rw [new_size]; omega⟩
theorem Low.put (H : AHeap) (A : Nat) (o : AObj) : Low H (H.put A o) := by
  refine ⟨fun B h => by rw [put_low, bit_lor, h]; rfl, fun B h1 h2 => get_put_ne H A B o ?_, Nat.le_refl _⟩
  rw [put_low, bit_lor, bit_shl, Bool.or_eq_false_iff] at h1
  simpa using h1.2
theorem Turned.low {A : Nat} {H' : AHeap} {w' : World} (h : Turned φ E H w A H' w') : Low H H' := by
  rcases h with ⟨rfl, rfl⟩ | ⟨b, n, o, o', c, h1, h2, h3, rfl, rfl, h4⟩
  · exact .refl _
  · exact .put _ _ _
def NRel (φ : Phi) (v : Value) (nx : Next) : Prop := (∃ v', nx = .value v' ∧ VRel φ v v') ∨ (nx = .skip ∧ v = .tuple #[])
def XOk (φ : Phi) (E : Env) (H : AHeap) (w : World) (s : Sem Next) : AOut → Prop
  | .val v H1 => ∃ φ1 w1 nx, s.run E.prog w = .ok nx w1 ∧ Goes φ H.size w φ1 H1.size w1 ∧ SimL φ1 E H1 w1 ∧ NRel φ1 v nx ∧ Low H H1
  | .enter f args H1 => ∃ args', s.run E.prog w = .ok (.enter f ⟨args'⟩) w ∧ LRel φ args args' ∧ H1 = H
  | .round l args H1 => ∃ b n args', s.run E.prog w = (Instr.yield b ⟨args'⟩).run E.prog w ∧ φ l = some (b, n) ∧ LRel φ args args' ∧ H1 = H
theorem QOk.x {s : Sem Next} {out : AOut} (h : QOk φ E H s out) (sim : SimL φ E H w) : XOk φ E H w s out := by
  obtain ⟨v, v', rfl, h1, h2⟩ := h
  exact ⟨φ, w, _, h1 w, Goes.refl _ _ _, sim, .inl ⟨v', rfl, h2⟩, .refl _⟩
theorem AOk.x {s : Sem Next} {out : AOut} (h : AOk φ E H s out) (sim : SimL φ E H w) (hf : H.size < (outH out).size → φ H.size = none) : XOk φ E H w s out := by
  obtain ⟨ao, c, n, v, rfl, h1, h2⟩ := h
  replace hf : φ H.size = none := hf (by show H.size < (H.new ao).size; rw [new_size]; omega)
  obtain ⟨v', h3, h4⟩ := h2 w
  obtain ⟨h5, h6⟩ := sim.alloc hf n ao c (h1 _ hf)
  exact ⟨_, _, _, h3, by rw [new_size]; exact h6, h5, .inl ⟨v', rfl, h4 _ (Phi.add_at ..)⟩, .new _ _⟩
theorem XOk.same {s : Sem Next} {v : Value} {v' : Value} (hr : s.run E.prog w = .ok (.value v') w) (hv : VRel φ v v') (sim : SimL φ E H w) : XOk φ E H w s (.val v H) :=
  ⟨φ, w, _, hr, Goes.refl _ _ _, sim, .inl ⟨v', rfl, hv⟩, .refl _⟩
theorem XOk.turned {s : Sem Next} {v : Value} {nx : Next} {A : Nat} {H' : AHeap} {w' : World} (hr : s.run E.prog w = .ok nx w') (ht : Turned φ E H w A H' w') (hv : NRel φ v nx) (sim : SimL φ E H w) : XOk φ E H w s (.val v H') := by
  obtain ⟨h1, h2⟩ := ht.sim sim
  exact ⟨φ, w', nx, hr, h2, h1, hv, ht.low⟩
theorem ounit_some {x : Option AHeap} {out : AOut} (h : ounit x = some out) : ∃ H', x = some H' ∧ out = .val (.tuple #[]) H' := by
  cases x with
  | none => cases h
  | some H' => cases h; exact ⟨H', rfl, rfl⟩

theorem x_load (ok : EnvOk E) (hF : FR φ F a.tmps) (sim : SimL φ E H w) {t : TypeId} {x : Operand} {o : Oper} {out : AOut} (h : xLoad t x E o F H = some out) : XOk φ E H w (do pure (.value (← Instr.loadAt t (a.eval x)))) out := by
  obtain ⟨v, h1, rfl⟩ := oval_some h
  obtain ⟨v', h2, h3⟩ := run_aLoad ok h1 (ev_rel hF x) (fun A off _ => sim.block A)
  exact XOk.same (by simp only [Sem.run_bind, h2, Result.andThen_ok, Sem.run_pure]) h3 sim
theorem x_store (ok : EnvOk E) (hF : FR φ F a.tmps) (sim : SimL φ E H w) {t : TypeId} {p x : Operand} {o : Oper} {out : AOut} (h : xStore t p x E o F H = some out) : XOk φ E H w (do Instr.storeAt t (a.eval p) (a.eval x); pure .skip) out := by
  obtain ⟨H', h1, rfl⟩ := ounit_some h
  obtain ⟨w', A, off, _, h2, h3⟩ := run_aStore ok h1 (ev_rel hF x) (ev_rel hF p) (fun A off _ => sim.block A)
  exact XOk.turned (by simp only [Sem.run_bind, h2, Result.andThen_ok, Sem.run_pure]) h3 (.inr ⟨rfl, rfl⟩) sim

/-! ### Functions without a body -/
theorem Goes.drew (φ : Phi) (N : Nat) (w : World) : Goes φ N w φ N w.drew :=
  ⟨Ext.refl _, fun _ _ => rfl, fun A b n h1 h2 => absurd h2 (by omega), Nat.le_refl _, Nat.le_refl _, fun _ _ _ => rfl, rfl, rfl, rfl, fun _ _ => rfl⟩
theorem plain_int (k : IntKind) (n : Int) : VRel φ (.int k n) (.int k n) := .gr _ rfl
theorem store_one {A off b m : Nat} {k : IntKind} {n : Int} {H' : AHeap} (h : writeCells H A off [.int k n] = some H') (sim : SimL φ E H w) (hA : φ A = some (b, m)) :
    ∃ u, w.cell? ⟨b, off, none⟩ = some u ∧ w.frozen? ⟨b, off, none⟩ = false ∧ Turned φ E H w A H' (w.setCell ⟨b, off, none⟩ (.int k n)) := by
  have h : (@Option.rec _ (fun _ => Option AHeap) none (fun o => writeObj o H A off [.int k n]) (H.get A)) = some H' := h
  rw [orec] at h
  cases hg : H.get A with
  | none => rw [hg] at h; cases h
  | some o =>
    rw [hg] at h
    obtain ⟨e, cs, fz, ex, rfl, h1, h2, h3, rfl⟩ := writeObj_some h
    obtain ⟨c, hc, hr⟩ := sim.block A b m _ hA hg
    obtain ⟨C, lo, hi, rfl, h4, h5, h6, h7, h8⟩ := over_obj hr (.cons _ _ _ _ (plain_int k n) .nil) h3
    simp only [List.length_cons, List.length_nil] at h3 h4
    have hlt : off < C.size := by omega
    refine ⟨C[off], ?_, ?_, .inr ⟨b, m, _, _, _, hA, hg, by simp, rfl, ?_, h5⟩⟩
    · rw [cell_at hc]; exact Array.getElem?_eq_getElem hlt
    · rw [frozen_at hc]
      cases hd : (decide (lo ≤ off) && decide (off < hi)) with
      | false => rfl
      | true =>
        rw [Bool.and_eq_true, decide_eq_true_eq, decide_eq_true_eq] at hd
        rcases h6 off hd.1 hd.2 with h9 | h9 <;> omega
    · have e1 : (⟨over off [.int k n] C.toList⟩ : Array Value) = C.setIfInBounds off (.int k n) := by
        apply Array.ext'
        apply List.ext_getElem?
        intro j
        rw [over_get _ _ _ (by simp; omega)]
        simp only [Array.toList_setIfInBounds, List.length_cons, List.length_nil, List.getElem?_set]
        by_cases hj : off = j
        · subst hj
          rw [if_pos (by omega), if_pos rfl, if_pos (by simpa using hlt)]
          simp
        · rw [if_neg (by omega), if_neg hj]
      rw [e1]
      unfold World.setCell wset
      congr 1
      apply Array.ext_getElem?
      intro i
      rw [Array.getElem?_modify, Array.getElem?_setIfInBounds]
      by_cases hi' : b = i
      · subst hi'
        have hbl := (Array.getElem?_eq_some_iff.1 hc).1
        have hbe := (Array.getElem?_eq_some_iff.1 hc).2
        simp [hbl, hbe]
      · simp [hi']
theorem find_congr {α : Type} {p q : α → Bool} : ∀ {l : List α}, (∀ x ∈ l, p x = q x) → l.find? p = l.find? q
  | [], _ => rfl
  | x :: r, h => by
    rw [List.find?_cons, List.find?_cons, h x (by simp), find_congr fun y hy => h y (by simp [hy])]
theorem byteAt_find (c : Nat) : ∀ (l : List UInt8) (i : Nat), byteAt c l i = match (List.range l.length).find? (fun j => Nat.beq (l.getD j 0).toNat c) with
    | some j => Int.ofNat (i + j)
    | none => -1
  | [], i => rfl
  | b :: r, i => by
    unfold byteAt
    rw [List.length_cons, List.range_succ_eq_map, List.find?_cons]
    have e0 : (b :: r).getD 0 0 = b := rfl
    rw [e0]
    cases hd : Nat.beq b.toNat c with
    | true => rfl
    | false =>
      simp only
      rw [byteAt_find c r (i + 1), List.find?_map]
      have e1 : ((fun j => Nat.beq ((b :: r).getD j 0).toNat c) ∘ Nat.succ) = fun j => Nat.beq (r.getD j 0).toNat c := rfl
      rw [e1]
      cases (List.range r.length).find? (fun j => Nat.beq (r.getD j 0).toNat c) with
      | none => rfl
      | some j => simp only [Option.map_some]; congr 1; omega
theorem run_indexB {P : Program} (s : ByteArray) (c : Nat) (hc : c < 256) (w : World) :
    ((Extern.BytealgIndexByte.indexByte #[.string s, .int .u8 (Int.ofNat c)]).run P w).andThen (fun v w' => Result.ok (Next.value v) w') = .ok (.value (.int .i64 (byteAt c s.data.toList 0))) w := by
  rw [run_indexByte_string]
  have e : (List.range s.size).find? (fun i => s[i]! == (Int.ofNat c).toNat.toUInt8) = (List.range s.data.toList.length).find? (fun j => Nat.beq (s.data.toList.getD j 0).toNat c) := by
    rw [str_length]
    refine find_congr fun i hi => ?_
    have hi : i < s.size := by simpa using hi
    have e1 : s[i]! = s[i] := getElem!_pos s i hi
    have e2 : s.data.toList.getD i 0 = s[i] := by
      rw [List.getD_eq_getElem?_getD, List.getElem?_eq_getElem (by rw [str_length]; exact hi)]
      rfl
    rw [e1, e2]
    have e3 : (Int.ofNat c).toNat.toUInt8 = c.toUInt8 := rfl
    rw [e3, nbeq_eq, Bool.eq_iff_iff, beq_iff_eq, decide_eq_true_eq]
    constructor
    · intro h
      rw [h]
      simp
      omega
    · intro h
      apply UInt8.toNat_inj.1
      rw [h]
      simp
      omega
  rw [byteAt_find]
  unfold firstIdx
  rw [e]
  cases (List.range s.data.toList.length).find? (fun j => Nat.beq (s.data.toList.getD j 0).toNat c) with
  | none => rfl
  | some j => simp [Result.andThen]
theorem x_native (ok : EnvOk E) (sim : SimL φ E H w) {g : FuncId} {k : NatK} {fn : Func} {args args' : List Value} {out : AOut} (hP : E.prog.funcs[g]? = some fn) (hname : (fn.name == "runtime.NumGoroutine") = false) (hb : fn.body = none)
    (hn : Extern.findNext fn = none) (hk : NatFn E.prog fn k) (h : aNative H k args = some out) (hl : LRel φ args args') (hf : H.size < (outH out).size → φ H.size = none) : XOk φ E H w (callFunc g ⟨args'⟩) out := by
  have hb' : fn.body.isNone = true := by rw [hb]; rfl
  unfold aNative at h
  split at h
  · -- ident
    rename_i x
    cases h
    cases hl with
    | cons _ x' _ _ hx hs =>
      cases hs
      refine XOk.same (v' := x') ?_ hx sim
      rw [run_callFunc_extern hP hname hb' hn hk]
      rfl
  · -- noop
    cases h
    cases hl
    obtain ⟨m, hm⟩ := hk
    exact XOk.same (v' := .tuple #[]) (run_call_mark0 hP hname hb' hn m hm w) (.top _) sim
  · -- mark
    cases h
    cases hl with
    | cons _ x' _ _ hx hs =>
      cases hs
      obtain ⟨m, hm⟩ := hk
      have : ∃ a', x' = .pointer (some a') := by
        cases hx with
        | gr _ hg => cases hg
        | ptr A off b n hA => exact ⟨_, rfl⟩
      obtain ⟨a', rfl⟩ := this
      exact XOk.same (v' := .tuple #[]) (run_call_marked hP hname hb' hn m hm a' w) (.top _) sim
  · -- load
    rename_i p
    split at h
    · rename_i A off hp
      split at h
      · rename_i n hr
        cases h
        obtain rfl := addrOf_some hp
        cases hl with
        | cons _ x' _ _ hx hs =>
          cases hs
          obtain ⟨b, m, hA, rfl⟩ := hx.ptr_inv
          obtain ⟨e, cs, fz, ex, h1, h2⟩ := readCell_some hr
          obtain ⟨c, hc, C, lo, hi, rfl, hsz, hle, hex, hrel, hfr⟩ := sim.block A b m _ hA h1
          obtain ⟨v', h3, h4⟩ := hrel off _ h2
          rw [h4.int_inv] at h3
          exact XOk.same (v' := .int .u32 n) (run_call_load hP hname hb' hn .u32 hk (by rw [cell_at hc]; exact h3)) (.gr _ rfl) sim
      · cases h
    · cases h
  · -- store
    rename_i p kk n
    split at h
    · rename_i A off hp
      obtain ⟨H', hw, rfl⟩ := ounit_some h
      obtain rfl := addrOf_some hp
      cases hl with
      | cons _ x' _ _ hx hs =>
        cases hs with
        | cons _ y' _ _ hy hs =>
          cases hs
          obtain ⟨b, m, hA, rfl⟩ := hx.ptr_inv
          rw [hy.int_inv]
          obtain ⟨u, h1, h2, h3⟩ := store_one hw sim hA
          exact XOk.turned (run_call_store hP hname hb' hn hk h1 h2) h3 (.inl ⟨_, rfl, .top _⟩) sim
    · cases h
  · -- add
    rename_i p y
    split at h
    · rename_i A off hp
      split at h
      · rename_i x hr
        split at h
        · rename_i H' hw
          cases h
          obtain rfl := addrOf_some hp
          cases hl with
          | cons _ x' _ _ hx hs =>
            cases hs with
            | cons _ y' _ _ hy hs =>
              cases hs
              obtain ⟨b, m, hA, rfl⟩ := hx.ptr_inv
              rw [hy.int_inv]
              obtain ⟨e, cs, fz, ex, h1, h2⟩ := readCell_some hr
              obtain ⟨c, hc, C, lo, hi, rfl, hsz, hle, hex, hrel, hfr⟩ := sim.block A b m _ hA h1
              obtain ⟨v', h3, h4⟩ := hrel off _ h2
              rw [h4.int_inv] at h3
              obtain ⟨u, h5, h6, h7⟩ := store_one hw sim hA
              exact XOk.turned (run_call_add hP hname hb' hn .i32 hk (by rw [cell_at hc]; exact h3) h6 rfl) h7 (.inl ⟨_, rfl, .gr _ rfl⟩) sim
        · cases h
      · cases h
    · cases h
  · -- cas
    rename_i p x y
    split at h
    · rename_i A off hp
      split at h
      · rename_i z hr
        split at h
        · rename_i H' hz hw
          cases h
          obtain rfl := addrOf_some hp
          have hzx : z = x := of_decide_eq_true hz
          subst hzx
          cases hl with
          | cons _ x' _ _ hx hs =>
            cases hs with
            | cons _ y' _ _ hy hs =>
              cases hs with
              | cons _ z' _ _ hz' hs =>
                cases hs
                obtain ⟨b, m, hA, rfl⟩ := hx.ptr_inv
                rw [hy.int_inv, hz'.int_inv]
                obtain ⟨e, cs, fz, ex, h1, h2⟩ := readCell_some hr
                obtain ⟨c, hc, C, lo, hi, rfl, hsz, hle, hex, hrel, hfr⟩ := sim.block A b m _ hA h1
                obtain ⟨v', h3, h4⟩ := hrel off _ h2
                rw [h4.int_inv] at h3
                obtain ⟨u, h5, h6, h7⟩ := store_one hw sim hA
                exact XOk.turned (run_call_cas_hit hP hname hb' hn .i32 hk (by rw [cell_at hc]; exact h3) h6) h7 (.inl ⟨_, rfl, .gr _ rfl⟩) sim
        · cases h
      · cases h
    · cases h
  · -- indexByte
    rename_i s c
    split at h
    · rename_i hlt
      rw [blt_eq] at hlt
      have hlt := of_decide_eq_true hlt
      cases h
      cases hl with
      | cons _ x' _ _ hx hs =>
        cases hs with
        | cons _ y' _ _ hy hs =>
          cases hs
          rw [hx.of_ground rfl, hy.of_ground rfl]
          refine XOk.same (v' := .int .i64 (byteAt c s.data.toList 0)) ?_ (.gr _ rfl) sim
          rw [run_callFunc_extern hP hname hb' hn hk]
          exact run_indexB s c hlt w
    · cases h
  · -- makeNoZero
    rename_i e n
    split at h
    · rename_i hle
      cases h
      have hle := Nat.le_of_ble_eq_true hle
      cases hl with
      | cons _ x' _ _ hx hs =>
        cases hs
        rw [hx.int_inv]
        obtain ⟨t, h1, h2⟩ := hk
        obtain ⟨cs, h3, h4, _⟩ := Lib.run_makeNoZero (P := E.prog) w fn.params t e h2 n (by omega)
        have hfree : φ H.size = none := hf (by show H.size < (H.new _).size; rw [new_size]; omega)
        obtain ⟨h5, h6⟩ := (sim.congr (w' := w.drew.drew) (H' := H) rfl rfl rfl).alloc hfree cs.size (.cells e (zeros [.tuple #[]] n) 0 false) (.cells cs e) (by
          refine ⟨cs, 0, 0, rfl, rfl, by rw [zeros_length]; simpa using h4, (fun e => by cases e), fun i v hi => ?_, (fun i a b => by omega), .inl ⟨rfl, by unfold big; omega⟩⟩
          have hlt := (List.getElem?_eq_some_iff.1 hi).1
          rw [zeros_length] at hlt
          rw [zeros_get _ _ _ hlt] at hi
          simp only [List.length_cons, List.length_nil] at hi hlt
          have hv : v = .tuple #[] := by
            rw [Nat.zero_add, Nat.mod_one] at hi
            simpa using hi.symm
          subst hv
          have hlt' : i < cs.size := by omega
          exact ⟨cs[i], Array.getElem?_eq_getElem hlt', .top _⟩)
        have hgo : Goes φ H.size w (φ.add H.size w.heap.size cs.size) (H.size + 1) (wpush w.drew.drew (.cells cs e)) := ((Goes.drew φ H.size w).trans (Goes.drew φ H.size w.drew)).trans h6
        refine ⟨_, _, .value (.slice (some ⟨w.heap.size, 0, none⟩) n cs.size), ?_, by rw [new_size]; exact hgo, h5, .inl ⟨_, rfl, .sliceIn _ _ _ _ 0 _ _ _ (Phi.add_at ..) h4 (by omega)⟩, .new _ _⟩
        rw [run_callFunc_extern hP hname hb' hn h1]
        have h3' : (Extern.BytealgMakeNoZero.makeNoZero fn.params #[t] ⟨[.int .i64 (Int.ofNat n)]⟩).run E.prog w = .ok (.slice (some ⟨w.heap.size, 0, none⟩) n cs.size) (w.drew.drew.alloc (.cells cs e)) := h3
        rw [h3']
        rfl
    · cases h
  · cases h
/-! ### Calls -/
theorem x_invFunc (ok : EnvOk E) (sim : SimL φ E H w) {g : FuncId} {args args' : List Value} {out : AOut} (h : aInvFunc E H g args = some out) (hl : LRel φ args args') (hf : H.size < (outH out).size → φ H.size = none) : XOk φ E H w (callFunc g ⟨args'⟩) out := by
  unfold aInvFunc at h
  rw [orec] at h
  cases hg : E.funcs.get g with
  | none => rw [hg] at h; cases h
  | some fn =>
    rw [hg] at h
    simp only [orec] at h
    have hfn := ok.funcs _ _ hg
    cases hb : fn.body with
    | some c =>
      rw [hb] at h
      cases h
      refine ⟨args', ?_, hl, rfl⟩
      have hng := ok.nogo _ _ _ hg hb
      have hng' : ¬ fn.name = "runtime.NumGoroutine" := by simpa using hng
      simp [callFunc, program, Sem.run, hfn, hng', hb]
    | none =>
      rw [hb] at h
      simp only at h
      split at h
      · rename_i k hnat
        obtain ⟨h1, h2, h3⟩ := ok.nat _ _ _ hnat hg hb
        exact x_native ok sim hfn h1 hb h2 h3 h hl hf
      · cases h
theorem x_invoke (ok : EnvOk E) (sim : SimL φ E H w) {f f' : Value} {args args' : List Value} {out : AOut} (h : aInvoke f E H args = some out) (hf : VRel φ f f') (hl : LRel φ args args') (hfree : H.size < (outH out).size → φ H.size = none) :
    XOk φ E H w (do let d ← Deferred.ofValue f' ⟨args'⟩; invoke d.target d.args) out := by
  cases f with
  | func fn first cap =>
    cases fn with
    | func g =>
      have h : aInvFunc E H g (first.toList ++ (args ++ cap.toList)) = some out := h
      have hfc : ∃ as bs, f' = .func (.func g) ⟨as⟩ ⟨bs⟩ ∧ LRel φ first.toList as ∧ LRel φ cap.toList bs := by
        cases hf with
        | gr _ hg => cases hg
        | func _ as bs as' bs' h1 h2 => exact ⟨as', bs', rfl, h1, h2⟩
      obtain ⟨as, bs, rfl, h1, h2⟩ := hfc
      have hx := x_invFunc ok sim h (h1.append (hl.append h2)) hfree
      have e : ((do let d ← Deferred.ofValue (.func (.func g) ⟨as⟩ ⟨bs⟩) ⟨args'⟩; invoke d.target d.args) : Sem Next) = callFunc g ⟨as ++ (args' ++ bs)⟩ := by
        show invoke (.fn (.func g) ⟨bs⟩) (⟨as⟩ ++ ⟨args'⟩) = _
        show callFunc g ((⟨as⟩ ++ ⟨args'⟩) ++ ⟨bs⟩) = _
        congr 1
        apply Array.ext'
        simp
      rw [e]; exact hx
    | yield l =>
      have h : some (AOut.round l (first.toList ++ args) H) = some out := h
      cases h
      cases hf with
      | gr _ hg => cases hg
      | yield _ b n hb =>
        refine ⟨b, n, args', ?_, hb, by simpa using hl, rfl⟩
        show (invoke (.fn (.yield b) #[]) (#[] ++ ⟨args'⟩)).run E.prog w = _
        unfold invoke
        simp
    | _ => cases h
  | _ => cases h
theorem x_callV (ok : EnvOk E) (hF : FR φ F a.tmps) (sim : SimL φ E H w) {c : Call} {f : Operand} {o : Oper} {out : AOut} (hc : c.callee = .value f) (ho : o.op = .call c)
    (h : aInvoke (ev f F) E H (evs F c.args.toList) = some out) (hf : H.size < (outH out).size → φ H.size = none) : XOk φ E H w (execOp a.eval o) out := by
  have hx := x_invoke ok sim h (ev_rel hF f) (evs_rel hF c.args.toList) hf
  have e : execOp a.eval o = (do let d ← Deferred.ofValue (a.eval f) ⟨c.args.toList.map a.eval⟩; invoke d.target d.args) := by
    unfold execOp
    rw [ho]
    simp only
    unfold resolve
    rw [hc]
    have : c.args.map a.eval = ⟨c.args.toList.map a.eval⟩ := by apply Array.ext'; simp
    simp only [this]
  rw [e]; exact hx
end Go.Abs
set_option linter.unusedVariables false
set_option linter.unusedSimpArgs false
namespace Go.Abs
variable {φ : Phi} {E : Env} {F : Fr} {a : Act} {H : AHeap} {w : World}

/-- A block goes on under another number: what saw it before is no longer looked into. -/
theorem SimL.child (h : SimL φ E H w) (hf : φ H.size = none) {A b n : Nat} {o : AObj} {o' : AObj} {c : Obj} (hφ : φ A = some (b, n)) (hg : H.get A = some o) (hd : o ≠ .dead)
    (hr : ObjRel (φ.add H.size b n) E n o' c) :
    SimL (φ.add H.size b n) E ((H.put A .dead).new o') (wset w b c) ∧ Goes φ H.size w (φ.add H.size b n) (H.size + 1) (wset w b c) := by
  have hext := Phi.add_ext (b := b) (n := n) hf
  have hsz : (wset w b c).heap.size = w.heap.size := by simp [wset]
  have hlow := h.lowly A o hg
  have hb := h.dom A b n hφ
  have hAs : A < H.size := by
    rcases Nat.lt_or_ge A H.size with h1 | h1
    · exact h1
    · rw [h.tot A h1] at hg; cases hg
  have hn : (H.put A .dead).get (H.put A .dead).size = none := by
    rw [put_size, get_put_ne H A _ _ (by omega)]
    exact h.tot _ (Nat.le_refl _)
  have hget : ∀ B, B ≠ H.size → ((H.put A .dead).new o').get B = (H.put A .dead).get B := fun B hB => get_new_ne _ _ _ (by rw [put_size]; exact hB)
  have G : Goes φ H.size w (φ.add H.size b n) (H.size + 1) (wset w b c) := by
    refine ⟨hext, fun B hB => ?_, fun B d k h1 h2 e => ?_, by omega, by omega, fun d hd' hnn => ?_, rfl, rfl, rfl, fun _ _ => rfl⟩
    · rw [Phi.add_app, if_neg (by omega)]
    · rw [Phi.add_app, if_pos (by omega)] at e
      cases e
      exact .inr ⟨A, n, hAs, hφ⟩
    · refine wset_ne w b d c ?_
      rintro rfl
      exact hnn A n hAs hφ
  refine ⟨⟨⟨fun B d k e => ?_, fun B d k u e g => ?_, fun B hB => ?_, fun B D d k m hne e1 e2 => ?_, G.post rfl h.post⟩, fun B u g => ?_⟩, G⟩
  · rw [hsz]
    rw [Phi.add_app] at e
    split at e
    · cases e; exact hb
    · exact h.dom B d k e
  · rw [Phi.add_app] at e
    split at e
    · rename_i hB
      cases e
      subst hB
      obtain ⟨rfl, _⟩ := get_new _ o' u hn g
      exact ⟨c, wset_at w b c hb, hr⟩
    · rename_i hB
      rw [hget B hB] at g
      by_cases hBA : A = B
      · subst hBA
        rw [get_put H A .dead hlow] at g; cases g
        rw [hφ] at e; cases e
        exact ⟨c, wset_at w b c hb, trivial⟩
      · rw [get_put_ne H A B _ hBA] at g
        obtain ⟨c', h1, h2⟩ := h.has B d k u e g
        by_cases hdb : b = d
        · subst hdb
          have := h.inj A B b n k hBA hφ e
          rcases this with h3 | h3
          · rw [hg] at h3; cases h3; exact absurd rfl hd
          · rw [h3] at g; cases g
            exact ⟨c, wset_at w _ c hb, trivial⟩
        · exact ⟨c', by rw [wset_ne w b d c hdb]; exact h1, h2.mono hext⟩
  · rw [new_size, put_size] at hB
    rw [hget B (by omega), get_put_ne H A B _ (by omega)]
    exact h.tot B (by omega)
  · rw [Phi.add_app] at e1 e2
    split at e1
    · rename_i hB
      cases e1
      split at e2
      · rename_i hD; exact absurd (hB.trans hD.symm) hne
      · rename_i hD
        refine .inr ?_
        rw [hget D hD]
        by_cases hDA : A = D
        · subst hDA; exact get_put H A .dead hlow
        · rw [get_put_ne H A D _ hDA]
          rcases h.inj A D b n m hDA hφ e2 with h3 | h3
          · rw [hg] at h3; cases h3; exact absurd rfl hd
          · exact h3
    · rename_i hB
      split at e2
      · rename_i hD
        cases e2
        refine .inl ?_
        rw [hget B hB]
        by_cases hBA : A = B
        · subst hBA; exact get_put H A .dead hlow
        · rw [get_put_ne H A B _ hBA]
          rcases h.inj A B b n k hBA hφ e1 with h3 | h3
          · rw [hg] at h3; cases h3; exact absurd rfl hd
          · exact h3
      · rename_i hD
        have := h.inj B D d k m hne e1 e2
        rw [hget B hB, hget D hD]
        by_cases hBA : A = B
        · subst hBA; exact .inl (get_put H A .dead hlow)
        · by_cases hDA : A = D
          · subst hDA; exact .inr (get_put H A .dead hlow)
          · rw [get_put_ne H A B _ hBA, get_put_ne H A D _ hDA]; exact this
  · by_cases hB : B = H.size
    · subst hB; exact (get_new _ o' u hn g).2
    · rw [hget B hB] at g
      by_cases hBA : A = B
      · subst hBA; exact hlow
      · rw [get_put_ne H A B _ hBA] at g; exact h.lowly B u g

theorem growBy_le (m : Nat) : ∀ (r c : Nat), c ≤ m + (m + 768) / 4 → Builtin.growBy m r c ≤ m + (m + 768) / 4
  | 0, c, h => h
  | r + 1, c, h => by
    unfold Builtin.growBy
    split
    · exact h
    · exact growBy_le m r _ (by omega)
theorem nextcap_le (need cap : Nat) (h : cap < need) (hn : need ≤ 1048576) : Builtin.nextslicecap need cap ≤ 4194304 := by
  unfold Builtin.nextslicecap
  split
  · omega
  · split
    · omega
    · have := growBy_le need 4 cap (by omega)
      omega

theorem run_readCellsH {A off n b k : Nat} {l : List Value} (h : readCells H A off n = some l) (hB : Block φ E H w A) (hA : φ A = some (b, k)) :
    ∃ l', (∀ w' : World, w'.heap = w.heap → (loadCells ⟨b, off, none⟩ n).run E.prog w' = .ok ⟨l'⟩ w') ∧ LRel φ l l' := by
  obtain ⟨e, cs, fz, ex, ⟨h1, h2, h3⟩ | ⟨rfl, rfl⟩⟩ := readCells_some h
  · obtain ⟨c, hc, C, lo, hi, rfl, hsz, hle, hex, hrel, hfr⟩ := hB b k _ hA h1
    obtain ⟨h4, h5⟩ := cells_rel hrel off n h3
    exact ⟨_, fun w' e => run_loadCells (by rw [e]; exact hc) n h4, h2 ▸ h5⟩
  · exact ⟨[], fun _ _ => rfl, .nil⟩
/-- what is appended, as the model reads it -/
theorem run_firstCells {n es : Nat} {x x' : Value} {new : List Value} (h : firstOf H es n x = some new) (hx : VRel φ x x') (sim : SimL φ E H w) :
    ∃ new', (∀ w' : World, w'.heap = w.heap → (Builtin.firstCells es n x').run E.prog w' = .ok ⟨new'⟩ w') ∧ LRel φ new new' := by
  unfold firstOf at h
  split at h
  · rename_i A off sp len cap
    split at h
    · cases h
      rcases hx.slice_inv with ⟨_, rfl⟩ | ⟨_, _, b, _, _, _, rfl⟩ | ⟨_, _, b, _, _, _, _, _, _, _, rfl⟩ | ⟨_, _, _, _, _, rfl⟩
      · exact ⟨[], fun _ _ => rfl, .nil⟩
      all_goals exact ⟨[], fun _ _ => by simp [Builtin.firstCells, loadCells, loadCellsFrom], .nil⟩
    · cases h
    · rename_i m hsp
      rcases hx.slice_inv with ⟨e, _⟩ | ⟨A', off', b, k, e, hA, rfl⟩ | ⟨A', off', b, k, _, _, e, hA, _, _, rfl⟩ | ⟨_, _, e, _⟩
      · cases e
      all_goals cases e
      · exact run_readCellsH h (sim.block _) hA
      · exact run_readCellsH h (sim.block _) hA
      · exact absurd rfl hsp
  · cases h
    rcases hx.slice_inv with ⟨_, rfl⟩ | ⟨_, _, _, _, e, _⟩ | ⟨_, _, _, _, _, _, e, _⟩ | ⟨_, _, e, _⟩ <;> first | (cases e; done) | skip
    exact ⟨[], fun _ _ => rfl, .nil⟩
  · rename_i s
    cases h
    rw [hx.of_ground rfl]
    refine ⟨byteCells (s.data.toList.take n), fun _ _ => ?_, LRel.gr _ fun v hv => ?_⟩
    · simp only [Builtin.firstCells, Sem.run_pure]
      congr 1
      apply Array.ext'
      simp [byteCells, ByteArray.data_extract]
    · simp only [byteCells, List.mem_map] at hv
      obtain ⟨b, _, rfl⟩ := hv
      rfl
  · cases h

/-! ### append -/
/-- what the second argument comes to: as many elements, these cells -/
structure Bears (P : Program) (ats : Array TypeId) (elem : TypeId) (es n : Nat) (x : Value) (new : List Value) (heap : Array Obj) : Prop where
  plain : ∀ t, ats[1]? = some t → ∃ d, P.underlying t = some d ∧ isIntD d = false
  len : ∀ w, (Builtin.lenOf x).run P w = .ok n w
  cells : ∀ w' : World, w'.heap = heap → (Builtin.firstCells es n x).run P w' = .ok ⟨new⟩ w'
theorem isInt_match (d : TypeDesc) : (match d with | .int _ => true | _ => false) = isIntD d := by cases d <;> rfl
section
variable {P : Program} {ats : Array TypeId} {sT ty elem : TypeId} {i : TypeInfo} {z x : Value} {n sLen sCap : Nat} {base : Option Addr} {new : List Value}
set_option maxHeartbeats 4000000 in
theorem append_in (w : World) (h0 : ats[0]? = some sT) (hu : P.underlying sT = some (.slice elem)) (hi : P.info? elem = some i) (hb : Bears P ats elem i.size n x new w.heap) (hle : sLen + n ≤ sCap) :
    (Builtin.append_ ats ty #[.slice base sLen sCap, x]).run P w = ((match base with | some a => storeCells (a.add (sLen * i.size)) new | none => pure ()).run P w).andThen fun _ w' => .ok (.slice base (sLen + n) sCap) w' := by
  have e1 : (#[Value.slice base sLen sCap, x] : Array Value)[0]? = some (.slice base sLen sCap) := rfl
  have e2 : (#[Value.slice base sLen sCap, x] : Array Value)[1]? = some x := rfl
  unfold Builtin.append_
  simp only [h0, e1, e2]
  have hc := hb.cells w rfl
  cases ht : ats[1]? with
  | none =>
    simp only [Sem.run_bind, run_underlying hu, sizeOf, typeInfo, run_typeInfo w hi, hi, Result.andThen_ok, Sem.run_pure, Bool.false_eq_true, if_false, hb.len, Bool.not_false, if_true, hle, hc]
    cases base <;> simp [sizeOf, typeInfo, hi, hb.len, hle, hc]
  | some t =>
    obtain ⟨d, hd, hi'⟩ := hb.plain t ht
    simp only [Sem.run_bind, run_underlying hu, run_underlying hd, Result.andThen_ok, Sem.run_pure]
    cases base <;> cases d <;> first | (cases hi'; done) | simp [run_underlying hu, run_underlying hd, sizeOf, typeInfo, hi, hb.len, hle, hc]
set_option maxHeartbeats 4000000 in
theorem append_grow (w : World) (h0 : ats[0]? = some sT) (hu : P.underlying sT = some (.slice elem)) (hi : P.info? elem = some i) (hz : i.zero = some z) (hby : i.bytes ≤ 65536)
    (hb : Bears P ats elem i.size n x new w.heap) {old : List Value} (ho : (Builtin.firstCells i.size sLen (.slice base sLen sCap)).run P w.drew = .ok ⟨old⟩ w.drew)
    (hgt : sCap < sLen + n) (hm : sLen + n ≤ 1048576) :
    (Builtin.append_ ats ty #[.slice base sLen sCap, x]).run P w =
      .ok (.slice (some ⟨w.heap.size, 0, none⟩) (sLen + n) (grownCap w (sLen + n) sCap elem))
        (wpush w.drew (.cells (⟨old⟩ ++ (⟨new⟩ ++ Builtin.zeroCells z.cells (grownCap w (sLen + n) sCap elem - (sLen + n)))) elem)) := by
  have e1 : (#[Value.slice base sLen sCap, x] : Array Value)[0]? = some (.slice base sLen sCap) := rfl
  have e2 : (#[Value.slice base sLen sCap, x] : Array Value)[1]? = some x := rfl
  have hn : ¬ (sLen + n ≤ sCap) := by omega
  have h63' : ¬ (9223372036854775807 < ((sLen : Int) + (n : Int))) := by omega
  have hnc := nextcap_le (sLen + n) sCap hgt hm
  have h48' : ¬ (281474976710656 < Builtin.nextslicecap (sLen + n) sCap * i.bytes) := by
    have := Nat.mul_le_mul hnc hby
    omega
  have hc := hb.cells w.drew rfl
  unfold Builtin.append_
  simp only [h0, e1, e2]
  cases ht : ats[1]? with
  | none =>
    simp [run_underlying hu, sizeOf, typeInfo, zeroValue, hi, hz, hb.len, hn, h63', h48', Question.forced, hc, ho, newRow, grownCap]
    rfl
  | some t =>
    obtain ⟨d, hd, hi'⟩ := hb.plain t ht
    cases d <;> first | (cases hi'; done) | (simp [run_underlying hu, run_underlying hd, sizeOf, typeInfo, zeroValue, hi, hz, hb.len, hn, h63', h48', Question.forced, hc, ho, newRow, grownCap]; rfl)
set_option maxHeartbeats 4000000 in
theorem append_in0 {xT : TypeId} {kd kx : IntKind} (w : World) (h0 : ats[0]? = some sT) (h1 : ats[1]? = some xT) (hx : P.underlying xT = some (.int kd)) (hu : P.underlying sT = some (.slice elem)) (hi : P.info? elem = some i) (hz : i.zero = some z) (hzs : z.cells.size = i.size) (hby : i.bytes ≤ 65536)
    (hm : n ≤ 1048576) (hle : sLen + n ≤ sCap) :
    (Builtin.append_ ats ty #[.slice base sLen sCap, .int kx n]).run P w = ((match base with | some a => storeCells (a.add (sLen * i.size)) (Builtin.zeroCells z.cells n).toList | none => pure ()).run P w).andThen fun _ w' => .ok (.slice base (sLen + n) sCap) w' := by
  have e1 : (#[Value.slice base sLen sCap, .int kx n] : Array Value)[0]? = some (.slice base sLen sCap) := rfl
  have e2 : (#[Value.slice base sLen sCap, .int kx n] : Array Value)[1]? = some (.int kx n) := rfl
  have hw1 : IntKind.i64.wrap (n : Int) = n := by rw [← wrap64_eq]; show @Bool.rec (fun _ => Int) _ _ (Nat.ble n 9223372036854775807) = _; rw [brec, if_pos (Nat.ble_eq_true_of_le (by omega))]; rfl
  have hbc : n * i.bytes ≤ 1048576 * 65536 := Nat.mul_le_mul hm hby
  have hb' : ¬ (281474976710656 < (n : Int) * (i.bytes : Int)) := by
    have : (n : Int) * (i.bytes : Int) = ((n * i.bytes : Nat) : Int) := by simp
    rw [this]; omega
  have hb0 : ¬ ((n : Int) < 0) := by omega
  unfold Builtin.append_
  simp only [h0, e1, e2, h1]
  by_cases hs : n * i.size = 0
  · have hzc : (Builtin.zeroCells z.cells n) = #[] := by unfold Builtin.zeroCells; rw [hzs, hs]; simp
    rw [hzc]
    cases base <;> simp [run_underlying hu, run_underlying hx, asInt, asIntOf, sizeOf, typeInfo, hi, hw1, hb', hb0, hle, hs]
  · cases base <;> simp [run_underlying hu, run_underlying hx, asInt, asIntOf, sizeOf, typeInfo, zeroValue, hz, hi, hw1, hb', hb0, hle, hs]
set_option maxHeartbeats 4000000 in
theorem append_grow0 {xT : TypeId} {kd kx : IntKind} (w : World) (h0 : ats[0]? = some sT) (h1 : ats[1]? = some xT) (hx : P.underlying xT = some (.int kd)) (hu : P.underlying sT = some (.slice elem)) (hi : P.info? elem = some i) (hz : i.zero = some z) (hzs : z.cells.size = i.size) (hby : i.bytes ≤ 65536)
    {old : List Value} (ho : (Builtin.firstCells i.size sLen (.slice base sLen sCap)).run P w.drew = .ok ⟨old⟩ w.drew)
    (hgt : sCap < sLen + n) (hm : sLen + n ≤ 1048576) :
    (Builtin.append_ ats ty #[.slice base sLen sCap, .int kx n]).run P w =
      .ok (.slice (some ⟨w.heap.size, 0, none⟩) (sLen + n) (grownCap w (sLen + n) sCap elem))
        (wpush w.drew (.cells (⟨old⟩ ++ (Builtin.zeroCells z.cells n ++ Builtin.zeroCells z.cells (grownCap w (sLen + n) sCap elem - (sLen + n)))) elem)) := by
  have e1 : (#[Value.slice base sLen sCap, .int kx n] : Array Value)[0]? = some (.slice base sLen sCap) := rfl
  have e2 : (#[Value.slice base sLen sCap, .int kx n] : Array Value)[1]? = some (.int kx n) := rfl
  have hw1 : IntKind.i64.wrap (n : Int) = n := by rw [← wrap64_eq]; show @Bool.rec (fun _ => Int) _ _ (Nat.ble n 9223372036854775807) = _; rw [brec, if_pos (Nat.ble_eq_true_of_le (by omega))]; rfl
  have hbc : n * i.bytes ≤ 1048576 * 65536 := Nat.mul_le_mul (by omega) hby
  have hb' : ¬ (281474976710656 < (n : Int) * (i.bytes : Int)) := by
    have : (n : Int) * (i.bytes : Int) = ((n * i.bytes : Nat) : Int) := by simp
    rw [this]; omega
  have hb0 : ¬ ((n : Int) < 0) := by omega
  have hn : ¬ (sLen + n ≤ sCap) := by omega
  have h63' : ¬ (9223372036854775807 < ((sLen : Int) + (n : Int))) := by omega
  have hnc := nextcap_le (sLen + n) sCap hgt hm
  have h48' : ¬ (281474976710656 < Builtin.nextslicecap (sLen + n) sCap * i.bytes) := by
    have := Nat.mul_le_mul hnc hby
    omega
  unfold Builtin.append_
  simp only [h0, e1, e2, h1]
  by_cases hs : n * i.size = 0
  · have hzc : (Builtin.zeroCells z.cells n) = #[] := by unfold Builtin.zeroCells; rw [hzs, hs]; simp
    rw [hzc]
    simp [run_underlying hu, run_underlying hx, asInt, asIntOf, sizeOf, typeInfo, zeroValue, hz, hi, hw1, hb', hb0, hn, hs, h63', h48', Question.forced, ho, newRow, grownCap]; rfl
  · simp [run_underlying hu, run_underlying hx, asInt, asIntOf, sizeOf, typeInfo, zeroValue, hz, hi, hw1, hb', hb0, hn, hs, h63', h48', Question.forced, ho, newRow, grownCap]; rfl
end
end Go.Abs
