/- A part of the proof of SpliceEqualsUptoSaid (texts: SndM SndN). No conditions. -/
import Derived.Test.YtmhkceeiiklfdaaGreatG05
set_option linter.unusedVariables false
set_option linter.unusedSimpArgs false
set_option linter.unusedVariables false
set_option linter.unusedSimpArgs false
namespace Go.Abs
variable {φ : Phi} {E : Env} {F : Fr} {a : Act} {H : AHeap} {w : World}

theorem zerosAt_false (ok : EnvOk E) {ats : Array TypeId} (h : E.zerosAt ats.toList = some false) : ∀ t, ats[1]? = some t → ∃ d, E.prog.underlying t = some d ∧ isIntD d = false := by
  intro t ht
  rw [← Array.getElem?_toList] at ht
  unfold Env.zerosAt at h
  split at h
  · rename_i x y r hl
    rw [hl] at ht
    simp at ht
    subst ht
    split at h
    · rename_i d hd
      exact ⟨d, ok.under hd, by simpa using h⟩
    · cases h
  · rename_i hn
    match hl : ats.toList with
    | [] => rw [hl] at ht; simp at ht
    | [x] => rw [hl] at ht; simp at ht
    | x :: y :: r => exact absurd hl (hn x y r)
theorem zerosAt_true (ok : EnvOk E) {ats : Array TypeId} (h : E.zerosAt ats.toList = some true) : ∃ t k, ats[1]? = some t ∧ E.prog.underlying t = some (.int k) := by
  unfold Env.zerosAt at h
  split at h
  · rename_i x y r hl
    split at h
    · rename_i d hd
      cases d <;> first | (cases h; done) | skip
      exact ⟨y, _, by rw [← Array.getElem?_toList, hl]; rfl, ok.under hd⟩
    · cases h
  · cases h
theorem lenOf_run {x x' : Value} {n : Nat} (h : lenOf x = some n) (hx : VRel φ x x') {P : Program} (w : World) : (Builtin.lenOf x').run P w = .ok n w := by
  cases x with
  | slice ad len cap =>
    cases h
    rcases hx.slice_inv with ⟨_, rfl⟩ | ⟨_, _, _, _, _, _, rfl⟩ | ⟨_, _, _, _, _, _, _, _, _, _, rfl⟩ | ⟨_, _, _, rfl, _, rfl⟩ <;> rfl
  | string s =>
    cases h
    rw [hx.of_ground rfl]
    simp [Builtin.lenOf]
  | _ => cases h
theorem firstOf_zero {es : Nat} {x : Value} {new : List Value} (h : firstOf H es 0 x = some new) : new = [] := by
  unfold firstOf at h
  split at h <;> first | (cases h; done) | skip
  · simp at h; exact h
  · cases h; rfl
  · cases h; rfl
theorem zeroCells_size (z : Array Value) (n : Nat) : (Builtin.zeroCells z n).size = n * z.size := by simp [Builtin.zeroCells]

/-- the grown row -/
theorem grown_obj {elem : TypeId} {es need cap : Nat} {old new old' new' : List Value} {z : Array Value} (fz : Nat) (hfz : fz < big ∨ fz = big) (ho : LRel φ old old') (hn : LRel φ new new') (hl : (old ++ new).length = need * es) (hz : z.size = es) (hc : need ≤ cap) :
    ObjRel φ E (cap * es) (.cells elem (old ++ new) fz false) (.cells (⟨old'⟩ ++ (⟨new'⟩ ++ Builtin.zeroCells z (cap - need))) elem) := by
  have h1 := (ho.append hn)
  have h2 := h1.length
  have h3 : cap * es = need * es + (cap - need) * es := by rw [← Nat.add_mul]; congr 1; omega
  refine ⟨_, 0, 0, rfl, ?_, by omega, (fun e => by cases e), fun i v hi => ?_, (fun i a b => by omega), hfz.imp (fun h => ⟨rfl, h⟩) (fun h => ⟨.inr (Nat.le_refl _), h⟩)⟩
  · simp only [Array.size_append, zeroCells_size, List.size_toArray]
    rw [List.length_append] at h2
    rw [List.length_append] at h2
    have := ho.length
    have := hn.length
    rw [List.length_append] at hl
    rw [hz]; omega
  · obtain ⟨v', h4, h5⟩ := h1.get i v hi
    refine ⟨v', ?_, h5⟩
    have hlt := (List.getElem?_eq_some_iff.1 h4).1
    rw [← Array.getElem?_toList]
    simp only [Array.toList_append]
    rw [← List.append_assoc, List.getElem?_append_left hlt]
    exact h4

theorem oldCells_same {elem es len : Nat} {base : Option Addr} {old : List Value} {H1 : AHeap} {fz cap : Nat} {s' : Value} (h : oldCells H elem es len base = some (old, H1, fz)) (hs : VRel φ (.slice base len cap) s') (sim : SimL φ E H w) :
    (H1 = H ∧ fz = 0 ∧ (∃ ad, s' = .slice ad len cap ∧ ∃ old', (∀ w' : World, w'.heap = w.heap → (Builtin.firstCells es len s').run E.prog w' = .ok ⟨old'⟩ w') ∧ LRel φ old old')) ∨
    (∃ A s cs ex b cap', base = some ⟨A, 0, some (s + 1)⟩ ∧ s + 1 = es ∧ H.get A = some (.cells elem cs fz ex) ∧ (fz ≤ len * es ∨ fz = big) ∧ old = cs.take (len * es) ∧ len * es ≤ cs.length ∧ H1 = H.put A .dead ∧
      φ A = some (b, cap' * es) ∧ cap ≤ cap' ∧ s' = .slice (some ⟨b, 0, none⟩) len cap') := by
  unfold oldCells at h
  split at h
  · cases h
    rcases hs.slice_inv with ⟨_, rfl⟩ | ⟨_, _, _, _, e, _⟩ | ⟨_, _, _, _, _, _, e, _⟩ | ⟨_, _, e, _⟩ <;> first | (cases e; done) | skip
    exact .inl ⟨rfl, rfl, none, rfl, [], fun _ _ => rfl, .nil⟩
  · rename_i A off
    rcases hs.slice_inv with ⟨e, _⟩ | ⟨A', off', b, k, e, hA, rfl⟩ | ⟨_, _, _, _, _, _, e, _⟩ | ⟨_, _, e, _⟩ <;> cases e
    split at h
    · cases h
      exact .inl ⟨rfl, rfl, _, rfl, [], fun _ _ => by simp [Builtin.firstCells, loadCells, loadCellsFrom], .nil⟩
    · split at h
      · rename_i old0 hr
        cases h
        obtain ⟨l', h1, h2⟩ := run_readCellsH hr (sim.block _) hA
        exact .inl ⟨rfl, rfl, _, rfl, l', h1, h2⟩
      · cases h
  · rename_i A s
    split at h
    · rename_i e cs fz' ex hb hg
      split at h
      · rename_i hc
        split at h
        · rename_i old0 ht
          cases h
          obtain ⟨h1, h2⟩ := takeN_some _ _ _ ht
          rw [Bool.and_eq_true, Bool.or_eq_true] at hc
          have hbe : s + 1 = es := by rw [← Nat.beq_eq]; exact hb
          have hel : e = elem := by rw [← Nat.beq_eq]; exact hc.2
          subst hel
          rcases hs.slice_inv with ⟨e, _⟩ | ⟨A', off', b, k, e, hA, rfl⟩ | ⟨A', off', b, k, s', cap', e, hA, hle, hk, rfl⟩ | ⟨_, _, e, _⟩ <;> cases e
          subst hbe
          rw [Nat.zero_add] at hk
          subst hk
          exact .inr ⟨A, s, cs, ex, b, cap', rfl, rfl, hg, hc.1.imp Nat.le_of_ble_eq_true Nat.eq_of_beq_eq_true, h1, h2, rfl, hA, hle, rfl⟩
        · cases h
      · cases h
    · cases h
  · cases h

theorem oldCells_size {elem es len : Nat} {base : Option Addr} {old : List Value} {H1 : AHeap} {fz : Nat} (ho : oldCells H elem es len base = some (old, H1, fz)) : H1.size = H.size := by
  unfold oldCells at ho
  split at ho
  · cases ho; rfl
  · split at ho
    · cases ho; rfl
    · split at ho
      · cases ho; rfl
      · cases ho
  · split at ho
    · split at ho
      · split at ho
        · cases ho; rfl
        · cases ho
      · cases ho
    · cases ho
  · cases ho
theorem x_appendTo (ok : EnvOk E) (sim : SimL φ E H w) {H' : AHeap} (hf : H.size < H'.size → φ H.size = none) {ats : Array TypeId} {ty elem : TypeId} {i : TypeInfo} {z : Value} {n es : Nat} {s s' x' v : Value} {new new' : List Value}
    (h : aAppendTo H elem es n new s = some (v, H')) (hs : VRel φ s s') (hnew : LRel φ new new') (hn0 : n = 0 → new = [])
    (hes : i.size = es) (hzs : z.cells.size = es)
    (hin : ∀ base sLen sCap, sLen + n ≤ sCap → (Builtin.append_ ats ty #[.slice base sLen sCap, x']).run E.prog w = ((match base with | some a => storeCells (a.add (sLen * i.size)) new' | none => pure ()).run E.prog w).andThen fun _ w' => .ok (.slice base (sLen + n) sCap) w')
    (hgr : ∀ base sLen sCap old, (Builtin.firstCells i.size sLen (.slice base sLen sCap)).run E.prog w.drew = .ok ⟨old⟩ w.drew → sCap < sLen + n → sLen + n ≤ 1048576 → (Builtin.append_ ats ty #[.slice base sLen sCap, x']).run E.prog w =
      .ok (.slice (some ⟨w.heap.size, 0, none⟩) (sLen + n) (grownCap w (sLen + n) sCap elem))
        (wpush w.drew (.cells (⟨old⟩ ++ (⟨new'⟩ ++ Builtin.zeroCells z.cells (grownCap w (sLen + n) sCap elem - (sLen + n)))) elem))) :
    ∃ φ1 w1 v', (Builtin.append_ ats ty #[s', x']).run E.prog w = .ok v' w1 ∧ Goes φ H.size w φ1 H'.size w1 ∧ SimL φ1 E H' w1 ∧ VRel φ1 v v' ∧ Low H H' := by
  subst hes
  cases s with
  | slice base len cap =>
    unfold aAppendTo at h
    simp only at h
    split at h
    · rename_i hle
      have hle := Nat.le_of_ble_eq_true hle
      split at h
      · cases h
        rcases hs.slice_inv with ⟨_, rfl⟩ | ⟨_, _, _, _, e, _⟩ | ⟨_, _, _, _, _, _, e, _⟩ | ⟨_, _, e, _⟩ <;> first | (cases e; done) | skip
        refine ⟨φ, w, _, ?_, Goes.refl _ _ _, sim, .sliceNil _ _, .refl _⟩
        rw [hin _ _ _ hle]; rfl
      · rename_i A off sp
        split at h
        · rename_i H1 hw
          cases h
          rcases hs.slice_inv with ⟨e, _⟩ | ⟨A', off', b, k, e, hA, rfl⟩ | ⟨A', off', b, k, es1, cap', e, hA, hcc, hk, rfl⟩ | ⟨a', cap', e, rfl, rfl, rfl⟩ <;> cases e
          · obtain ⟨w', h1, h2⟩ := run_write hw hnew (sim.block _) hA
            obtain ⟨h3, h4⟩ := h2.sim sim
            refine ⟨φ, w', _, ?_, h4, h3, .sliceEx _ _ _ _ _ _ hA, h2.low⟩
            rw [hin _ _ _ hle]
            simp only [add_at, h1, Result.andThen_ok]
          · obtain ⟨w', h1, h2⟩ := run_write hw hnew (sim.block _) hA
            obtain ⟨h3, h4⟩ := h2.sim sim
            refine ⟨φ, w', _, ?_, h4, h3, .sliceIn _ _ _ _ _ _ _ _ hA hcc hk, h2.low⟩
            rw [hin _ _ _ (by omega)]
            simp only [add_at, h1, Result.andThen_ok]
          · have hn : n = 0 := by omega
            subst hn
            have := hn0 rfl
            subst this
            cases hnew
            cases hw
            refine ⟨φ, w, .slice (some a') 0 cap', ?_, Goes.refl _ _ _, sim, .ghost _ _, .refl _⟩
            rw [hin _ _ _ (by omega)]
            rfl
        · cases h
    · rename_i hgt
      have hgt : cap < len + n := by
        rcases Nat.lt_or_ge cap (len + n) with h1 | h1
        · exact h1
        · rw [Nat.ble_eq_true_of_le h1] at hgt; cases hgt
      cases ho : oldCells H elem i.size len base with
      | none => rw [ho] at h; cases h
      | some q =>
        obtain ⟨old, H1, fz⟩ := q
        rw [ho] at h
        unfold growTo at h
        simp only at h
        split at h
        · rename_i es' s0 _ _ he hpl hm
          cases h
          replace hf : φ H.size = none := hf (by rw [new_size]; have := oldCells_size ho; omega)
          rw [Bool.and_eq_true] at hpl
          have hm := Nat.le_of_ble_eq_true hm
          have hl : (old ++ new).length = (len + n) * i.size := by
            have h1 := Nat.eq_of_beq_eq_true hpl.2
            rw [lenL_eq] at h1
            exact h1
          rcases oldCells_same ho hs sim with ⟨rfl, rfl, ad, rfl, old', ho1, ho2⟩ | ⟨A, s1, cs, ex, b, cap', rfl, hes, hg, hfz, rfl, hcs, rfl, hA, hcc, rfl⟩
          · have hge : len + n ≤ grownCap w (len + n) cap elem := Nat.le_add_right _ _
            have hr := hgr _ _ _ _ (ho1 w.drew rfl) hgt hm
            have hsz : (φ.add H1.size w.heap.size (grownCap w (len + n) cap elem * i.size)) H1.size = some (w.heap.size, grownCap w (len + n) cap elem * i.size) := Phi.add_at ..
            obtain ⟨h5, h6⟩ := (sim.congr (w' := w.drew) (H' := H1) rfl rfl rfl).alloc hf (grownCap w (len + n) cap elem * i.size) (.cells elem (old ++ new) 0 false) _
              ((grown_obj 0 (.inl (by unfold big; omega)) ho2 hnew hl hzs hge).mono (Phi.add_ext hf))
            refine ⟨_, _, _, hr, (by rw [new_size]; exact (Goes.drew φ H1.size w).trans h6), h5, ?_, .new _ _⟩
            exact .sliceIn _ _ _ _ _ _ _ _ hsz hge (by rw [he, Nat.zero_add])
          · have hkill := sim.kill A _ hg
            have hAk : ∃ c, w.heap[b]? = some c ∧ ObjRel φ E (cap' * i.size) (.cells elem cs fz ex) c := sim.has A b _ _ hA hg
            obtain ⟨c, hc, hrel⟩ := hAk
            have hc0 := hc
            obtain ⟨C, lo, hi, rfl, hCs, hcl, hce, hcr, hfr⟩ := hrel
            obtain ⟨h4, h5⟩ := cells_rel hcr 0 (len * i.size) (by omega)
            rw [List.drop_zero, List.drop_zero] at h5
            have hlen : (cs.take (len * i.size)).length = len * i.size := by simp; omega
            rcases Nat.lt_or_ge cap' (len + n) with hgt' | hle'
            · have hge : len + n ≤ grownCap w (len + n) cap' elem := Nat.le_add_right _ _
              have hfc : (Builtin.firstCells i.size len (.slice (some ⟨b, 0, none⟩) len cap')).run E.prog w.drew = .ok ⟨C.toList.take (len * i.size)⟩ w.drew := by
                have := run_loadCells (P := E.prog) (w := w.drew) (b := b) (off := 0) hc (len * i.size) (by omega)
                simpa [Builtin.firstCells] using this
              have hr := hgr _ _ _ _ hfc hgt' hm
              have hsz : (φ.add H.size w.heap.size (grownCap w (len + n) cap' elem * i.size)) H.size = some (w.heap.size, grownCap w (len + n) cap' elem * i.size) := Phi.add_at ..
              obtain ⟨h6, h7⟩ := (hkill.congr (w' := w.drew) (H' := H.put A .dead) rfl rfl rfl).alloc hf (grownCap w (len + n) cap' elem * i.size) (.cells elem (cs.take (len * i.size) ++ new) fz false) _
                ((grown_obj fz (hfr.2.imp (fun h => h.2) (fun h => h.2)) h5 hnew hl hzs hge).mono (Phi.add_ext hf))
              refine ⟨_, _, _, hr, (by rw [new_size]; exact (Goes.drew φ H.size w).trans h7), h6, ?_, (Low.put _ _ _).trans (.new _ _)⟩
              exact .sliceIn _ _ _ _ _ _ _ _ hsz hge (by rw [he, Nat.zero_add])
            · have hnl := hnew.length
              rw [List.length_append, hlen] at hl
              have hbound : (len + n) * i.size ≤ cap' * i.size := Nat.mul_le_mul_right _ hle'
              have hin' := hin (some ⟨b, 0, none⟩) len cap' hle'
              have hst := run_storeCells (P := E.prog) (off := len * i.size) new' 0 w C hc (by omega) (hnew.one hpl.1) (fun j hj1 hj2 hj3 => by
                rcases hfz with hfz | hfz
                · rcases hfr.1 j hj3.1 hj3.2 with h9 | h9 <;> omega
                · have h10 := hj3.1
                  have h11 := hj3.2
                  rcases hfr.2 with ⟨_, h9⟩ | ⟨h9 | h9, _⟩ <;> omega)
              rw [Nat.add_zero] at hst
              have hCl : len * i.size + new'.length ≤ C.toList.length := by simp; omega
              have hobj : ObjRel (φ.add H.size b (cap' * i.size)) E (cap' * i.size) (.cells elem (cs.take (len * i.size) ++ new) fz false) (.cells ⟨over (len * i.size) new' C.toList⟩ elem (lo, hi)) := by
                refine ⟨_, lo, hi, rfl, by simp [over_length _ _ _ hCl]; omega, by rw [List.length_append, hlen]; omega, (fun e => by cases e), fun j v hj => ?_, hfr⟩
                have hg' : (⟨over (len * i.size) new' C.toList⟩ : Array Value)[j]? = (over (len * i.size) new' C.toList)[j]? := by simp
                rw [hg', over_get _ _ _ hCl]
                rw [List.getElem?_append, hlen] at hj
                split at hj
                · rename_i hj'
                  rw [if_neg (by omega)]
                  rw [List.getElem?_take, if_pos hj'] at hj
                  obtain ⟨v', e1, e2⟩ := hcr j v hj
                  exact ⟨v', by simpa using e1, e2.mono (Phi.add_ext hf)⟩
                · rename_i hj'
                  obtain ⟨v', e1, e2⟩ := hnew.get _ v hj
                  have := (List.getElem?_eq_some_iff.1 e1).1
                  rw [if_pos (by omega)]
                  exact ⟨v', e1, e2.mono (Phi.add_ext hf)⟩
              obtain ⟨h6, h7⟩ := sim.child hf hA hg (by simp) hobj
              refine ⟨_, _, .slice (some ⟨b, 0, none⟩) (len + n) cap', ?_, (by rw [new_size]; exact h7), h6, ?_, (Low.put _ _ _).trans (.new _ _)⟩
              · rw [hin']
                simp only [add_at, Nat.zero_add, hst, Result.andThen_ok]
              · exact .sliceIn _ _ _ _ _ _ _ _ (Phi.add_at ..) hle' (by rw [he, Nat.zero_add])
        · cases h
  | _ => cases h

theorem zeroL_size (ok : EnvOk E) {t : TypeId} {z : List Value} (h : E.zeroE t = some z) : ∃ i v, E.types.get t = some i ∧ E.prog.info? t = some i ∧ i.zero = some v ∧ v.cells = ⟨z⟩ ∧ i.size = z.length ∧ LRel φ z z ∧ i.bytes ≤ 65536 := by
  obtain ⟨h1, h2⟩ := zeroE_some h
  obtain ⟨v, h3, h4, h5⟩ := zeroL_info (φ := φ) ok h1
  unfold Env.size at h2
  unfold Env.zero at h3
  cases ht : E.types.get t with
  | none => rw [ht] at h2; cases h2
  | some i =>
    rw [ht] at h2 h3
    simp only [Option.some.injEq] at h2 h3
    exact ⟨i, v, rfl, ok.info ht, h3, h4, h2, h5, ok.bytes _ _ ht⟩
theorem zeroCells_zeros (z : List Value) (n : Nat) : Builtin.zeroCells ⟨z⟩ n = ⟨zeros z n⟩ := by
  unfold Builtin.zeroCells
  exact zeros_range z n
theorem x_append (ok : EnvOk E) (hF : FR φ F a.tmps) (sim : SimL φ E H w) {out : AOut} (hf : H.size < (outH out).size → φ H.size = none) {c : Call} {o : Oper} (hc : c.callee = .builtin .append) (ho : o.op = .call c)
    (h : bAppend E H c.argTypes.toList o.type (evs F c.args.toList) = some out) : XOk φ E H w (execOp a.eval o) out := by
  unfold bAppend at h
  split at h
  · rename_i s x hargs
    obtain ⟨s', x', h1, hs, hx⟩ := evs_two hF hargs
    split at h
    · rename_i v H' ha
      cases h
      have main : ∃ φ1 w1 v', (Builtin.append_ c.argTypes o.type #[s', x']).run E.prog w = .ok v' w1 ∧ Goes φ H.size w φ1 H'.size w1 ∧ SimL φ1 E H' w1 ∧ VRel φ1 v v' ∧ Low H H' := by
        unfold aAppend at ha
        split at ha
        · cases ha
        · rename_i sT rest hats
          have h0 := ats_head hats
          split at ha
          · cases ha
          · rename_i elem es he
            obtain ⟨hu, hsz⟩ := EnvOk.elem he
            have hu := ok.under hu
            split at ha
            · cases ha
            · rename_i z hz
              obtain ⟨i, zv, hty, hi, hzv, hzc, hzl, hzr, hby⟩ := zeroL_size (φ := φ) ok hz
              have hes : i.size = es := by
                unfold Env.size at hsz
                rw [hty] at hsz
                simpa using hsz
              have hzs : zv.cells.size = i.size := by rw [hzc]; exact hzl.symm
              subst hes
              split at ha
              · cases ha
              · rename_i hza
                obtain ⟨xT, kd, hx1, hxu⟩ := zerosAt_true ok hza
                split at ha
                · rename_i n hn
                  split at ha
                  · rename_i hm
                    have hm := Nat.le_of_ble_eq_true hm
                    obtain ⟨kx, rfl⟩ := intIdx_some hn
                    rw [hx.int_inv]
                    refine x_appendTo ok sim hf ha hs (hzr.zeros n) (fun e => by subst e; rfl) rfl hzs (fun base sLen sCap hle => ?_) (fun base sLen sCap old ho hgt hm' => ?_)
                    · have := append_in0 (ty := o.type) (kx := kx) (base := base) w h0 hx1 hxu hu hi hzv hzs hby hm hle
                      rw [hzc, zeroCells_zeros] at this
                      exact this
                    · have := append_grow0 (ty := o.type) (kx := kx) (base := base) w h0 hx1 hxu hu hi hzv hzs hby ho hgt hm'
                      rw [this, hzc, zeroCells_zeros]
                  · cases ha
                · cases ha
              · rename_i hza
                split at ha
                · rename_i n hn
                  split at ha
                  · rename_i new hnew
                    obtain ⟨new', hn1, hn2⟩ := run_firstCells hnew hx sim
                    have hb : Bears E.prog c.argTypes elem i.size n x' new' w.heap := ⟨zerosAt_false ok hza, fun w => lenOf_run hn hx w, hn1⟩
                    exact x_appendTo ok sim hf ha hs hn2 (fun e => by subst e; exact firstOf_zero hnew) rfl hzs (fun base sLen sCap hle => append_in w h0 hu hi hb hle)
                      (fun base sLen sCap old ho hgt hm' => append_grow w h0 hu hi hzv hby hb ho hgt hm')
                  · cases ha
                · cases ha
      obtain ⟨φ1, w1, v', m1, m2, m3, m4, m5⟩ := main
      refine ⟨φ1, w1, .value v', ?_, m2, m3, .inl ⟨v', rfl, m4⟩, m5⟩
      rw [run_callB hc ho, h1]
      simp only [builtin, Sem.run_bind, m1, Result.andThen_ok, Sem.run_pure]
    · cases h
  · cases h
end Go.Abs
set_option linter.unusedVariables false
set_option linter.unusedSimpArgs false
namespace Go.Abs
open Go.MapKept
variable {φ : Phi} {E : Env} {F : Fr} {a : Act} {H : AHeap} {w : World}

/-! ### Maps -/
theorem MRel.length : ∀ {l l' : List MapEntry}, MRel φ l l' → l.length = l'.length
  | _, _, .nil => rfl
  | _, _, .cons _ _ _ _ _ hs => by simp [MRel.length hs]
theorem MRel.append : ∀ {l l' m m' : List MapEntry}, MRel φ l l' → MRel φ m m' → MRel φ (l ++ m) (l' ++ m')
  | _, _, _, _, .nil, k => k
  | _, _, _, _, .cons _ _ _ _ h hs, k => .cons _ _ _ _ h (MRel.append hs k)
theorem MRel.erase : ∀ {l l' : List MapEntry} (i : Nat), MRel φ l l' → MRel φ (l.eraseIdx i) (l'.eraseIdx i)
  | _, _, _, .nil => .nil
  | _, _, 0, .cons _ _ _ _ _ hs => hs
  | _, _, i + 1, .cons _ _ _ _ h hs => .cons _ _ _ _ h (MRel.erase i hs)
theorem MRel.modify (f f' : MapEntry → MapEntry) (hf : ∀ e e', ERel φ e e' → ERel φ (f e) (f' e')) : ∀ {l l' : List MapEntry} (i : Nat), MRel φ l l' → MRel φ (l.modify i f) (l'.modify i f')
  | _, _, i, .nil => by simp; exact .nil
  | _, _, 0, .cons _ _ _ _ h hs => by simp; exact .cons _ _ _ _ (hf _ _ h) hs
  | _, _, i + 1, .cons _ _ _ _ h hs => by simp; exact .cons _ _ _ _ h (MRel.modify f f' hf i hs)
theorem findNow_rel {d : TypeDesc} {k : Value} : ∀ {es es' : List MapEntry} (i : Nat), MRel φ es es' → ∀ r, Instr.findNow d k es i = some r →
    (r = none ∧ Instr.findNow d k es' i = some none) ∨ ∃ j v v' e', r = some (i + j, v) ∧ Instr.findNow d k es' i = some (some (i + j, v')) ∧ VRel φ v v' ∧ es'[j]? = some e' ∧ Instr.sameNow d k e'.key = some true
  | _, _, i, .nil, r, h => by cases h; exact .inl ⟨rfl, rfl⟩
  | _, _, i, .cons e e' l l' he hs, r, h => by
    unfold Instr.findNow at h ⊢
    rw [he.key]
    cases hk : Instr.sameNow d k e.key with
    | none => rw [hk] at h; cases h
    | some b =>
      rw [hk] at h
      cases b with
      | true => cases h; exact .inr ⟨0, _, _, e', rfl, rfl, he.val, rfl, by rw [he.key]; exact hk⟩
      | false =>
        simp only at h ⊢
        rcases findNow_rel (i + 1) hs r h with ⟨rfl, h1⟩ | ⟨j, v, v', e'', rfl, h1, h2, h3, h4⟩
        · exact .inl ⟨rfl, h1⟩
        · exact .inr ⟨j + 1, v, v', e'', by congr 2; omega, by rw [h1]; congr 3; omega, h2, by simpa using h3, h4⟩
theorem sameNow_bits {d : TypeDesc} {k u : Value} (h : Instr.sameNow d k u = some true) : Instr.sameBits 10000 u k = true := by
  unfold Instr.sameNow at h
  split at h
  · split at h
    · rename_i he
      simp at h
      subst he; subst h
      simp [Instr.sameBits]
    · cases h
  · injection h with h
    have := (bytes_beq _ _).1 h
    subst this
    simp [Instr.sameBits]
    exact (bytes_beq _ _).2 rfl
  · simp at h; subst h; simp [Instr.sameBits]
  · cases h
theorem run_stays {P : Program} {old new : Value} (h : Instr.sameBits 10000 old new = true) (w : World) : (Instr.keyThatStays old new).run P w = .ok new w := by
  unfold Instr.keyThatStays
  rw [if_pos h]; rfl
theorem run_checkPlain {P : Program} {kt : TypeId} {d : TypeDesc} {k : Value} (hd : P.underlying kt = some d) (hk : keyD d = true) (e : Bool) (w : World) : (Instr.checkKey e 10000 kt k).run P w = .ok () w := by
  show (Instr.checkKey e (9999 + 1) kt k).run P w = .ok () w
  unfold Instr.checkKey
  simp only [Sem.run_bind, run_underlying hd, Result.andThen_ok]
  cases d <;> first | (cases hk; done) | skip
  all_goals (cases k <;> rfl)
/-- the entries of a map value -/
theorem mapOf_run {x x' : Value} {es : List MapEntry} (h : mapOf H x = some es) (hx : VRel φ x x') (hB : ∀ r, x = .map (some r) → Block φ E H w r) :
    (x' = .map none ∧ es = []) ∨ ∃ b es' clock, x' = .map (some b) ∧ w.heap[b]? = some (.map ⟨es'⟩ clock) ∧ MRel φ es es' := by
  unfold mapOf at h
  split at h
  · cases h; exact .inl ⟨hx.of_ground rfl, rfl⟩
  · rename_i r
    split at h
    · rename_i es0 cl hg
      cases h
      cases hx with
      | gr _ hg => cases hg
      | map _ b n hA =>
        obtain ⟨c, hc, es', rfl, hm⟩ := hB r rfl b n _ hA hg
        exact .inr ⟨b, es', cl, rfl, hc, hm⟩
    · cases h
  · cases h
theorem run_lookup (ok : EnvOk E) {t : TypeId} {x x' k k' v : Value} {okk : Bool} (h : aLookup E H t x k okk = some v) (hx : VRel φ x x') (hk : VRel φ k k') (hB : ∀ r, x = .map (some r) → Block φ E H w r) :
    ∃ v', (Instr.lookup t x' k' okk).run E.prog w = .ok v' w ∧ VRel φ v v' := by
  unfold aLookup at h
  split at h
  · rename_i kt el hu
    split at h
    · rename_i d hd
      split at h
      · rename_i hg
        rw [Bool.and_eq_true] at hg
        rw [hk.of_ground hg.2]
        have hud := ok.under hd
        split at h
        · cases h
        · rename_i es hes
          have fin : ∀ (u u' : Value) (q : Bool), VRel φ u u' → VRel φ (withOk okk u q) (if okk = true then .tuple #[u', .bool q] else u') := by
            intro u u' q hq
            cases okk with
            | true => exact .tuple _ _ _ _ (.cons _ _ _ _ hq (.cons _ _ _ _ (.gr _ rfl) .nil))
            | false => exact hq
          have hmain : ∀ es', MRel φ es es' → ∃ q u u', v = withOk okk u q ∧ VRel φ u u' ∧ ((∃ j, q = true ∧ Instr.findNow d k es' 0 = some (some (j, u'))) ∨ (q = false ∧ Instr.findNow d k es' 0 = some none ∧ E.zero el = some u')) := by
            intro es' hm
            split at h
            · rename_i i u hf
              cases h
              have hf0 : Instr.findNow d k es 0 = some (some (i, u)) := hf
              rcases findNow_rel 0 hm _ hf0 with ⟨e, _⟩ | ⟨j, u0, u', e', e, h1, h2, _⟩
              · cases e
              · cases e
                exact ⟨true, u, u', rfl, h2, .inl ⟨_, rfl, h1⟩⟩
            · rename_i hf
              have hf0 : Instr.findNow d k es 0 = some none := hf
              split at h
              · rename_i z hz
                cases h
                rcases findNow_rel 0 hm _ hf0 with ⟨_, h1⟩ | ⟨j, u0, u', e', e, _⟩
                · unfold Env.zeroV at hz
                  split at hz
                  · rename_i z' hz'
                    split at hz
                    · rename_i hcl
                      cases hz
                      exact ⟨false, z, z, rfl, .closedV hcl, .inr ⟨rfl, h1, hz'⟩⟩
                    · cases hz
                  · cases hz
                · cases e
              · cases h
            · cases h
          rcases mapOf_run hes hx hB with ⟨rfl, rfl⟩ | ⟨b, es', clock, rfl, hb, hm⟩
          · obtain ⟨q, u, u', rfl, h1, h2⟩ := hmain [] .nil
            refine ⟨_, ?_, fin u u' q h1⟩
            rcases h2 with ⟨j, rfl, h2⟩ | ⟨rfl, h2, h3⟩
            · cases h2
            · simp only [Instr.lookup, Sem.run_bind, ok.run_under hu, Result.andThen_ok, Sem.run_pure, run_checkPlain hud hg.1]
              rw [run_findKey hud h2]
              simp only [Result.andThen_ok, Sem.run_bind, Sem.run_pure, ok.run_zero h3]
          · obtain ⟨q, u, u', rfl, h1, h2⟩ := hmain es' hm
            refine ⟨_, ?_, fin u u' q h1⟩
            rcases h2 with ⟨j, rfl, h2⟩ | ⟨rfl, h2, h3⟩
            · simp only [Instr.lookup, Sem.run_bind, ok.run_under hu, Result.andThen_ok, Sem.run_pure, Go.MapKept.run_getObj_map hb, run_checkPlain hud hg.1, run_findKey hud h2]
            · simp only [Instr.lookup, Sem.run_bind, ok.run_under hu, Result.andThen_ok, Sem.run_pure, Go.MapKept.run_getObj_map hb, run_checkPlain hud hg.1, run_findKey hud h2, ok.run_zero h3]
      · cases h
    · cases h
  · cases h

theorem x_lookup (ok : EnvOk E) (hF : FR φ F a.tmps) (sim : SimL φ E H w) {t : TypeId} {x k : Operand} {okk : Bool} {o : Oper} {out : AOut} (h : xLookup t x k okk E o F H = some out) : XOk φ E H w (do pure (.value (← Instr.lookup t (a.eval x) (a.eval k) okk))) out := by
  obtain ⟨v, h1, rfl⟩ := oval_some h
  obtain ⟨v', h2, h3⟩ := run_lookup ok h1 (ev_rel hF x) (ev_rel hF k) (fun r _ => sim.block r)
  exact XOk.same (by simp only [Sem.run_bind, h2, Result.andThen_ok, Sem.run_pure]) h3 sim
theorem run_setMap {P : Program} {b : Nat} {es : Array MapEntry} {clock : Nat} (hb : w.heap[b]? = some (.map es clock)) (o : Obj) : (setObj b o).run P w = .ok () (wset w b o) := by
  rw [run_setObj_map o hb]; rfl
theorem mapKey (ok : EnvOk E) {kt : TypeId} {d : TypeDesc} (hd : E.under kt = some d) {k k' : Value} (hk : VRel φ k k') (hg : (keyD d && ground k) = true) : k' = k ∧ E.prog.underlying kt = some d ∧ keyD d = true ∧ ground k = true := by
  rw [Bool.and_eq_true] at hg
  exact ⟨hk.of_ground hg.2, ok.under hd, hg.1, hg.2⟩
theorem run_mapSet (ok : EnvOk E) {t : TypeId} {m m' k k' v v' : Value} {H' : AHeap} (h : aMapSet E H t k v m = some H') (hm : VRel φ m m') (hk : VRel φ k k') (hv : VRel φ v v') (hB : ∀ r, m = .map (some r) → Block φ E H w r) :
    ∃ w' r, m = .map (some r) ∧ (Instr.mapUpdate t m' k' v').run E.prog w = .ok () w' ∧ Turned φ E H w r H' w' := by
  unfold aMapSet at h
  split at h
  · rename_i r
    split at h
    · rename_i kt el hu
      split at h
      · rename_i d hd
        split at h
        · rename_i es clock hg hget
          obtain ⟨rfl, hud, hkd, hgr⟩ := mapKey ok hd hk hg
          cases hm with
          | gr _ hg => cases hg
          | map _ b n hA =>
            obtain ⟨c, hb, es', rfl, hmr⟩ := hB r rfl b n _ hA hget
            split at h
            · rename_i i u hf
              cases h
              have hf0 : Instr.findNow d k' es 0 = some (some (i, u)) := hf
              rcases findNow_rel 0 hmr _ hf0 with ⟨e, _⟩ | ⟨j, u0, u', e', e, h1, h2, h3, h4⟩
              · cases e
              · cases e
                have h3' : ((⟨es'⟩ : Array MapEntry)[0 + j]?) = some e' := by simpa using h3
                refine ⟨wset w b (.map ⟨es'.modify (0 + j) fun e => { e with key := k', val := v' }⟩ clock), r, rfl, ?_, .inr ⟨b, n, _, _, _, hA, hget, by simp, rfl, rfl, _, rfl, hmr.modify (fun e => { e with key := k', val := v }) (fun e => { e with key := k', val := v' }) (fun e e' he => ⟨rfl, hgr, hv, he.born⟩) _⟩⟩
                simp only [Instr.mapUpdate, Sem.run_bind, ok.run_under hu, Result.andThen_ok, Go.MapKept.run_getObj_map hb, run_checkPlain hud hkd, run_findKey hud h1, h3', Option.map_some, Option.getD_some, run_stays (sameNow_bits h4)]
                rw [run_setMap hb]
                congr 2
                congr 1
                apply Array.ext'
                simp
            · rename_i hf
              cases h
              have hf0 : Instr.findNow d k' es 0 = some none := hf
              rcases findNow_rel 0 hmr _ hf0 with ⟨_, h1⟩ | ⟨j, u0, u', e', e, _⟩
              · refine ⟨wset w b (.map ⟨es' ++ [{ key := k', val := v', born := clock }]⟩ (clock + 1)), r, rfl, ?_, .inr ⟨b, n, _, _, _, hA, hget, by simp, rfl, rfl, _, rfl, hmr.append (.cons _ _ _ _ ⟨rfl, hgr, hv, rfl⟩ .nil)⟩⟩
                simp only [Instr.mapUpdate, Sem.run_bind, ok.run_under hu, Result.andThen_ok, Go.MapKept.run_getObj_map hb, run_checkPlain hud hkd, run_findKey hud h1]
                rw [run_setMap hb]
                congr 2
                congr 1
                apply Array.ext'
                simp
              · cases e
            · cases h
        · cases h
      · cases h
    · cases h
  · cases h
theorem x_mapSet (ok : EnvOk E) (hF : FR φ F a.tmps) (sim : SimL φ E H w) {t : TypeId} {m k x : Operand} {o : Oper} {out : AOut} (h : xMapSet t m k x E o F H = some out) : XOk φ E H w (do Instr.mapUpdate t (a.eval m) (a.eval k) (a.eval x); pure .skip) out := by
  obtain ⟨H', h1, rfl⟩ := ounit_some h
  obtain ⟨w', r, _, h2, h3⟩ := run_mapSet ok h1 (ev_rel hF m) (ev_rel hF k) (ev_rel hF x) (fun r _ => sim.block r)
  exact XOk.turned (by simp only [Sem.run_bind, h2, Result.andThen_ok, Sem.run_pure]) h3 (.inr ⟨rfl, rfl⟩) sim
end Go.Abs
