/- A part of the proof of SpliceEqualsUptoSaid (texts: SndO SndP). No conditions. -/
import Derived.Test.YtmhkceeiiklfdaaGreatG06
set_option linter.unusedVariables false
set_option linter.unusedSimpArgs false
set_option linter.unusedVariables false
set_option linter.unusedSimpArgs false
namespace Go.Abs
open Go.MapKept
variable {φ : Phi} {E : Env} {F : Fr} {a : Act} {H : AHeap} {w : World}

theorem evs_map {c : Call} {r : Nat} {l : List Value} (hF : FR φ F a.tmps) (h : evs F c.args.toList = .map (some r) :: l) : ∃ b n l', c.args.map a.eval = ⟨.map (some b) :: l'⟩ ∧ φ r = some (b, n) ∧ LRel φ l l' := by
  have hr := evs_rel hF c.args.toList
  rw [h] at hr
  generalize hl : c.args.toList.map a.eval = l0 at hr
  cases hr with
  | cons _ u' _ l' hu hs =>
    cases hu with
    | gr _ hg => cases hg
    | map _ b n hA => exact ⟨b, n, l', by apply Array.ext'; simpa using hl, hA, hs⟩
theorem x_len (ok : EnvOk E) (hF : FR φ F a.tmps) (sim : SimL φ E H w) {c : Call} {o : Oper} {out : AOut} (hc : c.callee = .builtin .len) (ho : o.op = .call c)
    (h : bLen E H c.argTypes.toList o.type (evs F c.args.toList) = some out) : XOk φ E H w (execOp a.eval o) out := by
  rcases c_len ok hF hc ho h with hq | ⟨t, kt, el, r, es, clock, rest, hats, hu, hargs, hg, rfl⟩
  · exact hq.x sim
  · obtain ⟨b, n, l', h1, hA, h2⟩ := evs_map hF hargs
    cases h2
    obtain ⟨c', hb, es', rfl, hm⟩ := sim.block r b n _ hA hg
    refine XOk.same (v' := .int .i64 es.length) ?_ (.gr _ rfl) sim
    rw [run_callB hc ho, h1]
    simp [builtin, Builtin.len_, ats_head hats, ok.run_under hu, goInt, Go.MapKept.run_getObj_map hb, hm.length]
theorem x_delete (ok : EnvOk E) (hF : FR φ F a.tmps) (sim : SimL φ E H w) {c : Call} {o : Oper} {out : AOut} (hc : c.callee = .builtin .delete) (ho : o.op = .call c)
    (h : bDelete E H c.argTypes.toList o.type (evs F c.args.toList) = some out) : XOk φ E H w (execOp a.eval o) out := by
  unfold bDelete at h
  split at h
  · rename_i r k hargs
    split at h
    · rename_i dT rest hats
      split at h
      · rename_i kt el hu
        split at h
        · rename_i es clock d hget hd
          obtain ⟨b, n, l', h1, hA, h2⟩ := evs_map hF hargs
          cases h2 with
          | cons _ k' _ l' hk hs =>
            cases hs
            obtain ⟨c', hb, es', rfl, hm⟩ := sim.block r b n _ hA hget
            split at h
            · rename_i i u hg hf
              cases h
              obtain ⟨rfl, hud, hkd, hgr⟩ := mapKey ok hd hk hg
              have hf0 : Instr.findNow d k' es 0 = some (some (i, u)) := hf
              rcases findNow_rel 0 hm _ hf0 with ⟨e, _⟩ | ⟨j, u0, u', e', e, h3, h4, h5, h6⟩
              · cases e
              · cases e
                have hlt := (List.getElem?_eq_some_iff.1 h5).1
                refine XOk.turned (w' := wset w b (.map ⟨es'.eraseIdx (0 + j)⟩ clock)) (nx := .value (.tuple #[])) (A := r) ?_ (.inr ⟨b, n, _, _, _, hA, hget, by simp, rfl, rfl, _, rfl, hm.erase _⟩) (.inl ⟨_, rfl, .top _⟩) sim
                rw [run_callB hc ho, h1]
                simp [builtin, Builtin.delete_, ats_head hats, ok.run_under hu, Go.MapKept.run_getObj_map hb, run_checkPlain hud hkd, run_findKey hud h3, run_setMap hb, Array.eraseIdxIfInBounds, hlt]
            · rename_i hg hf
              cases h
              obtain ⟨rfl, hud, hkd, hgr⟩ := mapKey ok hd hk hg
              have hf0 : Instr.findNow d k' es 0 = some none := hf
              rcases findNow_rel 0 hm _ hf0 with ⟨_, h3⟩ | ⟨j, u0, u', e', e, _⟩
              · have hsame : wset w b (.map ⟨es'⟩ clock) = w := by
                  unfold wset
                  congr 1
                  apply Array.ext_getElem?
                  intro k
                  have hbl := (Array.getElem?_eq_some_iff.1 hb).1
                  rw [Array.getElem?_setIfInBounds]
                  by_cases hk : b = k
                  · subst hk; rw [if_pos rfl, if_pos hbl, hb]
                  · rw [if_neg hk]
                refine ⟨φ, w, .value (.tuple #[]), ?_, Goes.refl _ _ _, sim, .inl ⟨_, rfl, .top _⟩, .refl _⟩
                rw [run_callB hc ho, h1]
                simp [builtin, Builtin.delete_, ats_head hats, ok.run_under hu, Go.MapKept.run_getObj_map hb, run_checkPlain hud hkd, run_findKey hud h3, run_setMap hb, hsame]
              · cases e
            · cases h
        · cases h
      · cases h
    · cases h
  · cases h
theorem x_copy (ok : EnvOk E) (hF : FR φ F a.tmps) (sim : SimL φ E H w) {c : Call} {o : Oper} {out : AOut} (hc : c.callee = .builtin .copy) (ho : o.op = .call c)
    (h : bCopy E H c.argTypes.toList o.type (evs F c.args.toList) = some out) : XOk φ E H w (execOp a.eval o) out := by
  unfold bCopy at h
  split at h
  · rename_i base dLen cap src hargs
    obtain ⟨d', s', h1, hd, hs⟩ := evs_two hF hargs
    split at h
    · rename_i dT rest hats
      split at h
      · rename_i el es n he hn
        obtain ⟨hu, hsz⟩ := EnvOk.elem he
        split at h
        · rename_i l hl
          obtain ⟨l', h2, h3⟩ := run_firstCells hl hs sim
          have h2 := h2 w rfl
          unfold bCopyTo at h
          split at h
          · cases h
            rcases hd.slice_inv with ⟨_, rfl⟩ | ⟨_, _, _, _, e, _⟩ | ⟨_, _, _, _, _, _, e, _⟩ | ⟨_, _, e, _⟩ <;> first | (cases e; done) | skip
            refine XOk.same (v' := .int .i64 (Nat.min n dLen)) ?_ (.gr _ rfl) sim
            rw [run_callB hc ho, h1]
            simp [builtin, Builtin.copy_, ats_head hats, ok.run_under hu, lenOf_run hn hs, ok.run_size hsz, h2, goInt]
          · rename_i A off sp
            split at h
            · rename_i H1 hw
              cases h
              have key : ∀ b k cap', φ A = some (b, k) → d' = .slice (some ⟨b, off, none⟩) dLen cap' → XOk φ E H w (execOp a.eval o) (.val (.int .i64 (Nat.min n dLen)) H1) := by
                rintro b k cap' hA rfl
                obtain ⟨w', h4, h5⟩ := run_write hw h3 (sim.block _) hA
                refine XOk.turned (nx := .value (.int .i64 (Nat.min n dLen))) ?_ h5 (.inl ⟨_, rfl, .gr _ rfl⟩) sim
                rw [run_callB hc ho, h1]
                simp [builtin, Builtin.copy_, ats_head hats, ok.run_under hu, lenOf_run hn hs, ok.run_size hsz, h2, h4, goInt]
              rcases hd.slice_inv with ⟨e, _⟩ | ⟨A', off', b, k, e, hA, rfl⟩ | ⟨A', off', b, k, es1, cap', e, hA, hcc, hk, rfl⟩ | ⟨a', cap', e, rfl, rfl, rfl⟩ <;> cases e
              · exact key b k _ hA rfl
              · exact key b k _ hA rfl
              · have hm : Nat.min n 0 = 0 := Nat.min_zero n
                rw [hm] at hl
                have := firstOf_zero hl
                subst this
                cases h3
                cases hw
                rw [hm] at h2
                refine XOk.same (v' := .int .i64 (Nat.min n 0)) ?_ (.gr _ rfl) sim
                rw [run_callB hc ho, h1]
                simp [builtin, Builtin.copy_, ats_head hats, ok.run_under hu, lenOf_run hn hs, ok.run_size hsz, h2, goInt, hm, storeCells]
            · cases h
        · cases h
      · cases h
    · cases h
  · cases h
theorem x_clear (ok : EnvOk E) (hF : FR φ F a.tmps) (sim : SimL φ E H w) {c : Call} {o : Oper} {out : AOut} (hc : c.callee = .builtin .clear) (ho : o.op = .call c)
    (h : bClear E H c.argTypes.toList o.type (evs F c.args.toList) = some out) : XOk φ E H w (execOp a.eval o) out := by
  unfold bClear at h
  split at h
  · rename_i dT rest hats
    split at h
    · rename_i el es he
      obtain ⟨hu, hsz⟩ := EnvOk.elem he
      split at h
      · rename_i n k hargs
        cases h
        obtain ⟨d', h1, hd⟩ := evs_one hF hargs
        rcases hd.slice_inv with ⟨_, rfl⟩ | ⟨_, _, _, _, e, _⟩ | ⟨_, _, _, _, _, _, e, _⟩ | ⟨_, _, e, _⟩ <;> first | (cases e; done) | skip
        refine XOk.same (v' := .tuple #[]) ?_ (.top _) sim
        rw [run_callB hc ho, h1]
        simp [builtin, Builtin.clear_, ats_head hats, ok.run_under hu]
      · rename_i ad k hargs
        cases h
        obtain ⟨d', h1, hd⟩ := evs_one hF hargs
        have : ∃ ad' k', d' = .slice (some ad') 0 k' := by
          rcases hd.slice_inv with ⟨e, _⟩ | ⟨_, _, b, m, e, hA, rfl⟩ | ⟨_, _, _, _, _, _, e, _, _, _, rfl⟩ | ⟨_, _, e, _, _, rfl⟩ <;> first | (cases e; done) | exact ⟨_, _, rfl⟩
        obtain ⟨ad', k', rfl⟩ := this
        refine XOk.same (v' := .tuple #[]) ?_ (.top _) sim
        rw [run_callB hc ho, h1]
        simp [builtin, Builtin.clear_, ats_head hats, ok.run_under hu]
      · rename_i A off sp n k hargs
        obtain ⟨d', h1, hd⟩ := evs_one hF hargs
        split at h
        · rename_i z hz
          obtain ⟨H1, hw, rfl⟩ := ounit_some h
          obtain ⟨zv, h2, h3, h4⟩ := zeroL_info (φ := φ) ok hz
          have key : ∀ b k0 cap', φ A = some (b, k0) → d' = .slice (some ⟨b, off, none⟩) (n + 1) cap' → XOk φ E H w (execOp a.eval o) (.val (.tuple #[]) H1) := by
            rintro b k0 cap' hA rfl
            obtain ⟨w', h5, h6⟩ := run_write hw (h4.zeros (n + 1)) (sim.block _) hA
            refine XOk.turned (nx := .value (.tuple #[])) ?_ h6 (.inl ⟨_, rfl, .top _⟩) sim
            rw [run_callB hc ho, h1]
            simp [builtin, Builtin.clear_, ats_head hats, ok.run_under hu, ok.run_zero h2, h3, zeroCells_zeros, h5]
          rcases hd.slice_inv with ⟨e, _⟩ | ⟨A', off', b, k, e, hA, rfl⟩ | ⟨A', off', b, k, es1, cap', e, hA, hcc, hk, rfl⟩ | ⟨a', cap', e, e', _⟩ <;> first | cases e | skip
          · exact key b _ _ hA rfl
          · exact key b _ _ hA rfl
          · cases e'
        · cases h
      · cases h
    · cases h
  · cases h
theorem x_sliceData (ok : EnvOk E) (hF : FR φ F a.tmps) (sim : SimL φ E H w) {c : Call} {o : Oper} {out : AOut} (hc : c.callee = .builtin .unsafeSliceData) (ho : o.op = .call c)
    (h : bSliceData E H c.argTypes.toList o.type (evs F c.args.toList) = some out) : XOk φ E H w (execOp a.eval o) out := by
  unfold bSliceData at h
  split at h
  · rename_i n k hargs
    cases h
    obtain ⟨d', h1, hd⟩ := evs_one hF hargs
    rcases hd.slice_inv with ⟨_, rfl⟩ | ⟨_, _, _, _, e, _⟩ | ⟨_, _, _, _, _, _, e, _⟩ | ⟨_, _, e, _⟩ <;> first | (cases e; done) | skip
    refine XOk.same (v' := .pointer none) ?_ (.gr _ rfl) sim
    rw [run_callB hc ho, h1]
    have e0 : ∀ x y, Builtin.unsafeSliceData_ x y #[.slice none n k] = pure (.pointer none) := fun _ _ => rfl
    simp only [builtin, e0, Sem.run_bind, Sem.run_pure, Result.andThen_ok]
  · rename_i A off n k hargs
    cases h
    obtain ⟨d', h1, hd⟩ := evs_one hF hargs
    rcases hd.slice_inv with ⟨e, _⟩ | ⟨_, _, b, m, e, hA, rfl⟩ | ⟨_, _, _, _, _, _, e, _⟩ | ⟨_, _, e, _⟩ <;> cases e
    refine XOk.same (v' := .pointer (some ⟨b, off, none⟩)) ?_ (.ptr _ _ _ _ hA) sim
    rw [run_callB hc ho, h1]
    have e0 : ∀ x y, Builtin.unsafeSliceData_ x y #[.slice (some ⟨b, off, none⟩) n (k + 1)] = pure (.pointer (some ⟨b, off, none⟩)) := fun _ _ => rfl
    simp only [builtin, e0, Sem.run_bind, Sem.run_pure, Result.andThen_ok]
  · rename_i A off sp n k hargs
    cases h
    obtain ⟨d', h1, hd⟩ := evs_one hF hargs
    rcases hd.slice_inv with ⟨e, _⟩ | ⟨_, _, _, _, e, _⟩ | ⟨_, _, b, m, _, cap', e, hA, hcc, _, rfl⟩ | ⟨_, _, e, _⟩ <;> cases e
    refine XOk.same (v' := .pointer (some ⟨b, off, none⟩)) ?_ (.ptr _ _ _ _ hA) sim
    rw [run_callB hc ho, h1]
    obtain ⟨k', rfl⟩ : ∃ k', cap' = k' + 1 := ⟨cap' - 1, by omega⟩
    have e0 : ∀ x y, Builtin.unsafeSliceData_ x y #[.slice (some ⟨b, off, none⟩) n (k' + 1)] = pure (.pointer (some ⟨b, off, none⟩)) := fun _ _ => rfl
    simp only [builtin, e0, Sem.run_bind, Sem.run_pure, Result.andThen_ok]
  · cases h

/-! ### unsafe.String -/
theorem bytesL_some (l : List Value) : ∀ (bs : List UInt8), bytesL l = some bs → ∃ ns : List Nat, l = ns.map (fun n : Nat => Value.int .u8 ((n : Nat) : Int)) ∧ bs = ns.map (·.toUInt8) := by
  induction l with
  | nil => intro bs h; cases h; exact ⟨[], rfl, rfl⟩
  | cons v r ih =>
    intro bs h
    unfold bytesL at h
    split at h
    · rename_i e; cases e
    · rename_i n r' e
      injection e with e1 e2
      subst e1; subst e2
      split at h
      · rename_i l hl
        cases h
        obtain ⟨ns, h1, h2⟩ := ih _ hl
        exact ⟨n :: ns, by rw [h1]; rfl, by rw [h2]; rfl⟩
      · cases h
    · cases h
theorem run_loadB {P : Program} {b : Nat} {C : Array Value} {e : TypeId} {f : Nat × Nat} (h : w.heap[b]? = some (.cells C e f)) : ∀ (ns : List Nat) (off : Nat) (acc : ByteArray), (∀ j n, ns[j]? = some n → C[off + j]? = some (.int .u8 ((n : Nat) : Int))) →
    (loadBytes ⟨b, off, none⟩ acc ns.length).run P w = .ok ⟨acc.data ++ (ns.map (·.toUInt8)).toArray⟩ w
  | [], off, acc, _ => by simp [loadBytes]
  | x :: l, off, acc, hc => by
    have h0 : C[off]? = some (.int .u8 ((x : Nat) : Int)) := hc 0 x rfl
    have ih := run_loadB (P := P) h l (off + 1) (acc.push x.toUInt8) (fun j y hy => by
      have := hc (j + 1) y (by simpa using hy)
      rw [show off + 1 + j = off + (j + 1) by omega]; exact this)
    have hx : ((x : Int).toNat).toUInt8 = x.toUInt8 := by simp
    simp only [List.length_cons, loadBytes, Sem.run_bind, run_load h h0, Result.andThen_ok, hx, add_at]
    rw [ih]
    congr 1
    apply ByteArray.ext
    simp [ByteArray.push]
theorem freeze_wset {b n : Nat} {C : Array Value} {e : TypeId} {lo hi : Nat} (h : w.heap[b]? = some (.cells C e (lo, hi))) : w.freeze ⟨b, 0, none⟩ (n + 1) = wset w b (.cells C e (if lo == hi then (0, 0 + (n + 1)) else (min lo 0, max hi (0 + (n + 1))))) := by
  unfold World.freeze wset
  rw [if_neg (by omega)]
  congr 1
  apply Array.ext_getElem?
  intro i
  rw [Array.getElem?_modify, Array.getElem?_setIfInBounds]
  by_cases hi' : b = i
  · subst hi'; simp [h]; exact (Array.getElem?_eq_some_iff.1 h).1
  · simp [hi']
theorem unsafeString_def {P : Program} {ats : Array TypeId} {pt : TypeId} (ty : TypeId) (p : Option Addr) (n : Nat) (h : ats[0]? = some pt) (hn : n ≤ 1048577) :
    (Builtin.unsafeString_ ats ty #[.pointer p, .int .i64 (n : Int)]).run P w = ((match p with
      | none => if n = 0 then pure (.string .empty) else runtimePanic (.error "unsafe.String: ptr is nil and len is not zero")
      | some a => if n = 0 then pure (.string .empty)
        else do
          if ← variablesAt a (← elemOf pt) n then do
            let s ← loadBytes a .empty n
            freeze a n
            pure (.string s)
          else unsupported (.unsafePointer "String: not so many bytes at ptr")) : Sem Value).run P w := by
  have hmax : IntKind.i64.max = 9223372036854775807 := rfl
  have hneg : ¬ (n : Int) < 0 := by omega
  have h63' : ¬ (9223372036854775807 : Int) < (n : Int) := by omega
  cases p with
  | none =>
    have hdef : Builtin.unsafeString_ ats ty #[.pointer none, .int .i64 (n : Int)] =
        (do
          let n ← asInt (.int .i64 (n : Int))
          let some pt := ats[0]? | stuck "unsafe.String: no argument types"
          if n < 0 then runtimePanic (.error "unsafe.String: len out of range")
          if n > IntKind.i64.max then unsupported (.unsafePointer "String: a length above the largest int")
          if n = 0 then pure (.string .empty)
          else runtimePanic (.error "unsafe.String: ptr is nil and len is not zero")) := rfl
    rw [hdef]
    simp [asInt, asIntOf, h, hmax, hneg, h63']
  | some a =>
    have hdef : Builtin.unsafeString_ ats ty #[.pointer (some a), .int .i64 (n : Int)] =
        (do
          let n ← asInt (.int .i64 (n : Int))
          let some pt := ats[0]? | stuck "unsafe.String: no argument types"
          if n < 0 then runtimePanic (.error "unsafe.String: len out of range")
          if n > IntKind.i64.max then unsupported (.unsafePointer "String: a length above the largest int")
          if n = 0 then pure (.string .empty)
          else if ← variablesAt a (← elemOf pt) n.toNat then do
            let s ← loadBytes a .empty n.toNat
            freeze a n.toNat
            pure (.string s)
          else unsupported (.unsafePointer "String: not so many bytes at ptr")) := rfl
    rw [hdef]
    simp [asInt, asIntOf, h, hmax, hneg, h63']
theorem x_string (ok : EnvOk E) (hF : FR φ F a.tmps) (sim : SimL φ E H w) {c : Call} {o : Oper} {out : AOut} (hc : c.callee = .builtin .unsafeString) (ho : o.op = .call c)
    (h : bString E H c.argTypes.toList o.type (evs F c.args.toList) = some out) : XOk φ E H w (execOp a.eval o) out := by
  unfold bString at h
  split at h
  · rename_i pt rest hats
    have h0 := ats_head hats
    split at h
    · rename_i hargs
      cases h
      obtain ⟨p', n', h1, hp, hn⟩ := evs_two hF hargs
      rw [hp.of_ground rfl, hn.of_ground rfl] at h1
      refine XOk.same (v' := .string .empty) ?_ (.gr _ rfl) sim
      rw [run_callB hc ho, h1]
      have hd := unsafeString_def (P := E.prog) (w := w) o.type none 0 h0 (by omega)
      have hd : (Builtin.unsafeString_ c.argTypes o.type #[.pointer none, .int .i64 (Int.ofNat 0)]).run E.prog w = .ok (.string .empty) w := hd
      simp only [builtin, Sem.run_bind, hd, Result.andThen_ok, Sem.run_pure]
    · rename_i A n hargs
      obtain ⟨p', n', h1, hp, hn⟩ := evs_two hF hargs
      obtain ⟨b, m, hA, rfl⟩ := hp.ptr_inv
      rw [hn.of_ground rfl] at h1
      unfold bStringAt at h
      split at h
      · cases h
        refine XOk.same (v' := .string .empty) ?_ (.gr _ rfl) sim
        rw [run_callB hc ho, h1]
        have hd := unsafeString_def (P := E.prog) (w := w) o.type (some ⟨b, 0, none⟩) 0 h0 (by omega)
        have hd : (Builtin.unsafeString_ c.argTypes o.type #[.pointer (some ⟨b, 0, none⟩), .int .i64 (Int.ofNat 0)]).run E.prog w = .ok (.string .empty) w := hd
        simp only [builtin, Sem.run_bind, hd, Result.andThen_ok, Sem.run_pure]
      · rename_i k
        split at h
        · rename_i u e cs fz ex hu hg
          split at h
          · rename_i l hue hbe ht
            split at h
            · rename_i bs hbs
              cases h
              rw [Bool.and_eq_true, Bool.and_eq_true, Bool.and_eq_true] at hbe
              have hue' : u = e := Nat.eq_of_beq_eq_true hbe.1
              have hk := Nat.le_of_ble_eq_true hbe.2.2.1
              have hfzb := Nat.le_of_ble_eq_true hbe.2.2.2
              have hs1 : E.size e = some 1 := by
                have := hbe.2.1
                unfold sizeOne at this
                split at this
                · assumption
                · cases this
              subst hue'
              obtain ⟨c', hb, C, lo, hi, rfl, hsz, hle, hex, hrel, hfr, hlo2⟩ := sim.block A b m _ hA hg
              have hlo : lo = 0 := by
                rcases hlo2 with h | h
                · exact h.1
                · have := h.2; unfold big at this; omega
              obtain ⟨rfl, htl⟩ := takeN_some _ _ _ ht
              obtain ⟨ns, hns, rfl⟩ := bytesL_some _ _ hbs
              have hnl : ns.length = k + 1 := by
                have := congrArg List.length hns
                simp at this
                omega
              have hC : ∀ j n, ns[j]? = some n → C[0 + j]? = some (.int .u8 ((n : Nat) : Int)) := by
                intro j n hj
                have hjl := (List.getElem?_eq_some_iff.1 hj).1
                have h3 : (cs.take (k + 1))[j]? = some (.int .u8 ((n : Nat) : Int)) := by rw [hns, List.getElem?_map, hj]; rfl
                rw [List.getElem?_take, if_pos (by omega)] at h3
                obtain ⟨v', h4, h5⟩ := hrel j _ h3
                rw [h5.int_inv] at h4
                rw [Nat.zero_add]; exact h4
              have hlb := run_loadB (P := E.prog) hb ns 0 .empty hC
              rw [hnl] at hlb
              have hcell : E.prog.cellsOf u = 1 := by
                obtain ⟨i, hi1, hi2⟩ := size_info ok hs1
                unfold Program.cellsOf
                rw [hi1]; exact hi2
              have hlies := Lib.liesAt_bytes (P := E.prog) (e := u) hcell (C.size / E.prog.cellsOf u) (k + 1) (by rw [hcell]; simp; omega)
              refine XOk.turned (w' := wset w b (.cells C u (if lo == hi then (0, 0 + (k + 1)) else (min lo 0, max hi (0 + (k + 1)))))) (nx := .value (.string ⟨(ns.map (·.toUInt8)).toArray⟩)) (A := A) ?_
                (.inr ⟨b, m, _, _, _, hA, hg, by simp, rfl, rfl, C, (if lo == hi then 0 else min lo 0), (if lo == hi then 0 + (k + 1) else max hi (0 + (k + 1))), by split <;> rfl, hsz, hle, hex, hrel, ?_, .inl ⟨by split <;> simp, by
                  have h12 : Nat.max fz (k + 1) ≤ 1048577 := Nat.max_le.2 ⟨hfzb, by omega⟩
                  unfold big; omega⟩⟩)
                (.inl ⟨_, rfl, .gr _ rfl⟩) sim
              · rw [run_callB hc ho, h1]
                have hd := unsafeString_def (P := E.prog) (w := w) o.type (some ⟨b, 0, none⟩) (k + 1) h0 (by omega)
                have hsh : w.shape? b = some (u, C.size) := by simp [World.shape?, hb]
                have hfz := freeze_wset (n := k) hb
                have hd : (Builtin.unsafeString_ c.argTypes o.type #[.pointer (some ⟨b, 0, none⟩), .int .i64 (Int.ofNat (k + 1))]).run E.prog w = .ok (.string ⟨(ns.map (·.toUInt8)).toArray⟩) (w.freeze ⟨b, 0, none⟩ (k + 1)) := by
                  refine Eq.trans hd ?_
                  simp [variablesAt, hsh, elemOf, ok.run_under hu, hlies, hlb]
                simp only [builtin, Sem.run_bind, hd, Result.andThen_ok, Sem.run_pure, hfz]
              · intro j hj1 hj2
                have hm : fz ≤ Nat.max fz (k + 1) ∧ k + 1 ≤ Nat.max fz (k + 1) := ⟨Nat.le_max_left _ _, Nat.le_max_right _ _⟩
                split at hj2
                · left; omega
                · rename_i hne
                  rcases Nat.lt_or_ge j hi with h8 | h8
                  · rcases hfr j (by omega) h8 with h9 | h9
                    · left; omega
                    · right; omega
                  · left; omega
            · cases h
          · cases h
        · cases h
    · cases h
  · cases h
end Go.Abs
set_option linter.unusedVariables false
set_option linter.unusedSimpArgs false
namespace Go.Abs
open Go.MapKept
variable {φ : Phi} {E : Env} {F : Fr} {a : Act} {H : AHeap} {w : World}

theorem up_range {t : TypeId} {x : Value} {out : AOut} (h : aRange E t H x = some out) : (outH out).size = H.size + 1 := by
  unfold aRange at h
  repeat' (split at h)
  all_goals first | (cases h; done) | (cases h; exact new_size _ _)
theorem x_range (ok : EnvOk E) (hF : FR φ F a.tmps) (sim : SimL φ E H w) {out : AOut} (hf : H.size < (outH out).size → φ H.size = none) {t : TypeId} {x : Operand} {o : Oper} (h : xRange t x E o F H = some out) : XOk φ E H w (do pure (.value (← Instr.range t (a.eval x)))) out := by
  replace hf : φ H.size = none := hf (by rw [up_range (h : aRange E t H (ev x F) = some out)]; omega)
  have hx := ev_rel hF x
  have mk : ∀ ao c, ObjRel (φ.add H.size w.heap.size 0) E 0 ao c → (Instr.range t (a.eval x)).run E.prog w = .ok (.pointer (some ⟨w.heap.size, 0, none⟩)) (wpush w c) → newAt H ao = some out → XOk φ E H w (do pure (.value (← Instr.range t (a.eval x)))) out := by
    intro ao c hr hrun hn
    cases hn
    obtain ⟨h5, h6⟩ := sim.alloc hf 0 ao c hr
    refine ⟨_, _, .value (.pointer (some ⟨w.heap.size, 0, none⟩)), ?_, by rw [new_size]; exact h6, h5, .inl ⟨_, rfl, .ptr _ _ _ _ (Phi.add_at ..)⟩, .new _ _⟩
    simp only [Sem.run_bind, hrun, Result.andThen_ok, Sem.run_pure]
  replace h : aRange E t H (ev x F) = some out := h
  unfold aRange at h
  split at h
  · rename_i s hu hxe
    rw [hxe] at hx
    have e := hx.of_ground rfl
    refine mk (.siter s 0) (.stringIter s 0) rfl ?_ h
    rw [e]
    simp only [Instr.range, Sem.run_bind, ok.run_under hu, Result.andThen_ok, Sem.run_pure, run_newObj]; rfl
  · rename_i kt el hu hxe
    rw [hxe] at hx
    have e := hx.of_ground rfl
    refine mk (.miter none 0 [] 0) (.mapIter none 0 #[] 0) rfl ?_ h
    rw [e]
    simp only [Instr.range, Sem.run_bind, ok.run_under hu, Result.andThen_ok, Sem.run_pure, run_newObj]; rfl
  · rename_i kt el m hu hxe
    split at h
    · rename_i es clock hg
      rw [hxe] at hx
      obtain ⟨b, n, hA, hxv⟩ : ∃ b n, φ m = some (b, n) ∧ a.eval x = .map (some b) := by
        generalize a.eval x = xv at hx
        cases hx with
        | gr _ hg => cases hg
        | map _ b n hA => exact ⟨b, n, hA, rfl⟩
      obtain ⟨c', hb, es', rfl, hm⟩ := sim.block m b n _ hA hg
      refine mk (.miter (some m) clock [] clock) (.mapIter (some b) clock #[] clock) ⟨b, n, Phi.add_ext hf _ _ hA, rfl⟩ ?_ h
      rw [hxv]
      simp only [Instr.range, Sem.run_bind, ok.run_under hu, Result.andThen_ok, Sem.run_pure, Go.MapKept.run_getObj_map hb, run_newObj]; rfl
    · cases h
  · cases h

theorem run_getIter {P : Program} {r : Nat} {o : Obj} (hb : w.heap[r]? = some o) (hn : ∀ C e f, o ≠ .cells C e f) : (getObj r).run P w = .ok o w := by
  cases o <;> first | (exact absurd rfl (hn _ _ _)) | simp [getObj, Sem.run, hb]
theorem run_setIter {P : Program} {r : Nat} {o : Obj} (o' : Obj) (hb : w.heap[r]? = some o) (hn : ∀ C e f, o ≠ .cells C e f) : (setObj r o').run P w = .ok () (wset w r o') := by
  cases o <;> first | (exact absurd rfl (hn _ _ _)) | (simp [setObj, Sem.run, hb, wset])
theorem MRel.filter (p : Nat → Bool) : ∀ {l l' : List MapEntry}, MRel φ l l' → MRel φ (l.filter fun e => p e.born) (l'.filter fun e => p e.born)
  | _, _, .nil => .nil
  | _, _, .cons e e' l l' he hs => by
    simp only [List.filter_cons, he.born]
    split
    · exact .cons _ _ _ _ he (MRel.filter p hs)
    · exact MRel.filter p hs
theorem MRel.all (p : Nat → Bool) : ∀ {l l' : List MapEntry}, MRel φ l l' → (l'.all fun e => p e.born) = l.all fun e => p e.born
  | _, _, .nil => rfl
  | _, _, .cons e e' l l' he hs => by simp only [List.all_cons, he.born, MRel.all p hs]
theorem filter_arr (p : MapEntry → Bool) (l : List MapEntry) : (⟨l⟩ : Array MapEntry).filter p = ⟨l.filter p⟩ := by
  apply Array.ext'; simp

theorem x_next (ok : EnvOk E) (hF : FR φ F a.tmps) (sim : SimL φ E H w) {it : Operand} {isS : Bool} {ty : TypeId} {o : Oper} {out : AOut} (h : xNext it isS E o F H = some out) : XOk φ E H w (do pure (.value (← Instr.next (a.eval it) isS ty))) out := by
  have hx := ev_rel hF it
  replace h : aNext H isS (ev it F) = some out := h
  unfold aNext at h
  split at h
  · rename_i r hit
    rw [hit] at hx
    obtain ⟨b, n, hA, he⟩ := hx.ptr_inv
    rw [he]
    split at h
    · rename_i s pos hg
      obtain ⟨c, hb, hr⟩ := sim.block r b n _ hA hg
      have hr : c = .stringIter s pos := hr
      subst hr
      have hget := run_getIter (P := E.prog) hb (by simp)
      unfold nextStr at h
      split at h
      · rename_i hle
        cases h
        have hle := Nat.le_of_ble_eq_true hle
        rw [str_length] at hle
        refine XOk.same (v' := .tuple #[.bool false]) ?_ (.tuple _ _ _ _ (.cons _ _ _ _ (.gr _ rfl) .nil)) sim
        have : ¬ pos < s.size := by omega
        simp [Instr.next, hget, this]
      · rename_i hle
        cases h
        have hlt : pos < s.size := by
          rcases Nat.lt_or_ge pos s.size with h1 | h1
          · exact h1
          · rw [← str_length] at h1; rw [Nat.ble_eq_true_of_le h1] at hle; cases hle
        refine XOk.turned (w' := wset w b (.stringIter s (pos + (Utf8.decode s pos).2))) (nx := .value (.tuple #[.bool true, .int .i64 pos, .int .i32 (Utf8.decode s pos).1])) (A := r) ?_
          (.inr ⟨b, n, _, _, _, hA, hg, by simp, rfl, rfl, rfl⟩) (.inl ⟨_, rfl, .tuple _ _ _ _ (.cons _ _ _ _ (.gr _ rfl) (.cons _ _ _ _ (.gr _ rfl) (.cons _ _ _ _ (.gr _ rfl) .nil)))⟩) sim
        simp [Instr.next, hget, hlt, run_setIter _ hb, goInt]
    · rename_i s1 s2 s3 hg
      cases h
      obtain ⟨c, hb, hr⟩ := sim.block r b n _ hA hg
      have hr : c = .mapIter none s1 ⟨s2⟩ s3 := hr
      subst hr
      have hget := run_getIter (P := E.prog) hb (by simp)
      refine XOk.same (v' := .tuple #[.bool false]) ?_ (.tuple _ _ _ _ (.cons _ _ _ _ (.gr _ rfl) .nil)) sim
      simp [Instr.next, hget]
    · rename_i m since seen last hg
      obtain ⟨c, hb, rb, rn, hAm, rfl⟩ := sim.block r b n _ hA hg
      have hget := run_getIter (P := E.prog) hb (by simp)
      unfold nextMap at h
      split at h
      · rename_i es clock hgm
        obtain ⟨c', hbm, es', rfl, hm⟩ := sim.block m rb rn _ hAm hgm
        have hgetm := Go.MapKept.run_getObj_map (P := E.prog) hbm
        split at h
        · cases h
        · rename_i hstall
          have hall := hm.all (fun x => Nat.ble last x)
          have hemp : (⟨es'⟩ : Array MapEntry).isEmpty = es.isEmpty := by
            have := hm.length
            cases es <;> cases es' <;> simp_all
          have hst : (!(⟨seen⟩ : Array Nat).isEmpty && !(⟨es'⟩ : Array MapEntry).isEmpty && (⟨es'⟩ : Array MapEntry).all (fun x => decide (x.born ≥ last))) = false := by
            rw [hemp]
            have e1 : (⟨es'⟩ : Array MapEntry).all (fun x => decide (x.born ≥ last)) = es.all (fun e => Nat.ble last e.born) := by
              rw [← hall]
              simp
              congr 1
              funext x
              exact (by
                by_cases hx : last ≤ x.born
                · rw [Nat.ble_eq_true_of_le hx]; simp [hx]
                · have : Nat.ble last x.born = false := by
                    cases hb : Nat.ble last x.born with
                    | false => rfl
                    | true => exact absurd (Nat.le_of_ble_eq_true hb) hx
                  rw [this]; simp; omega)
            rw [e1]
            simpa using hstall
          have hfl := hm.filter (fun x => !seen.contains x)
          split at h
          · rename_i hfe
            cases h
            rw [hfe] at hfl
            generalize hfe' : (es'.filter fun e => !seen.contains e.born) = fl at hfl
            cases hfl
            refine XOk.same (v' := .tuple #[.bool false]) ?_ (.tuple _ _ _ _ (.cons _ _ _ _ (.gr _ rfl) .nil)) sim
            have hfe'' : (⟨es'⟩ : Array MapEntry).filter (fun e => !(⟨seen⟩ : Array Nat).contains e.born) = #[] := by
              rw [filter_arr]
              simp at hfe' ⊢
              exact hfe'
            simp only [Instr.next, Sem.run_bind, hget, Result.andThen_ok, hgetm, hst, hfe'']
            simp [Question.forced]
          · rename_i e hfe
            split at h
            · cases h
            · rename_i hsince
              cases h
              rw [hfe] at hfl
              generalize hfe' : (es'.filter fun e => !seen.contains e.born) = fl at hfl
              cases hfl with
              | cons _ e' _ l' hee hs =>
                cases hs
                have hlt : e'.born < since := by
                  rw [hee.born]
                  rcases Nat.lt_or_ge e.born since with h1 | h1
                  · exact h1
                  · rw [Nat.ble_eq_true_of_le h1] at hsince; cases hsince
                have hfe'' : (⟨es'⟩ : Array MapEntry).filter (fun e => !(⟨seen⟩ : Array Nat).contains e.born) = #[e'] := by
                  rw [filter_arr]
                  simp at hfe' ⊢
                  exact hfe'
                refine XOk.turned (w' := wset w b (.mapIter (some rb) since ⟨seen ++ [e'.born]⟩ clock)) (nx := .value (.tuple #[.bool true, e'.key, e'.val])) (A := r) ?_
                  (.inr ⟨b, n, _, _, _, hA, hg, by simp, rfl, rfl, rb, rn, hAm, by rw [hee.born]⟩) (.inl ⟨_, rfl, .tuple _ _ _ _ (.cons _ _ _ _ (.gr _ rfl) (.cons _ _ _ _ (by rw [hee.key]; exact .gr _ hee.grd) (.cons _ _ _ _ hee.val .nil)))⟩) sim
                simp only [Instr.next, Sem.run_bind, hget, Result.andThen_ok, hgetm, hst, hfe'']
                have hnlt : ¬ since ≤ e'.born := by omega
                simp [Question.forced, hlt, hnlt, run_setIter _ hb]
          · cases h
      · cases h
    · cases h
  · cases h
theorem lastN_eq : ∀ l : List Nat, lastN l = l.getLast?
  | [] => rfl
  | [n] => rfl
  | n :: m :: r => by
    unfold lastN
    rw [lastN_eq (m :: r), List.getLast?_cons_cons]
theorem bornAt_rel {stamp : Nat} : ∀ {l l' : List MapEntry} {e : MapEntry}, MRel φ l l' → bornAt stamp l = some e → ∃ e', l'.find? (fun x => x.born == stamp) = some e' ∧ ERel φ e e'
  | _, _, e, .nil, h => by cases h
  | _, _, e, .cons x x' l l' hx hs, h => by
    unfold bornAt at h
    rw [List.find?_cons, hx.born]
    split at h
    · rename_i hb
      have hb : x.born = stamp := Nat.eq_of_beq_eq_true hb
      have e1 : (x.born == stamp) = true := by simpa using hb
      rw [e1]
      cases h
      exact ⟨x', rfl, hx⟩
    · rename_i hb
      have hb : ¬ x.born = stamp := by rw [nbeq_eq] at hb; simpa using hb
      have e1 : (x.born == stamp) = false := by simpa using hb
      rw [e1]
      exact bornAt_rel hs h
theorem x_entry (ok : EnvOk E) (hF : FR φ F a.tmps) (sim : SimL φ E H w) {it : Operand} {o : Oper} {out : AOut} (h : xEntry it E o F H = some out) : XOk φ E H w (do pure (.value (← Instr.entry (a.eval it)))) out := by
  have hx := ev_rel hF it
  obtain ⟨v, h2, rfl⟩ := oval_some (show oval H (aEntry H (ev it F)) = some out from h)
  replace h := h2
  clear h2
  unfold aEntry at h
  split at h
  · rename_i r hit
    rw [hit] at hx
    obtain ⟨b, n, hA, he⟩ := hx.ptr_inv
    rw [he]
    split at h
    · rename_i m since seen stepped hg
      split at h
      · rename_i stamp es clock hl hgm
        split at h
        · rename_i e hc hb
          cases h
          obtain ⟨c, hbk, rb, rn, hAm, rfl⟩ := sim.block r b n _ hA hg
          obtain ⟨c', hbm, es', rfl, hm⟩ := sim.block m rb rn _ hAm hgm
          have hget := run_getIter (P := E.prog) hbk (by simp)
          have hgetm := Go.MapKept.run_getObj_map (P := E.prog) hbm
          obtain ⟨e', h1, h2⟩ := bornAt_rel hm hb
          have hc : clock = stepped := Nat.eq_of_beq_eq_true hc
          subst hc
          rw [lastN_eq] at hl
          have hback : (⟨seen⟩ : Array Nat).back? = some stamp := by rw [← hl]; simp
          have hfind : (⟨es'⟩ : Array MapEntry).find? (fun x => x.born == stamp) = some e' := by rw [← h1]; simp
          refine XOk.same (v' := .tuple #[e'.key, e'.val]) ?_ (.tuple _ _ _ _ (.cons _ _ _ _ (by rw [h2.key]; exact .gr _ h2.grd) (.cons _ _ _ _ h2.val .nil))) sim
          simp [Instr.entry, hget, hback, hgetm, hfind]
        · cases h
      · cases h
    · cases h
  · cases h
end Go.Abs
