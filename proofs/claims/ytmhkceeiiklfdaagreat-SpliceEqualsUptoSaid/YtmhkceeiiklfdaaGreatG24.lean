/- A part of the proof of SpliceEqualsUptoSaid (texts: GrCls2 GrLoop GrRead). No conditions. -/
import Derived.Test.YtmhkceeiiklfdaaGreatG16
import Derived.Lib.SliceRun
import Derived.WalkKit
import Derived.Test.YtmhkceeiiklfdaaGreatG23
import Derived.Test.YtmhkceeiiklfdaaGreatRows
import Derived.ChangeArms
set_option linter.unusedVariables false
set_option linter.unusedSimpArgs false
set_option linter.unusedVariables false
set_option linter.unusedSimpArgs false
set_option maxRecDepth 20000
namespace Go.Proofs.YtmhkceeiiklfdaaGreat
open Go.RowKit
/-- the values are those of the cells of a slice -/
def SrcOf (w : World) (v : Value) (xs : List Value) : Prop := ∀ b off n c, v = .slice (some ⟨b, off, none⟩) n c → ∀ (j : Nat) (u : Value), xs[j]? = some u → w.cell? ⟨b, off + j, none⟩ = some u
/-- slices.Clone, with the values -/
def ClC2 (f : FuncId) (st et : TypeId) (sz : Nat) (P : List T → Prop) : Prop := ∀ (w : World) (d : Nat) (es : List (List T)) (v : Value), Rd w d (.sl es) v → (∀ c ∈ es, P c) →
    Calls Tryz.prog f #[v] w fun e w' => ∃ v' xs, e = .returned v' ∧ w'.ownsRow w.heap.size et sz v' es.length xs ∧ RdAL (fun b => b < w.heap.size) w' (d - 1) es.flatten xs ∧ Below w.heap.size w w' ∧ SrcOf w v xs
theorem src_rd {w0 W W' : World} {d : Nat} {es : List (List T)} {v : Value} {xs : List Value} (h : Rd w0 (d + 1) (.sl es) v) (hb : Below w0.heap.size w0 W) (hb' : Below w0.heap.size w0 W') (hs : SrcOf W v xs) (hl : xs.length = es.flatten.length) : RdAL (fun b => b < w0.heap.size) W' d es.flatten xs := by
  obtain ⟨a, cap, rfl, h2, h3, h4⟩ := h
  rcases h4 with h4 | ⟨b, off, C, el, fr, rfl, h5, h6⟩
  · rw [h4] at hl ⊢
    obtain rfl := List.eq_nil_of_length_eq_zero hl
    exact RdAL.mk_nil
  · refine ⟨hl, fun i t ht => ?_⟩
    obtain ⟨u, h7, h8⟩ := h6 i t ht
    have hi : i < xs.length := by rw [hl]; exact (List.getElem?_eq_some_iff.1 ht).1
    have h9 := hs b off _ _ rfl i _ (List.getElem?_eq_getElem hi)
    have h10 : W.cell? ⟨b, off + i, none⟩ = some u := by
      rw [hb.cell (p := ⟨b, off + i, none⟩) (heap_lt h5)]
      simp [World.cell?, h5, h7]
    rw [h9] at h10
    refine ⟨u, by rw [List.getElem?_eq_getElem hi]; exact h10, h8.rdA.frame (fun _ h => h) (fun b hb2 => hb'.block b hb2)⟩
theorem infos168 : (Tryz.prog.info? 168).map (fun i => (i.zero, i.size, i.bytes)) = some (some (.agg #[.int .i64 0, .int .i64 0, .string { data := #[] }, .int .i64 0, .int .i64 0, .slice none 0 0]), 6, 72) := by kernel_rfl
set_option maxHeartbeats 2000000 in
theorem cls238 (P : List T → Prop) (hl : ∀ c, P c → c.length = 6) : ClC2 238 35 168 6 P := by
  intro w d es v he pe
  obtain ⟨i0, hi, hz0, hz1, hz2⟩ := info_parts infos168
  obtain ⟨a, cap, rfl, hn, hcap, hcell⟩ := he.rows (sz := 6) (fun c hc => hl c (pe c hc)) (by omega)
  clear he
  have q : ∀ (w : World) (a : Option Addr) (n c n' c' : Nat), (binOp .eql 35 (.slice a n c) (.slice none n' c')).run Tryz.prog w = .ok (.bool a.isNone) w := fun w a n c n' c' => Lib.run_eql_slice_nil w _ _ a n c n' c' Tryz.underlying35
  by_cases hz : es.length = 0
  · have e1 : es = [] := List.eq_nil_of_length_eq_zero hz
    subst e1
    clear hcell
    cases a with
    | none =>
      go_enter Tryz.func238, Tryz.ntmps238
      go_wp2
      go_ret
      exact ⟨_, [], rfl, World.ownsRow_nil _ _ _ _, RdAL.mk_nil, Below.refl _ _, fun _ _ _ _ _ j u h => by simp at h⟩
    | some ad =>
      go_enter Tryz.func238, Tryz.ntmps238
      go_wp2_with (at_builtin; refine wpList_append_own _ rfl _ _ 35 rfl w.heap.size 168 i0 (.agg #[.int .i64 0, .int .i64 0, .string { data := #[] }, .int .i64 0, .int .i64 0, .slice none 0 0]) 6 72 Tryz.underlying35 hi hz0 hz1 hz2 rfl (by decide) _ _ _ rfl (World.ownsRow_made w #[] 0 (Nat.le_refl _) (Nat.zero_le _) rfl) ad 0 cap [] rfl rfl (by intro j u hj; simp at hj) (by intro u hu; cases hu) (by unfold maxLen; omega) (by omega) (by simp) ?_)
      intro v' w1 hown hgrow hnil
      go_wp2
      go_ret
      refine ⟨v', [], rfl, by simpa using hown, RdAL.mk_nil, ?_, fun _ _ _ _ _ j u h => by simp at h⟩
      exact ((Below.refl _ w).alloc (Nat.le_refl _) _).grown hgrow (by simp) (by intro k hk; simp [Value.ownBlock] at hk; omega)
  obtain ⟨b, off, hb, rfl, U, hc, hr, ho⟩ := hcell (by omega)
  clear hcell
  obtain ⟨xs, hxl, hxc, hxo, hxr⟩ := rows_list (w := w) (b := b) (off := off) (sz := 6) (fun c hc => hl c (pe c hc)) hc hr ho
  clear hc hr ho
  go_enter Tryz.func238, Tryz.ntmps238
  go_wp2_with (at_builtin; refine wpList_append_own _ rfl _ _ 35 rfl w.heap.size 168 i0 (.agg #[.int .i64 0, .int .i64 0, .string { data := #[] }, .int .i64 0, .int .i64 0, .slice none 0 0]) 6 72 Tryz.underlying35 hi hz0 hz1 hz2 rfl (by decide) _ _ _ rfl (World.ownsRow_made w #[] 0 (Nat.le_refl _) (Nat.zero_le _) rfl) ⟨b, off, none⟩ es.length cap xs rfl ?qc1 ?qc2 ?qc3 ?qc4 ?qc5 ?qc6 ?_)
  case qc1 => exact hxl
  case qc2 =>
    intro j u hj
    rw [Addr.add_lit]
    exact Lib.cell?_alloc_some _ (hxc j u hj)
  case qc3 => exact hxo
  case qc4 => unfold maxLen; omega
  case qc5 => omega
  case qc6 => simp
  intro v' w1 hown hgrow hnil
  have hbl : Below w.heap.size w w1 := ((Below.refl _ w).alloc (Nat.le_refl _) _).grown hgrow (by simp) (by intro k hk; simp [Value.ownBlock] at hk; omega)
  go_wp2
  go_ret
  exact ⟨v', xs, rfl, by simpa using hown, hxr w1 hbl, hbl, fun b' off' n c e => by cases e; exact hxc⟩
theorem infos91 : (Tryz.prog.info? 91).map (fun i => (i.zero, i.size, i.bytes)) = some (some (.agg #[.int .i64 0, .slice none 0 0]), 2, 32) := by kernel_rfl
set_option maxHeartbeats 2000000 in
theorem cls239 (P : List T → Prop) (hl : ∀ c, P c → c.length = 2) : ClC2 239 36 91 2 P := by
  intro w d es v he pe
  obtain ⟨i0, hi, hz0, hz1, hz2⟩ := info_parts infos91
  obtain ⟨a, cap, rfl, hn, hcap, hcell⟩ := he.rows (sz := 2) (fun c hc => hl c (pe c hc)) (by omega)
  clear he
  have q : ∀ (w : World) (a : Option Addr) (n c n' c' : Nat), (binOp .eql 36 (.slice a n c) (.slice none n' c')).run Tryz.prog w = .ok (.bool a.isNone) w := fun w a n c n' c' => Lib.run_eql_slice_nil w _ _ a n c n' c' Tryz.underlying36
  by_cases hz : es.length = 0
  · have e1 : es = [] := List.eq_nil_of_length_eq_zero hz
    subst e1
    clear hcell
    cases a with
    | none =>
      go_enter Tryz.func239, Tryz.ntmps239
      go_wp2
      go_ret
      exact ⟨_, [], rfl, World.ownsRow_nil _ _ _ _, RdAL.mk_nil, Below.refl _ _, fun _ _ _ _ _ j u h => by simp at h⟩
    | some ad =>
      go_enter Tryz.func239, Tryz.ntmps239
      go_wp2_with (at_builtin; refine wpList_append_own _ rfl _ _ 36 rfl w.heap.size 91 i0 (.agg #[.int .i64 0, .slice none 0 0]) 2 32 Tryz.underlying36 hi hz0 hz1 hz2 rfl (by decide) _ _ _ rfl (World.ownsRow_made w #[] 0 (Nat.le_refl _) (Nat.zero_le _) rfl) ad 0 cap [] rfl rfl (by intro j u hj; simp at hj) (by intro u hu; cases hu) (by unfold maxLen; omega) (by omega) (by simp) ?_)
      intro v' w1 hown hgrow hnil
      go_wp2
      go_ret
      refine ⟨v', [], rfl, by simpa using hown, RdAL.mk_nil, ?_, fun _ _ _ _ _ j u h => by simp at h⟩
      exact ((Below.refl _ w).alloc (Nat.le_refl _) _).grown hgrow (by simp) (by intro k hk; simp [Value.ownBlock] at hk; omega)
  obtain ⟨b, off, hb, rfl, U, hc, hr, ho⟩ := hcell (by omega)
  clear hcell
  obtain ⟨xs, hxl, hxc, hxo, hxr⟩ := rows_list (w := w) (b := b) (off := off) (sz := 2) (fun c hc => hl c (pe c hc)) hc hr ho
  clear hc hr ho
  go_enter Tryz.func239, Tryz.ntmps239
  go_wp2_with (at_builtin; refine wpList_append_own _ rfl _ _ 36 rfl w.heap.size 91 i0 (.agg #[.int .i64 0, .slice none 0 0]) 2 32 Tryz.underlying36 hi hz0 hz1 hz2 rfl (by decide) _ _ _ rfl (World.ownsRow_made w #[] 0 (Nat.le_refl _) (Nat.zero_le _) rfl) ⟨b, off, none⟩ es.length cap xs rfl ?qc1 ?qc2 ?qc3 ?qc4 ?qc5 ?qc6 ?_)
  case qc1 => exact hxl
  case qc2 =>
    intro j u hj
    rw [Addr.add_lit]
    exact Lib.cell?_alloc_some _ (hxc j u hj)
  case qc3 => exact hxo
  case qc4 => unfold maxLen; omega
  case qc5 => omega
  case qc6 => simp
  intro v' w1 hown hgrow hnil
  have hbl : Below w.heap.size w w1 := ((Below.refl _ w).alloc (Nat.le_refl _) _).grown hgrow (by simp) (by intro k hk; simp [Value.ownBlock] at hk; omega)
  go_wp2
  go_ret
  exact ⟨v', xs, rfl, by simpa using hown, hxr w1 hbl, hbl, fun b' off' n c e => by cases e; exact hxc⟩
theorem infos103 : (Tryz.prog.info? 103).map (fun i => (i.zero, i.size, i.bytes)) = some (some (.agg #[.int .i64 0, .int .i64 0, .string { data := #[] }, .int .i64 0, .string { data := #[] }, .bool false]), 6, 64) := by kernel_rfl
set_option maxHeartbeats 2000000 in
theorem cls240 (P : List T → Prop) (hl : ∀ c, P c → c.length = 6) : ClC2 240 37 103 6 P := by
  intro w d es v he pe
  obtain ⟨i0, hi, hz0, hz1, hz2⟩ := info_parts infos103
  obtain ⟨a, cap, rfl, hn, hcap, hcell⟩ := he.rows (sz := 6) (fun c hc => hl c (pe c hc)) (by omega)
  clear he
  have q : ∀ (w : World) (a : Option Addr) (n c n' c' : Nat), (binOp .eql 37 (.slice a n c) (.slice none n' c')).run Tryz.prog w = .ok (.bool a.isNone) w := fun w a n c n' c' => Lib.run_eql_slice_nil w _ _ a n c n' c' Tryz.underlying37
  by_cases hz : es.length = 0
  · have e1 : es = [] := List.eq_nil_of_length_eq_zero hz
    subst e1
    clear hcell
    cases a with
    | none =>
      go_enter Tryz.func240, Tryz.ntmps240
      go_wp2
      go_ret
      exact ⟨_, [], rfl, World.ownsRow_nil _ _ _ _, RdAL.mk_nil, Below.refl _ _, fun _ _ _ _ _ j u h => by simp at h⟩
    | some ad =>
      go_enter Tryz.func240, Tryz.ntmps240
      go_wp2_with (at_builtin; refine wpList_append_own _ rfl _ _ 37 rfl w.heap.size 103 i0 (.agg #[.int .i64 0, .int .i64 0, .string { data := #[] }, .int .i64 0, .string { data := #[] }, .bool false]) 6 64 Tryz.underlying37 hi hz0 hz1 hz2 rfl (by decide) _ _ _ rfl (World.ownsRow_made w #[] 0 (Nat.le_refl _) (Nat.zero_le _) rfl) ad 0 cap [] rfl rfl (by intro j u hj; simp at hj) (by intro u hu; cases hu) (by unfold maxLen; omega) (by omega) (by simp) ?_)
      intro v' w1 hown hgrow hnil
      go_wp2
      go_ret
      refine ⟨v', [], rfl, by simpa using hown, RdAL.mk_nil, ?_, fun _ _ _ _ _ j u h => by simp at h⟩
      exact ((Below.refl _ w).alloc (Nat.le_refl _) _).grown hgrow (by simp) (by intro k hk; simp [Value.ownBlock] at hk; omega)
  obtain ⟨b, off, hb, rfl, U, hc, hr, ho⟩ := hcell (by omega)
  clear hcell
  obtain ⟨xs, hxl, hxc, hxo, hxr⟩ := rows_list (w := w) (b := b) (off := off) (sz := 6) (fun c hc => hl c (pe c hc)) hc hr ho
  clear hc hr ho
  go_enter Tryz.func240, Tryz.ntmps240
  go_wp2_with (at_builtin; refine wpList_append_own _ rfl _ _ 37 rfl w.heap.size 103 i0 (.agg #[.int .i64 0, .int .i64 0, .string { data := #[] }, .int .i64 0, .string { data := #[] }, .bool false]) 6 64 Tryz.underlying37 hi hz0 hz1 hz2 rfl (by decide) _ _ _ rfl (World.ownsRow_made w #[] 0 (Nat.le_refl _) (Nat.zero_le _) rfl) ⟨b, off, none⟩ es.length cap xs rfl ?qc1 ?qc2 ?qc3 ?qc4 ?qc5 ?qc6 ?_)
  case qc1 => exact hxl
  case qc2 =>
    intro j u hj
    rw [Addr.add_lit]
    exact Lib.cell?_alloc_some _ (hxc j u hj)
  case qc3 => exact hxo
  case qc4 => unfold maxLen; omega
  case qc5 => omega
  case qc6 => simp
  intro v' w1 hown hgrow hnil
  have hbl : Below w.heap.size w w1 := ((Below.refl _ w).alloc (Nat.le_refl _) _).grown hgrow (by simp) (by intro k hk; simp [Value.ownBlock] at hk; omega)
  go_wp2
  go_ret
  exact ⟨v', xs, rfl, by simpa using hown, hxr w1 hbl, hbl, fun b' off' n c e => by cases e; exact hxc⟩
theorem infos106 : (Tryz.prog.info? 106).map (fun i => (i.zero, i.size, i.bytes)) = some (some (.agg #[.string { data := #[] }, .string { data := #[] }]), 2, 32) := by kernel_rfl
set_option maxHeartbeats 2000000 in
theorem cls241 (P : List T → Prop) (hl : ∀ c, P c → c.length = 2) : ClC2 241 38 106 2 P := by
  intro w d es v he pe
  obtain ⟨i0, hi, hz0, hz1, hz2⟩ := info_parts infos106
  obtain ⟨a, cap, rfl, hn, hcap, hcell⟩ := he.rows (sz := 2) (fun c hc => hl c (pe c hc)) (by omega)
  clear he
  have q : ∀ (w : World) (a : Option Addr) (n c n' c' : Nat), (binOp .eql 38 (.slice a n c) (.slice none n' c')).run Tryz.prog w = .ok (.bool a.isNone) w := fun w a n c n' c' => Lib.run_eql_slice_nil w _ _ a n c n' c' Tryz.underlying38
  by_cases hz : es.length = 0
  · have e1 : es = [] := List.eq_nil_of_length_eq_zero hz
    subst e1
    clear hcell
    cases a with
    | none =>
      go_enter Tryz.func241, Tryz.ntmps241
      go_wp2
      go_ret
      exact ⟨_, [], rfl, World.ownsRow_nil _ _ _ _, RdAL.mk_nil, Below.refl _ _, fun _ _ _ _ _ j u h => by simp at h⟩
    | some ad =>
      go_enter Tryz.func241, Tryz.ntmps241
      go_wp2_with (at_builtin; refine wpList_append_own _ rfl _ _ 38 rfl w.heap.size 106 i0 (.agg #[.string { data := #[] }, .string { data := #[] }]) 2 32 Tryz.underlying38 hi hz0 hz1 hz2 rfl (by decide) _ _ _ rfl (World.ownsRow_made w #[] 0 (Nat.le_refl _) (Nat.zero_le _) rfl) ad 0 cap [] rfl rfl (by intro j u hj; simp at hj) (by intro u hu; cases hu) (by unfold maxLen; omega) (by omega) (by simp) ?_)
      intro v' w1 hown hgrow hnil
      go_wp2
      go_ret
      refine ⟨v', [], rfl, by simpa using hown, RdAL.mk_nil, ?_, fun _ _ _ _ _ j u h => by simp at h⟩
      exact ((Below.refl _ w).alloc (Nat.le_refl _) _).grown hgrow (by simp) (by intro k hk; simp [Value.ownBlock] at hk; omega)
  obtain ⟨b, off, hb, rfl, U, hc, hr, ho⟩ := hcell (by omega)
  clear hcell
  obtain ⟨xs, hxl, hxc, hxo, hxr⟩ := rows_list (w := w) (b := b) (off := off) (sz := 2) (fun c hc => hl c (pe c hc)) hc hr ho
  clear hc hr ho
  go_enter Tryz.func241, Tryz.ntmps241
  go_wp2_with (at_builtin; refine wpList_append_own _ rfl _ _ 38 rfl w.heap.size 106 i0 (.agg #[.string { data := #[] }, .string { data := #[] }]) 2 32 Tryz.underlying38 hi hz0 hz1 hz2 rfl (by decide) _ _ _ rfl (World.ownsRow_made w #[] 0 (Nat.le_refl _) (Nat.zero_le _) rfl) ⟨b, off, none⟩ es.length cap xs rfl ?qc1 ?qc2 ?qc3 ?qc4 ?qc5 ?qc6 ?_)
  case qc1 => exact hxl
  case qc2 =>
    intro j u hj
    rw [Addr.add_lit]
    exact Lib.cell?_alloc_some _ (hxc j u hj)
  case qc3 => exact hxo
  case qc4 => unfold maxLen; omega
  case qc5 => omega
  case qc6 => simp
  intro v' w1 hown hgrow hnil
  have hbl : Below w.heap.size w w1 := ((Below.refl _ w).alloc (Nat.le_refl _) _).grown hgrow (by simp) (by intro k hk; simp [Value.ownBlock] at hk; omega)
  go_wp2
  go_ret
  exact ⟨v', xs, rfl, by simpa using hown, hxr w1 hbl, hbl, fun b' off' n c e => by cases e; exact hxc⟩
end Go.Proofs.YtmhkceeiiklfdaaGreat
set_option linter.unusedVariables false
set_option linter.unusedSimpArgs false
namespace Go.Proofs.YtmhkceeiiklfdaaGreat
open Go.RowKit Go.Abs
theorem own_cells {w : World} {B e sz n m q cap : Nat} {xs : List Value} (h : w.ownsRow B e sz (.slice (some ⟨q, 0, none⟩) m cap) n xs) : ∃ cur : Array Value, w.heap[q]? = some (.cells cur e (0, 0)) ∧ (∀ (j : Nat) (u : Value), xs[j]? = some u → cur[j]? = some u) ∧ xs.length = n * sz ∧ m = n ∧ B ≤ q := by
  obtain ⟨h1, ⟨h2, _⟩ | ⟨g, c, cur, h2, h3, h4, h5, h6, h7, h8⟩⟩ := h
  · cases h2
  · cases h2
    refine ⟨cur, h4, fun j u hj => ?_, h1, rfl, h3⟩
    rw [← h8, List.getElem?_take] at hj
    split at hj
    · rwa [Array.getElem?_toList] at hj
    · cases hj
theorem own_cell {w : World} {B e sz n m q cap : Nat} {xs : List Value} (h : w.ownsRow B e sz (.slice (some ⟨q, 0, none⟩) m cap) n xs) {j : Nat} {u : Value} (hj : xs[j]? = some u) : w.cell? ⟨q, j, none⟩ = some u ∧ w.frozen? ⟨q, j, none⟩ = false := by
  obtain ⟨cur, h1, h2, _⟩ := own_cells h
  exact ⟨by rw [cell_at h1]; exact h2 j u hj, by rw [frozen_at h1]; simp⟩
theorem own_set {w : World} {B e sz n m q cap : Nat} {xs : List Value} (h : w.ownsRow B e sz (.slice (some ⟨q, 0, none⟩) m cap) n xs) {j : Nat} (hj : j < xs.length) (u : Value) : (w.setCell ⟨q, j, none⟩ u).ownsRow B e sz (.slice (some ⟨q, 0, none⟩) m cap) n (xs.set j u) := by
  obtain ⟨h1, ⟨h2, _⟩ | ⟨g, c, cur, h2, h3, h4, h5, h6, h7, h8⟩⟩ := h
  · cases h2
  · cases h2
    refine ⟨by simpa using h1, .inr ⟨_, _, cur.setIfInBounds j u, rfl, h3, ?_, h5, h6, by simpa using h7, ?_⟩⟩
    · rw [setCell_wset h4]
      exact wset_at _ _ _ (heap_lt h4)
    · rw [← h8, Array.toList_setIfInBounds]
      apply List.ext_getElem?
      intro i
      rw [List.getElem?_take]
      have hjl : j < n * sz := by rw [← h1]; exact hj
      by_cases hi : i < n * sz
      · rw [if_pos hi, List.getElem?_set, List.getElem?_set]
        by_cases hij : j = i
        · subst hij
          rw [if_pos rfl, if_pos rfl]
          simp only [List.length_take, Array.length_toList]
          by_cases h : j < cur.size
          · rw [if_pos h, if_pos (by omega)]
          · rw [if_neg h, if_neg (by omega)]
        · rw [if_neg hij, if_neg hij, List.getElem?_take, if_pos hi]
      · rw [if_neg hi, List.getElem?_eq_none]
        simp only [List.length_set, List.length_take]
        omega
theorem drop_flat {es : List (List T)} {k : Nat} (h : k < es.length) : (es.drop k).flatten = es.getD k [] ++ (es.drop (k + 1)).flatten := by
  rw [List.drop_eq_getElem_cons h, List.flatten_cons]
  simp [List.getD, h]
theorem RdAL.split {S : Nat → Prop} {w : World} {d : Nat} {h r : List T} {us : List Value} (hu : RdAL S w d (h ++ r) us) : ∃ a b, us = a ++ b ∧ RdAL S w d h a ∧ RdAL S w d r b := by
  obtain ⟨hl, hg⟩ := hu
  refine ⟨us.take h.length, us.drop h.length, (List.take_append_drop _ _).symm, ⟨by rw [List.length_take, hl, List.length_append]; omega, fun i t ht => ?_⟩, ⟨by rw [List.length_drop, hl, List.length_append]; omega, fun i t ht => ?_⟩⟩
  · have hi := (List.getElem?_eq_some_iff.1 ht).1
    obtain ⟨u, h1, h2⟩ := hg i t (by rw [List.getElem?_append_left hi]; exact ht)
    exact ⟨u, by rw [List.getElem?_take, if_pos hi]; exact h1, h2⟩
  · obtain ⟨u, h1, h2⟩ := hg (h.length + i) t (by rw [List.getElem?_append_right (by omega), Nat.add_sub_cancel_left]; exact ht)
    exact ⟨u, by rw [List.getElem?_drop]; exact h1, h2⟩
theorem RdAL.cons {S : Nat → Prop} {w : World} {d : Nat} {t : T} {ts : List T} {us : List Value} (hu : RdAL S w d (t :: ts) us) : ∃ v vs, us = v :: vs ∧ RdA S w d t v ∧ RdAL S w d ts vs := by
  obtain ⟨a, b, rfl, h1, h2⟩ := RdAL.split (h := [t]) hu
  obtain ⟨v, rfl⟩ := List.length_eq_one_iff.1 h1.1
  exact ⟨v, b, rfl, h1.only, h2⟩
theorem RdAL.nil {S : Nat → Prop} {w : World} {d : Nat} {us : List Value} (hu : RdAL S w d [] us) : us = [] := List.eq_nil_of_length_eq_zero hu.1
theorem flat_len {sz : Nat} : ∀ {es : List (List T)} {k : Nat}, (∀ c ∈ es, c.length = sz) → k ≤ es.length → (es.take k).flatten.length = k * sz
  | _, 0, _, _ => by simp
  | [], k + 1, _, h => by simp at h
  | c :: r, k + 1, hc, h => by
    rw [List.take_succ_cons, List.flatten_cons, List.length_append, hc c (by simp), flat_len (fun x hx => hc x (by simp [hx])) (by simpa using h), Nat.add_mul]
    omega
/-- one round of a loop that renews the last cell of each element of an own row -/
theorem row_step {w w' wr W W1 : World} {d et sz n q cap k j : Nat} {es : List (List T)} {ys pre rest : List Value} {old new : Value} {tpre : List T} {t : T} (hk : k < es.length) (hel : es.getD k [] = tpre ++ [t]) (hlf : ∀ t ∈ tpre, ∃ x, t = .lf x) (hj : pre.length = j)
    (hown : wr.ownsRow w.heap.size et sz (.slice (some ⟨q, 0, none⟩) n cap) n (ys ++ ((pre ++ [old]) ++ rest))) (hlen : ys.length = k * sz)
    (hr1 : RdAL (fun b => w'.heap.size ≤ b ∧ b < wr.heap.size) wr d (es.take k).flatten ys) (hp : RdAL (fun b => b < w.heap.size) wr d tpre pre) (hr2 : RdAL (fun b => b < w.heap.size) wr d (es.drop (k + 1)).flatten rest)
    (hb : Below w.heap.size w wr) (hww : w.heap.size ≤ w'.heap.size) (hsz : w'.heap.size ≤ wr.heap.size) (hq : q < w'.heap.size) (hkept : ∀ b, b < w'.heap.size → (Value.slice (some ⟨q, 0, none⟩) n cap).ownBlock ≠ some b → wr.heap[b]? = w'.heap[b]?)
    (hW : W.heap.size = wr.heap.size) (hnew : RdA (fun b => W.heap.size ≤ b ∧ b < W1.heap.size) W1 d t new) (hB : Below wr.heap.size wr W1) :
    (W1.setCell ⟨q, k * sz + j, none⟩ new).ownsRow w.heap.size et sz (.slice (some ⟨q, 0, none⟩) n cap) n ((ys ++ (pre ++ [new])) ++ rest) ∧
    RdAL (fun b => w'.heap.size ≤ b ∧ b < (W1.setCell ⟨q, k * sz + j, none⟩ new).heap.size) (W1.setCell ⟨q, k * sz + j, none⟩ new) d (es.take (k + 1)).flatten (ys ++ (pre ++ [new])) ∧
    RdAL (fun b => b < w.heap.size) (W1.setCell ⟨q, k * sz + j, none⟩ new) d (es.drop (k + 1)).flatten rest ∧ Below w.heap.size w (W1.setCell ⟨q, k * sz + j, none⟩ new) ∧ w'.heap.size ≤ (W1.setCell ⟨q, k * sz + j, none⟩ new).heap.size ∧
    ∀ b, b < w'.heap.size → (Value.slice (some ⟨q, 0, none⟩) n cap).ownBlock ≠ some b → (W1.setCell ⟨q, k * sz + j, none⟩ new).heap[b]? = w'.heap[b]? := by
  have hs1 := hB.size
  have hqB : w.heap.size ≤ q := (own_cells hown).choose_spec.2.2.2.2
  have hsc : (W1.setCell ⟨q, k * sz + j, none⟩ new).heap.size = W1.heap.size := World.size_setCell ..
  have keep : ∀ b, b ≠ q → b < wr.heap.size → (W1.setCell ⟨q, k * sz + j, none⟩ new).heap[b]? = wr.heap[b]? := fun b h1 h2 => by
    rw [Below.heap_setCell _ _ _ _ h1, hB.block b h2]
  refine ⟨?_, ?_, ?_, ?_, by omega, ?_⟩
  · have h1 := own_set (own_below hown hB) (j := k * sz + j) (by simp; omega) new
    have h2 : (ys ++ ((pre ++ [old]) ++ rest)).set (k * sz + j) new = (ys ++ (pre ++ [new])) ++ rest := by
      rw [List.set_append_right _ _ (by omega), hlen, Nat.add_sub_cancel_left, List.append_assoc pre, List.set_append_right _ _ (by omega), hj, Nat.sub_self]
      simp
    rwa [h2] at h1
  · rw [take_flat hk, hel]
    refine (hr1.frame (fun b hb' => ⟨hb'.1, by omega⟩) (fun b hb' => keep b (by omega) (by omega))).append ((hp.leaf hlf).append (.mk_cons ?_ .mk_nil))
    exact hnew.frame (fun b hb' => ⟨by omega, by omega⟩) (fun b hb' => Below.heap_setCell _ _ _ _ (by show b ≠ q; omega))
  · exact hr2.frame (fun _ h => h) (fun b hb' => keep b (by omega) (by have := hb.size; omega))
  · exact ⟨hB.os.trans hb.os, hB.tape.trans hb.tape, hB.output.trans hb.output, by have := hb.size; omega, fun b hb' => (keep b (by omega) (by have := hb.size; omega)).trans (hb.block b hb')⟩
  · intro b h1 h2
    have hbq : b ≠ q := fun e => h2 (by rw [e]; rfl)
    rw [keep b hbq (by omega)]
    exact hkept b h1 h2
theorem own_slice {w : World} {B e sz n : Nat} {v : Value} {xs : List Value} (h : w.ownsRow B e sz v n xs) : ∃ a c, v = .slice a n c := by
  obtain ⟨_, ⟨h2, rfl⟩ | ⟨g, c, cur, h2, _⟩⟩ := h
  · exact ⟨_, _, h2⟩
  · exact ⟨_, _, h2⟩
theorem own_apart {w : World} {B B' e e' sz sz' n n' : Nat} {v v' : Value} {xs xs' : List Value} (h : w.ownsRow B e sz v n xs) (h' : w.ownsRow B' e' sz' v' n' xs') (he : e ≠ e') : ∀ q, v.ownBlock = some q → v'.ownBlock ≠ some q := by
  intro q hq hq'
  obtain ⟨_, ⟨h2, _⟩ | ⟨g, c, cur, h2, _, h4, _⟩⟩ := h
  · rw [h2] at hq; cases hq
  · rw [h2] at hq; cases hq
    obtain ⟨_, ⟨h2', _⟩ | ⟨g', c', cur', h2', _, h4', _⟩⟩ := h'
    · rw [h2'] at hq'; cases hq'
    · rw [h2'] at hq'; cases hq'
      rw [h4] at h4'
      cases h4'
      exact he rfl
/-- a row whose block stands -/
theorem own_kept {w' W : World} {B e sz n : Nat} {a : Option Addr} {m cap : Nat} {v : Value} {xs : List Value} (h : w'.ownsRow B e sz v n xs) (hk : ∀ b, b < w'.heap.size → (Value.slice a m cap).ownBlock ≠ some b → W.heap[b]? = w'.heap[b]?) (hne : ∀ b, (Value.slice a m cap).ownBlock = some b → v.ownBlock ≠ some b) : W.ownsRow B e sz v n xs :=
  own_frame h fun b hb => hk b (own_lt h b hb).2 fun e => hne b e hb
theorem heap_set_ne (W : World) (q j b : Nat) (u : Value) (h : q ≠ b) : (W.setCell ⟨q, j, none⟩ u).heap[b]? = W.heap[b]? := by
  exact Below.heap_setCell _ _ _ _ (Ne.symm h)
end Go.Proofs.YtmhkceeiiklfdaaGreat
set_option linter.unusedVariables false
set_option linter.unusedSimpArgs false
namespace Go.Proofs.YtmhkceeiiklfdaaGreat
open Go.RowKit Go.Abs
theorem Rd.up1 {w : World} {d : Nat} {ts : List T} {vs : List Value} (h : RdL w d ts vs) : RdL w (d + 1) ts vs := ⟨h.1, fun i t ht => let ⟨u, h1, h2⟩ := h.2 i t ht; ⟨u, h1, h2.up⟩⟩
theorem bulk_part {H : Type} {d : DataW H} {l : List (DataW H)} (h : d ∈ l) : Rows.uptoBulk d ≤ Rows.uptoBulkAll l := by
  induction l with
  | nil => cases h
  | cons x r ih =>
    simp only [Rows.uptoBulkAll]
    cases List.mem_cons.1 h with
    | inl e => subst e; omega
    | inr e => have := ih e; omega
theorem bulk_one {H : Type} (d : DataW H) : 1 ≤ Rows.uptoBulk d := by
  cases d with
  | lit l => cases l <;> simp [Rows.uptoBulk]
  | nil => simp [Rows.uptoBulk]
  | ptr d => simp [Rows.uptoBulk]
  | slice elems spare => simp [Rows.uptoBulk]
  | agg parts => simp [Rows.uptoBulk]
  | iface t d => simp [Rows.uptoBulk]
  | map entries => simp [Rows.uptoBulk]
  | held h => simp [Rows.uptoBulk]
theorem bulk_len {H : Type} (l : List (DataW H)) : l.length ≤ Rows.uptoBulkAll l := by
  induction l with
  | nil => simp [Rows.uptoBulkAll]
  | cons x r ih => have := bulk_one x; simp only [Rows.uptoBulkAll, List.length_cons]; omega
section
variable {H : Type} {enc : TypeId × Value → H} {w : World}
/-- a reading of this type gives a row of trees -/
def Rds (enc : TypeId × Value → H) (w : World) (t : TypeId) (n : Nat) (Q : List T → Prop) : Prop := ∀ (cs : List Value) (x : DataW H × List MemPlace), DataW.trod enc Tryz.prog w 0 (fun _ => true) true n t cs = some x → Rows.uptoBulk x.1 ≤ 1048576 → ∃ c, RdL w n c cs ∧ Q c
theorem Rds.imp {t n} {Q Q' : List T → Prop} (h : Rds enc w t n Q) (hq : ∀ c, Q c → Q' c) : Rds enc w t n Q' := fun cs x h1 h2 => let ⟨c, h3, h4⟩ := h cs x h1 h2; ⟨c, h3, hq c h4⟩
theorem RdL.lf1 {n : Nat} (x : Lf) : RdL w n [.lf x] [x.val] := ⟨rfl, fun i t ht => by
  cases i with
  | zero => simp at ht; subst ht; exact ⟨_, rfl, Rd.of_lf ..⟩
  | succ i => simp at ht⟩
theorem rds_int {t n} (ht : Tryz.prog.underlying t = some (.int .i64)) : Rds enc w t n (fun c => ∃ i : Int, c = [.lf (.int i)]) := fun cs x h _ => by
  obtain ⟨i, rfl, _⟩ := DataW.trod_int ht h
  exact ⟨_, RdL.lf1 (.int i), i, rfl⟩
theorem rds_bool {t n} (ht : Tryz.prog.underlying t = some .bool) : Rds enc w t n (fun c => ∃ i : Bool, c = [.lf (.bool i)]) := fun cs x h _ => by
  obtain ⟨i, rfl, _⟩ := DataW.trod_bool ht h
  exact ⟨_, RdL.lf1 (.bool i), i, rfl⟩
theorem rds_str {t n} (ht : Tryz.prog.underlying t = some .string) : Rds enc w t n (fun c => ∃ i : ByteArray, c = [.lf (.str i)]) := fun cs x h _ => by
  obtain ⟨i, rfl, _⟩ := DataW.trod_string ht h
  exact ⟨_, RdL.lf1 (.str i), i, rfl⟩
theorem rds_none {t} {Q : List T → Prop} : Rds enc w t 0 Q := fun cs x h _ => by simp [DataW.trod] at h
theorem RdL.sl1 {n : Nat} {t : T} {v : Value} (h : Rd w n t v) : RdL w n [t] [v] := ⟨rfl, fun i t' ht => by
  cases i with
  | zero => simp at ht; subst ht; exact ⟨_, rfl, h⟩
  | succ i => simp at ht⟩
/-- the cells that are read -/
theorem cells_at {a : Addr} {n : Nat} {l : List Value} (h : w.cells? 0 a n = some l) (hn : 0 < n) : ∃ b off C el fr, a = ⟨b, off, none⟩ ∧ w.heap[b]? = some (.cells C el fr) ∧ l.length = n ∧ ∀ j, j < n → C[off + j]? = l[j]? := by
  obtain ⟨_, hl, hc⟩ := World.cells?_some h
  have h0 := hc 0 hn
  obtain ⟨b, off, sp⟩ := a
  have hx : l[0]? = some l[0] := List.getElem?_eq_getElem (by omega)
  rw [hx] at h0
  unfold World.cell? at h0
  simp only [Addr.add, if_true] at h0
  cases hb : w.heap[b]? with
  | none => rw [hb] at h0; cases h0
  | some o =>
    rw [hb] at h0
    cases o with
    | cells C el fr =>
      simp only at h0
      cases sp with
      | some s => simp at h0
      | none =>
        refine ⟨b, off, C, el, fr, rfl, hb, hl, fun j hj => ?_⟩
        have h1 := hc j hj
        rw [Addr.add_lit] at h1
        rw [cell_at hb] at h1
        exact h1
    | _ => cases h0
theorem rds_slice {t e sz n : Nat} {Q : List T → Prop} (ht : Tryz.prog.underlying t = some (.slice e)) (hc : Tryz.prog.cellsOf e = sz) (hsz : 0 < sz) (hq : ∀ c, Q c → c.length = sz) (he : Rds enc w e n Q) : Rds enc w t (n + 1) (fun c => ∃ es, c = [.sl es] ∧ ∀ x ∈ es, Q x) := fun cs x h hb => by
  rcases DataW.trod_slice ht h with ⟨rfl, rfl⟩ | ⟨a, len, cap, elems, rest, m, hm, rfl, rfl, _, hlc, hcm, hel, hget, _⟩
  · exact ⟨_, RdL.sl1 (by show ∃ a cap, _; exact ⟨none, 0, rfl, by simp, by simp, Or.inl rfl⟩), [], rfl, by simp⟩
  · obtain rfl : n = m := by omega
    rw [hc] at hget
    simp only [Rows.uptoBulk] at hb
    have hbl := bulk_len (elems.map (·.1))
    simp only [List.length_map, hel] at hbl
    have key : ∀ i, i < len → ∃ l c, w.cells? 0 (a.add (i * sz)) sz = some l ∧ RdL w n c l ∧ Q c := fun i hi => by
      have h1 := hget i hi
      have h2 : elems[i]? = some elems[i] := List.getElem?_eq_getElem (by omega)
      rw [h2] at h1
      cases hl : w.cells? 0 (a.add (i * sz)) sz with
      | none => rw [hl] at h1; cases h1
      | some l =>
        rw [hl] at h1
        have h1 : DataW.trod enc Tryz.prog w 0 (fun _ => true) true n e l = some elems[i] := h1
        have h3 : Rows.uptoBulk elems[i].1 ≤ Rows.uptoBulkAll (elems.map (·.1)) := bulk_part (List.mem_map.2 ⟨_, List.getElem_mem _, rfl⟩)
        obtain ⟨c, h4, h5⟩ := he l _ h1 (by omega)
        exact ⟨l, c, rfl, h4, h5⟩
    obtain ⟨es, hes, hall⟩ : ∃ es : List (List T), es.length = len ∧ ∀ i, i < len → ∃ l, w.cells? 0 (a.add (i * sz)) sz = some l ∧ RdL w n (es.getD i []) l ∧ Q (es.getD i []) := by
      refine ⟨(List.range len).map fun i => if hi : i < len then (key i hi).choose_spec.choose else [], by simp, fun i hi => ?_⟩
      have e : ((List.range len).map fun i => if hi : i < len then (key i hi).choose_spec.choose else []).getD i [] = (key i hi).choose_spec.choose := by simp [List.getD, hi]
      rw [e]
      exact ⟨_, (key i hi).choose_spec.choose_spec⟩
    have hQ : ∀ x ∈ es, Q x := fun x hx => by
      obtain ⟨i, hi, rfl⟩ := List.mem_iff_getElem.1 hx
      obtain ⟨l, _, _, h⟩ := hall i (by omega)
      simpa [List.getD, hi] using h
    have hlast : es.flatten = [] ∨ ∃ b off C el fr, some a = some ⟨b, off, none⟩ ∧ w.heap[b]? = some (.cells C el fr) ∧ ∀ (i : Nat) (t : T), es.flatten[i]? = some t → ∃ u, C[off + i]? = some u ∧ Rd w n t u := by
      rcases Nat.eq_zero_or_pos len with hz | hz
      · left
        have : es = [] := List.eq_nil_of_length_eq_zero (by omega)
        rw [this]; rfl
      · right
        obtain ⟨l0, h0, _⟩ := hall 0 hz
        rw [Nat.zero_mul] at h0
        obtain ⟨b, off, C, el, fr, ha, hbk, _, _⟩ := cells_at h0 hsz
        have ha' : a = ⟨b, off, none⟩ := by
          simpa [Addr.add] using ha
        subst ha'
        refine ⟨b, off, C, el, fr, rfl, hbk, fun i t hit => ?_⟩
        have hfl : es.flatten.length = es.length * sz := by
          have := flat_len (es := es) (k := es.length) (fun c hc => hq c (hQ c hc)) (Nat.le_refl _)
          simpa using this
        have hil : i < len * sz := by
          have := (List.getElem?_eq_some_iff.1 hit).1
          rw [hfl, hes] at this; exact this
        have hdiv : i / sz < len := Nat.div_lt_of_lt_mul (by rw [Nat.mul_comm]; exact hil)
        have hmod : i % sz < sz := Nat.mod_lt _ hsz
        have hsum : i / sz * sz + i % sz = i := Nat.div_add_mod' i sz
        obtain ⟨l, h1, h2, h3⟩ := hall (i / sz) hdiv
        obtain ⟨b', off', C', el', fr', ha', hbk', hll, hcells⟩ := cells_at h1 hsz
        have hadd : (⟨b, off, none⟩ : Addr).add (i / sz * sz) = ⟨b, off + i / sz * sz, none⟩ := Addr.add_lit ..
        rw [hadd] at ha'
        simp only [Addr.mk.injEq, and_true] at ha'
        obtain ⟨rfl, rfl⟩ := ha'
        rw [hbk] at hbk'
        simp only [Option.some.injEq, Obj.cells.injEq] at hbk'
        obtain ⟨rfl, rfl, rfl⟩ := hbk'
        have hek : es[i / sz]? = some (es.getD (i / sz) []) := by simp [List.getD, hes, hdiv]
        have hj : (es.getD (i / sz) [])[i % sz]? = some t := by
          have hlen := hq _ h3
          have hx := List.getElem?_eq_getElem (l := es.getD (i / sz) []) (i := i % sz) (by omega)
          have := flat_get (sz := sz) (fun c hc => hq c (hQ c hc)) (i / sz) (i % sz) _ _ hek hx
          rw [hsum, hit] at this
          rw [hx]; exact this.symm
        obtain ⟨u, h4, h5⟩ := h2.2 _ _ hj
        refine ⟨u, ?_, h5⟩
        rw [← h4, ← hcells _ hmod, Nat.add_assoc, hsum]
    exact ⟨[.sl es], RdL.sl1 (by show ∃ a cap, _; exact ⟨some a, cap, by rw [hes], by omega, by omega, hlast⟩), es, rfl, hQ⟩
/-- the fields of a struct -/
inductive Each : List (List T → Prop) → List (List T) → Prop
  | nil : Each [] []
  | cons {Q Qs c cs} (h : Q c) (hs : Each Qs cs) : Each (Q :: Qs) (c :: cs)
theorem Each.of_cons {Q Qs cs} (h : Each (Q :: Qs) cs) : ∃ c r, cs = c :: r ∧ Q c ∧ Each Qs r := by
  cases h with
  | cons h hs => exact ⟨_, _, rfl, h, hs⟩
theorem Each.of_nil {cs} (h : Each [] cs) : cs = [] := by cases h; rfl
def FieldsOk (enc : TypeId × Value → H) (w : World) (n : Nat) : List Field → List (List T → Prop) → Nat → Nat → Prop
  | [], [], o, e => o = e
  | f :: fs, Q :: Qs, o, e => f.offset = o ∧ Rds enc w f.type n Q ∧ FieldsOk enc w n fs Qs (o + Tryz.prog.cellsOf f.type) e
  | _, _, _, _ => False
theorem RdL.joined {n : Nat} : ∀ {ts ts' : List T} {vs vs' : List Value}, RdL w n ts vs → RdL w n ts' vs' → RdL w n (ts ++ ts') (vs ++ vs')
  | [], ts', vs, vs', h, h' => by
    have : vs = [] := List.eq_nil_of_length_eq_zero h.1
    subst this; exact h'
  | t :: ts, ts', vs, vs', h, h' => by
    obtain ⟨v, vs, rfl, h1, h2⟩ := h.cons
    exact RdL.mk_cons h1 (RdL.joined h2 h')
theorem fieldsRead {n : Nat} {cs : List Value} : ∀ (fs : List Field) (Qs : List (List T → Prop)) (o e : Nat), FieldsOk enc w n fs Qs o e → cs.length = e → (∀ f ∈ fs, ∃ y, DataW.trod enc Tryz.prog w 0 (fun _ => true) true n f.type ((cs.drop f.offset).take (Tryz.prog.cellsOf f.type)) = some y ∧ Rows.uptoBulk y.1 ≤ 1048576) → ∃ parts, Each Qs parts ∧ RdL w n parts.flatten (cs.drop o)
  | [], [], o, e, h, hl, _ => ⟨[], .nil, by
      have h : o = e := h
      rw [List.drop_eq_nil_of_le (by omega)]
      exact RdL.mk_nil⟩
  | f :: fs, Q :: Qs, o, e, h, hl, hf => by
    obtain ⟨h1, h2, h3⟩ := h
    obtain ⟨y, h4, h5⟩ := hf f (by simp)
    obtain ⟨c, h6, h7⟩ := h2 _ _ h4 h5
    obtain ⟨parts, h8, h9⟩ := fieldsRead fs Qs _ e h3 hl (fun g hg => hf g (by simp [hg]))
    refine ⟨c :: parts, .cons h7 h8, ?_⟩
    rw [List.flatten_cons]
    have e1 : cs.drop o = (cs.drop f.offset).take (Tryz.prog.cellsOf f.type) ++ cs.drop (o + Tryz.prog.cellsOf f.type) := by
      rw [h1, ← List.drop_drop, List.take_append_drop]
    rw [e1]
    exact RdL.joined h6 h9
theorem rds_struct {t n : Nat} {fs : Array Field} {Qs : List (List T → Prop)} (ht : Tryz.prog.underlying t = some (.struct fs)) (hok : FieldsOk enc w n fs.toList Qs 0 (Tryz.prog.cellsOf t)) : Rds enc w t (n + 1) (fun c => ∃ parts, c = parts.flatten ∧ Each Qs parts) := fun cs x h hb => by
  obtain ⟨xs, m, hm, rfl, hl, hxl, hget⟩ := DataW.trod_struct ht h
  obtain rfl : n = m := by omega
  simp only [Rows.uptoBulk] at hb
  obtain ⟨parts, h1, h2⟩ := fieldsRead fs.toList Qs 0 _ hok hl fun f hf => by
    obtain ⟨i, hi⟩ := List.getElem?_of_mem hf
    have hi' : fs[i]? = some f := by simpa using hi
    have h3 := hget i f hi'
    have hil : i < xs.length := by
      have := (Array.getElem?_eq_some_iff.1 hi').1
      omega
    have h4 : xs[i]? = some xs[i] := List.getElem?_eq_getElem hil
    rw [h4] at h3
    refine ⟨_, h3, ?_⟩
    have : Rows.uptoBulk xs[i].1 ≤ Rows.uptoBulkAll (xs.map (·.1)) := bulk_part (List.mem_map.2 ⟨_, List.getElem_mem _, rfl⟩)
    omega
  rw [List.drop_zero] at h2
  exact ⟨_, Rd.up1 h2, parts, rfl, h1⟩
end
end Go.Proofs.YtmhkceeiiklfdaaGreat
