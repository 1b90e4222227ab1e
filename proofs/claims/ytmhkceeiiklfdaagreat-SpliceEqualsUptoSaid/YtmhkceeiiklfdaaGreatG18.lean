/- A part of the proof of SpliceEqualsUptoSaid (texts: GrEa). No conditions. -/
import Derived.Test.YtmhkceeiiklfdaaGreatG16
import Derived.Lib.SliceRun
import Derived.WalkKit
set_option linter.unusedVariables false
set_option linter.unusedSimpArgs false
set_option linter.unusedVariables false
set_option linter.unusedSimpArgs false
set_option maxRecDepth 20000
namespace Go.Proofs.YtmhkceeiiklfdaaGreat
open Go.RowKit
theorem info52 : (Tryz.prog.info? 52).map (fun i => (i.zero, i.size, i.bytes)) = some (some (.agg #[.int .i64 0, .int .i64 0, .int .i64 0, .string { data := #[] }, .slice none 0 0, .int .i64 0, .int .i64 0, .slice none 0 0, .slice none 0 0, .slice none 0 0, .slice none 0 0]), 11, 176) := by kernel_rfl
theorem len11 {l : List Value} (h : l.length = 11) : ∃ y0 y1 y2 y3 y4 y5 y6 y7 y8 y9 y10, l = [y0, y1, y2, y3, y4, y5, y6, y7, y8, y9, y10] := by
  match l, h with
  | [y0, y1, y2, y3, y4, y5, y6, y7, y8, y9, y10], _ => exact ⟨y0, y1, y2, y3, y4, y5, y6, y7, y8, y9, y10, rfl⟩
set_option maxHeartbeats 2000000 in
theorem ea236 (P : List T → Prop) (hl : ∀ c, P c → c.length = 11) (hg : ClV 237 P) : EaC 236 237 P := by
  intro w d es v he pe
  obtain ⟨i0, hi, hz0, hz1, hz2⟩ := info_parts info52
  obtain ⟨d, rfl⟩ : ∃ d', d = d' + 1 := by
    cases d with
    | zero => exact he.elim
    | succ d => exact ⟨d, rfl⟩
  obtain ⟨a, cap, rfl, hn, hcap, hcell⟩ := he.rows (sz := 11) (fun c hc => hl c (pe c hc)) (by omega)
  clear he
  by_cases hz : es.length = 0
  · have e1 : es = [] := List.eq_nil_of_length_eq_zero hz
    subst e1
    clear hcell
    go_enter Tryz.func236, Tryz.ntmps236
    go_wp2
    go_loopw [5, 10] (fun o i wr => o = .slice none 0 0 ∧ i = .int .i64 0 ∧ Below w.heap.size w wr) (fun _ i _ => 0)
    case atStart => exact ⟨rfl, rfl, Below.refl _ _⟩
    case round =>
      obtain ⟨rfl, rfl, hbl⟩ := hrel
      go_wp2
      go_ret
      exact ⟨_, rfl, ⟨none, 0, rfl, Nat.zero_le _, Nat.zero_le _, Or.inl rfl⟩, hbl⟩
  obtain ⟨b, off, hb, rfl, U, hc, hr, ho⟩ := hcell (by omega)
  clear hcell
  obtain ⟨n, hn1⟩ : ∃ n, es.length = n := ⟨_, rfl⟩
  rw [hn1] at hn hcap hz
  rw [hn1]
  have hn3 : n ≤ 9223372036854775807 := by omega
  go_enter Tryz.func236, Tryz.ntmps236
  go_wp2
  go_loopw [5, 10] (fun o i wr => ∃ (k : Nat) (xs : List Value), k ≤ n ∧ i = .int .i64 k ∧ wr.ownsRow w.heap.size 52 11 o k xs ∧ RdAL (fun b => w.heap.size ≤ b ∧ b < wr.heap.size ∧ some b ≠ o.ownBlock) wr d (es.take k).flatten xs ∧ Below w.heap.size w wr) (fun _ i _ => n - (intOf i).toNat)
  case atStart => exact ⟨0, [], by omega, rfl, World.ownsRow_nil _ _ _ _, RdAL.mk_nil, Below.refl _ _⟩
  case round =>
    obtain ⟨k, xs, hk, rfl, hown, hxs, hbl⟩ := hrel
    have hsz := hbl.size
    have hbw : b < wr.heap.size := by omega
    have h0 : k < n → wr.cell? ⟨b, off + k * 11, none⟩ = some (U k 0) := fun h => ((hbl.cell (by exact hb)).trans (hc k 0 (by omega) (by omega)))
    have h1 : k < n → wr.cell? ⟨b, off + k * 11 + 1, none⟩ = some (U k 1) := fun h => ((hbl.cell (by exact hb)).trans (hc k 1 (by omega) (by omega)))
    have h2 : k < n → wr.cell? ⟨b, off + k * 11 + 2, none⟩ = some (U k 2) := fun h => ((hbl.cell (by exact hb)).trans (hc k 2 (by omega) (by omega)))
    have h3 : k < n → wr.cell? ⟨b, off + k * 11 + 3, none⟩ = some (U k 3) := fun h => ((hbl.cell (by exact hb)).trans (hc k 3 (by omega) (by omega)))
    have h4 : k < n → wr.cell? ⟨b, off + k * 11 + 4, none⟩ = some (U k 4) := fun h => ((hbl.cell (by exact hb)).trans (hc k 4 (by omega) (by omega)))
    have h5 : k < n → wr.cell? ⟨b, off + k * 11 + 5, none⟩ = some (U k 5) := fun h => ((hbl.cell (by exact hb)).trans (hc k 5 (by omega) (by omega)))
    have h6 : k < n → wr.cell? ⟨b, off + k * 11 + 6, none⟩ = some (U k 6) := fun h => ((hbl.cell (by exact hb)).trans (hc k 6 (by omega) (by omega)))
    have h7 : k < n → wr.cell? ⟨b, off + k * 11 + 7, none⟩ = some (U k 7) := fun h => ((hbl.cell (by exact hb)).trans (hc k 7 (by omega) (by omega)))
    have h8 : k < n → wr.cell? ⟨b, off + k * 11 + 8, none⟩ = some (U k 8) := fun h => ((hbl.cell (by exact hb)).trans (hc k 8 (by omega) (by omega)))
    have h9 : k < n → wr.cell? ⟨b, off + k * 11 + 9, none⟩ = some (U k 9) := fun h => ((hbl.cell (by exact hb)).trans (hc k 9 (by omega) (by omega)))
    have h10 : k < n → wr.cell? ⟨b, off + k * 11 + 10, none⟩ = some (U k 10) := fun h => ((hbl.cell (by exact hb)).trans (hc k 10 (by omega) (by omega)))
    have hcall : ∀ W, k < n → Below w.heap.size w W → Calls Tryz.prog 237 #[.agg #[U k 0, U k 1, U k 2, U k 3, U k 4, U k 5, U k 6, U k 7, U k 8, U k 9, U k 10]] W fun e w' => ∃ us', e = .returned (.agg us'.toArray) ∧ RdAL (fun b => W.heap.size ≤ b ∧ b < w'.heap.size) w' d (es.getD k []) us' ∧ Below W.heap.size W w' := fun W h hW =>
      have h : k < es.length := by omega
      hg W d _ _ (((hr k h).below hW).rdl (hl _ (pe _ (getD_mem h)))) (pe _ (getD_mem h))
    have hst : ∀ (i j : Nat) (P : Program) (a : Addr) (m : Mode) (W : World), (store a (U i j) m).run P W = stored P W a (U i j) m := fun i j P a m W => run_store P W a _ m (ho i j)
    have hcl : k < n → (es.getD k []).length = 11 := fun h => hl _ (pe _ (getD_mem (by omega)))
    clear hc hr
    go_wp2_with (first
      | (go_at_call 237; refine (hcall _ (by omega) ?_).mono ?_; (focus (show Below _ _ _; exact hbl.trans (by go_grown))); rintro e W1 ⟨us, rfl, hus, hW1⟩; obtain ⟨y0, y1, y2, y3, y4, y5, y6, y7, y8, y9, y10, rfl⟩ := len11 (hus.1.trans (hcl (by omega))); have hbr : Below wr.heap.size wr W1 := Below.trans (by go_grown) (hW1.mono (by go_size)); clear hW1)
      | (at_builtin; refine append_two _ rfl _ _ 25 rfl w.heap.size 52 i0 (.agg #[.int .i64 0, .int .i64 0, .int .i64 0, .string { data := #[] }, .slice none 0 0, .int .i64 0, .int .i64 0, .slice none 0 0, .slice none 0 0, .slice none 0 0, .slice none 0 0]) 11 176 Tryz.underlying25 hi hz0 hz1 hz2 rfl (by decide) _ _ _ rfl ((own_below hown hbr).alloc _) ⟨W1.heap.size, 0, none⟩ 1 1 [y0, y1, y2, y3, y4, y5, y6, y7, y8, y9, y10] rfl rfl ?c1 ?c2 ?c3 ?c4 ?c5 ?_))
    case c1 => intro j u hj; exact cell_new W1 _ _ hj
    case c2 => exact hus.ones
    case c3 => unfold maxLen; omega
    case c4 => omega
    case c5 => have := hbr.size; simp only [World.size_alloc]; omega
    · intro v' w1 hown1 hgrow hblk
      go_wp2
      have hkn : k < n := by assumption
      have hbl1 : Below w.heap.size w w1 := ((hbl.trans (hbr.mono hsz)).alloc (by have := hbr.size; omega) _).grown hgrow (by have := hbr.size; simp only [World.size_alloc]; omega) (fun q hq => (own_lt hown q hq).1)
      go_roundw
      case rel => exact ⟨k + 1, xs ++ [y0, y1, y2, y3, y4, y5, y6, y7, y8, y9, y10], by omega, by go_num, hown1, each_step (by omega) hown hsz hxs (by go_size) hus hbr hgrow (by rw [World.size_alloc]; exact hblk), hbl1⟩
      case measure => simp [intOf]; omega
    · go_ret
      have hkn : k = n := by omega
      subst hkn
      refine ⟨_, rfl, own_rd (by rw [hn1]; exact hown) (by omega) (by rw [List.take_of_length_le (by omega)] at hxs; exact hxs) (fun q (hq : _ ∧ _ ∧ _) => ⟨hq.1, hq.2.1⟩) (fun q hq => own_lt hown q hq), hbl⟩
theorem info188 : (Tryz.prog.info? 188).map (fun i => (i.zero, i.size, i.bytes)) = some (some (.agg #[.slice none 0 0, .int .i64 0, .int .i64 0, .slice none 0 0, .slice none 0 0, .slice none 0 0]), 6, 112) := by kernel_rfl
theorem len6 {l : List Value} (h : l.length = 6) : ∃ y0 y1 y2 y3 y4 y5, l = [y0, y1, y2, y3, y4, y5] := by
  match l, h with
  | [y0, y1, y2, y3, y4, y5], _ => exact ⟨y0, y1, y2, y3, y4, y5, rfl⟩
set_option maxHeartbeats 2000000 in
theorem ea126 (P : List T → Prop) (hl : ∀ c, P c → c.length = 6) (hg : ClV 170 P) : EaC 126 170 P := by
  intro w d es v he pe
  obtain ⟨i0, hi, hz0, hz1, hz2⟩ := info_parts info188
  obtain ⟨d, rfl⟩ : ∃ d', d = d' + 1 := by
    cases d with
    | zero => exact he.elim
    | succ d => exact ⟨d, rfl⟩
  obtain ⟨a, cap, rfl, hn, hcap, hcell⟩ := he.rows (sz := 6) (fun c hc => hl c (pe c hc)) (by omega)
  clear he
  by_cases hz : es.length = 0
  · have e1 : es = [] := List.eq_nil_of_length_eq_zero hz
    subst e1
    clear hcell
    go_enter Tryz.func126, Tryz.ntmps126
    go_wp2
    go_loopw [5, 10] (fun o i wr => o = .slice none 0 0 ∧ i = .int .i64 0 ∧ Below w.heap.size w wr) (fun _ i _ => 0)
    case atStart => exact ⟨rfl, rfl, Below.refl _ _⟩
    case round =>
      obtain ⟨rfl, rfl, hbl⟩ := hrel
      go_wp2
      go_ret
      exact ⟨_, rfl, ⟨none, 0, rfl, Nat.zero_le _, Nat.zero_le _, Or.inl rfl⟩, hbl⟩
  obtain ⟨b, off, hb, rfl, U, hc, hr, ho⟩ := hcell (by omega)
  clear hcell
  obtain ⟨n, hn1⟩ : ∃ n, es.length = n := ⟨_, rfl⟩
  rw [hn1] at hn hcap hz
  rw [hn1]
  have hn3 : n ≤ 9223372036854775807 := by omega
  go_enter Tryz.func126, Tryz.ntmps126
  go_wp2
  go_loopw [5, 10] (fun o i wr => ∃ (k : Nat) (xs : List Value), k ≤ n ∧ i = .int .i64 k ∧ wr.ownsRow w.heap.size 188 6 o k xs ∧ RdAL (fun b => w.heap.size ≤ b ∧ b < wr.heap.size ∧ some b ≠ o.ownBlock) wr d (es.take k).flatten xs ∧ Below w.heap.size w wr) (fun _ i _ => n - (intOf i).toNat)
  case atStart => exact ⟨0, [], by omega, rfl, World.ownsRow_nil _ _ _ _, RdAL.mk_nil, Below.refl _ _⟩
  case round =>
    obtain ⟨k, xs, hk, rfl, hown, hxs, hbl⟩ := hrel
    have hsz := hbl.size
    have hbw : b < wr.heap.size := by omega
    have h0 : k < n → wr.cell? ⟨b, off + k * 6, none⟩ = some (U k 0) := fun h => ((hbl.cell (by exact hb)).trans (hc k 0 (by omega) (by omega)))
    have h1 : k < n → wr.cell? ⟨b, off + k * 6 + 1, none⟩ = some (U k 1) := fun h => ((hbl.cell (by exact hb)).trans (hc k 1 (by omega) (by omega)))
    have h2 : k < n → wr.cell? ⟨b, off + k * 6 + 2, none⟩ = some (U k 2) := fun h => ((hbl.cell (by exact hb)).trans (hc k 2 (by omega) (by omega)))
    have h3 : k < n → wr.cell? ⟨b, off + k * 6 + 3, none⟩ = some (U k 3) := fun h => ((hbl.cell (by exact hb)).trans (hc k 3 (by omega) (by omega)))
    have h4 : k < n → wr.cell? ⟨b, off + k * 6 + 4, none⟩ = some (U k 4) := fun h => ((hbl.cell (by exact hb)).trans (hc k 4 (by omega) (by omega)))
    have h5 : k < n → wr.cell? ⟨b, off + k * 6 + 5, none⟩ = some (U k 5) := fun h => ((hbl.cell (by exact hb)).trans (hc k 5 (by omega) (by omega)))
    have hcall : ∀ W, k < n → Below w.heap.size w W → Calls Tryz.prog 170 #[.agg #[U k 0, U k 1, U k 2, U k 3, U k 4, U k 5]] W fun e w' => ∃ us', e = .returned (.agg us'.toArray) ∧ RdAL (fun b => W.heap.size ≤ b ∧ b < w'.heap.size) w' d (es.getD k []) us' ∧ Below W.heap.size W w' := fun W h hW =>
      have h : k < es.length := by omega
      hg W d _ _ (((hr k h).below hW).rdl (hl _ (pe _ (getD_mem h)))) (pe _ (getD_mem h))
    have hst : ∀ (i j : Nat) (P : Program) (a : Addr) (m : Mode) (W : World), (store a (U i j) m).run P W = stored P W a (U i j) m := fun i j P a m W => run_store P W a _ m (ho i j)
    have hcl : k < n → (es.getD k []).length = 6 := fun h => hl _ (pe _ (getD_mem (by omega)))
    clear hc hr
    go_wp2_with (first
      | (go_at_call 170; refine (hcall _ (by omega) ?_).mono ?_; (focus (show Below _ _ _; exact hbl.trans (by go_grown))); rintro e W1 ⟨us, rfl, hus, hW1⟩; obtain ⟨y0, y1, y2, y3, y4, y5, rfl⟩ := len6 (hus.1.trans (hcl (by omega))); have hbr : Below wr.heap.size wr W1 := Below.trans (by go_grown) (hW1.mono (by go_size)); clear hW1)
      | (at_builtin; refine append_two _ rfl _ _ 26 rfl w.heap.size 188 i0 (.agg #[.slice none 0 0, .int .i64 0, .int .i64 0, .slice none 0 0, .slice none 0 0, .slice none 0 0]) 6 112 Tryz.underlying26 hi hz0 hz1 hz2 rfl (by decide) _ _ _ rfl ((own_below hown hbr).alloc _) ⟨W1.heap.size, 0, none⟩ 1 1 [y0, y1, y2, y3, y4, y5] rfl rfl ?c1 ?c2 ?c3 ?c4 ?c5 ?_))
    case c1 => intro j u hj; exact cell_new W1 _ _ hj
    case c2 => exact hus.ones
    case c3 => unfold maxLen; omega
    case c4 => omega
    case c5 => have := hbr.size; simp only [World.size_alloc]; omega
    · intro v' w1 hown1 hgrow hblk
      go_wp2
      have hkn : k < n := by assumption
      have hbl1 : Below w.heap.size w w1 := ((hbl.trans (hbr.mono hsz)).alloc (by have := hbr.size; omega) _).grown hgrow (by have := hbr.size; simp only [World.size_alloc]; omega) (fun q hq => (own_lt hown q hq).1)
      go_roundw
      case rel => exact ⟨k + 1, xs ++ [y0, y1, y2, y3, y4, y5], by omega, by go_num, hown1, each_step (by omega) hown hsz hxs (by go_size) hus hbr hgrow (by rw [World.size_alloc]; exact hblk), hbl1⟩
      case measure => simp [intOf]; omega
    · go_ret
      have hkn : k = n := by omega
      subst hkn
      refine ⟨_, rfl, own_rd (by rw [hn1]; exact hown) (by omega) (by rw [List.take_of_length_le (by omega)] at hxs; exact hxs) (fun q (hq : _ ∧ _ ∧ _) => ⟨hq.1, hq.2.1⟩) (fun q hq => own_lt hown q hq), hbl⟩
theorem info193 : (Tryz.prog.info? 193).map (fun i => (i.zero, i.size, i.bytes)) = some (some (.agg #[.int .i64 0, .slice none 0 0, .int .i64 0, .int .i64 0, .slice none 0 0, .slice none 0 0, .slice none 0 0]), 7, 120) := by kernel_rfl
theorem len7 {l : List Value} (h : l.length = 7) : ∃ y0 y1 y2 y3 y4 y5 y6, l = [y0, y1, y2, y3, y4, y5, y6] := by
  match l, h with
  | [y0, y1, y2, y3, y4, y5, y6], _ => exact ⟨y0, y1, y2, y3, y4, y5, y6, rfl⟩
set_option maxHeartbeats 2000000 in
theorem ea230 (P : List T → Prop) (hl : ∀ c, P c → c.length = 7) (hg : ClV 171 P) : EaC 230 171 P := by
  intro w d es v he pe
  obtain ⟨i0, hi, hz0, hz1, hz2⟩ := info_parts info193
  obtain ⟨d, rfl⟩ : ∃ d', d = d' + 1 := by
    cases d with
    | zero => exact he.elim
    | succ d => exact ⟨d, rfl⟩
  obtain ⟨a, cap, rfl, hn, hcap, hcell⟩ := he.rows (sz := 7) (fun c hc => hl c (pe c hc)) (by omega)
  clear he
  by_cases hz : es.length = 0
  · have e1 : es = [] := List.eq_nil_of_length_eq_zero hz
    subst e1
    clear hcell
    go_enter Tryz.func230, Tryz.ntmps230
    go_wp2
    go_loopw [5, 10] (fun o i wr => o = .slice none 0 0 ∧ i = .int .i64 0 ∧ Below w.heap.size w wr) (fun _ i _ => 0)
    case atStart => exact ⟨rfl, rfl, Below.refl _ _⟩
    case round =>
      obtain ⟨rfl, rfl, hbl⟩ := hrel
      go_wp2
      go_ret
      exact ⟨_, rfl, ⟨none, 0, rfl, Nat.zero_le _, Nat.zero_le _, Or.inl rfl⟩, hbl⟩
  obtain ⟨b, off, hb, rfl, U, hc, hr, ho⟩ := hcell (by omega)
  clear hcell
  obtain ⟨n, hn1⟩ : ∃ n, es.length = n := ⟨_, rfl⟩
  rw [hn1] at hn hcap hz
  rw [hn1]
  have hn3 : n ≤ 9223372036854775807 := by omega
  go_enter Tryz.func230, Tryz.ntmps230
  go_wp2
  go_loopw [5, 10] (fun o i wr => ∃ (k : Nat) (xs : List Value), k ≤ n ∧ i = .int .i64 k ∧ wr.ownsRow w.heap.size 193 7 o k xs ∧ RdAL (fun b => w.heap.size ≤ b ∧ b < wr.heap.size ∧ some b ≠ o.ownBlock) wr d (es.take k).flatten xs ∧ Below w.heap.size w wr) (fun _ i _ => n - (intOf i).toNat)
  case atStart => exact ⟨0, [], by omega, rfl, World.ownsRow_nil _ _ _ _, RdAL.mk_nil, Below.refl _ _⟩
  case round =>
    obtain ⟨k, xs, hk, rfl, hown, hxs, hbl⟩ := hrel
    have hsz := hbl.size
    have hbw : b < wr.heap.size := by omega
    have h0 : k < n → wr.cell? ⟨b, off + k * 7, none⟩ = some (U k 0) := fun h => ((hbl.cell (by exact hb)).trans (hc k 0 (by omega) (by omega)))
    have h1 : k < n → wr.cell? ⟨b, off + k * 7 + 1, none⟩ = some (U k 1) := fun h => ((hbl.cell (by exact hb)).trans (hc k 1 (by omega) (by omega)))
    have h2 : k < n → wr.cell? ⟨b, off + k * 7 + 2, none⟩ = some (U k 2) := fun h => ((hbl.cell (by exact hb)).trans (hc k 2 (by omega) (by omega)))
    have h3 : k < n → wr.cell? ⟨b, off + k * 7 + 3, none⟩ = some (U k 3) := fun h => ((hbl.cell (by exact hb)).trans (hc k 3 (by omega) (by omega)))
    have h4 : k < n → wr.cell? ⟨b, off + k * 7 + 4, none⟩ = some (U k 4) := fun h => ((hbl.cell (by exact hb)).trans (hc k 4 (by omega) (by omega)))
    have h5 : k < n → wr.cell? ⟨b, off + k * 7 + 5, none⟩ = some (U k 5) := fun h => ((hbl.cell (by exact hb)).trans (hc k 5 (by omega) (by omega)))
    have h6 : k < n → wr.cell? ⟨b, off + k * 7 + 6, none⟩ = some (U k 6) := fun h => ((hbl.cell (by exact hb)).trans (hc k 6 (by omega) (by omega)))
    have hcall : ∀ W, k < n → Below w.heap.size w W → Calls Tryz.prog 171 #[.agg #[U k 0, U k 1, U k 2, U k 3, U k 4, U k 5, U k 6]] W fun e w' => ∃ us', e = .returned (.agg us'.toArray) ∧ RdAL (fun b => W.heap.size ≤ b ∧ b < w'.heap.size) w' d (es.getD k []) us' ∧ Below W.heap.size W w' := fun W h hW =>
      have h : k < es.length := by omega
      hg W d _ _ (((hr k h).below hW).rdl (hl _ (pe _ (getD_mem h)))) (pe _ (getD_mem h))
    have hst : ∀ (i j : Nat) (P : Program) (a : Addr) (m : Mode) (W : World), (store a (U i j) m).run P W = stored P W a (U i j) m := fun i j P a m W => run_store P W a _ m (ho i j)
    have hcl : k < n → (es.getD k []).length = 7 := fun h => hl _ (pe _ (getD_mem (by omega)))
    clear hc hr
    go_wp2_with (first
      | (go_at_call 171; refine (hcall _ (by omega) ?_).mono ?_; (focus (show Below _ _ _; exact hbl.trans (by go_grown))); rintro e W1 ⟨us, rfl, hus, hW1⟩; obtain ⟨y0, y1, y2, y3, y4, y5, y6, rfl⟩ := len7 (hus.1.trans (hcl (by omega))); have hbr : Below wr.heap.size wr W1 := Below.trans (by go_grown) (hW1.mono (by go_size)); clear hW1)
      | (at_builtin; refine append_two _ rfl _ _ 27 rfl w.heap.size 193 i0 (.agg #[.int .i64 0, .slice none 0 0, .int .i64 0, .int .i64 0, .slice none 0 0, .slice none 0 0, .slice none 0 0]) 7 120 Tryz.underlying27 hi hz0 hz1 hz2 rfl (by decide) _ _ _ rfl ((own_below hown hbr).alloc _) ⟨W1.heap.size, 0, none⟩ 1 1 [y0, y1, y2, y3, y4, y5, y6] rfl rfl ?c1 ?c2 ?c3 ?c4 ?c5 ?_))
    case c1 => intro j u hj; exact cell_new W1 _ _ hj
    case c2 => exact hus.ones
    case c3 => unfold maxLen; omega
    case c4 => omega
    case c5 => have := hbr.size; simp only [World.size_alloc]; omega
    · intro v' w1 hown1 hgrow hblk
      go_wp2
      have hkn : k < n := by assumption
      have hbl1 : Below w.heap.size w w1 := ((hbl.trans (hbr.mono hsz)).alloc (by have := hbr.size; omega) _).grown hgrow (by have := hbr.size; simp only [World.size_alloc]; omega) (fun q hq => (own_lt hown q hq).1)
      go_roundw
      case rel => exact ⟨k + 1, xs ++ [y0, y1, y2, y3, y4, y5, y6], by omega, by go_num, hown1, each_step (by omega) hown hsz hxs (by go_size) hus hbr hgrow (by rw [World.size_alloc]; exact hblk), hbl1⟩
      case measure => simp [intOf]; omega
    · go_ret
      have hkn : k = n := by omega
      subst hkn
      refine ⟨_, rfl, own_rd (by rw [hn1]; exact hown) (by omega) (by rw [List.take_of_length_le (by omega)] at hxs; exact hxs) (fun q (hq : _ ∧ _ ∧ _) => ⟨hq.1, hq.2.1⟩) (fun q hq => own_lt hown q hq), hbl⟩
end Go.Proofs.YtmhkceeiiklfdaaGreat
