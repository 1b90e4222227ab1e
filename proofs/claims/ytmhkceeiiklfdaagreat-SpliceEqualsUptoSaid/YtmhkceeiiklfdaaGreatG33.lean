/- A part of the proof of SpliceEqualsUptoSaid (texts: GrSm341). No conditions. -/
import Derived.Test.YtmhkceeiiklfdaaGreatG32
set_option linter.unusedVariables false
set_option linter.unusedSimpArgs false
set_option linter.unusedVariables false
set_option linter.unusedSimpArgs false
set_option maxRecDepth 20000
namespace Go.Proofs.YtmhkceeiiklfdaaGreat
open Go.RowKit Go.Abs
theorem But.below {lb : Nat} {w w1 w2 : World} (h : But lb w w1) (hlb : lb < w.heap.size) (k : Below w1.heap.size w1 w2) : But lb w w2 :=
  ⟨k.os.trans h.os, k.tape.trans h.tape, k.output.trans h.output, Nat.le_trans h.size k.size, fun b h1 h2 => (k.block b (Nat.lt_of_lt_of_le h1 h.size)).trans (h.block b h1 h2), by
    obtain ⟨n, hn⟩ := h.cell
    exact ⟨n, (k.block lb (Nat.lt_of_lt_of_le hlb h.size)).trans hn⟩⟩
theorem But.set0 {lb : Nat} {w w1 : World} (h : But lb w w1) (n : Int) : But lb w (w1.setCell ⟨lb, 0, none⟩ (.int .i64 n)) := by
  obtain ⟨m, hm⟩ := h.cell
  refine ⟨h.os, h.tape, h.output, ?_, fun b h1 h2 => ?_, n, ?_⟩
  · rw [World.size_setCell]; exact h.size
  · rw [Below.heap_setCell _ _ _ _ h2]; exact h.block b h1 h2
  · rw [setCell_wset hm, wset_at _ _ _ (heap_lt hm)]
    rfl
theorem But.drew {lb : Nat} {w w1 : World} (h : But lb w w1) : But lb w w1.drew := ⟨h.os, h.tape, h.output, h.size, h.block, h.cell⟩
set_option maxHeartbeats 4000000 in
theorem sm341 {P : List T → Prop} (h267 : SmC 267 P) : SmC 341 (IsRow P) := by
  intro w S d es v lv lb n hv hP hSw hl hS
  obtain ⟨d, rfl⟩ : ∃ d', d = d' + 1 := by
    cases d with
    | zero => exact hv.elim
    | succ d => exact ⟨d, rfl⟩
  obtain ⟨a, cap, rfl, hm, hcap, hcell⟩ := hv
  go_enter Tryz.func341, Tryz.ntmps341
  go_wp2
  have hlw := heap_lt hl
  go_loopw [7] (fun i wr => ∃ (k : Nat), k ≤ es.length ∧ i = .int .i64 k ∧ But lb w wr) (fun i _ => es.length - (intOf i).toNat)
  case atStart => exact ⟨0, by omega, rfl, But.refl hl⟩
  case round =>
    obtain ⟨k, hk, rfl, hbr⟩ := hrel
    obtain ⟨nn, hlc, hlf⟩ := hbr.cellAt
    rcases Nat.lt_or_ge k es.length with hkn | hkn
    · obtain ⟨hd, cs, hel, ph, pc⟩ := hP _ (getD_mem hkn)
      obtain ⟨pp, pi, pm, pd, pl, rfl, _⟩ := ph
      have hek : es[k]? = some (es.getD k []) := by simp [List.getD, hkn]
      have hlen : ∀ c ∈ es, c.length = 6 := fun c hc => (hP c hc).len
      rcases hcell with hcell | ⟨b, off, C, el, fr, hSb, rfl, hb, hC⟩
      · exfalso
        have := flat_get (sz := 6) (fun c hc => hlen c hc) k 1 _ (.lf (.int pi)) hek (by rw [hel]; rfl)
        rw [hcell] at this
        simp at this
      have hbl : b ≠ lb := fun e => hS (e ▸ hSb)
      have hbw := heap_lt hb
      have get : ∀ j t, (es.getD k [])[j]? = some t → ∃ u, w.cell? ⟨b, off + k * 6 + j, none⟩ = some u ∧ RdA S w d t u := fun j t ht => by
        obtain ⟨u, e1, e2⟩ := hC _ t (flat_get (sz := 6) (fun c hc => hlen c hc) k j _ t hek ht)
        refine ⟨u, ?_, e2⟩
        unfold World.cell?
        simp only
        rw [hb]
        simp only
        rw [Nat.add_assoc]; exact e1
      rw [hel] at get
      obtain ⟨u0, g0, q0⟩ := get 0 _ rfl
      obtain ⟨u3, g3, q3⟩ := get 3 _ rfl
      obtain ⟨u4, g4, q4⟩ := get 4 _ rfl
      obtain ⟨u5, g5, q5⟩ := get 5 _ rfl
      obtain ⟨a0, n0, c0, rfl⟩ := q0.slice
      obtain ⟨a3, n3, c3, rfl⟩ := q3.slice
      obtain ⟨a4, n4, c4, rfl⟩ := q4.slice
      obtain ⟨d, rfl⟩ : ∃ d', d = d' + 1 := by
        cases d with
        | zero => exact q5.elim
        | succ d => exact ⟨d, rfl⟩
      obtain ⟨a5, cap5, rfl, hm5, hcap5, hcell5⟩ := q5
      have at0 : ∀ W, But lb w W → W.cell? ⟨b, off + k * 6, none⟩ = some (.slice a0 n0 c0) := fun W hW => hW.cells hbw hbl g0
      have at3 : ∀ W, But lb w W → W.cell? ⟨b, off + k * 6 + 3, none⟩ = some (.slice a3 n3 c3) := fun W hW => hW.cells hbw hbl g3
      have at4 : ∀ W, But lb w W → W.cell? ⟨b, off + k * 6 + 4, none⟩ = some (.slice a4 n4 c4) := fun W hW => hW.cells hbw hbl g4
      have at5 : ∀ W, But lb w W → W.cell? ⟨b, off + k * 6 + 5, none⟩ = some (.slice a5 cs.length cap5) := fun W hW => hW.cells hbw hbl g5
      have hr0 := at0 wr hbr
      have hr3 := at3 wr hbr
      have hr4 := at4 wr hbr
      have hr5 := at5 wr hbr
      have hbr2 : b < wr.heap.size := Nat.lt_of_lt_of_le hbw hbr.size
      have hB0 := hbr.set
      clear get hC hb hek hlen q0 q3 q4 g0 g3 g4 g5 at0 at3 at4
      go_wp2
      refine wp_region_held_tail 34 (fun W' => W'.cell? ⟨lb, 0, none⟩ = some (.int .i64 nn) ∧ W'.cell? ⟨b, off + k * 6, none⟩ = some (.slice a0 n0 c0) ∧ W'.cell? ⟨b, off + k * 6 + 3, none⟩ = some (.slice a3 n3 c3) ∧ W'.cell? ⟨b, off + k * 6 + 4, none⟩ = some (.slice a4 n4 c4)) (by kernel_rfl) (by kernel_rfl) ?_ (fun hHeld => ?_)
      · ((try dsimp only); go_keep)
      simp only [List.drop_succ_cons, List.drop_zero]
      refine wpAnyT_take (i := 0) (v := ?va0) rfl (by kernel_rfl) (by kernel_rfl) (by kernel_rfl) (by kernel_rfl) (by kernel_rfl) (fun _ _ _ h => h) (Or.inl ⟨by rfl, ?ya0⟩) (by assumption) ?ra0
      case ya0 => (intro w hSw; (try dsimp only at hSw); go_simp; try (with_reducible rfl))
      try simp only [Act.put, List.setIfInBounds_toArray, List.set_cons_zero, List.set_cons_succ]
      refine wpAnyT_take (i := 1) (v := ?va1) rfl (by kernel_rfl) (by kernel_rfl) (by kernel_rfl) (by kernel_rfl) (by kernel_rfl) (fun _ _ _ h => h) (Or.inl ⟨by rfl, ?ya1⟩) (by assumption) ?ra1
      case ya1 => (intro w hSw; (try dsimp only at hSw); go_simp; try (with_reducible rfl))
      try simp only [Act.put, List.setIfInBounds_toArray, List.set_cons_zero, List.set_cons_succ]
      refine wpAnyT_take (i := 2) (v := ?va2) rfl (by kernel_rfl) (by kernel_rfl) (by kernel_rfl) (by kernel_rfl) (by kernel_rfl) (fun _ _ _ h => h) (Or.inl ⟨by rfl, ?ya2⟩) (by assumption) ?ra2
      case ya2 => (intro w hSw; (try dsimp only at hSw); go_simp; try (with_reducible rfl))
      try simp only [Act.put, List.setIfInBounds_toArray, List.set_cons_zero, List.set_cons_succ]
      refine wpAnyT_take (i := 3) (v := ?va3) rfl (by kernel_rfl) (by kernel_rfl) (by kernel_rfl) (by kernel_rfl) (by kernel_rfl) (fun _ _ _ h => h) (Or.inl ⟨by rfl, ?ya3⟩) (by assumption) ?ra3
      case ya3 => (intro w hSw; (try dsimp only at hSw); go_simp; try (with_reducible rfl))
      try simp only [Act.put, List.setIfInBounds_toArray, List.set_cons_zero, List.set_cons_succ]
      refine wpAnyT_take (i := 4) (v := ?va4) rfl (by kernel_rfl) (by kernel_rfl) (by kernel_rfl) (by kernel_rfl) (by kernel_rfl) (fun _ _ _ h => h) (Or.inl ⟨by rfl, ?ya4⟩) (by assumption) ?ra4
      case ya4 => (intro w hSw; (try dsimp only at hSw); go_simp; try (with_reducible rfl))
      try simp only [Act.put, List.setIfInBounds_toArray, List.set_cons_zero, List.set_cons_succ]
      refine wpAnyT_take (i := 5) (v := ?va5) rfl (by kernel_rfl) (by kernel_rfl) (by kernel_rfl) (by kernel_rfl) (by kernel_rfl) (fun _ _ _ h => h) (Or.inl ⟨by rfl, ?ya5⟩) (by assumption) ?ra5
      case ya5 => (intro w hSw; (try dsimp only at hSw); go_simp; try (with_reducible rfl))
      try simp only [Act.put, List.setIfInBounds_toArray, List.set_cons_zero, List.set_cons_succ]
      refine wpAnyT_take (i := 6) (v := ?va6) rfl (by kernel_rfl) (by kernel_rfl) (by kernel_rfl) (by kernel_rfl) (by kernel_rfl) (fun _ _ _ h => h) (Or.inl ⟨by rfl, ?ya6⟩) (by assumption) ?ra6
      case ya6 => (intro w hSw; (try dsimp only at hSw); go_simp; try (with_reducible rfl))
      try simp only [Act.put, List.setIfInBounds_toArray, List.set_cons_zero, List.set_cons_succ]
      refine wpAnyT_take (i := 7) (v := ?va7) rfl (by kernel_rfl) (by kernel_rfl) (by kernel_rfl) (by kernel_rfl) (by kernel_rfl) (fun _ _ _ h => h) (Or.inl ⟨by rfl, ?ya7⟩) (by assumption) ?ra7
      case ya7 => (intro w hSw; (try dsimp only at hSw); go_simp; try (with_reducible rfl))
      try simp only [Act.put, List.setIfInBounds_toArray, List.set_cons_zero, List.set_cons_succ]
      refine wpAnyT_take (i := 8) (v := ?va8) rfl (by kernel_rfl) (by kernel_rfl) (by kernel_rfl) (by kernel_rfl) (by kernel_rfl) (fun _ _ _ h => h) (Or.inl ⟨by rfl, ?ya8⟩) (by assumption) ?ra8
      case ya8 => (intro w hSw; (try dsimp only at hSw); go_simp; try (with_reducible rfl))
      try simp only [Act.put, List.setIfInBounds_toArray, List.set_cons_zero, List.set_cons_succ]
      refine wpAnyT_take (i := 9) (v := ?va9) rfl (by kernel_rfl) (by kernel_rfl) (by kernel_rfl) (by kernel_rfl) (by kernel_rfl) (fun _ _ _ h => h) (Or.inl ⟨by rfl, ?ya9⟩) (by assumption) ?ra9
      case ya9 => (intro w hSw; (try dsimp only at hSw); go_simp; try (with_reducible rfl))
      try simp only [Act.put, List.setIfInBounds_toArray, List.set_cons_zero, List.set_cons_succ]
      refine wpAnyT_take (i := 10) (v := ?va10) rfl (by kernel_rfl) (by kernel_rfl) (by kernel_rfl) (by kernel_rfl) (by kernel_rfl) (fun _ _ _ h => h) (Or.inl ⟨by rfl, ?ya10⟩) (by assumption) ?ra10
      case ya10 => (intro w hSw; (try dsimp only at hSw); go_simp; try (with_reducible rfl))
      try simp only [Act.put, List.setIfInBounds_toArray, List.set_cons_zero, List.set_cons_succ]
      refine wpAnyT_take (i := 11) (v := ?va11) rfl (by kernel_rfl) (by kernel_rfl) (by kernel_rfl) (by kernel_rfl) (by kernel_rfl) (fun _ _ _ h => h) (Or.inl ⟨by rfl, ?ya11⟩) (by assumption) ?ra11
      case ya11 => (intro w hSw; (try dsimp only at hSw); go_simp; try (with_reducible rfl))
      try simp only [Act.put, List.setIfInBounds_toArray, List.set_cons_zero, List.set_cons_succ]
      refine wpAnyT_take (i := 12) (v := ?va12) rfl (by kernel_rfl) (by kernel_rfl) (by kernel_rfl) (by kernel_rfl) (by kernel_rfl) (fun _ _ _ h => h) (Or.inl ⟨by rfl, ?ya12⟩) (by assumption) ?ra12
      case ya12 => (intro w hSw; (try dsimp only at hSw); go_simp; try (with_reducible rfl))
      try simp only [Act.put, List.setIfInBounds_toArray, List.set_cons_zero, List.set_cons_succ]
      refine wpAnyT_take (i := 13) (v := ?va13) rfl (by kernel_rfl) (by kernel_rfl) (by kernel_rfl) (by kernel_rfl) (by kernel_rfl) (fun _ _ _ h => h) (Or.inl ⟨by rfl, ?ya13⟩) (by assumption) ?ra13
      case ya13 => (intro w hSw; (try dsimp only at hSw); go_simp; try (with_reducible rfl))
      try simp only [Act.put, List.setIfInBounds_toArray, List.set_cons_zero, List.set_cons_succ]
      refine wpAnyT_take (i := 14) (v := ?va14) rfl (by kernel_rfl) (by kernel_rfl) (by kernel_rfl) (by kernel_rfl) (by kernel_rfl) (fun _ _ _ h => h) (Or.inl ⟨by rfl, ?ya14⟩) (by assumption) ?ra14
      case ya14 => (intro w hSw; (try dsimp only at hSw); go_simp; try (with_reducible rfl))
      try simp only [Act.put, List.setIfInBounds_toArray, List.set_cons_zero, List.set_cons_succ]
      refine wpAnyT_take (i := 15) (v := ?va15) rfl (by kernel_rfl) (by kernel_rfl) (by kernel_rfl) (by kernel_rfl) (by kernel_rfl) (fun _ _ _ h => h) (Or.inl ⟨by rfl, ?ya15⟩) (by assumption) ?ra15
      case ya15 => (intro w hSw; (try dsimp only at hSw); go_simp; try (with_reducible rfl))
      try simp only [Act.put, List.setIfInBounds_toArray, List.set_cons_zero, List.set_cons_succ]
      refine wpAnyT_take (i := 16) (v := ?va16) rfl (by kernel_rfl) (by kernel_rfl) (by kernel_rfl) (by kernel_rfl) (by kernel_rfl) (fun _ _ _ h => h) (Or.inl ⟨by rfl, ?ya16⟩) (by assumption) ?ra16
      case ya16 => (intro w hSw; (try dsimp only at hSw); go_simp; try (with_reducible rfl))
      try simp only [Act.put, List.setIfInBounds_toArray, List.set_cons_zero, List.set_cons_succ]
      refine wpAnyT_take (i := 17) (v := ?va17) rfl (by kernel_rfl) (by kernel_rfl) (by kernel_rfl) (by kernel_rfl) (by kernel_rfl) (fun _ _ _ h => h) (Or.inl ⟨by rfl, ?ya17⟩) (by assumption) ?ra17
      case ya17 => (intro w hSw; (try dsimp only at hSw); go_simp; try (with_reducible rfl))
      try simp only [Act.put, List.setIfInBounds_toArray, List.set_cons_zero, List.set_cons_succ]
      refine wpAnyT_take (i := 18) (v := ?va18) rfl (by kernel_rfl) (by kernel_rfl) (by kernel_rfl) (by kernel_rfl) (by kernel_rfl) (fun _ _ _ h => h) (Or.inl ⟨by rfl, ?ya18⟩) (by assumption) ?ra18
      case ya18 => (intro w hSw; (try dsimp only at hSw); go_simp; try (with_reducible rfl))
      try simp only [Act.put, List.setIfInBounds_toArray, List.set_cons_zero, List.set_cons_succ]
      refine wpAnyT_take (i := 19) (v := ?va19) rfl (by kernel_rfl) (by kernel_rfl) (by kernel_rfl) (by kernel_rfl) (by kernel_rfl) (fun _ _ _ h => h) (Or.inl ⟨by rfl, ?ya19⟩) (by assumption) ?ra19
      case ya19 => (intro w hSw; (try dsimp only at hSw); go_simp; try (with_reducible rfl))
      try simp only [Act.put, List.setIfInBounds_toArray, List.set_cons_zero, List.set_cons_succ]
      refine wpAnyT_take (i := 20) (v := ?va20) rfl (by kernel_rfl) (by kernel_rfl) (by kernel_rfl) (by kernel_rfl) (by kernel_rfl) (fun _ _ _ h => h) (Or.inl ⟨by rfl, ?ya20⟩) (by assumption) ?ra20
      case ya20 => (intro w hSw; (try dsimp only at hSw); go_simp; try (with_reducible rfl))
      try simp only [Act.put, List.setIfInBounds_toArray, List.set_cons_zero, List.set_cons_succ]
      refine wpAnyT_take (i := 21) (v := ?va21) rfl (by kernel_rfl) (by kernel_rfl) (by kernel_rfl) (by kernel_rfl) (by kernel_rfl) (fun _ _ _ h => h) (Or.inl ⟨by rfl, ?ya21⟩) (by assumption) ?ra21
      case ya21 => (intro w hSw; (try dsimp only at hSw); go_simp; try (with_reducible rfl))
      try simp only [Act.put, List.setIfInBounds_toArray, List.set_cons_zero, List.set_cons_succ]
      refine wpAnyT_take (i := 22) (v := ?va22) rfl (by kernel_rfl) (by kernel_rfl) (by kernel_rfl) (by kernel_rfl) (by kernel_rfl) (fun _ _ _ h => h) (Or.inl ⟨by rfl, ?ya22⟩) (by assumption) ?ra22
      case ya22 => (intro w hSw; (try dsimp only at hSw); go_simp; try (with_reducible rfl))
      try simp only [Act.put, List.setIfInBounds_toArray, List.set_cons_zero, List.set_cons_succ]
      refine wpAnyT_take (i := 23) (v := ?va23) rfl (by kernel_rfl) (by kernel_rfl) (by kernel_rfl) (by kernel_rfl) (by kernel_rfl) (fun _ _ _ h => h) (Or.inl ⟨by rfl, ?ya23⟩) (by assumption) ?ra23
      case ya23 => (intro w hSw; (try dsimp only at hSw); go_simp; try (with_reducible rfl))
      try simp only [Act.put, List.setIfInBounds_toArray, List.set_cons_zero, List.set_cons_succ]
      refine wpAnyT_take (i := 24) (v := ?va24) rfl (by kernel_rfl) (by kernel_rfl) (by kernel_rfl) (by kernel_rfl) (by kernel_rfl) (fun _ _ _ h => h) (Or.inl ⟨by rfl, ?ya24⟩) (by assumption) ?ra24
      case ya24 => (intro w hSw; (try dsimp only at hSw); go_simp; try (with_reducible rfl))
      try simp only [Act.put, List.setIfInBounds_toArray, List.set_cons_zero, List.set_cons_succ]
      refine wpAnyT_take (i := 25) (v := ?va25) rfl (by kernel_rfl) (by kernel_rfl) (by kernel_rfl) (by kernel_rfl) (by kernel_rfl) (fun _ _ _ h => h) (Or.inl ⟨by rfl, ?ya25⟩) (by assumption) ?ra25
      case ya25 => (intro w hSw; (try dsimp only at hSw); go_simp; try (with_reducible rfl))
      try simp only [Act.put, List.setIfInBounds_toArray, List.set_cons_zero, List.set_cons_succ]
      refine wpAnyT_take (i := 26) (v := ?va26) rfl (by kernel_rfl) (by kernel_rfl) (by kernel_rfl) (by kernel_rfl) (by kernel_rfl) (fun _ _ _ h => h) (Or.inl ⟨by rfl, ?ya26⟩) (by assumption) ?ra26
      case ya26 => (intro w hSw; (try dsimp only at hSw); go_simp; try (with_reducible rfl))
      try simp only [Act.put, List.setIfInBounds_toArray, List.set_cons_zero, List.set_cons_succ]
      refine wpAnyT_take (i := 27) (v := ?va27) rfl (by kernel_rfl) (by kernel_rfl) (by kernel_rfl) (by kernel_rfl) (by kernel_rfl) (fun _ _ _ h => h) (Or.inl ⟨by rfl, ?ya27⟩) (by assumption) ?ra27
      case ya27 => (intro w hSw; (try dsimp only at hSw); go_simp; try (with_reducible rfl))
      try simp only [Act.put, List.setIfInBounds_toArray, List.set_cons_zero, List.set_cons_succ]
      refine wpAnyT_take (i := 28) (v := ?va28) rfl (by kernel_rfl) (by kernel_rfl) (by kernel_rfl) (by kernel_rfl) (by kernel_rfl) (fun _ _ _ h => h) (Or.inl ⟨by rfl, ?ya28⟩) (by assumption) ?ra28
      case ya28 => (intro w hSw; (try dsimp only at hSw); go_simp; try (with_reducible rfl))
      try simp only [Act.put, List.setIfInBounds_toArray, List.set_cons_zero, List.set_cons_succ]
      refine wpAnyT_take (i := 29) (v := ?va29) rfl (by kernel_rfl) (by kernel_rfl) (by kernel_rfl) (by kernel_rfl) (by kernel_rfl) (fun _ _ _ h => h) (Or.inl ⟨by rfl, ?ya29⟩) (by assumption) ?ra29
      case ya29 => (intro w hSw; (try dsimp only at hSw); go_simp; try (with_reducible rfl))
      try simp only [Act.put, List.setIfInBounds_toArray, List.set_cons_zero, List.set_cons_succ]
      refine wpAnyT_take (i := 30) (v := ?va30) rfl (by kernel_rfl) (by kernel_rfl) (by kernel_rfl) (by kernel_rfl) (by kernel_rfl) (fun _ _ _ h => h) (Or.inl ⟨by rfl, ?ya30⟩) (by assumption) ?ra30
      case ya30 => (intro w hSw; (try dsimp only at hSw); go_simp; try (with_reducible rfl))
      try simp only [Act.put, List.setIfInBounds_toArray, List.set_cons_zero, List.set_cons_succ]
      refine wpAnyT_take (i := 31) (v := ?va31) rfl (by kernel_rfl) (by kernel_rfl) (by kernel_rfl) (by kernel_rfl) (by kernel_rfl) (fun _ _ _ h => h) (Or.inl ⟨by rfl, ?ya31⟩) (by assumption) ?ra31
      case ya31 => (intro w hSw; (try dsimp only at hSw); go_simp; try (with_reducible rfl))
      try simp only [Act.put, List.setIfInBounds_toArray, List.set_cons_zero, List.set_cons_succ]
      refine wpAnyT_take (i := 32) (v := ?va32) rfl (by kernel_rfl) (by kernel_rfl) (by kernel_rfl) (by kernel_rfl) (by kernel_rfl) (fun _ _ _ h => h) (Or.inl ⟨by rfl, ?ya32⟩) (by assumption) ?ra32
      case ya32 => (intro w hSw; (try dsimp only at hSw); go_simp; try (with_reducible rfl))
      try simp only [Act.put, List.setIfInBounds_toArray, List.set_cons_zero, List.set_cons_succ]
      refine wpAnyT_take (i := 33) (v := ?va33) rfl (by kernel_rfl) (by kernel_rfl) (by kernel_rfl) (by kernel_rfl) (by kernel_rfl) (fun _ _ _ h => h) (Or.inl ⟨by rfl, ?ya33⟩) (by assumption) ?ra33
      case ya33 => (intro w hSw; (try dsimp only at hSw); go_simp; try (with_reducible rfl))
      try simp only [Act.put, List.setIfInBounds_toArray, List.set_cons_zero, List.set_cons_succ]
      refine ⟨by kernel_rfl, ?_⟩
      clear hHeld
      go_wp2
      clear hbr hr0 hr3 hr4 hr5 hlc hlf
      try simp only [IntWalk.i64_left]
      go_loopw [8] (fun i wi => ∃ (m : Nat), m ≤ cs.length ∧ i = .int .i64 m ∧ But lb w wi) (fun i _ => cs.length - (intOf i).toNat)
      case atStart => exact ⟨0, by omega, rfl, by first | exact hB1 | exact hB0 _⟩
      case round =>
        obtain ⟨m, hmm, rfl, hbi⟩ := hrel
        obtain ⟨nm, hmc, hmf⟩ := hbi.cellAt
        have hi5 := at5 _ hbi
        rcases Nat.lt_or_ge m cs.length with hmn | hmn
        · obtain ⟨ci, hdc, fl, hec, phc, pf⟩ := pc _ (getD_mem hmn)
          obtain ⟨xp, xi, xm, xd, xl, rfl, _⟩ := phc
          have hem : cs[m]? = some (cs.getD m []) := by simp [List.getD, hmn]
          have hlen : ∀ c ∈ cs, c.length = 7 := fun c hc => (pc c hc).len
          rcases hcell5 with hcell5 | ⟨b', off', C', el', fr', hSb', rfl, hb', hC'⟩
          · exfalso
            have := flat_get (sz := 7) (fun c hc => hlen c hc) m 0 _ (.lf (.int ci)) hem (by rw [hec]; rfl)
            rw [hcell5] at this
            simp at this
          have hbl' : b' ≠ lb := fun e => hS (e ▸ hSb')
          have hbw' := heap_lt hb'
          have get : ∀ j t, (cs.getD m [])[j]? = some t → ∃ u, w.cell? ⟨b', off' + m * 7 + j, none⟩ = some u ∧ RdA S w d t u := fun j t ht => by
            obtain ⟨u, e1, e2⟩ := hC' _ t (flat_get (sz := 7) (fun c hc => hlen c hc) m j _ t hem ht)
            refine ⟨u, ?_, e2⟩
            unfold World.cell?
            simp only
            rw [hb']
            simp only
            rw [Nat.add_assoc]; exact e1
          rw [hec] at get
          obtain ⟨x1, y1, z1⟩ := get 1 _ rfl
          obtain ⟨x2, y2, z2⟩ := get 2 _ rfl
          obtain ⟨x3, y3, z3⟩ := get 3 _ rfl
          obtain ⟨x4, y4, z4⟩ := get 4 _ rfl
          obtain ⟨x5, y5, z5⟩ := get 5 _ rfl
          obtain ⟨x6, y6, z6⟩ := get 6 _ rfl
          obtain ⟨a1, n1, c1, rfl⟩ := z1.slice
          obtain rfl : x2 = .int .i64 xi := z2.lf
          obtain rfl : x3 = .int .i64 xm := z3.lf
          obtain ⟨a4', n4', c4', rfl⟩ := z4.slice
          obtain ⟨a5', n5', c5', rfl⟩ := z5.slice
          have at6 : ∀ W, But lb w W → W.cell? ⟨b', off' + m * 7 + 6, none⟩ = some x6 := fun W hW => hW.cells hbw' hbl' y6
          have f1 := hbi.cells hbw' hbl' y1
          have f2 := hbi.cells hbw' hbl' y2
          have f3 := hbi.cells hbw' hbl' y3
          have f4 := hbi.cells hbw' hbl' y4
          have f5 := hbi.cells hbw' hbl' y5
          have hbi2 : b' < wr.heap.size := Nat.lt_of_lt_of_le hbw' hbi.size
          have hbi3 : b < wr.heap.size := Nat.lt_of_lt_of_le hbw hbi.size
          have hli : lb < wr.heap.size := Nat.lt_of_lt_of_le hlw hbi.size
          have c267 : ∀ W lv', But lb w W → Calls Tryz.prog 267 #[x6, .int .i64 lv', .pointer (some ⟨lb, 0, none⟩)] W fun e W' => ∃ r : Bool, e = .returned (.bool r) ∧ But lb w W' := fun W lv' hW => by
            obtain ⟨q, hq⟩ := hW.cell
            exact (h267 W S d fl x6 lv' lb q (RdA.but hW hSw hS z6) pf (fun b hb => Nat.lt_of_lt_of_le (hSw b hb) hW.size) hq hS).mono fun e W' ⟨r, h1, h2⟩ => ⟨r, h1, hW.trans h2⟩
          have hx6 := at6 _ hbi
          have hB2 : ∀ z : Int, But lb w (((wr.setCell ⟨lb, 0, none⟩ (.int .i64 z)).alloc (Obj.cells #[Value.slice a1 n1 c1, Value.int IntKind.i64 xi, Value.int IntKind.i64 xm, Value.slice a4' n4' c4', Value.slice a5' n5' c5'] 34)).drew) := fun z => ((hbi.set0 z).below hlw ((Below.refl _ _).alloc (Nat.le_refl _) _)).drew
          clear get hC' hb' hem hlen z1 z2 z3 z4 z5 y1 y2 y3 y4 y5
          go_wp2
          refine wp_region_held_tail 22 (fun W' => W'.cell? ⟨lb, 0, none⟩ = some (.int .i64 nm) ∧ W'.cell? ⟨wr.heap.size, 0, none⟩ = some (.slice a1 n1 c1) ∧ W'.cell? ⟨wr.heap.size, 3, none⟩ = some (.slice a4' n4' c4') ∧ W'.cell? ⟨wr.heap.size, 4, none⟩ = some (.slice a5' n5' c5')) (by kernel_rfl) (by kernel_rfl) ?_ (fun hHeld => ?_)
          · ((try dsimp only); go_keep)
          simp only [List.drop_succ_cons, List.drop_zero]
          refine wpAnyT_take (i := 0) (v := ?vb0) rfl (by kernel_rfl) (by kernel_rfl) (by kernel_rfl) (by kernel_rfl) (by kernel_rfl) (fun _ _ _ h => h) (Or.inl ⟨by rfl, ?yb0⟩) (by assumption) ?rb0
          case yb0 => (intro w hSw; (try dsimp only at hSw); go_simp; try (with_reducible rfl))
          try simp only [Act.put, List.setIfInBounds_toArray, List.set_cons_zero, List.set_cons_succ]
          refine wpAnyT_take (i := 1) (v := ?vb1) rfl (by kernel_rfl) (by kernel_rfl) (by kernel_rfl) (by kernel_rfl) (by kernel_rfl) (fun _ _ _ h => h) (Or.inl ⟨by rfl, ?yb1⟩) (by assumption) ?rb1
          case yb1 => (intro w hSw; (try dsimp only at hSw); go_simp; try (with_reducible rfl))
          try simp only [Act.put, List.setIfInBounds_toArray, List.set_cons_zero, List.set_cons_succ]
          refine wpAnyT_take (i := 2) (v := ?vb2) rfl (by kernel_rfl) (by kernel_rfl) (by kernel_rfl) (by kernel_rfl) (by kernel_rfl) (fun _ _ _ h => h) (Or.inl ⟨by rfl, ?yb2⟩) (by assumption) ?rb2
          case yb2 => (intro w hSw; (try dsimp only at hSw); go_simp; try (with_reducible rfl))
          try simp only [Act.put, List.setIfInBounds_toArray, List.set_cons_zero, List.set_cons_succ]
          refine wpAnyT_take (i := 3) (v := ?vb3) rfl (by kernel_rfl) (by kernel_rfl) (by kernel_rfl) (by kernel_rfl) (by kernel_rfl) (fun _ _ _ h => h) (Or.inl ⟨by rfl, ?yb3⟩) (by assumption) ?rb3
          case yb3 => (intro w hSw; (try dsimp only at hSw); go_simp; try (with_reducible rfl))
          try simp only [Act.put, List.setIfInBounds_toArray, List.set_cons_zero, List.set_cons_succ]
          refine wpAnyT_take (i := 4) (v := ?vb4) rfl (by kernel_rfl) (by kernel_rfl) (by kernel_rfl) (by kernel_rfl) (by kernel_rfl) (fun _ _ _ h => h) (Or.inl ⟨by rfl, ?yb4⟩) (by assumption) ?rb4
          case yb4 => (intro w hSw; (try dsimp only at hSw); go_simp; try (with_reducible rfl))
          try simp only [Act.put, List.setIfInBounds_toArray, List.set_cons_zero, List.set_cons_succ]
          refine wpAnyT_take (i := 5) (v := ?vb5) rfl (by kernel_rfl) (by kernel_rfl) (by kernel_rfl) (by kernel_rfl) (by kernel_rfl) (fun _ _ _ h => h) (Or.inl ⟨by rfl, ?yb5⟩) (by assumption) ?rb5
          case yb5 => (intro w hSw; (try dsimp only at hSw); go_simp; try (with_reducible rfl))
          try simp only [Act.put, List.setIfInBounds_toArray, List.set_cons_zero, List.set_cons_succ]
          refine wpAnyT_take (i := 6) (v := ?vb6) rfl (by kernel_rfl) (by kernel_rfl) (by kernel_rfl) (by kernel_rfl) (by kernel_rfl) (fun _ _ _ h => h) (Or.inl ⟨by rfl, ?yb6⟩) (by assumption) ?rb6
          case yb6 => (intro w hSw; (try dsimp only at hSw); go_simp; try (with_reducible rfl))
          try simp only [Act.put, List.setIfInBounds_toArray, List.set_cons_zero, List.set_cons_succ]
          refine wpAnyT_take (i := 7) (v := ?vb7) rfl (by kernel_rfl) (by kernel_rfl) (by kernel_rfl) (by kernel_rfl) (by kernel_rfl) (fun _ _ _ h => h) (Or.inl ⟨by rfl, ?yb7⟩) (by assumption) ?rb7
          case yb7 => (intro w hSw; (try dsimp only at hSw); go_simp; try (with_reducible rfl))
          try simp only [Act.put, List.setIfInBounds_toArray, List.set_cons_zero, List.set_cons_succ]
          refine wpAnyT_take (i := 8) (v := ?vb8) rfl (by kernel_rfl) (by kernel_rfl) (by kernel_rfl) (by kernel_rfl) (by kernel_rfl) (fun _ _ _ h => h) (Or.inl ⟨by rfl, ?yb8⟩) (by assumption) ?rb8
          case yb8 => (intro w hSw; (try dsimp only at hSw); go_simp; try (with_reducible rfl))
          try simp only [Act.put, List.setIfInBounds_toArray, List.set_cons_zero, List.set_cons_succ]
          refine wpAnyT_take (i := 9) (v := ?vb9) rfl (by kernel_rfl) (by kernel_rfl) (by kernel_rfl) (by kernel_rfl) (by kernel_rfl) (fun _ _ _ h => h) (Or.inl ⟨by rfl, ?yb9⟩) (by assumption) ?rb9
          case yb9 => (intro w hSw; (try dsimp only at hSw); go_simp; try (with_reducible rfl))
          try simp only [Act.put, List.setIfInBounds_toArray, List.set_cons_zero, List.set_cons_succ]
          refine wpAnyT_take (i := 10) (v := ?vb10) rfl (by kernel_rfl) (by kernel_rfl) (by kernel_rfl) (by kernel_rfl) (by kernel_rfl) (fun _ _ _ h => h) (Or.inl ⟨by rfl, ?yb10⟩) (by assumption) ?rb10
          case yb10 => (intro w hSw; (try dsimp only at hSw); go_simp; try (with_reducible rfl))
          try simp only [Act.put, List.setIfInBounds_toArray, List.set_cons_zero, List.set_cons_succ]
          refine wpAnyT_take (i := 11) (v := ?vb11) rfl (by kernel_rfl) (by kernel_rfl) (by kernel_rfl) (by kernel_rfl) (by kernel_rfl) (fun _ _ _ h => h) (Or.inl ⟨by rfl, ?yb11⟩) (by assumption) ?rb11
          case yb11 => (intro w hSw; (try dsimp only at hSw); go_simp; try (with_reducible rfl))
          try simp only [Act.put, List.setIfInBounds_toArray, List.set_cons_zero, List.set_cons_succ]
          refine wpAnyT_take (i := 12) (v := ?vb12) rfl (by kernel_rfl) (by kernel_rfl) (by kernel_rfl) (by kernel_rfl) (by kernel_rfl) (fun _ _ _ h => h) (Or.inl ⟨by rfl, ?yb12⟩) (by assumption) ?rb12
          case yb12 => (intro w hSw; (try dsimp only at hSw); go_simp; try (with_reducible rfl))
          try simp only [Act.put, List.setIfInBounds_toArray, List.set_cons_zero, List.set_cons_succ]
          refine wpAnyT_take (i := 13) (v := ?vb13) rfl (by kernel_rfl) (by kernel_rfl) (by kernel_rfl) (by kernel_rfl) (by kernel_rfl) (fun _ _ _ h => h) (Or.inl ⟨by rfl, ?yb13⟩) (by assumption) ?rb13
          case yb13 => (intro w hSw; (try dsimp only at hSw); go_simp; try (with_reducible rfl))
          try simp only [Act.put, List.setIfInBounds_toArray, List.set_cons_zero, List.set_cons_succ]
          refine wpAnyT_take (i := 14) (v := ?vb14) rfl (by kernel_rfl) (by kernel_rfl) (by kernel_rfl) (by kernel_rfl) (by kernel_rfl) (fun _ _ _ h => h) (Or.inl ⟨by rfl, ?yb14⟩) (by assumption) ?rb14
          case yb14 => (intro w hSw; (try dsimp only at hSw); go_simp; try (with_reducible rfl))
          try simp only [Act.put, List.setIfInBounds_toArray, List.set_cons_zero, List.set_cons_succ]
          refine wpAnyT_take (i := 15) (v := ?vb15) rfl (by kernel_rfl) (by kernel_rfl) (by kernel_rfl) (by kernel_rfl) (by kernel_rfl) (fun _ _ _ h => h) (Or.inl ⟨by rfl, ?yb15⟩) (by assumption) ?rb15
          case yb15 => (intro w hSw; (try dsimp only at hSw); go_simp; try (with_reducible rfl))
          try simp only [Act.put, List.setIfInBounds_toArray, List.set_cons_zero, List.set_cons_succ]
          refine wpAnyT_take (i := 16) (v := ?vb16) rfl (by kernel_rfl) (by kernel_rfl) (by kernel_rfl) (by kernel_rfl) (by kernel_rfl) (fun _ _ _ h => h) (Or.inl ⟨by rfl, ?yb16⟩) (by assumption) ?rb16
          case yb16 => (intro w hSw; (try dsimp only at hSw); go_simp; try (with_reducible rfl))
          try simp only [Act.put, List.setIfInBounds_toArray, List.set_cons_zero, List.set_cons_succ]
          refine wpAnyT_take (i := 17) (v := ?vb17) rfl (by kernel_rfl) (by kernel_rfl) (by kernel_rfl) (by kernel_rfl) (by kernel_rfl) (fun _ _ _ h => h) (Or.inl ⟨by rfl, ?yb17⟩) (by assumption) ?rb17
          case yb17 => (intro w hSw; (try dsimp only at hSw); go_simp; try (with_reducible rfl))
          try simp only [Act.put, List.setIfInBounds_toArray, List.set_cons_zero, List.set_cons_succ]
          refine wpAnyT_take (i := 18) (v := ?vb18) rfl (by kernel_rfl) (by kernel_rfl) (by kernel_rfl) (by kernel_rfl) (by kernel_rfl) (fun _ _ _ h => h) (Or.inl ⟨by rfl, ?yb18⟩) (by assumption) ?rb18
          case yb18 => (intro w hSw; (try dsimp only at hSw); go_simp; try (with_reducible rfl))
          try simp only [Act.put, List.setIfInBounds_toArray, List.set_cons_zero, List.set_cons_succ]
          refine wpAnyT_take (i := 19) (v := ?vb19) rfl (by kernel_rfl) (by kernel_rfl) (by kernel_rfl) (by kernel_rfl) (by kernel_rfl) (fun _ _ _ h => h) (Or.inl ⟨by rfl, ?yb19⟩) (by assumption) ?rb19
          case yb19 => (intro w hSw; (try dsimp only at hSw); go_simp; try (with_reducible rfl))
          try simp only [Act.put, List.setIfInBounds_toArray, List.set_cons_zero, List.set_cons_succ]
          refine wpAnyT_take (i := 20) (v := ?vb20) rfl (by kernel_rfl) (by kernel_rfl) (by kernel_rfl) (by kernel_rfl) (by kernel_rfl) (fun _ _ _ h => h) (Or.inl ⟨by rfl, ?yb20⟩) (by assumption) ?rb20
          case yb20 => (intro w hSw; (try dsimp only at hSw); go_simp; try (with_reducible rfl))
          try simp only [Act.put, List.setIfInBounds_toArray, List.set_cons_zero, List.set_cons_succ]
          refine wpAnyT_take (i := 21) (v := ?vb21) rfl (by kernel_rfl) (by kernel_rfl) (by kernel_rfl) (by kernel_rfl) (by kernel_rfl) (fun _ _ _ h => h) (Or.inl ⟨by rfl, ?yb21⟩) (by assumption) ?rb21
          case yb21 => (intro w hSw; (try dsimp only at hSw); go_simp; try (with_reducible rfl))
          try simp only [Act.put, List.setIfInBounds_toArray, List.set_cons_zero, List.set_cons_succ]
          refine ⟨by kernel_rfl, ?_⟩
          clear hHeld
          go_wp2_with (go_at_call 267; refine (c267 _ _ ?_).mono ?_; (focus (show But _ _ _; exact hB2 _)); rintro e W1 ⟨r1, rfl, hB3⟩)
          all_goals first
            | (go_ret; exact ⟨false, rfl, by first | exact hB3 | exact hB2 _⟩)
            | (go_ret; exact ⟨Or.inl rfl, by first | exact hB3 | exact hB2 _⟩)
            | (refine ⟨⟨m + 1, by omega, by go_num, hB3⟩, ?_⟩; simp [intOf]; omega)
        · have hme : m = cs.length := by omega
          subst hme
          go_wp2
          all_goals first
            | (go_ret; exact ⟨false, rfl, hbi⟩)
            | (go_ret; exact ⟨Or.inl rfl, hbi⟩)
            | (refine ⟨⟨k + 1, by omega, by go_num, hbi⟩, ?_⟩; simp [intOf]; omega)
    · have hke : k = es.length := by omega
      subst hke
      go_wp2
      go_ret
      exact ⟨_, rfl, hbr⟩
end Go.Proofs.YtmhkceeiiklfdaaGreat
