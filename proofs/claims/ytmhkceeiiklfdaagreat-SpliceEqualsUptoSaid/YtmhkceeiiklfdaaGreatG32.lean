/- A part of the proof of SpliceEqualsUptoSaid (texts: GrSm267). No conditions. -/
import Derived.Test.YtmhkceeiiklfdaaGreatG24
import Derived.Test.YtmhkceeiiklfdaaGreatG26
import Derived.Deep.RegionHeld
import Derived.StillTail
import Derived.StillTailTactics
set_option linter.unusedVariables false
set_option linter.unusedSimpArgs false
set_option linter.unusedVariables false
set_option linter.unusedSimpArgs false
set_option maxRecDepth 20000
namespace Go.Proofs.YtmhkceeiiklfdaaGreat
open Go.RowKit Go.Abs
/-- all blocks but one stand -/
structure But (lb : Nat) (w w' : World) : Prop where
  os : w'.os = w.os
  tape : w'.tape = w.tape
  output : w'.output = w.output
  size : w.heap.size ≤ w'.heap.size
  block : ∀ b, b < w.heap.size → b ≠ lb → w'.heap[b]? = w.heap[b]?
  cell : ∃ n : Int, w'.heap[lb]? = some (.cells #[.int .i64 n] 3 (0, 0))
theorem But.refl {lb : Nat} {w : World} {n : Int} (h : w.heap[lb]? = some (.cells #[.int .i64 n] 3 (0, 0))) : But lb w w := ⟨rfl, rfl, rfl, Nat.le_refl _, fun _ _ _ => rfl, n, h⟩
theorem But.trans {lb : Nat} {w w1 w2 : World} (h : But lb w w1) (k : But lb w1 w2) : But lb w w2 :=
  ⟨k.os.trans h.os, k.tape.trans h.tape, k.output.trans h.output, Nat.le_trans h.size k.size, fun b h1 h2 => (k.block b (Nat.lt_of_lt_of_le h1 h.size) h2).trans (h.block b h1 h2), k.cell⟩
theorem But.set {lb : Nat} {w w1 : World} (h : But lb w w1) (n : Int) : But lb w (w1.drew.setCell ⟨lb, 0, none⟩ (.int .i64 n)) := by
  obtain ⟨m, hm⟩ := h.cell
  refine ⟨h.os, h.tape, h.output, ?_, fun b h1 h2 => ?_, n, ?_⟩
  · rw [World.size_setCell]; exact h.size
  · rw [Below.heap_setCell _ _ _ _ h2]; exact h.block b h1 h2
  · have hm : w1.drew.heap[lb]? = some (.cells #[.int .i64 m] 3 (0, 0)) := hm
    rw [setCell_wset hm, wset_at _ _ _ (heap_lt hm)]
    rfl
theorem But.cellAt {lb : Nat} {w w1 : World} (h : But lb w w1) : ∃ n : Int, w1.cell? ⟨lb, 0, none⟩ = some (.int .i64 n) ∧ w1.frozen? ⟨lb, 0, none⟩ = false := by
  obtain ⟨m, hm⟩ := h.cell
  exact ⟨m, by rw [cell_at hm]; rfl, by rw [frozen_at hm]; simp⟩
theorem But.cells {lb b o : Nat} {w w1 : World} {u : Value} (h : But lb w w1) (hb : b < w.heap.size) (hne : b ≠ lb) (hc : w.cell? ⟨b, o, none⟩ = some u) : w1.cell? ⟨b, o, none⟩ = some u := by
  unfold World.cell? at hc ⊢
  simp only at hc ⊢
  rw [h.block b hb hne]; exact hc
theorem RdA.but {S : Nat → Prop} {lb d : Nat} {w w1 : World} {t : T} {v : Value} (h : But lb w w1) (hS : ∀ b, S b → b < w.heap.size) (hl : ¬ S lb) (hr : RdA S w d t v) : RdA S w1 d t v :=
  hr.frame (fun _ h => h) fun b hb => h.block b (hS b hb) fun e => hl (e ▸ hb)
def SmC (f : FuncId) (P : List T → Prop) : Prop := ∀ (w : World) (S : Nat → Prop) (d : Nat) (es : List (List T)) (v : Value) (lv : Int) (lb : Nat) (n : Int), RdA S w d (.sl es) v → (∀ c ∈ es, P c) → (∀ b, S b → b < w.heap.size) → w.heap[lb]? = some (.cells #[.int .i64 n] 3 (0, 0)) → ¬ S lb →
    Calls Tryz.prog f #[v, .int .i64 lv, .pointer (some ⟨lb, 0, none⟩)] w fun e w' => ∃ r : Bool, e = .returned (.bool r) ∧ But lb w w'
set_option maxHeartbeats 2000000 in
theorem sm267 {P : List T → Prop} (h267 : SmC 267 P) (h341 : SmC 341 (IsRow P)) : SmC 267 (IsItemOf P) := by
  intro w S d es v lv lb n hv hP hSw hl hS
  obtain ⟨d, rfl⟩ : ∃ d', d = d' + 1 := by
    cases d with
    | zero => exact hv.elim
    | succ d => exact ⟨d, rfl⟩
  obtain ⟨a, cap, rfl, hm, hcap, hcell⟩ := hv
  go_enter Tryz.func267, Tryz.ntmps267
  go_wp2
  go_loopw [7] (fun i wr => ∃ (k : Nat), k ≤ es.length ∧ i = .int .i64 k ∧ But lb w wr) (fun i _ => es.length - (intOf i).toNat)
  case atStart => exact ⟨0, by omega, rfl, But.refl hl⟩
  case round =>
    obtain ⟨k, hk, rfl, hbr⟩ := hrel
    obtain ⟨nn, hlc, hlf⟩ := hbr.cellAt
    rcases Nat.lt_or_ge k es.length with hkn | hkn
    · obtain ⟨ik, io, ii, is, hd, fl, rs, hel, ph, pf, pr⟩ := hP _ (getD_mem hkn)
      obtain ⟨pp, pi, pm, pd, pl, rfl, _⟩ := ph
      have hek : es[k]? = some (es.getD k []) := by simp [List.getD, hkn]
      have hlen : ∀ c ∈ es, c.length = 11 := fun c hc => (hP c hc).len
      rcases hcell with hcell | ⟨b, off, C, el, fr, hSb, rfl, hb, hC⟩
      · exfalso
        have := flat_get (sz := 11) (fun c hc => hlen c hc) k 0 _ (.lf (.int ik)) hek (by rw [hel]; rfl)
        rw [hcell] at this
        simp at this
      have hbl : b ≠ lb := fun e => hS (e ▸ hSb)
      have hbw := heap_lt hb
      have get : ∀ j t, (es.getD k [])[j]? = some t → ∃ u, wr.cell? ⟨b, off + k * 11 + j, none⟩ = some u ∧ RdA S w d t u := fun j t ht => by
        obtain ⟨u, e1, e2⟩ := hC _ t (flat_get (sz := 11) (fun c hc => hlen c hc) k j _ t hek ht)
        refine ⟨u, ?_, e2⟩
        unfold World.cell?
        simp only
        rw [hbr.block b hbw hbl, hb]
        simp only
        rw [Nat.add_assoc]; exact e1
      rw [hel] at get
      obtain ⟨u3, g3, q3⟩ := get 3 _ rfl
      obtain ⟨u4, g4, q4⟩ := get 4 _ rfl
      obtain ⟨u7, g7, q7⟩ := get 7 _ rfl
      obtain ⟨u8, g8, q8⟩ := get 8 _ rfl
      obtain ⟨u9, g9, q9⟩ := get 9 _ rfl
      obtain ⟨u10, g10, q10⟩ := get 10 _ rfl
      obtain rfl : u3 = .string is := q3.lf
      obtain ⟨a4, n4, c4, rfl⟩ := q4.slice
      obtain ⟨a7, n7, c7, rfl⟩ := q7.slice
      obtain ⟨a8, n8, c8, rfl⟩ := q8.slice
      have hB0 := hbr.set
      have hS' : ∀ b, S b → b ≠ lb := fun b h e => hS (e ▸ h)
      have c267 : ∀ W lv', But lb w W → Calls Tryz.prog 267 #[u9, .int .i64 lv', .pointer (some ⟨lb, 0, none⟩)] W fun e W' => ∃ r : Bool, e = .returned (.bool r) ∧ But lb w W' := fun W lv' hW => by
        obtain ⟨m, hm⟩ := hW.cell
        exact (h267 W S d fl u9 lv' lb m (RdA.but hW hSw hS q9) pf (fun b hb => Nat.lt_of_lt_of_le (hSw b hb) hW.size) hm hS).mono fun e W' ⟨r, h1, h2⟩ => ⟨r, h1, hW.trans h2⟩
      have c341 : ∀ W lv', But lb w W → Calls Tryz.prog 341 #[u10, .int .i64 lv', .pointer (some ⟨lb, 0, none⟩)] W fun e W' => ∃ r : Bool, e = .returned (.bool r) ∧ But lb w W' := fun W lv' hW => by
        obtain ⟨m, hm⟩ := hW.cell
        exact (h341 W S d rs u10 lv' lb m (RdA.but hW hSw hS q10) pr (fun b hb => Nat.lt_of_lt_of_le (hSw b hb) hW.size) hm hS).mono fun e W' ⟨r, h1, h2⟩ => ⟨r, h1, hW.trans h2⟩
      have g10' : ∀ W, But lb w W → W.cell? ⟨b, off + k * 11 + 10, none⟩ = some u10 := fun W hW => by
        obtain ⟨u, e1, e2⟩ := hC _ _ (flat_get (sz := 11) (fun c hc => hlen c hc) k 10 _ (.sl rs) hek (by rw [hel]; rfl))
        have e0 : w.cell? ⟨b, off + k * 11 + 10, none⟩ = some u := by
          unfold World.cell?
          simp only
          rw [hb]
          simp only
          rw [Nat.add_assoc]; exact e1
        have e3 := hbr.cells hbw hbl e0
        rw [g10] at e3
        cases e3
        exact hW.cells hbw hbl e0
      have hbr2 : b < wr.heap.size := Nat.lt_of_lt_of_le hbw hbr.size
      clear get hC hb hek hlen q9 q10 q4 q7 q8 h267 h341
      go_wp2
      refine wp_region_held_tail 34 (fun W' => W'.cell? ⟨lb, 0, none⟩ = some (.int .i64 nn) ∧ W'.cell? ⟨b, off + k * 11 + 4, none⟩ = some (.slice a4 n4 c4) ∧ W'.cell? ⟨b, off + k * 11 + 7, none⟩ = some (.slice a7 n7 c7) ∧ W'.cell? ⟨b, off + k * 11 + 8, none⟩ = some (.slice a8 n8 c8)) (by kernel_rfl) (by kernel_rfl) ?_ (fun hHeld => ?_)
      · ((try dsimp only); go_keep)
      simp only [List.drop_succ_cons, List.drop_zero]
      refine wpAnyT_take (i := 0) (v := ?va0) rfl (by kernel_rfl) (by kernel_rfl) (by kernel_rfl) (by kernel_rfl) (by kernel_rfl) (fun _ _ _ h => h) (Or.inl ⟨by rfl, ?ya0⟩) (by assumption) ?ra0
      case ya0 => (intro w hSw; (try dsimp only at hSw); go_simp; try (with_reducible rfl))
      try simp only [Act.put, List.setIfInBounds_toArray, List.set_cons_zero, List.set_cons_succ]
      refine wpAnyT_take (i := 1) (v := ?va1) rfl (by kernel_rfl) (by kernel_rfl) (by kernel_rfl) (by kernel_rfl) (by kernel_rfl) (fun _ _ _ h => h) (Or.inl ⟨by rfl, ?ya1⟩) (by assumption) ?ra1
      case ya1 => (intro w hSw; (try dsimp only at hSw); go_simp; try (with_reducible rfl))
      try simp only [Act.put, List.setIfInBounds_toArray, List.set_cons_zero, List.set_cons_succ]
      refine wpAnyT_take (i := 2) (v := ?va2) rfl (by kernel_rfl) (by kernel_rfl) (by kernel_rfl) (by kernel_rfl) (by kernel_rfl) (fun _ _ _ h => h) (Or.inl ⟨by rfl, ?ya2⟩) (by assumption) ?ra2
      case ya2 => (intro w hSw; (try dsimp only at hSw); go_simp; try (with_reducible rfl))
      try simp only [Act.put, List.setIfInBounds_toArray, List.set_cons_zero, List.set_cons_succ]
      refine wpAnyT_take (i := 3) (v := ?va3) rfl (by kernel_rfl) (by kernel_rfl) (by kernel_rfl) (by kernel_rfl) (by kernel_rfl) (fun _ _ _ h => h) (Or.inl ⟨by rfl, ?ya3⟩) (by assumption) ?ra3
      case ya3 => (intro w hSw; (try dsimp only at hSw); go_simp; try (with_reducible rfl))
      try simp only [Act.put, List.setIfInBounds_toArray, List.set_cons_zero, List.set_cons_succ]
      refine wpAnyT_take (i := 4) (v := ?va4) rfl (by kernel_rfl) (by kernel_rfl) (by kernel_rfl) (by kernel_rfl) (by kernel_rfl) (fun _ _ _ h => h) (Or.inl ⟨by rfl, ?ya4⟩) (by assumption) ?ra4
      case ya4 => (intro w hSw; (try dsimp only at hSw); go_simp; try (with_reducible rfl))
      try simp only [Act.put, List.setIfInBounds_toArray, List.set_cons_zero, List.set_cons_succ]
      refine wpAnyT_take (i := 5) (v := ?va5) rfl (by kernel_rfl) (by kernel_rfl) (by kernel_rfl) (by kernel_rfl) (by kernel_rfl) (fun _ _ _ h => h) (Or.inl ⟨by rfl, ?ya5⟩) (by assumption) ?ra5
      case ya5 => (intro w hSw; (try dsimp only at hSw); go_simp; try (with_reducible rfl))
      try simp only [Act.put, List.setIfInBounds_toArray, List.set_cons_zero, List.set_cons_succ]
      refine wpAnyT_take (i := 6) (v := ?va6) rfl (by kernel_rfl) (by kernel_rfl) (by kernel_rfl) (by kernel_rfl) (by kernel_rfl) (fun _ _ _ h => h) (Or.inl ⟨by rfl, ?ya6⟩) (by assumption) ?ra6
      case ya6 => (intro w hSw; (try dsimp only at hSw); go_simp; try (with_reducible rfl))
      try simp only [Act.put, List.setIfInBounds_toArray, List.set_cons_zero, List.set_cons_succ]
      refine wpAnyT_take (i := 7) (v := ?va7) rfl (by kernel_rfl) (by kernel_rfl) (by kernel_rfl) (by kernel_rfl) (by kernel_rfl) (fun _ _ _ h => h) (Or.inl ⟨by rfl, ?ya7⟩) (by assumption) ?ra7
      case ya7 => (intro w hSw; (try dsimp only at hSw); go_simp; try (with_reducible rfl))
      try simp only [Act.put, List.setIfInBounds_toArray, List.set_cons_zero, List.set_cons_succ]
      refine wpAnyT_take (i := 8) (v := ?va8) rfl (by kernel_rfl) (by kernel_rfl) (by kernel_rfl) (by kernel_rfl) (by kernel_rfl) (fun _ _ _ h => h) (Or.inl ⟨by rfl, ?ya8⟩) (by assumption) ?ra8
      case ya8 => (intro w hSw; (try dsimp only at hSw); go_simp; try (with_reducible rfl))
      try simp only [Act.put, List.setIfInBounds_toArray, List.set_cons_zero, List.set_cons_succ]
      refine wpAnyT_take (i := 9) (v := ?va9) rfl (by kernel_rfl) (by kernel_rfl) (by kernel_rfl) (by kernel_rfl) (by kernel_rfl) (fun _ _ _ h => h) (Or.inl ⟨by rfl, ?ya9⟩) (by assumption) ?ra9
      case ya9 => (intro w hSw; (try dsimp only at hSw); go_simp; try (with_reducible rfl))
      try simp only [Act.put, List.setIfInBounds_toArray, List.set_cons_zero, List.set_cons_succ]
      refine wpAnyT_take (i := 10) (v := ?va10) rfl (by kernel_rfl) (by kernel_rfl) (by kernel_rfl) (by kernel_rfl) (by kernel_rfl) (fun _ _ _ h => h) (Or.inl ⟨by rfl, ?ya10⟩) (by assumption) ?ra10
      case ya10 => (intro w hSw; (try dsimp only at hSw); go_simp; try (with_reducible rfl))
      try simp only [Act.put, List.setIfInBounds_toArray, List.set_cons_zero, List.set_cons_succ]
      refine wpAnyT_take (i := 11) (v := ?va11) rfl (by kernel_rfl) (by kernel_rfl) (by kernel_rfl) (by kernel_rfl) (by kernel_rfl) (fun _ _ _ h => h) (Or.inl ⟨by rfl, ?ya11⟩) (by assumption) ?ra11
      case ya11 => (intro w hSw; (try dsimp only at hSw); go_simp; try (with_reducible rfl))
      try simp only [Act.put, List.setIfInBounds_toArray, List.set_cons_zero, List.set_cons_succ]
      refine wpAnyT_take (i := 12) (v := ?va12) rfl (by kernel_rfl) (by kernel_rfl) (by kernel_rfl) (by kernel_rfl) (by kernel_rfl) (fun _ _ _ h => h) (Or.inl ⟨by rfl, ?ya12⟩) (by assumption) ?ra12
      case ya12 => (intro w hSw; (try dsimp only at hSw); go_simp; try (with_reducible rfl))
      try simp only [Act.put, List.setIfInBounds_toArray, List.set_cons_zero, List.set_cons_succ]
      refine wpAnyT_take (i := 13) (v := ?va13) rfl (by kernel_rfl) (by kernel_rfl) (by kernel_rfl) (by kernel_rfl) (by kernel_rfl) (fun _ _ _ h => h) (Or.inl ⟨by rfl, ?ya13⟩) (by assumption) ?ra13
      case ya13 => (intro w hSw; (try dsimp only at hSw); go_simp; try (with_reducible rfl))
      try simp only [Act.put, List.setIfInBounds_toArray, List.set_cons_zero, List.set_cons_succ]
      refine wpAnyT_take (i := 14) (v := ?va14) rfl (by kernel_rfl) (by kernel_rfl) (by kernel_rfl) (by kernel_rfl) (by kernel_rfl) (fun _ _ _ h => h) (Or.inl ⟨by rfl, ?ya14⟩) (by assumption) ?ra14
      case ya14 => (intro w hSw; (try dsimp only at hSw); go_simp; try (with_reducible rfl))
      try simp only [Act.put, List.setIfInBounds_toArray, List.set_cons_zero, List.set_cons_succ]
      refine wpAnyT_take (i := 15) (v := ?va15) rfl (by kernel_rfl) (by kernel_rfl) (by kernel_rfl) (by kernel_rfl) (by kernel_rfl) (fun _ _ _ h => h) (Or.inl ⟨by rfl, ?ya15⟩) (by assumption) ?ra15
      case ya15 => (intro w hSw; (try dsimp only at hSw); go_simp; try (with_reducible rfl))
      try simp only [Act.put, List.setIfInBounds_toArray, List.set_cons_zero, List.set_cons_succ]
      refine wpAnyT_take (i := 16) (v := ?va16) rfl (by kernel_rfl) (by kernel_rfl) (by kernel_rfl) (by kernel_rfl) (by kernel_rfl) (fun _ _ _ h => h) (Or.inl ⟨by rfl, ?ya16⟩) (by assumption) ?ra16
      case ya16 => (intro w hSw; (try dsimp only at hSw); go_simp; try (with_reducible rfl))
      try simp only [Act.put, List.setIfInBounds_toArray, List.set_cons_zero, List.set_cons_succ]
      refine wpAnyT_take (i := 17) (v := ?va17) rfl (by kernel_rfl) (by kernel_rfl) (by kernel_rfl) (by kernel_rfl) (by kernel_rfl) (fun _ _ _ h => h) (Or.inl ⟨by rfl, ?ya17⟩) (by assumption) ?ra17
      case ya17 => (intro w hSw; (try dsimp only at hSw); go_simp; try (with_reducible rfl))
      try simp only [Act.put, List.setIfInBounds_toArray, List.set_cons_zero, List.set_cons_succ]
      refine wpAnyT_take (i := 18) (v := ?va18) rfl (by kernel_rfl) (by kernel_rfl) (by kernel_rfl) (by kernel_rfl) (by kernel_rfl) (fun _ _ _ h => h) (Or.inl ⟨by rfl, ?ya18⟩) (by assumption) ?ra18
      case ya18 => (intro w hSw; (try dsimp only at hSw); go_simp; try (with_reducible rfl))
      try simp only [Act.put, List.setIfInBounds_toArray, List.set_cons_zero, List.set_cons_succ]
      refine wpAnyT_take (i := 19) (v := ?va19) rfl (by kernel_rfl) (by kernel_rfl) (by kernel_rfl) (by kernel_rfl) (by kernel_rfl) (fun _ _ _ h => h) (Or.inl ⟨by rfl, ?ya19⟩) (by assumption) ?ra19
      case ya19 => (intro w hSw; (try dsimp only at hSw); go_simp; try (with_reducible rfl))
      try simp only [Act.put, List.setIfInBounds_toArray, List.set_cons_zero, List.set_cons_succ]
      refine wpAnyT_take (i := 20) (v := ?va20) rfl (by kernel_rfl) (by kernel_rfl) (by kernel_rfl) (by kernel_rfl) (by kernel_rfl) (fun _ _ _ h => h) (Or.inl ⟨by rfl, ?ya20⟩) (by assumption) ?ra20
      case ya20 => (intro w hSw; (try dsimp only at hSw); go_simp; try (with_reducible rfl))
      try simp only [Act.put, List.setIfInBounds_toArray, List.set_cons_zero, List.set_cons_succ]
      refine wpAnyT_take (i := 21) (v := ?va21) rfl (by kernel_rfl) (by kernel_rfl) (by kernel_rfl) (by kernel_rfl) (by kernel_rfl) (fun _ _ _ h => h) (Or.inl ⟨by rfl, ?ya21⟩) (by assumption) ?ra21
      case ya21 => (intro w hSw; (try dsimp only at hSw); go_simp; try (with_reducible rfl))
      try simp only [Act.put, List.setIfInBounds_toArray, List.set_cons_zero, List.set_cons_succ]
      refine wpAnyT_take (i := 22) (v := ?va22) rfl (by kernel_rfl) (by kernel_rfl) (by kernel_rfl) (by kernel_rfl) (by kernel_rfl) (fun _ _ _ h => h) (Or.inl ⟨by rfl, ?ya22⟩) (by assumption) ?ra22
      case ya22 => (intro w hSw; (try dsimp only at hSw); go_simp; try (with_reducible rfl))
      try simp only [Act.put, List.setIfInBounds_toArray, List.set_cons_zero, List.set_cons_succ]
      refine wpAnyT_take (i := 23) (v := ?va23) rfl (by kernel_rfl) (by kernel_rfl) (by kernel_rfl) (by kernel_rfl) (by kernel_rfl) (fun _ _ _ h => h) (Or.inl ⟨by rfl, ?ya23⟩) (by assumption) ?ra23
      case ya23 => (intro w hSw; (try dsimp only at hSw); go_simp; try (with_reducible rfl))
      try simp only [Act.put, List.setIfInBounds_toArray, List.set_cons_zero, List.set_cons_succ]
      refine wpAnyT_take (i := 24) (v := ?va24) rfl (by kernel_rfl) (by kernel_rfl) (by kernel_rfl) (by kernel_rfl) (by kernel_rfl) (fun _ _ _ h => h) (Or.inl ⟨by rfl, ?ya24⟩) (by assumption) ?ra24
      case ya24 => (intro w hSw; (try dsimp only at hSw); go_simp; try (with_reducible rfl))
      try simp only [Act.put, List.setIfInBounds_toArray, List.set_cons_zero, List.set_cons_succ]
      refine wpAnyT_take (i := 25) (v := ?va25) rfl (by kernel_rfl) (by kernel_rfl) (by kernel_rfl) (by kernel_rfl) (by kernel_rfl) (fun _ _ _ h => h) (Or.inl ⟨by rfl, ?ya25⟩) (by assumption) ?ra25
      case ya25 => (intro w hSw; (try dsimp only at hSw); go_simp; try (with_reducible rfl))
      try simp only [Act.put, List.setIfInBounds_toArray, List.set_cons_zero, List.set_cons_succ]
      refine wpAnyT_take (i := 26) (v := ?va26) rfl (by kernel_rfl) (by kernel_rfl) (by kernel_rfl) (by kernel_rfl) (by kernel_rfl) (fun _ _ _ h => h) (Or.inl ⟨by rfl, ?ya26⟩) (by assumption) ?ra26
      case ya26 => (intro w hSw; (try dsimp only at hSw); go_simp; try (with_reducible rfl))
      try simp only [Act.put, List.setIfInBounds_toArray, List.set_cons_zero, List.set_cons_succ]
      refine wpAnyT_take (i := 27) (v := ?va27) rfl (by kernel_rfl) (by kernel_rfl) (by kernel_rfl) (by kernel_rfl) (by kernel_rfl) (fun _ _ _ h => h) (Or.inl ⟨by rfl, ?ya27⟩) (by assumption) ?ra27
      case ya27 => (intro w hSw; (try dsimp only at hSw); go_simp; try (with_reducible rfl))
      try simp only [Act.put, List.setIfInBounds_toArray, List.set_cons_zero, List.set_cons_succ]
      refine wpAnyT_take (i := 28) (v := ?va28) rfl (by kernel_rfl) (by kernel_rfl) (by kernel_rfl) (by kernel_rfl) (by kernel_rfl) (fun _ _ _ h => h) (Or.inl ⟨by rfl, ?ya28⟩) (by assumption) ?ra28
      case ya28 => (intro w hSw; (try dsimp only at hSw); go_simp; try (with_reducible rfl))
      try simp only [Act.put, List.setIfInBounds_toArray, List.set_cons_zero, List.set_cons_succ]
      refine wpAnyT_take (i := 29) (v := ?va29) rfl (by kernel_rfl) (by kernel_rfl) (by kernel_rfl) (by kernel_rfl) (by kernel_rfl) (fun _ _ _ h => h) (Or.inl ⟨by rfl, ?ya29⟩) (by assumption) ?ra29
      case ya29 => (intro w hSw; (try dsimp only at hSw); go_simp; try (with_reducible rfl))
      try simp only [Act.put, List.setIfInBounds_toArray, List.set_cons_zero, List.set_cons_succ]
      refine wpAnyT_take (i := 30) (v := ?va30) rfl (by kernel_rfl) (by kernel_rfl) (by kernel_rfl) (by kernel_rfl) (by kernel_rfl) (fun _ _ _ h => h) (Or.inl ⟨by rfl, ?ya30⟩) (by assumption) ?ra30
      case ya30 => (intro w hSw; (try dsimp only at hSw); go_simp; try (with_reducible rfl))
      try simp only [Act.put, List.setIfInBounds_toArray, List.set_cons_zero, List.set_cons_succ]
      refine wpAnyT_take (i := 31) (v := ?va31) rfl (by kernel_rfl) (by kernel_rfl) (by kernel_rfl) (by kernel_rfl) (by kernel_rfl) (fun _ _ _ h => h) (Or.inl ⟨by rfl, ?ya31⟩) (by assumption) ?ra31
      case ya31 => (intro w hSw; (try dsimp only at hSw); go_simp; try (with_reducible rfl))
      try simp only [Act.put, List.setIfInBounds_toArray, List.set_cons_zero, List.set_cons_succ]
      refine wpAnyT_take (i := 32) (v := ?va32) rfl (by kernel_rfl) (by kernel_rfl) (by kernel_rfl) (by kernel_rfl) (by kernel_rfl) (fun _ _ _ h => h) (Or.inl ⟨by rfl, ?ya32⟩) (by assumption) ?ra32
      case ya32 => (intro w hSw; (try dsimp only at hSw); go_simp; try (with_reducible rfl))
      try simp only [Act.put, List.setIfInBounds_toArray, List.set_cons_zero, List.set_cons_succ]
      refine wpAnyT_take (i := 33) (v := ?va33) rfl (by kernel_rfl) (by kernel_rfl) (by kernel_rfl) (by kernel_rfl) (by kernel_rfl) (fun _ _ _ h => h) (Or.inl ⟨by rfl, ?ya33⟩) (by assumption) ?ra33
      case ya33 => (intro w hSw; (try dsimp only at hSw); go_simp; try (with_reducible rfl))
      try simp only [Act.put, List.setIfInBounds_toArray, List.set_cons_zero, List.set_cons_succ]
      refine ⟨by kernel_rfl, ?_⟩
      clear hHeld
      go_wp2_with (first
        | (go_at_call 267; refine (c267 _ _ ?_).mono ?_; (focus (show But _ _ _; exact hB0 _)); rintro e W1 ⟨r1, rfl, hB1⟩; obtain ⟨n1, hl1, hf1⟩ := hB1.cellAt; have g10a := g10' W1 hB1)
        | (go_at_call 341; refine (c341 _ _ ?_).mono ?_; (focus (show But _ _ _; first | exact hB1 | exact hB0 _)); rintro e W2 ⟨r2, rfl, hB2⟩))
      all_goals first
        | (go_ret; exact ⟨false, rfl, by first | exact hB2 | exact hB1 | exact hB0 _⟩)
        | (go_ret; exact ⟨Or.inl rfl, by first | exact hB2 | exact hB1 | exact hB0 _⟩)
        | (refine ⟨⟨k + 1, by omega, by go_num, hB2⟩, ?_⟩; simp [intOf]; omega)
    · have hke : k = es.length := by omega
      subst hke
      go_wp2
      go_ret
      exact ⟨_, rfl, hbr⟩
end Go.Proofs.YtmhkceeiiklfdaaGreat
