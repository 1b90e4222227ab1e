/- A part of the proof of SpliceEqualsUptoSaid (texts: GrW13 GrEw GrSl162 GrEqv GrHeld). No conditions. -/
import Derived.Test.YtmhkceeiiklfdaaGreatG16
import Derived.StillTailTactics
import Derived.Test.YtmhkceeiiklfdaaGreatG23
import Derived.Test.YtmhkceeiiklfdaaGreatG25
import Derived.Test.YtmhkceeiiklfdaaGreatG20
import Derived.StillTail
import Derived.Deep.RegionHeld
set_option linter.unusedVariables false
set_option linter.unusedSimpArgs false
set_option linter.unusedVariables false
set_option linter.unusedSimpArgs false
set_option maxRecDepth 20000
namespace Go.Proofs.YtmhkceeiiklfdaaGreat
open Go.RowKit
open Classical
set_option maxHeartbeats 1000000 in
theorem walk13 (w : World) (x0 x1 : Value) (x2 x3 : Int) (x4 x5 x6 x7 x8 x9 x10 : Value) (y0 y1 : Value) (y2 y3 : Int) (y4 y5 y6 y7 y8 y9 y10 : Value) (r0 r1 r2 r3 r4 r5 r6 : Bool)
    (o7 : x7.oneCell' = true) (o8 : x8.oneCell' = true) (o9 : x9.oneCell' = true) (o10 : x10.oneCell' = true) (p7 : y7.oneCell' = true) (p8 : y8.oneCell' = true) (p9 : y9.oneCell' = true) (p10 : y10.oneCell' = true)
    (h0 : EqFn 38 x0 y0 r0 w) (h1 : EqFn 39 (.agg #[x1, .int .i64 x2, .int .i64 x3, x4, x5]) (.agg #[y1, .int .i64 y2, .int .i64 y3, y4, y5]) r1 w) (h2 : EqFn 40 x6 y6 r2 w) (h3 : EqFn 41 x7 y7 r3 w) (h4 : EqFn3 42 36 x8 y8 r4 w) (h5 : EqFn 43 x9 y9 r5 w) (h6 : EqFn 44 x10 y10 r6 w) :
    Calls Tryz.prog 13 #[.agg #[x0, x1, .int .i64 x2, .int .i64 x3, x4, x5, x6, x7, x8, x9, x10], .agg #[y0, y1, .int .i64 y2, .int .i64 y3, y4, y5, y6, y7, y8, y9, y10]] w fun e w' => e = .returned (.bool (r0 && r1 && r2 && r3 && r4 && r5 && r6)) ∧ Below w.heap.size w w' := by
  have s1 := fun (P : Program) a m (W : World) => run_store P W a x7 m o7
  have s2 := fun (P : Program) a m (W : World) => run_store P W a x8 m o8
  have s3 := fun (P : Program) a m (W : World) => run_store P W a x9 m o9
  have s4 := fun (P : Program) a m (W : World) => run_store P W a x10 m o10
  have s5 := fun (P : Program) a m (W : World) => run_store P W a y7 m p7
  have s6 := fun (P : Program) a m (W : World) => run_store P W a y8 m p8
  have s7 := fun (P : Program) a m (W : World) => run_store P W a y9 m p9
  have s8 := fun (P : Program) a m (W : World) => run_store P W a y10 m p10
  go_enter Tryz.func13, Tryz.ntmps13
  go_wp2
  go_region
  all_goals go_wp2_with (first
    | (go_at_call 38; refine (h0 _ ?_).mono ?_; ((focus (show Below _ _ _; go_grown))); rintro e W0 ⟨rfl, hW0⟩; (have hc0 := below_cell (hW0.mono (B' := w.heap.size + 4) (by go_size))); (have hz0 : w.heap.size + 4 ≤ W0.heap.size := Nat.le_trans (by go_size) hW0.size); (have hb0 : Below w.heap.size w W0 := Below.trans (by go_grown) (hW0.mono (by go_size))); clear hW0)
    | (go_at_call 39; refine (h1 _ hb0).mono ?_; rintro e W1 ⟨rfl, hW1⟩; have hc1 := below_cell (hW1.mono (B' := w.heap.size + 4) hz0); have hz1 : w.heap.size + 4 ≤ W1.heap.size := Nat.le_trans hz0 hW1.size; have hb1 : Below w.heap.size w W1 := Below.trans hb0 (hW1.mono (Nat.le_trans (by omega) hz0)); clear hW1)
    | (go_at_call 40; refine (h2 _ hb1).mono ?_; rintro e W2 ⟨rfl, hW2⟩; have hc2 := below_cell (hW2.mono (B' := w.heap.size + 4) hz1); have hz2 : w.heap.size + 4 ≤ W2.heap.size := Nat.le_trans hz1 hW2.size; have hb2 : Below w.heap.size w W2 := Below.trans hb1 (hW2.mono (Nat.le_trans (by omega) hz1)); clear hW2)
    | (go_at_call 41; refine (h3 _ hb2).mono ?_; rintro e W3 ⟨rfl, hW3⟩; have hc3 := below_cell (hW3.mono (B' := w.heap.size + 4) hz2); have hz3 : w.heap.size + 4 ≤ W3.heap.size := Nat.le_trans hz2 hW3.size; have hb3 : Below w.heap.size w W3 := Below.trans hb2 (hW3.mono (Nat.le_trans (by omega) hz2)); clear hW3)
    | (go_at_call 42; refine (h4 _ hb3).mono ?_; rintro e W4 ⟨rfl, hW4⟩; have hc4 := below_cell (hW4.mono (B' := w.heap.size + 4) hz3); have hz4 : w.heap.size + 4 ≤ W4.heap.size := Nat.le_trans hz3 hW4.size; have hb4 : Below w.heap.size w W4 := Below.trans hb3 (hW4.mono (Nat.le_trans (by omega) hz3)); clear hW4)
    | (go_at_call 43; refine (h5 _ hb4).mono ?_; rintro e W5 ⟨rfl, hW5⟩; have hc5 := below_cell (hW5.mono (B' := w.heap.size + 4) hz4); have hz5 : w.heap.size + 4 ≤ W5.heap.size := Nat.le_trans hz4 hW5.size; have hb5 : Below w.heap.size w W5 := Below.trans hb4 (hW5.mono (Nat.le_trans (by omega) hz4)); clear hW5)
    | (go_at_call 44; refine (h6 _ hb5).mono ?_; rintro e W6 ⟨rfl, hW6⟩; have hc6 := below_cell (hW6.mono (B' := w.heap.size + 4) hz5); have hz6 : w.heap.size + 4 ≤ W6.heap.size := Nat.le_trans hz5 hW6.size; have hb6 : Below w.heap.size w W6 := Below.trans hb5 (hW6.mono (Nat.le_trans (by omega) hz5)); clear hW6))
  all_goals (go_ret; refine ⟨by simp [*], ?_⟩; first | exact hb6 | exact hb5 | exact hb4 | exact hb3 | exact hb2 | exact hb1 | exact hb0 | exact Below.refl _ _ | go_grown)
end Go.Proofs.YtmhkceeiiklfdaaGreat
set_option linter.unusedVariables false
set_option linter.unusedSimpArgs false
set_option maxRecDepth 20000
namespace Go.Proofs.YtmhkceeiiklfdaaGreat
open Go.RowKit
set_option maxHeartbeats 1000000 in
theorem walk73 (w : World) (x0 y0 : Value) (x1 y1 : Value) (x2 y2 : Value) (x3 y3 : Value) (x4 y4 : Value) (x5 y5 : Value) (x6 y6 : Value) (x7 y7 : Value) (x8 y8 : Value) (x9 y9 : Value) (x10 y10 : Value) (x11 y11 : Value) (r0 : Bool) (h0 : EqFn 38  x0 y0 r0 w) (r1 : Bool) (h1 : EqFn3 173 174 x1 y1 r1 w) (r2 : Bool) (h2 : EqFn3 175 176 x2 y2 r2 w) (r3 : Bool) (h3 : EqFn 39  (.agg #[x3, x4, x5, x6, x7]) (.agg #[y3, y4, y5, y6, y7]) r3 w) (r4 : Bool) (h4 : EqFn 98  (.agg #[x8, x9, x10, x11]) (.agg #[y8, y9, y10, y11]) r4 w) :
    Calls Tryz.prog 73 #[.agg #[x0, x1, x2, x3, x4, x5, x6, x7, x8, x9, x10, x11], .agg #[y0, y1, y2, y3, y4, y5, y6, y7, y8, y9, y10, y11]] w fun e w' => e = .returned (.bool (r0 && r1 && r2 && r3 && r4)) ∧ Below w.heap.size w w' := by
  go_enter Tryz.func73, Tryz.ntmps73
  go_wp2_with (first
    | (go_at_call_of 38 x0; refine (h0 _ ?_).mono ?_; (focus (show Below _ _ _; go_grown)); rintro e W0 ⟨rfl, hW0⟩; have hc0 := below_cell hW0; simp only [World.size_alloc] at hc0; have hz0 : w.heap.size + 2 ≤ W0.heap.size := Nat.le_trans (by simp only [World.size_alloc]; omega) hW0.size; have hb0 : Below w.heap.size w W0 := Below.trans (by go_grown) (hW0.mono (by go_size)); clear hW0)
    | (go_at_call_of 173 x1; refine (h1 _ hb0).mono ?_; rintro e W1 ⟨rfl, hW1⟩; have hc1 := below_cell (hW1.mono (B' := w.heap.size + 2) hz0); have hz1 : w.heap.size + 2 ≤ W1.heap.size := Nat.le_trans hz0 hW1.size; have hb1 : Below w.heap.size w W1 := Below.trans hb0 (hW1.mono (Nat.le_trans (by omega) hz0)); clear hW1)
    | (go_at_call_of 175 x2; refine (h2 _ hb1).mono ?_; rintro e W2 ⟨rfl, hW2⟩; have hc2 := below_cell (hW2.mono (B' := w.heap.size + 2) hz1); have hz2 : w.heap.size + 2 ≤ W2.heap.size := Nat.le_trans hz1 hW2.size; have hb2 : Below w.heap.size w W2 := Below.trans hb1 (hW2.mono (Nat.le_trans (by omega) hz1)); clear hW2)
    | (go_at_call_of 39 x3; refine (h3 _ hb2).mono ?_; rintro e W3 ⟨rfl, hW3⟩; have hc3 := below_cell (hW3.mono (B' := w.heap.size + 2) hz2); have hz3 : w.heap.size + 2 ≤ W3.heap.size := Nat.le_trans hz2 hW3.size; have hb3 : Below w.heap.size w W3 := Below.trans hb2 (hW3.mono (Nat.le_trans (by omega) hz2)); clear hW3)
    | (go_at_call_of 98 x8; refine (h4 _ hb3).mono ?_; rintro e W4 ⟨rfl, hW4⟩; have hc4 := below_cell (hW4.mono (B' := w.heap.size + 2) hz3); have hz4 : w.heap.size + 2 ≤ W4.heap.size := Nat.le_trans hz3 hW4.size; have hb4 : Below w.heap.size w W4 := Below.trans hb3 (hW4.mono (Nat.le_trans (by omega) hz3)); clear hW4))
  all_goals (go_ret; refine ⟨by ((try simp only [bytes_eq] at *); simp [*]), ?_⟩; first | exact hb4 | exact hb3 | exact hb2 | exact hb1 | exact hb0 | exact Below.refl _ _ | go_grown)
set_option maxHeartbeats 1000000 in
theorem walk65 (w : World) (x0 y0 : Value) (x1 y1 : Value) (x2 y2 : Value) (x3 y3 : Value) (x4 y4 : Value) (x5 y5 : Value) (x6 y6 : Value) (x7 y7 : Value) (x8 y8 : Value) (x9 y9 : Value) (x10 y10 : Value) (x11 y11 : Value) (r0 : Bool) (h0 : EqFn 38  x0 y0 r0 w) (r1 : Bool) (h1 : EqFn 162  x1 y1 r1 w) (r2 : Bool) (h2 : EqFn 163  x2 y2 r2 w) (r3 : Bool) (h3 : EqFn 39  (.agg #[x3, x4, x5, x6, x7]) (.agg #[y3, y4, y5, y6, y7]) r3 w) (r4 : Bool) (h4 : EqFn 164  (.agg #[x8, x9, x10, x11]) (.agg #[y8, y9, y10, y11]) r4 w) :
    Calls Tryz.prog 65 #[.agg #[x0, x1, x2, x3, x4, x5, x6, x7, x8, x9, x10, x11], .agg #[y0, y1, y2, y3, y4, y5, y6, y7, y8, y9, y10, y11]] w fun e w' => e = .returned (.bool (r0 && r1 && r2 && r3 && r4)) ∧ Below w.heap.size w w' := by
  go_enter Tryz.func65, Tryz.ntmps65
  go_wp2_with (first
    | (go_at_call_of 38 x0; refine (h0 _ ?_).mono ?_; (focus (show Below _ _ _; go_grown)); rintro e W0 ⟨rfl, hW0⟩; have hc0 := below_cell hW0; simp only [World.size_alloc] at hc0; have hz0 : w.heap.size + 2 ≤ W0.heap.size := Nat.le_trans (by simp only [World.size_alloc]; omega) hW0.size; have hb0 : Below w.heap.size w W0 := Below.trans (by go_grown) (hW0.mono (by go_size)); clear hW0)
    | (go_at_call_of 162 x1; refine (h1 _ hb0).mono ?_; rintro e W1 ⟨rfl, hW1⟩; have hc1 := below_cell (hW1.mono (B' := w.heap.size + 2) hz0); have hz1 : w.heap.size + 2 ≤ W1.heap.size := Nat.le_trans hz0 hW1.size; have hb1 : Below w.heap.size w W1 := Below.trans hb0 (hW1.mono (Nat.le_trans (by omega) hz0)); clear hW1)
    | (go_at_call_of 163 x2; refine (h2 _ hb1).mono ?_; rintro e W2 ⟨rfl, hW2⟩; have hc2 := below_cell (hW2.mono (B' := w.heap.size + 2) hz1); have hz2 : w.heap.size + 2 ≤ W2.heap.size := Nat.le_trans hz1 hW2.size; have hb2 : Below w.heap.size w W2 := Below.trans hb1 (hW2.mono (Nat.le_trans (by omega) hz1)); clear hW2)
    | (go_at_call_of 39 x3; refine (h3 _ hb2).mono ?_; rintro e W3 ⟨rfl, hW3⟩; have hc3 := below_cell (hW3.mono (B' := w.heap.size + 2) hz2); have hz3 : w.heap.size + 2 ≤ W3.heap.size := Nat.le_trans hz2 hW3.size; have hb3 : Below w.heap.size w W3 := Below.trans hb2 (hW3.mono (Nat.le_trans (by omega) hz2)); clear hW3)
    | (go_at_call_of 164 x8; refine (h4 _ hb3).mono ?_; rintro e W4 ⟨rfl, hW4⟩; have hc4 := below_cell (hW4.mono (B' := w.heap.size + 2) hz3); have hz4 : w.heap.size + 2 ≤ W4.heap.size := Nat.le_trans hz3 hW4.size; have hb4 : Below w.heap.size w W4 := Below.trans hb3 (hW4.mono (Nat.le_trans (by omega) hz3)); clear hW4))
  all_goals (go_ret; refine ⟨by ((try simp only [bytes_eq] at *); simp [*]), ?_⟩; first | exact hb4 | exact hb3 | exact hb2 | exact hb1 | exact hb0 | exact Below.refl _ _ | go_grown)
set_option maxHeartbeats 1000000 in
theorem walk28 (w : World) (x0 y0 : Int) (x1 y1 : Int) (x2 y2 : Int) (x3 y3 : Int) (x4 y4 : Value) (x5 y5 : Value) (x6 y6 : Value) (x7 y7 : Value) (x8 y8 : Value) (x9 y9 : Value) (x10 y10 : Value) (x11 y11 : Value) (x12 y12 : Value) (x13 y13 : Value) (x14 y14 : Value) (x15 y15 : Value) (x16 y16 : Value) (x17 y17 : Value) (x18 y18 : Value) (x19 y19 : Value) (x20 y20 : Value) (x21 y21 : Value) (x22 y22 : Value) (x23 y23 : Value) (x24 y24 : Value) (x25 y25 : Value) (x26 y26 : Value) (x27 y27 : Value) (r0 : Bool) (h0 : EqFn 73  (.agg #[x4, x5, x6, x7, x8, x9, x10, x11, x12, x13, x14, x15]) (.agg #[y4, y5, y6, y7, y8, y9, y10, y11, y12, y13, y14, y15]) r0 w) (r1 : Bool) (h1 : EqFn 73  (.agg #[x16, x17, x18, x19, x20, x21, x22, x23, x24, x25, x26, x27]) (.agg #[y16, y17, y18, y19, y20, y21, y22, y23, y24, y25, y26, y27]) r1 w) :
    Calls Tryz.prog 28 #[.agg #[.int .i64 x0, .int .i64 x1, .int .i64 x2, .int .i64 x3, x4, x5, x6, x7, x8, x9, x10, x11, x12, x13, x14, x15, x16, x17, x18, x19, x20, x21, x22, x23, x24, x25, x26, x27], .agg #[.int .i64 y0, .int .i64 y1, .int .i64 y2, .int .i64 y3, y4, y5, y6, y7, y8, y9, y10, y11, y12, y13, y14, y15, y16, y17, y18, y19, y20, y21, y22, y23, y24, y25, y26, y27]] w fun e w' => e = .returned (.bool (x0 == y0 && x1 == y1 && x2 == y2 && x3 == y3 && r0 && r1)) ∧ Below w.heap.size w w' := by
  go_enter Tryz.func28, Tryz.ntmps28
  go_wp2_with (first
    | (go_at_call_of 73 x4; refine (h0 _ ?_).mono ?_; (focus (show Below _ _ _; go_grown)); rintro e W0 ⟨rfl, hW0⟩; have hc0 := below_cell hW0; simp only [World.size_alloc] at hc0; have hz0 : w.heap.size + 2 ≤ W0.heap.size := Nat.le_trans (by simp only [World.size_alloc]; omega) hW0.size; have hb0 : Below w.heap.size w W0 := Below.trans (by go_grown) (hW0.mono (by go_size)); clear hW0)
    | (go_at_call_of 73 x16; refine (h1 _ hb0).mono ?_; rintro e W1 ⟨rfl, hW1⟩; have hc1 := below_cell (hW1.mono (B' := w.heap.size + 2) hz0); have hz1 : w.heap.size + 2 ≤ W1.heap.size := Nat.le_trans hz0 hW1.size; have hb1 : Below w.heap.size w W1 := Below.trans hb0 (hW1.mono (Nat.le_trans (by omega) hz0)); clear hW1))
  all_goals (go_ret; refine ⟨by ((try simp only [bytes_eq] at *); simp [*]), ?_⟩; first | exact hb1 | exact hb0 | exact Below.refl _ _ | go_grown)
set_option maxHeartbeats 1000000 in
theorem walk29 (w : World) (x0 y0 : Int) (x1 y1 : Int) (x2 y2 : Int) (x3 y3 : Int) (x4 y4 : Value) (x5 y5 : Value) (x6 y6 : Value) (x7 y7 : Value) (x8 y8 : Value) (x9 y9 : Value) (x10 y10 : Value) (x11 y11 : Value) (x12 y12 : Value) (x13 y13 : Value) (x14 y14 : Value) (x15 y15 : Value) (x16 y16 : Value) (x17 y17 : Value) (x18 y18 : Value) (x19 y19 : Value) (x20 y20 : Value) (x21 y21 : Value) (x22 y22 : Value) (x23 y23 : Value) (x24 y24 : Value) (x25 y25 : Value) (x26 y26 : Value) (x27 y27 : Value) (r0 : Bool) (h0 : EqFn 65  (.agg #[x4, x5, x6, x7, x8, x9, x10, x11, x12, x13, x14, x15]) (.agg #[y4, y5, y6, y7, y8, y9, y10, y11, y12, y13, y14, y15]) r0 w) (r1 : Bool) (h1 : EqFn 65  (.agg #[x16, x17, x18, x19, x20, x21, x22, x23, x24, x25, x26, x27]) (.agg #[y16, y17, y18, y19, y20, y21, y22, y23, y24, y25, y26, y27]) r1 w) :
    Calls Tryz.prog 29 #[.agg #[.int .i64 x0, .int .i64 x1, .int .i64 x2, .int .i64 x3, x4, x5, x6, x7, x8, x9, x10, x11, x12, x13, x14, x15, x16, x17, x18, x19, x20, x21, x22, x23, x24, x25, x26, x27], .agg #[.int .i64 y0, .int .i64 y1, .int .i64 y2, .int .i64 y3, y4, y5, y6, y7, y8, y9, y10, y11, y12, y13, y14, y15, y16, y17, y18, y19, y20, y21, y22, y23, y24, y25, y26, y27]] w fun e w' => e = .returned (.bool (x0 == y0 && x1 == y1 && x2 == y2 && x3 == y3 && r0 && r1)) ∧ Below w.heap.size w w' := by
  go_enter Tryz.func29, Tryz.ntmps29
  go_wp2_with (first
    | (go_at_call_of 65 x4; refine (h0 _ ?_).mono ?_; (focus (show Below _ _ _; go_grown)); rintro e W0 ⟨rfl, hW0⟩; have hc0 := below_cell hW0; simp only [World.size_alloc] at hc0; have hz0 : w.heap.size + 2 ≤ W0.heap.size := Nat.le_trans (by simp only [World.size_alloc]; omega) hW0.size; have hb0 : Below w.heap.size w W0 := Below.trans (by go_grown) (hW0.mono (by go_size)); clear hW0)
    | (go_at_call_of 65 x16; refine (h1 _ hb0).mono ?_; rintro e W1 ⟨rfl, hW1⟩; have hc1 := below_cell (hW1.mono (B' := w.heap.size + 2) hz0); have hz1 : w.heap.size + 2 ≤ W1.heap.size := Nat.le_trans hz0 hW1.size; have hb1 : Below w.heap.size w W1 := Below.trans hb0 (hW1.mono (Nat.le_trans (by omega) hz0)); clear hW1))
  all_goals (go_ret; refine ⟨by ((try simp only [bytes_eq] at *); simp [*]), ?_⟩; first | exact hb1 | exact hb0 | exact Below.refl _ _ | go_grown)
end Go.Proofs.YtmhkceeiiklfdaaGreat
set_option linter.unusedVariables false
set_option maxRecDepth 20000
namespace Go.Proofs.YtmhkceeiiklfdaaGreat
open Go.RowKit
set_option maxHeartbeats 2000000 in
theorem eq162 (P : List T → Prop) (hl : ∀ c, P c → c.length = 6) (hg : EqV 174 P) : EqC 162 P := by
  intro w d d' es fs v v' he hf pe pf
  obtain ⟨a, cap, rfl, hn, hcap, hcell⟩ := he.rows (sz := 6) (fun c hc => hl c (pe c hc)) (by omega)
  obtain ⟨a', cap', rfl, hn', hcap', hcell'⟩ := hf.rows (sz := 6) (fun c hc => hl c (pf c hc)) (by omega)
  clear he hf
  have g1 : es.length ≤ 9223372036854775807 := by omega
  have g2 : fs.length ≤ 9223372036854775807 := by omega
  by_cases hlen : es.length = fs.length
  case neg =>
    have hne : ¬ (es = fs) := fun e => hlen (by rw [e])
    have ht : ((es.length : Int) != (fs.length : Int)) = true := by simpa using (by omega : ¬ (es.length : Int) = (fs.length : Int))
    clear hcell hcell' pe pf
    go_enter Tryz.func162, Tryz.ntmps162
    go_wp2
    go_ret
    exact ⟨false, rfl, by simp [hne], Below.refl _ _⟩
  by_cases hz : es.length = 0
  · have e1 : es = [] := List.eq_nil_of_length_eq_zero hz
    have e2 : fs = [] := List.eq_nil_of_length_eq_zero (by omega)
    subst e1; subst e2
    clear hcell hcell' pe pf
    go_enter Tryz.func162, Tryz.ntmps162
    go_wp2
    go_loopw [5] (fun i wr => i = .int .i64 0 ∧ Below w.heap.size w wr) (fun i _ => 0)
    case atStart => exact ⟨rfl, Below.refl _ _⟩
    case round =>
      obtain ⟨rfl, hbl⟩ := hrel
      go_wp2
      go_ret
      exact ⟨true, rfl, by simp, hbl⟩
  obtain ⟨b, off, hb, rfl, U, hc, hr, ho⟩ := hcell (by omega)
  obtain ⟨b', off', hb', rfl, U', hc', hr', ho'⟩ := hcell' (by omega)
  clear hcell hcell'
  obtain ⟨n, hn1⟩ : ∃ n, es.length = n := ⟨_, rfl⟩
  have hn2 : fs.length = n := by omega
  rw [hn1] at hlen hn hcap g1 hz
  rw [hn2] at hn' hcap' g2
  clear hlen
  rw [hn1, hn2]
  go_enter Tryz.func162, Tryz.ntmps162
  go_wp2
  go_loopw [5] (fun i wr => ∃ k : Nat, k ≤ n ∧ i = .int .i64 k ∧ es.take k = fs.take k ∧ Below w.heap.size w wr) (fun i _ => n - (intOf i).toNat)
  case atStart => exact ⟨0, by omega, rfl, by simp, Below.refl _ _⟩
  case round =>
    obtain ⟨k, hk, rfl, htk, hbl⟩ := hrel
    have hsz := hbl.size
    have hbw : b < wr.heap.size := by omega
    have hbw' : b' < wr.heap.size := by omega
    have h00 : k < n → wr.cell? ⟨b, off + k * 6, none⟩ = some (U k 0) := fun h => ((hbl.cell (by exact hb)).trans (hc k 0 (by omega) (by omega)))
    have h01 : k < n → wr.cell? ⟨b, off + k * 6 + 1, none⟩ = some (U k 1) := fun h => ((hbl.cell (by exact hb)).trans (hc k 1 (by omega) (by omega)))
    have h02 : k < n → wr.cell? ⟨b, off + k * 6 + 2, none⟩ = some (U k 2) := fun h => ((hbl.cell (by exact hb)).trans (hc k 2 (by omega) (by omega)))
    have h03 : k < n → wr.cell? ⟨b, off + k * 6 + 3, none⟩ = some (U k 3) := fun h => ((hbl.cell (by exact hb)).trans (hc k 3 (by omega) (by omega)))
    have h04 : k < n → wr.cell? ⟨b, off + k * 6 + 4, none⟩ = some (U k 4) := fun h => ((hbl.cell (by exact hb)).trans (hc k 4 (by omega) (by omega)))
    have h05 : k < n → wr.cell? ⟨b, off + k * 6 + 5, none⟩ = some (U k 5) := fun h => ((hbl.cell (by exact hb)).trans (hc k 5 (by omega) (by omega)))
    have h10 : k < n → wr.cell? ⟨b', off' + k * 6, none⟩ = some (U' k 0) := fun h => ((hbl.cell (by exact hb')).trans (hc' k 0 (by omega) (by omega)))
    have h11 : k < n → wr.cell? ⟨b', off' + k * 6 + 1, none⟩ = some (U' k 1) := fun h => ((hbl.cell (by exact hb')).trans (hc' k 1 (by omega) (by omega)))
    have h12 : k < n → wr.cell? ⟨b', off' + k * 6 + 2, none⟩ = some (U' k 2) := fun h => ((hbl.cell (by exact hb')).trans (hc' k 2 (by omega) (by omega)))
    have h13 : k < n → wr.cell? ⟨b', off' + k * 6 + 3, none⟩ = some (U' k 3) := fun h => ((hbl.cell (by exact hb')).trans (hc' k 3 (by omega) (by omega)))
    have h14 : k < n → wr.cell? ⟨b', off' + k * 6 + 4, none⟩ = some (U' k 4) := fun h => ((hbl.cell (by exact hb')).trans (hc' k 4 (by omega) (by omega)))
    have h15 : k < n → wr.cell? ⟨b', off' + k * 6 + 5, none⟩ = some (U' k 5) := fun h => ((hbl.cell (by exact hb')).trans (hc' k 5 (by omega) (by omega)))
    have hcall : ∀ W, k < n → Below w.heap.size w W → Calls Tryz.prog 174 #[.agg #[U k 0, U k 1, U k 2, U k 3, U k 4, U k 5], .agg #[U' k 0, U' k 1, U' k 2, U' k 3, U' k 4, U' k 5]] W fun e w' => ∃ r : Bool, e = .returned (.bool r) ∧ (r = true ↔ es.getD k [] = fs.getD k []) ∧ Below W.heap.size W w' := fun W h hW =>
      have h : k < es.length := by omega
      hg W (d - 1) (d' - 1) _ _ _ _ (((hr k h).below hW).rdl (hl _ (pe _ (getD_mem h)))) (((hr' k (by omega)).below hW).rdl (hl _ (pf _ (getD_mem (by omega))))) (pe _ (getD_mem h)) (pf _ (getD_mem (by omega)))
    clear hc hc' hr hr'
    go_wp2
    · have hkn : k < n := by assumption
      go_still_tail 8, (by kernel_rfl)
      change wpList _ _ _ _ _ wr.drew
      have hbl2 : Below w.heap.size w wr.drew := hbl.drew
      clear hbl
      generalize wr.drew = w2 at hbl2 ⊢
      go_wp2_with (go_at_call 174; refine (hcall _ hkn hbl2).mono ?_; rintro e W1 ⟨r, rfl, hr1, hW1⟩; have hb1 : Below w.heap.size w W1 := hbl2.trans (hW1.mono hbl2.size); clear hW1)
      all_goals first
        | (rename_i hrf
           go_ret
           refine ⟨false, rfl, ?_, hb1⟩
           have hrf : r = false := by simpa using hrf
           rw [hrf] at hr1
           simp only [Bool.false_eq_true, false_iff] at hr1 ⊢
           intro e
           exact hr1 (by rw [e]))
        | (rename_i hrf
           have hrf : r = true := by simpa using hrf
           exact ⟨⟨k + 1, by omega, by go_num, take_step (by omega) (by omega) htk (hr1.1 hrf), hb1⟩, by simp [intOf]; omega⟩)
    · go_ret
      refine ⟨true, rfl, ?_, hbl⟩
      simp only [true_iff]
      rw [List.take_of_length_le (by omega), List.take_of_length_le (by omega)] at htk
      exact htk
end Go.Proofs.YtmhkceeiiklfdaaGreat
set_option linter.unusedVariables false
set_option linter.unusedSimpArgs false
namespace Go.Proofs.YtmhkceeiiklfdaaGreat
open Go.RowKit Go.Abs
theorem eqItem : ∀ n, EqC 38 (IsItem n)
  | 0 => eq38 (eq82 _ (lenItem 0) fun _ _ _ _ _ _ _ _ _ h => h.elim)
  | n + 1 => by
    have h176 := eq176 (eqItem n)
    have h175 := eq175 _ (fun c h => IsCell.len h) h176
    have h174 := eq174 h175
    have h173 := eq173 _ (fun c h => IsRow.len h) h174
    exact eq38 (eq82 _ (lenItem (n + 1)) (eq83 (eqItem n) h173))
theorem eqCells (n : Nat) : EqC3 175 176 (IsCell (IsItem n)) := eq175 _ (fun c h => IsCell.len h) (eq176 (eqItem n))
theorem eqRowV (n : Nat) : EqV 174 (IsRow (IsItem n)) := eq174 (eqCells n)
theorem eqRows (n : Nat) : EqC3 173 174 (IsRow (IsItem n)) := eq173 _ (fun c h => IsRow.len h) (eqRowV n)
theorem eqStyles : EqC 41 IsStyle := eq41 (eq87 _ (fun c h => IsStyle.len h) (eq88 (eq89 eq84)))
theorem eqLists : EqC3 42 36 IsList := eq42 _ (fun c h => IsList.len h) eq36
theorem RdL.four {w : World} {d : Nat} {h : List T} {us : List Value} (hh : h.length = 4) (hu : RdL w d h us) : ∃ a b c e, us = [a, b, c, e] := by
  have := hu.1
  rw [hh] at this
  match us, this with
  | [a, b, c, e], _ => exact ⟨a, b, c, e, rfl⟩
theorem RdL.ones {w : World} {d : Nat} {ts : List T} {vs : List Value} (h : RdL w d ts vs) : ∀ u ∈ vs, u.oneCell' = true := by
  intro u hu
  obtain ⟨i, hi⟩ := List.getElem?_of_mem hu
  have hl : i < ts.length := by have := (List.getElem?_eq_some_iff.1 hi).1; rw [h.1] at this; exact this
  obtain ⟨u', h1, h2⟩ := h.2 i _ (List.getElem?_eq_getElem hl)
  rw [hi] at h1; cases h1
  exact h2.one
theorem eq13 {P : List T → Prop} (h38 : EqC 38 P) : EqV 13 (IsDoc P) := by
  rintro w d d' c c' us vs hu hv ⟨fl, h, rv, st, rfl, pf, ph, pv, ps⟩ ⟨fl', h', rv', st', rfl, pf', ph', pv', ps'⟩
  obtain ⟨v0, _, rfl, r0, hu⟩ := hu.cons
  obtain ⟨a, _, rfl, ra, hu⟩ := hu.app
  obtain ⟨v1, _, rfl, r1, hu⟩ := hu.cons
  obtain ⟨u0, _, rfl, s0, hv⟩ := hv.cons
  obtain ⟨b, _, rfl, sb, hv⟩ := hv.app
  obtain ⟨u1, _, rfl, s1, hv⟩ := hv.cons
  have oa := hu.ones
  have ob := hv.ones
  obtain ⟨sa, sl, sc, sv, rfl, pa, pl, pc, pvv⟩ := ps
  obtain ⟨ta, tl, tc, tv, rfl, pa', pl', pc', pvv'⟩ := ps'
  obtain ⟨e0, _, rfl, q0, hu⟩ := hu.cons
  obtain ⟨e1, _, rfl, q1, hu⟩ := hu.cons
  obtain ⟨e2, _, rfl, q2, hu⟩ := hu.cons
  obtain ⟨e3, _, rfl, q3, hu⟩ := hu.cons
  obtain rfl := hu.nil
  obtain ⟨f0, _, rfl, p0, hv⟩ := hv.cons
  obtain ⟨f1, _, rfl, p1, hv⟩ := hv.cons
  obtain ⟨f2, _, rfl, p2, hv⟩ := hv.cons
  obtain ⟨f3, _, rfl, p3, hv⟩ := hv.cons
  obtain rfl := hv.nil
  have hh := eq39.fn ra sb ph ph'
  have hdec : h = h' ∨ h ≠ h' := Classical.em _
  have hl1 := ph.len
  have hl2 := ph'.len
  obtain ⟨z1, i, m, z2, z3, rfl, _⟩ := ph
  obtain ⟨y1, i', m', y2, y3, rfl, _⟩ := ph'
  obtain ⟨a0, _, rfl, ra0, ra⟩ := ra.cons
  obtain ⟨a1, _, rfl, ra1, ra⟩ := ra.cons
  obtain ⟨a2, _, rfl, ra2, ra⟩ := ra.cons
  obtain ⟨a3, _, rfl, ra3, ra⟩ := ra.cons
  obtain ⟨a4, _, rfl, ra4, ra⟩ := ra.cons
  obtain rfl := ra.nil
  obtain ⟨b0, _, rfl, sb0, sb⟩ := sb.cons
  obtain ⟨b1, _, rfl, sb1, sb⟩ := sb.cons
  obtain ⟨b2, _, rfl, sb2, sb⟩ := sb.cons
  obtain ⟨b3, _, rfl, sb3, sb⟩ := sb.cons
  obtain ⟨b4, _, rfl, sb4, sb⟩ := sb.cons
  obtain rfl := sb.nil
  obtain rfl : a1 = .int .i64 i := ra1.lf
  obtain rfl : a2 = .int .i64 m := ra2.lf
  obtain rfl : b1 = .int .i64 i' := sb1.lf
  obtain rfl : b2 = .int .i64 m' := sb2.lf
  refine (walk13 w v0 a0 i m a3 a4 v1 e0 e1 e2 e3 u0 b0 i' m' b3 b4 u1 f0 f1 f2 f3 _ _ _ _ _ _ _ (oa e0 (by simp)) (oa e1 (by simp)) (oa e2 (by simp)) (oa e3 (by simp)) (ob f0 (by simp)) (ob f1 (by simp)) (ob f2 (by simp)) (ob f3 (by simp))
    (h38.fn r0 s0 pf pf') hh (eq40.fn r1 s1 pv pv') (eqStyles.fn q0 p0 pa pa') (eqLists.fn q1 p1 pl pl') (eq43.fn q2 p2 pc pc') (eq44.fn q3 p3 pvv pvv')).mono ?_
  rintro e w' ⟨rfl, hb⟩
  refine ⟨_, rfl, ?_, hb⟩
  simp [and_assoc]
theorem nilRd (w : World) (d : Nat) : Rd w (d + 1) (.sl []) (.slice none 0 0) := ⟨none, 0, rfl, by simp, by simp, .inl rfl⟩
/-- the document of settings alone -/
def setDoc (st : List T) : List T := .sl [] :: ([.sl [], .lf (.int 0), .lf (.int 0), .sl [], .sl []] ++ (.sl [] :: st))
theorem isDoc_set (P : List T → Prop) {st : List T} (h : IsSet st) : IsDoc P (setDoc st) := ⟨[], _, [], st, rfl, by simp, ⟨[], 0, 0, [], [], rfl, by simp, by simp, by simp⟩, by simp, h⟩
theorem setDoc_rd {w : World} {d : Nat} {st : List T} {us : List Value} (h : RdL w (d + 1) st us) : RdL w (d + 1) (setDoc st) ([.slice none 0 0, .slice none 0 0, .int .i64 0, .int .i64 0, .slice none 0 0, .slice none 0 0, .slice none 0 0] ++ us) :=
  .mk_cons (nilRd w d) (.mk_cons (nilRd w d) (.mk_cons (Rd.of_lf _ _ (.int 0)) (.mk_cons (Rd.of_lf _ _ (.int 0)) (.mk_cons (nilRd w d) (.mk_cons (nilRd w d) (.mk_cons (nilRd w d) h))))))
theorem setDoc_inj {st st' : List T} : setDoc st = setDoc st' ↔ st = st' := by simp [setDoc]
theorem set_depth {w : World} {d : Nat} {st : List T} {us : List Value} (h : RdL w d st us) (hs : IsSet st) : ∃ k, d = k + 1 := by
  obtain ⟨a, b, e, f, rfl, _⟩ := hs
  obtain ⟨v, _, _, hv, _⟩ := h.cons
  cases d with
  | zero => exact hv.elim
  | succ d => exact ⟨d, rfl⟩
theorem eq98 {P : List T → Prop} (h13 : EqV 13 (IsDoc P)) : EqV 98 IsSet := by
  intro w d d' c c' us vs hu hv hc hc'
  obtain ⟨d, rfl⟩ := set_depth hu hc
  obtain ⟨d', rfl⟩ := set_depth hv hc'
  have hd := setDoc_rd hu
  have hd' := setDoc_rd hv
  obtain ⟨x0, x1, x2, x3, rfl⟩ := hu.four hc.len
  obtain ⟨y0, y1, y2, y3, rfl⟩ := hv.four hc'.len
  refine (walk98 w x0 x1 x2 x3 y0 y1 y2 y3 _ (h13.fn hd hd' (isDoc_set P hc) (isDoc_set P hc'))).mono ?_
  rintro e w' ⟨rfl, hb⟩
  exact ⟨_, rfl, by simp [setDoc_inj], hb⟩
theorem eq164 {P : List T → Prop} (h13 : EqV 13 (IsDoc P)) : EqV 164 IsSet := by
  intro w d d' c c' us vs hu hv hc hc'
  obtain ⟨d, rfl⟩ := set_depth hu hc
  obtain ⟨d', rfl⟩ := set_depth hv hc'
  have hd := setDoc_rd hu
  have hd' := setDoc_rd hv
  obtain ⟨x0, x1, x2, x3, rfl⟩ := hu.four hc.len
  obtain ⟨y0, y1, y2, y3, rfl⟩ := hv.four hc'.len
  refine (walk164 w x0 x1 x2 x3 y0 y1 y2 y3 _ (h13.fn hd hd' (isDoc_set P hc) (isDoc_set P hc'))).mono ?_
  rintro e w' ⟨rfl, hb⟩
  exact ⟨_, rfl, by simp [setDoc_inj], hb⟩
def nilHead : List T := [.sl [], .lf (.int 0), .lf (.int 0), .sl [], .sl []]
theorem eq163 {P : List T → Prop} (h174 : EqV 174 (IsRow P)) : EqC 163 (IsCell P) := by
  intro w d d' es fs v v' he hf pe pf
  obtain ⟨d, rfl⟩ : ∃ k, d = k + 1 := by
    cases d with
    | zero => exact he.elim
    | succ d => exact ⟨d, rfl⟩
  obtain ⟨d', rfl⟩ : ∃ k, d' = k + 1 := by
    cases d' with
    | zero => exact hf.elim
    | succ d => exact ⟨d, rfl⟩
  have hd : RdL w (d + 1) (nilHead ++ [.sl es]) ([.slice none 0 0, .int .i64 0, .int .i64 0, .slice none 0 0, .slice none 0 0] ++ [v]) := .mk_cons (nilRd w d) (.mk_cons (Rd.of_lf _ _ (.int 0)) (.mk_cons (Rd.of_lf _ _ (.int 0)) (.mk_cons (nilRd w d) (.mk_cons (nilRd w d) (.mk_cons he .mk_nil)))))
  have hd' : RdL w (d' + 1) (nilHead ++ [.sl fs]) ([.slice none 0 0, .int .i64 0, .int .i64 0, .slice none 0 0, .slice none 0 0] ++ [v']) := .mk_cons (nilRd w d') (.mk_cons (Rd.of_lf _ _ (.int 0)) (.mk_cons (Rd.of_lf _ _ (.int 0)) (.mk_cons (nilRd w d') (.mk_cons (nilRd w d') (.mk_cons hf .mk_nil)))))
  have hn : IsHead nilHead := ⟨[], 0, 0, [], [], rfl, by simp, by simp, by simp⟩
  obtain ⟨a, cap, rfl, _⟩ := he
  obtain ⟨a', cap', rfl, _⟩ := hf
  refine (walk163 w _ _ _ _ _ _ _ (h174.fn hd hd' ⟨nilHead, es, rfl, hn, pe⟩ ⟨nilHead, fs, rfl, hn, pf⟩)).mono ?_
  rintro e w' ⟨rfl, hb⟩
  exact ⟨_, rfl, by simp only [decide_eq_true_eq]; exact ⟨fun h => by simpa [nilHead] using h, fun h => by rw [h]⟩, hb⟩
theorem eq73 {P : List T → Prop} (h38 : EqC 38 P) (h173 : EqC3 173 174 (IsRow P)) (h175 : EqC3 175 176 (IsCell P)) : EqV 73 (IsPiece P) := by
  rintro w d d' c c' us vs hu hv ⟨it, rs, cs, h, st, rfl, pi, pr, pc, ph, ps⟩ ⟨it', rs', cs', h', st', rfl, pi', pr', pc', ph', ps'⟩
  obtain ⟨x0, _, rfl, r0, hu⟩ := hu.cons
  obtain ⟨x1, _, rfl, r1, hu⟩ := hu.cons
  obtain ⟨x2, _, rfl, r2, hu⟩ := hu.cons
  obtain ⟨a, b, rfl, ra, rb⟩ := hu.app
  obtain ⟨y0, _, rfl, s0, hv⟩ := hv.cons
  obtain ⟨y1, _, rfl, s1, hv⟩ := hv.cons
  obtain ⟨y2, _, rfl, s2, hv⟩ := hv.cons
  obtain ⟨a', b', rfl, sa, sb⟩ := hv.app
  have e39 := eq39.fn ra sa ph ph'
  have e98 := (eq98 (eq13 h38)).fn rb sb ps ps'
  obtain ⟨a0, a1, a2, a3, a4, rfl⟩ := ra.five ph.len
  obtain ⟨c0, c1, c2, c3, c4, rfl⟩ := sa.five ph'.len
  obtain ⟨b0, b1, b2, b3, rfl⟩ := rb.four ps.len
  obtain ⟨e0, e1, e2, e3, rfl⟩ := sb.four ps'.len
  refine (walk73 w _ _ _ _ _ _ _ _ _ _ _ _ _ _ _ _ _ _ _ _ _ _ _ _ _ (h38.fn r0 s0 pi pi') _ (h173.fn r1 s1 pr pr') _ (h175.fn r2 s2 pc pc') _ e39 _ e98).mono ?_
  rintro e w' ⟨rfl, hb⟩
  refine ⟨_, rfl, ?_, hb⟩
  simp only [Bool.and_eq_true, decide_eq_true_eq, List.cons.injEq, T.sl.injEq, and_assoc]
  rw [app_iff (by rw [ph.len, ph'.len])]
theorem eq65 {P : List T → Prop} (h38 : EqC 38 P) (h174 : EqV 174 (IsRow P)) : EqV 65 (IsPiece P) := by
  rintro w d d' c c' us vs hu hv ⟨it, rs, cs, h, st, rfl, pi, pr, pc, ph, ps⟩ ⟨it', rs', cs', h', st', rfl, pi', pr', pc', ph', ps'⟩
  obtain ⟨x0, _, rfl, r0, hu⟩ := hu.cons
  obtain ⟨x1, _, rfl, r1, hu⟩ := hu.cons
  obtain ⟨x2, _, rfl, r2, hu⟩ := hu.cons
  obtain ⟨a, b, rfl, ra, rb⟩ := hu.app
  obtain ⟨y0, _, rfl, s0, hv⟩ := hv.cons
  obtain ⟨y1, _, rfl, s1, hv⟩ := hv.cons
  obtain ⟨y2, _, rfl, s2, hv⟩ := hv.cons
  obtain ⟨a', b', rfl, sa, sb⟩ := hv.app
  have e39 := eq39.fn ra sa ph ph'
  have e164 := (eq164 (eq13 h38)).fn rb sb ps ps'
  obtain ⟨a0, a1, a2, a3, a4, rfl⟩ := ra.five ph.len
  obtain ⟨c0, c1, c2, c3, c4, rfl⟩ := sa.five ph'.len
  obtain ⟨b0, b1, b2, b3, rfl⟩ := rb.four ps.len
  obtain ⟨e0, e1, e2, e3, rfl⟩ := sb.four ps'.len
  refine (walk65 w _ _ _ _ _ _ _ _ _ _ _ _ _ _ _ _ _ _ _ _ _ _ _ _ _ (h38.fn r0 s0 pi pi') _ ((eq162 _ (fun c h => IsRow.len h) h174).fn r1 s1 pr pr') _ ((eq163 h174).fn r2 s2 pc pc') _ e39 _ e164).mono ?_
  rintro e w' ⟨rfl, hb⟩
  refine ⟨_, rfl, ?_, hb⟩
  simp only [Bool.and_eq_true, decide_eq_true_eq, List.cons.injEq, T.sl.injEq, and_assoc]
  rw [app_iff (by rw [ph.len, ph'.len])]
theorem len12 {l : List Value} (h : l.length = 12) : ∃ a b c d e f g h i j k m, l = [a, b, c, d, e, f, g, h, i, j, k, m] := by
  match l, h with
  | [a, b, c, d, e, f, g, h, i, j, k, m], _ => exact ⟨_, _, _, _, _, _, _, _, _, _, _, _, rfl⟩
theorem eqS {P : List T → Prop} {f g : FuncId} (hg : EqV g (IsPiece P)) (hwalk : ∀ (w : World) (x0 y0 x1 y1 x2 y2 x3 y3 : Int) (a b a' b' : List Value), a.length = 12 → b.length = 12 → a'.length = 12 → b'.length = 12 → ∀ (r0 : Bool), EqFn g (.agg a.toArray) (.agg a'.toArray) r0 w → ∀ (r1 : Bool), EqFn g (.agg b.toArray) (.agg b'.toArray) r1 w →
    Calls Tryz.prog f #[.agg (.int .i64 x0 :: .int .i64 x1 :: .int .i64 x2 :: .int .i64 x3 :: (a ++ b)).toArray, .agg (.int .i64 y0 :: .int .i64 y1 :: .int .i64 y2 :: .int .i64 y3 :: (a' ++ b')).toArray] w fun e w' => e = .returned (.bool (x0 == y0 && x1 == y1 && x2 == y2 && x3 == y3 && r0 && r1)) ∧ Below w.heap.size w w') : EqV f (IsSplice P) := by
  rintro w d d' c c' us vs hu hv ⟨k, i, a, s, p, q, rfl, pp, pq⟩ ⟨k', i', a', s', p', q', rfl, pp', pq'⟩
  obtain ⟨x0, _, rfl, r0, hu⟩ := hu.cons
  obtain ⟨x1, _, rfl, r1, hu⟩ := hu.cons
  obtain ⟨x2, _, rfl, r2, hu⟩ := hu.cons
  obtain ⟨x3, _, rfl, r3, hu⟩ := hu.cons
  obtain ⟨la, lb, rfl, ra, rb⟩ := hu.app
  obtain ⟨y0, _, rfl, s0, hv⟩ := hv.cons
  obtain ⟨y1, _, rfl, s1, hv⟩ := hv.cons
  obtain ⟨y2, _, rfl, s2, hv⟩ := hv.cons
  obtain ⟨y3, _, rfl, s3, hv⟩ := hv.cons
  obtain ⟨la', lb', rfl, sa, sb⟩ := hv.app
  obtain rfl : x0 = .int .i64 k := r0.lf
  obtain rfl : x1 = .int .i64 i := r1.lf
  obtain rfl : x2 = .int .i64 a := r2.lf
  obtain rfl : x3 = .int .i64 s := r3.lf
  obtain rfl : y0 = .int .i64 k' := s0.lf
  obtain rfl : y1 = .int .i64 i' := s1.lf
  obtain rfl : y2 = .int .i64 a' := s2.lf
  obtain rfl : y3 = .int .i64 s' := s3.lf
  refine (hwalk w k k' i i' a a' s s' la lb la' lb' (by rw [ra.1, pp.len]) (by rw [rb.1, pq.len]) (by rw [sa.1, pp'.len]) (by rw [sb.1, pq'.len]) _ (hg.fn ra sa pp pp') _ (hg.fn rb sb pq pq')).mono ?_
  rintro e w' ⟨rfl, hb⟩
  refine ⟨_, rfl, ?_, hb⟩
  simp only [Bool.and_eq_true, decide_eq_true_eq, beq_iff_eq, List.cons.injEq, T.lf.injEq, Lf.int.injEq, and_assoc]
  rw [app_iff (by rw [pp.len, pp'.len])]
theorem eq28 {P : List T → Prop} (h73 : EqV 73 (IsPiece P)) : EqV 28 (IsSplice P) := eqS h73 fun w x0 y0 x1 y1 x2 y2 x3 y3 a b a' b' ha hb ha' hb' r0 h0 r1 h1 => by
  obtain ⟨_, _, _, _, _, _, _, _, _, _, _, _, rfl⟩ := len12 ha
  obtain ⟨_, _, _, _, _, _, _, _, _, _, _, _, rfl⟩ := len12 hb
  obtain ⟨_, _, _, _, _, _, _, _, _, _, _, _, rfl⟩ := len12 ha'
  obtain ⟨_, _, _, _, _, _, _, _, _, _, _, _, rfl⟩ := len12 hb'
  exact walk28 w x0 y0 x1 y1 x2 y2 x3 y3 _ _ _ _ _ _ _ _ _ _ _ _ _ _ _ _ _ _ _ _ _ _ _ _ _ _ _ _ _ _ _ _ _ _ _ _ _ _ _ _ _ _ _ _ _ _ _ _ r0 h0 r1 h1
theorem eq29 {P : List T → Prop} (h65 : EqV 65 (IsPiece P)) : EqV 29 (IsSplice P) := eqS h65 fun w x0 y0 x1 y1 x2 y2 x3 y3 a b a' b' ha hb ha' hb' r0 h0 r1 h1 => by
  obtain ⟨_, _, _, _, _, _, _, _, _, _, _, _, rfl⟩ := len12 ha
  obtain ⟨_, _, _, _, _, _, _, _, _, _, _, _, rfl⟩ := len12 hb
  obtain ⟨_, _, _, _, _, _, _, _, _, _, _, _, rfl⟩ := len12 ha'
  obtain ⟨_, _, _, _, _, _, _, _, _, _, _, _, rfl⟩ := len12 hb'
  exact walk29 w x0 y0 x1 y1 x2 y2 x3 y3 _ _ _ _ _ _ _ _ _ _ _ _ _ _ _ _ _ _ _ _ _ _ _ _ _ _ _ _ _ _ _ _ _ _ _ _ _ _ _ _ _ _ _ _ _ _ _ _ r0 h0 r1 h1
theorem eqSplice (n : Nat) : EqV 28 (IsSplice (IsItem n)) := eq28 (eq73 (eqItem n) (eqRows n) (eqCells n))
theorem sameSplice (n : Nat) : EqV 29 (IsSplice (IsItem n)) := eq29 (eq65 (eqItem n) (eqRowV n))
end Go.Proofs.YtmhkceeiiklfdaaGreat
set_option linter.unusedVariables false
namespace Go
section
variable {P : Program} {ops : Array Oper} {Q : Exit → Act → World → Prop} {md : Region.Mode} {S : World → Prop}
/-- a drawn region's head in whatever order, S behind each of its operations; behind the head: L -/
def wpAnyT (P : Program) (md : Region.Mode) (ops : Array Oper) (Q : Exit → Act → World → Prop) (S : World → Prop) (n : Nat) (L : Array Bool → Act → World → Prop) : Nat → Array Bool → Act → World → Prop
  | 0, listed, a, w => L listed a w
  | f + 1, listed, a, w => Region.ready md ops listed ≠ [] ∧ ∀ i ∈ Region.ready md ops listed, i < n ∧ wpOp P ops Q i (fun a' w' => S w' ∧ wpAnyT P md ops Q S n L f (listed.setIfInBounds i true) a' w') a w
theorem wpAny_of_T {n g : Nat} {L : Array Bool → Act → World → Prop} (hL : ∀ listed a w, L listed a w → wpAny P md ops Q g listed a w) :
    ∀ (f : Nat) (listed : Array Bool) (a : Act) (w : World), wpAnyT P md ops Q S n L f listed a w → wpAny P md ops Q (f + g) listed a w
  | 0, listed, a, w, h => by rw [Nat.zero_add]; exact hL _ _ _ h
  | f + 1, listed, a, w, h => by
    rw [show f + 1 + g = (f + g) + 1 by omega]
    exact ⟨fun h0 => absurd h0 h.1, fun i hi => wpOp_mono (fun a' w' h' => wpAny_of_T hL f _ a' w' h'.2) (h.2 i hi).2⟩
theorem wpAnyT_first {n i : Nat} {oi : Oper} {v : Value} {L : Array Bool → Act → World → Prop} (hi : ops[i]? = some oi) (hsel : ∀ (j : Nat) (o : Oper) cs b, ops[j]? = some o → o.op ≠ .select cs b)
    (hs : Region.sinkB md ops n = true) (hc : Region.chainB md ops n = true) (hn : n < ops.size) (hin : i < n)
    (hQ : ∀ c a w, Q (.panic c) (a.put oi.dst v) w → Q (.panic c) a w)
    (hdone : ∀ listed a w, L listed a w → ∀ j ∈ Region.ready md ops listed, n ≤ j) :
    ∀ (f : Nat) (listed : Array Bool) (a : Act) (w : World), HeadInv md ops n listed →
      (∀ j oj, ops[j]? = some oj → j ≠ i → listed.getD j true = false → (∀ e ∈ oj.after, Region.binds md e = true → e.on ≠ i) → oi.apart ops oj = true) →
      i ∈ Region.ready md ops listed → YieldsIf P ops S oi v a → S w →
      wpAnyT P md ops Q S n L f (listed.setIfInBounds i true) (a.put oi.dst v) w → wpAnyT P md ops Q S n L (f + 1) listed a w := by
  intro f
  induction f with
  | zero =>
    intro listed a w inv _ hr hy hS H
    have hun := (mem_ready.1 hr).1
    refine ⟨fun h => (by rw [h] at hr; cases hr), fun j hj => ?_⟩
    have hjn : j < n := by
      rcases Nat.lt_or_ge j n with h | h
      · exact h
      · exact absurd hj (tail_waits hs hc hn inv _ i rfl hin hun j h)
    refine ⟨hjn, ?_⟩
    by_cases hji : j = i
    · subst hji; exact hy.wpOp hi hS ⟨hS, H⟩
    · have := hdone _ _ _ H j (ready_mono hj hji)
      omega
  | succ f ih =>
    intro listed a w inv hfree hr hy hS H
    have hun := (mem_ready.1 hr).1
    refine ⟨fun h => (by rw [h] at hr; cases hr), fun j hj => ?_⟩
    have hjn : j < n := by
      rcases Nat.lt_or_ge j n with h | h
      · exact h
      · exact absurd hj (tail_waits hs hc hn inv _ i rfl hin hun j h)
    refine ⟨hjn, ?_⟩
    by_cases hji : j = i
    · subst hji; exact hy.wpOp hi hS ⟨hS, H⟩
    · have h1 := (H.2 j (ready_mono hj hji)).2
      obtain ⟨hjun, oj, hoj, hall⟩ := mem_ready.1 hj
      have hnot : ∀ e ∈ oj.after, Region.binds md e = true → e.on ≠ i := fun e he hb heq => by
        have h1 := hall e he hb
        rw [heq, getD_both hun] at h1
        cases h1
      have h2 := wpOp_putIf hoj (hfree j oj hoj hji hjun hnot) (fun cs b => hsel i oi cs b hi) (fun cs b => hsel j oj cs b hoj) hQ hy h1
      have hfree' : ∀ k ok, ops[k]? = some ok → k ≠ i → (listed.setIfInBounds j true).getD k true = false →
          (∀ e ∈ ok.after, Region.binds md e = true → e.on ≠ i) → oi.apart ops ok = true := fun k ok hk hki hun hno => by
        refine hfree k ok hk hki ?_ hno
        by_cases hjk : j = k
        · subst hjk; exact hjun
        · rw [getD_set_ne true hjk] at hun; exact hun
      refine wpOp_mono (fun a' w' h3 => ⟨h3.2.1, ih (listed.setIfInBounds j true) a' w' (inv.set hj hjn) hfree' (ready_mono hr (Ne.symm hji)) h3.1 h3.2.1 ?_⟩) h2
      rw [Array.setIfInBounds_comm _ _ hji]
      exact h3.2.2
/-- the head is closed, the tail has not begun -/
def headB (md : Region.Mode) (ops : Array Oper) (n : Nat) (listed : Array Bool) : Bool :=
  decide (listed.size = ops.size) && (List.range ops.size).all (fun j => !listed.getD j false || (match ops[j]? with | some oj => oj.after.all (fun e => !Region.binds md e || listed.getD e.on false) | none => true)) &&
    (List.range ops.size).all (fun t => decide (t < n) || !listed.getD t true)
theorem headB_spec {n : Nat} {listed : Array Bool} (h : headB md ops n listed = true) : HeadInv md ops n listed := by
  simp only [headB, Bool.and_eq_true, decide_eq_true_eq] at h
  obtain ⟨⟨h1, h2⟩, h3⟩ := h
  refine ⟨h1, fun j oj hj hl e he hb => ?_, fun t ht ht' => ?_⟩
  · have := List.all_eq_true.1 h2 j (List.mem_range.2 (Array.getElem?_eq_some_iff.1 hj).1)
    rw [hl, hj] at this
    simp only [Bool.not_true, Bool.false_or] at this
    have := Array.all_eq_true'.1 this e he
    rw [hb] at this
    simpa using this
  · have := List.all_eq_true.1 h3 t (List.mem_range.2 ht')
    simp only [Bool.or_eq_true, decide_eq_true_eq, Bool.not_eq_true'] at this
    rcases this with h | h
    · omega
    · exact h
def statB (md : Region.Mode) (ops : Array Oper) (n : Nat) : Bool := Region.noSelect ops && decide (n < ops.size) && Region.sinkB md ops n && Region.chainB md ops n
abbrev tailL (P : Program) (md : Region.Mode) (ops : Array Oper) (Q : Exit → Act → World → Prop) (n : Nat) (r : List Oper) : Array Bool → Act → World → Prop :=
  fun listed a w => Region.seqB md ops r.length n listed = true ∧ wpList P ops Q r a w
theorem wpAnyT_take {n i f : Nat} {oi : Oper} {v : Value} {r : List Oper} {listed : Array Bool} {a : Act} {w : World} (hi : ops[i]? = some oi) (hst : statB md ops n = true) (hin : decide (i < n) = true)
    (hinv : headB md ops n listed = true) (hf : Region.free md ops listed i = true) (hr : (Region.ready md ops listed).contains i = true)
    (hQ : ∀ c a w, Q (.panic c) (a.put oi.dst v) w → Q (.panic c) a w) (hy : YieldsIf P ops S oi v a) (hS : S w)
    (h : wpAnyT P md ops Q S n (tailL P md ops Q n r) f (listed.setIfInBounds i true) (a.put oi.dst v) w) : wpAnyT P md ops Q S n (tailL P md ops Q n r) (f + 1) listed a w := by
  simp only [statB, Bool.and_eq_true, decide_eq_true_eq] at hst hin
  obtain ⟨⟨⟨h1, h2⟩, h3⟩, h4⟩ := hst
  exact wpAnyT_first hi (Region.noSelect_spec h1) h3 h4 h2 hin hQ (fun _ _ _ hL => seqB_ready hL.1) f listed a w (headB_spec hinv) (Region.free_spec hi hf) (by simpa using hr) hy hS h
theorem wpAnyT_step {n i f : Nat} {o : Oper} {L : Array Bool → Act → World → Prop} {listed : Array Bool} {a : Act} {w : World} (hr : Region.ready md ops listed = [i]) (hin : decide (i < n) = true) (ho : ops[i]? = some o)
    (h : ∀ K' : Act → World → Prop, Shut (∀ a w, S w → (S w → wpAnyT P md ops Q S n L f (listed.setIfInBounds i true) a w) → K' a w) → if Region.wanted o (yielded ops a.tmps) = true then Oper.wp P o a w K' Q else K' (a.put o.dst undef) w) :
    wpAnyT P md ops Q S n L (f + 1) listed a w :=
  ⟨by rw [hr]; simp, fun j hj => by
    rw [hr] at hj
    simp at hj
    subst hj
    exact ⟨of_decide_eq_true hin, wpOp_step ho (fun K' hK => h K' (fun a w hS hW => hK a w ⟨hS, hW hS⟩))⟩⟩
theorem wp_region_held_tail {id : Nat} {a : Act} {w : World} {l : List Oper} (n : Nat) (S : World → Prop) (hm : P.follows .mixedOrders = true) (hst : statB .any l.toArray n = true) (hS : S w.drew)
    (h0 : S w.drew → wpAnyT P .any l.toArray Q S n (tailL P .any l.toArray Q n (l.drop n)) n (Array.replicate l.toArray.size false) a w.drew) : (Code.region id l.toArray true).wp P Q a w := by
  have h := h0 hS
  have hst' := hst
  simp only [statB, Bool.and_eq_true, decide_eq_true_eq] at hst'
  obtain ⟨⟨⟨h1, h2⟩, h3⟩, h4⟩ := hst'
  have hn' : n < l.length := by simpa using h2
  have hdl : (l.drop n).length = l.toArray.size - n := by simp
  refine wp_region_any hm ?_
  have := wpAny_of_T (g := l.toArray.size - n) (fun listed a' w' hL => by
    have := wpAny_of_seq (md := .any) (Q' := Q) (l.drop n) n listed a' w' (fun j => by simp [List.getElem?_drop]) hL.1 hL.2
    rwa [hdl] at this) _ _ _ _ h
  rw [show n + (l.toArray.size - n) = l.toArray.size by omega] at this
  exact this
end
end Go
