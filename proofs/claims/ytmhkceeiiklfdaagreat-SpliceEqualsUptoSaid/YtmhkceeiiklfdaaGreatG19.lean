/- A part of the proof of SpliceEqualsUptoSaid (texts: GrEq). No conditions. -/
import Derived.Test.YtmhkceeiiklfdaaGreatG16
import Derived.BigQuiet
import Derived.Deep.QuietTactic
set_option linter.unusedVariables false
set_option linter.unusedSimpArgs false
set_option linter.unusedVariables false
namespace Go.Proofs.YtmhkceeiiklfdaaGreat
open Go.RowKit
def IsProp (c : List T) : Prop := ∃ (x0 : Int) (x1 : Int), c = [.lf (.int x0), .lf (.int x1)]
theorem etaProp {c : List T} (h : IsProp c) : c = [.lf (.int (ci c 0)), .lf (.int (ci c 1))] := by obtain ⟨x0, x1, rfl⟩ := h; rfl
theorem rowProp {w : World} {d : Nat} {c : List T} {u : Nat → Value} (h : IsProp c) (hu : RowOk w d c u) : u 0 = .int .i64 (ci c 0) ∧ u 1 = .int .i64 (ci c 1) := by obtain ⟨x0, x1, rfl⟩ := h; exact ⟨(hu 0 _ rfl).lf, (hu 1 _ rfl).lf⟩
theorem lenProp {c : List T} (h : IsProp c) : c.length = 2 := by obtain ⟨x0, x1, rfl⟩ := h; rfl
theorem hld159 : Tryz.prog.stoodInHeld 159 = false := by kernel_rfl
theorem gd159 : Tryz.prog.eqGuardType Tryz.prog.depth 159 = false := by kernel_rfl
theorem neq159 (x0 y0 : Int) (x1 y1 : Int) (W : World) : (binOp .neq 159 (.agg #[.int .i64 x0, .int .i64 x1]) (.agg #[.int .i64 y0, .int .i64 y1])).run Tryz.prog W = .ok (.bool (!(x0 == y0 && x1 == y1))) W := by
  rw [run_neq_struct, run_equalIn_struct _ _ _ _ _ (struct_of Tryz.underlying159) hld159, fields_of Tryz.underlying159]
  simp [Tryz.underlying3, go_sem, Op.eqFields, bytes_eq]
  by_cases h0 : x0 = y0 <;> by_cases h1 : x1 = y1 <;> simp [h0, h1]
set_option maxHeartbeats 1000000 in
theorem eq84 : EqC 84 IsProp := by
  intro w d d' es fs v v' he hf pe pf
  obtain ⟨a, cap, rfl, hn, hcap, hcell⟩ := he.rows (sz := 2) (fun c hc => lenProp (pe c hc)) (by omega)
  obtain ⟨a', cap', rfl, hn', hcap', hcell'⟩ := hf.rows (sz := 2) (fun c hc => lenProp (pf c hc)) (by omega)
  clear he hf
  have g1 : es.length ≤ 9223372036854775807 := by omega
  have g2 : fs.length ≤ 9223372036854775807 := by omega
  by_cases hlen : es.length = fs.length
  case neg =>
    have hne : ¬ (es = fs) := fun e => hlen (by rw [e])
    have ht : ((es.length : Int) != (fs.length : Int)) = true := by simpa using (by omega : ¬ (es.length : Int) = (fs.length : Int))
    clear hcell hcell' pe pf
    go_enter Tryz.func84, Tryz.ntmps84
    go_wp2
    go_ret
    exact ⟨false, rfl, by simp [hne], Below.refl _ _⟩
  by_cases hz : es.length = 0
  · have e1 : es = [] := List.eq_nil_of_length_eq_zero hz
    have e2 : fs = [] := List.eq_nil_of_length_eq_zero (by omega)
    subst e1; subst e2
    clear hcell hcell' pe pf
    go_enter Tryz.func84, Tryz.ntmps84
    go_wp2
    go_loopw [13] (fun i wr => i = .int .i64 0 ∧ Below w.heap.size w wr) (fun i _ => 0)
    case atStart => exact ⟨rfl, Below.refl _ _⟩
    case round =>
      obtain ⟨rfl, hbl⟩ := hrel
      go_wp2
      go_ret
      exact ⟨true, rfl, by simp, hbl⟩
  obtain ⟨b, off, hb, rfl, U, hc, hr, -⟩ := hcell (by omega)
  obtain ⟨b', off', hb', rfl, U', hc', hr', -⟩ := hcell' (by omega)
  clear hcell hcell'
  have ht : ((es.length : Int) != (fs.length : Int)) = false := by simp; omega
  go_enter Tryz.func84, Tryz.ntmps84
  go_wp2
  go_loopw [13] (fun i wr => ∃ k : Nat, k ≤ es.length ∧ i = .int .i64 k ∧ es.take k = fs.take k ∧ Below w.heap.size w wr) (fun i _ => es.length - (intOf i).toNat)
  case atStart => exact ⟨0, by omega, rfl, by simp, Below.refl _ _⟩
  case round =>
    obtain ⟨k, hk, rfl, htk, hbl⟩ := hrel
    have h00 : k < es.length → wr.cell? ⟨b, off + k * 2, none⟩ = some (.int .i64 (ci (es.getD k []) 0)) := fun h => ((hbl.cell (by exact hb)).trans (hc k 0 (by omega) (by omega))).trans (congrArg some (rowProp (pe _ (getD_mem (by omega))) (hr k (by omega))).1)
    have h01 : k < es.length → wr.cell? ⟨b, off + k * 2 + 1, none⟩ = some (.int .i64 (ci (es.getD k []) 1)) := fun h => ((hbl.cell (by exact hb)).trans (hc k 1 (by omega) (by omega))).trans (congrArg some (rowProp (pe _ (getD_mem (by omega))) (hr k (by omega))).2)
    have h10 : k < es.length → wr.cell? ⟨b', off' + k * 2, none⟩ = some (.int .i64 (ci (fs.getD k []) 0)) := fun h => ((hbl.cell (by exact hb')).trans (hc' k 0 (by omega) (by omega))).trans (congrArg some (rowProp (pf _ (getD_mem (by omega))) (hr' k (by omega))).1)
    have h11 : k < es.length → wr.cell? ⟨b', off' + k * 2 + 1, none⟩ = some (.int .i64 (ci (fs.getD k []) 1)) := fun h => ((hbl.cell (by exact hb')).trans (hc' k 1 (by omega) (by omega))).trans (congrArg some (rowProp (pf _ (getD_mem (by omega))) (hr' k (by omega))).2)
    go_wp2
    · have hlt : k < fs.length := by assumption
      have h00 := h00 (by omega)
      have h01 := h01 (by omega)
      have h10 := h10 (by omega)
      have h11 := h11 (by omega)
      have hq := neq159
      have hgd : ∀ (x y : Operand) (xs ys : Array Value) (W : World), (eqGuard .neq 159 x y (.agg xs) (.agg ys)).run Tryz.prog W = .ok () W := fun x y xs ys W => run_eqGuard_agg W .neq 159 x y xs ys gd159
      go_quiet (fail)
      clear hq hgd
      by_cases hek : es.getD k [] = fs.getD k []
      · go_wp2
        · exfalso
          rename_i hd
          have hke : k < es.length := by omega
          simp [List.getD, hke, hlt] at hek
          simp [hek] at hd
        · go_roundw
          case rel => exact ⟨k + 1, by omega, by go_num, take_step (by omega) hlt htk hek, below_drewN hbl⟩
          case measure => simp [intOf]; omega
      · go_wp2
        · go_ret
          refine ⟨false, rfl, ?_, below_drewN hbl⟩
          simp only [Bool.false_eq_true, false_iff]
          intro e
          exact hek (by rw [e])
        · exfalso
          rename_i hd
          have hke : k < es.length := by omega
          apply hek
          rw [etaProp (pe (es.getD k []) (getD_mem hke)), etaProp (pf (fs.getD k []) (getD_mem hlt))]
          simp at hd
          simp [List.getD, hke, hlt, hd]
    · have hge : ¬ k < fs.length := by assumption
      go_ret
      refine ⟨true, rfl, ?_, hbl⟩
      simp only [true_iff]
      rw [List.take_of_length_le (by omega), List.take_of_length_le (by omega)] at htk
      exact htk
def IsDel (c : List T) : Prop := ∃ (x0 : Int) (x1 : Int), c = [.lf (.int x0), .lf (.int x1)]
theorem etaDel {c : List T} (h : IsDel c) : c = [.lf (.int (ci c 0)), .lf (.int (ci c 1))] := by obtain ⟨x0, x1, rfl⟩ := h; rfl
theorem rowDel {w : World} {d : Nat} {c : List T} {u : Nat → Value} (h : IsDel c) (hu : RowOk w d c u) : u 0 = .int .i64 (ci c 0) ∧ u 1 = .int .i64 (ci c 1) := by obtain ⟨x0, x1, rfl⟩ := h; exact ⟨(hu 0 _ rfl).lf, (hu 1 _ rfl).lf⟩
theorem lenDel {c : List T} (h : IsDel c) : c.length = 2 := by obtain ⟨x0, x1, rfl⟩ := h; rfl
theorem hld162 : Tryz.prog.stoodInHeld 162 = false := by kernel_rfl
theorem gd162 : Tryz.prog.eqGuardType Tryz.prog.depth 162 = false := by kernel_rfl
theorem neq162 (x0 y0 : Int) (x1 y1 : Int) (W : World) : (binOp .neq 162 (.agg #[.int .i64 x0, .int .i64 x1]) (.agg #[.int .i64 y0, .int .i64 y1])).run Tryz.prog W = .ok (.bool (!(x0 == y0 && x1 == y1))) W := by
  rw [run_neq_struct, run_equalIn_struct _ _ _ _ _ (struct_of Tryz.underlying162) hld162, fields_of Tryz.underlying162]
  simp [Tryz.underlying3, go_sem, Op.eqFields, bytes_eq]
  by_cases h0 : x0 = y0 <;> by_cases h1 : x1 = y1 <;> simp [h0, h1]
set_option maxHeartbeats 1000000 in
theorem eq85 : EqC 85 IsDel := by
  intro w d d' es fs v v' he hf pe pf
  obtain ⟨a, cap, rfl, hn, hcap, hcell⟩ := he.rows (sz := 2) (fun c hc => lenDel (pe c hc)) (by omega)
  obtain ⟨a', cap', rfl, hn', hcap', hcell'⟩ := hf.rows (sz := 2) (fun c hc => lenDel (pf c hc)) (by omega)
  clear he hf
  have g1 : es.length ≤ 9223372036854775807 := by omega
  have g2 : fs.length ≤ 9223372036854775807 := by omega
  by_cases hlen : es.length = fs.length
  case neg =>
    have hne : ¬ (es = fs) := fun e => hlen (by rw [e])
    have ht : ((es.length : Int) != (fs.length : Int)) = true := by simpa using (by omega : ¬ (es.length : Int) = (fs.length : Int))
    clear hcell hcell' pe pf
    go_enter Tryz.func85, Tryz.ntmps85
    go_wp2
    go_ret
    exact ⟨false, rfl, by simp [hne], Below.refl _ _⟩
  by_cases hz : es.length = 0
  · have e1 : es = [] := List.eq_nil_of_length_eq_zero hz
    have e2 : fs = [] := List.eq_nil_of_length_eq_zero (by omega)
    subst e1; subst e2
    clear hcell hcell' pe pf
    go_enter Tryz.func85, Tryz.ntmps85
    go_wp2
    go_loopw [13] (fun i wr => i = .int .i64 0 ∧ Below w.heap.size w wr) (fun i _ => 0)
    case atStart => exact ⟨rfl, Below.refl _ _⟩
    case round =>
      obtain ⟨rfl, hbl⟩ := hrel
      go_wp2
      go_ret
      exact ⟨true, rfl, by simp, hbl⟩
  obtain ⟨b, off, hb, rfl, U, hc, hr, -⟩ := hcell (by omega)
  obtain ⟨b', off', hb', rfl, U', hc', hr', -⟩ := hcell' (by omega)
  clear hcell hcell'
  have ht : ((es.length : Int) != (fs.length : Int)) = false := by simp; omega
  go_enter Tryz.func85, Tryz.ntmps85
  go_wp2
  go_loopw [13] (fun i wr => ∃ k : Nat, k ≤ es.length ∧ i = .int .i64 k ∧ es.take k = fs.take k ∧ Below w.heap.size w wr) (fun i _ => es.length - (intOf i).toNat)
  case atStart => exact ⟨0, by omega, rfl, by simp, Below.refl _ _⟩
  case round =>
    obtain ⟨k, hk, rfl, htk, hbl⟩ := hrel
    have h00 : k < es.length → wr.cell? ⟨b, off + k * 2, none⟩ = some (.int .i64 (ci (es.getD k []) 0)) := fun h => ((hbl.cell (by exact hb)).trans (hc k 0 (by omega) (by omega))).trans (congrArg some (rowDel (pe _ (getD_mem (by omega))) (hr k (by omega))).1)
    have h01 : k < es.length → wr.cell? ⟨b, off + k * 2 + 1, none⟩ = some (.int .i64 (ci (es.getD k []) 1)) := fun h => ((hbl.cell (by exact hb)).trans (hc k 1 (by omega) (by omega))).trans (congrArg some (rowDel (pe _ (getD_mem (by omega))) (hr k (by omega))).2)
    have h10 : k < es.length → wr.cell? ⟨b', off' + k * 2, none⟩ = some (.int .i64 (ci (fs.getD k []) 0)) := fun h => ((hbl.cell (by exact hb')).trans (hc' k 0 (by omega) (by omega))).trans (congrArg some (rowDel (pf _ (getD_mem (by omega))) (hr' k (by omega))).1)
    have h11 : k < es.length → wr.cell? ⟨b', off' + k * 2 + 1, none⟩ = some (.int .i64 (ci (fs.getD k []) 1)) := fun h => ((hbl.cell (by exact hb')).trans (hc' k 1 (by omega) (by omega))).trans (congrArg some (rowDel (pf _ (getD_mem (by omega))) (hr' k (by omega))).2)
    go_wp2
    · have hlt : k < fs.length := by assumption
      have h00 := h00 (by omega)
      have h01 := h01 (by omega)
      have h10 := h10 (by omega)
      have h11 := h11 (by omega)
      have hq := neq162
      have hgd : ∀ (x y : Operand) (xs ys : Array Value) (W : World), (eqGuard .neq 162 x y (.agg xs) (.agg ys)).run Tryz.prog W = .ok () W := fun x y xs ys W => run_eqGuard_agg W .neq 162 x y xs ys gd162
      go_quiet (fail)
      clear hq hgd
      by_cases hek : es.getD k [] = fs.getD k []
      · go_wp2
        · exfalso
          rename_i hd
          have hke : k < es.length := by omega
          simp [List.getD, hke, hlt] at hek
          simp [hek] at hd
        · go_roundw
          case rel => exact ⟨k + 1, by omega, by go_num, take_step (by omega) hlt htk hek, below_drewN hbl⟩
          case measure => simp [intOf]; omega
      · go_wp2
        · go_ret
          refine ⟨false, rfl, ?_, below_drewN hbl⟩
          simp only [Bool.false_eq_true, false_iff]
          intro e
          exact hek (by rw [e])
        · exfalso
          rename_i hd
          have hke : k < es.length := by omega
          apply hek
          rw [etaDel (pe (es.getD k []) (getD_mem hke)), etaDel (pf (fs.getD k []) (getD_mem hlt))]
          simp at hd
          simp [List.getD, hke, hlt, hd]
    · have hge : ¬ k < fs.length := by assumption
      go_ret
      refine ⟨true, rfl, ?_, hbl⟩
      simp only [true_iff]
      rw [List.take_of_length_le (by omega), List.take_of_length_le (by omega)] at htk
      exact htk
def IsLayer (c : List T) : Prop := ∃ (x0 : Int) (x1 : Int) (x2 : Int) (x3 : Bool), c = [.lf (.int x0), .lf (.int x1), .lf (.int x2), .lf (.bool x3)]
theorem etaLayer {c : List T} (h : IsLayer c) : c = [.lf (.int (ci c 0)), .lf (.int (ci c 1)), .lf (.int (ci c 2)), .lf (.bool (cb c 3))] := by obtain ⟨x0, x1, x2, x3, rfl⟩ := h; rfl
theorem rowLayer {w : World} {d : Nat} {c : List T} {u : Nat → Value} (h : IsLayer c) (hu : RowOk w d c u) : u 0 = .int .i64 (ci c 0) ∧ u 1 = .int .i64 (ci c 1) ∧ u 2 = .int .i64 (ci c 2) ∧ u 3 = .bool (cb c 3) := by obtain ⟨x0, x1, x2, x3, rfl⟩ := h; exact ⟨(hu 0 _ rfl).lf, (hu 1 _ rfl).lf, (hu 2 _ rfl).lf, (hu 3 _ rfl).lf⟩
theorem lenLayer {c : List T} (h : IsLayer c) : c.length = 4 := by obtain ⟨x0, x1, x2, x3, rfl⟩ := h; rfl
theorem hld165 : Tryz.prog.stoodInHeld 165 = false := by kernel_rfl
theorem gd165 : Tryz.prog.eqGuardType Tryz.prog.depth 165 = false := by kernel_rfl
theorem neq165 (x0 y0 : Int) (x1 y1 : Int) (x2 y2 : Int) (x3 y3 : Bool) (W : World) : (binOp .neq 165 (.agg #[.int .i64 x0, .int .i64 x1, .int .i64 x2, .bool x3]) (.agg #[.int .i64 y0, .int .i64 y1, .int .i64 y2, .bool y3])).run Tryz.prog W = .ok (.bool (!(x0 == y0 && x1 == y1 && x2 == y2 && x3 == y3))) W := by
  rw [run_neq_struct, run_equalIn_struct _ _ _ _ _ (struct_of Tryz.underlying165) hld165, fields_of Tryz.underlying165]
  simp [Tryz.underlying4, Tryz.underlying3, go_sem, Op.eqFields, bytes_eq]
  by_cases h0 : x0 = y0 <;> by_cases h1 : x1 = y1 <;> by_cases h2 : x2 = y2 <;> by_cases h3 : x3 = y3 <;> simp [h0, h1, h2, h3]
set_option maxHeartbeats 1000000 in
theorem eq86 : EqC 86 IsLayer := by
  intro w d d' es fs v v' he hf pe pf
  obtain ⟨a, cap, rfl, hn, hcap, hcell⟩ := he.rows (sz := 4) (fun c hc => lenLayer (pe c hc)) (by omega)
  obtain ⟨a', cap', rfl, hn', hcap', hcell'⟩ := hf.rows (sz := 4) (fun c hc => lenLayer (pf c hc)) (by omega)
  clear he hf
  have g1 : es.length ≤ 9223372036854775807 := by omega
  have g2 : fs.length ≤ 9223372036854775807 := by omega
  by_cases hlen : es.length = fs.length
  case neg =>
    have hne : ¬ (es = fs) := fun e => hlen (by rw [e])
    have ht : ((es.length : Int) != (fs.length : Int)) = true := by simpa using (by omega : ¬ (es.length : Int) = (fs.length : Int))
    clear hcell hcell' pe pf
    go_enter Tryz.func86, Tryz.ntmps86
    go_wp2
    go_ret
    exact ⟨false, rfl, by simp [hne], Below.refl _ _⟩
  by_cases hz : es.length = 0
  · have e1 : es = [] := List.eq_nil_of_length_eq_zero hz
    have e2 : fs = [] := List.eq_nil_of_length_eq_zero (by omega)
    subst e1; subst e2
    clear hcell hcell' pe pf
    go_enter Tryz.func86, Tryz.ntmps86
    go_wp2
    go_loopw [13] (fun i wr => i = .int .i64 0 ∧ Below w.heap.size w wr) (fun i _ => 0)
    case atStart => exact ⟨rfl, Below.refl _ _⟩
    case round =>
      obtain ⟨rfl, hbl⟩ := hrel
      go_wp2
      go_ret
      exact ⟨true, rfl, by simp, hbl⟩
  obtain ⟨b, off, hb, rfl, U, hc, hr, -⟩ := hcell (by omega)
  obtain ⟨b', off', hb', rfl, U', hc', hr', -⟩ := hcell' (by omega)
  clear hcell hcell'
  have ht : ((es.length : Int) != (fs.length : Int)) = false := by simp; omega
  go_enter Tryz.func86, Tryz.ntmps86
  go_wp2
  go_loopw [13] (fun i wr => ∃ k : Nat, k ≤ es.length ∧ i = .int .i64 k ∧ es.take k = fs.take k ∧ Below w.heap.size w wr) (fun i _ => es.length - (intOf i).toNat)
  case atStart => exact ⟨0, by omega, rfl, by simp, Below.refl _ _⟩
  case round =>
    obtain ⟨k, hk, rfl, htk, hbl⟩ := hrel
    have h00 : k < es.length → wr.cell? ⟨b, off + k * 4, none⟩ = some (.int .i64 (ci (es.getD k []) 0)) := fun h => ((hbl.cell (by exact hb)).trans (hc k 0 (by omega) (by omega))).trans (congrArg some (rowLayer (pe _ (getD_mem (by omega))) (hr k (by omega))).1)
    have h01 : k < es.length → wr.cell? ⟨b, off + k * 4 + 1, none⟩ = some (.int .i64 (ci (es.getD k []) 1)) := fun h => ((hbl.cell (by exact hb)).trans (hc k 1 (by omega) (by omega))).trans (congrArg some (rowLayer (pe _ (getD_mem (by omega))) (hr k (by omega))).2.1)
    have h02 : k < es.length → wr.cell? ⟨b, off + k * 4 + 2, none⟩ = some (.int .i64 (ci (es.getD k []) 2)) := fun h => ((hbl.cell (by exact hb)).trans (hc k 2 (by omega) (by omega))).trans (congrArg some (rowLayer (pe _ (getD_mem (by omega))) (hr k (by omega))).2.2.1)
    have h03 : k < es.length → wr.cell? ⟨b, off + k * 4 + 3, none⟩ = some (.bool (cb (es.getD k []) 3)) := fun h => ((hbl.cell (by exact hb)).trans (hc k 3 (by omega) (by omega))).trans (congrArg some (rowLayer (pe _ (getD_mem (by omega))) (hr k (by omega))).2.2.2)
    have h10 : k < es.length → wr.cell? ⟨b', off' + k * 4, none⟩ = some (.int .i64 (ci (fs.getD k []) 0)) := fun h => ((hbl.cell (by exact hb')).trans (hc' k 0 (by omega) (by omega))).trans (congrArg some (rowLayer (pf _ (getD_mem (by omega))) (hr' k (by omega))).1)
    have h11 : k < es.length → wr.cell? ⟨b', off' + k * 4 + 1, none⟩ = some (.int .i64 (ci (fs.getD k []) 1)) := fun h => ((hbl.cell (by exact hb')).trans (hc' k 1 (by omega) (by omega))).trans (congrArg some (rowLayer (pf _ (getD_mem (by omega))) (hr' k (by omega))).2.1)
    have h12 : k < es.length → wr.cell? ⟨b', off' + k * 4 + 2, none⟩ = some (.int .i64 (ci (fs.getD k []) 2)) := fun h => ((hbl.cell (by exact hb')).trans (hc' k 2 (by omega) (by omega))).trans (congrArg some (rowLayer (pf _ (getD_mem (by omega))) (hr' k (by omega))).2.2.1)
    have h13 : k < es.length → wr.cell? ⟨b', off' + k * 4 + 3, none⟩ = some (.bool (cb (fs.getD k []) 3)) := fun h => ((hbl.cell (by exact hb')).trans (hc' k 3 (by omega) (by omega))).trans (congrArg some (rowLayer (pf _ (getD_mem (by omega))) (hr' k (by omega))).2.2.2)
    go_wp2
    · have hlt : k < fs.length := by assumption
      have h00 := h00 (by omega)
      have h01 := h01 (by omega)
      have h02 := h02 (by omega)
      have h03 := h03 (by omega)
      have h10 := h10 (by omega)
      have h11 := h11 (by omega)
      have h12 := h12 (by omega)
      have h13 := h13 (by omega)
      have hq := neq165
      have hgd : ∀ (x y : Operand) (xs ys : Array Value) (W : World), (eqGuard .neq 165 x y (.agg xs) (.agg ys)).run Tryz.prog W = .ok () W := fun x y xs ys W => run_eqGuard_agg W .neq 165 x y xs ys gd165
      go_quiet (fail)
      clear hq hgd
      by_cases hek : es.getD k [] = fs.getD k []
      · go_wp2
        · exfalso
          rename_i hd
          have hke : k < es.length := by omega
          simp [List.getD, hke, hlt] at hek
          simp [hek] at hd
        · go_roundw
          case rel => exact ⟨k + 1, by omega, by go_num, take_step (by omega) hlt htk hek, below_drewN hbl⟩
          case measure => simp [intOf]; omega
      · go_wp2
        · go_ret
          refine ⟨false, rfl, ?_, below_drewN hbl⟩
          simp only [Bool.false_eq_true, false_iff]
          intro e
          exact hek (by rw [e])
        · exfalso
          rename_i hd
          have hke : k < es.length := by omega
          apply hek
          rw [etaLayer (pe (es.getD k []) (getD_mem hke)), etaLayer (pf (fs.getD k []) (getD_mem hlt))]
          simp at hd
          simp [List.getD, hke, hlt, hd]
    · have hge : ¬ k < fs.length := by assumption
      go_ret
      refine ⟨true, rfl, ?_, hbl⟩
      simp only [true_iff]
      rw [List.take_of_length_le (by omega), List.take_of_length_le (by omega)] at htk
      exact htk
def IsRev (c : List T) : Prop := ∃ (x0 : Int) (x1 : ByteArray) (x2 : Int), c = [.lf (.int x0), .lf (.str x1), .lf (.int x2)]
theorem etaRev {c : List T} (h : IsRev c) : c = [.lf (.int (ci c 0)), .lf (.str (cs c 1)), .lf (.int (ci c 2))] := by obtain ⟨x0, x1, x2, rfl⟩ := h; rfl
theorem rowRev {w : World} {d : Nat} {c : List T} {u : Nat → Value} (h : IsRev c) (hu : RowOk w d c u) : u 0 = .int .i64 (ci c 0) ∧ u 1 = .string (cs c 1) ∧ u 2 = .int .i64 (ci c 2) := by obtain ⟨x0, x1, x2, rfl⟩ := h; exact ⟨(hu 0 _ rfl).lf, (hu 1 _ rfl).lf, (hu 2 _ rfl).lf⟩
theorem lenRev {c : List T} (h : IsRev c) : c.length = 3 := by obtain ⟨x0, x1, x2, rfl⟩ := h; rfl
theorem hld76 : Tryz.prog.stoodInHeld 76 = false := by kernel_rfl
theorem gd76 : Tryz.prog.eqGuardType Tryz.prog.depth 76 = false := by kernel_rfl
theorem neq76 (x0 y0 : Int) (x1 y1 : ByteArray) (x2 y2 : Int) (W : World) : (binOp .neq 76 (.agg #[.int .i64 x0, .string x1, .int .i64 x2]) (.agg #[.int .i64 y0, .string y1, .int .i64 y2])).run Tryz.prog W = .ok (.bool (!(x0 == y0 && decide (x1 = y1) && x2 == y2))) W := by
  rw [run_neq_struct, run_equalIn_struct _ _ _ _ _ (struct_of Tryz.underlying76) hld76, fields_of Tryz.underlying76]
  simp [Tryz.underlying3, Tryz.underlying9, go_sem, Op.eqFields, bytes_eq]
  by_cases h0 : x0 = y0 <;> by_cases h1 : x1 = y1 <;> by_cases h2 : x2 = y2 <;> simp [h0, h1, h2]
set_option maxHeartbeats 1000000 in
theorem eq40 : EqC 40 IsRev := by
  intro w d d' es fs v v' he hf pe pf
  obtain ⟨a, cap, rfl, hn, hcap, hcell⟩ := he.rows (sz := 3) (fun c hc => lenRev (pe c hc)) (by omega)
  obtain ⟨a', cap', rfl, hn', hcap', hcell'⟩ := hf.rows (sz := 3) (fun c hc => lenRev (pf c hc)) (by omega)
  clear he hf
  have g1 : es.length ≤ 9223372036854775807 := by omega
  have g2 : fs.length ≤ 9223372036854775807 := by omega
  by_cases hlen : es.length = fs.length
  case neg =>
    have hne : ¬ (es = fs) := fun e => hlen (by rw [e])
    have ht : ((es.length : Int) != (fs.length : Int)) = true := by simpa using (by omega : ¬ (es.length : Int) = (fs.length : Int))
    clear hcell hcell' pe pf
    go_enter Tryz.func40, Tryz.ntmps40
    go_wp2
    go_ret
    exact ⟨false, rfl, by simp [hne], Below.refl _ _⟩
  by_cases hz : es.length = 0
  · have e1 : es = [] := List.eq_nil_of_length_eq_zero hz
    have e2 : fs = [] := List.eq_nil_of_length_eq_zero (by omega)
    subst e1; subst e2
    clear hcell hcell' pe pf
    go_enter Tryz.func40, Tryz.ntmps40
    go_wp2
    go_loopw [13] (fun i wr => i = .int .i64 0 ∧ Below w.heap.size w wr) (fun i _ => 0)
    case atStart => exact ⟨rfl, Below.refl _ _⟩
    case round =>
      obtain ⟨rfl, hbl⟩ := hrel
      go_wp2
      go_ret
      exact ⟨true, rfl, by simp, hbl⟩
  obtain ⟨b, off, hb, rfl, U, hc, hr, -⟩ := hcell (by omega)
  obtain ⟨b', off', hb', rfl, U', hc', hr', -⟩ := hcell' (by omega)
  clear hcell hcell'
  have ht : ((es.length : Int) != (fs.length : Int)) = false := by simp; omega
  go_enter Tryz.func40, Tryz.ntmps40
  go_wp2
  go_loopw [13] (fun i wr => ∃ k : Nat, k ≤ es.length ∧ i = .int .i64 k ∧ es.take k = fs.take k ∧ Below w.heap.size w wr) (fun i _ => es.length - (intOf i).toNat)
  case atStart => exact ⟨0, by omega, rfl, by simp, Below.refl _ _⟩
  case round =>
    obtain ⟨k, hk, rfl, htk, hbl⟩ := hrel
    have h00 : k < es.length → wr.cell? ⟨b, off + k * 3, none⟩ = some (.int .i64 (ci (es.getD k []) 0)) := fun h => ((hbl.cell (by exact hb)).trans (hc k 0 (by omega) (by omega))).trans (congrArg some (rowRev (pe _ (getD_mem (by omega))) (hr k (by omega))).1)
    have h01 : k < es.length → wr.cell? ⟨b, off + k * 3 + 1, none⟩ = some (.string (cs (es.getD k []) 1)) := fun h => ((hbl.cell (by exact hb)).trans (hc k 1 (by omega) (by omega))).trans (congrArg some (rowRev (pe _ (getD_mem (by omega))) (hr k (by omega))).2.1)
    have h02 : k < es.length → wr.cell? ⟨b, off + k * 3 + 2, none⟩ = some (.int .i64 (ci (es.getD k []) 2)) := fun h => ((hbl.cell (by exact hb)).trans (hc k 2 (by omega) (by omega))).trans (congrArg some (rowRev (pe _ (getD_mem (by omega))) (hr k (by omega))).2.2)
    have h10 : k < es.length → wr.cell? ⟨b', off' + k * 3, none⟩ = some (.int .i64 (ci (fs.getD k []) 0)) := fun h => ((hbl.cell (by exact hb')).trans (hc' k 0 (by omega) (by omega))).trans (congrArg some (rowRev (pf _ (getD_mem (by omega))) (hr' k (by omega))).1)
    have h11 : k < es.length → wr.cell? ⟨b', off' + k * 3 + 1, none⟩ = some (.string (cs (fs.getD k []) 1)) := fun h => ((hbl.cell (by exact hb')).trans (hc' k 1 (by omega) (by omega))).trans (congrArg some (rowRev (pf _ (getD_mem (by omega))) (hr' k (by omega))).2.1)
    have h12 : k < es.length → wr.cell? ⟨b', off' + k * 3 + 2, none⟩ = some (.int .i64 (ci (fs.getD k []) 2)) := fun h => ((hbl.cell (by exact hb')).trans (hc' k 2 (by omega) (by omega))).trans (congrArg some (rowRev (pf _ (getD_mem (by omega))) (hr' k (by omega))).2.2)
    go_wp2
    · have hlt : k < fs.length := by assumption
      have h00 := h00 (by omega)
      have h01 := h01 (by omega)
      have h02 := h02 (by omega)
      have h10 := h10 (by omega)
      have h11 := h11 (by omega)
      have h12 := h12 (by omega)
      have hq := neq76
      have hgd : ∀ (x y : Operand) (xs ys : Array Value) (W : World), (eqGuard .neq 76 x y (.agg xs) (.agg ys)).run Tryz.prog W = .ok () W := fun x y xs ys W => run_eqGuard_agg W .neq 76 x y xs ys gd76
      go_quiet (fail)
      clear hq hgd
      by_cases hek : es.getD k [] = fs.getD k []
      · go_wp2
        · exfalso
          rename_i hd
          have hke : k < es.length := by omega
          simp [List.getD, hke, hlt] at hek
          simp [hek] at hd
        · go_roundw
          case rel => exact ⟨k + 1, by omega, by go_num, take_step (by omega) hlt htk hek, below_drewN hbl⟩
          case measure => simp [intOf]; omega
      · go_wp2
        · go_ret
          refine ⟨false, rfl, ?_, below_drewN hbl⟩
          simp only [Bool.false_eq_true, false_iff]
          intro e
          exact hek (by rw [e])
        · exfalso
          rename_i hd
          have hke : k < es.length := by omega
          apply hek
          rw [etaRev (pe (es.getD k []) (getD_mem hke)), etaRev (pf (fs.getD k []) (getD_mem hlt))]
          simp at hd
          simp [List.getD, hke, hlt, hd]
    · have hge : ¬ k < fs.length := by assumption
      go_ret
      refine ⟨true, rfl, ?_, hbl⟩
      simp only [true_iff]
      rw [List.take_of_length_le (by omega), List.take_of_length_le (by omega)] at htk
      exact htk
def IsComment (c : List T) : Prop := ∃ (x0 : Int) (x1 : Int) (x2 : ByteArray) (x3 : Int) (x4 : ByteArray) (x5 : Bool), c = [.lf (.int x0), .lf (.int x1), .lf (.str x2), .lf (.int x3), .lf (.str x4), .lf (.bool x5)]
theorem etaComment {c : List T} (h : IsComment c) : c = [.lf (.int (ci c 0)), .lf (.int (ci c 1)), .lf (.str (cs c 2)), .lf (.int (ci c 3)), .lf (.str (cs c 4)), .lf (.bool (cb c 5))] := by obtain ⟨x0, x1, x2, x3, x4, x5, rfl⟩ := h; rfl
theorem rowComment {w : World} {d : Nat} {c : List T} {u : Nat → Value} (h : IsComment c) (hu : RowOk w d c u) : u 0 = .int .i64 (ci c 0) ∧ u 1 = .int .i64 (ci c 1) ∧ u 2 = .string (cs c 2) ∧ u 3 = .int .i64 (ci c 3) ∧ u 4 = .string (cs c 4) ∧ u 5 = .bool (cb c 5) := by obtain ⟨x0, x1, x2, x3, x4, x5, rfl⟩ := h; exact ⟨(hu 0 _ rfl).lf, (hu 1 _ rfl).lf, (hu 2 _ rfl).lf, (hu 3 _ rfl).lf, (hu 4 _ rfl).lf, (hu 5 _ rfl).lf⟩
theorem lenComment {c : List T} (h : IsComment c) : c.length = 6 := by obtain ⟨x0, x1, x2, x3, x4, x5, rfl⟩ := h; rfl
theorem hld103 : Tryz.prog.stoodInHeld 103 = false := by kernel_rfl
theorem gd103 : Tryz.prog.eqGuardType Tryz.prog.depth 103 = false := by kernel_rfl
theorem neq103 (x0 y0 : Int) (x1 y1 : Int) (x2 y2 : ByteArray) (x3 y3 : Int) (x4 y4 : ByteArray) (x5 y5 : Bool) (W : World) : (binOp .neq 103 (.agg #[.int .i64 x0, .int .i64 x1, .string x2, .int .i64 x3, .string x4, .bool x5]) (.agg #[.int .i64 y0, .int .i64 y1, .string y2, .int .i64 y3, .string y4, .bool y5])).run Tryz.prog W = .ok (.bool (!(x0 == y0 && x1 == y1 && decide (x2 = y2) && x3 == y3 && decide (x4 = y4) && x5 == y5))) W := by
  rw [run_neq_struct, run_equalIn_struct _ _ _ _ _ (struct_of Tryz.underlying103) hld103, fields_of Tryz.underlying103]
  simp [Tryz.underlying4, Tryz.underlying3, Tryz.underlying9, go_sem, Op.eqFields, bytes_eq]
  by_cases h0 : x0 = y0 <;> by_cases h1 : x1 = y1 <;> by_cases h2 : x2 = y2 <;> by_cases h3 : x3 = y3 <;> by_cases h4 : x4 = y4 <;> by_cases h5 : x5 = y5 <;> simp [h0, h1, h2, h3, h4, h5]
set_option maxHeartbeats 1000000 in
theorem eq43 : EqC 43 IsComment := by
  intro w d d' es fs v v' he hf pe pf
  obtain ⟨a, cap, rfl, hn, hcap, hcell⟩ := he.rows (sz := 6) (fun c hc => lenComment (pe c hc)) (by omega)
  obtain ⟨a', cap', rfl, hn', hcap', hcell'⟩ := hf.rows (sz := 6) (fun c hc => lenComment (pf c hc)) (by omega)
  clear he hf
  have g1 : es.length ≤ 9223372036854775807 := by omega
  have g2 : fs.length ≤ 9223372036854775807 := by omega
  by_cases hlen : es.length = fs.length
  case neg =>
    have hne : ¬ (es = fs) := fun e => hlen (by rw [e])
    have ht : ((es.length : Int) != (fs.length : Int)) = true := by simpa using (by omega : ¬ (es.length : Int) = (fs.length : Int))
    clear hcell hcell' pe pf
    go_enter Tryz.func43, Tryz.ntmps43
    go_wp2
    go_ret
    exact ⟨false, rfl, by simp [hne], Below.refl _ _⟩
  by_cases hz : es.length = 0
  · have e1 : es = [] := List.eq_nil_of_length_eq_zero hz
    have e2 : fs = [] := List.eq_nil_of_length_eq_zero (by omega)
    subst e1; subst e2
    clear hcell hcell' pe pf
    go_enter Tryz.func43, Tryz.ntmps43
    go_wp2
    go_loopw [13] (fun i wr => i = .int .i64 0 ∧ Below w.heap.size w wr) (fun i _ => 0)
    case atStart => exact ⟨rfl, Below.refl _ _⟩
    case round =>
      obtain ⟨rfl, hbl⟩ := hrel
      go_wp2
      go_ret
      exact ⟨true, rfl, by simp, hbl⟩
  obtain ⟨b, off, hb, rfl, U, hc, hr, -⟩ := hcell (by omega)
  obtain ⟨b', off', hb', rfl, U', hc', hr', -⟩ := hcell' (by omega)
  clear hcell hcell'
  have ht : ((es.length : Int) != (fs.length : Int)) = false := by simp; omega
  go_enter Tryz.func43, Tryz.ntmps43
  go_wp2
  go_loopw [13] (fun i wr => ∃ k : Nat, k ≤ es.length ∧ i = .int .i64 k ∧ es.take k = fs.take k ∧ Below w.heap.size w wr) (fun i _ => es.length - (intOf i).toNat)
  case atStart => exact ⟨0, by omega, rfl, by simp, Below.refl _ _⟩
  case round =>
    obtain ⟨k, hk, rfl, htk, hbl⟩ := hrel
    have h00 : k < es.length → wr.cell? ⟨b, off + k * 6, none⟩ = some (.int .i64 (ci (es.getD k []) 0)) := fun h => ((hbl.cell (by exact hb)).trans (hc k 0 (by omega) (by omega))).trans (congrArg some (rowComment (pe _ (getD_mem (by omega))) (hr k (by omega))).1)
    have h01 : k < es.length → wr.cell? ⟨b, off + k * 6 + 1, none⟩ = some (.int .i64 (ci (es.getD k []) 1)) := fun h => ((hbl.cell (by exact hb)).trans (hc k 1 (by omega) (by omega))).trans (congrArg some (rowComment (pe _ (getD_mem (by omega))) (hr k (by omega))).2.1)
    have h02 : k < es.length → wr.cell? ⟨b, off + k * 6 + 2, none⟩ = some (.string (cs (es.getD k []) 2)) := fun h => ((hbl.cell (by exact hb)).trans (hc k 2 (by omega) (by omega))).trans (congrArg some (rowComment (pe _ (getD_mem (by omega))) (hr k (by omega))).2.2.1)
    have h03 : k < es.length → wr.cell? ⟨b, off + k * 6 + 3, none⟩ = some (.int .i64 (ci (es.getD k []) 3)) := fun h => ((hbl.cell (by exact hb)).trans (hc k 3 (by omega) (by omega))).trans (congrArg some (rowComment (pe _ (getD_mem (by omega))) (hr k (by omega))).2.2.2.1)
    have h04 : k < es.length → wr.cell? ⟨b, off + k * 6 + 4, none⟩ = some (.string (cs (es.getD k []) 4)) := fun h => ((hbl.cell (by exact hb)).trans (hc k 4 (by omega) (by omega))).trans (congrArg some (rowComment (pe _ (getD_mem (by omega))) (hr k (by omega))).2.2.2.2.1)
    have h05 : k < es.length → wr.cell? ⟨b, off + k * 6 + 5, none⟩ = some (.bool (cb (es.getD k []) 5)) := fun h => ((hbl.cell (by exact hb)).trans (hc k 5 (by omega) (by omega))).trans (congrArg some (rowComment (pe _ (getD_mem (by omega))) (hr k (by omega))).2.2.2.2.2)
    have h10 : k < es.length → wr.cell? ⟨b', off' + k * 6, none⟩ = some (.int .i64 (ci (fs.getD k []) 0)) := fun h => ((hbl.cell (by exact hb')).trans (hc' k 0 (by omega) (by omega))).trans (congrArg some (rowComment (pf _ (getD_mem (by omega))) (hr' k (by omega))).1)
    have h11 : k < es.length → wr.cell? ⟨b', off' + k * 6 + 1, none⟩ = some (.int .i64 (ci (fs.getD k []) 1)) := fun h => ((hbl.cell (by exact hb')).trans (hc' k 1 (by omega) (by omega))).trans (congrArg some (rowComment (pf _ (getD_mem (by omega))) (hr' k (by omega))).2.1)
    have h12 : k < es.length → wr.cell? ⟨b', off' + k * 6 + 2, none⟩ = some (.string (cs (fs.getD k []) 2)) := fun h => ((hbl.cell (by exact hb')).trans (hc' k 2 (by omega) (by omega))).trans (congrArg some (rowComment (pf _ (getD_mem (by omega))) (hr' k (by omega))).2.2.1)
    have h13 : k < es.length → wr.cell? ⟨b', off' + k * 6 + 3, none⟩ = some (.int .i64 (ci (fs.getD k []) 3)) := fun h => ((hbl.cell (by exact hb')).trans (hc' k 3 (by omega) (by omega))).trans (congrArg some (rowComment (pf _ (getD_mem (by omega))) (hr' k (by omega))).2.2.2.1)
    have h14 : k < es.length → wr.cell? ⟨b', off' + k * 6 + 4, none⟩ = some (.string (cs (fs.getD k []) 4)) := fun h => ((hbl.cell (by exact hb')).trans (hc' k 4 (by omega) (by omega))).trans (congrArg some (rowComment (pf _ (getD_mem (by omega))) (hr' k (by omega))).2.2.2.2.1)
    have h15 : k < es.length → wr.cell? ⟨b', off' + k * 6 + 5, none⟩ = some (.bool (cb (fs.getD k []) 5)) := fun h => ((hbl.cell (by exact hb')).trans (hc' k 5 (by omega) (by omega))).trans (congrArg some (rowComment (pf _ (getD_mem (by omega))) (hr' k (by omega))).2.2.2.2.2)
    go_wp2
    · have hlt : k < fs.length := by assumption
      have h00 := h00 (by omega)
      have h01 := h01 (by omega)
      have h02 := h02 (by omega)
      have h03 := h03 (by omega)
      have h04 := h04 (by omega)
      have h05 := h05 (by omega)
      have h10 := h10 (by omega)
      have h11 := h11 (by omega)
      have h12 := h12 (by omega)
      have h13 := h13 (by omega)
      have h14 := h14 (by omega)
      have h15 := h15 (by omega)
      have hq := neq103
      have hgd : ∀ (x y : Operand) (xs ys : Array Value) (W : World), (eqGuard .neq 103 x y (.agg xs) (.agg ys)).run Tryz.prog W = .ok () W := fun x y xs ys W => run_eqGuard_agg W .neq 103 x y xs ys gd103
      go_quiet (fail)
      clear hq hgd
      by_cases hek : es.getD k [] = fs.getD k []
      · go_wp2
        · exfalso
          rename_i hd
          have hke : k < es.length := by omega
          simp [List.getD, hke, hlt] at hek
          simp [hek] at hd
        · go_roundw
          case rel => exact ⟨k + 1, by omega, by go_num, take_step (by omega) hlt htk hek, below_drewN hbl⟩
          case measure => simp [intOf]; omega
      · go_wp2
        · go_ret
          refine ⟨false, rfl, ?_, below_drewN hbl⟩
          simp only [Bool.false_eq_true, false_iff]
          intro e
          exact hek (by rw [e])
        · exfalso
          rename_i hd
          have hke : k < es.length := by omega
          apply hek
          rw [etaComment (pe (es.getD k []) (getD_mem hke)), etaComment (pf (fs.getD k []) (getD_mem hlt))]
          simp at hd
          simp [List.getD, hke, hlt, hd]
    · have hge : ¬ k < fs.length := by assumption
      go_ret
      refine ⟨true, rfl, ?_, hbl⟩
      simp only [true_iff]
      rw [List.take_of_length_le (by omega), List.take_of_length_le (by omega)] at htk
      exact htk
def IsVar (c : List T) : Prop := ∃ (x0 : ByteArray) (x1 : ByteArray), c = [.lf (.str x0), .lf (.str x1)]
theorem etaVar {c : List T} (h : IsVar c) : c = [.lf (.str (cs c 0)), .lf (.str (cs c 1))] := by obtain ⟨x0, x1, rfl⟩ := h; rfl
theorem rowVar {w : World} {d : Nat} {c : List T} {u : Nat → Value} (h : IsVar c) (hu : RowOk w d c u) : u 0 = .string (cs c 0) ∧ u 1 = .string (cs c 1) := by obtain ⟨x0, x1, rfl⟩ := h; exact ⟨(hu 0 _ rfl).lf, (hu 1 _ rfl).lf⟩
theorem lenVar {c : List T} (h : IsVar c) : c.length = 2 := by obtain ⟨x0, x1, rfl⟩ := h; rfl
theorem hld106 : Tryz.prog.stoodInHeld 106 = false := by kernel_rfl
theorem gd106 : Tryz.prog.eqGuardType Tryz.prog.depth 106 = false := by kernel_rfl
theorem neq106 (x0 y0 : ByteArray) (x1 y1 : ByteArray) (W : World) : (binOp .neq 106 (.agg #[.string x0, .string x1]) (.agg #[.string y0, .string y1])).run Tryz.prog W = .ok (.bool (!(decide (x0 = y0) && decide (x1 = y1)))) W := by
  rw [run_neq_struct, run_equalIn_struct _ _ _ _ _ (struct_of Tryz.underlying106) hld106, fields_of Tryz.underlying106]
  simp [Tryz.underlying9, go_sem, Op.eqFields, bytes_eq]
  by_cases h0 : x0 = y0 <;> by_cases h1 : x1 = y1 <;> simp [h0, h1]
set_option maxHeartbeats 1000000 in
theorem eq44 : EqC 44 IsVar := by
  intro w d d' es fs v v' he hf pe pf
  obtain ⟨a, cap, rfl, hn, hcap, hcell⟩ := he.rows (sz := 2) (fun c hc => lenVar (pe c hc)) (by omega)
  obtain ⟨a', cap', rfl, hn', hcap', hcell'⟩ := hf.rows (sz := 2) (fun c hc => lenVar (pf c hc)) (by omega)
  clear he hf
  have g1 : es.length ≤ 9223372036854775807 := by omega
  have g2 : fs.length ≤ 9223372036854775807 := by omega
  by_cases hlen : es.length = fs.length
  case neg =>
    have hne : ¬ (es = fs) := fun e => hlen (by rw [e])
    have ht : ((es.length : Int) != (fs.length : Int)) = true := by simpa using (by omega : ¬ (es.length : Int) = (fs.length : Int))
    clear hcell hcell' pe pf
    go_enter Tryz.func44, Tryz.ntmps44
    go_wp2
    go_ret
    exact ⟨false, rfl, by simp [hne], Below.refl _ _⟩
  by_cases hz : es.length = 0
  · have e1 : es = [] := List.eq_nil_of_length_eq_zero hz
    have e2 : fs = [] := List.eq_nil_of_length_eq_zero (by omega)
    subst e1; subst e2
    clear hcell hcell' pe pf
    go_enter Tryz.func44, Tryz.ntmps44
    go_wp2
    go_loopw [13] (fun i wr => i = .int .i64 0 ∧ Below w.heap.size w wr) (fun i _ => 0)
    case atStart => exact ⟨rfl, Below.refl _ _⟩
    case round =>
      obtain ⟨rfl, hbl⟩ := hrel
      go_wp2
      go_ret
      exact ⟨true, rfl, by simp, hbl⟩
  obtain ⟨b, off, hb, rfl, U, hc, hr, -⟩ := hcell (by omega)
  obtain ⟨b', off', hb', rfl, U', hc', hr', -⟩ := hcell' (by omega)
  clear hcell hcell'
  have ht : ((es.length : Int) != (fs.length : Int)) = false := by simp; omega
  go_enter Tryz.func44, Tryz.ntmps44
  go_wp2
  go_loopw [13] (fun i wr => ∃ k : Nat, k ≤ es.length ∧ i = .int .i64 k ∧ es.take k = fs.take k ∧ Below w.heap.size w wr) (fun i _ => es.length - (intOf i).toNat)
  case atStart => exact ⟨0, by omega, rfl, by simp, Below.refl _ _⟩
  case round =>
    obtain ⟨k, hk, rfl, htk, hbl⟩ := hrel
    have h00 : k < es.length → wr.cell? ⟨b, off + k * 2, none⟩ = some (.string (cs (es.getD k []) 0)) := fun h => ((hbl.cell (by exact hb)).trans (hc k 0 (by omega) (by omega))).trans (congrArg some (rowVar (pe _ (getD_mem (by omega))) (hr k (by omega))).1)
    have h01 : k < es.length → wr.cell? ⟨b, off + k * 2 + 1, none⟩ = some (.string (cs (es.getD k []) 1)) := fun h => ((hbl.cell (by exact hb)).trans (hc k 1 (by omega) (by omega))).trans (congrArg some (rowVar (pe _ (getD_mem (by omega))) (hr k (by omega))).2)
    have h10 : k < es.length → wr.cell? ⟨b', off' + k * 2, none⟩ = some (.string (cs (fs.getD k []) 0)) := fun h => ((hbl.cell (by exact hb')).trans (hc' k 0 (by omega) (by omega))).trans (congrArg some (rowVar (pf _ (getD_mem (by omega))) (hr' k (by omega))).1)
    have h11 : k < es.length → wr.cell? ⟨b', off' + k * 2 + 1, none⟩ = some (.string (cs (fs.getD k []) 1)) := fun h => ((hbl.cell (by exact hb')).trans (hc' k 1 (by omega) (by omega))).trans (congrArg some (rowVar (pf _ (getD_mem (by omega))) (hr' k (by omega))).2)
    go_wp2
    · have hlt : k < fs.length := by assumption
      have h00 := h00 (by omega)
      have h01 := h01 (by omega)
      have h10 := h10 (by omega)
      have h11 := h11 (by omega)
      have hq := neq106
      have hgd : ∀ (x y : Operand) (xs ys : Array Value) (W : World), (eqGuard .neq 106 x y (.agg xs) (.agg ys)).run Tryz.prog W = .ok () W := fun x y xs ys W => run_eqGuard_agg W .neq 106 x y xs ys gd106
      go_quiet (fail)
      clear hq hgd
      by_cases hek : es.getD k [] = fs.getD k []
      · go_wp2
        · exfalso
          rename_i hd
          have hke : k < es.length := by omega
          simp [List.getD, hke, hlt] at hek
          simp [hek] at hd
        · go_roundw
          case rel => exact ⟨k + 1, by omega, by go_num, take_step (by omega) hlt htk hek, below_drewN hbl⟩
          case measure => simp [intOf]; omega
      · go_wp2
        · go_ret
          refine ⟨false, rfl, ?_, below_drewN hbl⟩
          simp only [Bool.false_eq_true, false_iff]
          intro e
          exact hek (by rw [e])
        · exfalso
          rename_i hd
          have hke : k < es.length := by omega
          apply hek
          rw [etaVar (pe (es.getD k []) (getD_mem hke)), etaVar (pf (fs.getD k []) (getD_mem hlt))]
          simp at hd
          simp [List.getD, hke, hlt, hd]
    · have hge : ¬ k < fs.length := by assumption
      go_ret
      refine ⟨true, rfl, ?_, hbl⟩
      simp only [true_iff]
      rw [List.take_of_length_le (by omega), List.take_of_length_le (by omega)] at htk
      exact htk
def IsLevel (c : List T) : Prop := ∃ (x0 : Int) (x1 : Int) (x2 : ByteArray) (x3 : Int), c = [.lf (.int x0), .lf (.int x1), .lf (.str x2), .lf (.int x3)]
theorem etaLevel {c : List T} (h : IsLevel c) : c = [.lf (.int (ci c 0)), .lf (.int (ci c 1)), .lf (.str (cs c 2)), .lf (.int (ci c 3))] := by obtain ⟨x0, x1, x2, x3, rfl⟩ := h; rfl
theorem rowLevel {w : World} {d : Nat} {c : List T} {u : Nat → Value} (h : IsLevel c) (hu : RowOk w d c u) : u 0 = .int .i64 (ci c 0) ∧ u 1 = .int .i64 (ci c 1) ∧ u 2 = .string (cs c 2) ∧ u 3 = .int .i64 (ci c 3) := by obtain ⟨x0, x1, x2, x3, rfl⟩ := h; exact ⟨(hu 0 _ rfl).lf, (hu 1 _ rfl).lf, (hu 2 _ rfl).lf, (hu 3 _ rfl).lf⟩
theorem lenLevel {c : List T} (h : IsLevel c) : c.length = 4 := by obtain ⟨x0, x1, x2, x3, rfl⟩ := h; rfl
theorem hld94 : Tryz.prog.stoodInHeld 94 = false := by kernel_rfl
theorem gd94 : Tryz.prog.eqGuardType Tryz.prog.depth 94 = false := by kernel_rfl
theorem neq94 (x0 y0 : Int) (x1 y1 : Int) (x2 y2 : ByteArray) (x3 y3 : Int) (W : World) : (binOp .neq 94 (.agg #[.int .i64 x0, .int .i64 x1, .string x2, .int .i64 x3]) (.agg #[.int .i64 y0, .int .i64 y1, .string y2, .int .i64 y3])).run Tryz.prog W = .ok (.bool (!(x0 == y0 && x1 == y1 && decide (x2 = y2) && x3 == y3))) W := by
  rw [run_neq_struct, run_equalIn_struct _ _ _ _ _ (struct_of Tryz.underlying94) hld94, fields_of Tryz.underlying94]
  simp [Tryz.underlying3, Tryz.underlying9, go_sem, Op.eqFields, bytes_eq]
  by_cases h0 : x0 = y0 <;> by_cases h1 : x1 = y1 <;> by_cases h2 : x2 = y2 <;> by_cases h3 : x3 = y3 <;> simp [h0, h1, h2, h3]
set_option maxHeartbeats 1000000 in
theorem eq37 : EqC 37 IsLevel := by
  intro w d d' es fs v v' he hf pe pf
  obtain ⟨a, cap, rfl, hn, hcap, hcell⟩ := he.rows (sz := 4) (fun c hc => lenLevel (pe c hc)) (by omega)
  obtain ⟨a', cap', rfl, hn', hcap', hcell'⟩ := hf.rows (sz := 4) (fun c hc => lenLevel (pf c hc)) (by omega)
  clear he hf
  have g1 : es.length ≤ 9223372036854775807 := by omega
  have g2 : fs.length ≤ 9223372036854775807 := by omega
  by_cases hlen : es.length = fs.length
  case neg =>
    have hne : ¬ (es = fs) := fun e => hlen (by rw [e])
    have ht : ((es.length : Int) != (fs.length : Int)) = true := by simpa using (by omega : ¬ (es.length : Int) = (fs.length : Int))
    clear hcell hcell' pe pf
    go_enter Tryz.func37, Tryz.ntmps37
    go_wp2
    go_ret
    exact ⟨false, rfl, by simp [hne], Below.refl _ _⟩
  by_cases hz : es.length = 0
  · have e1 : es = [] := List.eq_nil_of_length_eq_zero hz
    have e2 : fs = [] := List.eq_nil_of_length_eq_zero (by omega)
    subst e1; subst e2
    clear hcell hcell' pe pf
    go_enter Tryz.func37, Tryz.ntmps37
    go_wp2
    go_loopw [13] (fun i wr => i = .int .i64 0 ∧ Below w.heap.size w wr) (fun i _ => 0)
    case atStart => exact ⟨rfl, Below.refl _ _⟩
    case round =>
      obtain ⟨rfl, hbl⟩ := hrel
      go_wp2
      go_ret
      exact ⟨true, rfl, by simp, hbl⟩
  obtain ⟨b, off, hb, rfl, U, hc, hr, -⟩ := hcell (by omega)
  obtain ⟨b', off', hb', rfl, U', hc', hr', -⟩ := hcell' (by omega)
  clear hcell hcell'
  have ht : ((es.length : Int) != (fs.length : Int)) = false := by simp; omega
  go_enter Tryz.func37, Tryz.ntmps37
  go_wp2
  go_loopw [13] (fun i wr => ∃ k : Nat, k ≤ es.length ∧ i = .int .i64 k ∧ es.take k = fs.take k ∧ Below w.heap.size w wr) (fun i _ => es.length - (intOf i).toNat)
  case atStart => exact ⟨0, by omega, rfl, by simp, Below.refl _ _⟩
  case round =>
    obtain ⟨k, hk, rfl, htk, hbl⟩ := hrel
    have h00 : k < es.length → wr.cell? ⟨b, off + k * 4, none⟩ = some (.int .i64 (ci (es.getD k []) 0)) := fun h => ((hbl.cell (by exact hb)).trans (hc k 0 (by omega) (by omega))).trans (congrArg some (rowLevel (pe _ (getD_mem (by omega))) (hr k (by omega))).1)
    have h01 : k < es.length → wr.cell? ⟨b, off + k * 4 + 1, none⟩ = some (.int .i64 (ci (es.getD k []) 1)) := fun h => ((hbl.cell (by exact hb)).trans (hc k 1 (by omega) (by omega))).trans (congrArg some (rowLevel (pe _ (getD_mem (by omega))) (hr k (by omega))).2.1)
    have h02 : k < es.length → wr.cell? ⟨b, off + k * 4 + 2, none⟩ = some (.string (cs (es.getD k []) 2)) := fun h => ((hbl.cell (by exact hb)).trans (hc k 2 (by omega) (by omega))).trans (congrArg some (rowLevel (pe _ (getD_mem (by omega))) (hr k (by omega))).2.2.1)
    have h03 : k < es.length → wr.cell? ⟨b, off + k * 4 + 3, none⟩ = some (.int .i64 (ci (es.getD k []) 3)) := fun h => ((hbl.cell (by exact hb)).trans (hc k 3 (by omega) (by omega))).trans (congrArg some (rowLevel (pe _ (getD_mem (by omega))) (hr k (by omega))).2.2.2)
    have h10 : k < es.length → wr.cell? ⟨b', off' + k * 4, none⟩ = some (.int .i64 (ci (fs.getD k []) 0)) := fun h => ((hbl.cell (by exact hb')).trans (hc' k 0 (by omega) (by omega))).trans (congrArg some (rowLevel (pf _ (getD_mem (by omega))) (hr' k (by omega))).1)
    have h11 : k < es.length → wr.cell? ⟨b', off' + k * 4 + 1, none⟩ = some (.int .i64 (ci (fs.getD k []) 1)) := fun h => ((hbl.cell (by exact hb')).trans (hc' k 1 (by omega) (by omega))).trans (congrArg some (rowLevel (pf _ (getD_mem (by omega))) (hr' k (by omega))).2.1)
    have h12 : k < es.length → wr.cell? ⟨b', off' + k * 4 + 2, none⟩ = some (.string (cs (fs.getD k []) 2)) := fun h => ((hbl.cell (by exact hb')).trans (hc' k 2 (by omega) (by omega))).trans (congrArg some (rowLevel (pf _ (getD_mem (by omega))) (hr' k (by omega))).2.2.1)
    have h13 : k < es.length → wr.cell? ⟨b', off' + k * 4 + 3, none⟩ = some (.int .i64 (ci (fs.getD k []) 3)) := fun h => ((hbl.cell (by exact hb')).trans (hc' k 3 (by omega) (by omega))).trans (congrArg some (rowLevel (pf _ (getD_mem (by omega))) (hr' k (by omega))).2.2.2)
    go_wp2
    · have hlt : k < fs.length := by assumption
      have h00 := h00 (by omega)
      have h01 := h01 (by omega)
      have h02 := h02 (by omega)
      have h03 := h03 (by omega)
      have h10 := h10 (by omega)
      have h11 := h11 (by omega)
      have h12 := h12 (by omega)
      have h13 := h13 (by omega)
      have hq := neq94
      have hgd : ∀ (x y : Operand) (xs ys : Array Value) (W : World), (eqGuard .neq 94 x y (.agg xs) (.agg ys)).run Tryz.prog W = .ok () W := fun x y xs ys W => run_eqGuard_agg W .neq 94 x y xs ys gd94
      go_quiet (fail)
      clear hq hgd
      by_cases hek : es.getD k [] = fs.getD k []
      · go_wp2
        · exfalso
          rename_i hd
          have hke : k < es.length := by omega
          simp [List.getD, hke, hlt] at hek
          simp [hek] at hd
        · go_roundw
          case rel => exact ⟨k + 1, by omega, by go_num, take_step (by omega) hlt htk hek, below_drewN hbl⟩
          case measure => simp [intOf]; omega
      · go_wp2
        · go_ret
          refine ⟨false, rfl, ?_, below_drewN hbl⟩
          simp only [Bool.false_eq_true, false_iff]
          intro e
          exact hek (by rw [e])
        · exfalso
          rename_i hd
          have hke : k < es.length := by omega
          apply hek
          rw [etaLevel (pe (es.getD k []) (getD_mem hke)), etaLevel (pf (fs.getD k []) (getD_mem hlt))]
          simp at hd
          simp [List.getD, hke, hlt, hd]
    · have hge : ¬ k < fs.length := by assumption
      go_ret
      refine ⟨true, rfl, ?_, hbl⟩
      simp only [true_iff]
      rw [List.take_of_length_le (by omega), List.take_of_length_le (by omega)] at htk
      exact htk
end Go.Proofs.YtmhkceeiiklfdaaGreat
