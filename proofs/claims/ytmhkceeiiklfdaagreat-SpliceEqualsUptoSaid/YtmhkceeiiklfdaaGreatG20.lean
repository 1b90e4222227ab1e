/- A part of the proof of SpliceEqualsUptoSaid (texts: GrEf GrEv). No conditions. -/
import Derived.Test.YtmhkceeiiklfdaaGreatG16
set_option linter.unusedVariables false
set_option linter.unusedSimpArgs false
set_option linter.unusedVariables false
namespace Go.Proofs.YtmhkceeiiklfdaaGreat
open Go.RowKit
set_option maxHeartbeats 2000000 in
theorem eq82 (P : List T → Prop) (hl : ∀ c, P c → c.length = 11) (hg : EqV 83 P) : EqC3 82 83 P := by
  intro w d d' es fs v v' he hf pe pf
  obtain ⟨a, cap, rfl, hn, hcap, hcell⟩ := he.rows (sz := 11) (fun c hc => hl c (pe c hc)) (by omega)
  obtain ⟨a', cap', rfl, hn', hcap', hcell'⟩ := hf.rows (sz := 11) (fun c hc => hl c (pf c hc)) (by omega)
  clear he hf
  have g1 : es.length ≤ 9223372036854775807 := by omega
  have g2 : fs.length ≤ 9223372036854775807 := by omega
  by_cases hlen : es.length = fs.length
  case neg =>
    have hne : ¬ (es = fs) := fun e => hlen (by rw [e])
    have ht : ((es.length : Int) != (fs.length : Int)) = true := by simpa using (by omega : ¬ (es.length : Int) = (fs.length : Int))
    clear hcell hcell' pe pf
    go_enter Tryz.func82, Tryz.ntmps82
    go_wp2
    go_ret
    exact ⟨false, rfl, by simp [hne], Below.refl _ _⟩
  by_cases hz : es.length = 0
  · have e1 : es = [] := List.eq_nil_of_length_eq_zero hz
    have e2 : fs = [] := List.eq_nil_of_length_eq_zero (by omega)
    subst e1; subst e2
    clear hcell hcell' pe pf
    go_enter Tryz.func82, Tryz.ntmps82
    go_wp2
    go_loopw [17] (fun i wr => i = .int .i64 0 ∧ Below w.heap.size w wr) (fun i _ => 0)
    case atStart => exact ⟨rfl, Below.refl _ _⟩
    case round =>
      obtain ⟨rfl, hbl⟩ := hrel
      go_wp2
      go_ret
      exact ⟨true, rfl, by simp, hbl⟩
  obtain ⟨b, off, hb, rfl, U, hc, hr, ho⟩ := hcell (by omega)
  obtain ⟨b', off', hb', rfl, U', hc', hr', ho'⟩ := hcell' (by omega)
  clear hcell hcell'
  obtain ⟨n, hn1⟩ : ∃ n, es.length = n := ⟨_, rfl⟩
  have hn2 : fs.length = n := by omega
  rw [hn1] at hlen hn hcap g1 hz
  rw [hn2] at hn' hcap' g2
  clear hlen
  rw [hn1, hn2]
  go_enter Tryz.func82, Tryz.ntmps82
  go_wp2
  go_loopw [17] (fun i wr => ∃ k : Nat, k ≤ n ∧ i = .int .i64 k ∧ es.take k = fs.take k ∧ Below w.heap.size w wr) (fun i _ => n - (intOf i).toNat)
  case atStart => exact ⟨0, by omega, rfl, by simp, Below.refl _ _⟩
  case round =>
    obtain ⟨k, hk, rfl, htk, hbl⟩ := hrel
    have hsz := hbl.size
    have hbw : b < wr.heap.size := by omega
    have hbw' : b' < wr.heap.size := by omega
    have h00 : k < n → wr.cell? ⟨b, off + k * 11, none⟩ = some (U k 0) := fun h => ((hbl.cell (by exact hb)).trans (hc k 0 (by omega) (by omega)))
    have h01 : k < n → wr.cell? ⟨b, off + k * 11 + 1, none⟩ = some (U k 1) := fun h => ((hbl.cell (by exact hb)).trans (hc k 1 (by omega) (by omega)))
    have h02 : k < n → wr.cell? ⟨b, off + k * 11 + 2, none⟩ = some (U k 2) := fun h => ((hbl.cell (by exact hb)).trans (hc k 2 (by omega) (by omega)))
    have h03 : k < n → wr.cell? ⟨b, off + k * 11 + 3, none⟩ = some (U k 3) := fun h => ((hbl.cell (by exact hb)).trans (hc k 3 (by omega) (by omega)))
    have h04 : k < n → wr.cell? ⟨b, off + k * 11 + 4, none⟩ = some (U k 4) := fun h => ((hbl.cell (by exact hb)).trans (hc k 4 (by omega) (by omega)))
    have h05 : k < n → wr.cell? ⟨b, off + k * 11 + 5, none⟩ = some (U k 5) := fun h => ((hbl.cell (by exact hb)).trans (hc k 5 (by omega) (by omega)))
    have h06 : k < n → wr.cell? ⟨b, off + k * 11 + 6, none⟩ = some (U k 6) := fun h => ((hbl.cell (by exact hb)).trans (hc k 6 (by omega) (by omega)))
    have h07 : k < n → wr.cell? ⟨b, off + k * 11 + 7, none⟩ = some (U k 7) := fun h => ((hbl.cell (by exact hb)).trans (hc k 7 (by omega) (by omega)))
    have h08 : k < n → wr.cell? ⟨b, off + k * 11 + 8, none⟩ = some (U k 8) := fun h => ((hbl.cell (by exact hb)).trans (hc k 8 (by omega) (by omega)))
    have h09 : k < n → wr.cell? ⟨b, off + k * 11 + 9, none⟩ = some (U k 9) := fun h => ((hbl.cell (by exact hb)).trans (hc k 9 (by omega) (by omega)))
    have h010 : k < n → wr.cell? ⟨b, off + k * 11 + 10, none⟩ = some (U k 10) := fun h => ((hbl.cell (by exact hb)).trans (hc k 10 (by omega) (by omega)))
    have h10 : k < n → wr.cell? ⟨b', off' + k * 11, none⟩ = some (U' k 0) := fun h => ((hbl.cell (by exact hb')).trans (hc' k 0 (by omega) (by omega)))
    have h11 : k < n → wr.cell? ⟨b', off' + k * 11 + 1, none⟩ = some (U' k 1) := fun h => ((hbl.cell (by exact hb')).trans (hc' k 1 (by omega) (by omega)))
    have h12 : k < n → wr.cell? ⟨b', off' + k * 11 + 2, none⟩ = some (U' k 2) := fun h => ((hbl.cell (by exact hb')).trans (hc' k 2 (by omega) (by omega)))
    have h13 : k < n → wr.cell? ⟨b', off' + k * 11 + 3, none⟩ = some (U' k 3) := fun h => ((hbl.cell (by exact hb')).trans (hc' k 3 (by omega) (by omega)))
    have h14 : k < n → wr.cell? ⟨b', off' + k * 11 + 4, none⟩ = some (U' k 4) := fun h => ((hbl.cell (by exact hb')).trans (hc' k 4 (by omega) (by omega)))
    have h15 : k < n → wr.cell? ⟨b', off' + k * 11 + 5, none⟩ = some (U' k 5) := fun h => ((hbl.cell (by exact hb')).trans (hc' k 5 (by omega) (by omega)))
    have h16 : k < n → wr.cell? ⟨b', off' + k * 11 + 6, none⟩ = some (U' k 6) := fun h => ((hbl.cell (by exact hb')).trans (hc' k 6 (by omega) (by omega)))
    have h17 : k < n → wr.cell? ⟨b', off' + k * 11 + 7, none⟩ = some (U' k 7) := fun h => ((hbl.cell (by exact hb')).trans (hc' k 7 (by omega) (by omega)))
    have h18 : k < n → wr.cell? ⟨b', off' + k * 11 + 8, none⟩ = some (U' k 8) := fun h => ((hbl.cell (by exact hb')).trans (hc' k 8 (by omega) (by omega)))
    have h19 : k < n → wr.cell? ⟨b', off' + k * 11 + 9, none⟩ = some (U' k 9) := fun h => ((hbl.cell (by exact hb')).trans (hc' k 9 (by omega) (by omega)))
    have h110 : k < n → wr.cell? ⟨b', off' + k * 11 + 10, none⟩ = some (U' k 10) := fun h => ((hbl.cell (by exact hb')).trans (hc' k 10 (by omega) (by omega)))
    have hcall : ∀ W, k < n → Below w.heap.size w W → Calls Tryz.prog 83 #[.agg #[U k 0, U k 1, U k 2, U k 3, U k 4, U k 5, U k 6, U k 7, U k 8, U k 9, U k 10], .agg #[U' k 0, U' k 1, U' k 2, U' k 3, U' k 4, U' k 5, U' k 6, U' k 7, U' k 8, U' k 9, U' k 10]] W fun e w' => ∃ r : Bool, e = .returned (.bool r) ∧ (r = true ↔ es.getD k [] = fs.getD k []) ∧ Below W.heap.size W w' := fun W h hW =>
      have h : k < es.length := by omega
      hg W (d - 1) (d' - 1) _ _ _ _ (((hr k h).below hW).rdl (hl _ (pe _ (getD_mem h)))) (((hr' k (by omega)).below hW).rdl (hl _ (pf _ (getD_mem (by omega))))) (pe _ (getD_mem h)) (pf _ (getD_mem (by omega)))
    have hst : ∀ (i j : Nat) (P : Program) (a : Addr) (m : Mode) (W : World), (store a (U i j) m).run P W = stored P W a (U i j) m := fun i j P a m W => run_store P W a _ m (ho i j)
    have hst' : ∀ (i j : Nat) (P : Program) (a : Addr) (m : Mode) (W : World), (store a (U' i j) m).run P W = stored P W a (U' i j) m := fun i j P a m W => run_store P W a _ m (ho' i j)
    clear hc hc' hr hr'
    go_wp2_with (go_at_call 83; refine (hcall _ (by omega) (hbl.trans (by go_grown))).mono ?_; rintro e W1 ⟨r, rfl, hr1, hW1⟩; have hb1 : Below w.heap.size w W1 := hbl.trans (Below.trans (by go_grown) (hW1.mono (by go_size))); clear hW1)
    · rename_i hrf
      go_ret
      refine ⟨false, rfl, ?_, hb1⟩
      have hrf : r = false := by simpa using hrf
      rw [hrf] at hr1
      simp only [Bool.false_eq_true, false_iff] at hr1 ⊢
      intro e
      exact hr1 (by rw [e])
    · rename_i hrf
      have hrf : r = true := by simpa using hrf
      go_roundw
      case rel => exact ⟨k + 1, by omega, by go_num, take_step (by omega) (by omega) htk (hr1.1 hrf), hb1⟩
      case measure => simp [intOf]; omega
    · go_ret
      refine ⟨true, rfl, ?_, hbl⟩
      simp only [true_iff]
      rw [List.take_of_length_le (by omega), List.take_of_length_le (by omega)] at htk
      exact htk
set_option maxHeartbeats 2000000 in
theorem eq173 (P : List T → Prop) (hl : ∀ c, P c → c.length = 6) (hg : EqV 174 P) : EqC3 173 174 P := by
  intro w d d' es fs v v' he hf pe pf
  obtain ⟨a, cap, rfl, hn, hcap, hcell⟩ := he.rows (sz := 6) (fun c hc => hl c (pe c hc)) (by omega)
  obtain ⟨a', cap', rfl, hn', hcap', hcell'⟩ := hf.rows (sz := 6) (fun c hc => hl c (pf c hc)) (by omega)
  clear he hf
  have g1 : es.length ≤ 9223372036854775807 := by omega
  have g2 : fs.length ≤ 9223372036854775807 := by omega
  by_cases hlen : es.length = fs.length
  case neg =>
    have hne : ¬ (es = fs) := fun e => hlen (by rw [e])
    have ht : ((es.length : Int) != (fs.length : Int)) = true := by simpa using (by omega : ¬ (es.length : Int) = (fs.length : Int))
    clear hcell hcell' pe pf
    go_enter Tryz.func173, Tryz.ntmps173
    go_wp2
    go_ret
    exact ⟨false, rfl, by simp [hne], Below.refl _ _⟩
  by_cases hz : es.length = 0
  · have e1 : es = [] := List.eq_nil_of_length_eq_zero hz
    have e2 : fs = [] := List.eq_nil_of_length_eq_zero (by omega)
    subst e1; subst e2
    clear hcell hcell' pe pf
    go_enter Tryz.func173, Tryz.ntmps173
    go_wp2
    go_loopw [17] (fun i wr => i = .int .i64 0 ∧ Below w.heap.size w wr) (fun i _ => 0)
    case atStart => exact ⟨rfl, Below.refl _ _⟩
    case round =>
      obtain ⟨rfl, hbl⟩ := hrel
      go_wp2
      go_ret
      exact ⟨true, rfl, by simp, hbl⟩
  obtain ⟨b, off, hb, rfl, U, hc, hr, ho⟩ := hcell (by omega)
  obtain ⟨b', off', hb', rfl, U', hc', hr', ho'⟩ := hcell' (by omega)
  clear hcell hcell'
  obtain ⟨n, hn1⟩ : ∃ n, es.length = n := ⟨_, rfl⟩
  have hn2 : fs.length = n := by omega
  rw [hn1] at hlen hn hcap g1 hz
  rw [hn2] at hn' hcap' g2
  clear hlen
  rw [hn1, hn2]
  go_enter Tryz.func173, Tryz.ntmps173
  go_wp2
  go_loopw [17] (fun i wr => ∃ k : Nat, k ≤ n ∧ i = .int .i64 k ∧ es.take k = fs.take k ∧ Below w.heap.size w wr) (fun i _ => n - (intOf i).toNat)
  case atStart => exact ⟨0, by omega, rfl, by simp, Below.refl _ _⟩
  case round =>
    obtain ⟨k, hk, rfl, htk, hbl⟩ := hrel
    have hsz := hbl.size
    have hbw : b < wr.heap.size := by omega
    have hbw' : b' < wr.heap.size := by omega
    have h00 : k < n → wr.cell? ⟨b, off + k * 6, none⟩ = some (U k 0) := fun h => ((hbl.cell (by exact hb)).trans (hc k 0 (by omega) (by omega)))
    have h01 : k < n → wr.cell? ⟨b, off + k * 6 + 1, none⟩ = some (U k 1) := fun h => ((hbl.cell (by exact hb)).trans (hc k 1 (by omega) (by omega)))
    have h02 : k < n → wr.cell? ⟨b, off + k * 6 + 2, none⟩ = some (U k 2) := fun h => ((hbl.cell (by exact hb)).trans (hc k 2 (by omega) (by omega)))
    have h03 : k < n → wr.cell? ⟨b, off + k * 6 + 3, none⟩ = some (U k 3) := fun h => ((hbl.cell (by exact hb)).trans (hc k 3 (by omega) (by omega)))
    have h04 : k < n → wr.cell? ⟨b, off + k * 6 + 4, none⟩ = some (U k 4) := fun h => ((hbl.cell (by exact hb)).trans (hc k 4 (by omega) (by omega)))
    have h05 : k < n → wr.cell? ⟨b, off + k * 6 + 5, none⟩ = some (U k 5) := fun h => ((hbl.cell (by exact hb)).trans (hc k 5 (by omega) (by omega)))
    have h10 : k < n → wr.cell? ⟨b', off' + k * 6, none⟩ = some (U' k 0) := fun h => ((hbl.cell (by exact hb')).trans (hc' k 0 (by omega) (by omega)))
    have h11 : k < n → wr.cell? ⟨b', off' + k * 6 + 1, none⟩ = some (U' k 1) := fun h => ((hbl.cell (by exact hb')).trans (hc' k 1 (by omega) (by omega)))
    have h12 : k < n → wr.cell? ⟨b', off' + k * 6 + 2, none⟩ = some (U' k 2) := fun h => ((hbl.cell (by exact hb')).trans (hc' k 2 (by omega) (by omega)))
    have h13 : k < n → wr.cell? ⟨b', off' + k * 6 + 3, none⟩ = some (U' k 3) := fun h => ((hbl.cell (by exact hb')).trans (hc' k 3 (by omega) (by omega)))
    have h14 : k < n → wr.cell? ⟨b', off' + k * 6 + 4, none⟩ = some (U' k 4) := fun h => ((hbl.cell (by exact hb')).trans (hc' k 4 (by omega) (by omega)))
    have h15 : k < n → wr.cell? ⟨b', off' + k * 6 + 5, none⟩ = some (U' k 5) := fun h => ((hbl.cell (by exact hb')).trans (hc' k 5 (by omega) (by omega)))
    have hcall : ∀ W, k < n → Below w.heap.size w W → Calls Tryz.prog 174 #[.agg #[U k 0, U k 1, U k 2, U k 3, U k 4, U k 5], .agg #[U' k 0, U' k 1, U' k 2, U' k 3, U' k 4, U' k 5]] W fun e w' => ∃ r : Bool, e = .returned (.bool r) ∧ (r = true ↔ es.getD k [] = fs.getD k []) ∧ Below W.heap.size W w' := fun W h hW =>
      have h : k < es.length := by omega
      hg W (d - 1) (d' - 1) _ _ _ _ (((hr k h).below hW).rdl (hl _ (pe _ (getD_mem h)))) (((hr' k (by omega)).below hW).rdl (hl _ (pf _ (getD_mem (by omega))))) (pe _ (getD_mem h)) (pf _ (getD_mem (by omega)))
    have hst : ∀ (i j : Nat) (P : Program) (a : Addr) (m : Mode) (W : World), (store a (U i j) m).run P W = stored P W a (U i j) m := fun i j P a m W => run_store P W a _ m (ho i j)
    have hst' : ∀ (i j : Nat) (P : Program) (a : Addr) (m : Mode) (W : World), (store a (U' i j) m).run P W = stored P W a (U' i j) m := fun i j P a m W => run_store P W a _ m (ho' i j)
    clear hc hc' hr hr'
    go_wp2_with (go_at_call 174; refine (hcall _ (by omega) (hbl.trans (by go_grown))).mono ?_; rintro e W1 ⟨r, rfl, hr1, hW1⟩; have hb1 : Below w.heap.size w W1 := hbl.trans (Below.trans (by go_grown) (hW1.mono (by go_size))); clear hW1)
    · rename_i hrf
      go_ret
      refine ⟨false, rfl, ?_, hb1⟩
      have hrf : r = false := by simpa using hrf
      rw [hrf] at hr1
      simp only [Bool.false_eq_true, false_iff] at hr1 ⊢
      intro e
      exact hr1 (by rw [e])
    · rename_i hrf
      have hrf : r = true := by simpa using hrf
      go_roundw
      case rel => exact ⟨k + 1, by omega, by go_num, take_step (by omega) (by omega) htk (hr1.1 hrf), hb1⟩
      case measure => simp [intOf]; omega
    · go_ret
      refine ⟨true, rfl, ?_, hbl⟩
      simp only [true_iff]
      rw [List.take_of_length_le (by omega), List.take_of_length_le (by omega)] at htk
      exact htk
set_option maxHeartbeats 2000000 in
theorem eq175 (P : List T → Prop) (hl : ∀ c, P c → c.length = 7) (hg : EqV 176 P) : EqC3 175 176 P := by
  intro w d d' es fs v v' he hf pe pf
  obtain ⟨a, cap, rfl, hn, hcap, hcell⟩ := he.rows (sz := 7) (fun c hc => hl c (pe c hc)) (by omega)
  obtain ⟨a', cap', rfl, hn', hcap', hcell'⟩ := hf.rows (sz := 7) (fun c hc => hl c (pf c hc)) (by omega)
  clear he hf
  have g1 : es.length ≤ 9223372036854775807 := by omega
  have g2 : fs.length ≤ 9223372036854775807 := by omega
  by_cases hlen : es.length = fs.length
  case neg =>
    have hne : ¬ (es = fs) := fun e => hlen (by rw [e])
    have ht : ((es.length : Int) != (fs.length : Int)) = true := by simpa using (by omega : ¬ (es.length : Int) = (fs.length : Int))
    clear hcell hcell' pe pf
    go_enter Tryz.func175, Tryz.ntmps175
    go_wp2
    go_ret
    exact ⟨false, rfl, by simp [hne], Below.refl _ _⟩
  by_cases hz : es.length = 0
  · have e1 : es = [] := List.eq_nil_of_length_eq_zero hz
    have e2 : fs = [] := List.eq_nil_of_length_eq_zero (by omega)
    subst e1; subst e2
    clear hcell hcell' pe pf
    go_enter Tryz.func175, Tryz.ntmps175
    go_wp2
    go_loopw [17] (fun i wr => i = .int .i64 0 ∧ Below w.heap.size w wr) (fun i _ => 0)
    case atStart => exact ⟨rfl, Below.refl _ _⟩
    case round =>
      obtain ⟨rfl, hbl⟩ := hrel
      go_wp2
      go_ret
      exact ⟨true, rfl, by simp, hbl⟩
  obtain ⟨b, off, hb, rfl, U, hc, hr, ho⟩ := hcell (by omega)
  obtain ⟨b', off', hb', rfl, U', hc', hr', ho'⟩ := hcell' (by omega)
  clear hcell hcell'
  obtain ⟨n, hn1⟩ : ∃ n, es.length = n := ⟨_, rfl⟩
  have hn2 : fs.length = n := by omega
  rw [hn1] at hlen hn hcap g1 hz
  rw [hn2] at hn' hcap' g2
  clear hlen
  rw [hn1, hn2]
  go_enter Tryz.func175, Tryz.ntmps175
  go_wp2
  go_loopw [17] (fun i wr => ∃ k : Nat, k ≤ n ∧ i = .int .i64 k ∧ es.take k = fs.take k ∧ Below w.heap.size w wr) (fun i _ => n - (intOf i).toNat)
  case atStart => exact ⟨0, by omega, rfl, by simp, Below.refl _ _⟩
  case round =>
    obtain ⟨k, hk, rfl, htk, hbl⟩ := hrel
    have hsz := hbl.size
    have hbw : b < wr.heap.size := by omega
    have hbw' : b' < wr.heap.size := by omega
    have h00 : k < n → wr.cell? ⟨b, off + k * 7, none⟩ = some (U k 0) := fun h => ((hbl.cell (by exact hb)).trans (hc k 0 (by omega) (by omega)))
    have h01 : k < n → wr.cell? ⟨b, off + k * 7 + 1, none⟩ = some (U k 1) := fun h => ((hbl.cell (by exact hb)).trans (hc k 1 (by omega) (by omega)))
    have h02 : k < n → wr.cell? ⟨b, off + k * 7 + 2, none⟩ = some (U k 2) := fun h => ((hbl.cell (by exact hb)).trans (hc k 2 (by omega) (by omega)))
    have h03 : k < n → wr.cell? ⟨b, off + k * 7 + 3, none⟩ = some (U k 3) := fun h => ((hbl.cell (by exact hb)).trans (hc k 3 (by omega) (by omega)))
    have h04 : k < n → wr.cell? ⟨b, off + k * 7 + 4, none⟩ = some (U k 4) := fun h => ((hbl.cell (by exact hb)).trans (hc k 4 (by omega) (by omega)))
    have h05 : k < n → wr.cell? ⟨b, off + k * 7 + 5, none⟩ = some (U k 5) := fun h => ((hbl.cell (by exact hb)).trans (hc k 5 (by omega) (by omega)))
    have h06 : k < n → wr.cell? ⟨b, off + k * 7 + 6, none⟩ = some (U k 6) := fun h => ((hbl.cell (by exact hb)).trans (hc k 6 (by omega) (by omega)))
    have h10 : k < n → wr.cell? ⟨b', off' + k * 7, none⟩ = some (U' k 0) := fun h => ((hbl.cell (by exact hb')).trans (hc' k 0 (by omega) (by omega)))
    have h11 : k < n → wr.cell? ⟨b', off' + k * 7 + 1, none⟩ = some (U' k 1) := fun h => ((hbl.cell (by exact hb')).trans (hc' k 1 (by omega) (by omega)))
    have h12 : k < n → wr.cell? ⟨b', off' + k * 7 + 2, none⟩ = some (U' k 2) := fun h => ((hbl.cell (by exact hb')).trans (hc' k 2 (by omega) (by omega)))
    have h13 : k < n → wr.cell? ⟨b', off' + k * 7 + 3, none⟩ = some (U' k 3) := fun h => ((hbl.cell (by exact hb')).trans (hc' k 3 (by omega) (by omega)))
    have h14 : k < n → wr.cell? ⟨b', off' + k * 7 + 4, none⟩ = some (U' k 4) := fun h => ((hbl.cell (by exact hb')).trans (hc' k 4 (by omega) (by omega)))
    have h15 : k < n → wr.cell? ⟨b', off' + k * 7 + 5, none⟩ = some (U' k 5) := fun h => ((hbl.cell (by exact hb')).trans (hc' k 5 (by omega) (by omega)))
    have h16 : k < n → wr.cell? ⟨b', off' + k * 7 + 6, none⟩ = some (U' k 6) := fun h => ((hbl.cell (by exact hb')).trans (hc' k 6 (by omega) (by omega)))
    have hcall : ∀ W, k < n → Below w.heap.size w W → Calls Tryz.prog 176 #[.agg #[U k 0, U k 1, U k 2, U k 3, U k 4, U k 5, U k 6], .agg #[U' k 0, U' k 1, U' k 2, U' k 3, U' k 4, U' k 5, U' k 6]] W fun e w' => ∃ r : Bool, e = .returned (.bool r) ∧ (r = true ↔ es.getD k [] = fs.getD k []) ∧ Below W.heap.size W w' := fun W h hW =>
      have h : k < es.length := by omega
      hg W (d - 1) (d' - 1) _ _ _ _ (((hr k h).below hW).rdl (hl _ (pe _ (getD_mem h)))) (((hr' k (by omega)).below hW).rdl (hl _ (pf _ (getD_mem (by omega))))) (pe _ (getD_mem h)) (pf _ (getD_mem (by omega)))
    have hst : ∀ (i j : Nat) (P : Program) (a : Addr) (m : Mode) (W : World), (store a (U i j) m).run P W = stored P W a (U i j) m := fun i j P a m W => run_store P W a _ m (ho i j)
    have hst' : ∀ (i j : Nat) (P : Program) (a : Addr) (m : Mode) (W : World), (store a (U' i j) m).run P W = stored P W a (U' i j) m := fun i j P a m W => run_store P W a _ m (ho' i j)
    clear hc hc' hr hr'
    go_wp2_with (go_at_call 176; refine (hcall _ (by omega) (hbl.trans (by go_grown))).mono ?_; rintro e W1 ⟨r, rfl, hr1, hW1⟩; have hb1 : Below w.heap.size w W1 := hbl.trans (Below.trans (by go_grown) (hW1.mono (by go_size))); clear hW1)
    · rename_i hrf
      go_ret
      refine ⟨false, rfl, ?_, hb1⟩
      have hrf : r = false := by simpa using hrf
      rw [hrf] at hr1
      simp only [Bool.false_eq_true, false_iff] at hr1 ⊢
      intro e
      exact hr1 (by rw [e])
    · rename_i hrf
      have hrf : r = true := by simpa using hrf
      go_roundw
      case rel => exact ⟨k + 1, by omega, by go_num, take_step (by omega) (by omega) htk (hr1.1 hrf), hb1⟩
      case measure => simp [intOf]; omega
    · go_ret
      refine ⟨true, rfl, ?_, hbl⟩
      simp only [true_iff]
      rw [List.take_of_length_le (by omega), List.take_of_length_le (by omega)] at htk
      exact htk
set_option maxHeartbeats 2000000 in
theorem eq42 (P : List T → Prop) (hl : ∀ c, P c → c.length = 2) (hg : EqV 36 P) : EqC3 42 36 P := by
  intro w d d' es fs v v' he hf pe pf
  obtain ⟨a, cap, rfl, hn, hcap, hcell⟩ := he.rows (sz := 2) (fun c hc => hl c (pe c hc)) (by omega)
  obtain ⟨a', cap', rfl, hn', hcap', hcell'⟩ := hf.rows (sz := 2) (fun c hc => hl c (pf c hc)) (by omega)
  clear he hf
  have g1 : es.length ≤ 9223372036854775807 := by omega
  have g2 : fs.length ≤ 9223372036854775807 := by omega
  by_cases hlen : es.length = fs.length
  case neg =>
    have hne : ¬ (es = fs) := fun e => hlen (by rw [e])
    have ht : ((es.length : Int) != (fs.length : Int)) = true := by simpa using (by omega : ¬ (es.length : Int) = (fs.length : Int))
    clear hcell hcell' pe pf
    go_enter Tryz.func42, Tryz.ntmps42
    go_wp2
    go_ret
    exact ⟨false, rfl, by simp [hne], Below.refl _ _⟩
  by_cases hz : es.length = 0
  · have e1 : es = [] := List.eq_nil_of_length_eq_zero hz
    have e2 : fs = [] := List.eq_nil_of_length_eq_zero (by omega)
    subst e1; subst e2
    clear hcell hcell' pe pf
    go_enter Tryz.func42, Tryz.ntmps42
    go_wp2
    go_loopw [17] (fun i wr => i = .int .i64 0 ∧ Below w.heap.size w wr) (fun i _ => 0)
    case atStart => exact ⟨rfl, Below.refl _ _⟩
    case round =>
      obtain ⟨rfl, hbl⟩ := hrel
      go_wp2
      go_ret
      exact ⟨true, rfl, by simp, hbl⟩
  obtain ⟨b, off, hb, rfl, U, hc, hr, ho⟩ := hcell (by omega)
  obtain ⟨b', off', hb', rfl, U', hc', hr', ho'⟩ := hcell' (by omega)
  clear hcell hcell'
  obtain ⟨n, hn1⟩ : ∃ n, es.length = n := ⟨_, rfl⟩
  have hn2 : fs.length = n := by omega
  rw [hn1] at hlen hn hcap g1 hz
  rw [hn2] at hn' hcap' g2
  clear hlen
  rw [hn1, hn2]
  go_enter Tryz.func42, Tryz.ntmps42
  go_wp2
  go_loopw [17] (fun i wr => ∃ k : Nat, k ≤ n ∧ i = .int .i64 k ∧ es.take k = fs.take k ∧ Below w.heap.size w wr) (fun i _ => n - (intOf i).toNat)
  case atStart => exact ⟨0, by omega, rfl, by simp, Below.refl _ _⟩
  case round =>
    obtain ⟨k, hk, rfl, htk, hbl⟩ := hrel
    have hsz := hbl.size
    have hbw : b < wr.heap.size := by omega
    have hbw' : b' < wr.heap.size := by omega
    have h00 : k < n → wr.cell? ⟨b, off + k * 2, none⟩ = some (U k 0) := fun h => ((hbl.cell (by exact hb)).trans (hc k 0 (by omega) (by omega)))
    have h01 : k < n → wr.cell? ⟨b, off + k * 2 + 1, none⟩ = some (U k 1) := fun h => ((hbl.cell (by exact hb)).trans (hc k 1 (by omega) (by omega)))
    have h10 : k < n → wr.cell? ⟨b', off' + k * 2, none⟩ = some (U' k 0) := fun h => ((hbl.cell (by exact hb')).trans (hc' k 0 (by omega) (by omega)))
    have h11 : k < n → wr.cell? ⟨b', off' + k * 2 + 1, none⟩ = some (U' k 1) := fun h => ((hbl.cell (by exact hb')).trans (hc' k 1 (by omega) (by omega)))
    have hcall : ∀ W, k < n → Below w.heap.size w W → Calls Tryz.prog 36 #[.agg #[U k 0, U k 1], .agg #[U' k 0, U' k 1]] W fun e w' => ∃ r : Bool, e = .returned (.bool r) ∧ (r = true ↔ es.getD k [] = fs.getD k []) ∧ Below W.heap.size W w' := fun W h hW =>
      have h : k < es.length := by omega
      hg W (d - 1) (d' - 1) _ _ _ _ (((hr k h).below hW).rdl (hl _ (pe _ (getD_mem h)))) (((hr' k (by omega)).below hW).rdl (hl _ (pf _ (getD_mem (by omega))))) (pe _ (getD_mem h)) (pf _ (getD_mem (by omega)))
    have hst : ∀ (i j : Nat) (P : Program) (a : Addr) (m : Mode) (W : World), (store a (U i j) m).run P W = stored P W a (U i j) m := fun i j P a m W => run_store P W a _ m (ho i j)
    have hst' : ∀ (i j : Nat) (P : Program) (a : Addr) (m : Mode) (W : World), (store a (U' i j) m).run P W = stored P W a (U' i j) m := fun i j P a m W => run_store P W a _ m (ho' i j)
    clear hc hc' hr hr'
    go_wp2_with (go_at_call 36; refine (hcall _ (by omega) (hbl.trans (by go_grown))).mono ?_; rintro e W1 ⟨r, rfl, hr1, hW1⟩; have hb1 : Below w.heap.size w W1 := hbl.trans (Below.trans (by go_grown) (hW1.mono (by go_size))); clear hW1)
    · rename_i hrf
      go_ret
      refine ⟨false, rfl, ?_, hb1⟩
      have hrf : r = false := by simpa using hrf
      rw [hrf] at hr1
      simp only [Bool.false_eq_true, false_iff] at hr1 ⊢
      intro e
      exact hr1 (by rw [e])
    · rename_i hrf
      have hrf : r = true := by simpa using hrf
      go_roundw
      case rel => exact ⟨k + 1, by omega, by go_num, take_step (by omega) (by omega) htk (hr1.1 hrf), hb1⟩
      case measure => simp [intOf]; omega
    · go_ret
      refine ⟨true, rfl, ?_, hbl⟩
      simp only [true_iff]
      rw [List.take_of_length_le (by omega), List.take_of_length_le (by omega)] at htk
      exact htk
set_option maxHeartbeats 2000000 in
theorem eq87 (P : List T → Prop) (hl : ∀ c, P c → c.length = 6) (hg : EqV 88 P) : EqC3 87 88 P := by
  intro w d d' es fs v v' he hf pe pf
  obtain ⟨a, cap, rfl, hn, hcap, hcell⟩ := he.rows (sz := 6) (fun c hc => hl c (pe c hc)) (by omega)
  obtain ⟨a', cap', rfl, hn', hcap', hcell'⟩ := hf.rows (sz := 6) (fun c hc => hl c (pf c hc)) (by omega)
  clear he hf
  have g1 : es.length ≤ 9223372036854775807 := by omega
  have g2 : fs.length ≤ 9223372036854775807 := by omega
  by_cases hlen : es.length = fs.length
  case neg =>
    have hne : ¬ (es = fs) := fun e => hlen (by rw [e])
    have ht : ((es.length : Int) != (fs.length : Int)) = true := by simpa using (by omega : ¬ (es.length : Int) = (fs.length : Int))
    clear hcell hcell' pe pf
    go_enter Tryz.func87, Tryz.ntmps87
    go_wp2
    go_ret
    exact ⟨false, rfl, by simp [hne], Below.refl _ _⟩
  by_cases hz : es.length = 0
  · have e1 : es = [] := List.eq_nil_of_length_eq_zero hz
    have e2 : fs = [] := List.eq_nil_of_length_eq_zero (by omega)
    subst e1; subst e2
    clear hcell hcell' pe pf
    go_enter Tryz.func87, Tryz.ntmps87
    go_wp2
    go_loopw [17] (fun i wr => i = .int .i64 0 ∧ Below w.heap.size w wr) (fun i _ => 0)
    case atStart => exact ⟨rfl, Below.refl _ _⟩
    case round =>
      obtain ⟨rfl, hbl⟩ := hrel
      go_wp2
      go_ret
      exact ⟨true, rfl, by simp, hbl⟩
  obtain ⟨b, off, hb, rfl, U, hc, hr, ho⟩ := hcell (by omega)
  obtain ⟨b', off', hb', rfl, U', hc', hr', ho'⟩ := hcell' (by omega)
  clear hcell hcell'
  obtain ⟨n, hn1⟩ : ∃ n, es.length = n := ⟨_, rfl⟩
  have hn2 : fs.length = n := by omega
  rw [hn1] at hlen hn hcap g1 hz
  rw [hn2] at hn' hcap' g2
  clear hlen
  rw [hn1, hn2]
  go_enter Tryz.func87, Tryz.ntmps87
  go_wp2
  go_loopw [17] (fun i wr => ∃ k : Nat, k ≤ n ∧ i = .int .i64 k ∧ es.take k = fs.take k ∧ Below w.heap.size w wr) (fun i _ => n - (intOf i).toNat)
  case atStart => exact ⟨0, by omega, rfl, by simp, Below.refl _ _⟩
  case round =>
    obtain ⟨k, hk, rfl, htk, hbl⟩ := hrel
    have hsz := hbl.size
    have hbw : b < wr.heap.size := by omega
    have hbw' : b' < wr.heap.size := by omega
    have h00 : k < n → wr.cell? ⟨b, off + k * 6, none⟩ = some (U k 0) := fun h => ((hbl.cell (by exact hb)).trans (hc k 0 (by omega) (by omega)))
    have h01 : k < n → wr.cell? ⟨b, off + k * 6 + 1, none⟩ = some (U k 1) := fun h => ((hbl.cell (by exact hb)).trans (hc k 1 (by omega) (by omega)))
    have h02 : k < n → wr.cell? ⟨b, off + k * 6 + 2, none⟩ = some (U k 2) := fun h => ((hbl.cell (by exact hb)).trans (hc k 2 (by omega) (by omega)))
    have h03 : k < n → wr.cell? ⟨b, off + k * 6 + 3, none⟩ = some (U k 3) := fun h => ((hbl.cell (by exact hb)).trans (hc k 3 (by omega) (by omega)))
    have h04 : k < n → wr.cell? ⟨b, off + k * 6 + 4, none⟩ = some (U k 4) := fun h => ((hbl.cell (by exact hb)).trans (hc k 4 (by omega) (by omega)))
    have h05 : k < n → wr.cell? ⟨b, off + k * 6 + 5, none⟩ = some (U k 5) := fun h => ((hbl.cell (by exact hb)).trans (hc k 5 (by omega) (by omega)))
    have h10 : k < n → wr.cell? ⟨b', off' + k * 6, none⟩ = some (U' k 0) := fun h => ((hbl.cell (by exact hb')).trans (hc' k 0 (by omega) (by omega)))
    have h11 : k < n → wr.cell? ⟨b', off' + k * 6 + 1, none⟩ = some (U' k 1) := fun h => ((hbl.cell (by exact hb')).trans (hc' k 1 (by omega) (by omega)))
    have h12 : k < n → wr.cell? ⟨b', off' + k * 6 + 2, none⟩ = some (U' k 2) := fun h => ((hbl.cell (by exact hb')).trans (hc' k 2 (by omega) (by omega)))
    have h13 : k < n → wr.cell? ⟨b', off' + k * 6 + 3, none⟩ = some (U' k 3) := fun h => ((hbl.cell (by exact hb')).trans (hc' k 3 (by omega) (by omega)))
    have h14 : k < n → wr.cell? ⟨b', off' + k * 6 + 4, none⟩ = some (U' k 4) := fun h => ((hbl.cell (by exact hb')).trans (hc' k 4 (by omega) (by omega)))
    have h15 : k < n → wr.cell? ⟨b', off' + k * 6 + 5, none⟩ = some (U' k 5) := fun h => ((hbl.cell (by exact hb')).trans (hc' k 5 (by omega) (by omega)))
    have hcall : ∀ W, k < n → Below w.heap.size w W → Calls Tryz.prog 88 #[.agg #[U k 0, U k 1, U k 2, U k 3, U k 4, U k 5], .agg #[U' k 0, U' k 1, U' k 2, U' k 3, U' k 4, U' k 5]] W fun e w' => ∃ r : Bool, e = .returned (.bool r) ∧ (r = true ↔ es.getD k [] = fs.getD k []) ∧ Below W.heap.size W w' := fun W h hW =>
      have h : k < es.length := by omega
      hg W (d - 1) (d' - 1) _ _ _ _ (((hr k h).below hW).rdl (hl _ (pe _ (getD_mem h)))) (((hr' k (by omega)).below hW).rdl (hl _ (pf _ (getD_mem (by omega))))) (pe _ (getD_mem h)) (pf _ (getD_mem (by omega)))
    have hst : ∀ (i j : Nat) (P : Program) (a : Addr) (m : Mode) (W : World), (store a (U i j) m).run P W = stored P W a (U i j) m := fun i j P a m W => run_store P W a _ m (ho i j)
    have hst' : ∀ (i j : Nat) (P : Program) (a : Addr) (m : Mode) (W : World), (store a (U' i j) m).run P W = stored P W a (U' i j) m := fun i j P a m W => run_store P W a _ m (ho' i j)
    clear hc hc' hr hr'
    go_wp2_with (go_at_call 88; refine (hcall _ (by omega) (hbl.trans (by go_grown))).mono ?_; rintro e W1 ⟨r, rfl, hr1, hW1⟩; have hb1 : Below w.heap.size w W1 := hbl.trans (Below.trans (by go_grown) (hW1.mono (by go_size))); clear hW1)
    · rename_i hrf
      go_ret
      refine ⟨false, rfl, ?_, hb1⟩
      have hrf : r = false := by simpa using hrf
      rw [hrf] at hr1
      simp only [Bool.false_eq_true, false_iff] at hr1 ⊢
      intro e
      exact hr1 (by rw [e])
    · rename_i hrf
      have hrf : r = true := by simpa using hrf
      go_roundw
      case rel => exact ⟨k + 1, by omega, by go_num, take_step (by omega) (by omega) htk (hr1.1 hrf), hb1⟩
      case measure => simp [intOf]; omega
    · go_ret
      refine ⟨true, rfl, ?_, hbl⟩
      simp only [true_iff]
      rw [List.take_of_length_le (by omega), List.take_of_length_le (by omega)] at htk
      exact htk
end Go.Proofs.YtmhkceeiiklfdaaGreat
set_option linter.unusedVariables false
set_option linter.unusedSimpArgs false
set_option maxRecDepth 20000
namespace Go.Proofs.YtmhkceeiiklfdaaGreat
open Go.RowKit
set_option maxHeartbeats 1000000 in
theorem walk39 (w : World) (x0 y0 : Value) (x1 y1 : Int) (x2 y2 : Int) (x3 y3 : Value) (x4 y4 : Value) (r0 : Bool) (h0 : EqFn 84  x0 y0 r0 w) (r1 : Bool) (h1 : EqFn 85  x3 y3 r1 w) (r2 : Bool) (h2 : EqFn 86  x4 y4 r2 w) :
    Calls Tryz.prog 39 #[.agg #[x0, .int .i64 x1, .int .i64 x2, x3, x4], .agg #[y0, .int .i64 y1, .int .i64 y2, y3, y4]] w fun e w' => e = .returned (.bool (r0 && x1 == y1 && x2 == y2 && r1 && r2)) ∧ Below w.heap.size w w' := by
  go_enter Tryz.func39, Tryz.ntmps39
  go_wp2_with (first
    | (go_at_call 84; refine (h0 _ (by go_grown)).mono ?_; rintro e W0 ⟨rfl, hW0⟩; have hc0 := below_cell hW0; simp only [World.size_alloc] at hc0; have hz0 : w.heap.size + 2 ≤ W0.heap.size := Nat.le_trans (by simp only [World.size_alloc]; omega) hW0.size; have hb0 : Below w.heap.size w W0 := Below.trans (by go_grown) (hW0.mono (by go_size)); clear hW0)
    | (go_at_call 85; refine (h1 _ hb0).mono ?_; rintro e W1 ⟨rfl, hW1⟩; have hc1 := below_cell (hW1.mono (B' := w.heap.size + 2) hz0); have hz1 : w.heap.size + 2 ≤ W1.heap.size := Nat.le_trans hz0 hW1.size; have hb1 : Below w.heap.size w W1 := Below.trans hb0 (hW1.mono (Nat.le_trans (by omega) hz0)); clear hW1)
    | (go_at_call 86; refine (h2 _ hb1).mono ?_; rintro e W2 ⟨rfl, hW2⟩; have hc2 := below_cell (hW2.mono (B' := w.heap.size + 2) hz1); have hz2 : w.heap.size + 2 ≤ W2.heap.size := Nat.le_trans hz1 hW2.size; have hb2 : Below w.heap.size w W2 := Below.trans hb1 (hW2.mono (Nat.le_trans (by omega) hz1)); clear hW2))
  all_goals (go_ret; refine ⟨by ((try simp only [bytes_eq] at *); simp [*]), ?_⟩; first | exact hb2 | exact hb1 | exact hb0 | exact Below.refl _ _ | go_grown)
set_option maxHeartbeats 1000000 in
theorem walk176 (w : World) (x0 y0 : Int) (x1 y1 : Value) (x2 y2 : Value) (x3 y3 : Value) (x4 y4 : Value) (x5 y5 : Value) (x6 y6 : Value) (r0 : Bool) (h0 : EqFn 39  (.agg #[x1, x2, x3, x4, x5]) (.agg #[y1, y2, y3, y4, y5]) r0 w) (r1 : Bool) (h1 : EqFn 38  x6 y6 r1 w) :
    Calls Tryz.prog 176 #[.agg #[.int .i64 x0, x1, x2, x3, x4, x5, x6], .agg #[.int .i64 y0, y1, y2, y3, y4, y5, y6]] w fun e w' => e = .returned (.bool (x0 == y0 && r0 && r1)) ∧ Below w.heap.size w w' := by
  go_enter Tryz.func176, Tryz.ntmps176
  go_wp2_with (first
    | (go_at_call 39; refine (h0 _ (by go_grown)).mono ?_; rintro e W0 ⟨rfl, hW0⟩; have hc0 := below_cell hW0; simp only [World.size_alloc] at hc0; have hz0 : w.heap.size + 2 ≤ W0.heap.size := Nat.le_trans (by simp only [World.size_alloc]; omega) hW0.size; have hb0 : Below w.heap.size w W0 := Below.trans (by go_grown) (hW0.mono (by go_size)); clear hW0)
    | (go_at_call 38; refine (h1 _ hb0).mono ?_; rintro e W1 ⟨rfl, hW1⟩; have hc1 := below_cell (hW1.mono (B' := w.heap.size + 2) hz0); have hz1 : w.heap.size + 2 ≤ W1.heap.size := Nat.le_trans hz0 hW1.size; have hb1 : Below w.heap.size w W1 := Below.trans hb0 (hW1.mono (Nat.le_trans (by omega) hz0)); clear hW1))
  all_goals (go_ret; refine ⟨by ((try simp only [bytes_eq] at *); simp [*]), ?_⟩; first | exact hb1 | exact hb0 | exact Below.refl _ _ | go_grown)
set_option maxHeartbeats 1000000 in
theorem walk174 (w : World) (x0 y0 : Value) (x1 y1 : Value) (x2 y2 : Value) (x3 y3 : Value) (x4 y4 : Value) (x5 y5 : Value) (r0 : Bool) (h0 : EqFn 39  (.agg #[x0, x1, x2, x3, x4]) (.agg #[y0, y1, y2, y3, y4]) r0 w) (r1 : Bool) (h1 : EqFn3 175 176 x5 y5 r1 w) :
    Calls Tryz.prog 174 #[.agg #[x0, x1, x2, x3, x4, x5], .agg #[y0, y1, y2, y3, y4, y5]] w fun e w' => e = .returned (.bool (r0 && r1)) ∧ Below w.heap.size w w' := by
  go_enter Tryz.func174, Tryz.ntmps174
  go_wp2_with (first
    | (go_at_call 39; refine (h0 _ (by go_grown)).mono ?_; rintro e W0 ⟨rfl, hW0⟩; have hc0 := below_cell hW0; simp only [World.size_alloc] at hc0; have hz0 : w.heap.size + 2 ≤ W0.heap.size := Nat.le_trans (by simp only [World.size_alloc]; omega) hW0.size; have hb0 : Below w.heap.size w W0 := Below.trans (by go_grown) (hW0.mono (by go_size)); clear hW0)
    | (go_at_call 175; refine (h1 _ hb0).mono ?_; rintro e W1 ⟨rfl, hW1⟩; have hc1 := below_cell (hW1.mono (B' := w.heap.size + 2) hz0); have hz1 : w.heap.size + 2 ≤ W1.heap.size := Nat.le_trans hz0 hW1.size; have hb1 : Below w.heap.size w W1 := Below.trans hb0 (hW1.mono (Nat.le_trans (by omega) hz0)); clear hW1))
  all_goals (go_ret; refine ⟨by ((try simp only [bytes_eq] at *); simp [*]), ?_⟩; first | exact hb1 | exact hb0 | exact Below.refl _ _ | go_grown)
set_option maxHeartbeats 1000000 in
theorem walk83 (w : World) (x0 y0 : Int) (x1 y1 : Int) (x2 y2 : Int) (x3 y3 : ByteArray) (x4 y4 : Value) (x5 y5 : Value) (x6 y6 : Value) (x7 y7 : Value) (x8 y8 : Value) (x9 y9 : Value) (x10 y10 : Value) (r0 : Bool) (h0 : EqFn 39  (.agg #[x4, x5, x6, x7, x8]) (.agg #[y4, y5, y6, y7, y8]) r0 w) (r1 : Bool) (h1 : EqFn 38  x9 y9 r1 w) (r2 : Bool) (h2 : EqFn3 173 174 x10 y10 r2 w) :
    Calls Tryz.prog 83 #[.agg #[.int .i64 x0, .int .i64 x1, .int .i64 x2, .string x3, x4, x5, x6, x7, x8, x9, x10], .agg #[.int .i64 y0, .int .i64 y1, .int .i64 y2, .string y3, y4, y5, y6, y7, y8, y9, y10]] w fun e w' => e = .returned (.bool (x0 == y0 && x1 == y1 && x2 == y2 && decide (x3 = y3) && r0 && r1 && r2)) ∧ Below w.heap.size w w' := by
  go_enter Tryz.func83, Tryz.ntmps83
  go_wp2_with (first
    | (go_at_call 39; refine (h0 _ (by go_grown)).mono ?_; rintro e W0 ⟨rfl, hW0⟩; have hc0 := below_cell hW0; simp only [World.size_alloc] at hc0; have hz0 : w.heap.size + 2 ≤ W0.heap.size := Nat.le_trans (by simp only [World.size_alloc]; omega) hW0.size; have hb0 : Below w.heap.size w W0 := Below.trans (by go_grown) (hW0.mono (by go_size)); clear hW0)
    | (go_at_call 38; refine (h1 _ hb0).mono ?_; rintro e W1 ⟨rfl, hW1⟩; have hc1 := below_cell (hW1.mono (B' := w.heap.size + 2) hz0); have hz1 : w.heap.size + 2 ≤ W1.heap.size := Nat.le_trans hz0 hW1.size; have hb1 : Below w.heap.size w W1 := Below.trans hb0 (hW1.mono (Nat.le_trans (by omega) hz0)); clear hW1)
    | (go_at_call 173; refine (h2 _ hb1).mono ?_; rintro e W2 ⟨rfl, hW2⟩; have hc2 := below_cell (hW2.mono (B' := w.heap.size + 2) hz1); have hz2 : w.heap.size + 2 ≤ W2.heap.size := Nat.le_trans hz1 hW2.size; have hb2 : Below w.heap.size w W2 := Below.trans hb1 (hW2.mono (Nat.le_trans (by omega) hz1)); clear hW2))
  all_goals (go_ret; refine ⟨by ((try simp only [bytes_eq] at *); simp [*]), ?_⟩; first | exact hb2 | exact hb1 | exact hb0 | exact Below.refl _ _ | go_grown)
set_option maxHeartbeats 1000000 in
theorem walk36 (w : World) (x0 y0 : Int) (x1 y1 : Value) (r0 : Bool) (h0 : EqFn 37  x1 y1 r0 w) :
    Calls Tryz.prog 36 #[.agg #[.int .i64 x0, x1], .agg #[.int .i64 y0, y1]] w fun e w' => e = .returned (.bool (x0 == y0 && r0)) ∧ Below w.heap.size w w' := by
  go_enter Tryz.func36, Tryz.ntmps36
  go_wp2_with (first
    | (go_at_call 37; refine (h0 _ (by go_grown)).mono ?_; rintro e W0 ⟨rfl, hW0⟩; have hc0 := below_cell hW0; simp only [World.size_alloc] at hc0; have hz0 : w.heap.size + 2 ≤ W0.heap.size := Nat.le_trans (by simp only [World.size_alloc]; omega) hW0.size; have hb0 : Below w.heap.size w W0 := Below.trans (by go_grown) (hW0.mono (by go_size)); clear hW0))
  all_goals (go_ret; refine ⟨by ((try simp only [bytes_eq] at *); simp [*]), ?_⟩; first | exact hb0 | exact Below.refl _ _ | go_grown)
set_option maxHeartbeats 1000000 in
theorem walk88 (w : World) (x0 y0 : Int) (x1 y1 : Int) (x2 y2 : ByteArray) (x3 y3 : Int) (x4 y4 : Int) (x5 y5 : Value) (r0 : Bool) (h0 : EqFn 89  x5 y5 r0 w) :
    Calls Tryz.prog 88 #[.agg #[.int .i64 x0, .int .i64 x1, .string x2, .int .i64 x3, .int .i64 x4, x5], .agg #[.int .i64 y0, .int .i64 y1, .string y2, .int .i64 y3, .int .i64 y4, y5]] w fun e w' => e = .returned (.bool (x0 == y0 && x1 == y1 && decide (x2 = y2) && x3 == y3 && x4 == y4 && r0)) ∧ Below w.heap.size w w' := by
  go_enter Tryz.func88, Tryz.ntmps88
  go_wp2_with (first
    | (go_at_call 89; refine (h0 _ (by go_grown)).mono ?_; rintro e W0 ⟨rfl, hW0⟩; have hc0 := below_cell hW0; simp only [World.size_alloc] at hc0; have hz0 : w.heap.size + 2 ≤ W0.heap.size := Nat.le_trans (by simp only [World.size_alloc]; omega) hW0.size; have hb0 : Below w.heap.size w W0 := Below.trans (by go_grown) (hW0.mono (by go_size)); clear hW0))
  all_goals (go_ret; refine ⟨by ((try simp only [bytes_eq] at *); simp [*]), ?_⟩; first | exact hb0 | exact Below.refl _ _ | go_grown)
end Go.Proofs.YtmhkceeiiklfdaaGreat
