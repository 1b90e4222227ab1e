/- A part of the proof of SpliceEqualsUptoSaid (texts: GrVal GrC124 GrC170 GrC171 GrCpV GrC237s). No conditions. -/
import Derived.Test.YtmhkceeiiklfdaaGreatG19
import Derived.Test.YtmhkceeiiklfdaaGreatG20
import Derived.Test.YtmhkceeiiklfdaaGreatG17
import Derived.WalkKit
import Derived.Test.YtmhkceeiiklfdaaGreatG18
set_option linter.unusedVariables false
set_option linter.unusedSimpArgs false
set_option linter.unusedVariables false
namespace Go.Proofs.YtmhkceeiiklfdaaGreat
open Go.RowKit
def IsHead (c : List T) : Prop := ∃ p i m d l, c = [.sl p, .lf (.int i), .lf (.int m), .sl d, .sl l] ∧ (∀ x ∈ p, IsProp x) ∧ (∀ x ∈ d, IsDel x) ∧ (∀ x ∈ l, IsLayer x)
def IsCell (P : List T → Prop) (c : List T) : Prop := ∃ i h fl, c = .lf (.int i) :: (h ++ [.sl fl]) ∧ IsHead h ∧ ∀ x ∈ fl, P x
def IsRow (P : List T → Prop) (c : List T) : Prop := ∃ h cs, c = h ++ [.sl cs] ∧ IsHead h ∧ ∀ x ∈ cs, IsCell P x
def IsItemOf (P : List T → Prop) (c : List T) : Prop := ∃ k o i s h fl rs, c = .lf (.int k) :: .lf (.int o) :: .lf (.int i) :: .lf (.str s) :: (h ++ [.sl fl, .sl rs]) ∧ IsHead h ∧ (∀ x ∈ fl, P x) ∧ ∀ x ∈ rs, IsRow P x
def IsItem : Nat → List T → Prop
  | 0 => fun _ => False
  | n + 1 => IsItemOf (IsItem n)
def IsList (c : List T) : Prop := ∃ i l, c = [.lf (.int i), .sl l] ∧ ∀ x ∈ l, IsLevel x
def IsStyle (c : List T) : Prop := ∃ i k s b n p, c = [.lf (.int i), .lf (.int k), .lf (.str s), .lf (.int b), .lf (.int n), .sl p] ∧ ∀ x ∈ p, IsProp x
theorem IsHead.len {c : List T} (h : IsHead c) : c.length = 5 := by obtain ⟨p, i, m, d, l, rfl, _⟩ := h; rfl
theorem IsCell.len {P : List T → Prop} {c : List T} (h : IsCell P c) : c.length = 7 := by obtain ⟨i, h, fl, rfl, hh, _⟩ := h; simp [hh.len]
theorem IsRow.len {P : List T → Prop} {c : List T} (h : IsRow P c) : c.length = 6 := by obtain ⟨h, cs, rfl, hh, _⟩ := h; simp [hh.len]
theorem IsItemOf.len {P : List T → Prop} {c : List T} (h : IsItemOf P c) : c.length = 11 := by obtain ⟨k, o, i, s, h, fl, rs, rfl, hh, _⟩ := h; simp [hh.len]
theorem IsList.len {c : List T} (h : IsList c) : c.length = 2 := by obtain ⟨i, l, rfl, _⟩ := h; rfl
theorem IsStyle.len {c : List T} (h : IsStyle c) : c.length = 6 := by obtain ⟨i, k, s, b, n, p, rfl, _⟩ := h; rfl
theorem RdL.app {w : World} {d : Nat} : ∀ {h r : List T} {us : List Value}, RdL w d (h ++ r) us → ∃ a b, us = a ++ b ∧ RdL w d h a ∧ RdL w d r b
  | [], r, us, hu => ⟨[], us, rfl, RdL.mk_nil, hu⟩
  | t :: h, r, us, hu => by
    obtain ⟨v, vs, rfl, h1, h2⟩ := hu.cons
    obtain ⟨a, b, rfl, h3, h4⟩ := RdL.app h2
    exact ⟨v :: a, b, rfl, RdL.mk_cons h1 h3, h4⟩
theorem RdL.five {w : World} {d : Nat} {h : List T} {us : List Value} (hh : h.length = 5) (hu : RdL w d h us) : ∃ a b c e f, us = [a, b, c, e, f] := by
  have hl := hu.1
  rw [hh] at hl
  match us, hl with
  | [a, b, c, e, f], _ => exact ⟨a, b, c, e, f, rfl⟩
theorem app_iff {α : Type} {s₁ s₂ t₁ t₂ : List α} (h : s₁.length = s₂.length) : s₁ ++ t₁ = s₂ ++ t₂ ↔ s₁ = s₂ ∧ t₁ = t₂ := ⟨fun e => List.append_inj e h, fun ⟨a, b⟩ => by rw [a, b]⟩
open Classical
theorem eq39 : EqV 39 IsHead := by
  rintro w d d' c c' us vs hu hv ⟨p, i, m, dd, l, rfl, pp, pd, pl⟩ ⟨p', i', m', dd', l', rfl, pp', pd', pl'⟩
  obtain ⟨v0, _, rfl, r0, hu⟩ := hu.cons
  obtain ⟨v1, _, rfl, r1, hu⟩ := hu.cons
  obtain ⟨v2, _, rfl, r2, hu⟩ := hu.cons
  obtain ⟨v3, _, rfl, r3, hu⟩ := hu.cons
  obtain ⟨v4, _, rfl, r4, hu⟩ := hu.cons
  obtain rfl := hu.nil
  obtain ⟨u0, _, rfl, s0, hv⟩ := hv.cons
  obtain ⟨u1, _, rfl, s1, hv⟩ := hv.cons
  obtain ⟨u2, _, rfl, s2, hv⟩ := hv.cons
  obtain ⟨u3, _, rfl, s3, hv⟩ := hv.cons
  obtain ⟨u4, _, rfl, s4, hv⟩ := hv.cons
  obtain rfl := hv.nil
  obtain rfl : v1 = .int .i64 i := r1.lf
  obtain rfl : v2 = .int .i64 m := r2.lf
  obtain rfl : u1 = .int .i64 i' := s1.lf
  obtain rfl : u2 = .int .i64 m' := s2.lf
  refine (walk39 w _ _ _ _ _ _ _ _ _ _ _ (eq84.fn r0 s0 pp pp') _ (eq85.fn r3 s3 pd pd') _ (eq86.fn r4 s4 pl pl')).mono ?_
  rintro e w' ⟨rfl, hb⟩
  exact ⟨_, rfl, by simp [and_assoc], hb⟩
theorem eq36 : EqV 36 IsList := by
  rintro w d d' c c' us vs hu hv ⟨i, l, rfl, pl⟩ ⟨i', l', rfl, pl'⟩
  obtain ⟨v0, _, rfl, r0, hu⟩ := hu.cons
  obtain ⟨v1, _, rfl, r1, hu⟩ := hu.cons
  obtain rfl := hu.nil
  obtain ⟨u0, _, rfl, s0, hv⟩ := hv.cons
  obtain ⟨u1, _, rfl, s1, hv⟩ := hv.cons
  obtain rfl := hv.nil
  obtain rfl : v0 = .int .i64 i := r0.lf
  obtain rfl : u0 = .int .i64 i' := s0.lf
  refine (walk36 w _ _ _ _ _ (eq37.fn r1 s1 pl pl')).mono ?_
  rintro e w' ⟨rfl, hb⟩
  exact ⟨_, rfl, by simp [and_assoc], hb⟩
theorem eq88 (h89 : EqC 89 IsProp) : EqV 88 IsStyle := by
  rintro w d d' c c' us vs hu hv ⟨i, k, s, b, n, p, rfl, pp⟩ ⟨i', k', s', b', n', p', rfl, pp'⟩
  obtain ⟨v0, _, rfl, r0, hu⟩ := hu.cons
  obtain ⟨v1, _, rfl, r1, hu⟩ := hu.cons
  obtain ⟨v2, _, rfl, r2, hu⟩ := hu.cons
  obtain ⟨v3, _, rfl, r3, hu⟩ := hu.cons
  obtain ⟨v4, _, rfl, r4, hu⟩ := hu.cons
  obtain ⟨v5, _, rfl, r5, hu⟩ := hu.cons
  obtain rfl := hu.nil
  obtain ⟨u0, _, rfl, s0, hv⟩ := hv.cons
  obtain ⟨u1, _, rfl, s1, hv⟩ := hv.cons
  obtain ⟨u2, _, rfl, s2, hv⟩ := hv.cons
  obtain ⟨u3, _, rfl, s3, hv⟩ := hv.cons
  obtain ⟨u4, _, rfl, s4, hv⟩ := hv.cons
  obtain ⟨u5, _, rfl, s5, hv⟩ := hv.cons
  obtain rfl := hv.nil
  obtain rfl : v0 = .int .i64 i := r0.lf
  obtain rfl : v1 = .int .i64 k := r1.lf
  obtain rfl : v2 = .string s := r2.lf
  obtain rfl : v3 = .int .i64 b := r3.lf
  obtain rfl : v4 = .int .i64 n := r4.lf
  obtain rfl : u0 = .int .i64 i' := s0.lf
  obtain rfl : u1 = .int .i64 k' := s1.lf
  obtain rfl : u2 = .string s' := s2.lf
  obtain rfl : u3 = .int .i64 b' := s3.lf
  obtain rfl : u4 = .int .i64 n' := s4.lf
  refine (walk88 w _ _ _ _ _ _ _ _ _ _ _ _ _ (h89.fn r5 s5 pp pp')).mono ?_
  rintro e w' ⟨rfl, hb⟩
  exact ⟨_, rfl, by simp [and_assoc], hb⟩
theorem eq176 {P : List T → Prop} (h38 : EqC 38 P) : EqV 176 (IsCell P) := by
  rintro w d d' c c' us vs hu hv ⟨i, h, fl, rfl, ph, pf⟩ ⟨i', h', fl', rfl, ph', pf'⟩
  obtain ⟨v0, _, rfl, r0, hu⟩ := hu.cons
  obtain ⟨a, _, rfl, ra, hu⟩ := hu.app
  obtain ⟨v1, _, rfl, r1, hu⟩ := hu.cons
  obtain rfl := hu.nil
  obtain ⟨u0, _, rfl, s0, hv⟩ := hv.cons
  obtain ⟨a', _, rfl, sa, hv⟩ := hv.app
  obtain ⟨u1, _, rfl, s1, hv⟩ := hv.cons
  obtain rfl := hv.nil
  obtain rfl : v0 = .int .i64 i := r0.lf
  obtain rfl : u0 = .int .i64 i' := s0.lf
  obtain ⟨a0, a1, a2, a3, a4, rfl⟩ := ra.five ph.len
  obtain ⟨b0, b1, b2, b3, b4, rfl⟩ := sa.five ph'.len
  refine (walk176 w _ _ _ _ _ _ _ _ _ _ _ _ _ _ _ (eq39.fn ra sa ph ph') _ (h38.fn r1 s1 pf pf')).mono ?_
  rintro e w' ⟨rfl, hb⟩
  refine ⟨_, rfl, ?_, hb⟩
  simp only [Bool.and_eq_true, beq_iff_eq, decide_eq_true_eq, List.cons.injEq, T.lf.injEq, Lf.int.injEq, and_assoc]
  rw [app_iff (by rw [ph.len, ph'.len])]
  simp
theorem eq174 {P : List T → Prop} (h175 : EqC3 175 176 (IsCell P)) : EqV 174 (IsRow P) := by
  rintro w d d' c c' us vs hu hv ⟨h, cs, rfl, ph, pf⟩ ⟨h', cs', rfl, ph', pf'⟩
  obtain ⟨a, _, rfl, ra, hu⟩ := hu.app
  obtain ⟨v1, _, rfl, r1, hu⟩ := hu.cons
  obtain rfl := hu.nil
  obtain ⟨a', _, rfl, sa, hv⟩ := hv.app
  obtain ⟨u1, _, rfl, s1, hv⟩ := hv.cons
  obtain rfl := hv.nil
  obtain ⟨a0, a1, a2, a3, a4, rfl⟩ := ra.five ph.len
  obtain ⟨b0, b1, b2, b3, b4, rfl⟩ := sa.five ph'.len
  refine (walk174 w _ _ _ _ _ _ _ _ _ _ _ _ _ (eq39.fn ra sa ph ph') _ (h175.fn r1 s1 pf pf')).mono ?_
  rintro e w' ⟨rfl, hb⟩
  refine ⟨_, rfl, ?_, hb⟩
  simp only [Bool.and_eq_true, beq_iff_eq, decide_eq_true_eq, and_assoc]
  rw [app_iff (by rw [ph.len, ph'.len])]
  simp
theorem eq83 {P : List T → Prop} (h38 : EqC 38 P) (h173 : EqC3 173 174 (IsRow P)) : EqV 83 (IsItemOf P) := by
  rintro w d d' c c' us vs hu hv ⟨k, o, i, s, h, fl, rs, rfl, ph, pf, pr⟩ ⟨k', o', i', s', h', fl', rs', rfl, ph', pf', pr'⟩
  obtain ⟨v0, _, rfl, r0, hu⟩ := hu.cons
  obtain ⟨v1, _, rfl, r1, hu⟩ := hu.cons
  obtain ⟨v2, _, rfl, r2, hu⟩ := hu.cons
  obtain ⟨v3, _, rfl, r3, hu⟩ := hu.cons
  obtain ⟨a, _, rfl, ra, hu⟩ := hu.app
  obtain ⟨v4, _, rfl, r4, hu⟩ := hu.cons
  obtain ⟨v5, _, rfl, r5, hu⟩ := hu.cons
  obtain rfl := hu.nil
  obtain ⟨u0, _, rfl, s0, hv⟩ := hv.cons
  obtain ⟨u1, _, rfl, s1, hv⟩ := hv.cons
  obtain ⟨u2, _, rfl, s2, hv⟩ := hv.cons
  obtain ⟨u3, _, rfl, s3, hv⟩ := hv.cons
  obtain ⟨a', _, rfl, sa, hv⟩ := hv.app
  obtain ⟨u4, _, rfl, s4, hv⟩ := hv.cons
  obtain ⟨u5, _, rfl, s5, hv⟩ := hv.cons
  obtain rfl := hv.nil
  obtain rfl : v0 = .int .i64 k := r0.lf
  obtain rfl : v1 = .int .i64 o := r1.lf
  obtain rfl : v2 = .int .i64 i := r2.lf
  obtain rfl : v3 = .string s := r3.lf
  obtain rfl : u0 = .int .i64 k' := s0.lf
  obtain rfl : u1 = .int .i64 o' := s1.lf
  obtain rfl : u2 = .int .i64 i' := s2.lf
  obtain rfl : u3 = .string s' := s3.lf
  obtain ⟨a0, a1, a2, a3, a4, rfl⟩ := ra.five ph.len
  obtain ⟨b0, b1, b2, b3, b4, rfl⟩ := sa.five ph'.len
  refine (walk83 w _ _ _ _ _ _ _ _ _ _ _ _ _ _ _ _ _ _ _ _ _ _ _ (eq39.fn ra sa ph ph') _ (h38.fn r4 s4 pf pf') _ (h173.fn r5 s5 pr pr')).mono ?_
  rintro e w' ⟨rfl, hb⟩
  refine ⟨_, rfl, ?_, hb⟩
  simp only [Bool.and_eq_true, beq_iff_eq, decide_eq_true_eq, List.cons.injEq, T.lf.injEq, Lf.int.injEq, Lf.str.injEq, and_assoc]
  rw [app_iff (by rw [ph.len, ph'.len])]
  simp
end Go.Proofs.YtmhkceeiiklfdaaGreat
set_option linter.unusedVariables false
set_option linter.unusedSimpArgs false
set_option maxRecDepth 20000
namespace Go.Proofs.YtmhkceeiiklfdaaGreat
open Go.RowKit
set_option maxHeartbeats 2000000 in
theorem walk124 (w : World) (d : Nat) (x0 : Value) (x1 : Int) (x2 : Int) (x3 : Value) (x4 : Value) (t0 : T) (h0 : CpFn 226 x0 d t0 w) (t1 : T) (h1 : CpFn 227 x3 d t1 w) (t2 : T) (h2 : CpFn 228 x4 d t2 w) :
    Calls Tryz.prog 124 #[.agg #[x0, .int .i64 x1, .int .i64 x2, x3, x4]] w fun e w' => ∃ (a0 : Option Addr) (n0 c0 : Nat) (a1 : Option Addr) (n1 c1 : Nat) (a2 : Option Addr) (n2 c2 : Nat), e = .returned (.agg #[.slice a0 n0 c0, .int .i64 x1, .int .i64 x2, .slice a1 n1 c1, .slice a2 n2 c2]) ∧ RdA (fun b => w.heap.size ≤ b ∧ b < w'.heap.size) w' d t0 (.slice a0 n0 c0) ∧ RdA (fun b => w.heap.size ≤ b ∧ b < w'.heap.size) w' d t1 (.slice a1 n1 c1) ∧ RdA (fun b => w.heap.size ≤ b ∧ b < w'.heap.size) w' d t2 (.slice a2 n2 c2) ∧ Below w.heap.size w w' := by
  go_enter Tryz.func124, Tryz.ntmps124
  go_wp2_with (go_at_call 226; refine (h0 _ ?_).mono ?_; (focus (show Below _ _ _; go_grown)); rintro e W0 ⟨a0, n0, c0, rfl, r0, hW0⟩; have hc0 := below_cell (hW0.mono (B' := w.heap.size + 2) (by go_size)); have hf0 := below_frozen (hW0.mono (B' := w.heap.size + 2) (by go_size)); have hz0 : w.heap.size + 2 ≤ W0.heap.size := Nat.le_trans (by go_size) hW0.size; have hb0 : Below w.heap.size w W0 := Below.trans (by go_grown) (hW0.mono (by go_size)))
  go_region_with (first
    | (go_at_call 227; refine (h1 _ ?_).mono ?_; (focus (show Below _ _ _; exact hb0.trans (by go_grown))); rintro e W1 ⟨a1, n1, c1, rfl, r1, hW1⟩; have hc1 := below_cell (hW1.mono (B' := w.heap.size + 2) (by go_size)); have hf1 := below_frozen (hW1.mono (B' := w.heap.size + 2) (by go_size)); have hz1 : w.heap.size + 2 ≤ W1.heap.size := Nat.le_trans (by go_size) hW1.size; have hb1 : Below w.heap.size w W1 := Below.trans hb0 (Below.trans (by go_grown) (hW1.mono (by go_size))))
    | (go_at_call 228; refine (h2 _ ?_).mono ?_; (focus (show Below _ _ _; exact hb1.trans (by go_grown))); rintro e W2 ⟨a2, n2, c2, rfl, r2, hW2⟩; have hc2 := below_cell (hW2.mono (B' := w.heap.size + 2) (by go_size)); have hf2 := below_frozen (hW2.mono (B' := w.heap.size + 2) (by go_size)); have hz2 : w.heap.size + 2 ≤ W2.heap.size := Nat.le_trans (by go_size) hW2.size; have hb2 : Below w.heap.size w W2 := Below.trans hb1 (Below.trans (by go_grown) (hW2.mono (by go_size)))))
  all_goals go_wp2
  all_goals (
    (try simp only [Exit.inBlock, Exit.then])
    refine bodyPost_ret (v := .agg #[.slice a0 n0 c0, .int .i64 x1, .int .i64 x2, .slice a1 n1 c1, .slice a2 n2 c2]) ?_ rfl ?_
    · have hres : Tryz.f124.results = #[.cell 2 34] := rfl
      simp only [results, hres]
      go_simp
    · have hs0 := hW0.size
      have hs1 := hW1.size
      have hs2 := hW2.size
      try simp only [World.size_alloc, World.size_setCell, World.size_drew] at hs0 hs1 hs2
      refine ⟨_, _, _, _, _, _, _, _, _, rfl, ?_, ?_, ?_, hb2.trans (by go_grown)⟩
      · refine r0.frame (fun b hb => ?_) (fun b hb => (?_ : Same _ _ _ _) b hb.1 hb.2)
        · (try simp only [World.size_alloc, World.size_setCell, World.size_drew] at hb ⊢); omega
        · repeat (first | (with_reducible exact Same.refl _ _ _) | (with_reducible refine Same.setCell ?_ _ ?_) | (with_reducible refine Same.drew ?_) | (with_reducible refine Same.below ?_ hW0 ?_) | (with_reducible refine Same.below ?_ hW1 ?_) | (with_reducible refine Same.below ?_ hW2 ?_) | (with_reducible refine Same.alloc ?_ _ ?_))
          all_goals ((try simp only [World.size_alloc, World.size_setCell, World.size_drew]); omega)
      · refine r1.frame (fun b hb => ?_) (fun b hb => (?_ : Same _ _ _ _) b hb.1 hb.2)
        · (try simp only [World.size_alloc, World.size_setCell, World.size_drew] at hb ⊢); omega
        · repeat (first | (with_reducible exact Same.refl _ _ _) | (with_reducible refine Same.setCell ?_ _ ?_) | (with_reducible refine Same.drew ?_) | (with_reducible refine Same.below ?_ hW0 ?_) | (with_reducible refine Same.below ?_ hW1 ?_) | (with_reducible refine Same.below ?_ hW2 ?_) | (with_reducible refine Same.alloc ?_ _ ?_))
          all_goals ((try simp only [World.size_alloc, World.size_setCell, World.size_drew]); omega)
      · refine r2.frame (fun b hb => ?_) (fun b hb => (?_ : Same _ _ _ _) b hb.1 hb.2)
        · (try simp only [World.size_alloc, World.size_setCell, World.size_drew] at hb ⊢); omega
        · repeat (first | (with_reducible exact Same.refl _ _ _) | (with_reducible refine Same.setCell ?_ _ ?_) | (with_reducible refine Same.drew ?_) | (with_reducible refine Same.below ?_ hW0 ?_) | (with_reducible refine Same.below ?_ hW1 ?_) | (with_reducible refine Same.below ?_ hW2 ?_) | (with_reducible refine Same.alloc ?_ _ ?_))
          all_goals ((try simp only [World.size_alloc, World.size_setCell, World.size_drew]); omega))
end Go.Proofs.YtmhkceeiiklfdaaGreat
set_option linter.unusedVariables false
set_option linter.unusedSimpArgs false
set_option maxRecDepth 20000
namespace Go.Proofs.YtmhkceeiiklfdaaGreat
open Go.RowKit
set_option maxHeartbeats 2000000 in
theorem walk170 (w : World) (d : Nat) (x0 : Value) (x1 : Int) (x2 : Int) (x3 : Value) (x4 : Value) (x5 : Value) (q0 : List T) (h0 : CpHd 124 #[x0, .int .i64 x1, .int .i64 x2, x3, x4] d q0 w) (t1 : T) (h1 : CpF2 230 171 x5 d t1 w) :
    Calls Tryz.prog 170 #[.agg #[x0, .int .i64 x1, .int .i64 x2, x3, x4, x5]] w fun e w' => ∃ (a0_0 : Option Addr) (n0_0 c0_0 : Nat) (i0 m0 : Int) (a0_3 : Option Addr) (n0_3 c0_3 : Nat) (a0_4 : Option Addr) (n0_4 c0_4 : Nat) (a1 : Option Addr) (n1 c1 : Nat), e = .returned (.agg #[.slice a0_0 n0_0 c0_0, .int .i64 i0, .int .i64 m0, .slice a0_3 n0_3 c0_3, .slice a0_4 n0_4 c0_4, .slice a1 n1 c1]) ∧ RdAL (fun b => w.heap.size ≤ b ∧ b < w'.heap.size) w' d q0 [.slice a0_0 n0_0 c0_0, .int .i64 i0, .int .i64 m0, .slice a0_3 n0_3 c0_3, .slice a0_4 n0_4 c0_4] ∧ RdA (fun b => w.heap.size ≤ b ∧ b < w'.heap.size) w' d t1 (.slice a1 n1 c1) ∧ Below w.heap.size w w' := by
  go_enter Tryz.func170, Tryz.ntmps170
  go_wp2
  go_region_with (first
    | (go_at_call 124; refine (h0 _ ?_).mono ?_; (focus (show Below _ _ _; go_grown)); rintro e W0 ⟨a0_0, n0_0, c0_0, i0, m0, a0_3, n0_3, c0_3, a0_4, n0_4, c0_4, rfl, r0, hW0⟩; have hc0 := below_cell (hW0.mono (B' := w.heap.size + 2) (by go_size)); have hf0 := below_frozen (hW0.mono (B' := w.heap.size + 2) (by go_size)); have hz0 : w.heap.size + 2 ≤ W0.heap.size := Nat.le_trans (by go_size) hW0.size; have hb0 : Below w.heap.size w W0 := Below.trans (by go_grown) (hW0.mono (by go_size)))
    | (go_at_call 230; refine (h1 _ ?_).mono ?_; (focus (show Below _ _ _; exact hb0.trans (by go_grown))); rintro e W1 ⟨a1, n1, c1, rfl, r1, hW1⟩; have hc1 := below_cell (hW1.mono (B' := w.heap.size + 2) (by go_size)); have hf1 := below_frozen (hW1.mono (B' := w.heap.size + 2) (by go_size)); have hz1 : w.heap.size + 2 ≤ W1.heap.size := Nat.le_trans (by go_size) hW1.size; have hb1 : Below w.heap.size w W1 := Below.trans hb0 (Below.trans (by go_grown) (hW1.mono (by go_size)))))
  all_goals go_wp2
  all_goals (
    (try simp only [Exit.inBlock, Exit.then])
    refine bodyPost_ret (v := .agg #[.slice a0_0 n0_0 c0_0, .int .i64 i0, .int .i64 m0, .slice a0_3 n0_3 c0_3, .slice a0_4 n0_4 c0_4, .slice a1 n1 c1]) ?_ rfl ?_
    · have hres : Tryz.f170.results = #[.cell 2 188] := rfl
      simp only [results, hres]
      go_simp
    · have hs0 := hW0.size
      have hs1 := hW1.size
      try simp only [World.size_alloc, World.size_setCell, World.size_drew] at hs0 hs1
      refine ⟨_, _, _, _, _, _, _, _, _, _, _, _, _, _, rfl, ?_, ?_, hb1.trans (by go_grown)⟩
      · refine r0.frame (fun b hb => ?_) (fun b hb => (?_ : Same _ _ _ _) b hb.1 hb.2)
        · (try simp only [World.size_alloc, World.size_setCell, World.size_drew] at hb ⊢); omega
        · repeat (first | (with_reducible exact Same.refl _ _ _) | (with_reducible refine Same.setCell ?_ _ ?_) | (with_reducible refine Same.drew ?_) | (with_reducible refine Same.below ?_ hW0 ?_) | (with_reducible refine Same.below ?_ hW1 ?_) | (with_reducible refine Same.alloc ?_ _ ?_))
          all_goals ((try simp only [World.size_alloc, World.size_setCell, World.size_drew]); omega)
      · refine r1.frame (fun b hb => ?_) (fun b hb => (?_ : Same _ _ _ _) b hb.1 hb.2)
        · (try simp only [World.size_alloc, World.size_setCell, World.size_drew] at hb ⊢); omega
        · repeat (first | (with_reducible exact Same.refl _ _ _) | (with_reducible refine Same.setCell ?_ _ ?_) | (with_reducible refine Same.drew ?_) | (with_reducible refine Same.below ?_ hW0 ?_) | (with_reducible refine Same.below ?_ hW1 ?_) | (with_reducible refine Same.alloc ?_ _ ?_))
          all_goals ((try simp only [World.size_alloc, World.size_setCell, World.size_drew]); omega))
end Go.Proofs.YtmhkceeiiklfdaaGreat
set_option linter.unusedVariables false
set_option linter.unusedSimpArgs false
set_option maxRecDepth 20000
namespace Go.Proofs.YtmhkceeiiklfdaaGreat
open Go.RowKit
set_option maxHeartbeats 2000000 in
theorem walk171 (w : World) (d : Nat) (x0 : Int) (x1 : Value) (x2 : Int) (x3 : Int) (x4 : Value) (x5 : Value) (x6 : Value) (q0 : List T) (h0 : CpHd 124 #[x1, .int .i64 x2, .int .i64 x3, x4, x5] d q0 w) (t1 : T) (h1 : CpFn 136 x6 d t1 w) :
    Calls Tryz.prog 171 #[.agg #[.int .i64 x0, x1, .int .i64 x2, .int .i64 x3, x4, x5, x6]] w fun e w' => ∃ (a0_0 : Option Addr) (n0_0 c0_0 : Nat) (i0 m0 : Int) (a0_3 : Option Addr) (n0_3 c0_3 : Nat) (a0_4 : Option Addr) (n0_4 c0_4 : Nat) (a1 : Option Addr) (n1 c1 : Nat), e = .returned (.agg #[.int .i64 x0, .slice a0_0 n0_0 c0_0, .int .i64 i0, .int .i64 m0, .slice a0_3 n0_3 c0_3, .slice a0_4 n0_4 c0_4, .slice a1 n1 c1]) ∧ RdAL (fun b => w.heap.size ≤ b ∧ b < w'.heap.size) w' d q0 [.slice a0_0 n0_0 c0_0, .int .i64 i0, .int .i64 m0, .slice a0_3 n0_3 c0_3, .slice a0_4 n0_4 c0_4] ∧ RdA (fun b => w.heap.size ≤ b ∧ b < w'.heap.size) w' d t1 (.slice a1 n1 c1) ∧ Below w.heap.size w w' := by
  go_enter Tryz.func171, Tryz.ntmps171
  go_wp2
  go_region_with (first
    | (go_at_call 124; refine (h0 _ ?_).mono ?_; (focus (show Below _ _ _; go_grown)); rintro e W0 ⟨a0_0, n0_0, c0_0, i0, m0, a0_3, n0_3, c0_3, a0_4, n0_4, c0_4, rfl, r0, hW0⟩; have hc0 := below_cell (hW0.mono (B' := w.heap.size + 2) (by go_size)); have hf0 := below_frozen (hW0.mono (B' := w.heap.size + 2) (by go_size)); have hz0 : w.heap.size + 2 ≤ W0.heap.size := Nat.le_trans (by go_size) hW0.size; have hb0 : Below w.heap.size w W0 := Below.trans (by go_grown) (hW0.mono (by go_size)))
    | (go_at_call 136; refine (h1 _ ?_).mono ?_; (focus (show Below _ _ _; exact hb0.trans (by go_grown))); rintro e W1 ⟨a1, n1, c1, rfl, r1, hW1⟩; have hc1 := below_cell (hW1.mono (B' := w.heap.size + 2) (by go_size)); have hf1 := below_frozen (hW1.mono (B' := w.heap.size + 2) (by go_size)); have hz1 : w.heap.size + 2 ≤ W1.heap.size := Nat.le_trans (by go_size) hW1.size; have hb1 : Below w.heap.size w W1 := Below.trans hb0 (Below.trans (by go_grown) (hW1.mono (by go_size)))))
  all_goals go_wp2
  all_goals (
    (try simp only [Exit.inBlock, Exit.then])
    refine bodyPost_ret (v := .agg #[.int .i64 x0, .slice a0_0 n0_0 c0_0, .int .i64 i0, .int .i64 m0, .slice a0_3 n0_3 c0_3, .slice a0_4 n0_4 c0_4, .slice a1 n1 c1]) ?_ rfl ?_
    · have hres : Tryz.f171.results = #[.cell 2 193] := rfl
      simp only [results, hres]
      go_simp
    · have hs0 := hW0.size
      have hs1 := hW1.size
      try simp only [World.size_alloc, World.size_setCell, World.size_drew] at hs0 hs1
      refine ⟨_, _, _, _, _, _, _, _, _, _, _, _, _, _, rfl, ?_, ?_, hb1.trans (by go_grown)⟩
      · refine r0.frame (fun b hb => ?_) (fun b hb => (?_ : Same _ _ _ _) b hb.1 hb.2)
        · (try simp only [World.size_alloc, World.size_setCell, World.size_drew] at hb ⊢); omega
        · repeat (first | (with_reducible exact Same.refl _ _ _) | (with_reducible refine Same.setCell ?_ _ ?_) | (with_reducible refine Same.drew ?_) | (with_reducible refine Same.below ?_ hW0 ?_) | (with_reducible refine Same.below ?_ hW1 ?_) | (with_reducible refine Same.alloc ?_ _ ?_))
          all_goals ((try simp only [World.size_alloc, World.size_setCell, World.size_drew]); omega)
      · refine r1.frame (fun b hb => ?_) (fun b hb => (?_ : Same _ _ _ _) b hb.1 hb.2)
        · (try simp only [World.size_alloc, World.size_setCell, World.size_drew] at hb ⊢); omega
        · repeat (first | (with_reducible exact Same.refl _ _ _) | (with_reducible refine Same.setCell ?_ _ ?_) | (with_reducible refine Same.drew ?_) | (with_reducible refine Same.below ?_ hW0 ?_) | (with_reducible refine Same.below ?_ hW1 ?_) | (with_reducible refine Same.alloc ?_ _ ?_))
          all_goals ((try simp only [World.size_alloc, World.size_setCell, World.size_drew]); omega))
end Go.Proofs.YtmhkceeiiklfdaaGreat
set_option linter.unusedVariables false
set_option linter.unusedSimpArgs false
namespace Go.Proofs.YtmhkceeiiklfdaaGreat
open Go.RowKit
theorem RdA.slice {S : Nat → Prop} {w : World} : ∀ {d : Nat} {es : List (List T)} {v : Value}, RdA S w d (.sl es) v → ∃ a n c, v = .slice a n c
  | 0, es, v, h => h.elim
  | d + 1, es, v, h => by obtain ⟨a, cap, rfl, _⟩ := h; exact ⟨_, _, _, rfl⟩
theorem FlC.fn {f : FuncId} {P : List T → Prop} (h : FlC f P) {w : World} {d : Nat} {es : List (List T)} {v : Value} (he : Rd w d (.sl es) v) (pe : ∀ c ∈ es, P c) : CpFn f v d (.sl es) w := fun W hW => by
  refine (h W d es v (he.below hW) pe).mono ?_
  rintro e W' ⟨v', rfl, hr, hb⟩
  obtain ⟨a, n, c, rfl⟩ := hr.slice
  exact ⟨a, n, c, rfl, hr, hb⟩
theorem EaC.fn {f g : FuncId} {P : List T → Prop} (h : EaC f g P) {w : World} {d : Nat} {es : List (List T)} {v : Value} (he : Rd w d (.sl es) v) (pe : ∀ c ∈ es, P c) : CpF2 f g v d (.sl es) w := fun W hW => by
  refine (h W d es v (he.below hW) pe).mono ?_
  rintro e W' ⟨v', rfl, hr, hb⟩
  obtain ⟨a, n, c, rfl⟩ := hr.slice
  exact ⟨a, n, c, rfl, hr, hb⟩
theorem fl226 : FlC 226 IsProp := FlC.of (cl226 IsProp (fun c => lenProp)) (fun c hc t ht => by obtain ⟨x, y, rfl⟩ := hc; simp at ht; rcases ht with rfl | rfl <;> exact ⟨_, rfl⟩)
theorem fl227 : FlC 227 IsDel := FlC.of (cl227 IsDel (fun c => lenDel)) (fun c hc t ht => by obtain ⟨x, y, rfl⟩ := hc; simp at ht; rcases ht with rfl | rfl <;> exact ⟨_, rfl⟩)
theorem fl228 : FlC 228 IsLayer := FlC.of (cl228 IsLayer (fun c => lenLayer)) (fun c hc t ht => by obtain ⟨x, y, z, u, rfl⟩ := hc; simp at ht; rcases ht with rfl | rfl | rfl | rfl <;> exact ⟨_, rfl⟩)
theorem fl55 : FlC 55 IsRev := FlC.of (cl55 IsRev (fun c => lenRev)) (fun c hc t ht => by obtain ⟨x, y, z, rfl⟩ := hc; simp at ht; rcases ht with rfl | rfl | rfl <;> exact ⟨_, rfl⟩)
theorem fl240 : FlC 240 IsComment := FlC.of (cl240 IsComment (fun c => lenComment)) (fun c hc t ht => by obtain ⟨x, y, z, u, v, s, rfl⟩ := hc; simp at ht; rcases ht with rfl | rfl | rfl | rfl | rfl | rfl <;> exact ⟨_, rfl⟩)
theorem fl241 : FlC 241 IsVar := FlC.of (cl241 IsVar (fun c => lenVar)) (fun c hc t ht => by obtain ⟨x, y, rfl⟩ := hc; simp at ht; rcases ht with rfl | rfl <;> exact ⟨_, rfl⟩)
theorem fl242 : FlC 242 IsLevel := FlC.of (cl242 IsLevel (fun c => lenLevel)) (fun c hc t ht => by obtain ⟨x, y, z, u, rfl⟩ := hc; simp at ht; rcases ht with rfl | rfl | rfl | rfl <;> exact ⟨_, rfl⟩)
/-- CloneHead -/
theorem hd124 {w : World} {d : Nat} {c : List T} {us : List Value} (hu : RdL w d c us) (hc : IsHead c) : CpHd 124 us.toArray d c w := fun W hW => by
  obtain ⟨p, i, m, dd, l, rfl, pp, pd, pl⟩ := hc
  obtain ⟨v0, _, rfl, r0, hu⟩ := (hu.below hW).cons
  obtain ⟨v1, _, rfl, r1, hu⟩ := hu.cons
  obtain ⟨v2, _, rfl, r2, hu⟩ := hu.cons
  obtain ⟨v3, _, rfl, r3, hu⟩ := hu.cons
  obtain ⟨v4, _, rfl, r4, hu⟩ := hu.cons
  obtain rfl := hu.nil
  obtain rfl : v1 = .int .i64 i := r1.lf
  obtain rfl : v2 = .int .i64 m := r2.lf
  refine (walk124 W d v0 i m v3 v4 _ (fl226.fn r0 pp) _ (fl227.fn r3 pd) _ (fl228.fn r4 pl)).mono ?_
  rintro e W' ⟨a0, n0, c0, a3, n3, c3, a4, n4, c4, rfl, q0, q3, q4, hb⟩
  exact ⟨a0, n0, c0, i, m, a3, n3, c3, a4, n4, c4, rfl, .mk_cons q0 (.mk_cons (RdA.of_lf _ _ _ (.int i)) (.mk_cons (RdA.of_lf _ _ _ (.int m)) (.mk_cons q3 (.mk_cons q4 .mk_nil)))), hb⟩
theorem cv171 {P : List T → Prop} (h136 : FlC 136 P) : ClV 171 (IsCell P) := by
  rintro w d c us hu ⟨i, h, fl, rfl, ph, pf⟩
  obtain ⟨v0, _, rfl, r0, hu⟩ := hu.cons
  obtain ⟨a, _, rfl, ra, hu⟩ := hu.app
  obtain ⟨v1, _, rfl, r1, hu⟩ := hu.cons
  obtain rfl := hu.nil
  obtain rfl : v0 = .int .i64 i := r0.lf
  obtain ⟨a0, a1, a2, a3, a4, rfl⟩ := ra.five ph.len
  have hh := hd124 ra ph
  obtain ⟨p, j, m, dd, l, rfl, _⟩ := ph
  obtain ⟨_, _, hx1, _, ra⟩ := ra.cons
  obtain ⟨_, _, hx2, rj, ra⟩ := ra.cons
  obtain ⟨_, _, hx3, rm, ra⟩ := ra.cons
  simp only [List.cons.injEq] at hx1
  obtain ⟨rfl, rfl⟩ := hx1
  simp only [List.cons.injEq] at hx2
  obtain ⟨rfl, rfl⟩ := hx2
  simp only [List.cons.injEq] at hx3
  obtain ⟨rfl, rfl⟩ := hx3
  obtain rfl : a1 = .int .i64 j := rj.lf
  obtain rfl : a2 = .int .i64 m := rm.lf
  refine (walk171 w d _ _ _ _ _ _ _ _ hh _ (h136.fn r1 pf)).mono ?_
  rintro e W' ⟨a0, n0, c0, i0, m0, a3, n3, c3, a4, n4, c4, a1, n1, c1, rfl, q0, q1, hb⟩
  exact ⟨_, rfl, .mk_cons (RdA.of_lf _ _ _ (.int i)) (.append (vs := [_, _, _, _, _]) q0 (.mk_cons q1 .mk_nil)), hb⟩
theorem cv170 {P : List T → Prop} (h230 : EaC 230 171 (IsCell P)) : ClV 170 (IsRow P) := by
  rintro w d c us hu ⟨h, cs, rfl, ph, pf⟩
  obtain ⟨a, _, rfl, ra, hu⟩ := hu.app
  obtain ⟨v1, _, rfl, r1, hu⟩ := hu.cons
  obtain rfl := hu.nil
  obtain ⟨a0, a1, a2, a3, a4, rfl⟩ := ra.five ph.len
  have hh := hd124 ra ph
  obtain ⟨p, j, m, dd, l, rfl, _⟩ := ph
  obtain ⟨_, _, hx1, _, ra⟩ := ra.cons
  obtain ⟨_, _, hx2, rj, ra⟩ := ra.cons
  obtain ⟨_, _, hx3, rm, ra⟩ := ra.cons
  simp only [List.cons.injEq] at hx1
  obtain ⟨rfl, rfl⟩ := hx1
  simp only [List.cons.injEq] at hx2
  obtain ⟨rfl, rfl⟩ := hx2
  simp only [List.cons.injEq] at hx3
  obtain ⟨rfl, rfl⟩ := hx3
  obtain rfl : a1 = .int .i64 j := rj.lf
  obtain rfl : a2 = .int .i64 m := rm.lf
  refine (walk170 w d _ _ _ _ _ _ _ hh _ (h230.fn r1 pf)).mono ?_
  rintro e W' ⟨a0, n0, c0, i0, m0, a3, n3, c3, a4, n4, c4, a1, n1, c1, rfl, q0, q1, hb⟩
  exact ⟨_, rfl, .append (vs := [_, _, _, _, _]) q0 (.mk_cons q1 .mk_nil), hb⟩
end Go.Proofs.YtmhkceeiiklfdaaGreat
set_option maxRecDepth 1000000
set_option linter.unusedVariables false
set_option linter.unusedSimpArgs false
namespace Go.Proofs.YtmhkceeiiklfdaaGreat
open Go.RowKit Go.Abs
def cons237 : List Con := [
  ⟨3, 124, [.agg ⟨[.chan (some 6), .chan (some 7), .chan (some 8), .chan (some 9), .chan (some 10)]⟩], .agg ⟨[.chan (some 194), .chan (some 195), .chan (some 196), .chan (some 197), .chan (some 198)]⟩⟩,
  ⟨4, 136, [.chan (some 11)], .chan (some 258)⟩,
  ⟨5, 126, [.chan (some 12), .func (.func 170) #[] #[]], .chan (some 322)⟩]
theorem run237 (post : Nat → (Nat → Value) → Abs.Claim) : resV (aEnter0 237 [.agg ⟨[.chan (some 2), .chan (some 3), .chan (some 4), .chan (some 5), .chan (some 6), .chan (some 7), .chan (some 8), .chan (some 9), .chan (some 10), .chan (some 11), .chan (some 12)]⟩] (emptyHeap.new .dead) (envS cons237 post) (aRun (envS cons237 post) 100000)) =
  some (.agg ⟨[.chan (some 2), .chan (some 3), .chan (some 4), .chan (some 5), .chan (some 194), .chan (some 195), .chan (some 196), .chan (some 197), .chan (some 198), .chan (some 258), .chan (some 322)]⟩) := by kernel_rfl
theorem ones_getD {w : World} {d : Nat} {c : List T} {us : List Value} (h : RdL w d c us) (i : Nat) : isOne (us.getD i (.bool false)) = true := by
  rw [List.getD_eq_getElem?_getD]
  cases hi : us[i]? with
  | none => rfl
  | some u =>
    have hl : i < c.length := by have := (List.getElem?_eq_some_iff.1 hi).1; rw [h.1] at this; exact this
    obtain ⟨u', h1, h2⟩ := h.2 i _ (List.getElem?_eq_getElem hl)
    rw [hi] at h1; cases h1
    have := h2.one
    cases u <;> first | rfl | (cases this; done)
/-- CloneHead, on values -/
theorem hdv124 : ClV 124 IsHead := by
  intro w d c us hu hc
  refine (hd124 hu hc w (Below.refl _ _)).mono ?_
  rintro e w' ⟨a0, n0, c0, i0, m0, a3, n3, c3, a4, n4, c4, rfl, q, hb⟩
  exact ⟨_, rfl, q, hb⟩
theorem cv237 {P : List T → Prop} (h136 : FlC 136 P) (h126 : EaC 126 170 (IsRow P)) : ClV 237 (IsItemOf P) := by
  rintro w d c us hu ⟨k, o, i, s, h, fl, rs, rfl, ph, pf, pr⟩
  have hone := ones_getD hu
  have hu0 := hu
  obtain ⟨v0, _, rfl, r0, hu⟩ := hu.cons
  obtain ⟨v1, _, rfl, r1, hu⟩ := hu.cons
  obtain ⟨v2, _, rfl, r2, hu⟩ := hu.cons
  obtain ⟨v3, _, rfl, r3, hu⟩ := hu.cons
  obtain ⟨a, _, rfl, ra, hu⟩ := hu.app
  obtain ⟨v4, _, rfl, r4, hu⟩ := hu.cons
  obtain ⟨v5, _, rfl, r5, hu⟩ := hu.cons
  obtain rfl := hu.nil
  obtain ⟨a0, a1, a2, a3, a4, rfl⟩ := ra.five ph.len
  have hw := sym_walk (w := w) (σ := fun i => [v0, v1, v2, v3, a0, a1, a2, a3, a4, v4, v5].getD i (.bool false))
    (specs := fun A => match A with | 3 => some (d, h) | 4 => some (d, [.sl fl]) | 5 => some (d, [.sl rs]) | _ => none) (cons := cons237) 237 _ _ _ hone (by rfl) (by rfl) (by rfl) (run237 _) (by
      refine List.forall_mem_cons.2 ⟨?_, List.forall_mem_cons.2 ⟨?_, List.forall_mem_cons.2 ⟨?_, fun _ h => by cases h⟩⟩⟩
      · refine conOk_cp rfl (postE _ _) 0 rfl (by decide) rfl rfl (.inl rfl) rfl rfl fun ρ W hf => ?_
        have e0 := hf.start rfl
        show Calls _ 124 #[.agg #[ρ 0 4, ρ 0 5, ρ 0 6, ρ 0 7, ρ 0 8]] W _
        rw [e0]
        refine (hdv124 W d h [a0, a1, a2, a3, a4] (ra.below hf.below) ph).mono ?_
        rintro e W' ⟨us', rfl, hr, hb⟩
        refine ⟨us', ?_, hr, hb⟩
        obtain ⟨b0, b1, b2, b3, b4, rfl⟩ := hr.rd.five ph.len
        rfl
      · refine conOk_cp rfl (postE _ _) 0 rfl (by decide) rfl rfl (.inl rfl) rfl rfl fun ρ W hf => ?_
        have e0 := hf.start rfl
        show Calls _ 136 #[ρ 0 9] W _
        rw [e0]
        refine (h136 W d fl v4 (r4.below hf.below) pf).mono ?_
        rintro e W' ⟨v', rfl, hr, hb⟩
        exact ⟨[v'], rfl, .mk_cons hr .mk_nil, hb⟩
      · refine conOk_cp rfl (postE _ _) 0 rfl (by decide) rfl rfl (.inl rfl) rfl rfl fun ρ W hf => ?_
        have e0 := hf.start rfl
        show Calls _ 126 #[ρ 0 10, .func (.func 170) #[] #[]] W _
        rw [e0]
        refine (h126 W d rs v5 (r5.below hf.below) pr).mono ?_
        rintro e W' ⟨v', rfl, hr, hb⟩
        exact ⟨[v'], rfl, .mk_cons hr .mk_nil, hb⟩)
  refine hw.mono ?_
  rintro e w' ⟨ρ, hf, rfl, hb⟩
  have e0 := hf.start rfl
  have q3 := hf.has 3 _ _ (by decide) rfl rfl
  have q4 := hf.has 4 _ _ (by decide) rfl rfl
  have q5 := hf.has 5 _ _ (by decide) rfl rfl
  obtain rfl : v0 = .int .i64 k := r0.lf
  obtain rfl : v1 = .int .i64 o := r1.lf
  obtain rfl : v2 = .int .i64 i := r2.lf
  obtain rfl : v3 = .string s := r3.lf
  refine ⟨[ρ 0 0, ρ 0 1, ρ 0 2, ρ 0 3] ++ (row h.length (ρ 3) ++ (row 1 (ρ 4) ++ row 1 (ρ 5))), ?_, ?_, hb⟩
  · rw [ph.len]; rfl
  · rw [e0]
    exact .mk_cons (RdA.of_lf _ _ _ (.int k)) (.mk_cons (RdA.of_lf _ _ _ (.int o)) (.mk_cons (RdA.of_lf _ _ _ (.int i)) (.mk_cons (RdA.of_lf _ _ _ (.str s)) (q3.append (q4.append q5)))))
end Go.Proofs.YtmhkceeiiklfdaaGreat
