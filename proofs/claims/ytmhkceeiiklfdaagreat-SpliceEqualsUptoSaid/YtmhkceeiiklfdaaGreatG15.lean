/- A part of the proof of SpliceEqualsUptoSaid (texts: SndW). No conditions. -/
import Derived.Test.YtmhkceeiiklfdaaGreatG13
set_option linter.unusedVariables false
set_option linter.unusedSimpArgs false
set_option linter.unusedVariables false
set_option linter.unusedSimpArgs false
namespace Go.Abs
open RowKit

/-! ### What the names stand for -/
def denLeaf (ρ : Nat → Nat → Value) : Value → Value
  | .chan (some (k + 2)) => ρ (k / 64) (k % 64)
  | v => v
def den (ρ : Nat → Nat → Value) : Value → Value
  | .agg ⟨l⟩ => .agg ⟨l.map (denLeaf ρ)⟩
  | v => denLeaf ρ v
def leafOk : Value → Bool
  | .chan (some (_ + 2)) => true
  | .slice none _ _ => true
  | .func (.func _) ⟨[]⟩ ⟨[]⟩ => true
  | .bool _ => true
  | .int _ _ => true
  | .string _ => true
  | .pointer none => true
  | .nilFunc => true
  | _ => false
def argOk : Value → Bool
  | .agg ⟨l⟩ => l.all leafOk
  | v => leafOk v
/-- whether a name of ghost A occurs -/
def leafUses (A : Nat) : Value → Bool
  | .chan (some (k + 2)) => k / 64 == A
  | _ => false
def uses (A : Nat) : Value → Bool
  | .agg ⟨l⟩ => l.any (leafUses A)
  | v => leafUses A v
noncomputable def rho (φ : Phi) (A : Nat) : Nat → Value := (φ.atm A).getD fun _ => .bool false
theorem rho_eq {φ : Phi} {A : Nat} {vs : Nat → Value} (h : φ.atm A = some vs) : rho φ A = vs := by unfold rho; rw [h]; rfl

theorem denLeaf_eq {φ : Phi} {v v' : Value} (h : VRel φ v v') (ho : leafOk v = true) : v' = denLeaf (rho φ) v := by
  cases h with
  | atom k vs v h0 h1 h2 => rw [h1]; show _ = rho φ (k / 64) (k % 64); rw [rho_eq h0]
  | gr v hg => cases v <;> first | rfl | (cases hg; done)
  | sliceNil n c => rfl
  | func f as bs as' bs' h1 h2 =>
    cases as with
    | cons x l => simp [leafOk] at ho
    | nil => cases bs with
      | cons x l => simp [leafOk] at ho
      | nil => cases h1; cases h2; rfl
  | _ => simp [leafOk] at ho
theorem denLeaves_eq {φ : Phi} : ∀ {l l' : List Value}, LRel φ l l' → l.all leafOk = true → l' = l.map (denLeaf (rho φ))
  | _, _, .nil, _ => rfl
  | _, _, .cons v v' l l' h hs, ho => by
    rw [List.all_cons, Bool.and_eq_true] at ho
    rw [List.map_cons, ← denLeaf_eq h ho.1, ← denLeaves_eq hs ho.2]
theorem den_eq {φ : Phi} {v v' : Value} (h : VRel φ v v') (ho : argOk v = true) : v' = den (rho φ) v := by
  cases h with
  | agg cs cs' hl => show _ = Value.agg ⟨cs.map (denLeaf (rho φ))⟩; rw [← denLeaves_eq hl ho]
  | gr v hg => cases v <;> first | rfl | (cases hg; done)
  | atom k vs v h0 h1 h2 => exact denLeaf_eq (.atom k vs v' h0 h1 h2) ho
  | sliceNil n c => rfl
  | func f as bs as' bs' h1 h2 => exact denLeaf_eq (.func f as bs as' bs' h1 h2) ho
  | _ => simp [argOk, leafOk] at ho
theorem dens_eq {φ : Phi} : ∀ {l l' : List Value}, LRel φ l l' → l.all argOk = true → l' = l.map (den (rho φ))
  | _, _, .nil, _ => rfl
  | _, _, .cons v v' l l' h hs, ho => by
    rw [List.all_cons, Bool.and_eq_true] at ho
    rw [List.map_cons, ← den_eq h ho.1, ← dens_eq hs ho.2]
theorem leaf_at {φ : Phi} {v v' : Value} {A : Nat} (h : VRel φ v v') (hu : leafUses A v = true) : φ.atm A = some (rho φ A) := by
  cases h with
  | atom k vs v h0 h1 h2 =>
    have hu : (k / 64 == A) = true := hu
    rw [beq_iff_eq] at hu
    subst hu
    rw [rho_eq h0]; exact h0
  | gr v hg => cases v <;> first | (cases hu; done) | (cases hg; done)
  | _ => simp [leafUses] at hu
theorem leaves_at {φ : Phi} {A : Nat} : ∀ {l l' : List Value}, LRel φ l l' → l.any (leafUses A) = true → φ.atm A = some (rho φ A)
  | _, _, .nil, h => by cases h
  | _, _, .cons v v' l l' h hs, ho => by
    rw [List.any_cons, Bool.or_eq_true] at ho
    exact ho.elim (leaf_at h) (leaves_at hs)
theorem val_at {φ : Phi} {v v' : Value} {A : Nat} (h : VRel φ v v') (hu : uses A v = true) : φ.atm A = some (rho φ A) := by
  cases h with
  | agg cs cs' hl => exact leaves_at hl hu
  | gr v hg => cases v <;> first | (cases hu; done) | (cases hg; done)
  | atom k vs v h0 h1 h2 => exact leaf_at (.atom k vs v' h0 h1 h2) hu
  | _ => simp [uses, leafUses] at hu
theorem vals_at {φ : Phi} {A : Nat} : ∀ {l l' : List Value}, LRel φ l l' → l.any (uses A) = true → φ.atm A = some (rho φ A)
  | _, _, .nil, h => by cases h
  | _, _, .cons v v' l l' h hs, ho => by
    rw [List.any_cons, Bool.or_eq_true] at ho
    exact ho.elim (val_at h) (vals_at hs)
/-- names stand for themselves -/
theorem leaf_rel {φ : Phi} {ρ : Nat → Nat → Value} (hone : ∀ A i, isOne (ρ A i) = true) {v : Value} (ho : leafOk v = true) (ha : ∀ A, leafUses A v = true → φ.atm A = some (ρ A)) : VRel φ v (denLeaf ρ v) := by
  unfold leafOk at ho
  split at ho
  · rename_i k
    exact .atom k (ρ (k / 64)) _ (ha _ (by simp [leafUses])) rfl (hone _ _)
  · exact .sliceNil _ _
  · exact .func _ _ _ _ _ .nil .nil
  · exact .gr _ rfl
  · exact .gr _ rfl
  · exact .gr _ rfl
  · exact .gr _ rfl
  · exact .gr _ rfl
  · cases ho
theorem leaves_rel {φ : Phi} {ρ : Nat → Nat → Value} (hone : ∀ A i, isOne (ρ A i) = true) : ∀ {l : List Value}, l.all leafOk = true → (∀ A, l.any (leafUses A) = true → φ.atm A = some (ρ A)) → LRel φ l (l.map (denLeaf ρ))
  | [], _, _ => .nil
  | v :: l, ho, ha => by
    rw [List.all_cons, Bool.and_eq_true] at ho
    exact .cons _ _ _ _ (leaf_rel hone ho.1 fun A h => ha A (by rw [List.any_cons, h]; rfl)) (leaves_rel hone ho.2 fun A h => ha A (by rw [List.any_cons, h, Bool.or_true]))
theorem val_rel {φ : Phi} {ρ : Nat → Nat → Value} (hone : ∀ A i, isOne (ρ A i) = true) {v : Value} (ho : argOk v = true) (ha : ∀ A, uses A v = true → φ.atm A = some (ρ A)) : VRel φ v (den ρ v) := by
  cases v with
  | agg cs =>
    obtain ⟨cs⟩ := cs
    exact .agg _ _ (leaves_rel hone ho ha)
  | _ => exact leaf_rel hone ho ha
theorem vals_rel {φ : Phi} {ρ : Nat → Nat → Value} (hone : ∀ A i, isOne (ρ A i) = true) : ∀ {l : List Value}, l.all argOk = true → (∀ A, l.any (uses A) = true → φ.atm A = some (ρ A)) → LRel φ l (l.map (den ρ))
  | [], _, _ => .nil
  | v :: l, ho, ha => by
    rw [List.all_cons, Bool.and_eq_true] at ho
    exact .cons _ _ _ _ (val_rel hone ho.1 fun A h => ha A (by rw [List.any_cons, h]; rfl)) (vals_rel hone ho.2 fun A h => ha A (by rw [List.any_cons, h, Bool.or_true]))
noncomputable def resV (r : Res) : Option Value := (Option.rec (motive := fun _ => Option Value) (none) (fun q => (Prod.rec (motive := fun _ => Option Value) (fun v _ => some v)) q)) r
theorem resV_some {r : Res} {v : Value} (h : resV r = some v) : ∃ H', r = some (v, H') := by
  cases r with
  | none => cases h
  | some q => obtain ⟨u, H'⟩ := q; cases h; exact ⟨H', rfl⟩
end Go.Abs
