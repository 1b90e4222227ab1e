/- A part of the proof of SpliceEqualsUptoSaid (texts: SndA SndB). No conditions. -/
import Derived.Test.YtmhkceeiiklfdaaGreatG00
import Derived.AtR
import Derived.RangeFuncRecord
import Derived.Below
set_option linter.unusedVariables false
set_option linter.unusedSimpArgs false
set_option linter.unusedVariables false
namespace Go.Abs

/-! ### 1. Tries -/
theorem brec {α : Sort _} (b : Bool) (f t : α) : (@Bool.rec (fun _ => α) f t b) = if b = true then t else f := by cases b <;> rfl
theorem beq_if {α : Sort _} (a b : Nat) (f t : α) : (@Bool.rec (fun _ => α) f t (Nat.beq a b)) = if a = b then t else f := by
  rw [brec]
  by_cases h : a = b
  · rw [if_pos h, if_pos (Nat.beq_eq ▸ h)]
  · rw [if_neg h, if_neg (fun e => h (Nat.beq_eq ▸ e))]
theorem Tr.at_leaf {α : Type} (p : Nat) : (Tr.leaf : Tr α).at p = none := rfl
theorem Tr.at_node {α : Type} (v : Option α) (l r : Tr α) (p : Nat) :
    (Tr.node v l r).at p = if p = 1 then v else if p % 2 = 0 then l.at (p / 2) else r.at (p / 2) := by
  have e : (Tr.node v l r).at p = @Bool.rec (fun _ => Option α) (@Bool.rec (fun _ => Option α) (r.at (p / 2)) (l.at (p / 2)) (Nat.beq (p % 2) 0)) v (Nat.beq p 1) := rfl
  rw [e, beq_if, beq_if]
theorem Tr.nodeL_eq {α : Type} (v : Option α) (r l : Tr α) : Tr.nodeL v r l = .node v l r := by cases l <;> rfl
theorem Tr.nodeR_eq {α : Type} (v : Option α) (l r : Tr α) : Tr.nodeR v l r = .node v l r := by cases r <;> rfl
theorem Tr.put_zero {α : Type} (x : α) (t : Tr α) (p : Nat) : Tr.put x 0 t p = t := rfl
theorem Tr.put_leaf {α : Type} (x : α) (n p : Nat) : Tr.put x (n + 1) .leaf p =
    if p = 1 then .node (some x) .leaf .leaf else if p % 2 = 0 then .node none (Tr.put x n .leaf (p / 2)) .leaf else .node none .leaf (Tr.put x n .leaf (p / 2)) := by
  have e : Tr.put x (n + 1) .leaf p = @Bool.rec (fun _ => Tr α) (@Bool.rec (fun _ => Tr α) (Tr.nodeR none .leaf (Tr.put x n .leaf (p / 2))) (Tr.nodeL none .leaf (Tr.put x n .leaf (p / 2))) (Nat.beq (p % 2) 0)) (.node (some x) .leaf .leaf) (Nat.beq p 1) := rfl
  rw [e, beq_if, beq_if, Tr.nodeL_eq, Tr.nodeR_eq]
theorem Tr.put_node {α : Type} (x : α) (n p : Nat) (v : Option α) (l r : Tr α) : Tr.put x (n + 1) (.node v l r) p =
    if p = 1 then .node (some x) l r else if p % 2 = 0 then .node v (Tr.put x n l (p / 2)) r else .node v l (Tr.put x n r (p / 2)) := by
  have e : Tr.put x (n + 1) (.node v l r) p = @Bool.rec (fun _ => Tr α) (@Bool.rec (fun _ => Tr α) (Tr.nodeR v l (Tr.put x n r (p / 2))) (Tr.nodeL v r (Tr.put x n l (p / 2))) (Nat.beq (p % 2) 0)) (.node (some x) l r) (Nat.beq p 1) := rfl
  rw [e, beq_if, beq_if, Tr.nodeL_eq, Tr.nodeR_eq]
/-- Another place is as it was. -/
theorem Tr.put_ne {α : Type} (x : α) (n : Nat) : ∀ (t : Tr α) (p q : Nat), 0 < p → 0 < q → p ≠ q → (Tr.put x n t p).at q = t.at q := by
  induction n with
  | zero => intro t p q _ _ _; rfl
  | succ n ih =>
    intro t p q hp hq hne
    cases t with
    | leaf =>
      rw [Tr.put_leaf, Tr.at_leaf]
      split
      · rename_i h; rw [Tr.at_node, if_neg (by omega)]; split <;> rfl
      · rename_i h
        split
        · rw [Tr.at_node]
          split
          · rfl
          · split
            · rw [ih _ _ _ (by omega) (by omega) (by omega)]; rfl
            · rfl
        · rw [Tr.at_node]
          split
          · rfl
          · split
            · rfl
            · rw [ih _ _ _ (by omega) (by omega) (by omega)]; rfl
    | node v l r =>
      rw [Tr.put_node, Tr.at_node v l r]
      split
      · rename_i h; have hq1 : ¬ q = 1 := by omega
        rw [Tr.at_node]; simp only [if_neg hq1]
      · split
        · rw [Tr.at_node]
          split
          · rfl
          · split
            · rw [ih _ _ _ (by omega) (by omega) (by omega)]
            · rfl
        · rw [Tr.at_node]
          split
          · rfl
          · split
            · rfl
            · rw [ih _ _ _ (by omega) (by omega) (by omega)]
/-- The place itself: what was put, or (where the tree is too low) nothing is known but that it was not put. -/
theorem Tr.put_eq {α : Type} (x : α) (n : Nat) : ∀ (t : Tr α) (p : Nat), 0 < p → p < 2 ^ n → (Tr.put x n t p).at p = some x := by
  induction n with
  | zero => intro t p h1 h2; omega
  | succ n ih =>
    intro t p h1 h2
    have h3 : p / 2 < 2 ^ n := by rw [Nat.pow_succ] at h2; omega
    cases t with
    | leaf =>
      rw [Tr.put_leaf]
      split
      · rename_i h; rw [Tr.at_node, if_pos h]
      · rename_i h
        split
        · rename_i h4; rw [Tr.at_node, if_neg h, if_pos h4]; exact ih _ _ (by omega) h3
        · rename_i h4; rw [Tr.at_node, if_neg h, if_neg h4]; exact ih _ _ (by omega) h3
    | node v l r =>
      rw [Tr.put_node]
      split
      · rename_i h; rw [Tr.at_node, if_pos h]
      · rename_i h
        split
        · rename_i h4; rw [Tr.at_node, if_neg h, if_pos h4]; exact ih _ _ (by omega) h3
        · rename_i h4; rw [Tr.at_node, if_neg h, if_neg h4]; exact ih _ _ (by omega) h3
/-- Whatever was there or is put: a place holds the old or the new. -/
theorem Tr.put_or {α : Type} (x : α) (n : Nat) : ∀ (t : Tr α) (p : Nat), 0 < p → (Tr.put x n t p).at p = some x ∨ (Tr.put x n t p).at p = t.at p := by
  induction n with
  | zero => intro t p _; exact .inr rfl
  | succ n ih =>
    intro t p h1
    cases t with
    | leaf =>
      rw [Tr.put_leaf, Tr.at_leaf]
      split
      · rename_i h; rw [Tr.at_node, if_pos h]; exact .inl rfl
      · rename_i h
        split
        · rename_i h4; rw [Tr.at_node, if_neg h, if_pos h4]; exact ih _ _ (by omega)
        · rename_i h4; rw [Tr.at_node, if_neg h, if_neg h4]; exact ih _ _ (by omega)
    | node v l r =>
      rw [Tr.put_node, Tr.at_node v l r]
      split
      · rename_i h; rw [Tr.at_node, if_pos h]; exact .inl rfl
      · rename_i h
        split
        · rename_i h4; rw [Tr.at_node, if_neg h, if_pos h4]; exact ih _ _ (by omega)
        · rename_i h4; rw [Tr.at_node, if_neg h, if_neg h4]; exact ih _ _ (by omega)
theorem Tr.get_set_ne {α : Type} (t : Tr α) (k j : Nat) (x : α) (h : k ≠ j) : (t.set k x).get j = t.get j :=
  Tr.put_ne x _ t _ _ (Nat.succ_pos _) (Nat.succ_pos _) (by omega)
theorem Tr.get_set {α : Type} (t : Tr α) (k : Nat) (x : α) (h : k < 2 ^ 39) : (t.set k x).get k = some x :=
  Tr.put_eq x _ t _ (Nat.succ_pos _) (by show k + 1 < 2 ^ 40; omega)
theorem Tr.get_leaf {α : Type} (k : Nat) : (Tr.leaf : Tr α).get k = none := rfl
theorem bit_eq (m i : Nat) : bit m i = m.testBit i := by
  show Nat.beq (Nat.mod (Nat.shiftRight m i) 2) 1 = _
  rw [Nat.testBit_eq_decide_div_mod_eq]
  have e : Nat.mod (Nat.shiftRight m i) 2 = m / 2 ^ i % 2 := by show (m >>> i) % 2 = _; rw [Nat.shiftRight_eq_div_pow]
  rw [e]
  by_cases h : m / 2 ^ i % 2 = 1
  · rw [h]; rfl
  · simp only [h, decide_false]
    rw [← Bool.not_eq_true, Nat.beq_eq]; exact h

theorem Tr.fill_cons {α : Type} (x : α) (l : List α) (i : Nat) (t : Tr α) : Tr.fill (x :: l) i t = Tr.fill l (i + 1) (t.set i x) := rfl
theorem Tr.get_fill {α : Type} (l : List α) : ∀ (i : Nat) (t : Tr α) (j : Nat) (y : α), (Tr.fill l i t).get j = some y → (i ≤ j ∧ l[j - i]? = some y) ∨ t.get j = some y := by
  induction l with
  | nil => intro i t j y h; exact .inr h
  | cons x l ih =>
    intro i t j y h
    rw [Tr.fill_cons] at h
    rcases ih _ _ _ _ h with ⟨h1, h2⟩ | h1
    · refine .inl ⟨by omega, ?_⟩
      rw [show j - i = (j - (i + 1)) + 1 by omega, List.getElem?_cons_succ]; exact h2
    · by_cases hij : i = j
      · subst hij
        rcases Tr.put_or x (nat_lit 40) t (Nat.succ i) (Nat.succ_pos _) with h3 | h3
        · have : some x = some y := h3.symm.trans h1
          refine .inl ⟨Nat.le_refl _, ?_⟩
          rw [Nat.sub_self, List.getElem?_cons_zero]; exact this
        · exact .inr (h3.symm.trans h1)
      · exact .inr ((Tr.get_set_ne t i j x hij).symm.trans h1)
theorem Tr.get_ofList {α : Type} (l : List α) (j : Nat) (y : α) (h : (Tr.ofList l).get j = some y) : l[j]? = some y := by
  rcases Tr.get_fill l 0 .leaf j y h with ⟨_, h⟩ | h
  · simpa using h
  · cases h
theorem Tr.fillK_cons {α : Type} (m : Nat) (x : α) (l : List α) (i : Nat) (t : Tr α) :
    Tr.fillK m (x :: l) i t = Tr.fillK m l (i + 1) (if bit m i = true then t.set i x else t) := by
  show Tr.fillK m l (i + 1) (Bool.rec t (t.set i x) (bit m i)) = _
  cases bit m i <;> rfl
theorem Tr.get_fillK {α : Type} (m : Nat) (l : List α) : ∀ (i : Nat) (t : Tr α) (j : Nat) (y : α), (Tr.fillK m l i t).get j = some y → (i ≤ j ∧ l[j - i]? = some y ∧ bit m j = true) ∨ t.get j = some y := by
  induction l with
  | nil => intro i t j y h; exact .inr h
  | cons x l ih =>
    intro i t j y h
    rw [Tr.fillK_cons] at h
    rcases ih _ _ _ _ h with ⟨h1, h2, h3⟩ | h1
    · refine .inl ⟨by omega, ?_, h3⟩
      rw [show j - i = (j - (i + 1)) + 1 by omega, List.getElem?_cons_succ]; exact h2
    · split at h1
      · rename_i hb
        by_cases hij : i = j
        · subst hij
          rcases Tr.put_or x (nat_lit 40) t (Nat.succ i) (Nat.succ_pos _) with h3 | h3
          · have : some x = some y := h3.symm.trans h1
            refine .inl ⟨Nat.le_refl _, ?_, hb⟩
            rw [Nat.sub_self, List.getElem?_cons_zero]; exact this
          · exact .inr (h3.symm.trans h1)
        · exact .inr ((Tr.get_set_ne t i j x hij).symm.trans h1)
      · exact .inr h1
end Go.Abs
set_option linter.unusedVariables false
namespace Go.Abs

/-- an abstract block ↦ the block, and how many cells it has -/
structure Phi where
  blk : Nat → Option (Nat × Nat)
  /-- the values that came to be at a memory of this size -/
  atm : Nat → Option (Nat → Value)
instance : CoeFun Phi (fun _ => Nat → Option (Nat × Nat)) := ⟨Phi.blk⟩
/-- a value of one cell -/
def isOne : Value → Bool
  | .agg _ => false
  | .tuple _ => false
  | _ => true

mutual
/-- What an abstract value says of a value. -/
inductive VRel (φ : Phi) : Value → Value → Prop
  | top (v : Value) : VRel φ (.tuple #[]) v
  | undef : VRel φ (.chan (some 0)) (.tuple #[])
  /-- some string -/
  | str (s : ByteArray) : VRel φ (.chan (some 1)) (.string s)
  /-- a value that has a name -/
  | atom (k : Nat) (vs : Nat → Value) (v : Value) : φ.atm (k / 64) = some vs → v = vs (k % 64) → isOne v = true → VRel φ (.chan (some (k + 2))) v
  | gr (v : Value) : ground v = true → VRel φ v v
  | ptr (A off b n : Nat) : φ A = some (b, n) → VRel φ (.pointer (some ⟨A, off, none⟩)) (.pointer (some ⟨b, off, none⟩))
  | sliceNil (n c : Nat) : VRel φ (.slice none n c) (.slice none n c)
  | sliceEx (A off b n len cap : Nat) : φ A = some (b, n) → VRel φ (.slice (some ⟨A, off, none⟩) len cap) (.slice (some ⟨b, off, none⟩) len cap)
  | sliceIn (A off b n es len cap cap' : Nat) : φ A = some (b, n) → cap ≤ cap' → off + cap' * (es + 1) = n → VRel φ (.slice (some ⟨A, off, some (es + 1)⟩) len cap) (.slice (some ⟨b, off, none⟩) len cap')
  | ghost (a : Addr) (cap : Nat) : VRel φ (.slice (some ⟨0, 0, some 0⟩) 0 0) (.slice (some a) 0 cap)
  | map (A b n : Nat) : φ A = some (b, n) → VRel φ (.map (some A)) (.map (some b))
  | func (f : FuncId) (as bs as' bs' : List Value) : LRel φ as as' → LRel φ bs bs' → VRel φ (.func (.func f) ⟨as⟩ ⟨bs⟩) (.func (.func f) ⟨as'⟩ ⟨bs'⟩)
  | yield (l b n : Nat) : φ l = some (b, n) → VRel φ (.func (.yield l) #[] #[]) (.func (.yield b) #[] #[])
  | agg (cs cs' : List Value) : LRel φ cs cs' → VRel φ (.agg ⟨cs⟩) (.agg ⟨cs'⟩)
  | tuple (v v' : Value) (cs cs' : List Value) : LRel φ (v :: cs) (v' :: cs') → VRel φ (.tuple ⟨v :: cs⟩) (.tuple ⟨v' :: cs'⟩)
inductive LRel (φ : Phi) : List Value → List Value → Prop
  | nil : LRel φ [] []
  | cons (v v' : Value) (l l' : List Value) : VRel φ v v' → LRel φ l l' → LRel φ (v :: l) (v' :: l')
end

structure Ext (φ φ' : Phi) : Prop where
  blk : ∀ A x, φ A = some x → φ' A = some x
  atm : ∀ A x, φ.atm A = some x → φ'.atm A = some x
instance {φ φ' : Phi} : CoeFun (Ext φ φ') (fun _ => ∀ A x, φ A = some x → φ' A = some x) := ⟨Ext.blk⟩
theorem Ext.refl (φ : Phi) : Ext φ φ := ⟨fun _ _ h => h, fun _ _ h => h⟩
theorem Ext.trans {φ φ' φ'' : Phi} (h : Ext φ φ') (k : Ext φ' φ'') : Ext φ φ'' := ⟨fun A x e => k A x (h A x e), fun A x e => k.atm A x (h.atm A x e)⟩

mutual
theorem VRel.mono {φ φ' : Phi} (e : Ext φ φ') : ∀ {v v' : Value}, VRel φ v v' → VRel φ' v v'
  | _, _, .top v => .top v
  | _, _, .undef => .undef
  | _, _, .str s => .str s
  | _, _, .atom k vs v h h0 h1 => .atom k vs v (e.atm _ _ h) h0 h1
  | _, _, .gr v h => .gr v h
  | _, _, .ptr A off b n h => .ptr A off b n (e _ _ h)
  | _, _, .sliceNil n c => .sliceNil n c
  | _, _, .sliceEx A off b n len cap h => .sliceEx A off b n len cap (e _ _ h)
  | _, _, .sliceIn A off b n es len cap cap' h h1 h2 => .sliceIn A off b n es len cap cap' (e _ _ h) h1 h2
  | _, _, .ghost a cap => .ghost a cap
  | _, _, .map A b n h => .map A b n (e _ _ h)
  | _, _, .func f as bs as' bs' h1 h2 => .func f as bs as' bs' (LRel.mono e h1) (LRel.mono e h2)
  | _, _, .yield l b n h => .yield l b n (e _ _ h)
  | _, _, .agg cs cs' h => .agg cs cs' (LRel.mono e h)
  | _, _, .tuple v v' cs cs' h => .tuple v v' cs cs' (LRel.mono e h)
theorem LRel.mono {φ φ' : Phi} (e : Ext φ φ') : ∀ {l l' : List Value}, LRel φ l l' → LRel φ' l l'
  | _, _, .nil => .nil
  | _, _, .cons v v' l l' h hs => .cons v v' l l' (VRel.mono e h) (LRel.mono e hs)
end

theorem LRel.length {φ : Phi} : ∀ {l l' : List Value}, LRel φ l l' → l.length = l'.length
  | _, _, .nil => rfl
  | _, _, .cons _ _ _ _ _ hs => by simp [LRel.length hs]
theorem LRel.get {φ : Phi} : ∀ {l l' : List Value}, LRel φ l l' → ∀ (i : Nat) (v : Value), l[i]? = some v → ∃ v', l'[i]? = some v' ∧ VRel φ v v'
  | _, _, .nil, i, v, h => by simp at h
  | _, _, .cons v v' l l' h hs, 0, u, hu => by simp at hu; subst hu; exact ⟨v', by simp, h⟩
  | _, _, .cons v v' l l' h hs, i + 1, u, hu => by simp at hu; obtain ⟨u', h1, h2⟩ := LRel.get hs i u hu; exact ⟨u', by simpa using h1, h2⟩
theorem LRel.of {φ : Phi} : ∀ {l l' : List Value}, l.length = l'.length → (∀ (i : Nat) (v : Value), l[i]? = some v → ∃ v', l'[i]? = some v' ∧ VRel φ v v') → LRel φ l l'
  | [], [], _, _ => .nil
  | [], _ :: _, h, _ => by simp at h
  | _ :: _, [], h, _ => by simp at h
  | v :: l, v' :: l', h, k => by
    obtain ⟨u, h1, h2⟩ := k 0 v (by simp)
    simp at h1; subst h1
    exact .cons _ _ _ _ h2 (LRel.of (by simpa using h) fun i w hw => by
      obtain ⟨u, h3, h4⟩ := k (i + 1) w (by simpa using hw)
      exact ⟨u, by simpa using h3, h4⟩)
theorem LRel.append {φ : Phi} : ∀ {l l' m m' : List Value}, LRel φ l l' → LRel φ m m' → LRel φ (l ++ m) (l' ++ m')
  | _, _, _, _, .nil, k => k
  | _, _, _, _, .cons v v' l l' h hs, k => .cons _ _ _ _ h (LRel.append hs k)
theorem LRel.gr {φ : Phi} : ∀ (l : List Value), (∀ v ∈ l, ground v = true) → LRel φ l l
  | [], _ => .nil
  | v :: l, h => .cons _ _ _ _ (.gr v (h v (by simp))) (LRel.gr l fun u hu => h u (by simp [hu]))
theorem LRel.take {φ : Phi} {l l' : List Value} (h : LRel φ l l') (n : Nat) : LRel φ (l.take n) (l'.take n) := by
  refine LRel.of (by simp [h.length]) fun i v hv => ?_
  rw [List.getElem?_take] at hv
  split at hv
  · rename_i hi
    obtain ⟨u, h1, h2⟩ := h.get i v hv
    exact ⟨u, by rw [List.getElem?_take, if_pos hi]; exact h1, h2⟩
  · cases hv
theorem LRel.drop {φ : Phi} {l l' : List Value} (h : LRel φ l l') (n : Nat) : LRel φ (l.drop n) (l'.drop n) := by
  refine LRel.of (by simp [h.length]) fun i v hv => ?_
  rw [List.getElem?_drop] at hv
  obtain ⟨u, h1, h2⟩ := h.get _ v hv
  exact ⟨u, by rw [List.getElem?_drop]; exact h1, h2⟩

/-! ### Ground values are what they are -/
theorem ground_agg (cs : Array Value) : ground (.agg cs) = false := rfl
theorem ground_tuple (cs : Array Value) : ground (.tuple cs) = false := rfl
theorem VRel.of_ground {φ : Phi} {v v' : Value} (h : VRel φ v v') (g : ground v = true) : v' = v := by
  cases h <;> first | rfl | (simp [ground] at g)
theorem allGround_mem : ∀ (l : List Value), allGround l = true → ∀ v ∈ l, ground v = true
  | [], _, v, hv => by simp at hv
  | x :: l, h, v, hv => by
    have e : allGround (x :: l) = @Bool.rec (fun _ => Bool) false (allGround l) (ground x) := rfl
    rw [e, brec] at h
    split at h
    · rename_i hx
      rcases List.mem_cons.1 hv with rfl | hv
      · exact hx
      · exact allGround_mem l h v hv
    · cases h
theorem LRel.of_ground {φ : Phi} : ∀ {l l' : List Value}, LRel φ l l' → allGround l = true → l' = l
  | _, _, .nil, _ => rfl
  | _, _, .cons v v' l l' h hs, g => by
    have gv := allGround_mem _ g v (by simp)
    have gl : allGround l = true := by
      have e : allGround (v :: l) = @Bool.rec (fun _ => Bool) false (allGround l) (ground v) := rfl
      rw [e, brec, if_pos gv] at g; exact g
    rw [h.of_ground gv, LRel.of_ground hs gl]

/-! ### The pure part of a run -/
theorem pureRun_run {α : Type} {P : Program} : ∀ (s : Sem α) (a : α) (w : World), pureRun P s = some a → s.run P w = .ok a w := by
  intro s
  induction s with
  | pure b => intro a w h; simp [pureRun] at h; subst h; rfl
  | program k ih => intro a w h; exact ih _ a w h
  | mark m k ih => intro a w h; exact ih a w h
  | _ => intro a w h; simp [pureRun] at h

/-! ### The memory -/
structure ERel (φ : Phi) (e e' : MapEntry) : Prop where
  key : e'.key = e.key
  grd : ground e.key = true
  val : VRel φ e.val e'.val
  born : e'.born = e.born
inductive MRel (φ : Phi) : List MapEntry → List MapEntry → Prop
  | nil : MRel φ [] []
  | cons (e e' : MapEntry) (l l' : List MapEntry) : ERel φ e e' → MRel φ l l' → MRel φ (e :: l) (e' :: l')

/-- the temporaries of a frame: nothing is said of those that the tree doesn't hold -/
def TRel (φ : Phi) (m : Nat) (T : Tr Value) (ts : Array Value) : Prop := ∀ t v, T.get t = some v → VRel φ v (ts.getD t undef) ∧ bit m t = true ∧ ¬ (2 ^ 40 ≤ t + 1)

structure LoopRel (φ : Phi) (E : Env) (r : ALoop) (r' : Loop) : Prop where
  state : r'.state = r.state
  pending : r'.pending = r.pending
  fn : r'.fn = r.fn
  params : r'.params = ⟨r.params⟩
  assign : r'.assign = r.assign
  body : r'.body = r.body
  defers : ∃ n, φ r.defers = some (r'.defers, n)
  nt : r'.tmps.size = r.nt
  tmps : TRel φ (keepOf E r.fn) r.tmps r'.tmps

/-- What an abstract object says of an object; n: its cells. -/
def ObjRel (φ : Phi) (E : Env) (n : Nat) : AObj → Obj → Prop
  | .cells e cs fz ex, o => ∃ (C : Array Value) (lo hi : Nat), o = .cells C e (lo, hi) ∧ C.size = n ∧ cs.length ≤ n ∧ (ex = true → cs.length = n) ∧
      (∀ (i : Nat) (v : Value), cs[i]? = some v → ∃ v' : Value, C[i]? = some v' ∧ VRel φ v v') ∧ (∀ i : Nat, lo ≤ i → i < hi → i < fz ∨ n ≤ i) ∧ ((lo = 0 ∧ fz < big) ∨ ((n ≤ lo ∨ hi ≤ lo) ∧ fz = big))
  | .dead, _ => True
  | .map es clock, o => ∃ es', o = .map ⟨es'⟩ clock ∧ MRel φ es es'
  | .loop r, o => ∃ r', o = .loop r' ∧ LoopRel φ E r r'
  | .deferred, o => o = .deferred (some [])
  | .siter s pos, o => o = .stringIter s pos
  | .miter none a b c, o => o = .mapIter none a ⟨b⟩ c
  | .miter (some m) a b c, o => ∃ r k, φ m = some (r, k) ∧ o = .mapIter (some r) a ⟨b⟩ c

theorem MRel.mono {φ φ' : Phi} (e : Ext φ φ') : ∀ {l l' : List MapEntry}, MRel φ l l' → MRel φ' l l'
  | _, _, .nil => .nil
  | _, _, .cons a b l l' h hs => .cons a b l l' ⟨h.key, h.grd, h.val.mono e, h.born⟩ (MRel.mono e hs)
theorem TRel.mono {φ φ' : Phi} (e : Ext φ φ') {m : Nat} {T : Tr Value} {ts : Array Value} (h : TRel φ m T ts) : TRel φ' m T ts := fun t v hv => ⟨(h t v hv).1.mono e, (h t v hv).2⟩
theorem LoopRel.mono {φ φ' : Phi} (e : Ext φ φ') {E : Env} {r : ALoop} {r' : Loop} (h : LoopRel φ E r r') : LoopRel φ' E r r' :=
  ⟨h.state, h.pending, h.fn, h.params, h.assign, h.body, let ⟨n, hn⟩ := h.defers; ⟨n, e _ _ hn⟩, h.nt, h.tmps.mono e⟩
theorem ObjRel.mono {φ φ' : Phi} (e : Ext φ φ') {E : Env} {n : Nat} {o : AObj} {c : Obj} (h : ObjRel φ E n o c) : ObjRel φ' E n o c := by
  cases o with
  | cells t cs fz ex =>
    obtain ⟨C, lo, hi, h1, h2, h3, h4, h5, h6⟩ := h
    exact ⟨C, lo, hi, h1, h2, h3, h4, fun i v hv => let ⟨v', a, b⟩ := h5 i v hv; ⟨v', a, b.mono e⟩, h6⟩
  | dead => trivial
  | map es clock => obtain ⟨es', h1, h2⟩ := h; exact ⟨es', h1, h2.mono e⟩
  | loop r => obtain ⟨r', h1, h2⟩ := h; exact ⟨r', h1, h2.mono e⟩
  | deferred => exact h
  | siter s pos => exact h
  | miter m a b c =>
    cases m with
    | none => exact h
    | some m => obtain ⟨r, k, h1, h2⟩ := h; exact ⟨r, k, e _ _ h1, h2⟩

/-- the blocks of which the abstract run knows nothing -/
def Foreign (φ : Phi) (w : World) : Nat → Prop := fun b => b < w.heap.size ∧ ∀ A n, φ A ≠ some (b, n)
structure Sim (φ : Phi) (E : Env) (H : AHeap) (w : World) : Prop where
  dom : ∀ A b n, φ A = some (b, n) → b < w.heap.size
  has : ∀ A b n o, φ A = some (b, n) → H.get A = some o → ∃ c, w.heap[b]? = some c ∧ ObjRel φ E n o c
  tot : ∀ A, H.size ≤ A → H.get A = none
  inj : ∀ A B b n m, A ≠ B → φ A = some (b, n) → φ B = some (b, m) → H.get A = some .dead ∨ H.get B = some .dead
  post : ∀ A vs, φ.atm A = some vs → (E.post A vs).says (Foreign φ w) w

/-- From memory w (N abstract blocks) to memory w' (N' abstract blocks). -/
structure Goes (φ : Phi) (N : Nat) (w : World) (φ' : Phi) (N' : Nat) (w' : World) : Prop where
  ext : Ext φ φ'
  only : ∀ A, (A < N ∨ N' ≤ A) → φ' A = φ A
  new : ∀ A b n, N ≤ A → A < N' → φ' A = some (b, n) → w.heap.size ≤ b ∨ ∃ B m, B < N ∧ φ B = some (b, m)
  le : N ≤ N'
  size : w.heap.size ≤ w'.heap.size
  kept : ∀ b, b < w.heap.size → (∀ A n, A < N → φ A ≠ some (b, n)) → w'.heap[b]? = w.heap[b]?
  os : w'.os = w.os
  tape : w'.tape = w.tape
  output : w'.output = w.output
  atm : ∀ A, (A < N ∨ N' ≤ A) → φ'.atm A = φ.atm A

theorem Goes.refl (φ : Phi) (N : Nat) (w : World) : Goes φ N w φ N w :=
  ⟨Ext.refl _, fun _ _ => rfl, fun A b n h1 h2 => absurd h2 (by omega), Nat.le_refl _, Nat.le_refl _, fun _ _ _ => rfl, rfl, rfl, rfl, fun _ _ => rfl⟩
theorem Goes.trans {φ φ1 φ2 : Phi} {N N1 N2 : Nat} {w w1 w2 : World} (h : Goes φ N w φ1 N1 w1) (k : Goes φ1 N1 w1 φ2 N2 w2) : Goes φ N w φ2 N2 w2 := by
  refine ⟨h.ext.trans k.ext, fun A hA => ?_, fun A b n h1 h2 h3 => ?_, Nat.le_trans h.le k.le, Nat.le_trans h.size k.size, fun b hb hn => ?_, k.os.trans h.os, k.tape.trans h.tape, k.output.trans h.output, fun A hA => (by have h1 := h.le; have h2 := k.le; rw [k.atm A (by omega), h.atm A (by omega)])⟩
  · have h1 := h.le
    have h2 := k.le
    rw [k.only A (by omega), h.only A (by omega)]
  · by_cases hA : A < N1
    · have e : φ2 A = φ1 A := k.only A (.inl hA)
      rw [e] at h3
      exact h.new A b n h1 hA h3
    · rcases k.new A b n (by omega) h2 h3 with h4 | ⟨B, m, h4, h5⟩
      · exact .inl (Nat.le_trans h.size h4)
      · by_cases hB : B < N
        · exact .inr ⟨B, m, hB, by rw [← h.only B (.inl hB)]; exact h5⟩
        · exact h.new B b m (by omega) h4 h5
  · rw [k.kept b (Nat.lt_of_lt_of_le hb h.size) ?_, h.kept b hb hn]
    intro A n hA hφ
    by_cases hAN : A < N
    · rw [h.only A (.inl hAN)] at hφ; exact hn A n hAN hφ
    · rcases h.new A b n (by omega) hA hφ with h4 | ⟨B, m, h4, h5⟩
      · omega
      · exact hn B m h4 h5
theorem Goes.foreign {φ φ' : Phi} {N N' : Nat} {w w' : World} (g : Goes φ N w φ' N' w') {b : Nat} (h : Foreign φ w b) : Foreign φ' w' b := by
  refine ⟨Nat.lt_of_lt_of_le h.1 g.size, fun A n e => ?_⟩
  by_cases hA : A < N ∨ N' ≤ A
  · rw [g.only A hA] at e; exact h.2 A n e
  · rcases g.new A b n (by omega) (by omega) e with h4 | ⟨B, m, _, h5⟩
    · have := h.1; omega
    · exact h.2 B m h5
theorem Goes.claim {φ φ' : Phi} {N N' : Nat} {w w' : World} (g : Goes φ N w φ' N' w') {c : Claim} (h : c.says (Foreign φ w) w) : c.says (Foreign φ' w') w' :=
  c.stays _ _ _ _ h (fun b => g.foreign) (fun b hb => g.kept b hb.1 fun A n _ => hb.2 A n) g.size g.os g.tape g.output
theorem Goes.post {E : Env} {φ φ' : Phi} {N N' : Nat} {w w' : World} (g : Goes φ N w φ' N' w') (ha : φ'.atm = φ.atm) (h : ∀ A vs, φ.atm A = some vs → (E.post A vs).says (Foreign φ w) w) :
    ∀ A vs, φ'.atm A = some vs → (E.post A vs).says (Foreign φ' w') w' := fun A vs e => g.claim (h A vs (by rw [← ha]; exact e))
end Go.Abs
