/- A part of the proof of SpliceEqualsUptoSaid (texts: GrSym2 GrCopy GrSeg). No conditions. -/
import Derived.Test.YtmhkceeiiklfdaaGreatG21
import Derived.Test.YtmhkceeiiklfdaaGreatG22
set_option linter.unusedVariables false
set_option linter.unusedSimpArgs false
set_option linter.unusedVariables false
set_option linter.unusedSimpArgs false
namespace Go.Proofs.YtmhkceeiiklfdaaGreat
open Go.RowKit Go.Abs

/-- names i .. i + n - 1 of ghost A -/
def atoms (A i n : Nat) : List Value := (List.range n).map fun j => .chan (some (A * 64 + (i + j) + 2))
theorem atoms_den (ρ : Nat → Nat → Value) {A i n : Nat} (h : i + n ≤ 64) : (atoms A i n).map (denLeaf ρ) = (List.range n).map fun j => ρ A (i + j) := by
  unfold atoms
  rw [List.map_map]
  apply List.map_congr_left
  intro j hj
  have hj := List.mem_range.1 hj
  show ρ ((A * 64 + (i + j)) / 64) ((A * 64 + (i + j)) % 64) = ρ A (i + j)
  rw [show (A * 64 + (i + j)) / 64 = A by omega, show (A * 64 + (i + j)) % 64 = i + j by omega]
theorem den_atoms (ρ : Nat → Nat → Value) {A i n : Nat} (h : i + n ≤ 64) : den ρ (.agg ⟨atoms A i n⟩) = .agg ⟨(List.range n).map fun j => ρ A (i + j)⟩ := by
  show Value.agg ⟨(atoms A i n).map (denLeaf ρ)⟩ = _
  rw [atoms_den ρ h]
theorem atoms_ok (A i n : Nat) : (atoms A i n).all leafOk = true := by
  unfold atoms
  rw [List.all_map, List.all_eq_true]
  intro j _
  rfl
theorem atoms_only {A i n : Nat} (h : i + n ≤ 64) : (atoms A i n).all (onlyLeaf A) = true := by
  unfold atoms
  rw [List.all_map, List.all_eq_true]
  intro j hj
  have hj := List.mem_range.1 hj
  show ((A * 64 + (i + j)) / 64 == A) = true
  rw [show (A * 64 + (i + j)) / 64 = A by omega]
  simp
theorem atoms_use {A i n : Nat} (h : i + n ≤ 64) (hn : 0 < n) : (atoms A i n).any (leafUses A) = true := by
  unfold atoms
  rw [List.any_map, List.any_eq_true]
  refine ⟨0, List.mem_range.2 hn, ?_⟩
  show ((A * 64 + (i + 0)) / 64 == A) = true
  rw [show (A * 64 + (i + 0)) / 64 = A by omega]
  simp
theorem atom_den (ρ : Nat → Nat → Value) {A i : Nat} (h : i < 64) : denLeaf ρ (.chan (some (A * 64 + i + 2))) = ρ A i := by
  show ρ ((A * 64 + i) / 64) ((A * 64 + i) % 64) = ρ A i
  rw [show (A * 64 + i) / 64 = A by omega, show (A * 64 + i) % 64 = i by omega]
theorem atom_use {A i : Nat} (h : i < 64) : leafUses A (.chan (some (A * 64 + i + 2))) = true := by
  show ((A * 64 + i) / 64 == A) = true
  rw [show (A * 64 + i) / 64 = A by omega]; simp
theorem one_den (v : Value) (A : Nat) : den (fun _ i => [v].getD i (.bool false)) (.chan (some (A * 64 + 0 + 2))) = v := by
  have := atom_den (fun _ i => [v].getD i (.bool false)) (A := A) (i := 0) (by omega)
  exact this
theorem RdAL.only {S : Nat → Prop} {w : World} {d : Nat} {t : T} {v : Value} (h : RdAL S w d [t] [v]) : RdA S w d t v := by
  obtain ⟨u, h1, h2⟩ := h.2 0 t rfl
  cases h1
  exact h2
/-- the values of a row, by name -/
def nm (us : List Value) : Nat → Value := fun i => us.getD i (.bool false)
theorem nm_one {w : World} {d : Nat} {c : List T} {us : List Value} (h : RdL w d c us) (i : Nat) : isOne (nm us i) = true := ones_getD h i
theorem nm_row {us : List Value} {n : Nat} (h : us.length = n) : (List.range n).map (nm us) = us := by
  subst h
  apply List.ext_getElem?
  intro i
  rw [List.getElem?_map]
  by_cases hi : i < us.length
  · rw [List.getElem?_range hi, List.getElem?_eq_getElem hi]
    simp [nm, List.getD_eq_getElem?_getD, hi]
  · rw [List.getElem?_eq_none (by rw [List.length_range]; omega), List.getElem?_eq_none (by omega)]
    rfl
theorem nm_mid {a b c : List Value} {i n : Nat} (ha : a.length = i) (hb : b.length = n) : (List.range n).map (fun j => nm (a ++ (b ++ c)) (i + j)) = b := by
  refine (List.map_congr_left fun j hj => ?_).trans (nm_row hb)
  have hj := List.mem_range.1 hj
  unfold nm
  rw [List.getD_eq_getElem?_getD, List.getD_eq_getElem?_getD, List.getElem?_append_right (by omega), List.getElem?_append_left (by omega), show i + j - a.length = j by omega]
theorem nm_end {a b : List Value} {i n : Nat} (ha : a.length = i) (hb : b.length = n) : (List.range n).map (fun j => nm (a ++ b) (i + j)) = b := by
  have := nm_mid (c := []) ha hb
  rwa [List.append_nil] at this
section
variable {g : Nat} {w : World} {σ : Nat → Value} {specs : Specs} {rws : Rws} {E : Env}
/-- a struct's copy, of what has the names i .. -/
theorem con_val (hP : E.prog = Tryz.prog) (hE : E.post = postOf g w σ specs rws) {A f i n d : Nat} {ts : List T} {P : List T → Prop} {b : List Value} (hcl : ClV f P) (hs : specs A = some (d, ts)) (hA : A ≠ g) (hn : i + n ≤ 64) (h0 : 0 < n) (hl : ts.length = n) (hPt : P ts)
    (hrow : (List.range n).map (fun j => σ (i + j)) = b) (hb : RdL w d ts b) : ConOk E ⟨A, f, [.agg ⟨atoms g i n⟩], .agg ⟨atoms A 0 n⟩⟩ := by
  refine conOk_cp hP hE g hs hA ?_ ?_ (.inl rfl) (atoms_ok _ _ _) (atoms_only (by omega)) fun ρ W hf => ?_
  · simp only [List.all_cons, List.all_nil, Bool.and_true]; exact atoms_ok _ _ _
  · simp only [List.any_cons, List.any_nil, Bool.or_false]; exact atoms_use (by omega) h0
  have e0 : ρ g = σ := hf.start (by simp only [List.any_cons, List.any_nil, Bool.or_false]; exact atoms_use (by omega) h0)
  show Calls _ f ⟨[den ρ (.agg ⟨atoms g i n⟩)]⟩ W _
  rw [den_atoms ρ hn, e0, hrow]
  refine (hcl W d ts b (hb.below hf.below) hPt).mono ?_
  rintro e W' ⟨us', rfl, hr, hB⟩
  refine ⟨us', ?_, hr, hB⟩
  have h1 : (List.range n).map (fun j => us'.getD (0 + j) (.bool false)) = us' := by
    simp only [Nat.zero_add]
    exact nm_row (us := us') (n := n) (by rw [hr.1, hl])
  rw [den_atoms _ (by omega), h1]
theorem con_flat (hP : E.prog = Tryz.prog) (hE : E.post = postOf g w σ specs rws) {A f i d : Nat} {es : List (List T)} {P : List T → Prop} (hcl : FlC f P) (hs : specs A = some (d, [.sl es])) (hA : A ≠ g) (hn : i < 64) (hPt : ∀ c ∈ es, P c) (hb : Rd w d (.sl es) (σ i)) :
    ConOk E ⟨A, f, [.chan (some (g * 64 + i + 2))], .chan (some (A * 64 + 0 + 2))⟩ := by
  have hu : leafUses g (.chan (some (g * 64 + i + 2))) = true := atom_use hn
  refine conOk_cp hP hE g hs hA rfl ?_ (.inl rfl) rfl ?_ fun ρ W hf => ?_
  · simp only [List.any_cons, List.any_nil, Bool.or_false]; exact hu
  · show ((A * 64 + 0) / 64 == A) = true
    rw [show (A * 64 + 0) / 64 = A by omega]; simp
  have e0 : ρ g = σ := hf.start (by simp only [List.any_cons, List.any_nil, Bool.or_false]; exact hu)
  show Calls _ f ⟨[denLeaf ρ (.chan (some (g * 64 + i + 2)))]⟩ W _
  rw [atom_den ρ hn, e0]
  refine (hcl W d es (σ i) (hb.below hf.below) hPt).mono ?_
  rintro e W' ⟨v', rfl, hr, hB⟩
  exact ⟨[v'], by rw [one_den], .mk_cons hr .mk_nil, hB⟩
theorem con_each (hP : E.prog = Tryz.prog) (hE : E.post = postOf g w σ specs rws) {A f k i d : Nat} {es : List (List T)} {P : List T → Prop} (hcl : EaC f k P) (hs : specs A = some (d, [.sl es])) (hA : A ≠ g) (hn : i < 64) (hPt : ∀ c ∈ es, P c) (hb : Rd w d (.sl es) (σ i)) :
    ConOk E ⟨A, f, [.chan (some (g * 64 + i + 2)), .func (.func k) #[] #[]], .chan (some (A * 64 + 0 + 2))⟩ := by
  have hu : leafUses g (.chan (some (g * 64 + i + 2))) = true := atom_use hn
  have hu' : List.any [.chan (some (g * 64 + i + 2)), .func (.func k) #[] #[]] (uses g) = true := by
    simp only [List.any_cons, List.any_nil, Bool.or_false, Bool.or_eq_true]; exact .inl hu
  refine conOk_cp hP hE g hs hA rfl hu' (.inl rfl) rfl ?_ fun ρ W hf => ?_
  · show ((A * 64 + 0) / 64 == A) = true
    rw [show (A * 64 + 0) / 64 = A by omega]; simp
  have e0 : ρ g = σ := hf.start hu'
  show Calls _ f ⟨[denLeaf ρ (.chan (some (g * 64 + i + 2))), .func (.func k) #[] #[]]⟩ W _
  rw [atom_den ρ hn, e0]
  refine (hcl W d es (σ i) (hb.below hf.below) hPt).mono ?_
  rintro e W' ⟨v', rfl, hr, hB⟩
  exact ⟨[v'], by rw [one_den], .mk_cons hr .mk_nil, hB⟩
end
theorem forall_one {α : Type} {p : α → Prop} {a : α} (h : p a) : ∀ x ∈ [a], p x := fun x hx => by
  rw [List.mem_singleton] at hx; subst hx; exact h
theorem forall_two {α : Type} {p : α → Prop} {a b : α} (h : p a) (k : p b) : ∀ x ∈ [a, b], p x := List.forall_mem_cons.2 ⟨h, forall_one k⟩
theorem forall_three {α : Type} {p : α → Prop} {a b c : α} (h : p a) (k : p b) (l : p c) : ∀ x ∈ [a, b, c], p x := List.forall_mem_cons.2 ⟨h, forall_two k l⟩
theorem forall_four {α : Type} {p : α → Prop} {a b c d : α} (h : p a) (k : p b) (l : p c) (m : p d) : ∀ x ∈ [a, b, c, d], p x := List.forall_mem_cons.2 ⟨h, forall_three k l m⟩

/-! ### run.Clone -/
def cons136 : List Con := [⟨1, 236, [.chan (some (0 * 64 + 0 + 2)), .func (.func 237) #[] #[]], .chan (some (1 * 64 + 0 + 2))⟩]
set_option maxRecDepth 1000000 in
theorem run136 (post : Nat → (Nat → Value) → Abs.Claim) : resV (aEnter0 136 [.chan (some 2)] (emptyHeap.new .dead) (envS cons136 post) (aRun (envS cons136 post) 100000)) = some (.chan (some 66)) := by kernel_rfl
theorem fl136 {P : List T → Prop} (h : EaC 236 237 P) : FlC 136 P := by
  intro w d es v hv hP
  have hone : ∀ i, isOne (nm [v] i) = true := fun i => nm_one (RdL.mk_cons hv RdL.mk_nil) i
  refine (sym_walk (w := w) (σ := nm [v]) (specs := fun A => match A with | 1 => some (d, [.sl es]) | _ => none) (cons := cons136) 136 _ _ _ hone (by rfl) (by rfl) (by rfl) (run136 _) (forall_one (con_each (g := 0) (A := 1) (i := 0) rfl (postE _ _) h rfl (by decide) (by decide) hP hv))).mono ?_
  rintro e w' ⟨ρ, hf, rfl, hb⟩
  exact ⟨ρ 1 0, rfl, RdAL.only (hf.has 1 _ _ (by decide) rfl rfl), hb⟩
end Go.Proofs.YtmhkceeiiklfdaaGreat
set_option linter.unusedVariables false
set_option linter.unusedSimpArgs false
namespace Go.Proofs.YtmhkceeiiklfdaaGreat
open Go.RowKit Go.Abs

theorem lenItem : ∀ n c, IsItem n c → c.length = 11
  | 0, _, h => h.elim
  | _ + 1, _, h => IsItemOf.len h
theorem flItem : ∀ n, FlC 136 (IsItem n)
  | 0 => fl136 (ea236 _ (lenItem 0) (fun _ _ _ _ _ h => h.elim))
  | n + 1 => by
    have h171 := cv171 (flItem n)
    have h230 := ea230 _ (fun c h => IsCell.len h) h171
    have h170 := cv170 h230
    have h126 := ea126 _ (fun c h => IsRow.len h) h170
    have h237 := cv237 (flItem n) h126
    exact fl136 (ea236 _ (lenItem (n + 1)) h237)
theorem cvCell (n : Nat) : ClV 171 (IsCell (IsItem n)) := cv171 (flItem n)
theorem cvRow (n : Nat) : ClV 170 (IsRow (IsItem n)) := cv170 (ea230 _ (fun c h => IsCell.len h) (cvCell n))

def IsSet (c : List T) : Prop := ∃ a b e f, c = [.sl a, .sl b, .sl e, .sl f] ∧ (∀ x ∈ a, IsStyle x) ∧ (∀ x ∈ b, IsList x) ∧ (∀ x ∈ e, IsComment x) ∧ (∀ x ∈ f, IsVar x)
def IsDoc (P : List T → Prop) (c : List T) : Prop := ∃ fl h rv st, c = .sl fl :: (h ++ (.sl rv :: st)) ∧ (∀ x ∈ fl, P x) ∧ IsHead h ∧ (∀ x ∈ rv, IsRev x) ∧ IsSet st
def IsPiece (P : List T → Prop) (c : List T) : Prop := ∃ it rs cs h st, c = .sl it :: .sl rs :: .sl cs :: (h ++ st) ∧ (∀ x ∈ it, P x) ∧ (∀ x ∈ rs, IsRow P x) ∧ (∀ x ∈ cs, IsCell P x) ∧ IsHead h ∧ IsSet st
def IsSplice (P : List T → Prop) (c : List T) : Prop := ∃ k i a s p q, c = .lf (.int k) :: .lf (.int i) :: .lf (.int a) :: .lf (.int s) :: (p ++ q) ∧ IsPiece P p ∧ IsPiece P q
theorem IsSet.len {c : List T} (h : IsSet c) : c.length = 4 := by obtain ⟨a, b, e, f, rfl, _⟩ := h; rfl
theorem IsDoc.len {P : List T → Prop} {c : List T} (h : IsDoc P c) : c.length = 11 := by obtain ⟨fl, h, rv, st, rfl, _, hh, _, hs⟩ := h; simp [hh.len, hs.len]
theorem IsPiece.len {P : List T → Prop} {c : List T} (h : IsPiece P c) : c.length = 12 := by obtain ⟨it, rs, cs, h, st, rfl, _, _, _, hh, hs⟩ := h; simp [hh.len, hs.len]
theorem IsSplice.len {P : List T → Prop} {c : List T} (h : IsSplice P c) : c.length = 28 := by obtain ⟨k, i, a, s, p, q, rfl, hp, hq⟩ := h; simp [hp.len, hq.len]

/-! ### document.Clone -/
def cons58 : List Con := [⟨3, 136, [.chan (some (0 * 64 + 0 + 2))], .chan (some (3 * 64 + 0 + 2))⟩, ⟨4, 124, [.agg ⟨atoms 0 1 5⟩], .agg ⟨atoms 4 0 5⟩⟩, ⟨5, 55, [.chan (some (0 * 64 + 6 + 2))], .chan (some (5 * 64 + 0 + 2))⟩, ⟨6, 137, [.agg ⟨atoms 0 7 4⟩], .agg ⟨atoms 6 0 4⟩⟩]
set_option maxRecDepth 1000000 in
theorem run58 (post : Nat → (Nat → Value) → Abs.Claim) : resV (aEnter0 58 [.agg ⟨atoms 0 0 11⟩] (emptyHeap.new .dead) (envS cons58 post) (aRun (envS cons58 post) 100000)) = some (.agg ⟨[.chan (some 194)] ++ (atoms 4 0 5 ++ ([.chan (some 322)] ++ atoms 6 0 4))⟩) := by kernel_rfl
theorem cv58 {P : List T → Prop} (h136 : FlC 136 P) (h137 : ClV 137 IsSet) : ClV 58 (IsDoc P) := by
  rintro w d c us hu hc
  have hl := hc.len
  obtain ⟨fl, h, rv, st, rfl, pf, ph, pv, ps⟩ := hc
  have hone := nm_one hu
  have hus : us.length = 11 := by rw [hu.1, hl]
  obtain ⟨v0, _, rfl, r0, hu⟩ := hu.cons
  obtain ⟨a, _, rfl, ra, hu⟩ := hu.app
  obtain ⟨v1, b, rfl, r1, rb⟩ := hu.cons
  have la : a.length = 5 := by rw [ra.1, ph.len]
  have lb : b.length = 4 := by rw [rb.1, ps.len]
  have hw := sym_walk (w := w) (σ := nm (v0 :: (a ++ v1 :: b))) (specs := fun A => match A with | 3 => some (d, [.sl fl]) | 4 => some (d, h) | 5 => some (d, [.sl rv]) | 6 => some (d, st) | _ => none) (cons := cons58) 58 _ _ _ hone (by rfl) (by rfl) (by rfl) (run58 _)
    (forall_four
      (con_flat (g := 0) (A := 3) (i := 0) rfl (postE _ _) h136 rfl (by decide) (by decide) pf r0)
      (con_val (g := 0) (A := 4) (i := 1) (n := 5) rfl (postE _ _) hdv124 rfl (by decide) (by decide) (by decide) ph.len ph (nm_mid (a := [v0]) (b := a) (c := v1 :: b) rfl la) ra)
      (con_flat (g := 0) (A := 5) (i := 6) rfl (postE _ _) fl55 rfl (by decide) (by decide) pv (by
        have : nm (v0 :: (a ++ v1 :: b)) 6 = v1 := by
          show (v0 :: (a ++ v1 :: b)).getD 6 _ = v1
          rw [List.getD_eq_getElem?_getD, List.getElem?_cons_succ, List.getElem?_append_right (by omega), la]; rfl
        show Rd w d (.sl rv) (nm (v0 :: (a ++ v1 :: b)) 6)
        rw [this]; exact r1))
      (con_val (g := 0) (A := 6) (i := 7) (n := 4) rfl (postE _ _) h137 rfl (by decide) (by decide) (by decide) ps.len ps (by
        have := nm_end (a := v0 :: (a ++ [v1])) (b := b) (i := 7) (n := 4) (by simp [la]) lb
        simpa using this) rb))
  have harg : [Value.agg ⟨atoms 0 0 11⟩].map (den fun _ => nm (v0 :: (a ++ v1 :: b))) = [.agg (v0 :: (a ++ v1 :: b)).toArray] := by
    rw [List.map_singleton, den_atoms _ (by omega)]
    simp only [Nat.zero_add]
    rw [nm_row hus]
  rw [harg] at hw
  refine hw.mono ?_
  rintro e w' ⟨ρ, hf, rfl, hb⟩
  have q3 := hf.has 3 _ _ (by decide) rfl (by rfl)
  have q4 := hf.has 4 _ _ (by decide) rfl (by rfl)
  have q5 := hf.has 5 _ _ (by decide) rfl (by rfl)
  have q6 := hf.has 6 _ _ (by decide) rfl (by rfl)
  rw [ph.len] at q4
  rw [ps.len] at q6
  exact ⟨row 1 (ρ 3) ++ (row 5 (ρ 4) ++ (row 1 (ρ 5) ++ row 4 (ρ 6))), rfl, q3.append (q4.append (q5.append q6)), hb⟩

/-! ### splice.Clone -/
def cons26 : List Con := [⟨3, 71, [.agg ⟨atoms 0 4 12⟩], .agg ⟨atoms 3 0 12⟩⟩, ⟨4, 71, [.agg ⟨atoms 0 16 12⟩], .agg ⟨atoms 4 0 12⟩⟩]
set_option maxRecDepth 1000000 in
theorem run26 (post : Nat → (Nat → Value) → Abs.Claim) : resV (aEnter0 26 [.agg ⟨atoms 0 0 28⟩] (emptyHeap.new .dead) (envS cons26 post) (aRun (envS cons26 post) 100000)) = some (.agg ⟨atoms 0 0 4 ++ (atoms 3 0 12 ++ atoms 4 0 12)⟩) := by kernel_rfl
theorem cv26 {P : List T → Prop} (h71 : ClV 71 (IsPiece P)) : ClV 26 (IsSplice P) := by
  rintro w d c us hu hc
  have hl := hc.len
  obtain ⟨k, i, a, s, p, q, rfl, pp, pq⟩ := hc
  have hone := nm_one hu
  have hus : us.length = 28 := by rw [hu.1, hl]
  obtain ⟨v0, _, rfl, r0, hu⟩ := hu.cons
  obtain ⟨v1, _, rfl, r1, hu⟩ := hu.cons
  obtain ⟨v2, _, rfl, r2, hu⟩ := hu.cons
  obtain ⟨v3, _, rfl, r3, hu⟩ := hu.cons
  obtain ⟨x, y, rfl, rx, ry⟩ := hu.app
  have lx : x.length = 12 := by rw [rx.1, pp.len]
  have ly : y.length = 12 := by rw [ry.1, pq.len]
  have hw := sym_walk (w := w) (σ := nm (v0 :: v1 :: v2 :: v3 :: (x ++ y))) (specs := fun A => match A with | 3 => some (d, p) | 4 => some (d, q) | _ => none) (cons := cons26) 26 _ _ _ hone (by rfl) (by rfl) (by rfl) (run26 _)
    (forall_two
      (con_val (g := 0) (A := 3) (i := 4) (n := 12) rfl (postE _ _) h71 rfl (by decide) (by decide) (by decide) pp.len pp (nm_mid (a := [v0, v1, v2, v3]) (b := x) (c := y) rfl lx) rx)
      (con_val (g := 0) (A := 4) (i := 16) (n := 12) rfl (postE _ _) h71 rfl (by decide) (by decide) (by decide) pq.len pq (by
        have := nm_end (a := v0 :: v1 :: v2 :: v3 :: x) (b := y) (i := 16) (n := 12) (by simp [lx]) ly
        simpa using this) ry))
  have harg : [Value.agg ⟨atoms 0 0 28⟩].map (den fun _ => nm (v0 :: v1 :: v2 :: v3 :: (x ++ y))) = [.agg (v0 :: v1 :: v2 :: v3 :: (x ++ y)).toArray] := by
    rw [List.map_singleton, den_atoms _ (by omega)]
    simp only [Nat.zero_add]
    rw [nm_row hus]
  rw [harg] at hw
  refine hw.mono ?_
  rintro e w' ⟨ρ, hf, rfl, hb⟩
  have e0 := hf.start (by rfl)
  have q3 := hf.has 3 _ _ (by decide) rfl (by rfl)
  have q4 := hf.has 4 _ _ (by decide) rfl (by rfl)
  rw [pp.len] at q3
  rw [pq.len] at q4
  obtain rfl : v0 = .int .i64 k := r0.lf
  obtain rfl : v1 = .int .i64 i := r1.lf
  obtain rfl : v2 = .int .i64 a := r2.lf
  obtain rfl : v3 = .int .i64 s := r3.lf
  refine ⟨[ρ 0 0, ρ 0 1, ρ 0 2, ρ 0 3] ++ (row 12 (ρ 3) ++ row 12 (ρ 4)), rfl, ?_, hb⟩
  rw [e0]
  exact .mk_cons (RdA.of_lf _ _ _ (.int k)) (.mk_cons (RdA.of_lf _ _ _ (.int i)) (.mk_cons (RdA.of_lf _ _ _ (.int a)) (.mk_cons (RdA.of_lf _ _ _ (.int s)) (q3.append q4))))
end Go.Proofs.YtmhkceeiiklfdaaGreat
set_option linter.unusedVariables false
set_option linter.unusedSimpArgs false
namespace Go.Proofs.YtmhkceeiiklfdaaGreat
open Go.RowKit Go.Abs

noncomputable def regRun (draw : Bool) (ops : List Oper) (nt : Nat) (E : Env) (n : Nat) (T : Tr Value) (H : AHeap) : Option (Abs.Loc × AHeap) :=
  match draw with
  | true => match aOpsD ops nt E (aRun E n) T ops .nil H with
    | some (L, H', es) => match regOk ops && evCheck (befores [] ops) [] es with
      | true => some (L, H')
      | false => none
    | none => none
  | false => aOps ops nt E (aRun E n) T ops .nil H
theorem regRun_true {ops : List Oper} {nt : Nat} {E : Env} {n : Nat} {T : Tr Value} {H H' : AHeap} {L : Abs.Loc} (h : regRun true ops nt E n T H = some (L, H')) : ∃ es, aOpsD ops nt E (aRun E n) T ops .nil H = some (L, H', es) ∧ regOk ops = true ∧ evCheck (befores [] ops) [] es = true := by
  simp only [regRun] at h
  split at h
  · rename_i L1 H1 es h1
    split at h
    · rename_i h2
      cases h
      rw [Bool.and_eq_true] at h2
      exact ⟨es, h1, h2.1, h2.2⟩
    · cases h
  · cases h
noncomputable def seeB (H : AHeap) (A : Nat) : Option (TypeId × List Value) := match H.get A with
  | some (.cells e cs 0 true) => some (e, cs)
  | _ => none
/-- what the region leaves in temporaries and blocks -/
noncomputable def regSee (draw : Bool) (ops : List Oper) (nt : Nat) (E : Env) (n : Nat) (T : Tr Value) (H : AHeap) (ts : List Tmp) (bs : List Nat) : Option (List Value × List (Option (TypeId × List Value))) :=
  match regRun draw ops nt E n T H with
  | some (L, H') => some (ts.map fun t => evalT t ⟨L, T⟩, bs.map (seeB H'))
  | none => none
/-- what is known behind a region -/
structure Seg (owns : List Own) (σ : Nat → Value) (specs : Specs) (rws : Rws) (w0 w : World) (a : Act) (ts : List Tmp) (bs : List Nat) (vs : List Value) (bl : List (Option (TypeId × List Value))) (φ : Phi) (w' : World) (a' : Act) : Prop where
  size : a'.tmps.size = a.tmps.size
  defers : a'.defers = a.defers
  tmp : ∀ (i : Nat) (t : Tmp) (v : Value), ts[i]? = some t → vs[i]? = some v → VRel φ v (a'.tmps.getD t undef)
  blk : ∀ (i A : Nat) (e : TypeId) (cs : List Value) (b n : Nat), bs[i]? = some A → bl[i]? = some (some (e, cs)) → φ A = some (b, n) → 0 < cs.length → ∃ C : Array Value, w'.heap[b]? = some (.cells C e (0, 0)) ∧ LRel φ cs C.toList
  apart : ∀ (i j A B b n m : Nat) (x y : TypeId × List Value), bs[i]? = some A → bs[j]? = some B → bl[i]? = some (some x) → bl[j]? = some (some y) → A ≠ B → φ A = some (b, n) → φ B = some (b, m) → False
  own : ∀ (A : Nat) (o : Own), owns[A]? = some o → φ A = some (o.b, o.cs.length)
  fresh : ∀ (A b n : Nat), owns.length ≤ A → φ A = some (b, n) → w.heap.size ≤ b ∨ ∃ o ∈ owns, o.b = b
  start : φ.atm owns.length = some σ
  has : ∀ (A d : Nat) (ts : List T) (vs : Nat → Value), A ≠ owns.length → specs A = some (d, ts) → φ.atm A = some vs → RdAL (fun b => w0.heap.size ≤ b ∧ b < w'.heap.size ∧ ∀ A n, φ A ≠ some (b, n)) w' d ts (row ts.length vs)
  row : ∀ (A d et sz : Nat) (es : List (List T)) (vs : Nat → Value), A ≠ owns.length → specs A = none → rws A = some (d, et, sz, es) → φ.atm A = some vs →
    ∃ xs, w'.ownsRow w0.heap.size et sz (vs 0) es.length xs ∧ (∀ q, (vs 0).ownBlock = some q → q < w'.heap.size ∧ ∀ A n, φ A ≠ some (q, n)) ∧ RdAL (fun b => b < w0.heap.size) w' d es.flatten xs
  grow : w.heap.size ≤ w'.heap.size
  kept : ∀ b, b < w.heap.size → (∀ o ∈ owns, o.b ≠ b) → w'.heap[b]? = w.heap[b]?
  os : w'.os = w.os
  tape : w'.tape = w.tape
  output : w'.output = w.output
theorem ofList_get {l : List Value} {t : Nat} {v : Value} (h : (Tr.ofList l).get t = some v) : l[t]? = some v := Tr.get_ofList _ _ _ h
theorem seg_wp {owns : List Own} {σ : Nat → Value} {specs : Specs} {rws : Rws} {cons : List Con} {w0 w : World} {a : Act} (draw : Bool) {id : Nat} {ops : Array Oper} {nt n : Nat} (ts : List Tmp) (bs : List Nat) (vs : List Value) (bl : List (Option (TypeId × List Value))) (l : List Value)
    (hrun : regSee draw ops.toList nt (envS cons (postOf owns.length w0 σ specs rws)) n (Tr.ofList l) (ownHeap (owns.map fun o => (o.ty, o.cs))) ts bs = some (vs, bl))
    (hT : ∀ (i : Nat) (v : Value), l[i]? = some v → VRel (ownPhi owns σ) v (a.tmps.getD i undef)) (hnt : a.tmps.size = nt)
    (hlen : owns.length < 1000) (hnd : owns.Pairwise fun x y => x.b ≠ y.b) (hok : ∀ o ∈ owns, OwnOk (ownPhi owns σ) w o) (hbase : Below w0.heap.size w0 w) (hown : ∀ o ∈ owns, w0.heap.size ≤ o.b)
    (hcons : ∀ c ∈ cons, ConOk (envS cons (postOf owns.length w0 σ specs rws)) c) {Q : Exit → Act → World → Prop}
    (hQ : ∀ φ w' a', Seg owns σ specs rws w0 w a ts bs vs bl φ w' a' → Q .normal a' w') : (Code.region id ops draw).wp Tryz.prog Q a w := by
  have ok := envS_ok _ hcons
  have hp : ((envS cons (postOf owns.length w0 σ specs rws)).post owns.length σ).says (Foreign (ownPhi owns σ) w) w := by
    show (postOf owns.length w0 σ specs rws owns.length σ).says _ _
    unfold postOf
    rw [if_pos rfl]
    refine ⟨⟨hbase, fun b hb => ⟨Nat.lt_of_lt_of_le hb hbase.size, fun A n e => ?_⟩⟩, rfl⟩
    have e : (owns[A]?).map (fun o => (o.b, o.cs.length)) = some (b, n) := e
    cases ho : owns[A]? with
    | none => rw [ho] at e; cases e
    | some o =>
      rw [ho] at e; cases e
      have := hown o (List.mem_of_getElem? ho)
      omega
  have sim := own_sim (E := envS cons (postOf owns.length w0 σ specs rws)) hlen hnd hok hp
  have hF : FR (ownPhi owns σ) ⟨.nil, Tr.ofList l⟩ a.tmps := by
    intro t
    rw [evalT_nil]
    split
    · rename_i v hv; exact hT t v (ofList_get hv)
    · exact .top _
  have hHs : (ownHeap (owns.map fun o => (o.ty, o.cs))).size = owns.length + 1 := by show (owns.map _).length + 1 = _; rw [List.length_map]
  have hfree : ∀ H', Free (ownPhi owns σ) (ownHeap (owns.map fun o => (o.ty, o.cs))) H' := by
    intro H' A h1 h2
    rw [hHs] at h1
    refine ⟨?_, ?_⟩
    · show (owns[A]?).map _ = none
      rw [List.getElem?_eq_none (by omega)]; rfl
    · show (if A = owns.length then some σ else none) = none
      rw [if_neg (by omega)]
  have fin : ∀ L H' φ' w' a', some (ts.map fun t => evalT t ⟨L, Tr.ofList l⟩, bs.map (seeB H')) = some (vs, bl) → Goes (ownPhi owns σ) (ownHeap (owns.map fun o => (o.ty, o.cs))).size w φ' H'.size w' → SimL φ' (envS cons (postOf owns.length w0 σ specs rws)) H' w' → FR φ' ⟨L, Tr.ofList l⟩ a'.tmps → a'.tmps.size = nt → a'.defers = a.defers → Seg owns σ specs rws w0 w a ts bs vs bl φ' w' a' := by
    intro L H' φ' w' a' hs g s f h1 h2
    injection hs with hs
    injection hs with hs1 hs2
    have hst : φ'.atm owns.length = some σ := g.ext.atm _ _ (by show (if owns.length = owns.length then some σ else none) = _; rw [if_pos rfl])
    refine ⟨by rw [h1, hnt], h2, fun i t v hi hv => ?_, fun i A e cs b m hi hb hφ hc => ?_, fun i j A B b m m' x y hi hj hx hy hne h3 h4 => ?_, fun A o ho => g.ext _ _ (by show (owns[A]?).map _ = _; rw [ho]; rfl), fun A b m hA hφ => ?_, hst, fun A d tt us hA hsp hat => ?_, fun A d et sz es us hA hsp hr hat => ?_, g.size, fun b hb ho => ?_, g.os, g.tape, g.output⟩
    · subst hs1
      rw [List.getElem?_map, hi] at hv
      cases hv
      exact f t
    · subst hs2
      rw [List.getElem?_map, hi] at hb
      have hb : seeB H' A = some (e, cs) := by simpa using hb
      unfold seeB at hb
      split at hb
      · rename_i e' cs' hg
        cases hb
        obtain ⟨c, h3, C, lo, hi', rfl, h4, h5, h6, h7, h8, h9⟩ := s.has A b m _ hφ hg
        have hlen := h6 rfl
        have hlo : lo = 0 := by
          rcases h9 with h9 | h9
          · exact h9.1
          · exact absurd h9.2 (by decide)
        subst hlo
        have hhi : hi' = 0 := by
          rcases Nat.eq_zero_or_pos hi' with h | h
          · exact h
          · have := h8 0 (Nat.le_refl _) h; omega
        subst hhi
        exact ⟨C, h3, LRel.of (by rw [hlen, ← h4, Array.length_toList]) fun i v hv => by
          obtain ⟨v', h10, h11⟩ := h7 i v hv
          exact ⟨v', by rw [Array.getElem?_toList]; exact h10, h11⟩⟩
      · cases hb
    · subst hs2
      have alive : ∀ (i A : Nat) (x : TypeId × List Value), bs[i]? = some A → (bs.map (seeB H'))[i]? = some (some x) → H'.get A ≠ some .dead := by
        intro i A x hi hx hd
        rw [List.getElem?_map, hi] at hx
        have hx : seeB H' A = some x := by simpa using hx
        unfold seeB at hx
        rw [hd] at hx
        cases hx
      rcases s.inj A B b m m' hne h3 h4 with h | h
      · exact alive i A x hi hx h
      · exact alive j B y hj hy h
    · by_cases hA0 : A < (ownHeap (owns.map fun o => (o.ty, o.cs))).size ∨ H'.size ≤ A
      · rw [g.only A hA0] at hφ
        have hφ : (owns[A]?).map (fun o => (o.b, o.cs.length)) = some (b, m) := hφ
        rw [List.getElem?_eq_none hA] at hφ
        cases hφ
      · rcases g.new A b m (by omega) (by omega) hφ with h | ⟨B, k, hB, h⟩
        · exact .inl h
        · have h : (owns[B]?).map (fun o => (o.b, o.cs.length)) = some (b, k) := h
          cases ho : owns[B]? with
          | none => rw [ho] at h; cases h
          | some o => rw [ho] at h; cases h; exact .inr ⟨o, List.mem_of_getElem? ho, rfl⟩
    · have := s.post A us hat
      have this : (postOf owns.length w0 σ specs rws A us).says (Foreign φ' w') w' := this
      unfold postOf at this
      rw [if_neg hA, hsp] at this
      exact this.2.frame (fun b hb => ⟨hb.2.1, hb.2.2, hb.1.2⟩) (fun _ _ => rfl)
    · have := s.post A us hat
      have this : (postOf owns.length w0 σ specs rws A us).says (Foreign φ' w') w' := this
      unfold postOf at this
      rw [if_neg hA, hsp] at this
      have this : (match rws A with | some (d, et, sz, es) => rowClaim w0 d et sz es us | none => noClaim).says (Foreign φ' w') w' := this
      rw [hr] at this
      obtain ⟨_, xs, h5, h6, h7⟩ := this
      exact ⟨xs, h5, fun q hq => ⟨(h6 q hq).2, (h6 q hq).1.2⟩, h7⟩
    · refine g.kept b hb fun A k _ e => ?_
      have e : (owns[A]?).map (fun o => (o.b, o.cs.length)) = some (b, k) := e
      cases ho' : owns[A]? with
      | none => rw [ho'] at e; cases e
      | some o => rw [ho'] at e; cases e; exact ho o (List.mem_of_getElem? ho') rfl
  unfold regSee at hrun
  split at hrun
  · rename_i L H' hr
    cases draw with
    | true =>
      obtain ⟨es, h1, h2, h3⟩ := regRun_true hr
      exact region_wp ok n h1 h2 h3 hF hnt sim (hfree H') fun φ' w' a' g s f h3 h4 => hQ φ' w' a' (fin L H' φ' w' a' hrun g s f h3 h4)
    | false => exact region_wp0 ok n hr hF hnt sim (hfree H') fun φ' w' a' g s f h3 h4 => hQ φ' w' a' (fin L H' φ' w' a' hrun g s f h3 h4)
  · cases hrun
theorem atoms_uses {A B i n : Nat} (h : i + n ≤ 64) (hu : (atoms A i n).any (leafUses B) = true) : B = A := by
  rw [List.any_eq_true] at hu
  obtain ⟨x, hx, hu⟩ := hu
  exact onlyLeaf_eq (List.all_eq_true.1 (atoms_only h) x hx) hu
theorem own_names {owns : List Own} {σ : Nat → Value} (hone : ∀ i, isOne (σ i) = true) {g i n : Nat} (hg : owns.length = g) (hn : i + n ≤ 64) : LRel (ownPhi owns σ) (atoms g i n) ((List.range n).map fun j => σ (i + j)) := by
  have := leaves_rel (φ := ownPhi owns σ) (ρ := fun _ => σ) (fun _ i => hone i) (atoms_ok g i n) (fun A h => by
    rw [atoms_uses hn h]
    show (if g = owns.length then some σ else none) = some σ
    rw [if_pos hg.symm])
  rwa [atoms_den _ hn] at this
theorem lrel_tmps {φ : Phi} {ts : Array Value} : ∀ {l l' : List Value}, LRel φ l l' → (∀ i v, l'[i]? = some v → ts.getD i undef = v) → ∀ (i : Nat) (v : Value), l[i]? = some v → VRel φ v (ts.getD i undef) := by
  intro l l' h ht i v hv
  obtain ⟨v', h1, h2⟩ := h.get i v hv
  rw [ht i v' h1]; exact h2
theorem named_of {φ : Phi} {A i : Nat} (hi : i < 64) {v : Value} (h : VRel φ (.chan (some (A * 64 + i + 2))) v) : ∃ vs, φ.atm A = some vs ∧ v = vs i := by
  generalize hk : Value.chan (some (A * 64 + i + 2)) = c at h
  cases h with
  | atom k vs v h0 h1 h2 =>
    injection hk with hk
    injection hk with hk
    have hk : A * 64 + i = k := by omega
    subst hk
    exact ⟨vs, by rw [show (A * 64 + i) / 64 = A by omega] at h0; exact h0, by rw [h1, show (A * 64 + i) % 64 = i by omega]⟩
  | gr v hg => subst hk; cases hg
  | top => cases hk
  | undef => injection hk with hk; injection hk with hk; omega
  | str => injection hk with hk; injection hk with hk; omega
  | _ => cases hk
theorem act_list (a : Act) {n : Nat} (h : a.tmps.size = n) : ∃ u : Nat → Value, a = ⟨((List.range n).map u).toArray, a.defers⟩ ∧ ∀ i, i < n → a.tmps.getD i undef = u i := by
  refine ⟨fun i => a.tmps.getD i undef, ?_, fun _ _ => rfl⟩
  obtain ⟨⟨t⟩, d⟩ := a
  have h : t.length = n := h
  subst h
  congr 1
  apply Array.ext'
  apply List.ext_getElem?
  intro i
  show t[i]? = ((List.range t.length).map fun i => (⟨t⟩ : Array Value).getD i undef)[i]?
  rw [List.getElem?_map]
  by_cases hi : i < t.length
  · rw [List.getElem?_range hi, List.getElem?_eq_getElem hi]
    simp [Array.getD, hi]
  · rw [List.getElem?_eq_none (by omega), List.getElem?_eq_none (by rw [List.length_range]; omega)]
    rfl
theorem heap_new (W : World) (o : Obj) : (W.alloc o).heap[W.heap.size]? = some o := by show (W.heap.push o)[W.heap.size]? = some o; simp
theorem own_row {φ : Phi} {W : World} {ty : TypeId} {cs : List Value} {C : Array Value} {b : Nat} (h : W.heap[b]? = some (.cells C ty)) (hr : LRel φ cs C.toList) : OwnOk φ W ⟨b, ty, cs⟩ := ⟨C, 0, h, rfl, hr⟩
end Go.Proofs.YtmhkceeiiklfdaaGreat
