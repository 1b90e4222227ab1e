/- A part of the proof of SpliceEqualsUptoSaid (texts: GrSym GrCl2 GrCp GrCls). No conditions. -/
import Derived.Test.YtmhkceeiiklfdaaGreatG14
import Derived.Test.YtmhkceeiiklfdaaGreatG15
import Derived.Test.YtmhkceeiiklfdaaGreatG16
import Derived.WalkKit
import Derived.Lib.SliceRun
set_option linter.unusedVariables false
set_option linter.unusedSimpArgs false
set_option linter.unusedVariables false
set_option linter.unusedSimpArgs false
namespace Go.Proofs.YtmhkceeiiklfdaaGreat
open Go.RowKit Go.Abs

/-! ### Walks by the abstract interpreter -/
def row (n : Nat) (vs : Nat → Value) : List Value := (List.range n).map vs
def Base (w : World) (F : Nat → Prop) (W : World) : Prop := Below w.heap.size w W ∧ ∀ b, b < w.heap.size → F b
theorem Base.stays {w : World} {F F' : Nat → Prop} {W W' : World} (h : Base w F W) (h1 : ∀ b, F b → F' b) (h2 : ∀ b, F b → W'.heap[b]? = W.heap[b]?) (h3 : W.heap.size ≤ W'.heap.size) (h4 : W'.os = W.os) (h5 : W'.tape = W.tape) (h6 : W'.output = W.output) : Base w F' W' :=
  ⟨⟨h4.trans h.1.os, h5.trans h.1.tape, h6.trans h.1.output, Nat.le_trans h.1.size h3, fun b hb => (h2 b (h.2 b hb)).trans (h.1.block b hb)⟩, fun b hb => h1 b (h.2 b hb)⟩
def startClaim (w : World) (σ vs : Nat → Value) : Abs.Claim where
  says F W := Base w F W ∧ vs = σ
  stays F F' W W' h h1 h2 h3 h4 h5 h6 := ⟨h.1.stays h1 h2 h3 h4 h5 h6, h.2⟩
def cpClaim (w : World) (d : Nat) (ts : List T) (vs : Nat → Value) : Abs.Claim where
  says F W := Base w F W ∧ RdAL (fun b => F b ∧ w.heap.size ≤ b ∧ b < W.heap.size) W d ts (row ts.length vs)
  stays F F' W W' h h1 h2 h3 h4 h5 h6 := ⟨h.1.stays h1 h2 h3 h4 h5 h6, h.2.frame (fun b hb => ⟨h1 b hb.1, hb.2.1, Nat.lt_of_lt_of_le hb.2.2 h3⟩) (fun b hb => h2 b hb.1)⟩
theorem own_same {w w' : World} {B e sz n : Nat} {v : Value} {xs : List Value} (h : w.ownsRow B e sz v n xs) (hs : ∀ g, v.ownBlock = some g → w'.heap[g]? = w.heap[g]?) : w'.ownsRow B e sz v n xs := by
  obtain ⟨h1, h2 | ⟨g, cap, cur, rfl, h3, h4, h5⟩⟩ := h
  · exact ⟨h1, .inl h2⟩
  · exact ⟨h1, .inr ⟨g, cap, cur, rfl, h3, by rw [hs g rfl]; exact h4, h5⟩⟩
/-- a row of one's own, whose elements are old -/
def rowClaim (w : World) (d : Nat) (et : TypeId) (sz : Nat) (es : List (List T)) (vs : Nat → Value) : Abs.Claim where
  says F W := Base w F W ∧ ∃ xs, W.ownsRow w.heap.size et sz (vs 0) es.length xs ∧ (∀ g, (vs 0).ownBlock = some g → F g ∧ g < W.heap.size) ∧ RdAL (fun b => b < w.heap.size) W d es.flatten xs
  stays F F' W W' h h1 h2 h3 h4 h5 h6 := by
    obtain ⟨hb, xs, ho, hg, hr⟩ := h
    exact ⟨hb.stays h1 h2 h3 h4 h5 h6, xs, own_same ho (fun g hg' => h2 g (hg g hg').1), fun g hg' => ⟨h1 g (hg g hg').1, Nat.lt_of_lt_of_le (hg g hg').2 h3⟩, hr.frame (fun _ h => h) (fun b hb' => h2 b (hb.2 b hb'))⟩
abbrev Specs := Nat → Option (Nat × List T)
abbrev Rws := Nat → Option (Nat × TypeId × Nat × List (List T))
def noRws : Rws := fun _ => none
def postOf (g : Nat) (w : World) (σ : Nat → Value) (specs : Specs) (rws : Rws) (A : Nat) (vs : Nat → Value) : Abs.Claim :=
  if A = g then startClaim w σ vs else match specs A with
    | some (d, ts) => cpClaim w d ts vs
    | none => match rws A with
      | some (d, et, sz, es) => rowClaim w d et sz es vs
      | none => noClaim
noncomputable abbrev envS (cons : List Con) (post : Nat → (Nat → Value) → Abs.Claim) : Env := envWith Tryz.prog nats0 keep0 cons post
theorem postE (cons : List Con) (post : Nat → (Nat → Value) → Abs.Claim) : (envS cons post).post = post := rfl
def onlyLeaf (B : Nat) : Value → Bool
  | .chan (some (k + 2)) => k / 64 == B
  | _ => true
def onlyOf (B : Nat) : Value → Bool
  | .agg ⟨l⟩ => l.all (onlyLeaf B)
  | v => onlyLeaf B v
theorem onlyLeaf_eq {A B : Nat} {v : Value} (h : onlyLeaf B v = true) (hu : leafUses A v = true) : A = B := by
  unfold leafUses at hu
  split at hu
  · have h : (_ / 64 == B) = true := h
    rw [beq_iff_eq] at h hu
    rw [← h, ← hu]
  · cases hu
theorem only_eq {A B : Nat} {v : Value} (h : onlyOf B v = true) (hu : uses A v = true) : A = B := by
  cases v with
  | agg cs =>
    obtain ⟨cs⟩ := cs
    have hu : cs.any (leafUses A) = true := hu
    have h : cs.all (onlyLeaf B) = true := h
    rw [List.any_eq_true] at hu
    obtain ⟨x, hx, hu⟩ := hu
    exact onlyLeaf_eq (List.all_eq_true.1 h x hx) hu
  | _ =>
    simp only [onlyOf] at h
    simp only [uses] at hu
    exact onlyLeaf_eq h hu
theorem onlys_eq {A B : Nat} {l : List Value} (h : l.all (onlyOf B) = true) (hu : l.any (uses A) = true) : A = B := by
  rw [List.any_eq_true] at hu
  obtain ⟨x, hx, hu⟩ := hu
  exact only_eq (List.all_eq_true.1 h x hx) hu
section
variable {g : Nat} {w : World} {σ : Nat → Value} {specs : Specs} {rws : Rws} {cons : List Con}
theorem base_of {E : Env} (hE : E.post = postOf g w σ specs rws) {φ : Phi} {W : World} (hp : ∀ A vs, φ.atm A = some vs → (E.post A vs).says (Foreign φ W) W) {A : Nat} {vs : Nat → Value} (h : φ.atm A = some vs) (hA : A = g ∨ specs A ≠ none) : Base w (Foreign φ W) W := by
  have := hp A vs h
  rw [hE] at this
  unfold postOf at this
  split at this
  · exact this.1
  · split at this
    · exact this.1
    · rename_i h0 x h1
      rcases hA with hA | hA
      · exact absurd hA h0
      · exact absurd h1 hA
/-- what a call finds -/
structure Finds (g : Nat) (w : World) (σ : Nat → Value) (specs : Specs) (args : List Value) (ρ : Nat → Nat → Value) (W : World) : Prop where
  below : Below w.heap.size w W
  start : args.any (uses g) = true → ρ g = σ
  has : ∀ A d ts, A ≠ g → specs A = some (d, ts) → args.any (uses A) = true → RdAL (fun b => w.heap.size ≤ b ∧ b < W.heap.size) W d ts (row ts.length (ρ A))
theorem finds_of {E : Env} (hE : E.post = postOf g w σ specs rws) {φ : Phi} {W : World} (hp : ∀ A vs, φ.atm A = some vs → (E.post A vs).says (Foreign φ W) W) {args args' : List Value} (hl : LRel φ args args') (u : Nat) (hg : args.any (uses u) = true) (hg' : u = g ∨ specs u ≠ none) :
    Finds g w σ specs args (rho φ) W ∧ Base w (Foreign φ W) W := by
  have hb := base_of hE hp (vals_at hl hg) hg'
  refine ⟨⟨hb.1, fun h0 => ?_, fun A d ts hA hs hu => ?_⟩, hb⟩
  · have := hp g _ (vals_at hl h0)
    rw [hE] at this
    unfold postOf at this
    rw [if_pos rfl] at this
    exact this.2
  · have := hp A _ (vals_at hl hu)
    rw [hE] at this
    unfold postOf at this
    rw [if_neg hA, hs] at this
    exact this.2.frame (fun b hb => hb.2) (fun _ _ => rfl)
theorem Base.next {F : Nat → Prop} {W W' : World} (h : Base w F W) (hb : Below W.heap.size W W') : Base w (fun b => F b ∨ (W.heap.size ≤ b ∧ b < W'.heap.size)) W' :=
  ⟨Below.trans h.1 (hb.mono h.1.size), fun b hb => .inl (h.2 b hb)⟩
/-- a call that returns something new -/
theorem conOk_cp {E : Env} (hP : E.prog = Tryz.prog) (hE : E.post = postOf g w σ specs rws) {c : Con} {d : Nat} {ts : List T} (u : Nat) (hs : specs c.at_ = some (d, ts)) (hA : c.at_ ≠ g) (hargs : c.args.all argOk = true) (hg : c.args.any (uses u) = true) (hg' : u = g ∨ specs u ≠ none) (hres : argOk c.res = true) (hro : onlyOf c.at_ c.res = true)
    (h : ∀ (ρ : Nat → Nat → Value) (W : World), Finds g w σ specs c.args ρ W → Calls Tryz.prog c.fn ⟨c.args.map (den ρ)⟩ W fun e W' => ∃ vals : List Value, e = .returned (den (fun _ i => vals.getD i (.bool false)) c.res) ∧ RdAL (fun b => W.heap.size ≤ b ∧ b < W'.heap.size) W' d ts vals ∧ Below W.heap.size W W') : ConOk E c := by
  intro φ W args' hp hn hl
  have e := dens_eq hl hargs
  obtain ⟨hf, hb⟩ := finds_of hE hp hl u hg hg'
  subst e
  rw [hP]
  refine (h _ W hf).mono ?_
  rintro e W' ⟨vals, rfl, hr, hB⟩
  have hone : ∀ i, isOne (vals.getD i (.bool false)) = true := fun i => by
    rw [List.getD_eq_getElem?_getD]
    cases hi : vals[i]? with
    | none => rfl
    | some u =>
      have := hr.ones u (List.mem_of_getElem? hi)
      cases u <;> first | rfl | (cases this; done)
  refine ⟨fun i => vals.getD i (.bool false), _, rfl, val_rel (fun _ i => hone i) hres (fun A hu => by rw [only_eq hro hu, Phi.addA_app, if_pos rfl]), ?_, hB⟩
  rw [hE]
  unfold postOf
  rw [if_neg hA, hs]
  have hrow : row ts.length (fun i => vals.getD i (.bool false)) = vals := by
    apply List.ext_getElem?
    intro i
    unfold row
    rw [List.getElem?_map]
    by_cases hi : i < ts.length
    · have hi' : i < vals.length := by rw [hr.1]; exact hi
      rw [List.getElem?_range hi, List.getElem?_eq_getElem hi']
      simp [List.getD_eq_getElem?_getD, hi']
    · rw [List.getElem?_eq_none (by rw [List.length_range]; omega), List.getElem?_eq_none (by rw [hr.1]; omega)]
      rfl
  refine ⟨hb.next hB, ?_⟩
  rw [hrow]
  exact hr.frame (fun b hb' => ⟨.inr hb', Nat.le_trans hb.1.size hb'.1, hb'.2⟩) (fun _ _ => rfl)
/-- a call whose answer is fixed -/
theorem conOk_st {E : Env} (hP : E.prog = Tryz.prog) (hE : E.post = postOf g w σ specs rws) {c : Con} (u : Nat) (hs : specs c.at_ = none) (hr : rws c.at_ = none) (hA : c.at_ ≠ g) (hargs : c.args.all argOk = true) (hg : c.args.any (uses u) = true) (hg' : u = g ∨ specs u ≠ none) (r : Bool) (hres : c.res = .bool r)
    (h : ∀ (ρ : Nat → Nat → Value) (W : World), Finds g w σ specs c.args ρ W → Calls Tryz.prog c.fn ⟨c.args.map (den ρ)⟩ W fun e W' => e = .returned (.bool r) ∧ Below W.heap.size W W') : ConOk E c := by
  intro φ W args' hp hn hl
  have e := dens_eq hl hargs
  obtain ⟨hf, hb⟩ := finds_of hE hp hl u hg hg'
  subst e
  rw [hP]
  refine (h _ W hf).mono ?_
  rintro e W' ⟨rfl, hB⟩
  refine ⟨fun _ => .bool false, _, rfl, by rw [hres]; exact .gr _ rfl, ?_, hB⟩
  rw [hE]
  unfold postOf
  rw [if_neg hA, hs]
  show (match rws c.at_ with | some (d, et, sz, es) => rowClaim w d et sz es _ | none => noClaim).says _ _
  rw [hr]
  trivial
/-- a call that returns a row of one's own -/
theorem conOk_row {E : Env} (hP : E.prog = Tryz.prog) (hE : E.post = postOf g w σ specs rws) {c : Con} {d et sz : Nat} {es : List (List T)} (u : Nat) (hs : specs c.at_ = none) (hr : rws c.at_ = some (d, et, sz, es)) (hA : c.at_ ≠ g) (hargs : c.args.all argOk = true) (hg : c.args.any (uses u) = true) (hg' : u = g ∨ specs u ≠ none)
    (hres : ∀ v : Value, den (fun _ _ => v) c.res = v) (hro : onlyOf c.at_ c.res = true) (hres' : argOk c.res = true)
    (h : ∀ (ρ : Nat → Nat → Value) (W : World), Finds g w σ specs c.args ρ W → Calls Tryz.prog c.fn ⟨c.args.map (den ρ)⟩ W fun e W' => ∃ v xs, e = .returned v ∧ isOne v = true ∧ W'.ownsRow W.heap.size et sz v es.length xs ∧ RdAL (fun b => b < w.heap.size) W' d es.flatten xs ∧ Below W.heap.size W W') : ConOk E c := by
  intro φ W args' hp hn hl
  have e := dens_eq hl hargs
  obtain ⟨hf, hb⟩ := finds_of hE hp hl u hg hg'
  subst e
  rw [hP]
  refine (h _ W hf).mono ?_
  rintro e W' ⟨v, xs, rfl, h1, ho, hx, hB⟩
  refine ⟨fun _ => v, den (fun _ _ => v) c.res, by rw [hres v], val_rel (fun _ _ => h1) hres' (fun A hu => by rw [only_eq hro hu, Phi.addA_app, if_pos rfl]), ?_, hB⟩
  rw [hE]
  unfold postOf
  rw [if_neg hA, hs]
  show (match rws c.at_ with | some (d, et, sz, es) => rowClaim w d et sz es _ | none => noClaim).says _ _
  rw [hr]
  refine ⟨hb.next hB, xs, ?_, fun q hq => ?_, hx⟩
  · obtain ⟨h2, h3 | ⟨q, cap, cur, h3, h4, h5⟩⟩ := ho
    · exact ⟨h2, .inl h3⟩
    · exact ⟨h2, .inr ⟨q, cap, cur, h3, Nat.le_trans hb.1.size h4, h5⟩⟩
  · have := own_lt ho q hq
    exact ⟨.inr this, this.2⟩
/-- a call without arguments that have names -/
theorem conOk_cl {E : Env} (hP : E.prog = Tryz.prog) (hE : E.post = postOf g w σ specs rws) {c : Con} (hs : specs c.at_ = none) (hr : rws c.at_ = none) (hA : c.at_ ≠ g) (hargs : c.args = []) (r : Bool) (hres : c.res = .bool r)
    (h : ∀ (W : World), Calls Tryz.prog c.fn #[] W fun e W' => e = .returned (.bool r) ∧ Below W.heap.size W W') : ConOk E c := by
  intro φ W args' hp hn hl
  rw [hargs] at hl
  cases hl
  rw [hP]
  refine (h W).mono ?_
  rintro e W' ⟨rfl, hB⟩
  refine ⟨fun _ => .bool false, _, rfl, by rw [hres]; exact .gr _ rfl, ?_, hB⟩
  rw [hE]
  unfold postOf
  rw [if_neg hA, hs]
  show (match rws c.at_ with | some (d, et, sz, es) => rowClaim w d et sz es _ | none => noClaim).says _ _
  rw [hr]
  trivial
theorem envS_ok (post : Nat → (Nat → Value) → Abs.Claim) (hc : ∀ c ∈ cons, ConOk (envS cons post) c) : EnvOk (envS cons post) := envWithOk Tryz.prog nats0 keep0 cons post funcs0 types0 mixed0 natok0 hc
/-- a walk -/
theorem sym_walk (f : FuncId) (args : List Value) (v : Value) (n : Nat) (hone : ∀ i, isOne (σ i) = true) (hargs : args.all argOk = true) (ho : args.all (onlyOf 0) = true) (hv : argOk v = true)
    (hrun : resV (aEnter0 f args (emptyHeap.new .dead) (envS cons (postOf 0 w σ specs noRws)) (aRun (envS cons (postOf 0 w σ specs noRws)) n)) = some v) (hcons : ∀ c ∈ cons, ConOk (envS cons (postOf 0 w σ specs noRws)) c) :
    Calls Tryz.prog f ⟨args.map (den fun _ => σ)⟩ w fun e w' => ∃ ρ, Finds 0 w σ specs [v] ρ w' ∧ e = .returned (den ρ v) ∧ Below w.heap.size w w' := by
  obtain ⟨H', hrun⟩ := resV_some hrun
  have hl : LRel (noPhi.addA 0 σ) args (args.map (den fun _ => σ)) := vals_rel (fun _ i => hone i) hargs fun A hu => by
    rw [onlys_eq ho hu, Phi.addA_app, if_pos rfl]
  have h0 : ((envS cons (postOf 0 w σ specs noRws)).post 0 σ).says (fun b => b < w.heap.size) w := by
    show (postOf 0 w σ specs noRws 0 σ).says _ _
    unfold postOf
    rw [if_pos rfl]
    exact ⟨⟨Below.refl _ _, fun b hb => hb⟩, rfl⟩
  refine (call_named (envS_ok _ hcons) σ hrun hl w h0).mono ?_
  rintro e w' ⟨φ, v', rfl, hr, ha, hp, hb⟩
  refine ⟨rho φ, ⟨hb, fun _ => rho_eq ha, fun A d ts hA hs hu => ?_⟩, by rw [den_eq hr hv], hb⟩
  have hu : uses A v = true := by simpa using hu
  have := hp A _ (val_at hr hu)
  have this : (postOf 0 w σ specs noRws A (rho φ A)).says (Foreign φ w') w' := this
  unfold postOf at this
  rw [if_neg hA, hs] at this
  exact this.2.frame (fun b hb => hb.2) (fun _ _ => rfl)
end
end Go.Proofs.YtmhkceeiiklfdaaGreat
set_option linter.unusedVariables false
namespace Go.Proofs.YtmhkceeiiklfdaaGreat
open Go.RowKit
/-- the blocks from lo to hi stand -/
def Same (lo hi : Nat) (W W' : World) : Prop := ∀ b, lo ≤ b → b < hi → W'.heap[b]? = W.heap[b]?
theorem Same.refl (lo hi : Nat) (W : World) : Same lo hi W W := fun _ _ _ => rfl
theorem Same.setCell {lo hi : Nat} {W W' : World} (h : Same lo hi W W') {a : Addr} (u : Value) (ha : a.block < lo ∨ hi ≤ a.block) : Same lo hi W (W'.setCell a u) := fun b h1 h2 => by
  rw [Below.heap_setCell _ _ _ _ (by omega)]; exact h b h1 h2
theorem Same.alloc {lo hi : Nat} {W W' : World} (h : Same lo hi W W') (o : Obj) (ha : hi ≤ W'.heap.size) : Same lo hi W (W'.alloc o) := fun b h1 h2 => by
  rw [Below.heap_alloc _ _ _ (by omega)]; exact h b h1 h2
theorem Same.drew {lo hi : Nat} {W W' : World} (h : Same lo hi W W') : Same lo hi W W'.drew := h
theorem Same.below {lo hi B : Nat} {W W' W2 : World} (h : Same lo hi W W') (hb : Below B W' W2) (ha : hi ≤ B) : Same lo hi W W2 := fun b h1 h2 => by
  rw [hb.block b (by omega)]; exact h b h1 h2
theorem FlC.of {f : FuncId} {st et sz : Nat} {P : List T → Prop} (h : ClC f st et sz P) (hP : ∀ c, P c → ∀ t ∈ c, ∃ x, t = .lf x) : FlC f P := by
  intro w d es v he pe
  have hd : ∃ d', d = d' + 1 := by
    cases d with
    | zero => exact he.elim
    | succ d => exact ⟨d, rfl⟩
  obtain ⟨d, rfl⟩ := hd
  have hn : es.length ≤ 1048576 := by obtain ⟨a, cap, _, h2, _⟩ := he; exact h2
  refine (h w _ es v he pe).mono ?_
  rintro e w' ⟨v', xs, rfl, h1, h2, h3⟩
  refine ⟨v', rfl, own_rd h1 hn (h2.leaf (S' := fun b => w.heap.size ≤ b ∧ b < w'.heap.size) ?_) (fun _ hq => hq) (fun g hg => own_lt h1 g hg), h3⟩
  intro t ht
  obtain ⟨c, hc, ht⟩ := List.mem_flatten.1 ht
  exact hP c (pe c hc) t ht
end Go.Proofs.YtmhkceeiiklfdaaGreat
set_option linter.unusedVariables false
set_option linter.unusedSimpArgs false
set_option maxRecDepth 20000
namespace Go.Proofs.YtmhkceeiiklfdaaGreat
open Go.RowKit
/-- a copy, as a walk takes it -/
def CpFn (f : FuncId) (a : Value) (d : Nat) (t : T) (w : World) : Prop := ∀ W, Below w.heap.size w W → Calls Tryz.prog f #[a] W fun e W' => ∃ a n c, e = .returned (.slice a n c) ∧ RdA (fun b => W.heap.size ≤ b ∧ b < W'.heap.size) W' d t (.slice a n c) ∧ Below W.heap.size W W'
def CpF2 (f g : FuncId) (a : Value) (d : Nat) (t : T) (w : World) : Prop := ∀ W, Below w.heap.size w W → Calls Tryz.prog f #[a, .func (.func g) #[] #[]] W fun e W' => ∃ a n c, e = .returned (.slice a n c) ∧ RdA (fun b => W.heap.size ≤ b ∧ b < W'.heap.size) W' d t (.slice a n c) ∧ Below W.heap.size W W'
def CpHd (f : FuncId) (us : Array Value) (d : Nat) (c : List T) (w : World) : Prop := ∀ W, Below w.heap.size w W → Calls Tryz.prog f #[.agg us] W fun e W' => ∃ (a0_0 : Option Addr) (n0_0 c0_0 : Nat) (i0 m0 : Int) (a0_3 : Option Addr) (n0_3 c0_3 : Nat) (a0_4 : Option Addr) (n0_4 c0_4 : Nat), e = .returned (.agg #[.slice a0_0 n0_0 c0_0, .int .i64 i0, .int .i64 m0, .slice a0_3 n0_3 c0_3, .slice a0_4 n0_4 c0_4]) ∧ RdAL (fun b => W.heap.size ≤ b ∧ b < W'.heap.size) W' d c [.slice a0_0 n0_0 c0_0, .int .i64 i0, .int .i64 m0, .slice a0_3 n0_3 c0_3, .slice a0_4 n0_4 c0_4] ∧ Below W.heap.size W W'

end Go.Proofs.YtmhkceeiiklfdaaGreat
set_option linter.unusedVariables false
set_option linter.unusedSimpArgs false
set_option maxRecDepth 20000
namespace Go.Proofs.YtmhkceeiiklfdaaGreat
open Go.RowKit
theorem info159 : (Tryz.prog.info? 159).map (fun i => (i.zero, i.size, i.bytes)) = some (some (.agg #[.int .i64 0, .int .i64 0]), 2, 16) := by kernel_rfl
set_option maxHeartbeats 2000000 in
theorem cl226 (P : List T → Prop) (hl : ∀ c, P c → c.length = 2) : ClC 226 28 159 2 P := by
  intro w d es v he pe
  obtain ⟨i0, hi, hz0, hz1, hz2⟩ := info_parts info159
  obtain ⟨a, cap, rfl, hn, hcap, hcell⟩ := he.rows (sz := 2) (fun c hc => hl c (pe c hc)) (by omega)
  clear he
  have q : ∀ (w : World) (a : Option Addr) (n c n' c' : Nat), (binOp .eql 28 (.slice a n c) (.slice none n' c')).run Tryz.prog w = .ok (.bool a.isNone) w := fun w a n c n' c' => Lib.run_eql_slice_nil w _ _ a n c n' c' Tryz.underlying28
  by_cases hz : es.length = 0
  · have e1 : es = [] := List.eq_nil_of_length_eq_zero hz
    subst e1
    clear hcell
    cases a with
    | none =>
      go_enter Tryz.func226, Tryz.ntmps226
      go_wp2
      go_ret
      exact ⟨_, [], rfl, World.ownsRow_nil _ _ _ _, RdAL.mk_nil, Below.refl _ _⟩
    | some ad =>
      go_enter Tryz.func226, Tryz.ntmps226
      go_wp2_with (at_builtin; refine wpList_append_own _ rfl _ _ 28 rfl w.heap.size 159 i0 (.agg #[.int .i64 0, .int .i64 0]) 2 16 Tryz.underlying28 hi hz0 hz1 hz2 rfl (by decide) _ _ _ rfl (World.ownsRow_made w #[] 0 (Nat.le_refl _) (Nat.zero_le _) rfl) ad 0 cap [] rfl rfl (by intro j u hj; simp at hj) (by intro u hu; cases hu) (by unfold maxLen; omega) (by omega) (by simp) ?_)
      intro v' w1 hown hgrow hnil
      go_wp2
      go_ret
      refine ⟨v', [], rfl, by simpa using hown, RdAL.mk_nil, ?_⟩
      exact ((Below.refl _ w).alloc (Nat.le_refl _) _).grown hgrow (by simp) (by intro k hk; simp [Value.ownBlock] at hk; omega)
  obtain ⟨b, off, hb, rfl, U, hc, hr, ho⟩ := hcell (by omega)
  clear hcell
  obtain ⟨xs, hxl, hxc, hxo, hxr⟩ := rows_list (w := w) (b := b) (off := off) (sz := 2) (fun c hc => hl c (pe c hc)) hc hr ho
  clear hc hr ho
  go_enter Tryz.func226, Tryz.ntmps226
  go_wp2_with (at_builtin; refine wpList_append_own _ rfl _ _ 28 rfl w.heap.size 159 i0 (.agg #[.int .i64 0, .int .i64 0]) 2 16 Tryz.underlying28 hi hz0 hz1 hz2 rfl (by decide) _ _ _ rfl (World.ownsRow_made w #[] 0 (Nat.le_refl _) (Nat.zero_le _) rfl) ⟨b, off, none⟩ es.length cap xs rfl ?qc1 ?qc2 ?qc3 ?qc4 ?qc5 ?qc6 ?_)
  case qc1 => exact hxl
  case qc2 =>
    intro j u hj
    rw [Addr.add_lit]
    exact Lib.cell?_alloc_some _ (hxc j u hj)
  case qc3 => exact hxo
  case qc4 => unfold maxLen; omega
  case qc5 => omega
  case qc6 => simp
  intro v' w1 hown hgrow hnil
  have hbl : Below w.heap.size w w1 := ((Below.refl _ w).alloc (Nat.le_refl _) _).grown hgrow (by simp) (by intro k hk; simp [Value.ownBlock] at hk; omega)
  go_wp2
  go_ret
  exact ⟨v', xs, rfl, by simpa using hown, hxr w1 hbl, hbl⟩
theorem info162 : (Tryz.prog.info? 162).map (fun i => (i.zero, i.size, i.bytes)) = some (some (.agg #[.int .i64 0, .int .i64 0]), 2, 16) := by kernel_rfl
set_option maxHeartbeats 2000000 in
theorem cl227 (P : List T → Prop) (hl : ∀ c, P c → c.length = 2) : ClC 227 29 162 2 P := by
  intro w d es v he pe
  obtain ⟨i0, hi, hz0, hz1, hz2⟩ := info_parts info162
  obtain ⟨a, cap, rfl, hn, hcap, hcell⟩ := he.rows (sz := 2) (fun c hc => hl c (pe c hc)) (by omega)
  clear he
  have q : ∀ (w : World) (a : Option Addr) (n c n' c' : Nat), (binOp .eql 29 (.slice a n c) (.slice none n' c')).run Tryz.prog w = .ok (.bool a.isNone) w := fun w a n c n' c' => Lib.run_eql_slice_nil w _ _ a n c n' c' Tryz.underlying29
  by_cases hz : es.length = 0
  · have e1 : es = [] := List.eq_nil_of_length_eq_zero hz
    subst e1
    clear hcell
    cases a with
    | none =>
      go_enter Tryz.func227, Tryz.ntmps227
      go_wp2
      go_ret
      exact ⟨_, [], rfl, World.ownsRow_nil _ _ _ _, RdAL.mk_nil, Below.refl _ _⟩
    | some ad =>
      go_enter Tryz.func227, Tryz.ntmps227
      go_wp2_with (at_builtin; refine wpList_append_own _ rfl _ _ 29 rfl w.heap.size 162 i0 (.agg #[.int .i64 0, .int .i64 0]) 2 16 Tryz.underlying29 hi hz0 hz1 hz2 rfl (by decide) _ _ _ rfl (World.ownsRow_made w #[] 0 (Nat.le_refl _) (Nat.zero_le _) rfl) ad 0 cap [] rfl rfl (by intro j u hj; simp at hj) (by intro u hu; cases hu) (by unfold maxLen; omega) (by omega) (by simp) ?_)
      intro v' w1 hown hgrow hnil
      go_wp2
      go_ret
      refine ⟨v', [], rfl, by simpa using hown, RdAL.mk_nil, ?_⟩
      exact ((Below.refl _ w).alloc (Nat.le_refl _) _).grown hgrow (by simp) (by intro k hk; simp [Value.ownBlock] at hk; omega)
  obtain ⟨b, off, hb, rfl, U, hc, hr, ho⟩ := hcell (by omega)
  clear hcell
  obtain ⟨xs, hxl, hxc, hxo, hxr⟩ := rows_list (w := w) (b := b) (off := off) (sz := 2) (fun c hc => hl c (pe c hc)) hc hr ho
  clear hc hr ho
  go_enter Tryz.func227, Tryz.ntmps227
  go_wp2_with (at_builtin; refine wpList_append_own _ rfl _ _ 29 rfl w.heap.size 162 i0 (.agg #[.int .i64 0, .int .i64 0]) 2 16 Tryz.underlying29 hi hz0 hz1 hz2 rfl (by decide) _ _ _ rfl (World.ownsRow_made w #[] 0 (Nat.le_refl _) (Nat.zero_le _) rfl) ⟨b, off, none⟩ es.length cap xs rfl ?qc1 ?qc2 ?qc3 ?qc4 ?qc5 ?qc6 ?_)
  case qc1 => exact hxl
  case qc2 =>
    intro j u hj
    rw [Addr.add_lit]
    exact Lib.cell?_alloc_some _ (hxc j u hj)
  case qc3 => exact hxo
  case qc4 => unfold maxLen; omega
  case qc5 => omega
  case qc6 => simp
  intro v' w1 hown hgrow hnil
  have hbl : Below w.heap.size w w1 := ((Below.refl _ w).alloc (Nat.le_refl _) _).grown hgrow (by simp) (by intro k hk; simp [Value.ownBlock] at hk; omega)
  go_wp2
  go_ret
  exact ⟨v', xs, rfl, by simpa using hown, hxr w1 hbl, hbl⟩
theorem info165 : (Tryz.prog.info? 165).map (fun i => (i.zero, i.size, i.bytes)) = some (some (.agg #[.int .i64 0, .int .i64 0, .int .i64 0, .bool false]), 4, 32) := by kernel_rfl
set_option maxHeartbeats 2000000 in
theorem cl228 (P : List T → Prop) (hl : ∀ c, P c → c.length = 4) : ClC 228 30 165 4 P := by
  intro w d es v he pe
  obtain ⟨i0, hi, hz0, hz1, hz2⟩ := info_parts info165
  obtain ⟨a, cap, rfl, hn, hcap, hcell⟩ := he.rows (sz := 4) (fun c hc => hl c (pe c hc)) (by omega)
  clear he
  have q : ∀ (w : World) (a : Option Addr) (n c n' c' : Nat), (binOp .eql 30 (.slice a n c) (.slice none n' c')).run Tryz.prog w = .ok (.bool a.isNone) w := fun w a n c n' c' => Lib.run_eql_slice_nil w _ _ a n c n' c' Tryz.underlying30
  by_cases hz : es.length = 0
  · have e1 : es = [] := List.eq_nil_of_length_eq_zero hz
    subst e1
    clear hcell
    cases a with
    | none =>
      go_enter Tryz.func228, Tryz.ntmps228
      go_wp2
      go_ret
      exact ⟨_, [], rfl, World.ownsRow_nil _ _ _ _, RdAL.mk_nil, Below.refl _ _⟩
    | some ad =>
      go_enter Tryz.func228, Tryz.ntmps228
      go_wp2_with (at_builtin; refine wpList_append_own _ rfl _ _ 30 rfl w.heap.size 165 i0 (.agg #[.int .i64 0, .int .i64 0, .int .i64 0, .bool false]) 4 32 Tryz.underlying30 hi hz0 hz1 hz2 rfl (by decide) _ _ _ rfl (World.ownsRow_made w #[] 0 (Nat.le_refl _) (Nat.zero_le _) rfl) ad 0 cap [] rfl rfl (by intro j u hj; simp at hj) (by intro u hu; cases hu) (by unfold maxLen; omega) (by omega) (by simp) ?_)
      intro v' w1 hown hgrow hnil
      go_wp2
      go_ret
      refine ⟨v', [], rfl, by simpa using hown, RdAL.mk_nil, ?_⟩
      exact ((Below.refl _ w).alloc (Nat.le_refl _) _).grown hgrow (by simp) (by intro k hk; simp [Value.ownBlock] at hk; omega)
  obtain ⟨b, off, hb, rfl, U, hc, hr, ho⟩ := hcell (by omega)
  clear hcell
  obtain ⟨xs, hxl, hxc, hxo, hxr⟩ := rows_list (w := w) (b := b) (off := off) (sz := 4) (fun c hc => hl c (pe c hc)) hc hr ho
  clear hc hr ho
  go_enter Tryz.func228, Tryz.ntmps228
  go_wp2_with (at_builtin; refine wpList_append_own _ rfl _ _ 30 rfl w.heap.size 165 i0 (.agg #[.int .i64 0, .int .i64 0, .int .i64 0, .bool false]) 4 32 Tryz.underlying30 hi hz0 hz1 hz2 rfl (by decide) _ _ _ rfl (World.ownsRow_made w #[] 0 (Nat.le_refl _) (Nat.zero_le _) rfl) ⟨b, off, none⟩ es.length cap xs rfl ?qc1 ?qc2 ?qc3 ?qc4 ?qc5 ?qc6 ?_)
  case qc1 => exact hxl
  case qc2 =>
    intro j u hj
    rw [Addr.add_lit]
    exact Lib.cell?_alloc_some _ (hxc j u hj)
  case qc3 => exact hxo
  case qc4 => unfold maxLen; omega
  case qc5 => omega
  case qc6 => simp
  intro v' w1 hown hgrow hnil
  have hbl : Below w.heap.size w w1 := ((Below.refl _ w).alloc (Nat.le_refl _) _).grown hgrow (by simp) (by intro k hk; simp [Value.ownBlock] at hk; omega)
  go_wp2
  go_ret
  exact ⟨v', xs, rfl, by simpa using hown, hxr w1 hbl, hbl⟩
theorem info76 : (Tryz.prog.info? 76).map (fun i => (i.zero, i.size, i.bytes)) = some (some (.agg #[.int .i64 0, .string { data := #[] }, .int .i64 0]), 3, 32) := by kernel_rfl
set_option maxHeartbeats 2000000 in
theorem cl55 (P : List T → Prop) (hl : ∀ c, P c → c.length = 3) : ClC 55 53 76 3 P := by
  intro w d es v he pe
  obtain ⟨i0, hi, hz0, hz1, hz2⟩ := info_parts info76
  obtain ⟨a, cap, rfl, hn, hcap, hcell⟩ := he.rows (sz := 3) (fun c hc => hl c (pe c hc)) (by omega)
  clear he
  have q : ∀ (w : World) (a : Option Addr) (n c n' c' : Nat), (binOp .eql 53 (.slice a n c) (.slice none n' c')).run Tryz.prog w = .ok (.bool a.isNone) w := fun w a n c n' c' => Lib.run_eql_slice_nil w _ _ a n c n' c' Tryz.underlying53
  by_cases hz : es.length = 0
  · have e1 : es = [] := List.eq_nil_of_length_eq_zero hz
    subst e1
    clear hcell
    cases a with
    | none =>
      go_enter Tryz.func55, Tryz.ntmps55
      go_wp2
      go_ret
      exact ⟨_, [], rfl, World.ownsRow_nil _ _ _ _, RdAL.mk_nil, Below.refl _ _⟩
    | some ad =>
      go_enter Tryz.func55, Tryz.ntmps55
      go_wp2_with (at_builtin; refine wpList_append_own _ rfl _ _ 53 rfl w.heap.size 76 i0 (.agg #[.int .i64 0, .string { data := #[] }, .int .i64 0]) 3 32 Tryz.underlying53 hi hz0 hz1 hz2 rfl (by decide) _ _ _ rfl (World.ownsRow_made w #[] 0 (Nat.le_refl _) (Nat.zero_le _) rfl) ad 0 cap [] rfl rfl (by intro j u hj; simp at hj) (by intro u hu; cases hu) (by unfold maxLen; omega) (by omega) (by simp) ?_)
      intro v' w1 hown hgrow hnil
      go_wp2
      go_ret
      refine ⟨v', [], rfl, by simpa using hown, RdAL.mk_nil, ?_⟩
      exact ((Below.refl _ w).alloc (Nat.le_refl _) _).grown hgrow (by simp) (by intro k hk; simp [Value.ownBlock] at hk; omega)
  obtain ⟨b, off, hb, rfl, U, hc, hr, ho⟩ := hcell (by omega)
  clear hcell
  obtain ⟨xs, hxl, hxc, hxo, hxr⟩ := rows_list (w := w) (b := b) (off := off) (sz := 3) (fun c hc => hl c (pe c hc)) hc hr ho
  clear hc hr ho
  go_enter Tryz.func55, Tryz.ntmps55
  go_wp2_with (at_builtin; refine wpList_append_own _ rfl _ _ 53 rfl w.heap.size 76 i0 (.agg #[.int .i64 0, .string { data := #[] }, .int .i64 0]) 3 32 Tryz.underlying53 hi hz0 hz1 hz2 rfl (by decide) _ _ _ rfl (World.ownsRow_made w #[] 0 (Nat.le_refl _) (Nat.zero_le _) rfl) ⟨b, off, none⟩ es.length cap xs rfl ?qc1 ?qc2 ?qc3 ?qc4 ?qc5 ?qc6 ?_)
  case qc1 => exact hxl
  case qc2 =>
    intro j u hj
    rw [Addr.add_lit]
    exact Lib.cell?_alloc_some _ (hxc j u hj)
  case qc3 => exact hxo
  case qc4 => unfold maxLen; omega
  case qc5 => omega
  case qc6 => simp
  intro v' w1 hown hgrow hnil
  have hbl : Below w.heap.size w w1 := ((Below.refl _ w).alloc (Nat.le_refl _) _).grown hgrow (by simp) (by intro k hk; simp [Value.ownBlock] at hk; omega)
  go_wp2
  go_ret
  exact ⟨v', xs, rfl, by simpa using hown, hxr w1 hbl, hbl⟩
theorem info168 : (Tryz.prog.info? 168).map (fun i => (i.zero, i.size, i.bytes)) = some (some (.agg #[.int .i64 0, .int .i64 0, .string { data := #[] }, .int .i64 0, .int .i64 0, .slice none 0 0]), 6, 72) := by kernel_rfl
set_option maxHeartbeats 2000000 in
theorem cl238 (P : List T → Prop) (hl : ∀ c, P c → c.length = 6) : ClC 238 35 168 6 P := by
  intro w d es v he pe
  obtain ⟨i0, hi, hz0, hz1, hz2⟩ := info_parts info168
  obtain ⟨a, cap, rfl, hn, hcap, hcell⟩ := he.rows (sz := 6) (fun c hc => hl c (pe c hc)) (by omega)
  clear he
  have q : ∀ (w : World) (a : Option Addr) (n c n' c' : Nat), (binOp .eql 35 (.slice a n c) (.slice none n' c')).run Tryz.prog w = .ok (.bool a.isNone) w := fun w a n c n' c' => Lib.run_eql_slice_nil w _ _ a n c n' c' Tryz.underlying35
  by_cases hz : es.length = 0
  · have e1 : es = [] := List.eq_nil_of_length_eq_zero hz
    subst e1
    clear hcell
    cases a with
    | none =>
      go_enter Tryz.func238, Tryz.ntmps238
      go_wp2
      go_ret
      exact ⟨_, [], rfl, World.ownsRow_nil _ _ _ _, RdAL.mk_nil, Below.refl _ _⟩
    | some ad =>
      go_enter Tryz.func238, Tryz.ntmps238
      go_wp2_with (at_builtin; refine wpList_append_own _ rfl _ _ 35 rfl w.heap.size 168 i0 (.agg #[.int .i64 0, .int .i64 0, .string { data := #[] }, .int .i64 0, .int .i64 0, .slice none 0 0]) 6 72 Tryz.underlying35 hi hz0 hz1 hz2 rfl (by decide) _ _ _ rfl (World.ownsRow_made w #[] 0 (Nat.le_refl _) (Nat.zero_le _) rfl) ad 0 cap [] rfl rfl (by intro j u hj; simp at hj) (by intro u hu; cases hu) (by unfold maxLen; omega) (by omega) (by simp) ?_)
      intro v' w1 hown hgrow hnil
      go_wp2
      go_ret
      refine ⟨v', [], rfl, by simpa using hown, RdAL.mk_nil, ?_⟩
      exact ((Below.refl _ w).alloc (Nat.le_refl _) _).grown hgrow (by simp) (by intro k hk; simp [Value.ownBlock] at hk; omega)
  obtain ⟨b, off, hb, rfl, U, hc, hr, ho⟩ := hcell (by omega)
  clear hcell
  obtain ⟨xs, hxl, hxc, hxo, hxr⟩ := rows_list (w := w) (b := b) (off := off) (sz := 6) (fun c hc => hl c (pe c hc)) hc hr ho
  clear hc hr ho
  go_enter Tryz.func238, Tryz.ntmps238
  go_wp2_with (at_builtin; refine wpList_append_own _ rfl _ _ 35 rfl w.heap.size 168 i0 (.agg #[.int .i64 0, .int .i64 0, .string { data := #[] }, .int .i64 0, .int .i64 0, .slice none 0 0]) 6 72 Tryz.underlying35 hi hz0 hz1 hz2 rfl (by decide) _ _ _ rfl (World.ownsRow_made w #[] 0 (Nat.le_refl _) (Nat.zero_le _) rfl) ⟨b, off, none⟩ es.length cap xs rfl ?qc1 ?qc2 ?qc3 ?qc4 ?qc5 ?qc6 ?_)
  case qc1 => exact hxl
  case qc2 =>
    intro j u hj
    rw [Addr.add_lit]
    exact Lib.cell?_alloc_some _ (hxc j u hj)
  case qc3 => exact hxo
  case qc4 => unfold maxLen; omega
  case qc5 => omega
  case qc6 => simp
  intro v' w1 hown hgrow hnil
  have hbl : Below w.heap.size w w1 := ((Below.refl _ w).alloc (Nat.le_refl _) _).grown hgrow (by simp) (by intro k hk; simp [Value.ownBlock] at hk; omega)
  go_wp2
  go_ret
  exact ⟨v', xs, rfl, by simpa using hown, hxr w1 hbl, hbl⟩
theorem info91 : (Tryz.prog.info? 91).map (fun i => (i.zero, i.size, i.bytes)) = some (some (.agg #[.int .i64 0, .slice none 0 0]), 2, 32) := by kernel_rfl
set_option maxHeartbeats 2000000 in
theorem cl239 (P : List T → Prop) (hl : ∀ c, P c → c.length = 2) : ClC 239 36 91 2 P := by
  intro w d es v he pe
  obtain ⟨i0, hi, hz0, hz1, hz2⟩ := info_parts info91
  obtain ⟨a, cap, rfl, hn, hcap, hcell⟩ := he.rows (sz := 2) (fun c hc => hl c (pe c hc)) (by omega)
  clear he
  have q : ∀ (w : World) (a : Option Addr) (n c n' c' : Nat), (binOp .eql 36 (.slice a n c) (.slice none n' c')).run Tryz.prog w = .ok (.bool a.isNone) w := fun w a n c n' c' => Lib.run_eql_slice_nil w _ _ a n c n' c' Tryz.underlying36
  by_cases hz : es.length = 0
  · have e1 : es = [] := List.eq_nil_of_length_eq_zero hz
    subst e1
    clear hcell
    cases a with
    | none =>
      go_enter Tryz.func239, Tryz.ntmps239
      go_wp2
      go_ret
      exact ⟨_, [], rfl, World.ownsRow_nil _ _ _ _, RdAL.mk_nil, Below.refl _ _⟩
    | some ad =>
      go_enter Tryz.func239, Tryz.ntmps239
      go_wp2_with (at_builtin; refine wpList_append_own _ rfl _ _ 36 rfl w.heap.size 91 i0 (.agg #[.int .i64 0, .slice none 0 0]) 2 32 Tryz.underlying36 hi hz0 hz1 hz2 rfl (by decide) _ _ _ rfl (World.ownsRow_made w #[] 0 (Nat.le_refl _) (Nat.zero_le _) rfl) ad 0 cap [] rfl rfl (by intro j u hj; simp at hj) (by intro u hu; cases hu) (by unfold maxLen; omega) (by omega) (by simp) ?_)
      intro v' w1 hown hgrow hnil
      go_wp2
      go_ret
      refine ⟨v', [], rfl, by simpa using hown, RdAL.mk_nil, ?_⟩
      exact ((Below.refl _ w).alloc (Nat.le_refl _) _).grown hgrow (by simp) (by intro k hk; simp [Value.ownBlock] at hk; omega)
  obtain ⟨b, off, hb, rfl, U, hc, hr, ho⟩ := hcell (by omega)
  clear hcell
  obtain ⟨xs, hxl, hxc, hxo, hxr⟩ := rows_list (w := w) (b := b) (off := off) (sz := 2) (fun c hc => hl c (pe c hc)) hc hr ho
  clear hc hr ho
  go_enter Tryz.func239, Tryz.ntmps239
  go_wp2_with (at_builtin; refine wpList_append_own _ rfl _ _ 36 rfl w.heap.size 91 i0 (.agg #[.int .i64 0, .slice none 0 0]) 2 32 Tryz.underlying36 hi hz0 hz1 hz2 rfl (by decide) _ _ _ rfl (World.ownsRow_made w #[] 0 (Nat.le_refl _) (Nat.zero_le _) rfl) ⟨b, off, none⟩ es.length cap xs rfl ?qc1 ?qc2 ?qc3 ?qc4 ?qc5 ?qc6 ?_)
  case qc1 => exact hxl
  case qc2 =>
    intro j u hj
    rw [Addr.add_lit]
    exact Lib.cell?_alloc_some _ (hxc j u hj)
  case qc3 => exact hxo
  case qc4 => unfold maxLen; omega
  case qc5 => omega
  case qc6 => simp
  intro v' w1 hown hgrow hnil
  have hbl : Below w.heap.size w w1 := ((Below.refl _ w).alloc (Nat.le_refl _) _).grown hgrow (by simp) (by intro k hk; simp [Value.ownBlock] at hk; omega)
  go_wp2
  go_ret
  exact ⟨v', xs, rfl, by simpa using hown, hxr w1 hbl, hbl⟩
theorem info103 : (Tryz.prog.info? 103).map (fun i => (i.zero, i.size, i.bytes)) = some (some (.agg #[.int .i64 0, .int .i64 0, .string { data := #[] }, .int .i64 0, .string { data := #[] }, .bool false]), 6, 64) := by kernel_rfl
set_option maxHeartbeats 2000000 in
theorem cl240 (P : List T → Prop) (hl : ∀ c, P c → c.length = 6) : ClC 240 37 103 6 P := by
  intro w d es v he pe
  obtain ⟨i0, hi, hz0, hz1, hz2⟩ := info_parts info103
  obtain ⟨a, cap, rfl, hn, hcap, hcell⟩ := he.rows (sz := 6) (fun c hc => hl c (pe c hc)) (by omega)
  clear he
  have q : ∀ (w : World) (a : Option Addr) (n c n' c' : Nat), (binOp .eql 37 (.slice a n c) (.slice none n' c')).run Tryz.prog w = .ok (.bool a.isNone) w := fun w a n c n' c' => Lib.run_eql_slice_nil w _ _ a n c n' c' Tryz.underlying37
  by_cases hz : es.length = 0
  · have e1 : es = [] := List.eq_nil_of_length_eq_zero hz
    subst e1
    clear hcell
    cases a with
    | none =>
      go_enter Tryz.func240, Tryz.ntmps240
      go_wp2
      go_ret
      exact ⟨_, [], rfl, World.ownsRow_nil _ _ _ _, RdAL.mk_nil, Below.refl _ _⟩
    | some ad =>
      go_enter Tryz.func240, Tryz.ntmps240
      go_wp2_with (at_builtin; refine wpList_append_own _ rfl _ _ 37 rfl w.heap.size 103 i0 (.agg #[.int .i64 0, .int .i64 0, .string { data := #[] }, .int .i64 0, .string { data := #[] }, .bool false]) 6 64 Tryz.underlying37 hi hz0 hz1 hz2 rfl (by decide) _ _ _ rfl (World.ownsRow_made w #[] 0 (Nat.le_refl _) (Nat.zero_le _) rfl) ad 0 cap [] rfl rfl (by intro j u hj; simp at hj) (by intro u hu; cases hu) (by unfold maxLen; omega) (by omega) (by simp) ?_)
      intro v' w1 hown hgrow hnil
      go_wp2
      go_ret
      refine ⟨v', [], rfl, by simpa using hown, RdAL.mk_nil, ?_⟩
      exact ((Below.refl _ w).alloc (Nat.le_refl _) _).grown hgrow (by simp) (by intro k hk; simp [Value.ownBlock] at hk; omega)
  obtain ⟨b, off, hb, rfl, U, hc, hr, ho⟩ := hcell (by omega)
  clear hcell
  obtain ⟨xs, hxl, hxc, hxo, hxr⟩ := rows_list (w := w) (b := b) (off := off) (sz := 6) (fun c hc => hl c (pe c hc)) hc hr ho
  clear hc hr ho
  go_enter Tryz.func240, Tryz.ntmps240
  go_wp2_with (at_builtin; refine wpList_append_own _ rfl _ _ 37 rfl w.heap.size 103 i0 (.agg #[.int .i64 0, .int .i64 0, .string { data := #[] }, .int .i64 0, .string { data := #[] }, .bool false]) 6 64 Tryz.underlying37 hi hz0 hz1 hz2 rfl (by decide) _ _ _ rfl (World.ownsRow_made w #[] 0 (Nat.le_refl _) (Nat.zero_le _) rfl) ⟨b, off, none⟩ es.length cap xs rfl ?qc1 ?qc2 ?qc3 ?qc4 ?qc5 ?qc6 ?_)
  case qc1 => exact hxl
  case qc2 =>
    intro j u hj
    rw [Addr.add_lit]
    exact Lib.cell?_alloc_some _ (hxc j u hj)
  case qc3 => exact hxo
  case qc4 => unfold maxLen; omega
  case qc5 => omega
  case qc6 => simp
  intro v' w1 hown hgrow hnil
  have hbl : Below w.heap.size w w1 := ((Below.refl _ w).alloc (Nat.le_refl _) _).grown hgrow (by simp) (by intro k hk; simp [Value.ownBlock] at hk; omega)
  go_wp2
  go_ret
  exact ⟨v', xs, rfl, by simpa using hown, hxr w1 hbl, hbl⟩
theorem info106 : (Tryz.prog.info? 106).map (fun i => (i.zero, i.size, i.bytes)) = some (some (.agg #[.string { data := #[] }, .string { data := #[] }]), 2, 32) := by kernel_rfl
set_option maxHeartbeats 2000000 in
theorem cl241 (P : List T → Prop) (hl : ∀ c, P c → c.length = 2) : ClC 241 38 106 2 P := by
  intro w d es v he pe
  obtain ⟨i0, hi, hz0, hz1, hz2⟩ := info_parts info106
  obtain ⟨a, cap, rfl, hn, hcap, hcell⟩ := he.rows (sz := 2) (fun c hc => hl c (pe c hc)) (by omega)
  clear he
  have q : ∀ (w : World) (a : Option Addr) (n c n' c' : Nat), (binOp .eql 38 (.slice a n c) (.slice none n' c')).run Tryz.prog w = .ok (.bool a.isNone) w := fun w a n c n' c' => Lib.run_eql_slice_nil w _ _ a n c n' c' Tryz.underlying38
  by_cases hz : es.length = 0
  · have e1 : es = [] := List.eq_nil_of_length_eq_zero hz
    subst e1
    clear hcell
    cases a with
    | none =>
      go_enter Tryz.func241, Tryz.ntmps241
      go_wp2
      go_ret
      exact ⟨_, [], rfl, World.ownsRow_nil _ _ _ _, RdAL.mk_nil, Below.refl _ _⟩
    | some ad =>
      go_enter Tryz.func241, Tryz.ntmps241
      go_wp2_with (at_builtin; refine wpList_append_own _ rfl _ _ 38 rfl w.heap.size 106 i0 (.agg #[.string { data := #[] }, .string { data := #[] }]) 2 32 Tryz.underlying38 hi hz0 hz1 hz2 rfl (by decide) _ _ _ rfl (World.ownsRow_made w #[] 0 (Nat.le_refl _) (Nat.zero_le _) rfl) ad 0 cap [] rfl rfl (by intro j u hj; simp at hj) (by intro u hu; cases hu) (by unfold maxLen; omega) (by omega) (by simp) ?_)
      intro v' w1 hown hgrow hnil
      go_wp2
      go_ret
      refine ⟨v', [], rfl, by simpa using hown, RdAL.mk_nil, ?_⟩
      exact ((Below.refl _ w).alloc (Nat.le_refl _) _).grown hgrow (by simp) (by intro k hk; simp [Value.ownBlock] at hk; omega)
  obtain ⟨b, off, hb, rfl, U, hc, hr, ho⟩ := hcell (by omega)
  clear hcell
  obtain ⟨xs, hxl, hxc, hxo, hxr⟩ := rows_list (w := w) (b := b) (off := off) (sz := 2) (fun c hc => hl c (pe c hc)) hc hr ho
  clear hc hr ho
  go_enter Tryz.func241, Tryz.ntmps241
  go_wp2_with (at_builtin; refine wpList_append_own _ rfl _ _ 38 rfl w.heap.size 106 i0 (.agg #[.string { data := #[] }, .string { data := #[] }]) 2 32 Tryz.underlying38 hi hz0 hz1 hz2 rfl (by decide) _ _ _ rfl (World.ownsRow_made w #[] 0 (Nat.le_refl _) (Nat.zero_le _) rfl) ⟨b, off, none⟩ es.length cap xs rfl ?qc1 ?qc2 ?qc3 ?qc4 ?qc5 ?qc6 ?_)
  case qc1 => exact hxl
  case qc2 =>
    intro j u hj
    rw [Addr.add_lit]
    exact Lib.cell?_alloc_some _ (hxc j u hj)
  case qc3 => exact hxo
  case qc4 => unfold maxLen; omega
  case qc5 => omega
  case qc6 => simp
  intro v' w1 hown hgrow hnil
  have hbl : Below w.heap.size w w1 := ((Below.refl _ w).alloc (Nat.le_refl _) _).grown hgrow (by simp) (by intro k hk; simp [Value.ownBlock] at hk; omega)
  go_wp2
  go_ret
  exact ⟨v', xs, rfl, by simpa using hown, hxr w1 hbl, hbl⟩
theorem info94 : (Tryz.prog.info? 94).map (fun i => (i.zero, i.size, i.bytes)) = some (some (.agg #[.int .i64 0, .int .i64 0, .string { data := #[] }, .int .i64 0]), 4, 40) := by kernel_rfl
set_option maxHeartbeats 2000000 in
theorem cl242 (P : List T → Prop) (hl : ∀ c, P c → c.length = 4) : ClC 242 89 94 4 P := by
  intro w d es v he pe
  obtain ⟨i0, hi, hz0, hz1, hz2⟩ := info_parts info94
  obtain ⟨a, cap, rfl, hn, hcap, hcell⟩ := he.rows (sz := 4) (fun c hc => hl c (pe c hc)) (by omega)
  clear he
  have q : ∀ (w : World) (a : Option Addr) (n c n' c' : Nat), (binOp .eql 89 (.slice a n c) (.slice none n' c')).run Tryz.prog w = .ok (.bool a.isNone) w := fun w a n c n' c' => Lib.run_eql_slice_nil w _ _ a n c n' c' Tryz.underlying89
  by_cases hz : es.length = 0
  · have e1 : es = [] := List.eq_nil_of_length_eq_zero hz
    subst e1
    clear hcell
    cases a with
    | none =>
      go_enter Tryz.func242, Tryz.ntmps242
      go_wp2
      go_ret
      exact ⟨_, [], rfl, World.ownsRow_nil _ _ _ _, RdAL.mk_nil, Below.refl _ _⟩
    | some ad =>
      go_enter Tryz.func242, Tryz.ntmps242
      go_wp2_with (at_builtin; refine wpList_append_own _ rfl _ _ 89 rfl w.heap.size 94 i0 (.agg #[.int .i64 0, .int .i64 0, .string { data := #[] }, .int .i64 0]) 4 40 Tryz.underlying89 hi hz0 hz1 hz2 rfl (by decide) _ _ _ rfl (World.ownsRow_made w #[] 0 (Nat.le_refl _) (Nat.zero_le _) rfl) ad 0 cap [] rfl rfl (by intro j u hj; simp at hj) (by intro u hu; cases hu) (by unfold maxLen; omega) (by omega) (by simp) ?_)
      intro v' w1 hown hgrow hnil
      go_wp2
      go_ret
      refine ⟨v', [], rfl, by simpa using hown, RdAL.mk_nil, ?_⟩
      exact ((Below.refl _ w).alloc (Nat.le_refl _) _).grown hgrow (by simp) (by intro k hk; simp [Value.ownBlock] at hk; omega)
  obtain ⟨b, off, hb, rfl, U, hc, hr, ho⟩ := hcell (by omega)
  clear hcell
  obtain ⟨xs, hxl, hxc, hxo, hxr⟩ := rows_list (w := w) (b := b) (off := off) (sz := 4) (fun c hc => hl c (pe c hc)) hc hr ho
  clear hc hr ho
  go_enter Tryz.func242, Tryz.ntmps242
  go_wp2_with (at_builtin; refine wpList_append_own _ rfl _ _ 89 rfl w.heap.size 94 i0 (.agg #[.int .i64 0, .int .i64 0, .string { data := #[] }, .int .i64 0]) 4 40 Tryz.underlying89 hi hz0 hz1 hz2 rfl (by decide) _ _ _ rfl (World.ownsRow_made w #[] 0 (Nat.le_refl _) (Nat.zero_le _) rfl) ⟨b, off, none⟩ es.length cap xs rfl ?qc1 ?qc2 ?qc3 ?qc4 ?qc5 ?qc6 ?_)
  case qc1 => exact hxl
  case qc2 =>
    intro j u hj
    rw [Addr.add_lit]
    exact Lib.cell?_alloc_some _ (hxc j u hj)
  case qc3 => exact hxo
  case qc4 => unfold maxLen; omega
  case qc5 => omega
  case qc6 => simp
  intro v' w1 hown hgrow hnil
  have hbl : Below w.heap.size w w1 := ((Below.refl _ w).alloc (Nat.le_refl _) _).grown hgrow (by simp) (by intro k hk; simp [Value.ownBlock] at hk; omega)
  go_wp2
  go_ret
  exact ⟨v', xs, rfl, by simpa using hown, hxr w1 hbl, hbl⟩
end Go.Proofs.YtmhkceeiiklfdaaGreat
