/- A part of the proof of SpliceEqualsUptoSaid (texts: SndV2). No conditions. -/
import Derived.Test.YtmhkceeiiklfdaaGreatG15
set_option linter.unusedVariables false
set_option linter.unusedSimpArgs false
set_option linter.unusedVariables false
set_option linter.unusedSimpArgs false
namespace Go.Abs
open RowKit

/-! ### A region that draws its order, as the walk's own statement -/
theorem region_wp {E : Env} (ok : EnvOk E) (n : Nat) {id : Nat} {ops : Array Oper} {nt : Nat} {T : Tr Value} {L : Loc} {H H' : AHeap} {es : List Ev} (h : aOpsD ops.toList nt E (aRun E n) T ops.toList .nil H = some (L, H', es)) (hreg : regOk ops.toList = true) (hev : evCheck (befores [] ops.toList) [] es = true)
    {φ : Phi} {w : World} {a : Act} (hF : FR φ ⟨.nil, T⟩ a.tmps) (hnt : a.tmps.size = nt) (sim : SimL φ E H w) (hf : Free φ H H') {Q : Exit → Act → World → Prop}
    (hQ : ∀ φ' w' a', Goes φ H.size w φ' H'.size w' → SimL φ' E H' w' → FR φ' ⟨L, T⟩ a'.tmps → a'.tmps.size = nt → a'.defers = a.defers → Q .normal a' w') : (Code.region id ops true).wp E.prog Q a w := by
  intro b k cs
  have simd : SimL φ E H w.drew := sim.congr rfl rfl rfl
  let b0 : Frame := { b with roundOf := none }
  obtain ⟨φ1, w1, a1, p1, p2, p3, p4, p5, p6, p7⟩ := draw_ok ok (run_ok ok n) (aRun_up E n) ops nt T L H H' es h hreg hev φ w.drew b0 a k (w.tape w.drawn (.order b0.fn id)) cs hF hnt simd hf
  refine ⟨.normal, a1, w1, hQ φ1 w1 a1 ((Goes.drew φ H.size w).trans p1) p2 p3 p4 p5, ?_⟩
  have s1 := stepR_region_draw (P := E.prog) (b := b0) (a := a) (k := k) (cs := cs) (w := w) (ops := ops) (id := id)
  have e : Region.schedule (E.prog.follows .mixedOrders) ops (w.tape w.drawn (.order b0.fn id)) = Region.linearise .any ops (w.tape w.drawn (.order b0.fn id)) := by
    unfold Region.schedule
    rw [ok.mixed]; rfl
  rw [e] at s1
  exact Steps.head s1 (p7.trans (.one stepR_region_end))
theorem region_wp0 {E : Env} (ok : EnvOk E) (n : Nat) {id : Nat} {ops : Array Oper} {nt : Nat} {T : Tr Value} {L : Loc} {H H' : AHeap} (h : aOps ops.toList nt E (aRun E n) T ops.toList .nil H = some (L, H'))
    {φ : Phi} {w : World} {a : Act} (hF : FR φ ⟨.nil, T⟩ a.tmps) (hnt : a.tmps.size = nt) (sim : SimL φ E H w) (hf : Free φ H H') {Q : Exit → Act → World → Prop}
    (hQ : ∀ φ' w' a', Goes φ H.size w φ' H'.size w' → SimL φ' E H' w' → FR φ' ⟨L, T⟩ a'.tmps → a'.tmps.size = nt → a'.defers = a.defers → Q .normal a' w') : (Code.region id ops false).wp E.prog Q a w := by
  intro b k cs
  let b0 : Frame := { b with roundOf := none }
  obtain ⟨φ1, w1, a1, p1, p2, p3, p4, p5, p6, p7⟩ := region_ops (b := b0) (k := k) ok (run_ok ok n) (aRun_up E n) cs ops.toList 0 rfl h hF hnt sim hf
  refine ⟨.normal, a1, w1, hQ φ1 w1 a1 p1 p2 p3 p4 p5, ?_⟩
  have e : List.range' 0 ops.toList.length = List.range ops.size := by rw [List.range_eq_range']; simp
  rw [e] at p7
  exact Steps.head (stepR_region (P := E.prog) (b := b0)) (p7.trans (.one stepR_region_end))

/-! ### Own blocks -/
structure Own where
  b : Nat
  ty : TypeId
  cs : List Value
def Own.obj (o : Own) : AObj := .cells o.ty o.cs 0 true
def ownPhi (owns : List Own) (σ : Nat → Value) : Phi := ⟨fun A => (owns[A]?).map fun o => (o.b, o.cs.length), fun A => if A = owns.length then some σ else none⟩
noncomputable def ownHeap (tys : List (TypeId × List Value)) : AHeap := { objs := Tr.ofList (tys.map (fun t => .cells t.1 t.2 0 true) ++ [.dead]), size := tys.length + 1, low := 0 }
/-- own blocks, as they stand in memory -/
structure OwnOk (φ : Phi) (w : World) (o : Own) : Prop where
  row : ∃ (C : Array Value) (hi : Nat), w.heap[o.b]? = some (.cells C o.ty (0, hi)) ∧ hi = 0 ∧ LRel φ o.cs C.toList
theorem ownHeap_get {tys : List (TypeId × List Value)} {A : Nat} {o : AObj} (h : (ownHeap tys).get A = some o) : (∃ t, tys[A]? = some t ∧ o = .cells t.1 t.2 0 true) ∨ (A = tys.length ∧ o = .dead) := by
  have := Tr.get_ofList _ _ _ h
  rw [List.getElem?_append] at this
  split at this
  · rename_i hlt
    rw [List.getElem?_map] at this
    cases ht : tys[A]? with
    | none => rw [ht] at this; cases this
    | some t => rw [ht] at this; cases this; exact .inl ⟨t, rfl, rfl⟩
  · rename_i hlt
    rw [List.length_map] at this hlt
    cases hA : A - tys.length with
    | zero => rw [hA] at this; cases this; exact .inr ⟨by omega, rfl⟩
    | succ m => rw [hA] at this; simp at this
theorem own_sim {E : Env} {owns : List Own} {σ : Nat → Value} {w : World} (hlen : owns.length < 1000) (hnd : owns.Pairwise fun x y => x.b ≠ y.b) (hok : ∀ o ∈ owns, OwnOk (ownPhi owns σ) w o)
    (hp : (E.post owns.length σ).says (Foreign (ownPhi owns σ) w) w) : SimL (ownPhi owns σ) E (ownHeap (owns.map fun o => (o.ty, o.cs))) w := by
  have hφ : ∀ A b n, ownPhi owns σ A = some (b, n) → ∃ o, owns[A]? = some o ∧ o.b = b ∧ o.cs.length = n := by
    intro A b n h
    have h : (owns[A]?).map (fun o => (o.b, o.cs.length)) = some (b, n) := h
    cases ho : owns[A]? with
    | none => rw [ho] at h; cases h
    | some o => rw [ho] at h; cases h; exact ⟨o, rfl, rfl, rfl⟩
  refine ⟨⟨fun A b n h => ?_, fun A b n o h g => ?_, fun A hA => ?_, fun A B b n m hne h1 h2 => ?_, fun A vs h => ?_⟩, fun A o g => ?_⟩
  · obtain ⟨o, h1, rfl, _⟩ := hφ A b n h
    obtain ⟨C, hi, h2, _⟩ := (hok o (List.mem_of_getElem? h1)).row
    exact (Array.getElem?_eq_some_iff.1 h2).1
  · obtain ⟨o', h1, rfl, rfl⟩ := hφ A b n h
    obtain ⟨C, hi, h2, rfl, h3⟩ := (hok o' (List.mem_of_getElem? h1)).row
    refine ⟨_, h2, ?_⟩
    rcases ownHeap_get g with ⟨t, h4, rfl⟩ | ⟨h4, rfl⟩
    · rw [List.getElem?_map, h1] at h4
      cases h4
      refine ⟨C, 0, 0, rfl, by rw [← Array.length_toList, h3.length], Nat.le_refl _, fun _ => rfl, fun i v hv => ?_, fun i _ h => by omega, .inl ⟨rfl, by decide⟩⟩
      obtain ⟨v', h5, h6⟩ := h3.get i v hv
      exact ⟨v', by rw [← Array.getElem?_toList]; exact h5, h6⟩
    · trivial
  · cases hg : (ownHeap (owns.map fun o => (o.ty, o.cs))).get A with
    | none => rfl
    | some o =>
      have hA : owns.length + 1 ≤ A := by
        have : (ownHeap (owns.map fun o => (o.ty, o.cs))).size = owns.length + 1 := by show (owns.map _).length + 1 = _; rw [List.length_map]
        omega
      rcases ownHeap_get hg with ⟨t, h4, _⟩ | ⟨h4, _⟩
      · have := (List.getElem?_eq_some_iff.1 h4).1
        rw [List.length_map] at this; omega
      · rw [List.length_map] at h4; omega
  · exfalso
    obtain ⟨o, h3, h4, _⟩ := hφ A b n h1
    obtain ⟨o', h5, h6, _⟩ := hφ B b m h2
    have hA := (List.getElem?_eq_some_iff.1 h3).1
    have hB := (List.getElem?_eq_some_iff.1 h5).1
    have a1 := (List.getElem?_eq_some_iff.1 h3).2
    have a2 := (List.getElem?_eq_some_iff.1 h5).2
    rw [List.pairwise_iff_getElem] at hnd
    rcases Nat.lt_or_gt_of_ne hne with h | h
    · exact hnd A B hA hB h (by rw [a1, a2, h4, h6])
    · exact hnd B A hB hA h (by rw [a1, a2, h4, h6])
  · have h : (if A = owns.length then some σ else none) = some vs := h
    split at h
    · rename_i hA; cases h; rw [hA]; exact hp
    · cases h
  · unfold High
    have : A ≤ owns.length := by
      rcases ownHeap_get g with ⟨t, h4, _⟩ | ⟨h4, _⟩
      · have := (List.getElem?_eq_some_iff.1 h4).1
        rw [List.length_map] at this; omega
      · rw [List.length_map] at h4; omega
    have : (1001 : Nat) ≤ 2 ^ 40 := by decide
    omega
end Go.Abs
