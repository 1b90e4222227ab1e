/- A part of the proof of SpliceEqualsUptoSaid (texts: GrAp). No conditions. -/
import Derived.Test.YtmhkceeiiklfdaaGreatG24
set_option linter.unusedVariables false
set_option linter.unusedSimpArgs false
set_option linter.unusedVariables false
set_option linter.unusedSimpArgs false
namespace Go.Proofs.YtmhkceeiiklfdaaGreat
open Go.RowKit Go.Abs
theorem set_os (W : World) (a : Addr) (v : Value) : (W.setCell a v).os = W.os := rfl
theorem set_tape (W : World) (a : Addr) (v : Value) : (W.setCell a v).tape = W.tape := rfl
theorem set_output (W : World) (a : Addr) (v : Value) : (W.setCell a v).output = W.output := rfl
/-- a loop that appends copies to a row in cell j of block b3 -/
structure ApSt (w w' wr : World) (d e sz b3 j ty : Nat) (C : Array Value) (es : List (List T)) (k : Nat) (o : Value) (xs : List Value) : Prop where
  blk : wr.heap[b3]? = some (.cells (C.setIfInBounds j o) ty (0, 0))
  own : wr.ownsRow w'.heap.size e sz o k xs
  rd : RdAL (fun b => w'.heap.size ≤ b ∧ b < wr.heap.size ∧ some b ≠ o.ownBlock) wr d (es.take k).flatten xs
  base : Below w.heap.size w wr
  size : w'.heap.size ≤ wr.heap.size
  kept : ∀ b, b < w'.heap.size → b ≠ b3 → wr.heap[b]? = w'.heap[b]?
theorem ap_start {w w' : World} {d e sz b3 j ty : Nat} {C : Array Value} {es : List (List T)} (hb : w'.heap[b3]? = some (.cells C ty (0, 0))) (hj : C[j]? = some (.slice none 0 0)) (hbl : Below w.heap.size w w') : ApSt w w' w' d e sz b3 j ty C es 0 (.slice none 0 0) [] := by
  refine ⟨?_, World.ownsRow_nil _ _ _ _, RdAL.mk_nil, hbl, Nat.le_refl _, fun _ _ _ => rfl⟩
  have : C.setIfInBounds j (.slice none 0 0) = C := by
    apply Array.ext_getElem?
    intro i
    rw [Array.getElem?_setIfInBounds]
    split
    · rename_i h; subst h
      split
      · exact hj.symm
      · rename_i h; rw [Array.getElem?_eq_none (by omega)]
    · rfl
  rw [this]; exact hb
theorem ApSt.cell {w w' wr : World} {d e sz b3 j ty : Nat} {C : Array Value} {es : List (List T)} {k : Nat} {o : Value} {xs : List Value} (h : ApSt w w' wr d e sz b3 j ty C es k o xs) (hj : j < C.size) : wr.cell? ⟨b3, j, none⟩ = some o ∧ wr.frozen? ⟨b3, j, none⟩ = false := by
  refine ⟨by rw [cell_at h.blk]; simp [hj], by rw [frozen_at h.blk]; simp⟩
theorem ap_step {w w' wr W0 W1 w1 : World} {d e sz b3 j ty : Nat} {C : Array Value} {es : List (List T)} {k : Nat} {o v' : Value} {xs us : List Value} {ob : Obj} (h : ApSt w w' wr d e sz b3 j ty C es k o xs) (hk : k < es.length) (hb3 : b3 < w'.heap.size) (hb3' : w.heap.size ≤ b3) (hww : w.heap.size ≤ w'.heap.size)
    (h0 : wr.heap.size ≤ W0.heap.size) (hus : RdAL (fun b => W0.heap.size ≤ b ∧ b < W1.heap.size) W1 d (es.getD k []) us) (h1 : Below wr.heap.size wr W1)
    (hg : (W1.alloc ob).grownBy w1 o.ownBlock) (hv : v'.ownBlock = o.ownBlock ∨ ∃ g, v'.ownBlock = some g ∧ (W1.alloc ob).heap.size ≤ g) (hown : w1.ownsRow w'.heap.size e sz v' (k + 1) (xs ++ us)) :
    ApSt w w' (w1.setCell ⟨b3, j, none⟩ v') d e sz b3 j ty C es (k + 1) v' (xs ++ us) := by
  have hs := h.size
  have hs1 := h1.size
  have hs2 := hg.size
  have hal : ∀ b, b < W1.heap.size → (W1.alloc ob).heap[b]? = W1.heap[b]? := fun b hb => Below.heap_alloc _ _ _ hb
  have hsz : (W1.alloc ob).heap.size = W1.heap.size + 1 := World.size_alloc _ _
  have hsc : (w1.setCell ⟨b3, j, none⟩ v').heap.size = w1.heap.size := World.size_setCell ..
  have hob : ∀ g, o.ownBlock = some g → w'.heap.size ≤ g := fun g e => (own_lt h.own g e).1
  have old : ∀ b, b < w'.heap.size → w1.heap[b]? = wr.heap[b]? := fun b hb => by
    rw [hg.block b (by omega) (fun e => by have := hob b e.symm; omega), hal b (by omega), h1.block b (by omega)]
  have hb := (old b3 hb3).trans h.blk
  have hr := each_step hk h.own hs h.rd h0 hus h1 hg hv
  refine ⟨?_, ?_, ?_, ?_, by omega, fun b h2 h3 => ?_⟩
  · rw [setCell_wset hb, wset_at _ _ _ (heap_lt hb)]
    congr 2
    apply Array.ext_getElem?
    intro i
    simp only [Array.getElem?_setIfInBounds, Array.size_setIfInBounds]
    by_cases hij : j = i <;> simp [hij]
  · exact own_frame hown fun b h2 => Below.heap_setCell _ _ _ _ (by have := (own_lt hown b h2).1; show b ≠ b3; omega)
  · exact hr.frame (fun b hb' => ⟨hb'.1, by omega, hb'.2.2⟩) (fun b hb' => Below.heap_setCell _ _ _ _ (by show b ≠ b3; omega))
  · have hB := h.base
    refine ⟨?_, ?_, ?_, by have := hB.size; omega, fun b h2 => ?_⟩
    · exact hg.os.trans (h1.os.trans hB.os)
    · exact hg.tape.trans (h1.tape.trans hB.tape)
    · exact hg.output.trans (h1.output.trans hB.output)
    · rw [Below.heap_setCell _ _ _ _ (by show b ≠ b3; omega), old b (by omega), hB.block b h2]
  · rw [Below.heap_setCell _ _ _ _ h3, old b h2, h.kept b h2 h3]
theorem ap_after {w w' wr W1 w1 : World} {d e sz b3 j ty : Nat} {C : Array Value} {es : List (List T)} {k : Nat} {o : Value} {xs : List Value} {ob : Obj} (h : ApSt w w' wr d e sz b3 j ty C es k o xs) (hj : j < C.size) (hb3 : b3 < w'.heap.size) (h1 : Below wr.heap.size wr W1) (hg : (W1.alloc ob).grownBy w1 o.ownBlock) : w1.cell? ⟨b3, j, none⟩ = some o ∧ w1.frozen? ⟨b3, j, none⟩ = false := by
  have hs := h.size
  have hs1 := h1.size
  have hsz : (W1.alloc ob).heap.size = W1.heap.size + 1 := World.size_alloc _ _
  have hb : w1.heap[b3]? = some (.cells (C.setIfInBounds j o) ty (0, 0)) := by
    rw [hg.block b3 (by omega) (fun e => by have := (own_lt h.own b3 e.symm).1; omega), Below.heap_alloc _ _ _ (by omega), h1.block b3 (by omega), h.blk]
  exact ⟨by rw [cell_at hb]; simp [hj], by rw [frozen_at hb]; simp⟩
theorem RdAL.drop {S : Nat → Prop} {w : World} {d n : Nat} {h r : List T} {us : List Value} (hu : RdAL S w d (h ++ r) us) (hn : h.length = n) : RdAL S w d r (us.drop n) := by
  obtain ⟨a, b, rfl, h1, h2⟩ := hu.split
  have : a.length = n := by rw [h1.1, hn]
  subst this
  simpa using h2
end Go.Proofs.YtmhkceeiiklfdaaGreat
