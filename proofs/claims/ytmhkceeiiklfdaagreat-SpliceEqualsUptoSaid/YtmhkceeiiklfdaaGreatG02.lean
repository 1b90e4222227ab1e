/- A part of the proof of SpliceEqualsUptoSaid (texts: SndC SndD). No conditions. -/
import Derived.Test.YtmhkceeiiklfdaaGreatG01
import Derived.Calls
import Derived.Below
import Derived.Laws.Entries
import Derived.ChangeKeysEq
import Derived.MapKept
import Derived.Laws.LoneSync
import Derived.Lib.MakeNoZero
import Derived.Lib.ConvBytes
import Derived.Laws.BytesString
import Derived.Lib.Builder
set_option linter.unusedVariables false
set_option linter.unusedSimpArgs false
set_option linter.unusedVariables false
namespace Go.Abs

/-! ### 1. The tree beyond its height -/
theorem Tr.put_big {α : Type} (x : α) (n : Nat) : ∀ (t : Tr α) (p : Nat), 2 ^ n ≤ p → (Tr.put x n t p).at p = t.at p := by
  induction n with
  | zero => intro t p h; rfl
  | succ n ih =>
    intro t p h
    have h0 : 0 < 2 ^ n := Nat.two_pow_pos n
    rw [Nat.pow_succ] at h
    have h1 : ¬ p = 1 := by omega
    have h3 : 2 ^ n ≤ p / 2 := by omega
    cases t with
    | leaf =>
      rw [Tr.put_leaf, if_neg h1]
      split
      · rename_i h2; rw [Tr.at_node, if_neg h1, if_pos h2]; exact ih _ _ h3
      · rename_i h2; rw [Tr.at_node, if_neg h1, if_neg h2]; exact ih _ _ h3
    | node v l r =>
      rw [Tr.put_node, if_neg h1, Tr.at_node v l r, if_neg h1]
      split
      · rename_i h2; rw [Tr.at_node, if_neg h1, if_pos h2]; exact ih _ _ h3
      · rename_i h2; rw [Tr.at_node, if_neg h1, if_neg h2]; exact ih _ _ h3
def High (A : Nat) : Prop := 2 ^ 40 ≤ A + 1
theorem Tr.get_set_big {α : Type} (t : Tr α) (k : Nat) (x : α) (h : High k) : (t.set k x).get k = t.get k := Tr.put_big x _ t _ h
theorem Tr.get_set_low {α : Type} (t : Tr α) (k : Nat) (x : α) (h : ¬ High k) : (t.set k x).get k = some x :=
  Tr.put_eq x _ t _ (Nat.succ_pos _) (by unfold High at h; show k + 1 < 2 ^ 40; omega)

/-! ### 2. The abstract memory -/
theorem forceN_eq {β : Type} (n : Nat) (k : Nat → β) : forceN n k = k n := by cases n <;> rfl
theorem new_size (H : AHeap) (o : AObj) : (H.new o).size = H.size + 1 := by unfold AHeap.new; rw [forceN_eq]
theorem new_objs (H : AHeap) (o : AObj) : (H.new o).objs = H.objs.set H.size o := by unfold AHeap.new; rw [forceN_eq]
theorem new_low (H : AHeap) (o : AObj) : (H.new o).low = H.low := by unfold AHeap.new; rw [forceN_eq]
theorem get_new_ne (H : AHeap) (o : AObj) (A : Nat) (h : A ≠ H.size) : (H.new o).get A = H.get A := by
  unfold AHeap.get; rw [new_objs]; exact Tr.get_set_ne _ _ _ _ (Ne.symm h)
theorem get_new (H : AHeap) (o : AObj) (u : AObj) (hn : H.get H.size = none) (h : (H.new o).get H.size = some u) : u = o ∧ ¬ High H.size := by
  unfold AHeap.get at h hn
  rw [new_objs] at h
  by_cases hb : High H.size
  · rw [Tr.get_set_big _ _ _ hb, hn] at h; cases h
  · rw [Tr.get_set_low _ _ _ hb] at h; injection h with h; exact ⟨h.symm, hb⟩
theorem put_size (H : AHeap) (A : Nat) (o : AObj) : (H.put A o).size = H.size := rfl
theorem put_low (H : AHeap) (A : Nat) (o : AObj) : (H.put A o).low = Nat.lor H.low (Nat.shiftLeft 1 A) := rfl
theorem bit_zero (i : Nat) : bit 0 i = false := by rw [bit_eq]; simp
theorem bit_lor (a b i : Nat) : bit (Nat.lor a b) i = (bit a i || bit b i) := by
  rw [bit_eq, bit_eq, bit_eq]; exact Nat.testBit_or a b i
theorem bit_shl (e i : Nat) : bit (Nat.shiftLeft 1 e) i = decide (e = i) := by
  rw [bit_eq]
  show (1 <<< e).testBit i = _
  rw [Nat.one_shiftLeft, Nat.testBit_two_pow]
theorem get_put_ne (H : AHeap) (A B : Nat) (o : AObj) (h : A ≠ B) : (H.put A o).get B = H.get B := Tr.get_set_ne _ _ _ _ h
theorem get_put (H : AHeap) (A : Nat) (o : AObj) (h : ¬ High A) : (H.put A o).get A = some o := Tr.get_set_low _ _ _ h

/-! ### 3. Growing and turning -/
def wpush (w : World) (c : Obj) : World := { w with heap := w.heap.push c }
def wset (w : World) (b : Nat) (c : Obj) : World := { w with heap := w.heap.setIfInBounds b c }
theorem wpush_new (w : World) (c : Obj) : (wpush w c).heap[w.heap.size]? = some c := by show (w.heap.push c)[w.heap.size]? = some c; simp
theorem wpush_old (w : World) (c : Obj) (b : Nat) (h : b < w.heap.size) : (wpush w c).heap[b]? = w.heap[b]? := by
  show (w.heap.push c)[b]? = w.heap[b]?
  rw [Array.getElem?_push, if_neg (Nat.ne_of_lt h)]
theorem wset_at (w : World) (b : Nat) (c : Obj) (h : b < w.heap.size) : (wset w b c).heap[b]? = some c := by simp [wset, h]
theorem wset_ne (w : World) (b d : Nat) (c : Obj) (h : b ≠ d) : (wset w b c).heap[d]? = w.heap[d]? := by
  simp [wset, Array.getElem?_setIfInBounds_ne h]

def Phi.add (φ : Phi) (A b n : Nat) : Phi := { φ with blk := fun B => if B = A then some (b, n) else φ B }
theorem Phi.add_app (φ : Phi) (A b n B : Nat) : (φ.add A b n) B = if B = A then some (b, n) else φ B := rfl
theorem Phi.add_ext {φ : Phi} {A b n : Nat} (h : φ A = none) : Ext φ (φ.add A b n) := by
  refine ⟨fun B x e => ?_, fun _ _ h => h⟩
  rw [Phi.add_app]
  split
  · rename_i hB; subst hB; rw [h] at e; cases e
  · exact e
theorem Phi.add_at (φ : Phi) (A b n : Nat) : φ.add A b n A = some (b, n) := by simp [Phi.add]

structure SimL (φ : Phi) (E : Env) (H : AHeap) (w : World) : Prop extends Sim φ E H w where
  lowly : ∀ A o, H.get A = some o → ¬ High A

theorem SimL.congr {φ : Phi} {E : Env} {H H' : AHeap} {w w' : World} (h : SimL φ E H w) (ho : H'.objs = H.objs) (hs : H'.size = H.size) (hw : w'.heap = w.heap) (h1 : w'.os = w.os := by rfl) (h2 : w'.tape = w.tape := by rfl) (h3 : w'.output = w.output := by rfl) : SimL φ E H' w' := by
  have hg : ∀ A, H'.get A = H.get A := fun A => by unfold AHeap.get; rw [ho]
  refine ⟨⟨fun A b n e => by rw [hw]; exact h.dom A b n e, fun A b n o e g => by rw [hw]; rw [hg] at g; exact h.has A b n o e g, fun A e => by rw [hg]; rw [hs] at e; exact h.tot A e, fun A B b n m e1 e2 e3 => ?_, fun A vs e => (E.post A vs).stays _ _ _ _ (h.post A vs e) (fun b hb => ⟨by rw [hw]; exact hb.1, hb.2⟩) (fun b _ => by rw [hw]) (by rw [hw]; exact Nat.le_refl _) h1 h2 h3⟩, fun A o g => by rw [hg] at g; exact h.lowly A o g⟩
  rw [hg, hg]; exact h.inj A B b n m e1 e2 e3

/-- A new block. -/
theorem SimL.alloc {φ : Phi} {E : Env} {H : AHeap} {w : World} (h : SimL φ E H w) (hf : φ H.size = none) (n : Nat) (o : AObj) (c : Obj)
    (hr : ObjRel (φ.add H.size w.heap.size n) E n o c) :
    SimL (φ.add H.size w.heap.size n) E (H.new o) (wpush w c) ∧ Goes φ H.size w (φ.add H.size w.heap.size n) (H.size + 1) (wpush w c) := by
  have hext := Phi.add_ext (b := w.heap.size) (n := n) hf
  have hsz : (wpush w c).heap.size = w.heap.size + 1 := by show (w.heap.push c).size = _; simp
  have hn := h.tot H.size (Nat.le_refl _)
  have G : Goes φ H.size w (φ.add H.size w.heap.size n) (H.size + 1) (wpush w c) := by
    refine ⟨hext, fun A hA => ?_, fun A b k h1 h2 e => ?_, by omega, by omega, fun b hb _ => wpush_old w c b hb, rfl, rfl, rfl, fun _ _ => rfl⟩
    · rw [Phi.add_app, if_neg (by omega)]
    · rw [Phi.add_app, if_pos (by omega)] at e
      cases e
      exact .inl (Nat.le_refl _)
  refine ⟨⟨⟨fun A b k e => ?_, fun A b k u e g => ?_, fun A hA => ?_, fun A B b k m hne e1 e2 => ?_, G.post rfl h.post⟩, fun A u g => ?_⟩, G⟩
  · rw [hsz]
    rw [Phi.add_app] at e
    split at e
    · cases e; omega
    · have := h.dom A b k e; omega
  · rw [Phi.add_app] at e
    split at e
    · rename_i hA
      cases e
      subst hA
      obtain ⟨rfl, _⟩ := get_new H o u hn g
      exact ⟨c, wpush_new w c, hr⟩
    · rename_i hA
      rw [get_new_ne H o A hA] at g
      obtain ⟨c', h1, h2⟩ := h.has A b k u e g
      exact ⟨c', by rw [wpush_old w c b (h.dom A b k e)]; exact h1, h2.mono hext⟩
  · rw [new_size] at hA
    rw [get_new_ne H o A (by omega)]
    exact h.tot A (by omega)
  · rw [Phi.add_app] at e1 e2
    split at e1
    · rename_i hA
      cases e1
      split at e2
      · rename_i hB; exact absurd (hA.trans hB.symm) hne
      · have := h.dom B _ m e2; omega
    · rename_i hA
      split at e2
      · cases e2; have := h.dom A _ k e1; omega
      · rename_i hB
        have := h.inj A B b k m hne e1 e2
        rw [get_new_ne H o A hA, get_new_ne H o B hB]
        exact this
  · by_cases hA : A = H.size
    · subst hA; exact (get_new H o u hn g).2
    · rw [get_new_ne H o A hA] at g; exact h.lowly A u g

/-- A block is turned. -/
theorem SimL.turn {φ : Phi} {E : Env} {H : AHeap} {w : World} (h : SimL φ E H w) (A b n : Nat) (o o' : AObj) (c : Obj) (hφ : φ A = some (b, n)) (hg : H.get A = some o) (hd : o ≠ .dead)
    (hr : ObjRel φ E n o' c) : SimL φ E (H.put A o') (wset w b c) ∧ Goes φ H.size w φ H.size (wset w b c) := by
  have hsz : (wset w b c).heap.size = w.heap.size := by simp [wset]
  have hlow := h.lowly A o hg
  have hb := h.dom A b n hφ
  have hAs : A < H.size := by
    rcases Nat.lt_or_ge A H.size with h1 | h1
    · exact h1
    · rw [h.tot A h1] at hg; cases hg
  have G : Goes φ H.size w φ H.size (wset w b c) := by
    refine ⟨Ext.refl _, fun _ _ => rfl, fun B d k h1 h2 => absurd h2 (by omega), Nat.le_refl _, by omega, fun d hd' hn => ?_, rfl, rfl, rfl, fun _ _ => rfl⟩
    refine wset_ne w b d c ?_
    rintro rfl
    exact hn A n hAs hφ
  refine ⟨⟨⟨fun B d k e => by rw [hsz]; exact h.dom B d k e, fun B d k u e g => ?_, fun B hB => ?_, fun B D d k m hne e1 e2 => ?_, G.post rfl h.post⟩, fun B u g => ?_⟩, G⟩
  · by_cases hBA : A = B
    · subst hBA
      rw [hφ] at e; cases e
      rw [get_put H A o' hlow] at g; cases g
      exact ⟨c, wset_at w _ c hb, hr⟩
    · rw [get_put_ne H A B o' hBA] at g
      obtain ⟨c', h1, h2⟩ := h.has B d k u e g
      by_cases hdb : b = d
      · subst hdb
        have := h.inj A B b n k hBA hφ e
        rcases this with h3 | h3
        · rw [hg] at h3; cases h3; exact absurd rfl hd
        · rw [h3] at g; cases g
          exact ⟨c, wset_at w _ c hb, trivial⟩
      · exact ⟨c', by rw [wset_ne w b d c hdb]; exact h1, h2⟩
  · rw [put_size] at hB
    rw [get_put_ne H A B o' (by omega)]
    exact h.tot B hB
  · have := h.inj B D d k m hne e1 e2
    rcases this with h3 | h3
    · have : A ≠ B := by rintro rfl; rw [hg] at h3; cases h3; exact hd rfl
      rw [get_put_ne H A B o' this]; exact .inl h3
    · have : A ≠ D := by rintro rfl; rw [hg] at h3; cases h3; exact hd rfl
      rw [get_put_ne H A D o' this]; exact .inr h3
  · by_cases hBA : A = B
    · subst hBA; exact hlow
    · rw [get_put_ne H A B o' hBA] at g; exact h.lowly B u g
/-- A block is no longer looked into. -/
theorem SimL.kill {φ : Phi} {E : Env} {H : AHeap} {w : World} (h : SimL φ E H w) (A : Nat) (o : AObj) (hg : H.get A = some o) : SimL φ E (H.put A .dead) w := by
  have hlow := h.lowly A o hg
  have hAs : A < H.size := by
    rcases Nat.lt_or_ge A H.size with h1 | h1
    · exact h1
    · rw [h.tot A h1] at hg; cases hg
  refine ⟨⟨h.dom, fun B d k u e g => ?_, fun B hB => ?_, fun B D d k m hne e1 e2 => ?_, h.post⟩, fun B u g => ?_⟩
  · by_cases hBA : A = B
    · subst hBA
      rw [get_put H A .dead hlow] at g; cases g
      obtain ⟨c', h1, _⟩ := h.has A d k o e hg
      exact ⟨c', h1, trivial⟩
    · rw [get_put_ne H A B _ hBA] at g; exact h.has B d k u e g
  · rw [put_size] at hB
    rw [get_put_ne H A B _ (by omega)]
    exact h.tot B hB
  · have := h.inj B D d k m hne e1 e2
    by_cases hB : A = B
    · subst hB; exact .inl (get_put H A .dead hlow)
    · by_cases hD : A = D
      · subst hD; exact .inr (get_put H A .dead hlow)
      · rw [get_put_ne H A B _ hB, get_put_ne H A D _ hD]; exact this
  · by_cases hBA : A = B
    · subst hBA; exact hlow
    · rw [get_put_ne H A B _ hBA] at g; exact h.lowly B u g

/-! ### 4. Cells -/
theorem add_at (b o i : Nat) : (⟨b, o, none⟩ : Addr).add i = ⟨b, o + i, none⟩ := by
  unfold Addr.add; split
  · rename_i h; subst h; rfl
  · rfl
theorem cell_at {w : World} {b : Nat} {C : Array Value} {e : TypeId} {f : Nat × Nat} (h : w.heap[b]? = some (.cells C e f)) (o : Nat) : w.cell? ⟨b, o, none⟩ = C[o]? := by
  simp [World.cell?, h]
theorem frozen_at {w : World} {b : Nat} {C : Array Value} {e : TypeId} {lo hi : Nat} (h : w.heap[b]? = some (.cells C e (lo, hi))) (o : Nat) : w.frozen? ⟨b, o, none⟩ = (decide (lo ≤ o) && decide (o < hi)) := by
  simp [World.frozen?, h]

theorem takeN_zero (l : List Value) : takeN 0 l = some [] := rfl
theorem takeN_nil (n : Nat) : takeN (n + 1) [] = none := rfl
theorem takeN_cons (n : Nat) (v : Value) (r : List Value) : takeN (n + 1) (v :: r) = (takeN n r).map (v :: ·) := by
  show @Option.rec _ (fun _ => Option (List Value)) none (fun x => some (v :: x)) (takeN n r) = _
  cases takeN n r <;> rfl
theorem takeN_some : ∀ (n : Nat) (l m : List Value), takeN n l = some m → m = l.take n ∧ n ≤ l.length
  | 0, l, m, h => by rw [takeN_zero] at h; cases h; simp
  | n + 1, [], m, h => by rw [takeN_nil] at h; cases h
  | n + 1, v :: r, m, h => by
    rw [takeN_cons] at h
    cases ht : takeN n r with
    | none => rw [ht] at h; cases h
    | some x =>
      rw [ht] at h; simp only [Option.map_some, Option.some.injEq] at h
      obtain ⟨h1, h2⟩ := takeN_some n r x ht
      subst h; subst h1
      exact ⟨by simp, by simpa using h2⟩
theorem dropN_eq : ∀ (n : Nat) (l : List Value), dropN n l = l.drop n
  | 0, l => by rfl
  | n + 1, [] => by rfl
  | n + 1, v :: r => by
    have e : dropN (n + 1) (v :: r) = dropN n r := rfl
    rw [e, dropN_eq n r]; rfl
theorem headV_eq (l : List Value) : headV l = l[0]? := by cases l <;> rfl
theorem lenL_eq : ∀ l : List Value, lenL l = l.length
  | [] => rfl
  | v :: r => by
    have e : lenL (v :: r) = lenL r + 1 := rfl
    rw [e, lenL_eq r]; rfl
theorem overwrite_some : ∀ (vs cs m : List Value), overwrite vs cs = some m → m = vs ++ cs.drop vs.length ∧ vs.length ≤ cs.length
  | [], cs, m, h => by
    have e : overwrite [] cs = some cs := rfl
    rw [e] at h; cases h; simp
  | v :: vs, [], m, h => by
    have e : overwrite (v :: vs) [] = none := rfl
    rw [e] at h; cases h
  | v :: vs, c :: cs, m, h => by
    have e : overwrite (v :: vs) (c :: cs) = (overwrite vs cs).map (v :: ·) := by
      show @Option.rec _ (fun _ => Option (List Value)) none (fun l => some (v :: l)) (overwrite vs cs) = _
      cases overwrite vs cs <;> rfl
    rw [e] at h
    cases ht : overwrite vs cs with
    | none => rw [ht] at h; cases h
    | some x =>
      rw [ht] at h; simp only [Option.map_some, Option.some.injEq] at h
      obtain ⟨h1, h2⟩ := overwrite_some vs cs x ht
      subst h; subst h1
      exact ⟨by simp, by simpa using h2⟩
/-- vs laid over l from off on -/
def over (off : Nat) (vs l : List Value) : List Value := l.take off ++ (vs ++ l.drop (off + vs.length))
theorem writeAt_some (vs : List Value) : ∀ (off : Nat) (cs m : List Value), writeAt vs off cs = some m → m = over off vs cs ∧ off + vs.length ≤ cs.length
  | 0, cs, m, h => by
    have e : writeAt vs 0 cs = overwrite vs cs := rfl
    rw [e] at h
    obtain ⟨h1, h2⟩ := overwrite_some vs cs m h
    subst h1
    exact ⟨by simp [over], by omega⟩
  | n + 1, [], m, h => by
    have e : writeAt vs (n + 1) [] = none := rfl
    rw [e] at h; cases h
  | n + 1, c :: cs, m, h => by
    have e : writeAt vs (n + 1) (c :: cs) = (writeAt vs n cs).map (c :: ·) := by
      show @Option.rec _ (fun _ => Option (List Value)) none (fun l => some (c :: l)) (writeAt vs n cs) = _
      cases writeAt vs n cs <;> rfl
    rw [e] at h
    cases ht : writeAt vs n cs with
    | none => rw [ht] at h; cases h
    | some x =>
      rw [ht] at h; simp only [Option.map_some, Option.some.injEq] at h
      obtain ⟨h1, h2⟩ := writeAt_some vs n cs x ht
      subst h; subst h1
      refine ⟨?_, by simp; omega⟩
      simp [over, show n + 1 + vs.length = (n + vs.length) + 1 by omega]
theorem over_length (off : Nat) (vs l : List Value) (h : off + vs.length ≤ l.length) : (over off vs l).length = l.length := by
  simp [over]; omega
theorem over_get (off : Nat) (vs l : List Value) (h : off + vs.length ≤ l.length) (i : Nat) :
    (over off vs l)[i]? = if off ≤ i ∧ i < off + vs.length then vs[i - off]? else l[i]? := by
  unfold over
  rw [List.getElem?_append]
  by_cases h1 : i < off
  · rw [if_pos (by simp; omega), if_neg (by omega), List.getElem?_take, if_pos h1]
  · rw [if_neg (by simp; omega)]
    have e : (l.take off).length = off := by simp; omega
    rw [e, List.getElem?_append]
    by_cases h2 : i < off + vs.length
    · rw [if_pos (by omega), if_pos (by omega)]
    · rw [if_neg (by omega), if_neg (by omega), List.getElem?_drop]
      congr 1; omega

variable {P : Program}
theorem run_load {w : World} {b o : Nat} {C : Array Value} {e : TypeId} {f : Nat × Nat} {v : Value} (h : w.heap[b]? = some (.cells C e f)) (hv : C[o]? = some v) :
    (load ⟨b, o, none⟩).run P w = .ok v w := by
  simp [load, Sem.run, cell_at h, hv]
theorem run_loadCellsFrom {w : World} {b off : Nat} {C : Array Value} {e : TypeId} {f : Nat × Nat} (h : w.heap[b]? = some (.cells C e f)) : ∀ (n i : Nat) (acc : Array Value), off + i + n ≤ C.size →
    (loadCellsFrom ⟨b, off, none⟩ i n acc).run P w = .ok (acc ++ (⟨(C.toList.drop (off + i)).take n⟩ : Array Value)) w
  | 0, i, acc, hn => by simp [loadCellsFrom]
  | n + 1, i, acc, hn => by
    have hlt : off + i < C.size := by omega
    have hc : C[off + i]? = some C[off + i] := by simp [hlt]
    simp only [loadCellsFrom, Sem.run_bind, add_at, run_load h hc, Result.andThen_ok]
    rw [run_loadCellsFrom h n (i + 1) _ (by omega)]
    congr 1
    rw [show C.toList.drop (off + i) = C[off + i] :: C.toList.drop (off + (i + 1)) from by rw [List.drop_eq_getElem_cons (by simpa using hlt)]; simp [Nat.add_assoc]]
    apply Array.ext'
    simp
theorem run_loadCells {w : World} {b off : Nat} {C : Array Value} {e : TypeId} {f : Nat × Nat} (h : w.heap[b]? = some (.cells C e f)) (n : Nat) (hn : off + n ≤ C.size) :
    (loadCells ⟨b, off, none⟩ n).run P w = .ok ⟨(C.toList.drop off).take n⟩ w := by
  unfold loadCells
  rw [run_loadCellsFrom h n 0 #[] (by omega)]
  simp

theorem setCell_wset {w : World} {b o : Nat} {C : Array Value} {e : TypeId} {f : Nat × Nat} (h : w.heap[b]? = some (.cells C e f)) (v : Value) :
    w.setCell ⟨b, o, none⟩ v = wset w b (.cells (C.setIfInBounds o v) e f) := by
  unfold World.setCell wset
  congr 1
  apply Array.ext_getElem?
  intro i
  rw [Array.getElem?_modify, Array.getElem?_setIfInBounds]
  by_cases hi : b = i
  · subst hi; simp [h]; exact (Array.getElem?_eq_some_iff.1 h).1
  · simp [hi]
theorem wset_wset (w : World) (b : Nat) (c d : Obj) : wset (wset w b c) b d = wset w b d := by
  unfold wset; simp
theorem run_storeCells {b off : Nat} {e : TypeId} {lo hi : Nat} : ∀ (vs : List Value) (i : Nat) (w : World) (C : Array Value), w.heap[b]? = some (.cells C e (lo, hi)) → off + i + vs.length ≤ C.size →
    (∀ v ∈ vs, isOne v = true) → (∀ j, off + i ≤ j → j < off + i + vs.length → ¬ (lo ≤ j ∧ j < hi)) →
    (storeCells ⟨b, off, none⟩ vs i).run P w = .ok () (wset w b (.cells ⟨over (off + i) vs C.toList⟩ e (lo, hi)))
  | [], i, w, C, h, hn, hv, hf => by
    have hb := (Array.getElem?_eq_some_iff.1 h).1
    have : wset w b (.cells ⟨over (off + i) [] C.toList⟩ e (lo, hi)) = w := by
      have e1 : (⟨over (off + i) [] C.toList⟩ : Array Value) = C := by apply Array.ext'; simp [over]
      rw [e1]
      unfold wset
      congr 1
      apply Array.ext_getElem?
      intro k
      rw [Array.getElem?_setIfInBounds]
      by_cases hk : b = k
      · subst hk; rw [if_pos rfl, if_pos hb, h]
      · rw [if_neg hk]
    rw [this]; rfl
  | v :: vs, i, w, C, h, hn, hv, hf => by
    have hb := (Array.getElem?_eq_some_iff.1 h).1
    have hlt : off + i < C.size := by simp at hn; omega
    have hc : C[off + i]? = some C[off + i] := by simp [hlt]
    have hfz : w.frozen? ⟨b, off + i, none⟩ = false := by
      rw [frozen_at h]
      have := hf (off + i) (Nat.le_refl _) (by simp)
      simpa using fun h1 => Nat.le_of_not_lt fun h2 => this ⟨h1, h2⟩
    have h1 : (store ⟨b, off + i, none⟩ v).run P w = .ok () (wset w b (.cells (C.setIfInBounds (off + i) v) e (lo, hi))) := by
      rw [← setCell_wset h]
      have hone := hv v (by simp)
      cases v <;> simp [isOne] at hone <;> simp [store, Sem.run, cell_at h, hc, hfz]
    have h2 : (wset w b (.cells (C.setIfInBounds (off + i) v) e (lo, hi))).heap[b]? = some (.cells (C.setIfInBounds (off + i) v) e (lo, hi)) := wset_at _ _ _ hb
    have ih := run_storeCells (off := off) vs (i + 1) (wset w b (.cells (C.setIfInBounds (off + i) v) e (lo, hi))) (C.setIfInBounds (off + i) v) h2 (by simp at hn ⊢; omega) (fun u hu => hv u (by simp [hu])) (fun j hj1 hj2 => hf j (by omega) (by rw [List.length_cons]; omega))
    simp only [storeCells, Sem.run_bind, add_at, h1, Result.andThen_ok]
    rw [ih, wset_wset]
    congr 3
    apply Array.ext'
    apply List.ext_getElem?
    intro k
    simp only
    have hl1 : off + (i + 1) + vs.length ≤ (C.setIfInBounds (off + i) v).toList.length := by simp at hn ⊢; omega
    have hl2 : off + i + (v :: vs).length ≤ C.toList.length := by simp at hn ⊢; omega
    rw [over_get _ _ _ hl1, over_get _ _ _ hl2]
    by_cases hk : k = off + i
    · subst hk
      rw [if_neg (by omega), if_pos (by simp)]
      simp [hlt]
    · by_cases hk2 : off + (i + 1) ≤ k ∧ k < off + (i + 1) + vs.length
      · rw [if_pos hk2, if_pos (by simp; omega), show k - (off + i) = (k - (off + (i + 1))) + 1 by omega, List.getElem?_cons_succ]
      · rw [if_neg hk2, if_neg (by simp; omega)]
        simp [List.getElem?_set, Ne.symm hk]
end Go.Abs
set_option linter.unusedVariables false
set_option linter.unusedSimpArgs false
namespace Go.Abs

/-- what a function without a body is -/
def NatFn (P : Program) (fn : Func) : NatK → Prop
  | .ident => Extern.find fn = some Extern.AbiNoEscape.same
  | .noop => ∃ m, Extern.find fn = some (fun _ => do mark m; pure Extern.Race.none_)
  | .mark => ∃ m, Extern.find fn = some (Extern.Race.marked m)
  | .load32 => Extern.find fn = some (Extern.Atomic.loadT (.int .u32))
  | .store32 => Extern.find fn = some Extern.Atomic.storeT
  | .add32 => Extern.find fn = some (Extern.Atomic.update (Op.intArith .add) .i32 true)
  | .cas32 => Extern.find fn = some (Extern.Atomic.casT (.int .i32))
  | .indexByte => Extern.find fn = some Extern.BytealgIndexByte.indexByte
  | .makeNoZero e => ∃ t, Extern.find fn = some (Extern.BytealgMakeNoZero.makeNoZero fn.params #[t]) ∧ P.underlying t = some (.slice e)
def Phi.addA (φ : Phi) (A : Nat) (vs : Nat → Value) : Phi := { φ with atm := fun B => if B = A then some vs else φ.atm B }
theorem Phi.addA_app (φ : Phi) (A : Nat) (vs : Nat → Value) (B : Nat) : (φ.addA A vs).atm B = if B = A then some vs else φ.atm B := rfl
theorem Phi.addA_ext {φ : Phi} {A : Nat} {vs : Nat → Value} (h : φ.atm A = none) : Ext φ (φ.addA A vs) := by
  refine ⟨fun _ _ h => h, fun B x e => ?_⟩
  rw [Phi.addA_app]
  split
  · rename_i hB; subst hB; rw [h] at e; cases e
  · exact e
/-- What the table says of a call holds. -/
def ConOk (E : Env) (c : Con) : Prop := ∀ (φ : Phi) (w : World) (args' : List Value), (∀ A vs, φ.atm A = some vs → (E.post A vs).says (Foreign φ w) w) → φ.atm c.at_ = none → LRel φ c.args args' →
  Calls E.prog c.fn ⟨args'⟩ w fun e w' => ∃ vs v', e = .returned v' ∧ VRel (φ.addA c.at_ vs) c.res v' ∧ (E.post c.at_ vs).says (fun b => Foreign φ w b ∨ (w.heap.size ≤ b ∧ b < w'.heap.size)) w' ∧ RowKit.Below w.heap.size w w'
structure EnvOk (E : Env) : Prop where
  funcs : ∀ f fn, E.funcs.get f = some fn → E.prog.funcs[f]? = some fn
  types : ∀ t i, E.types.get t = some i → E.prog.types[t]? = some i
  nogo : ∀ f fn c, E.funcs.get f = some fn → fn.body = some c → (fn.name == "runtime.NumGoroutine") = false
  nat : ∀ g k fn, natOf g E.nats = some k → E.funcs.get g = some fn → fn.body = none → (fn.name == "runtime.NumGoroutine") = false ∧ Extern.findNext fn = none ∧ NatFn E.prog fn k
  bytes : ∀ t i, E.types.get t = some i → i.bytes ≤ 65536
  mixed : E.prog.follows .mixedOrders = true
  con : ∀ c ∈ E.cons, ConOk E c

section
variable {E : Env} (ok : EnvOk E)
 include ok
theorem EnvOk.info {t : TypeId} {i : TypeInfo} (h : E.types.get t = some i) : E.prog.info? t = some i := by
  have h1 := ok.types t i h
  have h2 := (Array.getElem?_eq_some_iff.1 h1).1
  show (if t < E.prog.types.size then E.prog.types[t]? else _) = _
  rw [if_pos h2, h1]
theorem EnvOk.under {t : TypeId} {d : TypeDesc} (h : E.under t = some d) : E.prog.underlying t = some d := by
  unfold Env.under at h
  cases ht : E.types.get t with
  | none => rw [ht] at h; cases h
  | some i =>
    rw [ht] at h
    simp only at h
    have hi := ok.info ht
    unfold Program.underlying
    rw [hi]
    generalize hdesc : i.desc = de at h
    cases de with
    | named nm u =>
      simp only [descOf] at h
      cases hu : E.types.get u with
      | none => rw [hu] at h; cases h
      | some j =>
        rw [hu] at h; cases h
        obtain ⟨desc, _⟩ := i
        simp only at hdesc
        subst hdesc
        simp only [ok.info hu, Option.map_some]
    | _ =>
      simp only [descOf] at h
      cases h
      obtain ⟨desc, _⟩ := i
      simp only at hdesc
      subst hdesc
      rfl
theorem EnvOk.run_under {t : TypeId} {d : TypeDesc} (h : E.under t = some d) (w : World) : (underlying t).run E.prog w = .ok d w := run_underlying (ok.under h) w
theorem EnvOk.run_info {t : TypeId} {i : TypeInfo} (h : E.types.get t = some i) (w : World) : (typeInfo t).run E.prog w = .ok i w := run_typeInfo w (ok.info h)
theorem EnvOk.run_size {t : TypeId} {n : Nat} (h : E.size t = some n) (w : World) : (sizeOf t).run E.prog w = .ok n w := by
  unfold Env.size at h
  cases ht : E.types.get t with
  | none => rw [ht] at h; cases h
  | some i =>
    rw [ht] at h; cases h
    simp [sizeOf, ok.run_info ht]
theorem EnvOk.run_zero {t : TypeId} {z : Value} (h : E.zero t = some z) (w : World) : (zeroValue t).run E.prog w = .ok z w := by
  unfold Env.zero at h
  cases ht : E.types.get t with
  | none => rw [ht] at h; cases h
  | some i =>
    rw [ht] at h
    simp only at h
    simp [zeroValue, ok.run_info ht, h]
theorem EnvOk.run_isAgg {t : TypeId} {d : TypeDesc} (h : E.under t = some d) (w : World) : (isAgg t).run E.prog w = .ok (isAggD d) w := by
  simp only [isAgg, Sem.run_bind, ok.run_under h, Result.andThen_ok]
  cases d <;> rfl
theorem EnvOk.row {t : TypeId} {b : Bool} {n : Nat} (h : E.row t = some (b, n)) (w : World) : (isAgg t).run E.prog w = .ok b w ∧ (sizeOf t).run E.prog w = .ok n w := by
  unfold Env.row at h
  cases hd : E.under t with
  | none => rw [hd] at h; cases h
  | some d =>
    rw [hd] at h
    simp only at h
    cases hs : E.size t with
    | none => rw [hs] at h; cases h
    | some m =>
      rw [hs] at h; cases h
      exact ⟨ok.run_isAgg hd w, ok.run_size hs w⟩
 omit ok in
theorem EnvOk.field {t : TypeId} {f : Nat} {ft : TypeId} {off : Nat} (h : E.field t f = some (ft, off)) : ∃ fs fd, E.under t = some (.struct fs) ∧ fs[f]? = some fd ∧ fd.type = ft ∧ fd.offset = off := by
  unfold Env.field at h
  cases hd : E.under t with
  | none => rw [hd] at h; cases h
  | some d =>
    rw [hd] at h
    cases d <;> simp only [Option.bind_some, structD] at h <;> first | (cases h; done) | skip
    rename_i fs
    cases hf : fs.toList[f]? with
    | none => rw [hf] at h; cases h
    | some fd =>
      rw [hf] at h; cases h
      exact ⟨fs, fd, rfl, by simpa using hf, rfl, rfl⟩
 omit ok in
theorem EnvOk.elem {t e : TypeId} {n : Nat} (h : E.elem t = some (e, n)) : E.under t = some (.slice e) ∧ E.size e = some n := by
  unfold Env.elem at h
  cases hd : E.under t with
  | none => rw [hd] at h; cases h
  | some d =>
    rw [hd] at h
    cases d <;> simp only [Option.bind_some, sliceD] at h <;> first | (cases h; done) | skip
    rename_i e'
    cases hs : E.size e' with
    | none => rw [hs] at h; cases h
    | some m => rw [hs] at h; cases h; exact ⟨rfl, hs⟩
end

/-! ### Values again -/
theorem allClosed_mem : ∀ (l : List Value), allClosed l = true → ∀ v ∈ l, closedC v = true
  | [], _, v, hv => by simp at hv
  | x :: l, h, v, hv => by
    have e : allClosed (x :: l) = @Bool.rec (fun _ => Bool) false (allClosed l) (closedC x) := rfl
    rw [e, brec] at h
    split at h
    · rename_i hx
      rcases List.mem_cons.1 hv with rfl | hv
      · exact hx
      · exact allClosed_mem l h v hv
    · cases h
theorem VRel.closedC {φ : Phi} {v : Value} (h : closedC v = true) : VRel φ v v := by
  cases v with
  | slice a n c => cases a with
    | none => exact .sliceNil n c
    | some a => cases h
  | pointer a => cases a with
    | none => exact .gr _ rfl
    | some a => cases h
  | map a => cases a with
    | none => exact .gr _ rfl
    | some a => cases h
  | bool b => exact .gr _ rfl
  | int k n => exact .gr _ rfl
  | float k n => exact .gr _ rfl
  | complex k n m => exact .gr _ rfl
  | string s => exact .gr _ rfl
  | nilFunc => exact .gr _ rfl
  | nilIface => exact .gr _ rfl
  | _ => cases h
theorem LRel.closed {φ : Phi} : ∀ (l : List Value), (∀ v ∈ l, Abs.closedC v = true) → LRel φ l l
  | [], _ => .nil
  | v :: l, h => .cons _ _ _ _ (.closedC (h v (by simp))) (LRel.closed l fun u hu => h u (by simp [hu]))
theorem VRel.closedV {φ : Phi} {v : Value} (h : closedV v = true) : VRel φ v v := by
  cases v with
  | slice a n c => cases a with
    | none => exact .sliceNil n c
    | some a => cases h
  | pointer a => cases a with
    | none => exact .gr _ rfl
    | some a => cases h
  | map a => cases a with
    | none => exact .gr _ rfl
    | some a => cases h
  | bool b => exact .gr _ rfl
  | int k n => exact .gr _ rfl
  | float k n => exact .gr _ rfl
  | complex k n m => exact .gr _ rfl
  | string s => exact .gr _ rfl
  | nilFunc => exact .gr _ rfl
  | nilIface => exact .gr _ rfl
  | agg cs => obtain ⟨cs⟩ := cs; exact .agg _ _ (.closed _ (allClosed_mem _ h))
  | _ => cases h
/-- the cells of a value that is known -/
theorem cellsV_some {φ : Phi} {v v' : Value} {cs : List Value} (h : VRel φ v v') (hc : cellsV v = some cs) : ∃ cs', v'.cells = ⟨cs'⟩ ∧ LRel φ cs cs' := by
  cases h with
  | gr v hg => cases v <;> first | (cases hc; exact ⟨_, rfl, .cons _ _ _ _ (.gr _ hg) .nil⟩) | (simp [ground] at hg)
  | agg cs0 cs' hl => cases hc; exact ⟨cs', rfl, hl⟩
  | top => cases hc
  | undef => cases hc
  | str s => cases hc; exact ⟨_, rfl, .cons _ _ _ _ (.str _) .nil⟩
  | atom k vs v h1 h0 h2 =>
    have hc : some [Value.chan (some (k + 2))] = some cs := hc
    cases hc
    exact ⟨[v'], (by cases v' <;> first | rfl | (cases h2; done)), .cons _ _ _ _ (.atom k vs v' h1 h0 h2) .nil⟩
  | tuple => cases hc
  | ptr A off b n hA => cases hc; exact ⟨_, rfl, .cons _ _ _ _ (.ptr _ _ _ _ hA) .nil⟩
  | sliceNil n c => cases hc; exact ⟨_, rfl, .cons _ _ _ _ (.sliceNil _ _) .nil⟩
  | sliceEx A off b n len cap hA => cases hc; exact ⟨_, rfl, .cons _ _ _ _ (.sliceEx _ _ _ _ _ _ hA) .nil⟩
  | sliceIn A off b n es len cap cap' hA h1 h2 => cases hc; exact ⟨_, rfl, .cons _ _ _ _ (.sliceIn _ _ _ _ _ _ _ _ hA h1 h2) .nil⟩
  | ghost a cap => cases hc; exact ⟨_, rfl, .cons _ _ _ _ (.ghost _ _) .nil⟩
  | map A b n hA => cases hc; exact ⟨_, rfl, .cons _ _ _ _ (.map _ _ _ hA) .nil⟩
  | func f as bs as' bs' h1 h2 => cases hc; exact ⟨_, rfl, .cons _ _ _ _ (.func _ _ _ _ _ h1 h2) .nil⟩
  | yield l b n hA => cases hc; exact ⟨_, rfl, .cons _ _ _ _ (.yield _ _ _ hA) .nil⟩

theorem addrOf_some {v : Value} {A off : Nat} (h : addrOf v = some (A, off)) : v = .pointer (some ⟨A, off, none⟩) := by
  cases v with
  | pointer a => cases a with
    | none => cases h
    | some a =>
      obtain ⟨B, o, sp⟩ := a
      cases sp with
      | none => cases h; rfl
      | some s => cases h
  | _ => cases h
theorem VRel.ptr_inv {φ : Phi} {A off : Nat} {v' : Value} (h : VRel φ (.pointer (some ⟨A, off, none⟩)) v') : ∃ b n, φ A = some (b, n) ∧ v' = .pointer (some ⟨b, off, none⟩) := by
  cases h with
  | gr _ hg => cases hg
  | ptr _ _ b n hA => exact ⟨b, n, hA, rfl⟩
theorem intIdx_some {v : Value} {k : Nat} (h : intIdx v = some k) : ∃ kd, v = .int kd (k : Int) := by
  cases v with
  | int kd n => cases n with
    | ofNat m => cases h; exact ⟨kd, rfl⟩
    | negSucc m => cases h
  | _ => cases h
theorem VRel.int_inv {φ : Phi} {k : IntKind} {n : Int} {v' : Value} (h : VRel φ (.int k n) v') : v' = .int k n := h.of_ground rfl
theorem VRel.bool_inv {φ : Phi} {b : Bool} {v' : Value} (h : VRel φ (.bool b) v') : v' = .bool b := h.of_ground rfl

/-! ### The cells of a block -/
theorem cellsO_some {o : AObj} {cs : List Value} (h : cellsO o = some cs) : ∃ e fz ex, o = .cells e cs fz ex := by
  cases o with
  | cells e cs' fz ex => cases h; exact ⟨e, fz, ex, rfl⟩
  | _ => cases h
theorem orec {α β : Type} (n : β) (s : α → β) (x : Option α) : (@Option.rec α (fun _ => β) n s x) = match x with | some a => s a | none => n := by cases x <;> rfl
theorem prec {α β γ : Type} (s : α → β → γ) (p : α × β) : (@Prod.rec α β (fun _ => γ) s p) = s p.1 p.2 := rfl
theorem readCells_some {H : AHeap} {A off n : Nat} {l : List Value} (h : readCells H A off n = some l) : ∃ e cs fz ex, H.get A = some (.cells e cs fz ex) ∧ l = (cs.drop off).take n ∧ off + n ≤ cs.length ∨ n = 0 ∧ l = [] := by
  unfold readCells at h
  rw [orec] at h
  cases hg : H.get A with
  | none => rw [hg] at h; cases h
  | some o =>
    rw [hg] at h
    simp only [orec] at h
    cases hc : cellsO o with
    | none => rw [hc] at h; cases h
    | some cs =>
      rw [hc] at h
      simp only at h
      rw [dropN_eq] at h
      obtain ⟨h1, h2⟩ := takeN_some _ _ _ h
      obtain ⟨e, fz, ex, rfl⟩ := cellsO_some hc
      rw [List.length_drop] at h2
      by_cases hn : n = 0
      · subst hn; exact ⟨e, cs, fz, ex, .inr ⟨rfl, by simpa using h1⟩⟩
      · exact ⟨e, cs, fz, ex, .inl ⟨rfl, h1, by omega⟩⟩
theorem readCell_some {H : AHeap} {A off : Nat} {v : Value} (h : readCell H A off = some v) : ∃ e cs fz ex, H.get A = some (.cells e cs fz ex) ∧ cs[off]? = some v := by
  unfold readCell at h
  rw [orec] at h
  cases hg : H.get A with
  | none => rw [hg] at h; cases h
  | some o =>
    rw [hg] at h
    simp only [orec] at h
    cases hc : cellsO o with
    | none => rw [hc] at h; cases h
    | some cs =>
      rw [hc] at h
      simp only at h
      rw [dropN_eq, headV_eq, List.getElem?_drop] at h
      obtain ⟨e, fz, ex, rfl⟩ := cellsO_some hc
      exact ⟨e, cs, fz, ex, rfl, by simpa using h⟩

/-- content of one block -/
def Block (φ : Phi) (E : Env) (H : AHeap) (w : World) (A : Nat) : Prop := ∀ b n o, φ A = some (b, n) → H.get A = some o → ∃ c, w.heap[b]? = some c ∧ ObjRel φ E n o c
theorem SimL.block {φ : Phi} {E : Env} {H : AHeap} {w : World} (h : SimL φ E H w) (A : Nat) : Block φ E H w A := fun b n o e g => h.has A b n o e g

theorem cells_rel {φ : Phi} {cs : List Value} {C : Array Value} (h : ∀ (i : Nat) (v : Value), cs[i]? = some v → ∃ v' : Value, C[i]? = some v' ∧ VRel φ v v') (off n : Nat) (hn : off + n ≤ cs.length) :
    off + n ≤ C.size ∧ LRel φ ((cs.drop off).take n) ((C.toList.drop off).take n) := by
  have hsz : cs.length ≤ C.size := by
    rcases Nat.lt_or_ge C.size cs.length with h1 | h1
    · obtain ⟨v', h2, _⟩ := h C.size cs[C.size] (by simp [h1])
      simp at h2
    · exact h1
  refine ⟨by omega, LRel.of (by simp; omega) fun i v hv => ?_⟩
  rw [List.getElem?_take] at hv ⊢
  split at hv
  · rename_i hi
    rw [if_pos hi]
    rw [List.getElem?_drop] at hv ⊢
    obtain ⟨v', h1, h2⟩ := h _ v hv
    exact ⟨v', by simpa using h1, h2⟩
  · cases hv

section
variable {φ : Phi} {E : Env} {H : AHeap} {w : World}
theorem run_readCells {A off n b k : Nat} {l : List Value} (h : readCells H A off n = some l) (hB : Block φ E H w A) (hA : φ A = some (b, k)) : ∃ l', (loadCells ⟨b, off, none⟩ n).run E.prog w = .ok ⟨l'⟩ w ∧ LRel φ l l' := by
  obtain ⟨e, cs, fz, ex, ⟨h1, h2, h3⟩ | ⟨rfl, rfl⟩⟩ := readCells_some h
  · obtain ⟨c, hc, C, lo, hi, rfl, hsz, hle, hex, hrel, hfr⟩ := hB b k _ hA h1
    obtain ⟨h4, h5⟩ := cells_rel hrel off n h3
    exact ⟨_, run_loadCells hc n h4, h2 ▸ h5⟩
  · exact ⟨[], rfl, .nil⟩
theorem run_readCell {A off b k : Nat} {v : Value} (h : readCell H A off = some v) (hB : Block φ E H w A) (hA : φ A = some (b, k)) : ∃ v', (load ⟨b, off, none⟩).run E.prog w = .ok v' w ∧ VRel φ v v' := by
  obtain ⟨e, cs, fz, ex, h1, h2⟩ := readCell_some h
  obtain ⟨c, hc, C, lo, hi, rfl, hsz, hle, hex, hrel, hfr⟩ := hB b k _ hA h1
  obtain ⟨v', h3, h4⟩ := hrel off v h2
  exact ⟨v', run_load hc h3, h4⟩
theorem run_aLoad (ok : EnvOk E) {t : TypeId} {p p' v : Value} (h : aLoad E H t p = some v) (hp : VRel φ p p') (hB : ∀ A off, addrOf p = some (A, off) → Block φ E H w A) :
    ∃ v', (Instr.loadAt t p').run E.prog w = .ok v' w ∧ VRel φ v v' := by
  unfold aLoad at h
  rw [orec] at h
  cases ha : addrOf p with
  | none => rw [ha] at h; cases h
  | some q =>
    obtain ⟨A, off⟩ := q
    rw [ha] at h
    simp only at h
    have hBA := hB A off ha
    obtain rfl := addrOf_some ha
    obtain ⟨b, n, hA, rfl⟩ := hp.ptr_inv
    unfold loadRow at h
    rw [orec] at h
    cases hr : E.row t with
    | none => rw [hr] at h; cases h
    | some q =>
      obtain ⟨ag, m⟩ := q
      rw [hr] at h
      obtain ⟨r1, r2⟩ := ok.row hr w
      cases ag with
      | false =>
        have h' : readCell H A off = some v := h
        obtain ⟨v', h1, h2⟩ := run_readCell h' hBA hA
        exact ⟨v', by simp only [Instr.loadAt, Instr.sureAddr, loadVar, Sem.run_bind, Sem.run_pure, Result.andThen_ok, r1, Bool.false_eq_true, if_false]; exact h1, h2⟩
      | true =>
        have h' : aggOf (readCells H A off m) = some v := h
        cases hc : readCells H A off m with
        | none => rw [hc] at h'; cases h'
        | some l =>
          rw [hc] at h'; cases h'
          obtain ⟨l', h1, h2⟩ := run_readCells hc hBA hA
          exact ⟨.agg ⟨l'⟩, by simp only [Instr.loadAt, Instr.sureAddr, loadVar, Sem.run_bind, Sem.run_pure, Result.andThen_ok, r1, r2, h1, if_true], .agg _ _ h2⟩
end
end Go.Abs
