/- A part of the proof of SpliceEqualsUptoSaid (texts: GrTree GrCl). No conditions. -/
import Derived.Test.YtmhkceeiiklfdaaGreatProg
import Derived.Handy
import Derived.Deep.RegionWith
import Derived.Laws.StructEq
import Derived.Deep.Quiet
import Derived.Deep.QuietTactic
import Derived.BigQuiet
import Derived.ArgAppend
import Derived.OwnWalk
set_option linter.unusedVariables false
set_option linter.unusedSimpArgs false
set_option linter.unusedVariables false
set_option linter.unusedSimpArgs false
namespace Go.Proofs.YtmhkceeiiklfdaaGreat
open Go.RowKit

/-! ### Data as trees -/
inductive Lf where
  | int (n : Int)
  | bool (b : Bool)
  | str (s : ByteArray)
def Lf.val : Lf → Value
  | .int n => .int .i64 n
  | .bool b => .bool b
  | .str s => .string s
theorem Lf.val_inj : ∀ {x y : Lf}, x.val = y.val → x = y
  | .int _, .int _, h => by cases h; rfl
  | .bool _, .bool _, h => by cases h; rfl
  | .str _, .str _, h => by cases h; rfl
  | .int _, .bool _, h => by cases h
  | .int _, .str _, h => by cases h
  | .bool _, .int _, h => by cases h
  | .bool _, .str _, h => by cases h
  | .str _, .int _, h => by cases h
  | .str _, .bool _, h => by cases h
/-- a leaf, or a slice: its elements, each as its cells -/
inductive T where
  | lf (x : Lf)
  | sl (es : List (List T))

def Rd (w : World) : Nat → T → Value → Prop
  | _, .lf x, v => v = x.val
  | 0, .sl es, v => False
  | d + 1, .sl es, v => ∃ a cap, v = .slice a es.length cap ∧ es.length ≤ 1048576 ∧ es.length ≤ cap ∧ (es.flatten = [] ∨ ∃ b off C el fr, a = some ⟨b, off, none⟩ ∧ w.heap[b]? = some (.cells C el fr) ∧
      ∀ (i : Nat) (t : T), es.flatten[i]? = some t → ∃ u, C[off + i]? = some u ∧ Rd w d t u)
/-- a row of cells -/
def RdL (w : World) (d : Nat) (ts : List T) (vs : List Value) : Prop := vs.length = ts.length ∧ ∀ (i : Nat) (t : T), ts[i]? = some t → ∃ u, vs[i]? = some u ∧ Rd w d t u

theorem Rd.lf {w : World} {d : Nat} {x : Lf} {v : Value} (h : Rd w d (.lf x) v) : v = x.val := by cases d <;> exact h
theorem Rd.of_lf (w : World) (d : Nat) (x : Lf) : Rd w d (.lf x) x.val := by cases d <;> rfl
theorem Rd.up {w : World} : ∀ {d : Nat} {t : T} {v : Value}, Rd w d t v → Rd w (d + 1) t v
  | _, .lf x, v, h => by have := Rd.lf h; subst this; exact Rd.of_lf ..
  | d + 1, .sl es, v, h => by
    obtain ⟨a, cap, h1, h2, h3, h4⟩ := h
    refine ⟨a, cap, h1, h2, h3, h4.imp id ?_⟩
    rintro ⟨b, off, C, el, fr, h5, h6, h7⟩
    exact ⟨b, off, C, el, fr, h5, h6, fun i t ht => let ⟨u, h8, h9⟩ := h7 i t ht; ⟨u, h8, Rd.up h9⟩⟩
theorem Rd.mono {w : World} {d e : Nat} {t : T} {v : Value} (h : Rd w d t v) (hd : d ≤ e) : Rd w e t v := by
  obtain ⟨k, rfl⟩ : ∃ k, e = d + k := ⟨e - d, by omega⟩
  induction k with
  | zero => exact h
  | succ k ih => exact (ih (by omega)).up
theorem heap_lt {w : World} {b : Nat} {o : Obj} (h : w.heap[b]? = some o) : b < w.heap.size := (Array.getElem?_eq_some_iff.1 h).1
theorem Rd.below {w w' : World} (hb : Below w.heap.size w w') : ∀ {d : Nat} {t : T} {v : Value}, Rd w d t v → Rd w' d t v
  | _, .lf x, v, h => by have := Rd.lf h; subst this; exact Rd.of_lf ..
  | d + 1, .sl es, v, h => by
    obtain ⟨a, cap, h1, h2, h3, h4⟩ := h
    refine ⟨a, cap, h1, h2, h3, h4.imp id ?_⟩
    rintro ⟨b, off, C, el, fr, h5, h6, h7⟩
    exact ⟨b, off, C, el, fr, h5, by rw [hb.block b (heap_lt h6)]; exact h6, fun i t ht => let ⟨u, h8, h9⟩ := h7 i t ht; ⟨u, h8, Rd.below hb h9⟩⟩
theorem RdL.below {w w' : World} (hb : Below w.heap.size w w') {d : Nat} {ts : List T} {vs : List Value} (h : RdL w d ts vs) : RdL w' d ts vs :=
  ⟨h.1, fun i t ht => let ⟨u, h1, h2⟩ := h.2 i t ht; ⟨u, h1, h2.below hb⟩⟩
theorem below_cell {B : Nat} {w W : World} (h : Below B w W) : ∀ (b o : Nat) (s : Option Nat), b < B → W.cell? ⟨b, o, s⟩ = w.cell? ⟨b, o, s⟩ := fun b o s hb => h.cell (p := ⟨b, o, s⟩) hb
theorem below_frozen {B : Nat} {w W : World} (h : Below B w W) : ∀ (b o : Nat) (s : Option Nat), b < B → W.frozen? ⟨b, o, s⟩ = w.frozen? ⟨b, o, s⟩ := fun b o s hb => h.frozen (p := ⟨b, o, s⟩) hb

theorem below_drewN {B : Nat} {a w : World} (h : Below B a w) {n : Nat} : Below B a (w.drewN n) := ⟨h.os, h.tape, h.output, h.size, h.block⟩
/-- n elements, each of sz cells -/
def Chunks (sz : Nat) (es : List (List T)) : Prop := ∀ c ∈ es, c.length = sz
theorem flat_get {sz : Nat} : ∀ {es : List (List T)}, Chunks sz es → ∀ (i j : Nat) (c : List T) (t : T), es[i]? = some c → c[j]? = some t → es.flatten[i * sz + j]? = some t
  | [], _, i, j, c, t, h, _ => by simp at h
  | x :: r, hc, 0, j, c, t, h, ht => by
    simp at h; subst h
    rw [List.flatten_cons, Nat.zero_mul, Nat.zero_add, List.getElem?_append_left (List.getElem?_eq_some_iff.1 ht).1]
    exact ht
  | x :: r, hc, i + 1, j, c, t, h, ht => by
    have hx := hc x (by simp)
    rw [List.flatten_cons, List.getElem?_append_right (by rw [hx, Nat.add_mul]; omega), hx]
    have e : (i + 1) * sz + j - sz = i * sz + j := by rw [Nat.add_mul]; omega
    rw [e]
    exact flat_get (fun c hc' => hc c (by simp [hc'])) i j c t (by simpa using h) ht
/-- what a walk reads of a slice -/
theorem Rd.elems {w : World} {d sz : Nat} {es : List (List T)} {v : Value} (h : Rd w d (.sl es) v) (hc : Chunks sz es) (hsz : 0 < sz) : ∃ a cap, v = .slice a es.length cap ∧ es.length ≤ 1048576 ∧ es.length ≤ cap ∧
    (0 < es.length → ∃ b off, b < w.heap.size ∧ a = some ⟨b, off, none⟩ ∧ ∀ (i j : Nat) (c : List T) (t : T), es[i]? = some c → c[j]? = some t → ∃ u, w.cell? ⟨b, off + (i * sz + j), none⟩ = some u ∧ Rd w (d - 1) t u) := by
  cases d with
  | zero => exact h.elim
  | succ d =>
    obtain ⟨a, cap, h1, h2, h3, h4⟩ := h
    refine ⟨a, cap, h1, h2, h3, fun hpos => ?_⟩
    rcases h4 with h4 | ⟨b, off, C, el, fr, h5, h6, h7⟩
    · exfalso
      cases es with
      | nil => simp at hpos
      | cons c r =>
        have hx := hc c (by simp)
        have := congrArg List.length h4
        rw [List.flatten_cons, List.length_append, hx] at this
        simp at this
        omega
    · refine ⟨b, off, heap_lt h6, h5, fun i j c t hi hj => ?_⟩
      obtain ⟨u, h8, h9⟩ := h7 _ t (flat_get hc i j c t hi hj)
      exact ⟨u, by simp [World.cell?, h6, h8], h9⟩
/-- a row of cells, by their places -/
def RowOk (w : World) (d : Nat) (c : List T) (u : Nat → Value) : Prop := ∀ (j : Nat) (t : T), c[j]? = some t → Rd w d t (u j)
theorem RowOk.below {w w' : World} (hb : Below w.heap.size w w') {d : Nat} {c : List T} {u : Nat → Value} (h : RowOk w d c u) : RowOk w' d c u := fun j t ht => (h j t ht).below hb
theorem Rd.one {w : World} : ∀ {d : Nat} {t : T} {v : Value}, Rd w d t v → v.oneCell' = true
  | d, .lf x, v, h => by have := h.lf; subst this; cases x <;> rfl
  | 0, .sl es, v, h => h.elim
  | d + 1, .sl es, v, h => by obtain ⟨a, cap, rfl, _⟩ := h; rfl
theorem Rd.rows {w : World} {d sz : Nat} {es : List (List T)} {v : Value} (h : Rd w d (.sl es) v) (hc : Chunks sz es) (hsz : 0 < sz) : ∃ a cap, v = .slice a es.length cap ∧ es.length ≤ 1048576 ∧ es.length ≤ cap ∧
    (0 < es.length → ∃ b off, b < w.heap.size ∧ a = some ⟨b, off, none⟩ ∧ ∃ U : Nat → Nat → Value, (∀ i j, i < es.length → j < sz → w.cell? ⟨b, off + i * sz + j, none⟩ = some (U i j)) ∧ (∀ i, i < es.length → RowOk w (d - 1) (es.getD i []) (U i)) ∧ ∀ i j, (U i j).oneCell' = true) := by
  obtain ⟨a, cap, h1, h2, h3, h4⟩ := h.elems hc hsz
  refine ⟨a, cap, h1, h2, h3, fun hp => ?_⟩
  obtain ⟨b, off, h5, h6, h7⟩ := h4 hp
  have key : ∀ (i j : Nat) (t : T), i < es.length → (es.getD i [])[j]? = some t → ∃ u, w.cell? ⟨b, off + i * sz + j, none⟩ = some u ∧ Rd w (d - 1) t u := by
    intro i j t hi ht
    have hi' : es[i]? = some (es.getD i []) := by simp [List.getD, hi]
    obtain ⟨u, h8, h9⟩ := h7 i j _ _ hi' ht
    rw [← Nat.add_assoc] at h8
    exact ⟨u, h8, h9⟩
  refine ⟨b, off, h5, h6, fun i j => if ((w.cell? ⟨b, off + i * sz + j, none⟩).getD .nilFunc).oneCell' then (w.cell? ⟨b, off + i * sz + j, none⟩).getD .nilFunc else .nilFunc, fun i j hi hj => ?_, fun i hi j t ht => ?_, fun i j => ?_⟩
  · have hi' : es[i]? = some (es.getD i []) := by simp [List.getD, hi]
    have hl : (es.getD i []).length = sz := hc _ (List.mem_of_getElem? hi')
    obtain ⟨u, h8, h9⟩ := key i j _ hi (List.getElem?_eq_getElem (by omega))
    simp only [h8, Option.getD_some, h9.one, if_true]
  · obtain ⟨u, h8, h9⟩ := key i j t hi ht
    simp only [h8, Option.getD_some, h9.one, if_true]
    exact h9
  · simp only
    split
    · assumption
    · rfl
/-- the number, the string, the bit in a cell -/
def ci (c : List T) (j : Nat) : Int := match c[j]? with | some (.lf (.int n)) => n | _ => 0
def cs (c : List T) (j : Nat) : ByteArray := match c[j]? with | some (.lf (.str n)) => n | _ => ByteArray.empty
def cb (c : List T) (j : Nat) : Bool := match c[j]? with | some (.lf (.bool n)) => n | _ => false
/-- the elements of the slice in a cell -/
def ct (c : List T) (j : Nat) : List (List T) := match c[j]? with | some (.sl es) => es | _ => []
theorem take_step {es fs : List (List T)} {k : Nat} (h1 : k < es.length) (h2 : k < fs.length) (h : es.take k = fs.take k) (he : es.getD k [] = fs.getD k []) : es.take (k + 1) = fs.take (k + 1) := by
  rw [List.take_succ_eq_append_getElem h1, List.take_succ_eq_append_getElem h2, h]
  simp only [List.getD, List.getElem?_eq_getElem h1, List.getElem?_eq_getElem h2, Option.getD_some] at he
  rw [he]
theorem getD_mem {es : List (List T)} {k : Nat} (h : k < es.length) : es.getD k [] ∈ es := by
  simp [List.getD, List.getElem?_eq_getElem h]
theorem struct_of {t : TypeId} {fs : Array Field} (h : Tryz.prog.underlying t = some (.struct fs)) : Tryz.prog.underlying t = some (.struct (Tryz.prog.fieldsOf t)) := by
  rw [h]; unfold Program.fieldsOf; rw [h]
theorem fields_of {t : TypeId} {fs : Array Field} (h : Tryz.prog.underlying t = some (.struct fs)) : Tryz.prog.fieldsOf t = fs := by
  unfold Program.fieldsOf; rw [h]
theorem bytes_eq {a b : ByteArray} : a.toList = b.toList ↔ a = b := by
  refine ⟨fun h => ?_, fun h => by rw [h]⟩
  rw [ByteArray.toList_eq, ByteArray.toList_eq] at h
  cases a; cases b
  simp at h
  rw [h]
/-- an equality of two slices -/
def EqC (f : FuncId) (P : List T → Prop) : Prop := ∀ (w : World) (d d' : Nat) (es fs : List (List T)) (v v' : Value), Rd w d (.sl es) v → Rd w d' (.sl fs) v' → (∀ c ∈ es, P c) → (∀ c ∈ fs, P c) →
    Calls Tryz.prog f #[v, v'] w fun e w' => ∃ r : Bool, e = .returned (.bool r) ∧ (r = true ↔ es = fs) ∧ Below w.heap.size w w'
/-- a comparison of two slices by a function -/
def EqC3 (f g : FuncId) (P : List T → Prop) : Prop := ∀ (w : World) (d d' : Nat) (es fs : List (List T)) (v v' : Value), Rd w d (.sl es) v → Rd w d' (.sl fs) v' → (∀ c ∈ es, P c) → (∀ c ∈ fs, P c) →
    Calls Tryz.prog f #[v, v', .func (.func g) #[] #[]] w fun e w' => ∃ r : Bool, e = .returned (.bool r) ∧ (r = true ↔ es = fs) ∧ Below w.heap.size w w'
/-- an equality of two structs -/
def EqV (f : FuncId) (P : List T → Prop) : Prop := ∀ (w : World) (d d' : Nat) (c c' : List T) (us vs : List Value), RdL w d c us → RdL w d' c' vs → P c → P c' →
    Calls Tryz.prog f #[.agg us.toArray, .agg vs.toArray] w fun e w' => ∃ r : Bool, e = .returned (.bool r) ∧ (r = true ↔ c = c') ∧ Below w.heap.size w w'
theorem RdL.cons {w : World} {d : Nat} {t : T} {ts : List T} {vs : List Value} (h : RdL w d (t :: ts) vs) : ∃ v vs', vs = v :: vs' ∧ Rd w d t v ∧ RdL w d ts vs' := by
  obtain ⟨hl, h⟩ := h
  cases vs with
  | nil => simp at hl
  | cons v vs =>
    refine ⟨v, vs, rfl, ?_, by simpa using hl, fun i s hs => by simpa using h (i + 1) s (by simpa using hs)⟩
    obtain ⟨u, h1, h2⟩ := h 0 t (by simp)
    simp at h1; subst h1; exact h2
theorem RdL.nil {w : World} {d : Nat} {vs : List Value} (h : RdL w d [] vs) : vs = [] := List.eq_nil_of_length_eq_zero h.1
theorem RdL.mk_nil {w : World} {d : Nat} : RdL w d [] [] := ⟨rfl, fun i t h => by simp at h⟩
theorem RdL.mk_cons {w : World} {d : Nat} {t : T} {ts : List T} {v : Value} {vs : List Value} (h : Rd w d t v) (hs : RdL w d ts vs) : RdL w d (t :: ts) (v :: vs) := by
  refine ⟨by simp [hs.1], fun i s hi => ?_⟩
  cases i with
  | zero => simp at hi; subst hi; exact ⟨v, rfl, h⟩
  | succ i => simpa using hs.2 i s (by simpa using hi)
theorem RowOk.rdl {w : World} {d n : Nat} {c : List T} {u : Nat → Value} (h : RowOk w d c u) (hl : c.length = n) : RdL w d c ((List.range n).map u) := by
  refine ⟨by simp [hl], fun i t hi => ⟨u i, ?_, h i t hi⟩⟩
  have := (List.getElem?_eq_some_iff.1 hi).1
  simp [List.getElem?_map, List.getElem?_range (by omega : i < n)]
/-- the comparisons as a walk takes them: the answer is fixed -/
def EqFn (f : FuncId) (a b : Value) (r : Bool) (w : World) : Prop := ∀ W, Below w.heap.size w W → Calls Tryz.prog f #[a, b] W fun e W' => e = .returned (.bool r) ∧ Below W.heap.size W W'
def EqFn3 (f g : FuncId) (a b : Value) (r : Bool) (w : World) : Prop := ∀ W, Below w.heap.size w W → Calls Tryz.prog f #[a, b, .func (.func g) #[] #[]] W fun e W' => e = .returned (.bool r) ∧ Below W.heap.size W W'
open Classical in
theorem EqC.fn {f : FuncId} {P : List T → Prop} (h : EqC f P) {w : World} {d d' : Nat} {es fs : List (List T)} {v v' : Value} (he : Rd w d (.sl es) v) (hf : Rd w d' (.sl fs) v') (pe : ∀ c ∈ es, P c) (pf : ∀ c ∈ fs, P c) : EqFn f v v' (decide (es = fs)) w := fun W hW => by
  refine (h W d d' es fs v v' (he.below hW) (hf.below hW) pe pf).mono ?_
  rintro e W' ⟨r, rfl, hr, hb⟩
  refine ⟨?_, hb⟩
  have : r = decide (es = fs) := by rw [Bool.eq_iff_iff]; simpa using hr
  rw [this]
open Classical in
theorem EqC3.fn {f g : FuncId} {P : List T → Prop} (h : EqC3 f g P) {w : World} {d d' : Nat} {es fs : List (List T)} {v v' : Value} (he : Rd w d (.sl es) v) (hf : Rd w d' (.sl fs) v') (pe : ∀ c ∈ es, P c) (pf : ∀ c ∈ fs, P c) : EqFn3 f g v v' (decide (es = fs)) w := fun W hW => by
  refine (h W d d' es fs v v' (he.below hW) (hf.below hW) pe pf).mono ?_
  rintro e W' ⟨r, rfl, hr, hb⟩
  refine ⟨?_, hb⟩
  have : r = decide (es = fs) := by rw [Bool.eq_iff_iff]; simpa using hr
  rw [this]
open Classical in
theorem EqV.fn {f : FuncId} {P : List T → Prop} (h : EqV f P) {w : World} {d d' : Nat} {c c' : List T} {us vs : List Value} (he : RdL w d c us) (hf : RdL w d' c' vs) (pe : P c) (pf : P c') : EqFn f (.agg us.toArray) (.agg vs.toArray) (decide (c = c')) w := fun W hW => by
  refine (h W d d' c c' us vs (he.below hW) (hf.below hW) pe pf).mono ?_
  rintro e W' ⟨r, rfl, hr, hb⟩
  refine ⟨?_, hb⟩
  have : r = decide (c = c') := by rw [Bool.eq_iff_iff]; simpa using hr
  rw [this]
end Go.Proofs.YtmhkceeiiklfdaaGreat
set_option linter.unusedVariables false
set_option linter.unusedSimpArgs false
namespace Go.Proofs.YtmhkceeiiklfdaaGreat
open Go.RowKit
/-- a reading whose blocks lie in S -/
def RdA (S : Nat → Prop) (w : World) : Nat → T → Value → Prop
  | _, .lf x, v => v = x.val
  | 0, .sl es, v => False
  | d + 1, .sl es, v => ∃ a cap, v = .slice a es.length cap ∧ es.length ≤ 1048576 ∧ es.length ≤ cap ∧ (es.flatten = [] ∨ ∃ b off C el fr, S b ∧ a = some ⟨b, off, none⟩ ∧ w.heap[b]? = some (.cells C el fr) ∧
      ∀ (i : Nat) (t : T), es.flatten[i]? = some t → ∃ u, C[off + i]? = some u ∧ RdA S w d t u)
def RdAL (S : Nat → Prop) (w : World) (d : Nat) (ts : List T) (vs : List Value) : Prop := vs.length = ts.length ∧ ∀ (i : Nat) (t : T), ts[i]? = some t → ∃ u, vs[i]? = some u ∧ RdA S w d t u
theorem RdA.lf {S : Nat → Prop} {w : World} {d : Nat} {x : Lf} {v : Value} (h : RdA S w d (.lf x) v) : v = x.val := by cases d <;> exact h
theorem RdA.of_lf (S : Nat → Prop) (w : World) (d : Nat) (x : Lf) : RdA S w d (.lf x) x.val := by cases d <;> rfl
theorem RdA.rd {S : Nat → Prop} {w : World} : ∀ {d : Nat} {t : T} {v : Value}, RdA S w d t v → Rd w d t v
  | d, .lf x, v, h => by have := h.lf; subst this; exact Rd.of_lf ..
  | d + 1, .sl es, v, h => by
    obtain ⟨a, cap, h1, h2, h3, h4⟩ := h
    refine ⟨a, cap, h1, h2, h3, h4.imp id ?_⟩
    rintro ⟨b, off, C, el, fr, hs, h5, h6, h7⟩
    exact ⟨b, off, C, el, fr, h5, h6, fun i t ht => let ⟨u, h8, h9⟩ := h7 i t ht; ⟨u, h8, h9.rd⟩⟩
theorem Rd.rdA {w : World} : ∀ {d : Nat} {t : T} {v : Value}, Rd w d t v → RdA (fun b => b < w.heap.size) w d t v
  | d, .lf x, v, h => by have := h.lf; subst this; exact RdA.of_lf ..
  | d + 1, .sl es, v, h => by
    obtain ⟨a, cap, h1, h2, h3, h4⟩ := h
    refine ⟨a, cap, h1, h2, h3, h4.imp id ?_⟩
    rintro ⟨b, off, C, el, fr, h5, h6, h7⟩
    exact ⟨b, off, C, el, fr, heap_lt h6, h5, h6, fun i t ht => let ⟨u, h8, h9⟩ := h7 i t ht; ⟨u, h8, h9.rdA⟩⟩
theorem RdA.frame {S S' : Nat → Prop} {w w' : World} (hS : ∀ b, S b → S' b) (hw : ∀ b, S b → w'.heap[b]? = w.heap[b]?) : ∀ {d : Nat} {t : T} {v : Value}, RdA S w d t v → RdA S' w' d t v
  | d, .lf x, v, h => by have := h.lf; subst this; exact RdA.of_lf ..
  | d + 1, .sl es, v, h => by
    obtain ⟨a, cap, h1, h2, h3, h4⟩ := h
    refine ⟨a, cap, h1, h2, h3, h4.imp id ?_⟩
    rintro ⟨b, off, C, el, fr, hs, h5, h6, h7⟩
    exact ⟨b, off, C, el, fr, hS b hs, h5, by rw [hw b hs]; exact h6, fun i t ht => let ⟨u, h8, h9⟩ := h7 i t ht; ⟨u, h8, h9.frame hS hw⟩⟩
theorem RdAL.frame {S S' : Nat → Prop} {w w' : World} (hS : ∀ b, S b → S' b) (hw : ∀ b, S b → w'.heap[b]? = w.heap[b]?) {d : Nat} {ts : List T} {vs : List Value} (h : RdAL S w d ts vs) : RdAL S' w' d ts vs :=
  ⟨h.1, fun i t ht => let ⟨u, h1, h2⟩ := h.2 i t ht; ⟨u, h1, h2.frame hS hw⟩⟩
theorem RdAL.rd {S : Nat → Prop} {w : World} {d : Nat} {ts : List T} {vs : List Value} (h : RdAL S w d ts vs) : RdL w d ts vs :=
  ⟨h.1, fun i t ht => let ⟨u, h1, h2⟩ := h.2 i t ht; ⟨u, h1, h2.rd⟩⟩
theorem RdA.one {S : Nat → Prop} {w : World} {d : Nat} {t : T} {v : Value} (h : RdA S w d t v) : v.oneCell' = true := h.rd.one
theorem RdAL.mk_nil {S : Nat → Prop} {w : World} {d : Nat} : RdAL S w d [] [] := ⟨rfl, fun i t h => by simp at h⟩
theorem RdAL.mk_cons {S : Nat → Prop} {w : World} {d : Nat} {t : T} {ts : List T} {v : Value} {vs : List Value} (h : RdA S w d t v) (hs : RdAL S w d ts vs) : RdAL S w d (t :: ts) (v :: vs) := by
  refine ⟨by simp [hs.1], fun i s hi => ?_⟩
  cases i with
  | zero => simp at hi; subst hi; exact ⟨v, rfl, h⟩
  | succ i => simpa using hs.2 i s (by simpa using hi)
theorem RdAL.append {S : Nat → Prop} {w : World} {d : Nat} {ts ts' : List T} {vs vs' : List Value} (h : RdAL S w d ts vs) (h' : RdAL S w d ts' vs') : RdAL S w d (ts ++ ts') (vs ++ vs') := by
  refine ⟨by simp [h.1, h'.1], fun i t hi => ?_⟩
  by_cases hlt : i < ts.length
  · rw [List.getElem?_append_left hlt] at hi
    rw [List.getElem?_append_left (by rw [h.1]; exact hlt)]
    exact h.2 i t hi
  · rw [List.getElem?_append_right (by omega)] at hi
    rw [List.getElem?_append_right (by rw [h.1]; omega), h.1]
    exact h'.2 _ t hi
theorem RdAL.ones {S : Nat → Prop} {w : World} {d : Nat} {ts : List T} {vs : List Value} (h : RdAL S w d ts vs) : ∀ u ∈ vs, u.oneCell' = true := by
  intro u hu
  obtain ⟨i, hi⟩ := List.getElem?_of_mem hu
  have hl : i < ts.length := by have := (List.getElem?_eq_some_iff.1 hi).1; rw [h.1] at this; exact this
  obtain ⟨u', h1, h2⟩ := h.2 i _ (List.getElem?_eq_getElem hl)
  rw [hi] at h1; cases h1
  exact h2.one
/-- an own row holds a tree -/
theorem own_rd {S S' : Nat → Prop} {w : World} {B e sz d : Nat} {v : Value} {es : List (List T)} {xs : List Value} (h : w.ownsRow B e sz v es.length xs) (hn : es.length ≤ 1048576) (hr : RdAL S w d es.flatten xs) (hS : ∀ b, S b → S' b) (hv : ∀ g, v.ownBlock = some g → S' g) : RdA S' w (d + 1) (.sl es) v := by
  obtain ⟨h1, h2 | ⟨g, cap, cur, rfl, h3, h4, h5, h6, h7, h8⟩⟩ := h
  · obtain ⟨rfl, h2⟩ := h2
    have : es = [] := List.eq_nil_of_length_eq_zero h2
    subst this
    exact ⟨none, 0, rfl, Nat.zero_le _, Nat.zero_le _, Or.inl rfl⟩
  · refine ⟨_, cap, rfl, hn, h5, Or.inr ⟨g, 0, cur, e, _, hv g rfl, rfl, h4, fun i t ht => ?_⟩⟩
    obtain ⟨u, h9, h10⟩ := hr.2 i t ht
    refine ⟨u, ?_, h10.frame hS (fun _ _ => rfl)⟩
    rw [← h8, List.getElem?_take] at h9
    split at h9
    · simpa using h9
    · cases h9
theorem own_lt {w : World} {B e sz n : Nat} {v : Value} {xs : List Value} (h : w.ownsRow B e sz v n xs) : ∀ g, v.ownBlock = some g → B ≤ g ∧ g < w.heap.size := by
  obtain ⟨h1, h2 | ⟨g, cap, cur, rfl, h3, h4, _⟩⟩ := h
  · intro g hg; rw [h2.1] at hg; cases hg
  · intro g' hg; cases hg; exact ⟨h3, heap_lt h4⟩
/-- append on an own row: the same block, or a new one -/
theorem append_two {P : Program} (w : World) {ops : Array Oper} {rest : List Oper} {o : Oper} {a : Act} {Q : Exit → Act → World → Prop} (hgd : o.guard = none) (s x : Operand) (t : TypeId)
    (ho : o.op = .call { callee := .builtin .append, args := #[s, x], argTypes := #[t, t] })
    (base : Nat) (e : TypeId) (i : TypeInfo) (z : Value) (size bytes : Nat) (ht : P.underlying t = some (.slice e)) (hi : P.info? e = some i) (hz : i.zero = some z)
    (hsize : i.size = size) (hby : i.bytes = bytes) (hzs : z.cells.size = size) (hsz : 0 < size)
    (v : Value) (n : Nat) (xs : List Value) (hs : a.eval s = v) (hown : w.ownsRow base e size v n xs)
    (ad : Addr) (m c : Nat) (news : List Value) (hx : a.eval x = .slice (some ad) m c) (hl : news.length = m * size) (hnews : ∀ j u, news[j]? = some u → w.cell? (ad.add j) = some u) (h1 : ∀ u ∈ news, u.oneCell' = true)
    (h63 : n + m ≤ maxLen) (hbytes : (n + m) * bytes ≤ 140737488355328) (hbase : base ≤ w.heap.size)
    (h : ∀ v' w', w'.ownsRow base e size v' (n + m) (xs ++ news) → w.grownBy w' v.ownBlock → (v'.ownBlock = v.ownBlock ∨ ∃ g, v'.ownBlock = some g ∧ w.heap.size ≤ g) → wpList P ops Q rest (a.put o.dst v') w') : wpList P ops Q (o :: rest) a w := by
  have widen : ∀ {w' : World} {v' : Value} {n' : Nat} {xs' : List Value}, w'.ownsRow w.heap.size e size v' n' xs' → w'.ownsRow base e size v' n' xs' := by
    rintro w' v' n' xs' ⟨h2, h3 | ⟨g, cap, cur, h3, h4, h5⟩⟩
    · exact ⟨h2, Or.inl h3⟩
    · exact ⟨h2, Or.inr ⟨g, cap, cur, h3, by omega, h5⟩⟩
  have fresh : ∀ {w' : World} {v' : Value} {n' : Nat} {xs' : List Value}, w'.ownsRow w.heap.size e size v' n' xs' → v'.ownBlock = none ∨ ∃ g, v'.ownBlock = some g ∧ w.heap.size ≤ g := by
    rintro w' v' n' xs' ⟨h2, h3 | ⟨g, cap, cur, h3, h4, h5⟩⟩
    · rw [h3.1]; exact Or.inl rfl
    · rw [h3]; exact Or.inr ⟨g, rfl, h4⟩
  have hown0 := hown
  obtain ⟨g1, g2 | ⟨g, cap, cur, g3, g4, g5, g6, g7, g8, g9⟩⟩ := hown
  · obtain ⟨rfl, rfl⟩ := g2
    have hxs : xs = [] := List.eq_nil_of_length_eq_zero (by simpa using g1)
    subst hxs
    refine wpList_append_own w hgd s x t ho w.heap.size e i z size bytes ht hi hz hsize hby hzs hsz _ 0 [] hs (World.ownsRow_nil w _ e size) ad m c news hx hl hnews h1 h63 hbytes (Nat.le_refl _) ?_
    intro v' w' h2 h3 h4
    refine h v' w' (widen h2) h3 ?_
    rcases fresh h2 with h5 | h5
    · exact Or.inl h5
    · exact Or.inr h5
  · subst g3
    by_cases hroom : n + m ≤ cap
    · refine wpList_append_fits w hgd s x t ho base e i size ht hi hsize g n cap xs hs hown0 ad m c news hx hl hnews h1 hroom ?_
      intro w' h2 h3
      exact h _ w' h2 h3 (Or.inl rfl)
    · refine wpList_append_grows w hgd s x t ho e i z size bytes ht hi hz hsize hby hzs hsz (some ⟨g, 0, none⟩) n cap xs hs (by simp) g1 ?_ ad m c news hx hl hnews h1 (by omega) h63 hbytes ?_
      · intro b hb j u hj
        cases hb
        rw [Addr.add_lit]
        rw [← g9, List.getElem?_take] at hj
        split at hj
        · simp [World.cell?, g5, Nat.zero_add]; simpa using hj
        · cases hj
      · intro v' w' h2 h3
        refine h v' w' (widen h2) ⟨h3.os, h3.tape, h3.output, h3.size, fun k hk _ => h3.block k hk (by simp)⟩ ?_
        rcases fresh h2 with h5 | h5
        · exfalso
          obtain ⟨q1, q2 | ⟨g', cap', cur', q3, _⟩⟩ := h2
          · obtain ⟨_, q2⟩ := q2
            omega
          · rw [q3] at h5; cases h5
        · exact Or.inr h5
/-- the cells of all rows in one list -/
theorem rows_list {w : World} {b off d sz : Nat} : ∀ {es : List (List T)} {U : Nat → Nat → Value}, Chunks sz es → (∀ i j, i < es.length → j < sz → w.cell? ⟨b, off + i * sz + j, none⟩ = some (U i j)) → (∀ i, i < es.length → RowOk w d (es.getD i []) (U i)) → (∀ i j, (U i j).oneCell' = true) →
    ∃ xs : List Value, xs.length = es.length * sz ∧ (∀ j u, xs[j]? = some u → w.cell? ⟨b, off + j, none⟩ = some u) ∧ (∀ u ∈ xs, u.oneCell' = true) ∧ ∀ w', Below w.heap.size w w' → RdAL (fun b => b < w.heap.size) w' d es.flatten xs := by
  intro es
  induction es generalizing off with
  | nil => intro U _ _ _ _; exact ⟨[], by simp, (by intro j u h; simp at h), (by intro u h; cases h), fun w' _ => RdAL.mk_nil⟩
  | cons c r ih =>
    intro U hch hc hr ho
    have hcl : c.length = sz := hch c (by simp)
    obtain ⟨xs, h1, h2, h3, h4⟩ := ih (off := off + sz) (U := fun i j => U (i + 1) j) (fun x hx => hch x (by simp [hx]))
      (fun i j hi hj => by have := hc (i + 1) j (by simpa using hi) hj; rw [Nat.add_mul, Nat.one_mul] at this; rw [← this]; congr 2; omega)
      (fun i hi => by simpa using hr (i + 1) (by simpa using hi)) (fun i j => ho (i + 1) j)
    refine ⟨(List.range sz).map (U 0) ++ xs, ?_, ?_, ?_, ?_⟩
    · simp [h1, Nat.add_mul]; omega
    · intro j u hj
      by_cases hlt : j < sz
      · rw [List.getElem?_append_left (by simpa using hlt)] at hj
        have := hc 0 j (by simp) hlt
        simp only [Nat.zero_mul, Nat.add_zero] at this
        rw [this]
        simpa [List.getElem?_map, List.getElem?_range hlt] using hj
      · rw [List.getElem?_append_right (by simpa using Nat.le_of_not_lt hlt)] at hj
        simp only [List.length_map, List.length_range] at hj
        have := h2 _ u hj
        rw [← this]; congr 2; omega
    · intro u hu
      rcases List.mem_append.1 hu with hu | hu
      · obtain ⟨j, _, rfl⟩ := List.mem_map.1 hu; exact ho 0 j
      · exact h3 u hu
    · intro w' hb
      rw [List.flatten_cons]
      refine RdAL.append ?_ (h4 w' hb)
      refine ⟨by simp [hcl], fun i t hi => ⟨U 0 i, ?_, ?_⟩⟩
      · have := (List.getElem?_eq_some_iff.1 hi).1
        simp [List.getElem?_map, List.getElem?_range (by omega : i < sz)]
      · exact ((hr 0 (by simp)) i t (by simpa using hi)).rdA.frame (fun _ h => h) (fun k hk => hb.block k hk)
/-- slices.Clone: a new row with the old cells -/
def ClC (f : FuncId) (st et : TypeId) (sz : Nat) (P : List T → Prop) : Prop := ∀ (w : World) (d : Nat) (es : List (List T)) (v : Value), Rd w d (.sl es) v → (∀ c ∈ es, P c) →
    Calls Tryz.prog f #[v] w fun e w' => ∃ v' xs, e = .returned v' ∧ w'.ownsRow w.heap.size et sz v' es.length xs ∧ RdAL (fun b => b < w.heap.size) w' (d - 1) es.flatten xs ∧ Below w.heap.size w w'
theorem RdAL.leaf {S S' : Nat → Prop} {w w' : World} {d d' : Nat} {ts : List T} {vs : List Value} (h : RdAL S w d ts vs) (hl : ∀ t ∈ ts, ∃ x, t = .lf x) : RdAL S' w' d' ts vs :=
  ⟨h.1, fun i t ht => by
    obtain ⟨u, h1, h2⟩ := h.2 i t ht
    obtain ⟨x, rfl⟩ := hl t (List.mem_of_getElem? ht)
    have := h2.lf; subst this
    exact ⟨_, h1, RdA.of_lf ..⟩⟩
theorem own_frame {w w' : World} {B e sz n : Nat} {v : Value} {xs : List Value} (h : w.ownsRow B e sz v n xs) (hw : ∀ b, v.ownBlock = some b → w'.heap[b]? = w.heap[b]?) : w'.ownsRow B e sz v n xs := by
  obtain ⟨h1, h2 | ⟨g, cap, cur, rfl, h3, h4, h5⟩⟩ := h
  · exact ⟨h1, Or.inl h2⟩
  · exact ⟨h1, Or.inr ⟨g, cap, cur, rfl, h3, by rw [hw g rfl]; exact h4, h5⟩⟩
theorem own_below {w w' : World} {B e sz n : Nat} {v : Value} {xs : List Value} (h : w.ownsRow B e sz v n xs) (hw : Below w.heap.size w w') : w'.ownsRow B e sz v n xs :=
  own_frame h fun b hb => hw.block b (own_lt h b hb).2
theorem cell_new (w : World) (us : List Value) (e : TypeId) {j : Nat} {u : Value} (h : us[j]? = some u) : (w.alloc (.cells us.toArray e)).cell? ((⟨w.heap.size, 0, none⟩ : Addr).add j) = some u := by
  rw [Addr.add_lit]
  have hb : (w.alloc (.cells us.toArray e)).heap[w.heap.size]? = some (.cells us.toArray e) := by show (w.heap.push _)[w.heap.size]? = _; simp
  unfold World.cell?
  simp only [hb]
  simpa using h
/-- a struct's copy -/
def ClV (f : FuncId) (P : List T → Prop) : Prop := ∀ (w : World) (d : Nat) (c : List T) (us : List Value), RdL w d c us → P c →
    Calls Tryz.prog f #[.agg us.toArray] w fun e w' => ∃ us', e = .returned (.agg us'.toArray) ∧ RdAL (fun b => w.heap.size ≤ b ∧ b < w'.heap.size) w' d c us' ∧ Below w.heap.size w w'
/-- a slice's copy by a function -/
def EaC (f g : FuncId) (P : List T → Prop) : Prop := ∀ (w : World) (d : Nat) (es : List (List T)) (v : Value), Rd w d (.sl es) v → (∀ c ∈ es, P c) →
    Calls Tryz.prog f #[v, .func (.func g) #[] #[]] w fun e w' => ∃ v', e = .returned v' ∧ RdA (fun b => w.heap.size ≤ b ∧ b < w'.heap.size) w' d (.sl es) v' ∧ Below w.heap.size w w'
def FlC (f : FuncId) (P : List T → Prop) : Prop := ∀ (w : World) (d : Nat) (es : List (List T)) (v : Value), Rd w d (.sl es) v → (∀ c ∈ es, P c) →
    Calls Tryz.prog f #[v] w fun e w' => ∃ v', e = .returned v' ∧ RdA (fun b => w.heap.size ≤ b ∧ b < w'.heap.size) w' d (.sl es) v' ∧ Below w.heap.size w w'
theorem take_flat {es : List (List T)} {k : Nat} (h : k < es.length) : (es.take (k + 1)).flatten = (es.take k).flatten ++ es.getD k [] := by
  rw [List.take_succ_eq_append_getElem h, List.flatten_append]
  simp only [List.getD, List.getElem?_eq_getElem h, Option.getD_some, List.flatten_cons, List.flatten_nil, List.append_nil]
/-- one round of the copying loop: what the new row holds -/
theorem each_step {wr W0 W1 w1 : World} {B d k : Nat} {es : List (List T)} {o v' : Value} {xs us : List Value} {e sz : Nat} {ob : Obj} (hk : k < es.length)
    (hown : wr.ownsRow B e sz o k xs) (hB : B ≤ wr.heap.size) (hxs : RdAL (fun b => B ≤ b ∧ b < wr.heap.size ∧ some b ≠ o.ownBlock) wr d (es.take k).flatten xs)
    (h0 : wr.heap.size ≤ W0.heap.size) (hus : RdAL (fun b => W0.heap.size ≤ b ∧ b < W1.heap.size) W1 d (es.getD k []) us) (h1 : Below wr.heap.size wr W1)
    (hg : (W1.alloc ob).grownBy w1 o.ownBlock) (hv : v'.ownBlock = o.ownBlock ∨ ∃ g, v'.ownBlock = some g ∧ (W1.alloc ob).heap.size ≤ g) :
    RdAL (fun b => B ≤ b ∧ b < w1.heap.size ∧ some b ≠ v'.ownBlock) w1 d (es.take (k + 1)).flatten (xs ++ us) := by
  rw [take_flat hk]
  have hsz : (W1.alloc ob).heap.size = W1.heap.size + 1 := World.size_alloc _ _
  have hs1 := h1.size
  have hs2 := hg.size
  have hal : ∀ b, b < W1.heap.size → (W1.alloc ob).heap[b]? = W1.heap[b]? := fun b hb => Below.heap_alloc _ _ _ hb
  have hvb : ∀ b, b < W1.heap.size → some b ≠ o.ownBlock → some b ≠ v'.ownBlock := by
    intro b hb hne
    rcases hv with hv | ⟨g, hv, hge⟩
    · rw [hv]; exact hne
    · rw [hv]; intro e; cases e; omega
  refine (hxs.frame ?_ ?_).append (hus.frame ?_ ?_)
  · rintro b ⟨q1, q2, q3⟩
    exact ⟨q1, by omega, hvb b (by omega) q3⟩
  · rintro b ⟨q1, q2, q3⟩
    rw [hg.block b (by omega) q3, hal b (by omega), h1.block b q2]
  · rintro b ⟨q1, q2⟩
    refine ⟨by omega, by omega, hvb b q2 ?_⟩
    intro e
    have := (own_lt hown b e.symm).2
    omega
  · rintro b ⟨q1, q2⟩
    rw [hg.block b (by omega) ?_, hal b q2]
    intro e
    have := (own_lt hown b e.symm).2
    omega
end Go.Proofs.YtmhkceeiiklfdaaGreat
