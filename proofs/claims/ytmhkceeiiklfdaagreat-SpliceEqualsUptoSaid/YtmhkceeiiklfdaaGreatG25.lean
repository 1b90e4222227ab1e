/- A part of the proof of SpliceEqualsUptoSaid (texts: GrReadTy GrCode GrCodeT GrWrap). No conditions. -/
import Derived.Test.YtmhkceeiiklfdaaGreatG24
import Derived.Test.YtmhkceeiiklfdaaGreatG23
import Derived.Test.YtmhkceeiiklfdaaGreatG16
set_option linter.unusedVariables false
set_option linter.unusedSimpArgs false
set_option linter.unusedVariables false
set_option linter.unusedSimpArgs false
namespace Go.Proofs.YtmhkceeiiklfdaaGreat
open Go.RowKit Go.Abs
section
variable {H : Type} {enc : TypeId × Value → H} {w : World}
theorem fok_end {n o e : Nat} (h : o = e) : FieldsOk enc w n [] [] o e := h
theorem IsHead.of4 {a : List (List T)} {c : List T} (h : ∀ x ∈ a, IsProp x) (k : ∃ i m d l, c = [.lf (.int i), .lf (.int m), .sl d, .sl l] ∧ (∀ x ∈ d, IsDel x) ∧ ∀ x ∈ l, IsLayer x) : IsHead (.sl a :: c) := by
  obtain ⟨i, m, d, l, rfl, h1, h2⟩ := k
  exact ⟨a, i, m, d, l, rfl, h, h1, h2⟩
theorem IsCell.mono {P P' : List T → Prop} (hp : ∀ c, P c → P' c) {c : List T} (h : IsCell P c) : IsCell P' c := by
  obtain ⟨i, h, fl, rfl, h1, h2⟩ := h
  exact ⟨i, h, fl, rfl, h1, fun x hx => hp x (h2 x hx)⟩
theorem IsRow.mono {P P' : List T → Prop} (hp : ∀ c, P c → P' c) {c : List T} (h : IsRow P c) : IsRow P' c := by
  obtain ⟨h, cs, rfl, h1, h2⟩ := h
  exact ⟨h, cs, rfl, h1, fun x hx => (h2 x hx).mono hp⟩
theorem IsItemOf.mono {P P' : List T → Prop} (hp : ∀ c, P c → P' c) {c : List T} (h : IsItemOf P c) : IsItemOf P' c := by
  obtain ⟨k, o, i, s, h, fl, rs, rfl, h1, h2, h3⟩ := h
  exact ⟨k, o, i, s, h, fl, rs, rfl, h1, fun x hx => hp x (h2 x hx), fun x hx => (h3 x hx).mono hp⟩
theorem IsItem.up : ∀ {n : Nat} {c : List T}, IsItem n c → IsItem (n + 1) c
  | 0, c, h => h.elim
  | n + 1, c, h => IsItemOf.mono (fun _ => IsItem.up) h
theorem IsItem.le {n m : Nat} (hnm : n ≤ m) {c : List T} (h : IsItem n c) : IsItem m c := by
  obtain ⟨k, rfl⟩ : ∃ k, m = n + k := ⟨m - n, by omega⟩
  induction k with
  | zero => exact h
  | succ k ih => exact (ih (by omega)).up
theorem rdProp : ∀ n, Rds enc w 159 n (IsProp)
  | 0 => rds_none
  | n + 1 => (rds_struct Tryz.underlying159 (Qs := [fun c => ∃ i : Int, c = [T.lf (.int i)], fun c => ∃ i : Int, c = [T.lf (.int i)]]) ⟨by kernel_rfl, rds_int Tryz.underlying3, by kernel_rfl, rds_int Tryz.underlying3, fok_end (by kernel_rfl)⟩).imp fun c ⟨parts, hc, he0⟩ => by
    obtain ⟨c0, _, rfl, ⟨a, rfl⟩, he1⟩ := he0.of_cons
    obtain ⟨c1, _, rfl, ⟨b, rfl⟩, he2⟩ := he1.of_cons
    obtain rfl := he2.of_nil
    subst hc
    exact ⟨a, b, rfl⟩
theorem rdDel : ∀ n, Rds enc w 162 n (IsDel)
  | 0 => rds_none
  | n + 1 => (rds_struct Tryz.underlying162 (Qs := [fun c => ∃ i : Int, c = [T.lf (.int i)], fun c => ∃ i : Int, c = [T.lf (.int i)]]) ⟨by kernel_rfl, rds_int Tryz.underlying3, by kernel_rfl, rds_int Tryz.underlying3, fok_end (by kernel_rfl)⟩).imp fun c ⟨parts, hc, he0⟩ => by
    obtain ⟨c0, _, rfl, ⟨a, rfl⟩, he1⟩ := he0.of_cons
    obtain ⟨c1, _, rfl, ⟨b, rfl⟩, he2⟩ := he1.of_cons
    obtain rfl := he2.of_nil
    subst hc
    exact ⟨a, b, rfl⟩
theorem rdLayer : ∀ n, Rds enc w 165 n (IsLayer)
  | 0 => rds_none
  | n + 1 => (rds_struct Tryz.underlying165 (Qs := [fun c => ∃ i : Int, c = [T.lf (.int i)], fun c => ∃ i : Int, c = [T.lf (.int i)], fun c => ∃ i : Int, c = [T.lf (.int i)], fun c => ∃ i : Bool, c = [T.lf (.bool i)]]) ⟨by kernel_rfl, rds_int Tryz.underlying3, by kernel_rfl, rds_int Tryz.underlying3, by kernel_rfl, rds_int Tryz.underlying3, by kernel_rfl, rds_bool Tryz.underlying4, fok_end (by kernel_rfl)⟩).imp fun c ⟨parts, hc, he0⟩ => by
    obtain ⟨c0, _, rfl, ⟨a, rfl⟩, he1⟩ := he0.of_cons
    obtain ⟨c1, _, rfl, ⟨b, rfl⟩, he2⟩ := he1.of_cons
    obtain ⟨c2, _, rfl, ⟨d, rfl⟩, he3⟩ := he2.of_cons
    obtain ⟨c3, _, rfl, ⟨e, rfl⟩, he4⟩ := he3.of_cons
    obtain rfl := he4.of_nil
    subst hc
    exact ⟨a, b, d, e, rfl⟩
theorem rdLevel : ∀ n, Rds enc w 94 n (IsLevel)
  | 0 => rds_none
  | n + 1 => (rds_struct Tryz.underlying94 (Qs := [fun c => ∃ i : Int, c = [T.lf (.int i)], fun c => ∃ i : Int, c = [T.lf (.int i)], fun c => ∃ i : ByteArray, c = [T.lf (.str i)], fun c => ∃ i : Int, c = [T.lf (.int i)]]) ⟨by kernel_rfl, rds_int Tryz.underlying3, by kernel_rfl, rds_int Tryz.underlying3, by kernel_rfl, rds_str Tryz.underlying9, by kernel_rfl, rds_int Tryz.underlying3, fok_end (by kernel_rfl)⟩).imp fun c ⟨parts, hc, he0⟩ => by
    obtain ⟨c0, _, rfl, ⟨a, rfl⟩, he1⟩ := he0.of_cons
    obtain ⟨c1, _, rfl, ⟨b, rfl⟩, he2⟩ := he1.of_cons
    obtain ⟨c2, _, rfl, ⟨d, rfl⟩, he3⟩ := he2.of_cons
    obtain ⟨c3, _, rfl, ⟨e, rfl⟩, he4⟩ := he3.of_cons
    obtain rfl := he4.of_nil
    subst hc
    exact ⟨a, b, d, e, rfl⟩
theorem rdComment : ∀ n, Rds enc w 103 n (IsComment)
  | 0 => rds_none
  | n + 1 => (rds_struct Tryz.underlying103 (Qs := [fun c => ∃ i : Int, c = [T.lf (.int i)], fun c => ∃ i : Int, c = [T.lf (.int i)], fun c => ∃ i : ByteArray, c = [T.lf (.str i)], fun c => ∃ i : Int, c = [T.lf (.int i)], fun c => ∃ i : ByteArray, c = [T.lf (.str i)], fun c => ∃ i : Bool, c = [T.lf (.bool i)]]) ⟨by kernel_rfl, rds_int Tryz.underlying3, by kernel_rfl, rds_int Tryz.underlying3, by kernel_rfl, rds_str Tryz.underlying9, by kernel_rfl, rds_int Tryz.underlying3, by kernel_rfl, rds_str Tryz.underlying9, by kernel_rfl, rds_bool Tryz.underlying4, fok_end (by kernel_rfl)⟩).imp fun c ⟨parts, hc, he0⟩ => by
    obtain ⟨c0, _, rfl, ⟨a, rfl⟩, he1⟩ := he0.of_cons
    obtain ⟨c1, _, rfl, ⟨b, rfl⟩, he2⟩ := he1.of_cons
    obtain ⟨c2, _, rfl, ⟨d, rfl⟩, he3⟩ := he2.of_cons
    obtain ⟨c3, _, rfl, ⟨e, rfl⟩, he4⟩ := he3.of_cons
    obtain ⟨c4, _, rfl, ⟨f, rfl⟩, he5⟩ := he4.of_cons
    obtain ⟨c5, _, rfl, ⟨g, rfl⟩, he6⟩ := he5.of_cons
    obtain rfl := he6.of_nil
    subst hc
    exact ⟨a, b, d, e, f, g, rfl⟩
theorem rdVar : ∀ n, Rds enc w 106 n (IsVar)
  | 0 => rds_none
  | n + 1 => (rds_struct Tryz.underlying106 (Qs := [fun c => ∃ i : ByteArray, c = [T.lf (.str i)], fun c => ∃ i : ByteArray, c = [T.lf (.str i)]]) ⟨by kernel_rfl, rds_str Tryz.underlying9, by kernel_rfl, rds_str Tryz.underlying9, fok_end (by kernel_rfl)⟩).imp fun c ⟨parts, hc, he0⟩ => by
    obtain ⟨c0, _, rfl, ⟨a, rfl⟩, he1⟩ := he0.of_cons
    obtain ⟨c1, _, rfl, ⟨b, rfl⟩, he2⟩ := he1.of_cons
    obtain rfl := he2.of_nil
    subst hc
    exact ⟨a, b, rfl⟩
theorem rdProps : ∀ n, Rds enc w 28 n (fun c => ∃ es : List (List T), c = [T.sl es] ∧ ∀ x ∈ es, IsProp x)
  | 0 => rds_none
  | n + 1 => rds_slice Tryz.underlying28 (by kernel_rfl : Tryz.prog.cellsOf 159 = 2) (by decide) (fun c h => lenProp h) (rdProp n)
theorem rdDels : ∀ n, Rds enc w 29 n (fun c => ∃ es : List (List T), c = [T.sl es] ∧ ∀ x ∈ es, IsDel x)
  | 0 => rds_none
  | n + 1 => rds_slice Tryz.underlying29 (by kernel_rfl : Tryz.prog.cellsOf 162 = 2) (by decide) (fun c h => lenDel h) (rdDel n)
theorem rdLayers : ∀ n, Rds enc w 30 n (fun c => ∃ es : List (List T), c = [T.sl es] ∧ ∀ x ∈ es, IsLayer x)
  | 0 => rds_none
  | n + 1 => rds_slice Tryz.underlying30 (by kernel_rfl : Tryz.prog.cellsOf 165 = 4) (by decide) (fun c h => lenLayer h) (rdLayer n)
theorem rdLevels : ∀ n, Rds enc w 89 n (fun c => ∃ es : List (List T), c = [T.sl es] ∧ ∀ x ∈ es, IsLevel x)
  | 0 => rds_none
  | n + 1 => rds_slice Tryz.underlying89 (by kernel_rfl : Tryz.prog.cellsOf 94 = 4) (by decide) (fun c h => lenLevel h) (rdLevel n)
theorem rdStyle : ∀ n, Rds enc w 168 n (IsStyle)
  | 0 => rds_none
  | n + 1 => (rds_struct Tryz.underlying168 (Qs := [fun c => ∃ i : Int, c = [T.lf (.int i)], fun c => ∃ i : Int, c = [T.lf (.int i)], fun c => ∃ i : ByteArray, c = [T.lf (.str i)], fun c => ∃ i : Int, c = [T.lf (.int i)], fun c => ∃ i : Int, c = [T.lf (.int i)], fun c => ∃ es : List (List T), c = [T.sl es] ∧ ∀ x ∈ es, IsProp x]) ⟨by kernel_rfl, rds_int Tryz.underlying3, by kernel_rfl, rds_int Tryz.underlying3, by kernel_rfl, rds_str Tryz.underlying9, by kernel_rfl, rds_int Tryz.underlying3, by kernel_rfl, rds_int Tryz.underlying3, by kernel_rfl, rdProps n, fok_end (by kernel_rfl)⟩).imp fun c ⟨parts, hc, he0⟩ => by
    obtain ⟨c0, _, rfl, ⟨a, rfl⟩, he1⟩ := he0.of_cons
    obtain ⟨c1, _, rfl, ⟨b, rfl⟩, he2⟩ := he1.of_cons
    obtain ⟨c2, _, rfl, ⟨d, rfl⟩, he3⟩ := he2.of_cons
    obtain ⟨c3, _, rfl, ⟨e, rfl⟩, he4⟩ := he3.of_cons
    obtain ⟨c4, _, rfl, ⟨f, rfl⟩, he5⟩ := he4.of_cons
    obtain ⟨c5, _, rfl, ⟨g, rfl, pg⟩, he6⟩ := he5.of_cons
    obtain rfl := he6.of_nil
    subst hc
    exact ⟨a, b, d, e, f, g, rfl, pg⟩
theorem rdList : ∀ n, Rds enc w 91 n (IsList)
  | 0 => rds_none
  | n + 1 => (rds_struct Tryz.underlying91 (Qs := [fun c => ∃ i : Int, c = [T.lf (.int i)], fun c => ∃ es : List (List T), c = [T.sl es] ∧ ∀ x ∈ es, IsLevel x]) ⟨by kernel_rfl, rds_int Tryz.underlying3, by kernel_rfl, rdLevels n, fok_end (by kernel_rfl)⟩).imp fun c ⟨parts, hc, he0⟩ => by
    obtain ⟨c0, _, rfl, ⟨a, rfl⟩, he1⟩ := he0.of_cons
    obtain ⟨c1, _, rfl, ⟨b, rfl, pb⟩, he2⟩ := he1.of_cons
    obtain rfl := he2.of_nil
    subst hc
    exact ⟨a, b, rfl, pb⟩
theorem rdStyles : ∀ n, Rds enc w 35 n (fun c => ∃ es : List (List T), c = [T.sl es] ∧ ∀ x ∈ es, IsStyle x)
  | 0 => rds_none
  | n + 1 => rds_slice Tryz.underlying35 (by kernel_rfl : Tryz.prog.cellsOf 168 = 6) (by decide) (fun c h => IsStyle.len h) (rdStyle n)
theorem rdLists : ∀ n, Rds enc w 36 n (fun c => ∃ es : List (List T), c = [T.sl es] ∧ ∀ x ∈ es, IsList x)
  | 0 => rds_none
  | n + 1 => rds_slice Tryz.underlying36 (by kernel_rfl : Tryz.prog.cellsOf 91 = 2) (by decide) (fun c h => IsList.len h) (rdList n)
theorem rdComments : ∀ n, Rds enc w 37 n (fun c => ∃ es : List (List T), c = [T.sl es] ∧ ∀ x ∈ es, IsComment x)
  | 0 => rds_none
  | n + 1 => rds_slice Tryz.underlying37 (by kernel_rfl : Tryz.prog.cellsOf 103 = 6) (by decide) (fun c h => lenComment h) (rdComment n)
theorem rdVars : ∀ n, Rds enc w 38 n (fun c => ∃ es : List (List T), c = [T.sl es] ∧ ∀ x ∈ es, IsVar x)
  | 0 => rds_none
  | n + 1 => rds_slice Tryz.underlying38 (by kernel_rfl : Tryz.prog.cellsOf 106 = 2) (by decide) (fun c h => lenVar h) (rdVar n)
theorem rdSet : ∀ n, Rds enc w 40 n (IsSet)
  | 0 => rds_none
  | n + 1 => (rds_struct Tryz.underlying40 (Qs := [fun c => ∃ es : List (List T), c = [T.sl es] ∧ ∀ x ∈ es, IsStyle x, fun c => ∃ es : List (List T), c = [T.sl es] ∧ ∀ x ∈ es, IsList x, fun c => ∃ es : List (List T), c = [T.sl es] ∧ ∀ x ∈ es, IsComment x, fun c => ∃ es : List (List T), c = [T.sl es] ∧ ∀ x ∈ es, IsVar x]) ⟨by kernel_rfl, rdStyles n, by kernel_rfl, rdLists n, by kernel_rfl, rdComments n, by kernel_rfl, rdVars n, fok_end (by kernel_rfl)⟩).imp fun c ⟨parts, hc, he0⟩ => by
    obtain ⟨c0, _, rfl, ⟨a, rfl, pa⟩, he1⟩ := he0.of_cons
    obtain ⟨c1, _, rfl, ⟨b, rfl, pb⟩, he2⟩ := he1.of_cons
    obtain ⟨c2, _, rfl, ⟨d, rfl, pd⟩, he3⟩ := he2.of_cons
    obtain ⟨c3, _, rfl, ⟨e, rfl, pe⟩, he4⟩ := he3.of_cons
    obtain rfl := he4.of_nil
    subst hc
    exact ⟨a, b, d, e, rfl, pa, pb, pd, pe⟩
theorem rdMarks : ∀ n, Rds enc w 32 n (fun c => ∃ i m d l, c = [T.lf (.int i), .lf (.int m), .sl d, .sl l] ∧ (∀ x ∈ d, IsDel x) ∧ ∀ x ∈ l, IsLayer x)
  | 0 => rds_none
  | n + 1 => (rds_struct Tryz.underlying32 (Qs := [fun c => ∃ i : Int, c = [T.lf (.int i)], fun c => ∃ i : Int, c = [T.lf (.int i)], fun c => ∃ es : List (List T), c = [T.sl es] ∧ ∀ x ∈ es, IsDel x, fun c => ∃ es : List (List T), c = [T.sl es] ∧ ∀ x ∈ es, IsLayer x]) ⟨by kernel_rfl, rds_int Tryz.underlying3, by kernel_rfl, rds_int Tryz.underlying3, by kernel_rfl, rdDels n, by kernel_rfl, rdLayers n, fok_end (by kernel_rfl)⟩).imp fun c ⟨parts, hc, he0⟩ => by
    obtain ⟨c0, _, rfl, ⟨a, rfl⟩, he1⟩ := he0.of_cons
    obtain ⟨c1, _, rfl, ⟨b, rfl⟩, he2⟩ := he1.of_cons
    obtain ⟨c2, _, rfl, ⟨d, rfl, pd⟩, he3⟩ := he2.of_cons
    obtain ⟨c3, _, rfl, ⟨e, rfl, pe⟩, he4⟩ := he3.of_cons
    obtain rfl := he4.of_nil
    subst hc
    exact ⟨a, b, d, e, rfl, pd, pe⟩
theorem rdHead : ∀ n, Rds enc w 34 n (IsHead)
  | 0 => rds_none
  | n + 1 => (rds_struct Tryz.underlying34 (Qs := [fun c => ∃ es : List (List T), c = [T.sl es] ∧ ∀ x ∈ es, IsProp x, fun c => ∃ i m d l, c = [T.lf (.int i), .lf (.int m), .sl d, .sl l] ∧ (∀ x ∈ d, IsDel x) ∧ ∀ x ∈ l, IsLayer x]) ⟨by kernel_rfl, rdProps n, by kernel_rfl, rdMarks n, fok_end (by kernel_rfl)⟩).imp fun c ⟨parts, hc, he0⟩ => by
    obtain ⟨c0, _, rfl, ⟨a, rfl, pa⟩, he1⟩ := he0.of_cons
    obtain ⟨c1, _, rfl, hm, he2⟩ := he1.of_cons
    obtain rfl := he2.of_nil
    subst hc
    simpa using IsHead.of4 pa hm
theorem rdFlowOf {P : List T → Prop} {k : Nat} (h : ∀ m, m < k → Rds enc w 52 m P) (hP : ∀ c, P c → c.length = 11) : ∀ n, n ≤ k → Rds enc w 25 n (fun c => ∃ es : List (List T), c = [T.sl es] ∧ ∀ x ∈ es, P x)
  | 0, _ => rds_none
  | n + 1, hk => rds_slice Tryz.underlying25 (by kernel_rfl : Tryz.prog.cellsOf 52 = 11) (by decide) (hP) (h n (by omega))
theorem rdCellOf {P : List T → Prop} {k : Nat} (h : ∀ m, m < k → Rds enc w 52 m P) (hP : ∀ c, P c → c.length = 11) : ∀ n, n ≤ k → Rds enc w 193 n (IsCell P)
  | 0, _ => rds_none
  | n + 1, hk => (rds_struct Tryz.underlying193 (Qs := [fun c => ∃ i : Int, c = [T.lf (.int i)], IsHead, fun c => ∃ es : List (List T), c = [T.sl es] ∧ ∀ x ∈ es, P x]) ⟨by kernel_rfl, rds_int Tryz.underlying3, by kernel_rfl, rdHead n, by kernel_rfl, rdFlowOf h hP n (by omega), fok_end (by kernel_rfl)⟩).imp fun c ⟨parts, hc, he0⟩ => by
    obtain ⟨c0, _, rfl, ⟨a, rfl⟩, he1⟩ := he0.of_cons
    obtain ⟨c1, _, rfl, hh, he2⟩ := he1.of_cons
    obtain ⟨c2, _, rfl, ⟨f, rfl, pf⟩, he3⟩ := he2.of_cons
    obtain rfl := he3.of_nil
    subst hc
    exact ⟨a, c1, f, by simp, hh, pf⟩
theorem rdCellsOf {P : List T → Prop} {k : Nat} (h : ∀ m, m < k → Rds enc w 52 m P) (hP : ∀ c, P c → c.length = 11) : ∀ n, n ≤ k → Rds enc w 27 n (fun c => ∃ es : List (List T), c = [T.sl es] ∧ ∀ x ∈ es, IsCell P x)
  | 0, _ => rds_none
  | n + 1, hk => rds_slice Tryz.underlying27 (by kernel_rfl : Tryz.prog.cellsOf 193 = 7) (by decide) (fun c h => IsCell.len h) (rdCellOf h hP n (by omega))
theorem rdRowOf {P : List T → Prop} {k : Nat} (h : ∀ m, m < k → Rds enc w 52 m P) (hP : ∀ c, P c → c.length = 11) : ∀ n, n ≤ k → Rds enc w 188 n (IsRow P)
  | 0, _ => rds_none
  | n + 1, hk => (rds_struct Tryz.underlying188 (Qs := [IsHead, fun c => ∃ es : List (List T), c = [T.sl es] ∧ ∀ x ∈ es, IsCell P x]) ⟨by kernel_rfl, rdHead n, by kernel_rfl, rdCellsOf h hP n (by omega), fok_end (by kernel_rfl)⟩).imp fun c ⟨parts, hc, he0⟩ => by
    obtain ⟨c0, _, rfl, hh, he1⟩ := he0.of_cons
    obtain ⟨c1, _, rfl, ⟨f, rfl, pf⟩, he2⟩ := he1.of_cons
    obtain rfl := he2.of_nil
    subst hc
    exact ⟨c0, f, by simp, hh, pf⟩
theorem rdRowsOf {P : List T → Prop} {k : Nat} (h : ∀ m, m < k → Rds enc w 52 m P) (hP : ∀ c, P c → c.length = 11) : ∀ n, n ≤ k → Rds enc w 26 n (fun c => ∃ es : List (List T), c = [T.sl es] ∧ ∀ x ∈ es, IsRow P x)
  | 0, _ => rds_none
  | n + 1, hk => rds_slice Tryz.underlying26 (by kernel_rfl : Tryz.prog.cellsOf 188 = 6) (by decide) (fun c h => IsRow.len h) (rdRowOf h hP n (by omega))
theorem rdItemOf {P : List T → Prop} {k : Nat} (h : ∀ m, m < k → Rds enc w 52 m P) (hP : ∀ c, P c → c.length = 11) : ∀ n, n ≤ k + 1 → Rds enc w 52 n (IsItemOf P)
  | 0, _ => rds_none
  | n + 1, hk => (rds_struct Tryz.underlying52 (Qs := [fun c => ∃ i : Int, c = [T.lf (.int i)], fun c => ∃ i : Int, c = [T.lf (.int i)], fun c => ∃ i : Int, c = [T.lf (.int i)], fun c => ∃ i : ByteArray, c = [T.lf (.str i)], IsHead, fun c => ∃ es : List (List T), c = [T.sl es] ∧ ∀ x ∈ es, P x, fun c => ∃ es : List (List T), c = [T.sl es] ∧ ∀ x ∈ es, IsRow P x]) ⟨by kernel_rfl, rds_int Tryz.underlying3, by kernel_rfl, rds_int Tryz.underlying3, by kernel_rfl, rds_int Tryz.underlying3, by kernel_rfl, rds_str Tryz.underlying9, by kernel_rfl, rdHead n, by kernel_rfl, rdFlowOf h hP n (by omega), by kernel_rfl, rdRowsOf h hP n (by omega), fok_end (by kernel_rfl)⟩).imp fun c ⟨parts, hc, he0⟩ => by
    obtain ⟨c0, _, rfl, ⟨a, rfl⟩, he1⟩ := he0.of_cons
    obtain ⟨c1, _, rfl, ⟨b, rfl⟩, he2⟩ := he1.of_cons
    obtain ⟨c2, _, rfl, ⟨d, rfl⟩, he3⟩ := he2.of_cons
    obtain ⟨c3, _, rfl, ⟨e, rfl⟩, he4⟩ := he3.of_cons
    obtain ⟨c4, _, rfl, hh, he5⟩ := he4.of_cons
    obtain ⟨c5, _, rfl, ⟨f, rfl, pf⟩, he6⟩ := he5.of_cons
    obtain ⟨c6, _, rfl, ⟨g, rfl, pg⟩, he7⟩ := he6.of_cons
    obtain rfl := he7.of_nil
    subst hc
    exact ⟨a, b, d, e, c4, f, g, by simp, hh, pf, pg⟩
theorem rdItem : ∀ n, ∀ m, m ≤ n → Rds enc w 52 m (IsItem n)
  | 0, m, hm => by
    obtain rfl : m = 0 := by omega
    exact rds_none
  | n + 1, m, hm => by
    have h : ∀ j, j < n → Rds enc w 52 j (IsItem n) := fun j hj => rdItem n j (by omega)
    exact rdItemOf h (fun c hc => lenItem n c hc) m hm
theorem rdPieceOf {P : List T → Prop} {k : Nat} (h : ∀ m, m < k → Rds enc w 52 m P) (hP : ∀ c, P c → c.length = 11) : ∀ n, n ≤ k → Rds enc w 42 n (IsPiece P)
  | 0, _ => rds_none
  | n + 1, hk => (rds_struct Tryz.underlying42 (Qs := [fun c => ∃ es : List (List T), c = [T.sl es] ∧ ∀ x ∈ es, P x, fun c => ∃ es : List (List T), c = [T.sl es] ∧ ∀ x ∈ es, IsRow P x, fun c => ∃ es : List (List T), c = [T.sl es] ∧ ∀ x ∈ es, IsCell P x, IsHead, IsSet]) ⟨by kernel_rfl, rdFlowOf h hP n (by omega), by kernel_rfl, rdRowsOf h hP n (by omega), by kernel_rfl, rdCellsOf h hP n (by omega), by kernel_rfl, rdHead n, by kernel_rfl, rdSet n, fok_end (by kernel_rfl)⟩).imp fun c ⟨parts, hc, he0⟩ => by
    obtain ⟨c0, _, rfl, ⟨a, rfl, pa⟩, he1⟩ := he0.of_cons
    obtain ⟨c1, _, rfl, ⟨b, rfl, pb⟩, he2⟩ := he1.of_cons
    obtain ⟨c2, _, rfl, ⟨d, rfl, pd⟩, he3⟩ := he2.of_cons
    obtain ⟨c3, _, rfl, hh, he4⟩ := he3.of_cons
    obtain ⟨c4, _, rfl, hs, he5⟩ := he4.of_cons
    obtain rfl := he5.of_nil
    subst hc
    exact ⟨a, b, d, c3, c4, by simp, pa, pb, pd, hh, hs⟩
theorem rdSpliceOf {P : List T → Prop} {k : Nat} (h : ∀ m, m < k → Rds enc w 52 m P) (hP : ∀ c, P c → c.length = 11) : ∀ n, n ≤ k → Rds enc w 44 n (IsSplice P)
  | 0, _ => rds_none
  | n + 1, hk => (rds_struct Tryz.underlying44 (Qs := [fun c => ∃ i : Int, c = [T.lf (.int i)], fun c => ∃ i : Int, c = [T.lf (.int i)], fun c => ∃ i : Int, c = [T.lf (.int i)], fun c => ∃ i : Int, c = [T.lf (.int i)], IsPiece P, IsPiece P]) ⟨by kernel_rfl, rds_int Tryz.underlying3, by kernel_rfl, rds_int Tryz.underlying3, by kernel_rfl, rds_int Tryz.underlying3, by kernel_rfl, rds_int Tryz.underlying3, by kernel_rfl, rdPieceOf h hP n (by omega), by kernel_rfl, rdPieceOf h hP n (by omega), fok_end (by kernel_rfl)⟩).imp fun c ⟨parts, hc, he0⟩ => by
    obtain ⟨c0, _, rfl, ⟨a, rfl⟩, he1⟩ := he0.of_cons
    obtain ⟨c1, _, rfl, ⟨b, rfl⟩, he2⟩ := he1.of_cons
    obtain ⟨c2, _, rfl, ⟨d, rfl⟩, he3⟩ := he2.of_cons
    obtain ⟨c3, _, rfl, ⟨e, rfl⟩, he4⟩ := he3.of_cons
    obtain ⟨c4, _, rfl, hp, he5⟩ := he4.of_cons
    obtain ⟨c5, _, rfl, hq, he6⟩ := he5.of_cons
    obtain rfl := he6.of_nil
    subst hc
    exact ⟨a, b, d, e, c4, c5, by simp, hp, hq⟩
theorem rdSplice (n : Nat) : Rds enc w 44 n (IsSplice (IsItem n)) := rdSpliceOf (fun m hm => rdItem n m (by omega)) (fun c hc => lenItem n c hc) n (Nat.le_refl n)
end
end Go.Proofs.YtmhkceeiiklfdaaGreat
set_option linter.unusedVariables false
set_option linter.unusedSimpArgs false
namespace Go.Proofs.YtmhkceeiiklfdaaGreat
open Go.RowKit Go.Abs
def allOnes : Nat := 340282366920938463463374607431768211455
def Tok (T : Tr Value) : Prop := ∀ t v, T.get t = some v → bit allOnes t = true ∧ ¬ (2 ^ 40 ≤ t + 1)
/-- a sequence of regions -/
noncomputable def codeRun (E : Env) (n nt : Nat) : Code → Tr Value → AHeap → Option (Tr Value × AHeap)
  | .region _ ops draw, T, H => match regRun draw ops.toList nt E n T H with
    | some (L, H') => some (flush allOnes T L, H')
    | none => none
  | .seq x y, T, H => match codeRun E n nt x T H with
    | some (T1, H1) => codeRun E n nt y T1 H1
    | none => none
  | .skip, T, H => some (T, H)
  | _, _, _ => none
theorem regRun_up {draw : Bool} {ops : List Oper} {nt : Nat} {E : Env} {n : Nat} {T : Tr Value} {H H' : AHeap} {L : Abs.Loc} (h : regRun draw ops nt E n T H = some (L, H')) : H.size ≤ H'.size := by
  cases draw with
  | true =>
    obtain ⟨es, h1, _⟩ := regRun_true h
    exact (up_opsD (aRun_up E n) h1).low.size
  | false => exact (up_ops (aRun_up E n) h).low.size
theorem codeRun_up {E : Env} {n nt : Nat} : ∀ {c : Code} {T T' : Tr Value} {H H' : AHeap}, codeRun E n nt c T H = some (T', H') → H.size ≤ H'.size := by
  intro c
  induction c with
  | region id ops draw =>
    intro T T' H H' h
    unfold codeRun at h
    split at h
    · rename_i L H1 h1; cases h; exact regRun_up h1
    · cases h
  | seq x y ihx ihy =>
    intro T T' H H' h
    unfold codeRun at h
    split at h
    · rename_i T1 H1 h1; exact Nat.le_trans (ihx h1) (ihy h)
    · cases h
  | skip => intro T T' H H' h; unfold codeRun at h; cases h; exact Nat.le_refl _
  | _ => intro T T' H H' h; unfold codeRun at h; cases h
theorem code_wp {E : Env} (ok : EnvOk E) {n nt : Nat} : ∀ {c : Code} {T T' : Tr Value} {H H' : AHeap}, codeRun E n nt c T H = some (T', H') → Tok T → ∀ {φ : Phi} {w : World} {a : Act}, FR φ ⟨.nil, T⟩ a.tmps → a.tmps.size = nt → SimL φ E H w → Free φ H H' →
    ∀ {Q : Exit → Act → World → Prop}, (∀ φ' w' a', Goes φ H.size w φ' H'.size w' → SimL φ' E H' w' → FR φ' ⟨.nil, T'⟩ a'.tmps → a'.tmps.size = nt → a'.defers = a.defers → Tok T' → Q .normal a' w') → c.wp E.prog Q a w := by
  intro c
  induction c with
  | region id ops draw =>
    intro T T' H H' h ht φ w a hF hnt sim hf Q hQ
    unfold codeRun at h
    split at h
    · rename_i L H1 h1
      cases h
      have fin : ∀ φ' w' a', Goes φ H.size w φ' H'.size w' → SimL φ' E H' w' → FR φ' ⟨L, T⟩ a'.tmps → a'.tmps.size = nt → a'.defers = a.defers → Q .normal a' w' := fun φ' w' a' g s f h3 h4 =>
        hQ φ' w' a' g s (FR.nil (flush_rel ht f)) h3 h4 fun t v hv => ⟨(flush_get allOnes T ht L t v hv).1, (flush_get allOnes T ht L t v hv).2.1⟩
      cases draw with
      | true =>
        obtain ⟨es, h2, h3, h4⟩ := regRun_true h1
        exact region_wp ok n h2 h3 h4 hF hnt sim hf fin
      | false => exact region_wp0 ok n h1 hF hnt sim hf fin
    · cases h
  | seq x y ihx ihy =>
    intro T T' H H' h ht φ w a hF hnt sim hf Q hQ
    unfold codeRun at h
    split at h
    · rename_i T1 H1 h1
      refine wp_seq (ihx h1 ht hF hnt sim (hf.left (codeRun_up h)) fun φ1 w1 a1 g1 s1 f1 n1 d1 t1 => ?_)
      exact ihy h t1 f1 n1 s1 (hf.right g1) fun φ2 w2 a2 g2 s2 f2 n2 d2 t2 => hQ φ2 w2 a2 (g1.trans g2) s2 f2 n2 (d2.trans d1) t2
    · cases h
  | skip =>
    intro T T' H H' h ht φ w a hF hnt sim hf Q hQ
    unfold codeRun at h
    cases h
    exact wp_skip (hQ φ w a (Goes.refl _ _ _) sim hF hnt rfl ht)
  | _ => intro T T' H H' h; unfold codeRun at h; cases h
theorem bit_ones {t : Nat} (h : t < 128) : bit allOnes t = true := by
  rw [bit_eq]
  have : allOnes = 2 ^ 128 - 1 := by decide
  rw [this, Nat.testBit_two_pow_sub_one]
  simpa using h
noncomputable def codeSee (c : Code) (nt : Nat) (E : Env) (n : Nat) (T : Tr Value) (H : AHeap) (ts : List Tmp) (bs : List Nat) : Option (List Value × List (Option (TypeId × List Value))) :=
  match codeRun E n nt c T H with
  | some (T', H') => some (ts.map fun t => evalT t ⟨.nil, T'⟩, bs.map (seeB H'))
  | none => none
theorem seg_code {owns : List Own} {σ : Nat → Value} {specs : Specs} {rws : Rws} {cons : List Con} {w0 w : World} {a : Act} {c : Code} {nt n : Nat} (ts : List Tmp) (bs : List Nat) (vs : List Value) (bl : List (Option (TypeId × List Value))) (l : List Value)
    (hrun : codeSee c nt (envS cons (postOf owns.length w0 σ specs rws)) n (Tr.ofList l) (ownHeap (owns.map fun o => (o.ty, o.cs))) ts bs = some (vs, bl)) (hl128 : l.length ≤ 128)
    (hT : ∀ (i : Nat) (v : Value), l[i]? = some v → VRel (ownPhi owns σ) v (a.tmps.getD i undef)) (hnt : a.tmps.size = nt)
    (hlen : owns.length < 1000) (hnd : owns.Pairwise fun x y => x.b ≠ y.b) (hok : ∀ o ∈ owns, OwnOk (ownPhi owns σ) w o) (hbase : Below w0.heap.size w0 w) (hown : ∀ o ∈ owns, w0.heap.size ≤ o.b)
    (hcons : ∀ c ∈ cons, ConOk (envS cons (postOf owns.length w0 σ specs rws)) c) {Q : Exit → Act → World → Prop}
    (hQ : ∀ φ w' a', Seg owns σ specs rws w0 w a ts bs vs bl φ w' a' → Q .normal a' w') : c.wp Tryz.prog Q a w := by
  have ok := envS_ok _ hcons
  have hp : ((envS cons (postOf owns.length w0 σ specs rws)).post owns.length σ).says (Foreign (ownPhi owns σ) w) w := by
    show (postOf owns.length w0 σ specs rws owns.length σ).says _ _
    unfold postOf
    rw [if_pos rfl]
    refine ⟨⟨hbase, fun b hb => ⟨Nat.lt_of_lt_of_le hb hbase.size, fun A n e => ?_⟩⟩, rfl⟩
    have e : (owns[A]?).map (fun o => (o.b, o.cs.length)) = some (b, n) := e
    cases ho : owns[A]? with
    | none => rw [ho] at e; cases e
    | some o =>
      rw [ho] at e; cases e
      have := hown o (List.mem_of_getElem? ho)
      omega
  have sim := own_sim (E := envS cons (postOf owns.length w0 σ specs rws)) hlen hnd hok hp
  have hF : FR (ownPhi owns σ) ⟨.nil, Tr.ofList l⟩ a.tmps := by
    intro t
    rw [evalT_nil]
    split
    · rename_i v hv; exact hT t v (ofList_get hv)
    · exact .top _
  have hHs : (ownHeap (owns.map fun o => (o.ty, o.cs))).size = owns.length + 1 := by show (owns.map _).length + 1 = _; rw [List.length_map]
  have hfree : ∀ H', Free (ownPhi owns σ) (ownHeap (owns.map fun o => (o.ty, o.cs))) H' := by
    intro H' A h1 h2
    rw [hHs] at h1
    refine ⟨?_, ?_⟩
    · show (owns[A]?).map _ = none
      rw [List.getElem?_eq_none (by omega)]; rfl
    · show (if A = owns.length then some σ else none) = none
      rw [if_neg (by omega)]
  have fin : ∀ T1 H' φ' w' a', some (ts.map fun t => evalT t ⟨.nil, T1⟩, bs.map (seeB H')) = some (vs, bl) → Goes (ownPhi owns σ) (ownHeap (owns.map fun o => (o.ty, o.cs))).size w φ' H'.size w' → SimL φ' (envS cons (postOf owns.length w0 σ specs rws)) H' w' → FR φ' ⟨.nil, T1⟩ a'.tmps → a'.tmps.size = nt → a'.defers = a.defers → Seg owns σ specs rws w0 w a ts bs vs bl φ' w' a' := by
    intro T1 H' φ' w' a' hs g s f h1 h2
    injection hs with hs
    injection hs with hs1 hs2
    have hst : φ'.atm owns.length = some σ := g.ext.atm _ _ (by show (if owns.length = owns.length then some σ else none) = _; rw [if_pos rfl])
    refine ⟨by rw [h1, hnt], h2, fun i t v hi hv => ?_, fun i A e cs b m hi hb hφ hc => ?_, fun i j A B b m m' x y hi hj hx hy hne h3 h4 => ?_, fun A o ho => g.ext _ _ (by show (owns[A]?).map _ = _; rw [ho]; rfl), fun A b m hA hφ => ?_, hst, fun A d tt us hA hsp hat => ?_, fun A d et sz es us hA hsp hr hat => ?_, g.size, fun b hb ho => ?_, g.os, g.tape, g.output⟩
    · subst hs1
      rw [List.getElem?_map, hi] at hv
      cases hv
      exact f t
    · subst hs2
      rw [List.getElem?_map, hi] at hb
      have hb : seeB H' A = some (e, cs) := by simpa using hb
      unfold seeB at hb
      split at hb
      · rename_i e' cs' hg
        cases hb
        obtain ⟨c, h3, C, lo, hi', rfl, h4, h5, h6, h7, h8, h9⟩ := s.has A b m _ hφ hg
        have hlen := h6 rfl
        have hlo : lo = 0 := by
          rcases h9 with h9 | h9
          · exact h9.1
          · exact absurd h9.2 (by decide)
        subst hlo
        have hhi : hi' = 0 := by
          rcases Nat.eq_zero_or_pos hi' with h | h
          · exact h
          · have := h8 0 (Nat.le_refl _) h; omega
        subst hhi
        exact ⟨C, h3, LRel.of (by rw [hlen, ← h4, Array.length_toList]) fun i v hv => by
          obtain ⟨v', h10, h11⟩ := h7 i v hv
          exact ⟨v', by rw [Array.getElem?_toList]; exact h10, h11⟩⟩
      · cases hb
    · subst hs2
      have alive : ∀ (i A : Nat) (x : TypeId × List Value), bs[i]? = some A → (bs.map (seeB H'))[i]? = some (some x) → H'.get A ≠ some .dead := by
        intro i A x hi hx hd
        rw [List.getElem?_map, hi] at hx
        have hx : seeB H' A = some x := by simpa using hx
        unfold seeB at hx
        rw [hd] at hx
        cases hx
      rcases s.inj A B b m m' hne h3 h4 with h | h
      · exact alive i A x hi hx h
      · exact alive j B y hj hy h
    · by_cases hA0 : A < (ownHeap (owns.map fun o => (o.ty, o.cs))).size ∨ H'.size ≤ A
      · rw [g.only A hA0] at hφ
        have hφ : (owns[A]?).map (fun o => (o.b, o.cs.length)) = some (b, m) := hφ
        rw [List.getElem?_eq_none hA] at hφ
        cases hφ
      · rcases g.new A b m (by omega) (by omega) hφ with h | ⟨B, k, hB, h⟩
        · exact .inl h
        · have h : (owns[B]?).map (fun o => (o.b, o.cs.length)) = some (b, k) := h
          cases ho : owns[B]? with
          | none => rw [ho] at h; cases h
          | some o => rw [ho] at h; cases h; exact .inr ⟨o, List.mem_of_getElem? ho, rfl⟩
    · have := s.post A us hat
      have this : (postOf owns.length w0 σ specs rws A us).says (Foreign φ' w') w' := this
      unfold postOf at this
      rw [if_neg hA, hsp] at this
      exact this.2.frame (fun b hb => ⟨hb.2.1, hb.2.2, hb.1.2⟩) (fun _ _ => rfl)
    · have := s.post A us hat
      have this : (postOf owns.length w0 σ specs rws A us).says (Foreign φ' w') w' := this
      unfold postOf at this
      rw [if_neg hA, hsp] at this
      have this : (match rws A with | some (d, et, sz, es) => rowClaim w0 d et sz es us | none => noClaim).says (Foreign φ' w') w' := this
      rw [hr] at this
      obtain ⟨_, xs, h5, h6, h7⟩ := this
      exact ⟨xs, h5, fun q hq => ⟨(h6 q hq).2, (h6 q hq).1.2⟩, h7⟩
    · refine g.kept b hb fun A k _ e => ?_
      have e : (owns[A]?).map (fun o => (o.b, o.cs.length)) = some (b, k) := e
      cases ho' : owns[A]? with
      | none => rw [ho'] at e; cases e
      | some o => rw [ho'] at e; cases e; exact ho o (List.mem_of_getElem? ho') rfl
  unfold codeSee at hrun
  split at hrun
  · rename_i T1 H' hr
    have htok : Tok (Tr.ofList l) := fun t v hv => by
      have := (List.getElem?_eq_some_iff.1 (ofList_get hv)).1
      have h40 : (129 : Nat) < 2 ^ 40 := by decide
      refine ⟨bit_ones (by omega), by omega⟩
    exact code_wp ok hr htok hF hnt sim (hfree H') fun φ' w' a' g s f h3 h4 _ => hQ φ' w' a' (fin T1 H' φ' w' a' hrun g s f h3 h4)
  · cases hrun
end Go.Proofs.YtmhkceeiiklfdaaGreat
set_option linter.unusedVariables false
set_option linter.unusedSimpArgs false
namespace Go.Proofs.YtmhkceeiiklfdaaGreat
open Go.RowKit Go.Abs
/-- a sequence of regions that ends with the return -/
noncomputable def codeRunT (E : Env) (n nt : Nat) : Code → Tr Value → AHeap → Option (Tr Value × AHeap)
  | .seq x y, T, H => match codeRun E n nt x T H with
    | some (T1, H1) => codeRunT E n nt y T1 H1
    | none => none
  | .ret, T, H => some (T, H)
  | _, _, _ => none
theorem codeRunT_up {E : Env} {n nt : Nat} : ∀ {c : Code} {T T' : Tr Value} {H H' : AHeap}, codeRunT E n nt c T H = some (T', H') → H.size ≤ H'.size := by
  intro c
  induction c with
  | seq x y ihx ihy =>
    intro T T' H H' h
    unfold codeRunT at h
    split at h
    · rename_i T1 H1 h1; exact Nat.le_trans (codeRun_up h1) (ihy h)
    · cases h
  | ret => intro T T' H H' h; unfold codeRunT at h; cases h; exact Nat.le_refl _
  | _ => intro T T' H H' h; unfold codeRunT at h; cases h
theorem codeT_wp {E : Env} (ok : EnvOk E) {n nt : Nat} : ∀ {c : Code} {T T' : Tr Value} {H H' : AHeap}, codeRunT E n nt c T H = some (T', H') → Tok T → ∀ {φ : Phi} {w : World} {a : Act}, FR φ ⟨.nil, T⟩ a.tmps → a.tmps.size = nt → SimL φ E H w → Free φ H H' →
    ∀ {Q : Exit → Act → World → Prop}, (∀ φ' w' a', Goes φ H.size w φ' H'.size w' → SimL φ' E H' w' → FR φ' ⟨.nil, T'⟩ a'.tmps → a'.tmps.size = nt → a'.defers = a.defers → Tok T' → Q .ret a' w') → c.wp E.prog Q a w := by
  intro c
  induction c with
  | seq x y ihx ihy =>
    intro T T' H H' h ht φ w a hF hnt sim hf Q hQ
    unfold codeRunT at h
    split at h
    · rename_i T1 H1 h1
      refine wp_seq (code_wp ok h1 ht hF hnt sim (hf.left (codeRunT_up h)) fun φ1 w1 a1 g1 s1 f1 n1 d1 t1 => ?_)
      exact ihy h t1 f1 n1 s1 (hf.right g1) fun φ2 w2 a2 g2 s2 f2 n2 d2 t2 => hQ φ2 w2 a2 (g1.trans g2) s2 f2 n2 (d2.trans d1) t2
    · cases h
  | ret =>
    intro T T' H H' h ht φ w a hF hnt sim hf Q hQ
    unfold codeRunT at h
    cases h
    exact wp_ret (hQ φ w a (Goes.refl _ _ _) sim hF hnt rfl ht)
  | _ => intro T T' H H' h; unfold codeRunT at h; cases h
noncomputable def codeSeeT (c : Code) (nt : Nat) (E : Env) (n : Nat) (T : Tr Value) (H : AHeap) (ts : List Tmp) (bs : List Nat) : Option (List Value × List (Option (TypeId × List Value))) :=
  match codeRunT E n nt c T H with
  | some (T', H') => some (ts.map fun t => evalT t ⟨.nil, T'⟩, bs.map (seeB H'))
  | none => none
theorem seg_codeT {owns : List Own} {σ : Nat → Value} {specs : Specs} {rws : Rws} {cons : List Con} {w0 w : World} {a : Act} {c : Code} {nt n : Nat} (ts : List Tmp) (bs : List Nat) (vs : List Value) (bl : List (Option (TypeId × List Value))) (l : List Value)
    (hrun : codeSeeT c nt (envS cons (postOf owns.length w0 σ specs rws)) n (Tr.ofList l) (ownHeap (owns.map fun o => (o.ty, o.cs))) ts bs = some (vs, bl)) (hl128 : l.length ≤ 128)
    (hT : ∀ (i : Nat) (v : Value), l[i]? = some v → VRel (ownPhi owns σ) v (a.tmps.getD i undef)) (hnt : a.tmps.size = nt)
    (hlen : owns.length < 1000) (hnd : owns.Pairwise fun x y => x.b ≠ y.b) (hok : ∀ o ∈ owns, OwnOk (ownPhi owns σ) w o) (hbase : Below w0.heap.size w0 w) (hown : ∀ o ∈ owns, w0.heap.size ≤ o.b)
    (hcons : ∀ c ∈ cons, ConOk (envS cons (postOf owns.length w0 σ specs rws)) c) {Q : Exit → Act → World → Prop}
    (hQ : ∀ φ w' a', Seg owns σ specs rws w0 w a ts bs vs bl φ w' a' → Q .ret a' w') : c.wp Tryz.prog Q a w := by
  have ok := envS_ok _ hcons
  have hp : ((envS cons (postOf owns.length w0 σ specs rws)).post owns.length σ).says (Foreign (ownPhi owns σ) w) w := by
    show (postOf owns.length w0 σ specs rws owns.length σ).says _ _
    unfold postOf
    rw [if_pos rfl]
    refine ⟨⟨hbase, fun b hb => ⟨Nat.lt_of_lt_of_le hb hbase.size, fun A n e => ?_⟩⟩, rfl⟩
    have e : (owns[A]?).map (fun o => (o.b, o.cs.length)) = some (b, n) := e
    cases ho : owns[A]? with
    | none => rw [ho] at e; cases e
    | some o =>
      rw [ho] at e; cases e
      have := hown o (List.mem_of_getElem? ho)
      omega
  have sim := own_sim (E := envS cons (postOf owns.length w0 σ specs rws)) hlen hnd hok hp
  have hF : FR (ownPhi owns σ) ⟨.nil, Tr.ofList l⟩ a.tmps := by
    intro t
    rw [evalT_nil]
    split
    · rename_i v hv; exact hT t v (ofList_get hv)
    · exact .top _
  have hHs : (ownHeap (owns.map fun o => (o.ty, o.cs))).size = owns.length + 1 := by show (owns.map _).length + 1 = _; rw [List.length_map]
  have hfree : ∀ H', Free (ownPhi owns σ) (ownHeap (owns.map fun o => (o.ty, o.cs))) H' := by
    intro H' A h1 h2
    rw [hHs] at h1
    refine ⟨?_, ?_⟩
    · show (owns[A]?).map _ = none
      rw [List.getElem?_eq_none (by omega)]; rfl
    · show (if A = owns.length then some σ else none) = none
      rw [if_neg (by omega)]
  have fin : ∀ T1 H' φ' w' a', some (ts.map fun t => evalT t ⟨.nil, T1⟩, bs.map (seeB H')) = some (vs, bl) → Goes (ownPhi owns σ) (ownHeap (owns.map fun o => (o.ty, o.cs))).size w φ' H'.size w' → SimL φ' (envS cons (postOf owns.length w0 σ specs rws)) H' w' → FR φ' ⟨.nil, T1⟩ a'.tmps → a'.tmps.size = nt → a'.defers = a.defers → Seg owns σ specs rws w0 w a ts bs vs bl φ' w' a' := by
    intro T1 H' φ' w' a' hs g s f h1 h2
    injection hs with hs
    injection hs with hs1 hs2
    have hst : φ'.atm owns.length = some σ := g.ext.atm _ _ (by show (if owns.length = owns.length then some σ else none) = _; rw [if_pos rfl])
    refine ⟨by rw [h1, hnt], h2, fun i t v hi hv => ?_, fun i A e cs b m hi hb hφ hc => ?_, fun i j A B b m m' x y hi hj hx hy hne h3 h4 => ?_, fun A o ho => g.ext _ _ (by show (owns[A]?).map _ = _; rw [ho]; rfl), fun A b m hA hφ => ?_, hst, fun A d tt us hA hsp hat => ?_, fun A d et sz es us hA hsp hr hat => ?_, g.size, fun b hb ho => ?_, g.os, g.tape, g.output⟩
    · subst hs1
      rw [List.getElem?_map, hi] at hv
      cases hv
      exact f t
    · subst hs2
      rw [List.getElem?_map, hi] at hb
      have hb : seeB H' A = some (e, cs) := by simpa using hb
      unfold seeB at hb
      split at hb
      · rename_i e' cs' hg
        cases hb
        obtain ⟨c, h3, C, lo, hi', rfl, h4, h5, h6, h7, h8, h9⟩ := s.has A b m _ hφ hg
        have hlen := h6 rfl
        have hlo : lo = 0 := by
          rcases h9 with h9 | h9
          · exact h9.1
          · exact absurd h9.2 (by decide)
        subst hlo
        have hhi : hi' = 0 := by
          rcases Nat.eq_zero_or_pos hi' with h | h
          · exact h
          · have := h8 0 (Nat.le_refl _) h; omega
        subst hhi
        exact ⟨C, h3, LRel.of (by rw [hlen, ← h4, Array.length_toList]) fun i v hv => by
          obtain ⟨v', h10, h11⟩ := h7 i v hv
          exact ⟨v', by rw [Array.getElem?_toList]; exact h10, h11⟩⟩
      · cases hb
    · subst hs2
      have alive : ∀ (i A : Nat) (x : TypeId × List Value), bs[i]? = some A → (bs.map (seeB H'))[i]? = some (some x) → H'.get A ≠ some .dead := by
        intro i A x hi hx hd
        rw [List.getElem?_map, hi] at hx
        have hx : seeB H' A = some x := by simpa using hx
        unfold seeB at hx
        rw [hd] at hx
        cases hx
      rcases s.inj A B b m m' hne h3 h4 with h | h
      · exact alive i A x hi hx h
      · exact alive j B y hj hy h
    · by_cases hA0 : A < (ownHeap (owns.map fun o => (o.ty, o.cs))).size ∨ H'.size ≤ A
      · rw [g.only A hA0] at hφ
        have hφ : (owns[A]?).map (fun o => (o.b, o.cs.length)) = some (b, m) := hφ
        rw [List.getElem?_eq_none hA] at hφ
        cases hφ
      · rcases g.new A b m (by omega) (by omega) hφ with h | ⟨B, k, hB, h⟩
        · exact .inl h
        · have h : (owns[B]?).map (fun o => (o.b, o.cs.length)) = some (b, k) := h
          cases ho : owns[B]? with
          | none => rw [ho] at h; cases h
          | some o => rw [ho] at h; cases h; exact .inr ⟨o, List.mem_of_getElem? ho, rfl⟩
    · have := s.post A us hat
      have this : (postOf owns.length w0 σ specs rws A us).says (Foreign φ' w') w' := this
      unfold postOf at this
      rw [if_neg hA, hsp] at this
      exact this.2.frame (fun b hb => ⟨hb.2.1, hb.2.2, hb.1.2⟩) (fun _ _ => rfl)
    · have := s.post A us hat
      have this : (postOf owns.length w0 σ specs rws A us).says (Foreign φ' w') w' := this
      unfold postOf at this
      rw [if_neg hA, hsp] at this
      have this : (match rws A with | some (d, et, sz, es) => rowClaim w0 d et sz es us | none => noClaim).says (Foreign φ' w') w' := this
      rw [hr] at this
      obtain ⟨_, xs, h5, h6, h7⟩ := this
      exact ⟨xs, h5, fun q hq => ⟨(h6 q hq).2, (h6 q hq).1.2⟩, h7⟩
    · refine g.kept b hb fun A k _ e => ?_
      have e : (owns[A]?).map (fun o => (o.b, o.cs.length)) = some (b, k) := e
      cases ho' : owns[A]? with
      | none => rw [ho'] at e; cases e
      | some o => rw [ho'] at e; cases e; exact ho o (List.mem_of_getElem? ho') rfl
  unfold codeSeeT at hrun
  split at hrun
  · rename_i T1 H' hr
    have htok : Tok (Tr.ofList l) := fun t v hv => by
      have := (List.getElem?_eq_some_iff.1 (ofList_get hv)).1
      have h40 : (129 : Nat) < 2 ^ 40 := by decide
      refine ⟨bit_ones (by omega), by omega⟩
    exact codeT_wp ok hr htok hF hnt sim (hfree H') fun φ' w' a' g s f h3 h4 _ => hQ φ' w' a' (fin T1 H' φ' w' a' hrun g s f h3 h4)
  · cases hrun
end Go.Proofs.YtmhkceeiiklfdaaGreat
set_option linter.unusedVariables false
set_option linter.unusedSimpArgs false
set_option maxRecDepth 20000
namespace Go.Proofs.YtmhkceeiiklfdaaGreat
open Go.RowKit
open Classical
theorem eq38 {P : List T → Prop} (h82 : EqC3 82 83 P) : EqC 38 P := by
  intro w d d' es fs v v' he hf pe pf
  have h := h82.fn he hf pe pf
  clear he hf
  go_enter Tryz.func38, Tryz.ntmps38
  go_wp2_with (go_at_call 82; refine (h _ (Below.refl _ _)).mono ?_; rintro e W0 ⟨rfl, hb⟩)
  go_ret
  exact ⟨_, rfl, by simp, hb⟩
theorem eq41 {P : List T → Prop} (h87 : EqC3 87 88 P) : EqC 41 P := by
  intro w d d' es fs v v' he hf pe pf
  have h := h87.fn he hf pe pf
  clear he hf
  go_enter Tryz.func41, Tryz.ntmps41
  go_wp2_with (go_at_call 87; refine (h _ (Below.refl _ _)).mono ?_; rintro e W0 ⟨rfl, hb⟩)
  go_ret
  exact ⟨_, rfl, by simp, hb⟩
theorem eq89 {P : List T → Prop} (h84 : EqC 84 P) : EqC 89 P := by
  intro w d d' es fs v v' he hf pe pf
  have h := h84.fn he hf pe pf
  clear he hf
  go_enter Tryz.func89, Tryz.ntmps89
  go_wp2_with (go_at_call 84; refine (h _ (Below.refl _ _)).mono ?_; rintro e W0 ⟨rfl, hb⟩)
  go_ret
  exact ⟨_, rfl, by simp, hb⟩
theorem walk163 (w : World) (a a' : Option Addr) (n n' c c' : Nat) (r : Bool) (h : EqFn 174 (.agg #[.slice none 0 0, .int .i64 0, .int .i64 0, .slice none 0 0, .slice none 0 0, .slice a n c]) (.agg #[.slice none 0 0, .int .i64 0, .int .i64 0, .slice none 0 0, .slice none 0 0, .slice a' n' c']) r w) :
    Calls Tryz.prog 163 #[.slice a n c, .slice a' n' c'] w fun e w' => e = .returned (.bool r) ∧ Below w.heap.size w w' := by
  go_enter Tryz.func163, Tryz.ntmps163
  go_wp2_with (go_at_call 174; refine (h _ (Below.refl _ _)).mono ?_; rintro e W0 ⟨rfl, hb⟩)
  go_ret
  exact ⟨rfl, hb⟩
set_option maxHeartbeats 1000000 in
theorem walk164 (w : World) (x0 x1 x2 x3 y0 y1 y2 y3 : Value) (r : Bool) (h : EqFn 13 (.agg #[.slice none 0 0, .slice none 0 0, .int .i64 0, .int .i64 0, .slice none 0 0, .slice none 0 0, .slice none 0 0, x0, x1, x2, x3]) (.agg #[.slice none 0 0, .slice none 0 0, .int .i64 0, .int .i64 0, .slice none 0 0, .slice none 0 0, .slice none 0 0, y0, y1, y2, y3]) r w) :
    Calls Tryz.prog 164 #[.agg #[x0, x1, x2, x3], .agg #[y0, y1, y2, y3]] w fun e w' => e = .returned (.bool r) ∧ Below w.heap.size w w' := by
  go_enter Tryz.func164, Tryz.ntmps164
  go_wp2_with (go_at_call 13; refine (h _ ?_).mono ?_; (focus (show Below _ _ _; go_grown)); rintro e W0 ⟨rfl, hW0⟩; have hb : Below w.heap.size w W0 := Below.trans (by go_grown) (hW0.mono (by go_size)))
  go_ret
  exact ⟨rfl, hb⟩
set_option maxHeartbeats 1000000 in
theorem walk98 (w : World) (x0 x1 x2 x3 y0 y1 y2 y3 : Value) (r : Bool) (h : EqFn 13 (.agg #[.slice none 0 0, .slice none 0 0, .int .i64 0, .int .i64 0, .slice none 0 0, .slice none 0 0, .slice none 0 0, x0, x1, x2, x3]) (.agg #[.slice none 0 0, .slice none 0 0, .int .i64 0, .int .i64 0, .slice none 0 0, .slice none 0 0, .slice none 0 0, y0, y1, y2, y3]) r w) :
    Calls Tryz.prog 98 #[.agg #[x0, x1, x2, x3], .agg #[y0, y1, y2, y3]] w fun e w' => e = .returned (.bool r) ∧ Below w.heap.size w w' := by
  go_enter Tryz.func98, Tryz.ntmps98
  go_wp2_with (go_at_call 13; refine (h _ ?_).mono ?_; (focus (show Below _ _ _; go_grown)); rintro e W0 ⟨rfl, hW0⟩; have hb : Below w.heap.size w W0 := Below.trans (by go_grown) (hW0.mono (by go_size)))
  go_ret
  exact ⟨rfl, hb⟩

end Go.Proofs.YtmhkceeiiklfdaaGreat
