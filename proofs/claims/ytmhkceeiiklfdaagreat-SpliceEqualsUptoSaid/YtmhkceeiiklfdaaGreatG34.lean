/- A part of the proof of SpliceEqualsUptoSaid (texts: GrSmall GrSm63 GrSm21 GrLawC). No conditions. -/
import Derived.Test.YtmhkceeiiklfdaaGreatG33
import Derived.Laws.OwnMore
import Derived.Test.YtmhkceeiiklfdaaGreatG26
import Derived.Test.YtmhkceeiiklfdaaGreatG25
import Derived.Test.YtmhkceeiiklfdaaGreatG30
import Derived.Test.YtmhkceeiiklfdaaGreatG31
set_option linter.unusedVariables false
set_option linter.unusedSimpArgs false
set_option linter.unusedVariables false
set_option linter.unusedSimpArgs false
set_option maxRecDepth 20000
namespace Go.Proofs.YtmhkceeiiklfdaaGreat
open Go.RowKit Go.Abs
theorem sm267_0 : SmC 267 (IsItem 0) := by
  intro w S d es v lv lb n hv hP hSw hl hS
  have he : es = [] := by cases es with | nil => rfl | cons c r => exact (hP c (by simp)).elim
  subst he
  obtain ⟨d, rfl⟩ : ∃ d', d = d' + 1 := by
    cases d with
    | zero => exact hv.elim
    | succ d => exact ⟨d, rfl⟩
  obtain ⟨a, cap, rfl, hm, hcap, hcell⟩ := hv
  go_enter Tryz.func267, Tryz.ntmps267
  go_wp2
  go_loopw [7] (fun i wr => i = .int .i64 0 ∧ But lb w wr) (fun i _ => 0)
  case atStart => exact ⟨rfl, But.refl hl⟩
  case round =>
    obtain ⟨rfl, hbr⟩ := hrel
    go_wp2
    go_ret
    exact ⟨_, rfl, hbr⟩
theorem smItem : ∀ n, SmC 267 (IsItem n)
  | 0 => sm267_0
  | n + 1 => sm267 (smItem n) (sm341 (smItem n))
theorem But.toBelow {w W w' : World} (hB : Below w.heap.size w W) (h : But w.heap.size W w') : Below w.heap.size w w' :=
  ⟨h.os.trans hB.os, h.tape.trans hB.tape, h.output.trans hB.output, Nat.le_trans hB.size h.size, fun b hb => (h.block b (Nat.lt_of_lt_of_le hb hB.size) (by omega)).trans (hB.block b hb)⟩
def SmI (P : List T → Prop) : Prop := ∀ (w : World) (d : Nat) (es : List (List T)) (v : Value), Rd w d (.sl es) v → (∀ c ∈ es, P c) →
    Calls Tryz.prog 160 #[v] w fun e w' => ∃ r : Bool, e = .returned (.bool r) ∧ Below w.heap.size w w'
theorem sm160 {P : List T → Prop} (h : SmC 267 P) : SmI P := by
  intro w d es v hv hP
  have key : ∀ W, Below w.heap.size w W → W.heap[w.heap.size]? = some (.cells #[.int .i64 300] 3 (0, 0)) → Calls Tryz.prog 267 #[v, .int .i64 12, .pointer (some ⟨w.heap.size, 0, none⟩)] W fun e W' => ∃ r : Bool, e = .returned (.bool r) ∧ Below w.heap.size w W' := fun W hW hc =>
    (h W (fun b => b < w.heap.size) d es v 12 w.heap.size 300 (hv.rdA.frame (fun _ h => h) fun b hb => hW.block b hb) hP (fun b hb => Nat.lt_of_lt_of_le hb hW.size) hc (Nat.lt_irrefl _)).mono fun e W' ⟨r, h1, h2⟩ => ⟨r, h1, h2.toBelow hW⟩
  have h1 := hv.one
  go_enter Tryz.func160, Tryz.ntmps160
  go_wp2_with (go_at_call 267; refine (key _ ?_ ?_).mono ?_; (focus (show Below _ _ _; go_grown)); (focus (first | exact heap_new _ _ | simp)); rintro e W1 ⟨r1, rfl, hB1⟩)
  go_ret
  exact ⟨_, rfl, hB1⟩
set_option maxHeartbeats 2000000 in
theorem sm161 (w : World) (d : Nat) (st : List T) (us : List Value) (hu : RdL w d st us) (ps : IsSet st) : Calls Tryz.prog 161 #[.agg us.toArray] w fun e w' => ∃ r : Bool, e = .returned (.bool r) ∧ Below w.heap.size w w' := by
  obtain ⟨sa, sb, se, sf, rfl, pa, pb, pe, pf⟩ := ps
  obtain ⟨s0, _, rfl, r0, hu⟩ := hu.cons
  obtain ⟨s1, _, rfl, r1, hu⟩ := hu.cons
  obtain ⟨s2, _, rfl, r2, hu⟩ := hu.cons
  obtain ⟨s3, _, rfl, r3, hu⟩ := hu.cons
  obtain rfl := hu.nil
  obtain ⟨a0, c0, rfl, hn0, hc0, get0⟩ := r0.elems (sz := 6) (fun c hc => (pa c hc).len) (by omega)
  obtain ⟨a1, c1, rfl, hn1, hc1, get1⟩ := r1.elems (sz := 2) (fun c hc => (pb c hc).len) (by omega)
  obtain ⟨a2, n2, c2, rfl⟩ := r2.rdA.slice
  obtain ⟨a3, n3, c3, rfl⟩ := r3.rdA.slice
  clear r0 r1 r2 r3
  go_enter Tryz.func161, Tryz.ntmps161
  go_wp2
  all_goals first | (go_ret; refine ⟨Or.inl rfl, ?_⟩; (show Below _ _ _); go_grown) | (go_ret; refine ⟨_, rfl, ?_⟩; (show Below _ _ _); go_grown) | skip
  go_loopw [3] (fun i wr => ∃ k : Nat, k ≤ sa.length ∧ i = .int .i64 k ∧ Below w.heap.size w wr ∧ wr.cell? ⟨w.heap.size, 0, none⟩ = some (.slice a0 sa.length c0) ∧ wr.cell? ⟨w.heap.size, 1, none⟩ = some (.slice a1 sb.length c1)) (fun i _ => sa.length - (intOf i).toNat)
  case atStart => exact ⟨0, by omega, rfl, by (show Below _ _ _); go_grown, by go_keep⟩
  case round =>
    obtain ⟨k, hk, rfl, hB, hx0, hx1⟩ := hrel
    rcases Nat.lt_or_ge k sa.length with hkn | hkn
    · obtain ⟨xi, xk, xs, xb, xn, xp, hel, _⟩ := pa _ (getD_mem hkn)
      have hek : sa[k]? = some (sa.getD k []) := by simp [List.getD, hkn]
      obtain ⟨b, off, hb, rfl, get⟩ := get0 (by omega)
      obtain ⟨u, g, q⟩ := get k 5 _ (.sl xp) hek (by rw [hel]; rfl)
      obtain ⟨aa, nn, cc, rfl⟩ := q.rdA.slice
      rw [← Nat.add_assoc] at g
      have g' := (hB.cell (p := ⟨b, off + k * 6 + 5, none⟩) hb).trans g
      clear get g q
      go_wp2
      all_goals first
        | (go_ret; exact ⟨Or.inl rfl, hB⟩)
            | (go_ret; exact ⟨_, rfl, hB⟩)
        | (refine ⟨⟨k + 1, by omega, by go_num, hB, hx0, hx1⟩, ?_⟩; simp [intOf]; omega)
    · have hke : k = sa.length := by omega
      subst hke
      go_wp2
      go_loopw [4] (fun i wr => ∃ k : Nat, k ≤ sb.length ∧ i = .int .i64 k ∧ Below w.heap.size w wr ∧ wr.cell? ⟨w.heap.size, 1, none⟩ = some (.slice a1 sb.length c1)) (fun i _ => sb.length - (intOf i).toNat)
      case atStart => exact ⟨0, by omega, rfl, hB, hx1⟩
      case round =>
        obtain ⟨k, hk, rfl, hB, hx1⟩ := hrel
        rcases Nat.lt_or_ge k sb.length with hkn | hkn
        · obtain ⟨xi, xl, hel, _⟩ := pb _ (getD_mem hkn)
          have hek : sb[k]? = some (sb.getD k []) := by simp [List.getD, hkn]
          obtain ⟨b, off, hb, rfl, get⟩ := get1 (by omega)
          obtain ⟨u, g, q⟩ := get k 1 _ (.sl xl) hek (by rw [hel]; rfl)
          obtain ⟨aa, nn, cc, rfl⟩ := q.rdA.slice
          rw [← Nat.add_assoc] at g
          have g' := (hB.cell (p := ⟨b, off + k * 2 + 1, none⟩) hb).trans g
          clear get g q
          go_wp2
          all_goals first
            | (go_ret; exact ⟨Or.inl rfl, hB⟩)
            | (go_ret; exact ⟨_, rfl, hB⟩)
            | (refine ⟨⟨k + 1, by omega, by go_num, hB, hx1⟩, ?_⟩; simp [intOf]; omega)
        · have hke : k = sb.length := by omega
          subst hke
          go_wp2
          go_ret
          first | exact ⟨Or.inr rfl, hB⟩ | exact ⟨_, rfl, hB⟩
end Go.Proofs.YtmhkceeiiklfdaaGreat
set_option linter.unusedVariables false
set_option linter.unusedSimpArgs false
set_option maxRecDepth 20000
namespace Go.Proofs.YtmhkceeiiklfdaaGreat
open Go.RowKit Go.Abs
theorem Rd.up1x {w : World} {d : Nat} {ts : List T} {vs : List Value} (h : RdL w d ts vs) : RdL w (d + 1) ts vs := ⟨h.1, fun i t ht => let ⟨u, h1, h2⟩ := h.2 i t ht; ⟨u, h1, h2.up⟩⟩
theorem Rd.sliceB {w : World} {d : Nat} {es : List (List T)} {v : Value} (h : Rd w d (.sl es) v) : ∃ a n c, v = .slice a n c ∧ n ≤ 1048576 := by
  cases d with
  | zero => exact h.elim
  | succ d => obtain ⟨a, cap, h1, h2, _⟩ := h; exact ⟨a, _, cap, h1, h2⟩
theorem append_none_cap {P : Program} {w : World} (base : Nat) (t ty e : TypeId) (i : TypeInfo) (size c : Nat) (ht : P.underlying t = some (.slice e)) (hi : P.info? e = some i)
    (v : Value) (n : Nat) (xs : List Value) (hown : w.ownsRow base e size v n xs) :
    (Builtin.append_ #[t, t] ty #[v, .slice none 0 c]).run P w = .ok v w := by
  rcases hown.2 with ⟨rfl, rfl⟩ | ⟨g, cap, cur, rfl, _, _, hnc, _⟩
  · simp [Builtin.append_, run_underlying ht, sizeOf, typeInfo, hi, Builtin.lenOf, Builtin.firstCells]
  · simp [Builtin.append_, run_underlying ht, sizeOf, typeInfo, hi, Builtin.lenOf, Builtin.firstCells, hnc, storeCells]
/-- an item of one row and others -/
theorem sm63_item {P : List T → Prop} (h2 : SmI (IsItemOf P)) {d : Nat} {rs cs : List (List T)} {w W : World} {v' v2 : Value} {news : List Value} {B : Nat} (prs : ∀ x ∈ rs, IsRow P x) (pcs : ∀ x ∈ cs, IsCell P x) (hW : Below w.heap.size w W) (hn : rs.length ≤ 20)
    (r2 : Rd w (d + 1) (.sl cs) v2) (hnews : RdAL (fun b => b < w.heap.size) w (d + 1) rs.flatten news)
    (hown : W.ownsRow B 188 6 v' (1 + rs.length) ([Value.slice none 0 0, .int .i64 0, .int .i64 0, .slice none 0 0, .slice none 0 0, v2] ++ news)) :
    ∀ W2, Below W.heap.size W W2 → W2.heap[W.heap.size]? = some (.cells #[.int .i64 7, .int .i64 0, .int .i64 0, .string ⟨#[]⟩, .slice none 0 0, .int .i64 0, .int .i64 0, .slice none 0 0, .slice none 0 0, .slice none 0 0, v'] 52 (0, 0)) →
    Calls Tryz.prog 160 #[.slice (some ⟨W.heap.size, 0, none⟩) 1 1] W2 fun e w' => ∃ r : Bool, e = .returned (.bool r) ∧ Below W2.heap.size W2 w' := by
  intro W2 hW2 hc
  let hd : List T := [.sl [], .lf (.int 0), .lf (.int 0), .sl [], .sl []]
  have hhd : IsHead hd := ⟨[], 0, 0, [], [], rfl, by simp, by simp, by simp⟩
  have rnil : ∀ d', Rd W2 (d' + 1) (.sl []) (.slice none 0 0) := fun d' => by
    show ∃ a cap, _
    exact ⟨none, 0, rfl, by simp, by simp, Or.inl rfl⟩
  have hW2' : Below w.heap.size w W2 := hW.trans (hW2.mono hW.size)
  have rrow : Rd W2 (d + 2) (.sl ((hd ++ [.sl cs]) :: rs)) v' := by
    have h1 : W2.ownsRow B 188 6 v' ((hd ++ [.sl cs]) :: rs).length ([Value.slice none 0 0, .int .i64 0, .int .i64 0, .slice none 0 0, .slice none 0 0, v2] ++ news) := by
      rw [List.length_cons, Nat.add_comm]
      exact own_below hown hW2
    have hlt := own_lt h1
    refine (own_rd (S := fun b => b < w.heap.size) (S' := fun _ => True) h1 (by simp; omega) ?_ (fun _ _ => trivial) (fun _ _ => trivial)).rd
    rw [List.flatten_cons]
    refine RdAL.append ?_ (hnews.frame (fun _ h => h) fun b hb => hW2'.block b hb)
    have rn : RdA (fun b => b < w.heap.size) W2 (d + 1) (.sl []) (.slice none 0 0) := by
      show ∃ a cap, _
      exact ⟨none, 0, rfl, by simp, by simp, Or.inl rfl⟩
    exact RdAL.mk_cons rn (RdAL.mk_cons (RdA.of_lf _ _ _ (.int 0)) (RdAL.mk_cons (RdA.of_lf _ _ _ (.int 0)) (RdAL.mk_cons rn (RdAL.mk_cons rn (RdAL.mk_cons (r2.rdA.frame (fun _ h => h) fun b hb => hW2'.block b hb) RdAL.mk_nil)))))
  let item : List T := .lf (.int 7) :: .lf (.int 0) :: .lf (.int 0) :: .lf (.str ⟨#[]⟩) :: (hd ++ [.sl [], .sl ((hd ++ [.sl cs]) :: rs)])
  refine h2 W2 (d + 3) [item] _ ?_ ?_
  · show ∃ a cap, _
    refine ⟨_, _, rfl, by simp, Nat.le_refl _, Or.inr ⟨_, _, _, _, _, rfl, hc, ?_⟩⟩
    have hrow : RdL W2 (d + 2) item [.int .i64 7, .int .i64 0, .int .i64 0, .string ⟨#[]⟩, .slice none 0 0, .int .i64 0, .int .i64 0, .slice none 0 0, .slice none 0 0, .slice none 0 0, v'] :=
      RdL.mk_cons (Rd.of_lf _ _ (.int 7)) (RdL.mk_cons (Rd.of_lf _ _ (.int 0)) (RdL.mk_cons (Rd.of_lf _ _ (.int 0)) (RdL.mk_cons (Rd.of_lf _ _ (.str ⟨#[]⟩)) (RdL.mk_cons (rnil _) (RdL.mk_cons (Rd.of_lf _ _ (.int 0)) (RdL.mk_cons (Rd.of_lf _ _ (.int 0)) (RdL.mk_cons (rnil _) (RdL.mk_cons (rnil _) (RdL.mk_cons (rnil _) (RdL.mk_cons rrow RdL.mk_nil))))))))))
    intro i t ht
    have e : ([item] : List (List T)).flatten = item := by simp
    rw [e] at ht
    obtain ⟨u, h5, h6⟩ := hrow.2 i t ht
    exact ⟨u, by simpa using h5, h6⟩
  · intro c hc
    simp only [List.mem_singleton] at hc
    subst hc
    refine ⟨7, 0, 0, _, hd, [], _, rfl, hhd, by simp, fun x hx => ?_⟩
    rcases List.mem_cons.1 hx with rfl | hx
    · exact ⟨hd, cs, rfl, hhd, pcs⟩
    · exact prs x hx
theorem wpList_wanted {P : Program} {ops : Array Oper} {Q : Exit → Act → World → Prop} {a : Act} {w : World} {rest : List Oper} {o : Oper} (hw : Region.wanted o (yielded ops a.tmps) = true)
    (h : ∀ K : Act → World → Prop, (∀ a w, wpList P ops Q rest a w → K a w) → o.wp P a w K Q) : wpList P ops Q (o :: rest) a w :=
  wpList_step fun K hK => by simp only [hw, if_true]; exact h K hK
/-- a source for append: nil, or the values -/
def Src (w : World) (d : Nat) (rs : List (List T)) (a1 : Option Addr) : Prop := (a1 = none ∧ rs = []) ∨ ∃ ad news, a1 = some ad ∧ news.length = rs.length * 6 ∧ (∀ j u, news[j]? = some u → w.cell? (ad.add j) = some u) ∧ (∀ u ∈ news, u.oneCell' = true) ∧ RdAL (fun b => b < w.heap.size) w d rs.flatten news
theorem info188b : (Tryz.prog.info? 188).map (fun i => (i.zero, i.size, i.bytes)) = some (some (.agg #[.slice none 0 0, .int .i64 0, .int .i64 0, .slice none 0 0, .slice none 0 0, .slice none 0 0]), 6, 112) := by kernel_rfl
theorem app63 {o : Oper} {a : Act} {K : Act → World → Prop} {Q : Exit → Act → World → Prop} (ho : o.op = .call { callee := .builtin .append, args := #[.tmp 41, .tmp 43], argTypes := #[26, 26] }) {W1 w : World} {cells : Array Value} (hcs : cells.size = 6) {rs : List (List T)} {a1 : Option Addr} {c1 d : Nat} (hs : a.eval (.tmp 41) = .slice (some ⟨W1.heap.size, 0, none⟩) 1 1) (hx : a.eval (.tmp 43) = .slice a1 rs.length c1) (hb : Below w.heap.size w W1) (hsrc : Src w d rs a1) (hn : rs.length ≤ 20)
    (h : ∀ v' w' news, w'.ownsRow W1.heap.size 188 6 v' (1 + rs.length) (cells.toList ++ news) → RdAL (fun b => b < w.heap.size) w d rs.flatten news → Below W1.heap.size W1 w' → K (a.put o.dst v') w') : o.wp Tryz.prog a (W1.alloc (.cells cells 188)) K Q := by
  obtain ⟨i0, hi, hz0, hz1, hz2⟩ := info_parts info188b
  have hown : (W1.alloc (.cells cells 188)).ownsRow W1.heap.size 188 6 (.slice (some ⟨W1.heap.size, 0, none⟩) 1 1) 1 cells.toList := World.ownsRow_lit W1 cells 1 (Nat.le_refl _) (by unfold maxLen; omega) (by omega)
  have hba : Below W1.heap.size W1 (W1.alloc (.cells cells 188)) := (Below.refl _ W1).alloc (Nat.le_refl _) _
  rcases hsrc with ⟨rfl, rfl⟩ | ⟨ad, news, rfl, hl, hnews, hone, hrd⟩
  · have hrun := append_none_cap (P := Tryz.prog) (w := W1.alloc (.cells cells 188)) W1.heap.size 26 o.type 188 i0 6 c1 Tryz.underlying26 hi _ 1 cells.toList hown
    unfold Oper.wp
    simp only [List.length_nil] at hx
    simp [execOp, ho, resolve, invoke, builtin, hs, hx, hrun, Result.andThen]
    exact h _ _ [] (by simpa using hown) RdAL.mk_nil hba
  · refine wp_append_own _ _ _ 26 ho W1.heap.size 188 i0 (.agg #[.slice none 0 0, .int .i64 0, .int .i64 0, .slice none 0 0, .slice none 0 0, .slice none 0 0]) 6 112 Tryz.underlying26 hi hz0 hz1 hz2 rfl (by decide) _ 1 cells.toList hs hown ad rs.length c1 news hx hl ?_ hone (by unfold maxLen; omega) (by omega) (by rw [World.size_alloc]; omega) ?_
    · intro j u hj
      have h1 := hnews j u hj
      have hlt : (ad.add j).block < w.heap.size := by
        unfold World.cell? at h1
        split at h1
        · rename_i h2; exact heap_lt h2
        · cases h1
      have h2 : W1.cell? (ad.add j) = some u := (hb.cell hlt).trans h1
      exact Lib.cell?_alloc_some _ h2
    · intro v' w' h1 h2 h3
      refine h v' w' news h1 hrd ?_
      exact hba.grown h2 (by rw [World.size_alloc]; omega) (by intro k hk; simp [Value.ownBlock] at hk; omega)
set_option maxHeartbeats 4000000 in
theorem sm63 {P : List T → Prop} (h1 : SmI P) (h2 : SmI (IsItemOf P)) (w : World) (d : Nat) (c : List T) (us : List Value) (hu : RdL w d c us) (hp : IsPiece P c) : Calls Tryz.prog 63 #[.agg us.toArray] w fun e w' => ∃ r : Bool, e = .returned (.bool r) ∧ Below w.heap.size w w' := by
  obtain ⟨it, rs, cs, h, st, rfl, pit, prs, pcs, ph, ps⟩ := hp
  obtain ⟨v0, _, rfl, r0, hu⟩ := hu.cons
  obtain ⟨v1, _, rfl, r1, hu⟩ := hu.cons
  obtain ⟨v2, _, rfl, r2, hu⟩ := hu.cons
  obtain ⟨uh, ust, rfl, rh, rst⟩ := hu.app
  obtain ⟨hpp, hi, hm, hd, hl, rfl, hq⟩ := ph
  have k161 := fun W (hW : Below w.heap.size w W) => sm161 W d st ust (rst.below hW) ps
  obtain ⟨sa, sb, se, sf, rfl, _⟩ := ps
  obtain ⟨x0, _, rfl, rx0, rh⟩ := rh.cons
  obtain ⟨x1, _, rfl, rx1, rh⟩ := rh.cons
  obtain ⟨x2, _, rfl, rx2, rh⟩ := rh.cons
  obtain ⟨x3, _, rfl, rx3, rh⟩ := rh.cons
  obtain ⟨x4, _, rfl, rx4, rh⟩ := rh.cons
  obtain rfl := rh.nil
  obtain ⟨y0, _, rfl, ry0, rst⟩ := rst.cons
  obtain ⟨y1, _, rfl, ry1, rst⟩ := rst.cons
  obtain ⟨y2, _, rfl, ry2, rst⟩ := rst.cons
  obtain ⟨y3, _, rfl, ry3, rst⟩ := rst.cons
  obtain rfl := rst.nil
  obtain ⟨ax0, nx0, cx0, rfl, hx0b⟩ := rx0.sliceB
  obtain rfl : x1 = .int .i64 hi := rx1.lf
  obtain rfl : x2 = .int .i64 hm := rx2.lf
  obtain ⟨ax3, nx3, cx3, rfl, hx3b⟩ := rx3.sliceB
  obtain ⟨ax4, nx4, cx4, rfl, hx4b⟩ := rx4.sliceB
  obtain ⟨ay0, ny0, cy0, rfl⟩ := ry0.rdA.slice
  obtain ⟨ay1, ny1, cy1, rfl⟩ := ry1.rdA.slice
  obtain ⟨ay2, ny2, cy2, rfl⟩ := ry2.rdA.slice
  obtain ⟨ay3, ny3, cy3, rfl⟩ := ry3.rdA.slice
  obtain ⟨a0, n0, c0, rfl⟩ := r0.rdA.slice
  obtain ⟨a2, n2, c2, rfl⟩ := r2.rdA.slice
  have k160 := fun W (hW : Below w.heap.size w W) => h1 W d it _ (Rd.below hW r0) pit
  obtain ⟨a1, c1, rfl, hn1, hc1, get1⟩ := r1.rows (sz := 6) (fun c hc => (prs c hc).len) (by omega)
  obtain ⟨d, rfl⟩ : ∃ d', d = d' + 1 := by
    cases d with
    | zero => exact r0.elim
    | succ d => exact ⟨d, rfl⟩
  have hsrc : Src w (d + 1) rs a1 := by
    cases a1 with
    | none =>
      left
      refine ⟨rfl, ?_⟩
      rcases Nat.eq_zero_or_pos rs.length with h | h
      · exact List.eq_nil_of_length_eq_zero h
      · obtain ⟨_, _, _, h, _⟩ := get1 h
        cases h
    | some ad =>
      right
      rcases Nat.eq_zero_or_pos rs.length with h | h
      · have : rs = [] := List.eq_nil_of_length_eq_zero h
        subst this
        exact ⟨ad, [], rfl, rfl, by simp, by simp, RdAL.mk_nil⟩
      · obtain ⟨b, off, hb, he, U, hc, hr, ho⟩ := get1 h
        cases he
        obtain ⟨xs, hxl, hxc, hxo, hxr⟩ := rows_list (w := w) (b := b) (off := off) (sz := 6) (fun c hc => (prs c hc).len) hc hr ho
        refine ⟨_, xs, rfl, hxl, ?_, hxo, ?_⟩
        · intro j u hj
          rw [Addr.add_lit]
          exact hxc j u hj
        · have h3 := Rd.up1x (hxr w (Below.refl _ _)).rd
          exact ⟨h3.1, fun i t ht => let ⟨u, h4, h5⟩ := h3.2 i t ht; ⟨u, h4, h5.rdA⟩⟩
  clear get1
  by_cases hA : rs.length ≤ 20 ∧ n2 ≤ 20 ∧ nx0 + nx3 + nx4 ≤ 60
  case neg =>
    clear k160 k161 hsrc
    have hA : 20 < rs.length ∨ (rs.length ≤ 20 ∧ 20 < n2) ∨ (rs.length ≤ 20 ∧ n2 ≤ 20 ∧ 60 < nx0 + nx3 + nx4) := by omega
    clear hu rh rst rx0 rx1 rx2 rx3 rx4 ry0 ry1 ry2 ry3
    try simp only [List.cons_append, List.nil_append, List.append_nil, List.singleton_append]
    rcases hA with hA | ⟨hA1, hA2⟩ | ⟨hA1, hA2, hA3⟩
    all_goals
      go_enter Tryz.func63, Tryz.ntmps63
      go_wp2
      go_ret
      first | refine ⟨Or.inl rfl, ?_⟩ | refine ⟨_, rfl, ?_⟩
      (show Below _ _ _); go_grown
  obtain ⟨hA1, hA2, hA3⟩ := hA
  clear hu rh rst rx0 rx1 rx2 rx3 rx4 ry0 ry1 ry2 ry3
  try simp only [List.cons_append, List.nil_append, List.append_nil, List.singleton_append]
  try simp only [List.cons_append, List.nil_append, List.append_nil, List.singleton_append] at k161
  go_enter Tryz.func63, Tryz.ntmps63
  go_wp2_with (first
    | (go_at_call 161; refine (k161 _ ?_).mono ?_; (focus (show Below _ _ _; exact hb3)); rintro e W5 ⟨b3, rfl, hW5⟩; have hb5 := hb3.trans (hW5.mono hb3.size))
    | (go_at_call 160; refine (hit _ ?_ ?_).mono ?_; (focus (show Below _ _ _; go_grown)); (focus (first | exact heap_new _ _ | simp)); rintro e W4 ⟨b2, rfl, hW4⟩; have hb4 : Below W1.heap.size W1 W4 := hvb.trans (Below.trans (by go_grown) (hW4.mono (by go_size))); have hb3 : Below w.heap.size w W4 := hb0.trans (hb4.mono hb0.size); have hbx : W4.heap[w.heap.size]? = _ := (hb4.block w.heap.size hz1).trans hbx1; have p8 : W4.cell? ⟨w.heap.size, 8, none⟩ = some (.slice ay0 ny0 cy0) := cell_at hbx 8; have p9 : W4.cell? ⟨w.heap.size, 9, none⟩ = some (.slice ay1 ny1 cy1) := cell_at hbx 9; have p10 : W4.cell? ⟨w.heap.size, 10, none⟩ = some (.slice ay2 ny2 cy2) := cell_at hbx 10; have p11 : W4.cell? ⟨w.heap.size, 11, none⟩ = some (.slice ay3 ny3 cy3) := cell_at hbx 11; clear hbx; cases b2)
    | (go_at_call 160; refine (k160 _ ?_).mono ?_; (focus (show Below _ _ _; go_grown)); rintro e W1 ⟨b1, rfl, hW1⟩; have hz0 : w.heap.size + 1 ≤ W1.heap.size := Nat.le_trans (by go_size) hW1.size; have hz1 : w.heap.size < W1.heap.size := hz0; have hb0 : Below w.heap.size w W1 := Below.trans (by go_grown) (hW1.mono (by go_size)); have hbx1 : W1.heap[w.heap.size]? = _ := (hW1.block w.heap.size (by go_size)).trans (heap_new w _); have q1 : W1.cell? ⟨w.heap.size, 1, none⟩ = some (.slice a1 rs.length c1) := cell_at hbx1 1; have q2 : W1.cell? ⟨w.heap.size, 2, none⟩ = some (.slice a2 n2 c2) := cell_at hbx1 2; cases b1)
    | (at_builtin; refine wpList_wanted (by kernel_rfl) fun K hK => ?_; refine app63 rfl rfl rfl rfl hb0 hsrc hA1 ?_; intro v' w' news hown hnews hvb; have hvs := hvb.size; obtain ⟨av, cv, rfl⟩ := own_slice hown; have hit := sm63_item h2 prs pcs (hb0.trans (hvb.mono hb0.size)) hA1 r2 hnews hown; refine hK _ _ ?_))
  all_goals (go_ret; first | refine ⟨_, rfl, ?_⟩ | refine ⟨Or.inl rfl, ?_⟩)
  all_goals first | exact hb5 | exact hb3 | exact hb0
end Go.Proofs.YtmhkceeiiklfdaaGreat
set_option linter.unusedVariables false
set_option linter.unusedSimpArgs false
set_option maxRecDepth 20000
namespace Go.Proofs.YtmhkceeiiklfdaaGreat
open Go.RowKit Go.Abs
set_option maxHeartbeats 4000000 in
theorem sm21 {n : Nat} (w : World) (d : Nat) (c : List T) (us : List Value) (hu : RdL w d c us) (hp : IsSplice (IsItem n) c) : Calls Tryz.prog 21 #[.agg us.toArray] w fun e w' => ∃ r : Bool, e = .returned (.bool r) ∧ Below w.heap.size w w' := by
  obtain ⟨k, i, a, s, p, q, rfl, pp, pq⟩ := hp
  obtain ⟨v0, _, rfl, r0, hu⟩ := hu.cons
  obtain ⟨v1, _, rfl, r1, hu⟩ := hu.cons
  obtain ⟨v2, _, rfl, r2, hu⟩ := hu.cons
  obtain ⟨v3, _, rfl, r3, hu⟩ := hu.cons
  obtain ⟨up, uq, rfl, rp, rq⟩ := hu.app
  obtain rfl : v0 = .int .i64 k := r0.lf
  obtain rfl : v1 = .int .i64 i := r1.lf
  obtain rfl : v2 = .int .i64 a := r2.lf
  obtain rfl : v3 = .int .i64 s := r3.lf
  have kp := fun W (hW : Below w.heap.size w W) => sm63 (sm160 (smItem n)) (sm160 (smItem (n + 1))) W d p up (rp.below hW) pp
  have kq := fun W (hW : Below w.heap.size w W) => sm63 (sm160 (smItem n)) (sm160 (smItem (n + 1))) W d q uq (rq.below hW) pq
  have op := rp.ones
  have oq := rq.ones
  obtain ⟨x0, x1, x2, x3, x4, x5, x6, x7, x8, x9, x10, x11, rfl⟩ := len12 (by rw [rp.1, pp.len] : up.length = 12)
  obtain ⟨y0, y1, y2, y3, y4, y5, y6, y7, y8, y9, y10, y11, rfl⟩ := len12 (by rw [rq.1, pq.len] : uq.length = 12)
  have ox0 : x0.oneCell' = true := op _ (by simp)
  have ox1 : x1.oneCell' = true := op _ (by simp)
  have ox2 : x2.oneCell' = true := op _ (by simp)
  have ox3 : x3.oneCell' = true := op _ (by simp)
  have ox4 : x4.oneCell' = true := op _ (by simp)
  have ox5 : x5.oneCell' = true := op _ (by simp)
  have ox6 : x6.oneCell' = true := op _ (by simp)
  have ox7 : x7.oneCell' = true := op _ (by simp)
  have ox8 : x8.oneCell' = true := op _ (by simp)
  have ox9 : x9.oneCell' = true := op _ (by simp)
  have ox10 : x10.oneCell' = true := op _ (by simp)
  have ox11 : x11.oneCell' = true := op _ (by simp)
  have oy0 : y0.oneCell' = true := oq _ (by simp)
  have oy1 : y1.oneCell' = true := oq _ (by simp)
  have oy2 : y2.oneCell' = true := oq _ (by simp)
  have oy3 : y3.oneCell' = true := oq _ (by simp)
  have oy4 : y4.oneCell' = true := oq _ (by simp)
  have oy5 : y5.oneCell' = true := oq _ (by simp)
  have oy6 : y6.oneCell' = true := oq _ (by simp)
  have oy7 : y7.oneCell' = true := oq _ (by simp)
  have oy8 : y8.oneCell' = true := oq _ (by simp)
  have oy9 : y9.oneCell' = true := oq _ (by simp)
  have oy10 : y10.oneCell' = true := oq _ (by simp)
  have oy11 : y11.oneCell' = true := oq _ (by simp)
  clear hu rp rq r0 r1 r2 r3 op oq
  try simp only [List.cons_append, List.nil_append, List.append_nil, List.singleton_append]
  go_enter Tryz.func21, Tryz.ntmps21
  go_wp2_with (go_at_call 63; first
    | (have hq := hb0; clear hq; refine (kq _ ?_).mono ?_; (focus (show Below _ _ _; exact hb0)); rintro e W2 ⟨b2, rfl, hW2⟩; have hb2 := hb0.trans (hW2.mono hb0.size))
    | (refine (kp _ ?_).mono ?_; (focus (show Below _ _ _; go_grown)); rintro e W1 ⟨b1, rfl, hW1⟩; have hz0 : w.heap.size + 1 ≤ W1.heap.size := Nat.le_trans (by go_size) hW1.size; have hz1 : w.heap.size < W1.heap.size := hz0; have hb0 : Below w.heap.size w W1 := Below.trans (by go_grown) (hW1.mono (by go_size)); have hbx : W1.heap[w.heap.size]? = _ := (hW1.block w.heap.size (by go_size)).trans (heap_new w _); have q16 : W1.cell? ⟨w.heap.size, 16, none⟩ = some y0 := cell_at hbx 16; have q17 : W1.cell? ⟨w.heap.size, 17, none⟩ = some y1 := cell_at hbx 17; have q18 : W1.cell? ⟨w.heap.size, 18, none⟩ = some y2 := cell_at hbx 18; have q19 : W1.cell? ⟨w.heap.size, 19, none⟩ = some y3 := cell_at hbx 19; have q20 : W1.cell? ⟨w.heap.size, 20, none⟩ = some y4 := cell_at hbx 20; have q21 : W1.cell? ⟨w.heap.size, 21, none⟩ = some y5 := cell_at hbx 21; have q22 : W1.cell? ⟨w.heap.size, 22, none⟩ = some y6 := cell_at hbx 22; have q23 : W1.cell? ⟨w.heap.size, 23, none⟩ = some y7 := cell_at hbx 23; have q24 : W1.cell? ⟨w.heap.size, 24, none⟩ = some y8 := cell_at hbx 24; have q25 : W1.cell? ⟨w.heap.size, 25, none⟩ = some y9 := cell_at hbx 25; have q26 : W1.cell? ⟨w.heap.size, 26, none⟩ = some y10 := cell_at hbx 26; have q27 : W1.cell? ⟨w.heap.size, 27, none⟩ = some y11 := cell_at hbx 27; clear hbx; cases b1))
  all_goals (go_ret; first | refine ⟨_, rfl, ?_⟩ | refine ⟨Or.inl rfl, ?_⟩)
  all_goals first | exact hb2 | exact hb0
end Go.Proofs.YtmhkceeiiklfdaaGreat
set_option linter.unusedVariables false
set_option linter.unusedSimpArgs false
namespace Go.Proofs.YtmhkceeiiklfdaaGreat
open Go.RowKit Go.Abs
/-- the pieces exchanged -/
def swapT (c : List T) : List T := c.take 4 ++ (c.drop 16 ++ (c.drop 4).take 12)
theorem swap_eq {h p q : List T} (hh : h.length = 4) (hp : p.length = 12) : swapT (h ++ (p ++ q)) = h ++ (q ++ p) := by
  unfold swapT
  have e1 : (h ++ (p ++ q)).take 4 = h := by rw [← hh, List.take_left']; rfl
  have e2 : (h ++ (p ++ q)).drop 4 = p ++ q := by rw [← hh, List.drop_left']; rfl
  have e3 : (h ++ (p ++ q)).drop 16 = q := by
    rw [show (16 : Nat) = 4 + 12 from rfl, ← List.drop_drop, e2, ← hp, List.drop_left']; rfl
  rw [e1, e2, e3, ← hp, List.take_left']
  rfl
theorem IsSplice.parts {P : List T → Prop} {c : List T} (h : IsSplice P c) : ∃ k i a s p q, c = [.lf (.int k), .lf (.int i), .lf (.int a), .lf (.int s)] ++ (p ++ q) ∧ IsPiece P p ∧ IsPiece P q := h
theorem IsSplice.swap {P : List T → Prop} {c : List T} (h : IsSplice P c) : IsSplice P (swapT c) := by
  obtain ⟨k, i, a, s, p, q, rfl, hp, hq⟩ := h.parts
  rw [swap_eq rfl hp.len]
  exact ⟨k, i, a, s, q, p, rfl, hq, hp⟩
theorem IsPiece.mono {P P' : List T → Prop} (hP : ∀ c, P c → P' c) (hc : ∀ c, IsCell P c → IsCell P' c) (hr : ∀ c, IsRow P c → IsRow P' c) {c : List T} (h : IsPiece P c) : IsPiece P' c := by
  obtain ⟨it, rs, cs, h, st, rfl, h1, h2, h3, h4, h5⟩ := h
  exact ⟨it, rs, cs, h, st, rfl, fun x hx => hP x (h1 x hx), fun x hx => hr x (h2 x hx), fun x hx => hc x (h3 x hx), h4, h5⟩
theorem swapRd {W : World} {d : Nat} {c : List T} {P : List T → Prop} (hc : IsSplice P c) {f : Nat → Value} (hr : RdL W d c ((List.range 28).map f)) : RdL W d (swapT c) ((List.range 4).map f ++ ((List.range 12).map (fun j => f (16 + j)) ++ (List.range 12).map (fun j => f (4 + j)))) := by
  obtain ⟨k, i, a, s, p, q, rfl, hp, hq⟩ := hc.parts
  rw [swap_eq rfl hp.len]
  obtain ⟨x, yz, e, rx, ryz⟩ := hr.app
  obtain ⟨y, z, rfl, ry, rz⟩ := ryz.app
  have e' : (List.range 28).map f = (List.range 4).map f ++ ((List.range 12).map (fun j => f (4 + j)) ++ (List.range 12).map (fun j => f (16 + j))) := rfl
  rw [e'] at e
  have lx : x.length = 4 := rx.1
  have ly : y.length = 12 := by rw [ry.1, hp.len]
  obtain ⟨e1, e2⟩ := List.append_inj e (by rw [lx]; simp)
  obtain ⟨e3, e4⟩ := List.append_inj e2 (by rw [ly]; simp)
  rw [e1, e3, e4]
  have join : ∀ {n : Nat} {ts ts' : List T} {vs vs' : List Value}, RdL W n ts vs → RdL W n ts' vs' → RdL W n (ts ++ ts') (vs ++ vs') := fun {n ts ts' vs vs'} h h' => by
    refine ⟨by rw [List.length_append, List.length_append, h.1, h'.1], fun i t ht => ?_⟩
    by_cases hi : i < ts.length
    · rw [List.getElem?_append_left hi] at ht
      rw [List.getElem?_append_left (by rw [h.1]; exact hi)]
      exact h.2 i t ht
    · rw [List.getElem?_append_right (by omega)] at ht
      rw [List.getElem?_append_right (by rw [h.1]; omega), h.1]
      exact h'.2 _ t ht
  exact join rx (join rz ry)
section
variable {g : Nat} {w : World} {σ : Nat → Value} {specs : Specs} {rws : Rws} {E : Env}
/-- these names tell this row -/
structure Tells (g : Nat) (w : World) (σ : Nat → Value) (specs : Specs) (d : Nat) (l : List Value) (c : List T) (u : Nat) : Prop where
  ok : l.all leafOk = true
  use : l.any (leafUses u) = true
  mem : u = g ∨ specs u ≠ none
  rd : ∀ (args : List Value) (ρ : Nat → Nat → Value) (W : World), Finds g w σ specs args ρ W → (∃ v ∈ args, uses u v = true) → RdL W d c (l.map (denLeaf ρ))
theorem any_of {args : List Value} {u : Nat} (h : ∃ v ∈ args, uses u v = true) : args.any (uses u) = true := List.any_eq_true.2 h
theorem tells_g {d i : Nat} {c : List T} {b : List Value} (hn : i + 28 ≤ 64) (hrow : (List.range 28).map (fun j => σ (i + j)) = b) (hb : RdL w d c b) : Tells g w σ specs d (atoms g i 28) c g :=
  ⟨atoms_ok _ _ _, atoms_use (by omega) (by omega), .inl rfl, fun args ρ W hf hu => by rw [atoms_den ρ hn, hf.start (any_of hu), hrow]; exact hb.below hf.below⟩
theorem swap_den (ρ : Nat → Nat → Value) {A i : Nat} (hn : i + 28 ≤ 64) : (atoms A i 4 ++ (atoms A (i + 16) 12 ++ atoms A (i + 4) 12)).map (denLeaf ρ) = (List.range 4).map (fun j => ρ A (i + j)) ++ ((List.range 12).map (fun j => ρ A (i + (16 + j))) ++ (List.range 12).map (fun j => ρ A (i + (4 + j)))) := by
  rw [List.map_append, List.map_append, atoms_den ρ (by omega), atoms_den ρ (by omega), atoms_den ρ (by omega)]
  simp only [Nat.add_assoc]
theorem swap_ok (A i : Nat) : (atoms A i 4 ++ (atoms A (i + 16) 12 ++ atoms A (i + 4) 12)).all leafOk = true := by
  rw [List.all_append, List.all_append, atoms_ok, atoms_ok, atoms_ok]; rfl
theorem swap_use {A i : Nat} (h : i + 28 ≤ 64) : (atoms A i 4 ++ (atoms A (i + 16) 12 ++ atoms A (i + 4) 12)).any (leafUses A) = true := by
  rw [List.any_append, atoms_use (by omega) (by omega)]; rfl
theorem tells_gs {d i : Nat} {c : List T} {P : List T → Prop} {b : List Value} (hn : i + 28 ≤ 64) (hc : IsSplice P c) (hrow : (List.range 28).map (fun j => σ (i + j)) = b) (hb : RdL w d c b) : Tells g w σ specs d (atoms g i 4 ++ (atoms g (i + 16) 12 ++ atoms g (i + 4) 12)) (swapT c) g :=
  ⟨swap_ok _ _, swap_use hn, .inl rfl, fun args ρ W hf hu => by
    rw [swap_den ρ hn, hf.start (any_of hu)]
    exact swapRd (f := fun j => σ (i + j)) hc (by rw [hrow]; exact hb.below hf.below)⟩
theorem tells_a {A d : Nat} {c : List T} (hs : specs A = some (d, c)) (hA : A ≠ g) (hl : c.length = 28) : Tells g w σ specs d (atoms A 0 28) c A :=
  ⟨atoms_ok _ _ _, atoms_use (by omega) (by omega), .inr (by rw [hs]; exact fun h => by cases h), fun args ρ W hf hu => by
    rw [atoms_den ρ (by omega)]
    have := (hf.has A d c hA hs (any_of hu)).rd
    rw [hl] at this
    simpa [row] using this⟩
theorem tells_as {A d : Nat} {c : List T} {P : List T → Prop} (hc : IsSplice P c) (hs : specs A = some (d, c)) (hA : A ≠ g) : Tells g w σ specs d (atoms A 0 4 ++ (atoms A 16 12 ++ atoms A 4 12)) (swapT c) A :=
  ⟨swap_ok A 0, swap_use (i := 0) (by omega), .inr (by rw [hs]; exact fun h => by cases h), fun args ρ W hf hu => by
    have e := swap_den ρ (A := A) (i := 0) (by omega)
    simp only [Nat.zero_add] at e
    rw [e]
    have := (hf.has A d c hA hs (any_of hu)).rd
    rw [hc.len] at this
    exact swapRd (f := fun j => ρ A j) hc this⟩
theorem con_eq (hP : E.prog = Tryz.prog) (hE : E.post = postOf g w σ specs rws) {f : FuncId} {P : List T → Prop} (heq : EqV f P) {A d1 d2 u1 u2 : Nat} {l1 l2 : List Value} {c1 c2 : List T} (r : Bool) (hr : r = true ↔ c1 = c2) (h1 : Tells g w σ specs d1 l1 c1 u1) (h2 : Tells g w σ specs d2 l2 c2 u2) (p1 : P c1) (p2 : P c2) (hs : specs A = none) (hr0 : rws A = none) (hA : A ≠ g) :
    ConOk E ⟨A, f, [.agg ⟨l1⟩, .agg ⟨l2⟩], .bool r⟩ := by
  have m1 : ∃ v ∈ [Value.agg ⟨l1⟩, .agg ⟨l2⟩], uses u1 v = true := ⟨.agg ⟨l1⟩, by simp, h1.use⟩
  have m2 : ∃ v ∈ [Value.agg ⟨l1⟩, .agg ⟨l2⟩], uses u2 v = true := ⟨.agg ⟨l2⟩, by simp, h2.use⟩
  refine conOk_st hP hE u1 hs hr0 hA ?_ (any_of m1) h1.mem r rfl fun ρ W hf => ?_
  · show ([Value.agg ⟨l1⟩, .agg ⟨l2⟩].all argOk) = true
    simp only [List.all_cons, List.all_nil, Bool.and_true, Bool.and_eq_true]
    exact ⟨h1.ok, h2.ok⟩
  · show Calls _ f #[.agg ⟨l1.map (denLeaf ρ)⟩, .agg ⟨l2.map (denLeaf ρ)⟩] W _
    refine (heq W d1 d2 c1 c2 _ _ (h1.rd _ ρ W hf m1) (h2.rd _ ρ W hf m2) p1 p2).mono ?_
    rintro e W' ⟨r', rfl, hr', hB⟩
    have : r' = r := Bool.eq_iff_iff.2 (hr'.trans hr.symm)
    subst this
    exact ⟨rfl, hB⟩
theorem con_clone (hP : E.prog = Tryz.prog) (hE : E.post = postOf g w σ specs rws) {f : FuncId} {P : List T → Prop} (hcl : ClV f P) {A d u : Nat} {l : List Value} {c : List T} (h1 : Tells g w σ specs d l c u) (p1 : P c) (hl : c.length = 28) (hs : specs A = some (d, c)) (hA : A ≠ g) :
    ConOk E ⟨A, f, [.agg ⟨l⟩], .agg ⟨atoms A 0 28⟩⟩ := by
  have m1 : ∃ v ∈ [Value.agg ⟨l⟩], uses u v = true := ⟨.agg ⟨l⟩, by simp, h1.use⟩
  refine conOk_cp hP hE u hs hA ?_ (any_of m1) h1.mem (atoms_ok _ _ _) (atoms_only (by omega)) fun ρ W hf => ?_
  · simp only [List.all_cons, List.all_nil, Bool.and_true]; exact h1.ok
  · show Calls _ f #[.agg ⟨l.map (denLeaf ρ)⟩] W _
    refine (hcl W d c _ (h1.rd _ ρ W hf m1) p1).mono ?_
    rintro e W' ⟨us', rfl, hr, hB⟩
    refine ⟨us', ?_, hr, hB⟩
    have e1 : (List.range 28).map (fun j => us'.getD (0 + j) (.bool false)) = us' := by
      simp only [Nat.zero_add]
      exact nm_row (us := us') (n := 28) (by rw [hr.1, hl])
    rw [den_atoms _ (by omega), e1]
end
end Go.Proofs.YtmhkceeiiklfdaaGreat
