/- A part of the proof of SpliceEqualsUptoSaid (texts: GrC137). No conditions. -/
import Derived.Test.YtmhkceeiiklfdaaGreatG24
set_option linter.unusedVariables false
set_option linter.unusedSimpArgs false
set_option linter.unusedVariables false
set_option linter.unusedSimpArgs false
set_option maxRecDepth 1000000
namespace Go.Proofs.YtmhkceeiiklfdaaGreat
open Go.RowKit Go.Abs
def cons137 : List Con := [⟨3, 238, [.chan (some (2 * 64 + 0 + 2))], .chan (some (3 * 64 + 0 + 2))⟩, ⟨4, 239, [.chan (some (2 * 64 + 1 + 2))], .chan (some (4 * 64 + 0 + 2))⟩, ⟨5, 240, [.chan (some (2 * 64 + 2 + 2))], .chan (some (5 * 64 + 0 + 2))⟩, ⟨6, 241, [.chan (some (2 * 64 + 3 + 2))], .chan (some (6 * 64 + 0 + 2))⟩]
theorem con_row {g : Nat} {w : World} {σ : Nat → Value} {specs : Specs} {rws : Rws} {E : Env} (hP : E.prog = Tryz.prog) (hE : E.post = postOf g w σ specs rws) {A f i d st et sz : Nat} {es : List (List T)} {P : List T → Prop} (hcl : ClC2 f st et sz P) (hs : specs A = none) (hr : rws A = some (d, et, sz, es)) (hA : A ≠ g) (hn : i < 64) (hPt : ∀ c ∈ es, P c) (hsz : ∀ c ∈ es, c.length = sz) (hb : Rd w (d + 1) (.sl es) (σ i)) :
    ConOk E ⟨A, f, [.chan (some (g * 64 + i + 2))], .chan (some (A * 64 + 0 + 2))⟩ := by
  have hu : leafUses g (.chan (some (g * 64 + i + 2))) = true := atom_use hn
  have hu' : List.any [Value.chan (some (g * 64 + i + 2))] (uses g) = true := by simp only [List.any_cons, List.any_nil, Bool.or_false]; exact hu
  refine conOk_row hP hE g hs hr hA rfl hu' (.inl rfl) (fun v => ?_) ?_ rfl fun ρ W hf => ?_
  · have := atom_den (fun _ _ => v) (A := A) (i := 0) (by omega)
    exact this
  · show ((A * 64 + 0) / 64 == A) = true
    rw [show (A * 64 + 0) / 64 = A by omega]; simp
  have e0 : ρ g = σ := hf.start hu'
  show Calls _ f ⟨[denLeaf ρ (.chan (some (g * 64 + i + 2)))]⟩ W _
  rw [atom_den ρ hn, e0]
  refine (hcl W (d + 1) es (σ i) (hb.below hf.below) hPt).mono ?_
  rintro e W' ⟨v', xs, rfl, ho, hx, hB, hsrc⟩
  refine ⟨v', xs, rfl, ?_, ho, src_rd hb hf.below (Below.trans hf.below (hB.mono hf.below.size)) hsrc hx.1, hB⟩
  obtain ⟨_, h2 | ⟨q, cap, cur, h3, _⟩⟩ := ho
  · rw [h2.1]; rfl
  · rw [h3]; rfl
theorem r58 (u : Nat → Value) : ((List.range 58).map u).toArray = #[u 0, u 1, u 2, u 3, u 4, u 5, u 6, u 7, u 8, u 9, u 10, u 11, u 12, u 13, u 14, u 15, u 16, u 17, u 18, u 19, u 20, u 21, u 22, u 23, u 24, u 25, u 26, u 27, u 28, u 29, u 30, u 31, u 32, u 33, u 34, u 35, u 36, u 37, u 38, u 39, u 40, u 41, u 42, u 43, u 44, u 45, u 46, u 47, u 48, u 49, u 50, u 51, u 52, u 53, u 54, u 55, u 56, u 57] := rfl
set_option maxHeartbeats 1000000 in
theorem cv137 : ClV 137 IsSet := by
  rintro w d c us hu ⟨sa, sb, se, sf, rfl, pa, pb, pe, pf⟩
  have hone := nm_one hu
  obtain ⟨x0, _, rfl, r0, hu⟩ := hu.cons
  obtain ⟨x1, _, rfl, r1, hu⟩ := hu.cons
  obtain ⟨x2, _, rfl, r2, hu⟩ := hu.cons
  obtain ⟨x3, _, rfl, r3, hu⟩ := hu.cons
  obtain rfl := hu.nil
  obtain ⟨d, rfl⟩ : ∃ d', d = d' + 1 := by
    cases d with
    | zero => exact r0.elim
    | succ d => exact ⟨d, rfl⟩
  go_enter Tryz.func137, Tryz.ntmps137
  go_wp2
  refine seg_wp (owns := [⟨w.heap.size, 40, atoms 2 0 4⟩, ⟨w.heap.size + 1, 40, [.slice none 0 0, .slice none 0 0, .slice none 0 0, .slice none 0 0]⟩]) (σ := nm [x0, x1, x2, x3])
    (specs := fun _ => none) (rws := fun A => match A with | 3 => some (d, 168, 6, sa) | 4 => some (d, 91, 2, sb) | 5 => some (d, 103, 6, se) | 6 => some (d, 106, 2, sf) | _ => none) (cons := cons137) (w0 := w) (n := 100000) true
    [2, 3] [0, 1, 7] [.pointer (some ⟨1, 0, none⟩), .pointer (some ⟨7, 0, none⟩)] [some (40, atoms 2 0 4), some (40, [.slice none 0 0, .slice none 0 0, .slice none 0 0, .slice none 0 0]), some (40, [.chan (some (3 * 64 + 0 + 2)), .chan (some (4 * 64 + 0 + 2)), .chan (some (5 * 64 + 0 + 2)), .chan (some (6 * 64 + 0 + 2))])]
    [.tuple #[], .pointer (some ⟨0, 0, none⟩), .pointer (some ⟨1, 0, none⟩)] (by kernel_rfl) ?hT rfl (by show 2 < 1000; omega) ?hnd ?hok ?hbase ?hown ?hcons (fun φ w' a' hs => ?_)
  case hT => exact lrel_tmps (l' := [.agg #[x0, x1, x2, x3], .pointer (some ⟨w.heap.size, 0, none⟩), .pointer (some ⟨w.heap.size + 1, 0, none⟩)]) (.cons _ _ _ _ (.top _) (.cons _ _ _ _ (.ptr 0 0 _ 4 rfl) (.cons _ _ _ _ (.ptr 1 0 _ 4 rfl) .nil))) (fun i v h => by
    match i with
    | 0 => cases h; rfl
    | 1 => cases h; rfl
    | 2 => cases h; rfl
    | i + 3 => cases h)
  case hnd => simp
  case hok =>
    refine List.forall_mem_cons.2 ⟨?_, forall_one ?_⟩
    · refine own_row (C := #[x0, x1, x2, x3]) ?_ (own_names hone rfl (by omega))
      rw [Below.heap_alloc _ _ _ (by go_size)]
      exact heap_new w _
    · refine own_row (C := #[.slice none 0 0, .slice none 0 0, .slice none 0 0, .slice none 0 0]) ?_ (.cons _ _ _ _ (.sliceNil _ _) (.cons _ _ _ _ (.sliceNil _ _) (.cons _ _ _ _ (.sliceNil _ _) (.cons _ _ _ _ (.sliceNil _ _) .nil))))
      have := heap_new (w.alloc (Obj.cells #[x0, x1, x2, x3] 40)) (Obj.cells #[.slice none 0 0, .slice none 0 0, .slice none 0 0, .slice none 0 0] 40)
      rwa [show (w.alloc (Obj.cells #[x0, x1, x2, x3] 40)).heap.size = w.heap.size + 1 by go_size] at this
  case hbase => go_grown
  case hown => exact List.forall_mem_cons.2 ⟨Nat.le_refl _, forall_one (Nat.le_succ _)⟩
  case hcons =>
    exact forall_four
      (con_row (g := 2) (A := 3) (i := 0) rfl (postE _ _) (cls238 IsStyle (fun c h => h.len)) rfl rfl (by decide) (by decide) pa (fun c hc => (pa c hc).len) r0)
      (con_row (g := 2) (A := 4) (i := 1) rfl (postE _ _) (cls239 IsList (fun c h => h.len)) rfl rfl (by decide) (by decide) pb (fun c hc => (pb c hc).len) r1)
      (con_row (g := 2) (A := 5) (i := 2) rfl (postE _ _) (cls240 IsComment (fun c h => lenComment h)) rfl rfl (by decide) (by decide) pe (fun c hc => lenComment (pe c hc)) r2)
      (con_row (g := 2) (A := 6) (i := 3) rfl (postE _ _) (cls241 IsVar (fun c h => lenVar h)) rfl rfl (by decide) (by decide) pf (fun c hc => lenVar (pf c hc)) r3)
  obtain ⟨u, ha', hu⟩ := act_list a' (n := 58) hs.size
  have hd' : a'.defers = [] := hs.defers
  rw [hd', r58] at ha'
  have o0 := hs.own 0 _ rfl
  have o1 := hs.own 1 _ rfl
  have t2 : u 2 = .pointer (some ⟨w.heap.size + 1, 0, none⟩) := by
    have := hs.tmp 0 2 _ rfl rfl
    rw [hu 2 (by omega)] at this
    obtain ⟨b, n, h1, h2⟩ := this.ptr_inv
    rw [o1] at h1; cases h1
    exact h2
  obtain ⟨b3, n3, hφ3, t3⟩ : ∃ b3 n3, φ 7 = some (b3, n3) ∧ u 3 = .pointer (some ⟨b3, 0, none⟩) := by
    have := hs.tmp 1 3 _ rfl rfl
    rw [hu 3 (by omega)] at this
    exact this.ptr_inv
  obtain ⟨C, hb3, hC⟩ := hs.blk 2 7 _ _ _ _ rfl rfl hφ3 (by decide)
  obtain ⟨C1, hb1, hC1⟩ := hs.blk 1 1 _ _ _ _ rfl rfl o1 (by decide)
  obtain rfl : C1 = #[.slice none 0 0, .slice none 0 0, .slice none 0 0, .slice none 0 0] := Array.ext' (denLeaves_eq hC1 (by rfl))
  have ne31 : b3 ≠ w.heap.size + 1 := by
    rintro rfl
    exact hs.apart 2 1 7 1 _ _ _ _ _ rfl rfl rfl rfl (by decide) hφ3 o1
  have ge3 : w.heap.size + 2 ≤ b3 := by
    rcases hs.fresh 7 b3 n3 (by show 2 ≤ 7; omega) hφ3 with h | ⟨o, ho, h⟩
    · simpa using h
    · rcases List.mem_cons.1 ho with rfl | ho
      · subst h
        exact (hs.apart 2 0 7 0 _ _ _ _ _ rfl rfl rfl rfl (by decide) hφ3 o0).elim
      · rw [List.mem_singleton] at ho
        subst ho
        exact absurd h.symm ne31
  have names : ∀ v v' : Value, LRel φ [v] [v'] → VRel φ v v' := fun v v' h => by cases h; assumption
  obtain ⟨C⟩ := C
  cases hC with
  | cons _ y0 _ _ q0 hC =>
  cases hC with
  | cons _ y1 _ _ q1 hC =>
  cases hC with
  | cons _ y2 _ _ q2 hC =>
  cases hC with
  | cons _ y3 _ _ q3 hC =>
  cases hC
  obtain ⟨s0, g0, rfl⟩ := named_of (A := 3) (i := 0) (by omega) q0
  obtain ⟨s1, g1, rfl⟩ := named_of (A := 4) (i := 0) (by omega) q1
  obtain ⟨s2, g2, rfl⟩ := named_of (A := 5) (i := 0) (by omega) q2
  obtain ⟨s3, g3, rfl⟩ := named_of (A := 6) (i := 0) (by omega) q3
  obtain ⟨xs0, ow0, of0, rx0⟩ := hs.row 3 _ _ _ _ _ (by show 3 ≠ 2; decide) rfl rfl g0
  obtain ⟨xs1, ow1, of1, rx1⟩ := hs.row 4 _ _ _ _ _ (by show 4 ≠ 2; decide) rfl rfl g1
  obtain ⟨xs2, ow2, of2, rx2⟩ := hs.row 5 _ _ _ _ _ (by show 5 ≠ 2; decide) rfl rfl g2
  obtain ⟨xs3, ow3, of3, rx3⟩ := hs.row 6 _ _ _ _ _ (by show 6 ≠ 2; decide) rfl rfl g3
  have hbl : Below w.heap.size w w' := ⟨hs.os, hs.tape, hs.output, Nat.le_trans (by go_size) hs.grow, fun b hb => (hs.kept b (by go_size) (by
    intro o ho
    rcases List.mem_cons.1 ho with rfl | ho
    · simp; omega
    · rw [List.mem_singleton] at ho; subst ho; simp; omega)).trans (by rw [Below.heap_alloc _ _ _ (by go_size), Below.heap_alloc _ _ _ (by omega)])⟩
  have hsz3 : b3 < w'.heap.size := heap_lt hb3
  have hsz1 : w.heap.size + 2 ≤ w'.heap.size := Nat.le_trans (by go_size) hs.grow
  have ob0 : ∀ q, (s0 0).ownBlock = some q → q < w'.heap.size ∧ q ≠ b3 ∧ q ≠ w.heap.size + 1 := fun q hq => ⟨(of0 q hq).1, fun e => (of0 q hq).2 7 n3 (by rw [e]; exact hφ3), fun e => (of0 q hq).2 1 4 (by rw [e]; exact o1)⟩
  have ob1 : ∀ q, (s1 0).ownBlock = some q → q < w'.heap.size ∧ q ≠ b3 ∧ q ≠ w.heap.size + 1 := fun q hq => ⟨(of1 q hq).1, fun e => (of1 q hq).2 7 n3 (by rw [e]; exact hφ3), fun e => (of1 q hq).2 1 4 (by rw [e]; exact o1)⟩
  have ob2 : ∀ q, (s2 0).ownBlock = some q → q < w'.heap.size ∧ q ≠ b3 ∧ q ≠ w.heap.size + 1 := fun q hq => ⟨(of2 q hq).1, fun e => (of2 q hq).2 7 n3 (by rw [e]; exact hφ3), fun e => (of2 q hq).2 1 4 (by rw [e]; exact o1)⟩
  have ob3 : ∀ q, (s3 0).ownBlock = some q → q < w'.heap.size ∧ q ≠ b3 ∧ q ≠ w.heap.size + 1 := fun q hq => ⟨(of3 q hq).1, fun e => (of3 q hq).2 7 n3 (by rw [e]; exact hφ3), fun e => (of3 q hq).2 1 4 (by rw [e]; exact o1)⟩
  rw [ha', t2, t3]
  clear hs hφ3 of0 of1 of2 of3 o0 o1 g0 g1 g2 g3 names q0 q1 q2 q3 ha' hd' hC1 hu
  obtain ⟨a0, k0, e0⟩ := own_slice ow0
  rw [e0] at ow0 ob0 hb3
  obtain ⟨a1, k1, e1⟩ := own_slice ow1
  rw [e1] at ow1 ob1 hb3
  obtain ⟨a2, k2, e2⟩ := own_slice ow2
  rw [e2] at ow2 ob2 hb3
  obtain ⟨a3, k3, e3⟩ := own_slice ow3
  rw [e3] at ow3 ob3 hb3
  clear e0 e1 e2 e3 s0 s1 s2 s3
  obtain ⟨n0, hn0⟩ : ∃ n, sa.length = n := ⟨_, rfl⟩
  have hm0 : n0 ≤ 1048576 := by obtain ⟨_, _, _, h, _⟩ := r0; omega
  rw [hn0] at ow0 ob0 hb3
  obtain ⟨n1, hn1⟩ : ∃ n, sb.length = n := ⟨_, rfl⟩
  have hm1 : n1 ≤ 1048576 := by obtain ⟨_, _, _, h, _⟩ := r1; omega
  rw [hn1] at ow1 ob1 hb3
  obtain ⟨n2, hn2⟩ : ∃ n, se.length = n := ⟨_, rfl⟩
  have hm2 : n2 ≤ 1048576 := by obtain ⟨_, _, _, h, _⟩ := r2; omega
  rw [hn2] at ow2 ob2 hb3
  obtain ⟨n3, hn3⟩ : ∃ n, sf.length = n := ⟨_, rfl⟩
  have hm3 : n3 ≤ 1048576 := by obtain ⟨_, _, _, h, _⟩ := r3; omega
  rw [hn3] at ow3 ob3 hb3
  have hc0 : w'.cell? ⟨b3, 0, none⟩ = some (.slice a0 n0 k0) := by rw [cell_at hb3]; rfl
  have hww : w.heap.size ≤ w'.heap.size := by omega
  go_wp2
  go_loopw [22] (fun i wr => ∃ (k : Nat) (xs1 xs2 : List Value), k ≤ n0 ∧ i = .int .i64 k ∧ wr.ownsRow w.heap.size 168 6 (.slice a0 n0 k0) n0 (xs1 ++ xs2) ∧ RdAL (fun b => w'.heap.size ≤ b ∧ b < wr.heap.size) wr d (sa.take k).flatten xs1 ∧ RdAL (fun b => b < w.heap.size) wr d (sa.drop k).flatten xs2 ∧ Below w.heap.size w wr ∧ w'.heap.size ≤ wr.heap.size ∧ ∀ b, b < w'.heap.size → (Value.slice a0 n0 k0).ownBlock ≠ some b → wr.heap[b]? = w'.heap[b]?) (fun i _ => n0 - (intOf i).toNat)
  case atStart => exact ⟨0, [], xs0, by omega, rfl, by simpa using ow0, RdAL.mk_nil, by simpa using rx0, hbl, Nat.le_refl _, fun _ _ _ => rfl⟩
  case round =>
    obtain ⟨k, ys, zs, hk, rfl, hown, hr1, hr2, hblr, hszr, hkept⟩ := hrel
    rcases Nat.lt_or_ge k n0 with hkn | hkn
    · have hk' : k < sa.length := by omega
      obtain ⟨q, rfl⟩ : ∃ q, a0 = some ⟨q, 0, none⟩ := by
        obtain ⟨_, ⟨_, h3⟩ | ⟨g, c, cur, h2, _⟩⟩ := hown
        · omega
        · cases h2; exact ⟨g, rfl⟩
      rw [drop_flat hk'] at hr2
      obtain ⟨el, rest, rfl, he, hrest⟩ := hr2.split
      obtain ⟨i1, i2, i3, i4, i5, p, hst, hp⟩ := pa _ (getD_mem hk')
      rw [hst] at he
      obtain ⟨v0, _, rfl, j0, he⟩ := he.cons
      obtain ⟨v1, _, rfl, j1, he⟩ := he.cons
      obtain ⟨v2, _, rfl, j2, he⟩ := he.cons
      obtain ⟨v3, _, rfl, j3, he⟩ := he.cons
      obtain ⟨v4, _, rfl, j4, he⟩ := he.cons
      obtain ⟨v5, _, rfl, j5, he⟩ := he.cons
      obtain rfl := he.nil
      have hlen : ys.length = k * 6 := by rw [hr1.1]; exact flat_len (fun c hc => (pa c hc).len) (by omega)
      obtain ⟨q1, q2, q3⟩ := ob0 q rfl
      obtain ⟨hce, hcf⟩ := own_cell hown (j := k * 6 + 5) (u := v5) (by rw [List.getElem?_append_right (by omega), hlen, Nat.add_sub_cancel_left]; rfl)
      have hcb : wr.cell? ⟨b3, 0, none⟩ = some (.slice (some ⟨q, 0, none⟩) n0 k0) := by
        have := hkept b3 hsz3 (by intro h; exact q2 (Option.some.inj h))
        unfold World.cell?
        unfold World.cell? at hc0
        simp only at hc0 ⊢
        rw [this]; exact hc0
      have hqr : q < wr.heap.size := by omega
      have hbr : b3 < wr.heap.size := by omega
      have hcall : ∀ W, Below wr.heap.size wr W → Calls Tryz.prog 226 #[v5] W fun e w' => ∃ v', e = .returned v' ∧ RdA (fun b => W.heap.size ≤ b ∧ b < w'.heap.size) w' d (.sl p) v' ∧ Below W.heap.size W w' := fun W hW => fl226 W d p v5 (j5.rd.below hW) hp
      clear hc0 hb3 hb1 ow1 rx1 ow2 rx2 ow3 rx3 ob1 ob2 ob3
      go_wp2
      · go_region_with (go_at_call 226; refine (hcall _ ?_).mono ?_; (focus (show Below _ _ _; go_grown)); rintro e W1 ⟨v', rfl, hrv, hW1⟩; obtain ⟨a', n', c', rfl⟩ := hrv.slice; have hc1 := below_cell (hW1.mono (B' := wr.heap.size) (by go_size)); have hf1 := below_frozen (hW1.mono (B' := wr.heap.size) (by go_size)); have hB1 : Below wr.heap.size wr W1 := Below.trans (by go_grown) (hW1.mono (by go_size)))
        all_goals go_wp2
        all_goals (
          obtain ⟨z1, z2, z3, z4, z5, z6⟩ := row_step (pre := [v0, v1, v2, v3, v4]) (old := v5) (tpre := [.lf (.int i1), .lf (.int i2), .lf (.str i3), .lf (.int i4), .lf (.int i5)]) (t := .sl p) hk' hst (by simp) rfl hown hlen hr1 (.mk_cons j0 (.mk_cons j1 (.mk_cons j2 (.mk_cons j3 (.mk_cons j4 .mk_nil))))) hrest hblr hww hszr q1 hkept (by go_size) hrv hB1
          refine ⟨⟨k + 1, _, rest, by omega, by go_num, z1, z2, z3, z4, z5, z6⟩, ?_⟩
          simp [intOf]; omega)
    · have hke : k = n0 := by omega
      subst hke
      have ez : zs = [] := by
        have := hr2.1
        rw [List.drop_of_length_le (by omega)] at this
        exact List.eq_nil_of_length_eq_zero this
      subst ez
      rw [List.append_nil] at hown
      rw [List.take_of_length_le (by omega)] at hr1
      clear hr2 hc0 hkn
      have ap : ∀ q, (Value.slice a0 k k0).ownBlock = some q → (Value.slice a1 n1 k1).ownBlock ≠ some q := own_apart ow0 ow1 (by decide)
      have ow1 := own_kept ow1 hkept (own_apart ow0 ow1 (by decide))
      have ow2 := own_kept ow2 hkept (own_apart ow0 ow2 (by decide))
      have ow3 := own_kept ow3 hkept (own_apart ow0 ow3 (by decide))
      have hb3 : wr.heap[b3]? = _ := (hkept b3 hsz3 (fun e => (ob0 b3 e).2.1 rfl)).trans hb3
      have hb1 : wr.heap[w.heap.size + 1]? = _ := (hkept (w.heap.size + 1) (by omega) (fun e => (ob0 _ e).2.2 rfl)).trans hb1
      have rx1 := rx1.frame (S' := fun b => b < w.heap.size) (w' := wr) (fun _ h => h) (fun b hb => hkept b (by omega) (fun e => by have := (own_lt ow0 b e).1; omega))
      have rx2 := rx2.leaf (S' := fun _ => True) (w' := wr) (d' := d) (by
        intro t ht
        obtain ⟨c, hc, ht⟩ := List.mem_flatten.1 ht
        obtain ⟨z0, z1, z2, z3, z4, z5, rfl⟩ := pe c hc
        simp at ht
        rcases ht with rfl | rfl | rfl | rfl | rfl | rfl <;> exact ⟨_, rfl⟩)
      have rx3 := rx3.leaf (S' := fun _ => True) (w' := wr) (d' := d) (by
        intro t ht
        obtain ⟨c, hc, ht⟩ := List.mem_flatten.1 ht
        obtain ⟨z0, z1, rfl⟩ := pf c hc
        simp at ht
        rcases ht with rfl | rfl <;> exact ⟨_, rfl⟩)
      have hc1 : wr.cell? ⟨b3, 1, none⟩ = some (.slice a1 n1 k1) := by rw [cell_at hb3]; rfl
      have hszb : b3 < wr.heap.size := by omega
      have ob1' : ∀ q, (Value.slice a1 n1 k1).ownBlock = some q → q < w'.heap.size := fun q hq => (ob1 q hq).1
      have ob1 : ∀ q, (Value.slice a1 n1 k1).ownBlock = some q → q < wr.heap.size ∧ q ≠ b3 ∧ q ≠ w.heap.size + 1 := fun q hq => ⟨by have := (ob1 q hq).1; omega, (ob1 q hq).2⟩
      have hwwr : w.heap.size ≤ wr.heap.size := by omega
      obtain ⟨wo, hwo⟩ : ∃ x, x = wr := ⟨_, rfl⟩
      subst hwo
      go_wp2
      go_loopw [41] (fun i wr => ∃ (k : Nat) (xs1 xs2 : List Value), k ≤ n1 ∧ i = .int .i64 k ∧ wr.ownsRow w.heap.size 91 2 (.slice a1 n1 k1) n1 (xs1 ++ xs2) ∧ RdAL (fun b => wo.heap.size ≤ b ∧ b < wr.heap.size) wr d (sb.take k).flatten xs1 ∧ RdAL (fun b => b < w.heap.size) wr d (sb.drop k).flatten xs2 ∧ Below w.heap.size w wr ∧ wo.heap.size ≤ wr.heap.size ∧ ∀ b, b < wo.heap.size → (Value.slice a1 n1 k1).ownBlock ≠ some b → wr.heap[b]? = wo.heap[b]?) (fun i _ => n1 - (intOf i).toNat)
      case atStart => exact ⟨0, [], xs1, by omega, rfl, by simpa using ow1, RdAL.mk_nil, by simpa using rx1, hblr, Nat.le_refl _, fun _ _ _ => rfl⟩
      case round =>
        obtain ⟨k2', ys2, zs2, hk2, rfl, hown2, hs1, hs2, hblr2, hszr2, hkept2⟩ := hrel
        rcases Nat.lt_or_ge k2' n1 with hkn | hkn
        · have hk' : k2' < sb.length := by omega
          obtain ⟨q, rfl⟩ : ∃ q, a1 = some ⟨q, 0, none⟩ := by
            obtain ⟨_, ⟨_, h3⟩ | ⟨g, c, cur, h2, _⟩⟩ := hown2
            · omega
            · cases h2; exact ⟨g, rfl⟩
          rw [drop_flat hk'] at hs2
          obtain ⟨el, rest, rfl, he, hrest⟩ := hs2.split
          obtain ⟨i1, p, hst, hp⟩ := pb _ (getD_mem hk')
          rw [hst] at he
          obtain ⟨v0, _, rfl, j0, he⟩ := he.cons
          obtain ⟨v1, _, rfl, j1, he⟩ := he.cons
          obtain rfl := he.nil
          have hlen : ys2.length = k2' * 2 := by rw [hs1.1]; exact flat_len (fun c hc => (pb c hc).len) (by omega)
          obtain ⟨q1, q2, q3⟩ := ob1 q rfl
          obtain ⟨hce, hcf⟩ := own_cell hown2 (j := k2' * 2 + 1) (u := v1) (by rw [List.getElem?_append_right (by omega), hlen, Nat.add_sub_cancel_left]; rfl)
          have hcb : wr.cell? ⟨b3, 1, none⟩ = some (.slice (some ⟨q, 0, none⟩) n1 k1) := by
            have := hkept2 b3 hszb (by intro h; exact q2 (Option.some.inj h))
            unfold World.cell?
            unfold World.cell? at hc1
            simp only at hc1 ⊢
            rw [this]; exact hc1
          have hqr : q < wr.heap.size := by omega
          have hbr : b3 < wr.heap.size := by omega
          have hcall : ∀ W, Below wr.heap.size wr W → Calls Tryz.prog 242 #[v1] W fun e w' => ∃ v', e = .returned v' ∧ RdA (fun b => W.heap.size ≤ b ∧ b < w'.heap.size) w' d (.sl p) v' ∧ Below W.heap.size W w' := fun W hW => fl242 W d p v1 (j1.rd.below hW) hp
          clear hc1 hb3 hb1 ow1 rx1 ow2 rx2 ow3 rx3 ob1 ob2 ob3 ob1' ap hown hr1 ow0 ob0 hkept
          go_wp2
          · go_region_with (go_at_call 242; refine (hcall _ ?_).mono ?_; (focus (show Below _ _ _; go_grown)); rintro e W1 ⟨v', rfl, hrv, hW1⟩; obtain ⟨a', n', c', rfl⟩ := hrv.slice; have hc1 := below_cell (hW1.mono (B' := wr.heap.size) (by go_size)); have hf1 := below_frozen (hW1.mono (B' := wr.heap.size) (by go_size)); have hB1 : Below wr.heap.size wr W1 := Below.trans (by go_grown) (hW1.mono (by go_size)))
            all_goals go_wp2
            all_goals (
              obtain ⟨z1, z2, z3, z4, z5, z6⟩ := row_step (pre := [v0]) (old := v1) (tpre := [.lf (.int i1)]) (t := .sl p) hk' hst (by simp) rfl hown2 hlen hs1 (.mk_cons j0 .mk_nil) hrest hblr2 hwwr hszr2 q1 hkept2 (by go_size) hrv hB1
              refine ⟨⟨k2' + 1, _, rest, by omega, by go_num, z1, z2, z3, z4, z5, z6⟩, ?_⟩
              simp [intOf]; omega)
        · have hke : k2' = n1 := by omega
          subst hke
          have ez : zs2 = [] := by
            have := hs2.1
            rw [List.drop_of_length_le (by omega)] at this
            exact List.eq_nil_of_length_eq_zero this
          subst ez
          rw [List.append_nil] at hown2
          rw [List.take_of_length_le (by omega)] at hs1
          have ow0' := own_kept hown hkept2 (fun b e e' => ap b e' e)
          have ow2 := own_kept ow2 hkept2 (own_apart ow1 ow2 (by decide))
          have ow3 := own_kept ow3 hkept2 (own_apart ow1 ow3 (by decide))
          have hb3 : wr.heap[b3]? = _ := (hkept2 b3 hszb (fun e => (ob1 b3 e).2.1 rfl)).trans hb3
          have hb1 : wr.heap[w.heap.size + 1]? = _ := (hkept2 (w.heap.size + 1) (by omega) (fun e => (ob1 _ e).2.2 rfl)).trans hb1
          have hr0 := hr1.frame (S' := fun b => w'.heap.size ≤ b ∧ b < wo.heap.size) (w' := wr) (fun _ h => h) (fun b hb => hkept2 b hb.2 (fun e => by have := ob1' b e; omega))
          have g0 : wr.cell? ⟨b3, 0, none⟩ = some (.slice a0 k k0) := by rw [cell_at hb3]; rfl
          have g1 : wr.cell? ⟨b3, 1, none⟩ = some (.slice a1 k2' k1) := by rw [cell_at hb3]; rfl
          have g2 : wr.cell? ⟨b3, 2, none⟩ = some (.slice a2 n2 k2) := by rw [cell_at hb3]; rfl
          have g3 : wr.cell? ⟨b3, 3, none⟩ = some (.slice a3 n3 k3) := by rw [cell_at hb3]; rfl
          have p0 : wr.cell? ⟨w.heap.size + 1, 0, none⟩ = some (.slice none 0 0) := by rw [cell_at hb1]; rfl
          have p1 : wr.cell? ⟨w.heap.size + 1, 1, none⟩ = some (.slice none 0 0) := by rw [cell_at hb1]; rfl
          have p2 : wr.cell? ⟨w.heap.size + 1, 2, none⟩ = some (.slice none 0 0) := by rw [cell_at hb1]; rfl
          have p3 : wr.cell? ⟨w.heap.size + 1, 3, none⟩ = some (.slice none 0 0) := by rw [cell_at hb1]; rfl
          have f0 : ∀ j, wr.frozen? ⟨w.heap.size + 1, j, none⟩ = false := fun j => by rw [frozen_at hb1]; simp
          have ow2n : ∀ q, (Value.slice a2 n2 k2).ownBlock = some q → q ≠ w.heap.size + 1 := fun q hq => (ob2 q hq).2.2
          have ow3n : ∀ q, (Value.slice a3 n3 k3).ownBlock = some q → q ≠ w.heap.size + 1 := fun q hq => (ob3 q hq).2.2
          have hres : Tryz.f137.results = #[.cell 2 40] := rfl
          go_wp2
          (try simp only [Exit.inBlock, Exit.then])
          refine bodyPost_ret (v := .agg #[.slice a0 k k0, .slice a1 k2' k1, .slice a2 n2 k2, .slice a3 n3 k3]) ?_ rfl ?_
          · simp only [results, hres]
            go_simp
          · obtain ⟨wf, hwf⟩ : ∃ x, x = (((wr.setCell ⟨w.heap.size + 1, 0, none⟩ (.slice a0 k k0)).setCell ⟨w.heap.size + 1, 1, none⟩ (.slice a1 k2' k1)).setCell ⟨w.heap.size + 1, 2, none⟩ (.slice a2 n2 k2)).setCell ⟨w.heap.size + 1, 3, none⟩ (.slice a3 n3 k3) := ⟨_, rfl⟩
            have hfz : wf.heap.size = wr.heap.size := by rw [hwf]; simp only [World.size_setCell]
            have hfk : ∀ b, b ≠ w.heap.size + 1 → wf.heap[b]? = wr.heap[b]? := fun b hb => by rw [hwf, Below.heap_setCell _ _ _ _ hb, Below.heap_setCell _ _ _ _ hb, Below.heap_setCell _ _ _ _ hb, Below.heap_setCell _ _ _ _ hb]
            have hfb : Below w.heap.size w wf := ⟨by rw [hwf]; exact hblr2.os, by rw [hwf]; exact hblr2.tape, by rw [hwf]; exact hblr2.output, by have := hblr2.size; omega, fun b hb => (hfk b (by omega)).trans (hblr2.block b hb)⟩
            rw [← hwf]
            clear hwf
            refine ⟨[.slice a0 k k0, .slice a1 k2' k1, .slice a2 n2 k2, .slice a3 n3 k3], rfl, .mk_cons ?_ (.mk_cons ?_ (.mk_cons ?_ (.mk_cons ?_ .mk_nil))), hfb⟩
            · exact own_rd (S := fun b => w'.heap.size ≤ b ∧ b < wo.heap.size) (by rw [hn0]; exact own_frame ow0' fun b hb => hfk b (ob0 b hb).2.2) (by omega) (hr0.frame (fun _ h => h) (fun b hb => hfk b (by omega))) (fun b hb => ⟨by omega, by omega⟩) (fun b hb => ⟨(own_lt ow0' b hb).1, by have := (own_lt ow0' b hb).2; omega⟩)
            · exact own_rd (S := fun b => wo.heap.size ≤ b ∧ b < wr.heap.size) (by rw [hn1]; exact own_frame hown2 fun b hb => hfk b (ob1 b hb).2.2) (by omega) (hs1.frame (fun _ h => h) (fun b hb => hfk b (by omega))) (fun b hb => ⟨by omega, by omega⟩) (fun b hb => ⟨(own_lt hown2 b hb).1, by have := (own_lt hown2 b hb).2; omega⟩)
            · exact own_rd (S := fun _ => False) (by rw [hn2]; exact own_frame ow2 fun b hb => hfk b (ow2n b hb)) (by omega) (rx2.leaf (d' := d) (fun t ht => by
                obtain ⟨c, hc, ht⟩ := List.mem_flatten.1 ht
                obtain ⟨z0, z1, z2, z3, z4, z5, rfl⟩ := pe c hc
                simp at ht
                rcases ht with rfl | rfl | rfl | rfl | rfl | rfl <;> exact ⟨_, rfl⟩)) (fun b hb => hb.elim) (fun b hb => ⟨(own_lt ow2 b hb).1, by have := (own_lt ow2 b hb).2; omega⟩)
            · exact own_rd (S := fun _ => False) (by rw [hn3]; exact own_frame ow3 fun b hb => hfk b (ow3n b hb)) (by omega) (rx3.leaf (d' := d) (fun t ht => by
                obtain ⟨c, hc, ht⟩ := List.mem_flatten.1 ht
                obtain ⟨z0, z1, rfl⟩ := pf c hc
                simp at ht
                rcases ht with rfl | rfl <;> exact ⟨_, rfl⟩)) (fun b hb => hb.elim) (fun b hb => ⟨(own_lt ow3 b hb).1, by have := (own_lt ow3 b hb).2; omega⟩)
end Go.Proofs.YtmhkceeiiklfdaaGreat
