/- A part of the proof of SpliceEqualsUptoSaid (texts: GrC71). No conditions. -/
import Derived.Test.YtmhkceeiiklfdaaGreatG26
import Derived.Deep.RegionHeld
import Derived.Test.YtmhkceeiiklfdaaGreatG27
import Derived.Test.YtmhkceeiiklfdaaGreatG28
import Derived.Test.YtmhkceeiiklfdaaGreatG18
set_option linter.unusedVariables false
set_option linter.unusedSimpArgs false
set_option linter.unusedVariables false
set_option linter.unusedSimpArgs false
set_option maxRecDepth 1000000
namespace Go.Proofs.YtmhkceeiiklfdaaGreat
open Go.RowKit Go.Abs
def cons71 : List Con := [⟨3, 136, [.chan (some (2 * 64 + 0 + 2))], .chan (some (3 * 64 + 0 + 2))⟩, ⟨4, 124, [.agg ⟨atoms 2 3 5⟩], .agg ⟨atoms 4 0 5⟩⟩, ⟨5, 58, [.agg ⟨[.slice none 0 0, .slice none 0 0, .int .i64 0, .int .i64 0, .slice none 0 0, .slice none 0 0, .slice none 0 0] ++ atoms 2 8 4⟩], .agg ⟨atoms 5 0 11⟩⟩]
theorem r51 (u : Nat → Value) : ((List.range 51).map u).toArray = #[u 0, u 1, u 2, u 3, u 4, u 5, u 6, u 7, u 8, u 9, u 10, u 11, u 12, u 13, u 14, u 15, u 16, u 17, u 18, u 19, u 20, u 21, u 22, u 23, u 24, u 25, u 26, u 27, u 28, u 29, u 30, u 31, u 32, u 33, u 34, u 35, u 36, u 37, u 38, u 39, u 40, u 41, u 42, u 43, u 44, u 45, u 46, u 47, u 48, u 49, u 50] := rfl
set_option maxHeartbeats 2000000 in
theorem cv71 {P : List T → Prop} (h136 : FlC 136 P) (h58 : ClV 58 (IsDoc P)) (h170 : ClV 170 (IsRow P)) (h171 : ClV 171 (IsCell P)) : ClV 71 (IsPiece P) := by
  rintro w d c us hu hc
  have hone := nm_one hu
  have hlen12 := hc.len
  obtain ⟨it, rs, cs, h, st, rfl, pit, prs, pcs, ph, ps⟩ := hc
  have hus : us.length = 12 := by rw [hu.1, hlen12]
  obtain ⟨x0, _, rfl, r0, hu⟩ := hu.cons
  obtain ⟨x1, _, rfl, r1, hu⟩ := hu.cons
  obtain ⟨x2, _, rfl, r2, hu⟩ := hu.cons
  obtain ⟨hh, ss, rfl, rh, rst⟩ := hu.app
  obtain ⟨x3, x4, x5, x6, x7, rfl⟩ := rh.five ph.len
  obtain ⟨x8, x9, x10, x11, rfl⟩ : ∃ a b c e, ss = [a, b, c, e] := by
    have := rst.1
    rw [ps.len] at this
    match ss, this with
    | [a, b, c, e], _ => exact ⟨a, b, c, e, rfl⟩
  obtain ⟨d, rfl⟩ : ∃ d', d = d' + 1 := by
    cases d with
    | zero => exact r0.elim
    | succ d => exact ⟨d, rfl⟩
  go_enter Tryz.func71, Tryz.ntmps71
  go_wp2
  refine seg_wp (owns := [⟨w.heap.size, 42, atoms 2 0 12⟩, ⟨w.heap.size + 1, 42, [.slice none 0 0, .slice none 0 0, .slice none 0 0, .slice none 0 0, .int .i64 0, .int .i64 0, .slice none 0 0, .slice none 0 0, .slice none 0 0, .slice none 0 0, .slice none 0 0, .slice none 0 0]⟩]) (σ := nm [x0, x1, x2, x3, x4, x5, x6, x7, x8, x9, x10, x11])
    (specs := fun A => match A with | 3 => some (d + 1, [.sl it]) | 4 => some (d + 1, h) | 5 => some (d + 1, .sl [] :: ([.sl [], .lf (.int 0), .lf (.int 0), .sl [], .sl []] ++ (.sl [] :: st))) | _ => none) (rws := noRws) (cons := cons71) (w0 := w) (n := 100000) true
    [1, 2, 3] [0, 1, 6] [.pointer (some ⟨0, 0, none⟩), .pointer (some ⟨1, 0, none⟩), .pointer (some ⟨6, 0, none⟩)] [some (42, atoms 2 0 12), some (42, [.slice none 0 0, .slice none 0 0, .slice none 0 0, .slice none 0 0, .int .i64 0, .int .i64 0, .slice none 0 0, .slice none 0 0, .slice none 0 0, .slice none 0 0, .slice none 0 0, .slice none 0 0]), some (42, [.chan (some (3 * 64 + 0 + 2)), .slice none 0 0, .slice none 0 0] ++ (atoms 4 0 5 ++ atoms 5 7 4))]
    [.tuple #[], .pointer (some ⟨0, 0, none⟩), .pointer (some ⟨1, 0, none⟩)] (by kernel_rfl) ?hT rfl (by show 2 < 1000; omega) ?hnd ?hok ?hbase ?hown ?hcons (fun φ w' a' hs => ?_)
  case hT => exact lrel_tmps (l' := [.agg #[x0, x1, x2, x3, x4, x5, x6, x7, x8, x9, x10, x11], .pointer (some ⟨w.heap.size, 0, none⟩), .pointer (some ⟨w.heap.size + 1, 0, none⟩)]) (.cons _ _ _ _ (.top _) (.cons _ _ _ _ (.ptr 0 0 _ 12 rfl) (.cons _ _ _ _ (.ptr 1 0 _ 12 rfl) .nil))) (fun i v h => by
    match i with
    | 0 => cases h; rfl
    | 1 => cases h; rfl
    | 2 => cases h; rfl
    | i + 3 => cases h)
  case hnd => simp
  case hok =>
    refine List.forall_mem_cons.2 ⟨?_, forall_one ?_⟩
    · refine own_row (C := #[x0, x1, x2, x3, x4, x5, x6, x7, x8, x9, x10, x11]) ?_ (own_names hone rfl (by omega))
      rw [Below.heap_alloc _ _ _ (by go_size)]
      exact heap_new w _
    · refine own_row (C := #[.slice none 0 0, .slice none 0 0, .slice none 0 0, .slice none 0 0, .int .i64 0, .int .i64 0, .slice none 0 0, .slice none 0 0, .slice none 0 0, .slice none 0 0, .slice none 0 0, .slice none 0 0]) ?_ (leaves_rel (ρ := fun _ _ => .bool false) (fun _ _ => rfl) (by rfl) (fun A hA => by
        exfalso
        have : List.any [.slice none 0 0, .slice none 0 0, .slice none 0 0, .slice none 0 0, .int .i64 0, .int .i64 0, .slice none 0 0, .slice none 0 0, .slice none 0 0, .slice none 0 0, .slice none 0 0, .slice none 0 0] (leafUses A) = false := rfl
        rw [this] at hA
        cases hA))
      have := heap_new (w.alloc (Obj.cells #[x0, x1, x2, x3, x4, x5, x6, x7, x8, x9, x10, x11] 42)) (Obj.cells #[.slice none 0 0, .slice none 0 0, .slice none 0 0, .slice none 0 0, .int .i64 0, .int .i64 0, .slice none 0 0, .slice none 0 0, .slice none 0 0, .slice none 0 0, .slice none 0 0, .slice none 0 0] 42)
      rwa [show (w.alloc (Obj.cells #[x0, x1, x2, x3, x4, x5, x6, x7, x8, x9, x10, x11] 42)).heap.size = w.heap.size + 1 by go_size] at this
  case hbase => go_grown
  case hown => exact List.forall_mem_cons.2 ⟨Nat.le_refl _, forall_one (Nat.le_succ _)⟩
  case hcons =>
    refine forall_three (con_flat (g := 2) (A := 3) (i := 0) rfl (postE _ _) h136 rfl (by decide) (by decide) pit r0)
      (con_val (g := 2) (A := 4) (i := 3) (n := 5) rfl (postE _ _) hdv124 rfl (by decide) (by decide) (by decide) ph.len ph rfl rh) ?_
    refine conOk_cp (g := 2) rfl (postE _ _) 2 rfl (by decide) rfl rfl (.inl rfl) rfl rfl fun ρ W hf => ?_
    have e0 := hf.start rfl
    show Calls _ 58 #[.agg #[.slice none 0 0, .slice none 0 0, .int .i64 0, .int .i64 0, .slice none 0 0, .slice none 0 0, .slice none 0 0, ρ 2 8, ρ 2 9, ρ 2 10, ρ 2 11]] W _
    rw [e0]
    have nil : ∀ W : World, Rd W (d + 1) (.sl []) (.slice none 0 0) := fun W => ⟨none, 0, rfl, by simp, by simp, .inl rfl⟩
    have hd : IsDoc P (.sl [] :: ([.sl [], .lf (.int 0), .lf (.int 0), .sl [], .sl []] ++ (.sl [] :: st))) := ⟨[], _, [], st, rfl, by simp, ⟨[], 0, 0, [], [], rfl, by simp, by simp, by simp⟩, by simp, ps⟩
    refine (h58 W (d + 1) _ [.slice none 0 0, .slice none 0 0, .int .i64 0, .int .i64 0, .slice none 0 0, .slice none 0 0, .slice none 0 0, x8, x9, x10, x11] (.mk_cons (nil W) (.mk_cons (nil W) (.mk_cons (Rd.of_lf _ _ (.int 0)) (.mk_cons (Rd.of_lf _ _ (.int 0)) (.mk_cons (nil W) (.mk_cons (nil W) (.mk_cons (nil W) (rst.below hf.below)))))))) hd).mono ?_
    rintro e W' ⟨us', rfl, hr, hB⟩
    refine ⟨us', ?_, hr, hB⟩
    rw [den_atoms _ (by omega)]
    have h1 : (List.range 11).map (fun j => us'.getD (0 + j) (.bool false)) = us' := by
      simp only [Nat.zero_add]
      exact nm_row (us := us') (n := 11) (by rw [hr.1]; exact hd.len)
    rw [h1]
  obtain ⟨u, ha', hu⟩ := act_list a' (n := 51) hs.size
  have hd' : a'.defers = [] := hs.defers
  rw [hd', r51] at ha'
  have o0 := hs.own 0 _ rfl
  have o1 := hs.own 1 _ rfl
  have t1 : u 1 = .pointer (some ⟨w.heap.size, 0, none⟩) := by
    have := hs.tmp 0 1 _ rfl rfl
    rw [hu 1 (by omega)] at this
    obtain ⟨b, n, h1, h2⟩ := this.ptr_inv
    rw [o0] at h1; cases h1
    exact h2
  have t2 : u 2 = .pointer (some ⟨w.heap.size + 1, 0, none⟩) := by
    have := hs.tmp 1 2 _ rfl rfl
    rw [hu 2 (by omega)] at this
    obtain ⟨b, n, h1, h2⟩ := this.ptr_inv
    rw [o1] at h1; cases h1
    exact h2
  obtain ⟨b3, n3, hφ3, t3⟩ : ∃ b3 n3, φ 6 = some (b3, n3) ∧ u 3 = .pointer (some ⟨b3, 0, none⟩) := by
    have := hs.tmp 2 3 _ rfl rfl
    rw [hu 3 (by omega)] at this
    exact this.ptr_inv
  obtain ⟨C, hb3, hC⟩ := hs.blk 2 6 _ _ _ _ rfl rfl hφ3 (by decide)
  obtain ⟨C1, hb1, hC1⟩ := hs.blk 1 1 _ _ _ _ rfl rfl o1 (by decide)
  obtain ⟨C0, hb0, hC0⟩ := hs.blk 0 0 _ _ _ _ rfl rfl o0 (by decide)
  have hst : rho φ 2 = nm [x0, x1, x2, x3, x4, x5, x6, x7, x8, x9, x10, x11] := rho_eq hs.start
  obtain rfl : C1 = #[.slice none 0 0, .slice none 0 0, .slice none 0 0, .slice none 0 0, .int .i64 0, .int .i64 0, .slice none 0 0, .slice none 0 0, .slice none 0 0, .slice none 0 0, .slice none 0 0, .slice none 0 0] := Array.ext' (denLeaves_eq hC1 (by rfl))
  obtain rfl : C0 = #[x0, x1, x2, x3, x4, x5, x6, x7, x8, x9, x10, x11] := Array.ext' ((denLeaves_eq hC0 (by rfl)).trans (by rw [atoms_den _ (by omega), hst]; rfl))
  obtain rfl : C = #[rho φ 3 0, .slice none 0 0, .slice none 0 0, rho φ 4 0, rho φ 4 1, rho φ 4 2, rho φ 4 3, rho φ 4 4, rho φ 5 7, rho φ 5 8, rho φ 5 9, rho φ 5 10] := Array.ext' ((denLeaves_eq hC (by rfl)).trans (by rfl))
  have g3 : φ.atm 3 = some (rho φ 3) := leaves_at hC (by rfl)
  have g4 : φ.atm 4 = some (rho φ 4) := leaves_at hC (by rfl)
  have g5 : φ.atm 5 = some (rho φ 5) := leaves_at hC (by rfl)
  have ne31 : b3 ≠ w.heap.size + 1 := by
    rintro rfl
    exact hs.apart 2 1 6 1 _ _ _ _ _ rfl rfl rfl rfl (by decide) hφ3 o1
  have ge3 : w.heap.size + 2 ≤ b3 := by
    rcases hs.fresh 6 b3 n3 (by show 2 ≤ 6; omega) hφ3 with h | ⟨o, ho, h⟩
    · simpa using h
    · rcases List.mem_cons.1 ho with rfl | ho
      · subst h
        exact (hs.apart 2 0 6 0 _ _ _ _ _ rfl rfl rfl rfl (by decide) hφ3 o0).elim
      · rw [List.mem_singleton] at ho
        subst ho
        exact absurd h.symm ne31
  have weak : ∀ b, (w.heap.size ≤ b ∧ b < w'.heap.size ∧ ∀ A n, φ A ≠ some (b, n)) → (w.heap.size ≤ b ∧ b < w'.heap.size ∧ b ≠ b3 ∧ b ≠ w.heap.size + 1) := fun b hb => ⟨hb.1, hb.2.1, fun e => hb.2.2 6 n3 (by rw [e]; exact hφ3), fun e => hb.2.2 1 12 (by rw [e]; exact o1)⟩
  have q3 := (hs.has 3 _ _ _ (by show 3 ≠ 2; decide) rfl g3).frame weak (fun _ _ => rfl)
  have q4 := (hs.has 4 _ _ _ (by show 4 ≠ 2; decide) rfl g4).frame weak (fun _ _ => rfl)
  have q5 := ((hs.has 5 _ _ _ (by show 5 ≠ 2; decide) rfl g5).drop (h := [.sl [], .sl [], .lf (.int 0), .lf (.int 0), .sl [], .sl [], .sl []]) (n := 7) (r := st) rfl).frame weak (fun _ _ => rfl)
  rw [ph.len] at q4
  have q5l : (row (List.length (.sl [] :: ([.sl [], .lf (.int 0), .lf (.int 0), .sl [], .sl []] ++ (.sl [] :: st)))) (rho φ 5)).drop 7 = [rho φ 5 7, rho φ 5 8, rho φ 5 9, rho φ 5 10] := by
    rw [show List.length (.sl [] :: ([.sl [], .lf (.int 0), .lf (.int 0), .sl [], .sl []] ++ (.sl [] :: st))) = 11 by simp [ps.len]]
    rfl
  rw [q5l] at q5
  have q3 : RdAL _ w' (d + 1) [.sl it] [rho φ 3 0] := q3
  have q4 : RdAL _ w' (d + 1) h [rho φ 4 0, rho φ 4 1, rho φ 4 2, rho φ 4 3, rho φ 4 4] := q4
  have hbl : Below w.heap.size w w' := ⟨hs.os, hs.tape, hs.output, Nat.le_trans (by go_size) hs.grow, fun b hb => (hs.kept b (by go_size) (by
    intro o ho
    rcases List.mem_cons.1 ho with rfl | ho
    · simp; omega
    · rw [List.mem_singleton] at ho; subst ho; simp; omega)).trans (by rw [Below.heap_alloc _ _ _ (by go_size), Below.heap_alloc _ _ _ (by omega)])⟩
  have hsz3 : b3 < w'.heap.size := heap_lt hb3
  have hsz1 : w.heap.size + 2 ≤ w'.heap.size := Nat.le_trans (by go_size) hs.grow
  rw [ha', t1, t2, t3]
  clear hs hφ3 o0 o1 g3 g4 g5 weak ha' hd' hC hC0 hC1 hu q5l hst
  generalize rho φ 3 0 = z0 at *
  generalize rho φ 4 0 = z3 at *
  generalize rho φ 4 1 = z4 at *
  generalize rho φ 4 2 = z5 at *
  generalize rho φ 4 3 = z6 at *
  generalize rho φ 4 4 = z7 at *
  generalize rho φ 5 7 = z8 at *
  generalize rho φ 5 8 = z9 at *
  generalize rho φ 5 9 = z10 at *
  generalize rho φ 5 10 = z11 at *
  have hww : w.heap.size ≤ w'.heap.size := by omega
  have hc1 : w'.cell? ⟨w.heap.size, 1, none⟩ = some x1 := by rw [cell_at hb0]; rfl
  obtain ⟨a1, k1, rfl, hm1, hcap1, hcell1⟩ := r1.rows (sz := 6) (fun c hc => (prs c hc).len) (by omega)
  obtain ⟨a2, k2, rfl, hm2, hcap2, hcell2⟩ := r2.rows (sz := 7) (fun c hc => (pcs c hc).len) (by omega)
  obtain ⟨i0, hi, hz0, hz1, hz2⟩ := info_parts info188
  obtain ⟨i1, hi', hz0', hz1', hz2'⟩ := info_parts info193
  obtain ⟨n1, hn1⟩ : ∃ n, rs.length = n := ⟨_, rfl⟩
  obtain ⟨n2, hn2⟩ : ∃ n, cs.length = n := ⟨_, rfl⟩
  rw [hn1] at hm1 hcap1 hcell1 hc1 hb0
  rw [hn2] at hm2 hcap2 hcell2 hb0
  go_wp2
  go_loopw [23] (fun i wr => ∃ (m1 : Nat) (v1 : Value) (xs1 : List Value), m1 ≤ n1 ∧ i = .int .i64 m1 ∧ ApSt w w' wr d 188 6 b3 1 42 #[z0, .slice none 0 0, .slice none 0 0, z3, z4, z5, z6, z7, z8, z9, z10, z11] rs m1 v1 xs1) (fun i _ => n1 - (intOf i).toNat)
  case atStart => exact ⟨0, _, [], by omega, rfl, ap_start hb3 rfl hbl⟩
  case round =>
    obtain ⟨m1, v1, xs1, hk1, rfl, hap1⟩ := hrel
    rcases Nat.lt_or_ge m1 n1 with hkn | hkn
    · have hk' : m1 < rs.length := by omega
      obtain ⟨b, off, hb, rfl, U, hc, hr, ho⟩ := hcell1 (by omega)
      have hsz := hap1.base.size
      have hszr := hap1.size
      have hbw : b < wr.heap.size := by omega
      have h0 : wr.cell? ⟨b, off + m1 * 6, none⟩ = some (U m1 0) := ((hap1.base.cell (by exact hb)).trans (hc m1 0 (by omega) (by omega)))
      have h1 : wr.cell? ⟨b, off + m1 * 6 + 1, none⟩ = some (U m1 1) := ((hap1.base.cell (by exact hb)).trans (hc m1 1 (by omega) (by omega)))
      have h2 : wr.cell? ⟨b, off + m1 * 6 + 2, none⟩ = some (U m1 2) := ((hap1.base.cell (by exact hb)).trans (hc m1 2 (by omega) (by omega)))
      have h3 : wr.cell? ⟨b, off + m1 * 6 + 3, none⟩ = some (U m1 3) := ((hap1.base.cell (by exact hb)).trans (hc m1 3 (by omega) (by omega)))
      have h4 : wr.cell? ⟨b, off + m1 * 6 + 4, none⟩ = some (U m1 4) := ((hap1.base.cell (by exact hb)).trans (hc m1 4 (by omega) (by omega)))
      have h5 : wr.cell? ⟨b, off + m1 * 6 + 5, none⟩ = some (U m1 5) := ((hap1.base.cell (by exact hb)).trans (hc m1 5 (by omega) (by omega)))
      have hcall : ∀ W, Below w.heap.size w W → Calls Tryz.prog 170 #[.agg #[U m1 0, U m1 1, U m1 2, U m1 3, U m1 4, U m1 5]] W fun e w' => ∃ us', e = .returned (.agg us'.toArray) ∧ RdAL (fun b => W.heap.size ≤ b ∧ b < w'.heap.size) w' d (rs.getD m1 []) us' ∧ Below W.heap.size W w' := fun W hW =>
        h170 W d _ _ (((hr m1 hkn).below hW).rdl ((prs _ (getD_mem hk')).len)) (prs _ (getD_mem hk'))
      have hst : ∀ (i j : Nat) (P : Program) (a : Addr) (m : Mode) (W : World), (store a (U i j) m).run P W = stored P W a (U i j) m := fun i j P a m W => run_store P W a _ m (ho i j)
      have hcl : (rs.getD m1 []).length = 6 := (prs _ (getD_mem hk')).len
      obtain ⟨hcb, hfb⟩ := hap1.cell (by show 1 < 12; decide)
      have hbr3 : b3 < wr.heap.size := by omega
      clear hc hr ho hcell1 hb3 hb0 hb1 q3 q4 q5 hc1
      go_wp2
      · have hcv : wr.heap.size ≠ b3 := by omega
        refine wp_region_held_tail 5 (fun W' => W'.cell? ⟨b3, 1, none⟩ = some v1 ∧ W'.cell? ⟨wr.heap.size, 0, none⟩ = some (U m1 0) ∧ W'.cell? ⟨wr.heap.size, 1, none⟩ = some (U m1 1) ∧ W'.cell? ⟨wr.heap.size, 2, none⟩ = some (U m1 2) ∧ W'.cell? ⟨wr.heap.size, 3, none⟩ = some (U m1 3) ∧ W'.cell? ⟨wr.heap.size, 4, none⟩ = some (U m1 4) ∧ W'.cell? ⟨wr.heap.size, 5, none⟩ = some (U m1 5)) (by kernel_rfl) (by kernel_rfl) ?_ (fun hHeld => ?_)
        · ((try dsimp only); go_keep)
        simp only [List.drop_succ_cons, List.drop_zero]
        refine wpAnyT_take (i := 0) (oi := _) (v := ?vv1880) rfl (by kernel_rfl) (by kernel_rfl) (by kernel_rfl) (by kernel_rfl) (by kernel_rfl) (fun _ _ _ h => h) (Or.inl ⟨by rfl, ?yy1880⟩) (by assumption) ?rr1880
        case yy1880 => (intro w hSw; (try dsimp only at hSw); go_simp; try (with_reducible rfl))
        try simp only [Act.put, List.setIfInBounds_toArray, List.set_cons_zero, List.set_cons_succ]
        refine wpAnyT_take (i := 1) (oi := _) (v := ?vv1881) rfl (by kernel_rfl) (by kernel_rfl) (by kernel_rfl) (by kernel_rfl) (by kernel_rfl) (fun _ _ _ h => h) (Or.inl ⟨by rfl, ?yy1881⟩) (by assumption) ?rr1881
        case yy1881 => (intro w hSw; (try dsimp only at hSw); go_simp; try (with_reducible rfl))
        try simp only [Act.put, List.setIfInBounds_toArray, List.set_cons_zero, List.set_cons_succ]
        refine wpAnyT_take (i := 2) (oi := _) (v := ?vv1882) rfl (by kernel_rfl) (by kernel_rfl) (by kernel_rfl) (by kernel_rfl) (by kernel_rfl) (fun _ _ _ h => h) (Or.inl ⟨by rfl, ?yy1882⟩) (by assumption) ?rr1882
        case yy1882 => (intro w hSw; (try dsimp only at hSw); go_simp; try (with_reducible rfl))
        try simp only [Act.put, List.setIfInBounds_toArray, List.set_cons_zero, List.set_cons_succ]
        refine wpAnyT_step (i := 3) (by kernel_rfl) (by kernel_rfl) rfl (fun K hK => ?_)
        go_simp
        go_at_call 170; refine (hcall _ ?_).mono ?_; (focus (show Below _ _ _; exact hap1.base.trans (by go_grown))); rintro e W1 ⟨us, rfl, hus, hW1⟩; obtain ⟨y0, y1, y2, y3, y4, y5, rfl⟩ := len6 (hus.1.trans hcl); have hbr : Below wr.heap.size wr W1 := Below.trans (by go_grown) (hW1.mono (by go_size)); have hce := below_cell (hW1.mono (B' := wr.heap.size + 1) (by go_size)); have hfe := below_frozen (hW1.mono (B' := wr.heap.size + 1) (by go_size)); have hze : wr.heap.size + 1 ≤ W1.heap.size := Nat.le_trans (by go_size) hW1.size; have hcb1 : W1.cell? ⟨b3, 1, none⟩ = some v1 := (hbr.cell (p := ⟨b3, 1, none⟩) hbr3).trans hcb
        refine hK.out _ _ ?_ (fun hHeld' => ?_)
        · (try dsimp only)
          go_keep
        clear hK K hHeld; have hHeld := hHeld'; clear hHeld'
        try simp only [Act.put, List.setIfInBounds_toArray, List.set_cons_zero, List.set_cons_succ]
        refine wpAnyT_step (i := 4) (by kernel_rfl) (by kernel_rfl) rfl (fun K hK => ?_)
        go_simp
        refine hK.out _ _ ?_ (fun hHeld' => ?_)
        · (try dsimp only)
          go_keep
        clear hK K hHeld; have hHeld := hHeld'; clear hHeld'
        try simp only [Act.put, List.setIfInBounds_toArray, List.set_cons_zero, List.set_cons_succ]
        refine ⟨by kernel_rfl, ?_⟩
        clear hHeld
        refine append_two _ rfl _ _ 26 rfl w'.heap.size 188 i0 (.agg #[.slice none 0 0, .int .i64 0, .int .i64 0, .slice none 0 0, .slice none 0 0, .slice none 0 0]) 6 112 Tryz.underlying26 hi hz0 hz1 hz2 rfl (by decide) _ _ _ rfl ((own_below hap1.own hbr).alloc _) ⟨W1.heap.size, 0, none⟩ 1 1 [y0, y1, y2, y3, y4, y5] rfl rfl (fun j u hj => cell_new W1 _ _ hj) hus.ones (by unfold maxLen; omega) (by omega) (by have := hbr.size; simp only [World.size_alloc]; omega) ?_
        intro v' w1 hown1 hgrow hblk
        obtain ⟨a', c', rfl⟩ := own_slice hown1
        obtain ⟨hcw, hfw⟩ := ap_after hap1 (by show 1 < 12; decide) hsz3 hbr hgrow
        clear hce hfe
        go_wp2
        refine ⟨⟨m1 + 1, _, _, by omega, by go_num, ap_step hap1 hk' hsz3 (by omega) (by omega) (by go_size) hus hbr hgrow hblk hown1⟩, ?_⟩
        simp [intOf]; omega
    · have hke : m1 = n1 := by omega
      subst hke
      have hb3' := hap1.blk
      have hb3' : wr.heap[b3]? = some (.cells #[z0, v1, .slice none 0 0, z3, z4, z5, z6, z7, z8, z9, z10, z11] 42 (0, 0)) := hb3'
      have hb0' : wr.heap[w.heap.size]? = _ := (hap1.kept _ (by omega) (by omega)).trans hb0
      have hb1' : wr.heap[w.heap.size + 1]? = _ := (hap1.kept _ (by omega) (by omega)).trans hb1
      have hc2 : wr.cell? ⟨w.heap.size, 2, none⟩ = some (.slice a2 n2 k2) := by rw [cell_at hb0']; rfl
      have hszo := hap1.size
      have hbw3 : b3 < wr.heap.size := by omega
      have hwww : w.heap.size ≤ wr.heap.size := by omega
      obtain ⟨wo, hwo⟩ : ∃ x, x = wr := ⟨_, rfl⟩
      subst hwo
      go_wp2
      go_loopw [38] (fun i wr => ∃ (m2 : Nat) (v2 : Value) (xs2 : List Value), m2 ≤ n2 ∧ i = .int .i64 m2 ∧ ApSt w wo wr d 193 7 b3 2 42 #[z0, v1, .slice none 0 0, z3, z4, z5, z6, z7, z8, z9, z10, z11] cs m2 v2 xs2) (fun i _ => n2 - (intOf i).toNat)
      case atStart => exact ⟨0, _, [], by omega, rfl, ap_start hb3' rfl hap1.base⟩
      case round =>
        obtain ⟨m2, v2, xs2, hk2, rfl, hap2⟩ := hrel
        rcases Nat.lt_or_ge m2 n2 with hkn | hkn
        · have hk' : m2 < cs.length := by omega
          obtain ⟨b, off, hb, rfl, U, hc, hr, ho⟩ := hcell2 (by omega)
          have hsz := hap2.base.size
          have hszr := hap2.size
          have hbw : b < wr.heap.size := by omega
          have h0 : wr.cell? ⟨b, off + m2 * 7, none⟩ = some (U m2 0) := ((hap2.base.cell (by exact hb)).trans (hc m2 0 (by omega) (by omega)))
          have h1 : wr.cell? ⟨b, off + m2 * 7 + 1, none⟩ = some (U m2 1) := ((hap2.base.cell (by exact hb)).trans (hc m2 1 (by omega) (by omega)))
          have h2 : wr.cell? ⟨b, off + m2 * 7 + 2, none⟩ = some (U m2 2) := ((hap2.base.cell (by exact hb)).trans (hc m2 2 (by omega) (by omega)))
          have h3 : wr.cell? ⟨b, off + m2 * 7 + 3, none⟩ = some (U m2 3) := ((hap2.base.cell (by exact hb)).trans (hc m2 3 (by omega) (by omega)))
          have h4 : wr.cell? ⟨b, off + m2 * 7 + 4, none⟩ = some (U m2 4) := ((hap2.base.cell (by exact hb)).trans (hc m2 4 (by omega) (by omega)))
          have h5 : wr.cell? ⟨b, off + m2 * 7 + 5, none⟩ = some (U m2 5) := ((hap2.base.cell (by exact hb)).trans (hc m2 5 (by omega) (by omega)))
          have h6 : wr.cell? ⟨b, off + m2 * 7 + 6, none⟩ = some (U m2 6) := ((hap2.base.cell (by exact hb)).trans (hc m2 6 (by omega) (by omega)))
          have hcall : ∀ W, Below w.heap.size w W → Calls Tryz.prog 171 #[.agg #[U m2 0, U m2 1, U m2 2, U m2 3, U m2 4, U m2 5, U m2 6]] W fun e w' => ∃ us', e = .returned (.agg us'.toArray) ∧ RdAL (fun b => W.heap.size ≤ b ∧ b < w'.heap.size) w' d (cs.getD m2 []) us' ∧ Below W.heap.size W w' := fun W hW =>
            h171 W d _ _ (((hr m2 hkn).below hW).rdl ((pcs _ (getD_mem hk')).len)) (pcs _ (getD_mem hk'))
          have hst : ∀ (i j : Nat) (P : Program) (a : Addr) (m : Mode) (W : World), (store a (U i j) m).run P W = stored P W a (U i j) m := fun i j P a m W => run_store P W a _ m (ho i j)
          have hcl : (cs.getD m2 []).length = 7 := (pcs _ (getD_mem hk')).len
          obtain ⟨hcb, hfb⟩ := hap2.cell (by show 2 < 12; decide)
          have hbr3 : b3 < wr.heap.size := by omega
          clear hc hr ho hcell2 hb3' hb0' hb1' hb3 hb0 hb1 q3 q4 q5 hc1 hc2
          go_wp2
          · have hcv : wr.heap.size ≠ b3 := by omega
            refine wp_region_held_tail 5 (fun W' => W'.cell? ⟨b3, 2, none⟩ = some v2 ∧ W'.cell? ⟨wr.heap.size, 0, none⟩ = some (U m2 0) ∧ W'.cell? ⟨wr.heap.size, 1, none⟩ = some (U m2 1) ∧ W'.cell? ⟨wr.heap.size, 2, none⟩ = some (U m2 2) ∧ W'.cell? ⟨wr.heap.size, 3, none⟩ = some (U m2 3) ∧ W'.cell? ⟨wr.heap.size, 4, none⟩ = some (U m2 4) ∧ W'.cell? ⟨wr.heap.size, 5, none⟩ = some (U m2 5) ∧ W'.cell? ⟨wr.heap.size, 6, none⟩ = some (U m2 6)) (by kernel_rfl) (by kernel_rfl) ?_ (fun hHeld => ?_)
            · ((try dsimp only); go_keep)
            simp only [List.drop_succ_cons, List.drop_zero]
            refine wpAnyT_take (i := 0) (oi := _) (v := ?vv1930) rfl (by kernel_rfl) (by kernel_rfl) (by kernel_rfl) (by kernel_rfl) (by kernel_rfl) (fun _ _ _ h => h) (Or.inl ⟨by rfl, ?yy1930⟩) (by assumption) ?rr1930
            case yy1930 => (intro w hSw; (try dsimp only at hSw); go_simp; try (with_reducible rfl))
            try simp only [Act.put, List.setIfInBounds_toArray, List.set_cons_zero, List.set_cons_succ]
            refine wpAnyT_take (i := 1) (oi := _) (v := ?vv1931) rfl (by kernel_rfl) (by kernel_rfl) (by kernel_rfl) (by kernel_rfl) (by kernel_rfl) (fun _ _ _ h => h) (Or.inl ⟨by rfl, ?yy1931⟩) (by assumption) ?rr1931
            case yy1931 => (intro w hSw; (try dsimp only at hSw); go_simp; try (with_reducible rfl))
            try simp only [Act.put, List.setIfInBounds_toArray, List.set_cons_zero, List.set_cons_succ]
            refine wpAnyT_take (i := 2) (oi := _) (v := ?vv1932) rfl (by kernel_rfl) (by kernel_rfl) (by kernel_rfl) (by kernel_rfl) (by kernel_rfl) (fun _ _ _ h => h) (Or.inl ⟨by rfl, ?yy1932⟩) (by assumption) ?rr1932
            case yy1932 => (intro w hSw; (try dsimp only at hSw); go_simp; try (with_reducible rfl))
            try simp only [Act.put, List.setIfInBounds_toArray, List.set_cons_zero, List.set_cons_succ]
            refine wpAnyT_step (i := 3) (by kernel_rfl) (by kernel_rfl) rfl (fun K hK => ?_)
            go_simp
            go_at_call 171; refine (hcall _ ?_).mono ?_; (focus (show Below _ _ _; exact hap2.base.trans (by go_grown))); rintro e W1 ⟨us, rfl, hus, hW1⟩; obtain ⟨y0, y1, y2, y3, y4, y5, y6, rfl⟩ := len7 (hus.1.trans hcl); have hbr : Below wr.heap.size wr W1 := Below.trans (by go_grown) (hW1.mono (by go_size)); have hce := below_cell (hW1.mono (B' := wr.heap.size + 1) (by go_size)); have hfe := below_frozen (hW1.mono (B' := wr.heap.size + 1) (by go_size)); have hze : wr.heap.size + 1 ≤ W1.heap.size := Nat.le_trans (by go_size) hW1.size; have hcb1 : W1.cell? ⟨b3, 2, none⟩ = some v2 := (hbr.cell (p := ⟨b3, 2, none⟩) hbr3).trans hcb
            refine hK.out _ _ ?_ (fun hHeld' => ?_)
            · (try dsimp only)
              go_keep
            clear hK K hHeld; have hHeld := hHeld'; clear hHeld'
            try simp only [Act.put, List.setIfInBounds_toArray, List.set_cons_zero, List.set_cons_succ]
            refine wpAnyT_step (i := 4) (by kernel_rfl) (by kernel_rfl) rfl (fun K hK => ?_)
            go_simp
            refine hK.out _ _ ?_ (fun hHeld' => ?_)
            · (try dsimp only)
              go_keep
            clear hK K hHeld; have hHeld := hHeld'; clear hHeld'
            try simp only [Act.put, List.setIfInBounds_toArray, List.set_cons_zero, List.set_cons_succ]
            refine ⟨by kernel_rfl, ?_⟩
            clear hHeld
            refine append_two _ rfl _ _ 27 rfl wo.heap.size 193 i1 (.agg #[.int .i64 0, .slice none 0 0, .int .i64 0, .int .i64 0, .slice none 0 0, .slice none 0 0, .slice none 0 0]) 7 120 Tryz.underlying27 hi' hz0' hz1' hz2' rfl (by decide) _ _ _ rfl ((own_below hap2.own hbr).alloc _) ⟨W1.heap.size, 0, none⟩ 1 1 [y0, y1, y2, y3, y4, y5, y6] rfl rfl (fun j u hj => cell_new W1 _ _ hj) hus.ones (by unfold maxLen; omega) (by omega) (by have := hbr.size; simp only [World.size_alloc]; omega) ?_
            intro v' w1 hown1 hgrow hblk
            obtain ⟨a', c', rfl⟩ := own_slice hown1
            obtain ⟨hcw, hfw⟩ := ap_after hap2 (by show 2 < 12; decide) hbw3 hbr hgrow
            clear hce hfe
            go_wp2
            refine ⟨⟨m2 + 1, _, _, by omega, by go_num, ap_step hap2 hk' hbw3 (by omega) (by omega) (by go_size) hus hbr hgrow hblk hown1⟩, ?_⟩
            simp [intOf]; omega
        · have hke : m2 = n2 := by omega
          subst hke
          have hb3'' : wr.heap[b3]? = some (.cells #[z0, v1, v2, z3, z4, z5, z6, z7, z8, z9, z10, z11] 42 (0, 0)) := hap2.blk
          have hb1'' : wr.heap[w.heap.size + 1]? = _ := (hap2.kept _ (by omega) (by omega)).trans hb1'
          have hszr := hap2.size
          have hres : Tryz.f71.results = #[.cell 2 42] := rfl
          have f0 : ∀ j, wr.frozen? ⟨w.heap.size + 1, j, none⟩ = false := fun j => by rw [frozen_at hb1'']; simp
          have e0 : wr.cell? ⟨b3, 0, none⟩ = some z0 := by rw [cell_at hb3'']; rfl
          have p0 : wr.cell? ⟨w.heap.size + 1, 0, none⟩ = some (.slice none 0 0) := by rw [cell_at hb1'']; rfl
          have e1 : wr.cell? ⟨b3, 1, none⟩ = some v1 := by rw [cell_at hb3'']; rfl
          have p1 : wr.cell? ⟨w.heap.size + 1, 1, none⟩ = some (.slice none 0 0) := by rw [cell_at hb1'']; rfl
          have e2 : wr.cell? ⟨b3, 2, none⟩ = some v2 := by rw [cell_at hb3'']; rfl
          have p2 : wr.cell? ⟨w.heap.size + 1, 2, none⟩ = some (.slice none 0 0) := by rw [cell_at hb1'']; rfl
          have e3 : wr.cell? ⟨b3, 3, none⟩ = some z3 := by rw [cell_at hb3'']; rfl
          have p3 : wr.cell? ⟨w.heap.size + 1, 3, none⟩ = some (.slice none 0 0) := by rw [cell_at hb1'']; rfl
          have e4 : wr.cell? ⟨b3, 4, none⟩ = some z4 := by rw [cell_at hb3'']; rfl
          have p4 : wr.cell? ⟨w.heap.size + 1, 4, none⟩ = some (.int .i64 0) := by rw [cell_at hb1'']; rfl
          have e5 : wr.cell? ⟨b3, 5, none⟩ = some z5 := by rw [cell_at hb3'']; rfl
          have p5 : wr.cell? ⟨w.heap.size + 1, 5, none⟩ = some (.int .i64 0) := by rw [cell_at hb1'']; rfl
          have e6 : wr.cell? ⟨b3, 6, none⟩ = some z6 := by rw [cell_at hb3'']; rfl
          have p6 : wr.cell? ⟨w.heap.size + 1, 6, none⟩ = some (.slice none 0 0) := by rw [cell_at hb1'']; rfl
          have e7 : wr.cell? ⟨b3, 7, none⟩ = some z7 := by rw [cell_at hb3'']; rfl
          have p7 : wr.cell? ⟨w.heap.size + 1, 7, none⟩ = some (.slice none 0 0) := by rw [cell_at hb1'']; rfl
          have e8 : wr.cell? ⟨b3, 8, none⟩ = some z8 := by rw [cell_at hb3'']; rfl
          have p8 : wr.cell? ⟨w.heap.size + 1, 8, none⟩ = some (.slice none 0 0) := by rw [cell_at hb1'']; rfl
          have e9 : wr.cell? ⟨b3, 9, none⟩ = some z9 := by rw [cell_at hb3'']; rfl
          have p9 : wr.cell? ⟨w.heap.size + 1, 9, none⟩ = some (.slice none 0 0) := by rw [cell_at hb1'']; rfl
          have e10 : wr.cell? ⟨b3, 10, none⟩ = some z10 := by rw [cell_at hb3'']; rfl
          have p10 : wr.cell? ⟨w.heap.size + 1, 10, none⟩ = some (.slice none 0 0) := by rw [cell_at hb1'']; rfl
          have e11 : wr.cell? ⟨b3, 11, none⟩ = some z11 := by rw [cell_at hb3'']; rfl
          have p11 : wr.cell? ⟨w.heap.size + 1, 11, none⟩ = some (.slice none 0 0) := by rw [cell_at hb1'']; rfl
          have s0 : ∀ (P : Program) (a : Addr) (m : Mode) (W : World), (store a z0 m).run P W = stored P W a z0 m := fun P a m W => run_store P W a _ m (q3.ones z0 (by simp))
          have s3 : ∀ (P : Program) (a : Addr) (m : Mode) (W : World), (store a z3 m).run P W = stored P W a z3 m := fun P a m W => run_store P W a _ m (q4.ones z3 (by simp))
          have s4 : ∀ (P : Program) (a : Addr) (m : Mode) (W : World), (store a z4 m).run P W = stored P W a z4 m := fun P a m W => run_store P W a _ m (q4.ones z4 (by simp))
          have s5 : ∀ (P : Program) (a : Addr) (m : Mode) (W : World), (store a z5 m).run P W = stored P W a z5 m := fun P a m W => run_store P W a _ m (q4.ones z5 (by simp))
          have s6 : ∀ (P : Program) (a : Addr) (m : Mode) (W : World), (store a z6 m).run P W = stored P W a z6 m := fun P a m W => run_store P W a _ m (q4.ones z6 (by simp))
          have s7 : ∀ (P : Program) (a : Addr) (m : Mode) (W : World), (store a z7 m).run P W = stored P W a z7 m := fun P a m W => run_store P W a _ m (q4.ones z7 (by simp))
          have s8 : ∀ (P : Program) (a : Addr) (m : Mode) (W : World), (store a z8 m).run P W = stored P W a z8 m := fun P a m W => run_store P W a _ m (q5.ones z8 (by simp))
          have s9 : ∀ (P : Program) (a : Addr) (m : Mode) (W : World), (store a z9 m).run P W = stored P W a z9 m := fun P a m W => run_store P W a _ m (q5.ones z9 (by simp))
          have s10 : ∀ (P : Program) (a : Addr) (m : Mode) (W : World), (store a z10 m).run P W = stored P W a z10 m := fun P a m W => run_store P W a _ m (q5.ones z10 (by simp))
          have s11 : ∀ (P : Program) (a : Addr) (m : Mode) (W : World), (store a z11 m).run P W = stored P W a z11 m := fun P a m W => run_store P W a _ m (q5.ones z11 (by simp))
          obtain ⟨a1', c1', rfl⟩ := own_slice hap1.own
          obtain ⟨a2', c2', rfl⟩ := own_slice hap2.own
          clear hc2 hcell2 hkn
          go_wp2
          (try simp only [Exit.inBlock, Exit.then])
          refine bodyPost_ret (v := .agg #[z0, .slice a1' m1 c1', .slice a2' m2 c2', z3, z4, z5, z6, z7, z8, z9, z10, z11]) ?_ rfl ?_
          · simp only [results, hres]
            go_simp
          · obtain ⟨wf, hwf⟩ : ∃ x, x = ((((((((((((wr.setCell ⟨w.heap.size + 1, 0, none⟩ z0).setCell ⟨w.heap.size + 1, 1, none⟩ (.slice a1' m1 c1')).setCell ⟨w.heap.size + 1, 2, none⟩ (.slice a2' m2 c2')).setCell ⟨w.heap.size + 1, 3, none⟩ z3).setCell ⟨w.heap.size + 1, 4, none⟩ z4).setCell ⟨w.heap.size + 1, 5, none⟩ z5).setCell ⟨w.heap.size + 1, 6, none⟩ z6).setCell ⟨w.heap.size + 1, 7, none⟩ z7).setCell ⟨w.heap.size + 1, 8, none⟩ z8).setCell ⟨w.heap.size + 1, 9, none⟩ z9).setCell ⟨w.heap.size + 1, 10, none⟩ z10).setCell ⟨w.heap.size + 1, 11, none⟩ z11) := ⟨_, rfl⟩
            have hfz : wf.heap.size = wr.heap.size := by rw [hwf]; simp only [World.size_setCell]
            have hfk : ∀ b, b ≠ w.heap.size + 1 → wf.heap[b]? = wr.heap[b]? := fun b hb => by
              have hb := Ne.symm hb
              rw [hwf]
              exact (heap_set_ne _ _ _ _ _ hb).trans ((heap_set_ne _ _ _ _ _ hb).trans ((heap_set_ne _ _ _ _ _ hb).trans ((heap_set_ne _ _ _ _ _ hb).trans ((heap_set_ne _ _ _ _ _ hb).trans ((heap_set_ne _ _ _ _ _ hb).trans ((heap_set_ne _ _ _ _ _ hb).trans ((heap_set_ne _ _ _ _ _ hb).trans ((heap_set_ne _ _ _ _ _ hb).trans ((heap_set_ne _ _ _ _ _ hb).trans ((heap_set_ne _ _ _ _ _ hb).trans (heap_set_ne _ _ _ _ _ hb)))))))))))
            have hbb := hap2.base
            have hbs := hbb.size
            have hfb : Below w.heap.size w wf := ⟨by rw [hwf]; simp only [set_os]; exact hbb.os, by rw [hwf]; simp only [set_tape]; exact hbb.tape, by rw [hwf]; simp only [set_output]; exact hbb.output, by omega, fun b hb => (hfk b (by omega)).trans (hbb.block b hb)⟩
            rw [← hwf]
            clear hwf
            have old : ∀ b, (w.heap.size ≤ b ∧ b < w'.heap.size ∧ b ≠ b3 ∧ b ≠ w.heap.size + 1) → wf.heap[b]? = w'.heap[b]? := fun b hb => by
              rw [hfk b hb.2.2.2, hap2.kept b (by omega) hb.2.2.1, hap1.kept b hb.2.1 hb.2.2.1]
            have mid : ∀ b, w'.heap.size ≤ b → b < wo.heap.size → wf.heap[b]? = wo.heap[b]? := fun b h1 h2 => by
              rw [hfk b (by omega), hap2.kept b h2 (by omega)]
            have or1 := hap1.rd
            have or2 := hap2.rd
            rw [List.take_of_length_le (by omega)] at or1 or2
            refine ⟨[z0, .slice a1' m1 c1', .slice a2' m2 c2', z3, z4, z5, z6, z7, z8, z9, z10, z11], rfl, .mk_cons (RdAL.only (q3.frame (fun b hb => ⟨by omega, by omega⟩) old)) (.mk_cons ?_ (.mk_cons ?_ ((q4.frame (fun b hb => ⟨by omega, by omega⟩) old).append (q5.frame (fun b hb => ⟨by omega, by omega⟩) old)))), hfb⟩
            · exact own_rd (S := fun b => w'.heap.size ≤ b ∧ b < wo.heap.size) (by rw [hn1]; exact own_frame hap1.own fun b hb => mid b (own_lt hap1.own b hb).1 (own_lt hap1.own b hb).2) (by omega) (or1.frame (fun b hb => ⟨hb.1, hb.2.1⟩) (fun b hb => mid b hb.1 hb.2.1)) (fun b hb => ⟨by omega, by omega⟩) (fun b hb => ⟨by have := (own_lt hap1.own b hb).1; omega, by have := (own_lt hap1.own b hb).2; omega⟩)
            · exact own_rd (S := fun b => wo.heap.size ≤ b ∧ b < wr.heap.size) (by rw [hn2]; exact own_frame hap2.own fun b hb => hfk b (by have := (own_lt hap2.own b hb).1; omega)) (by omega) (or2.frame (fun b hb => ⟨hb.1, hb.2.1⟩) (fun b hb => hfk b (by omega))) (fun b hb => ⟨by omega, by omega⟩) (fun b hb => ⟨by have := (own_lt hap2.own b hb).1; omega, by have := (own_lt hap2.own b hb).2; omega⟩)
end Go.Proofs.YtmhkceeiiklfdaaGreat
