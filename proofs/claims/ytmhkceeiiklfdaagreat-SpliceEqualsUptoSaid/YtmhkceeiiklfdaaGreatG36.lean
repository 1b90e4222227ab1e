/- A part of the proof of SpliceEqualsUptoSaid (texts: GrLawS GrLaw6). No conditions. -/
import Derived.Test.YtmhkceeiiklfdaaGreatG35
import Derived.Test.YtmhkceeiiklfdaaGreatG34
import Derived.Deep.MidRow
set_option linter.unusedVariables false
set_option linter.unusedSimpArgs false
set_option linter.unusedVariables false
set_option linter.unusedSimpArgs false
namespace Go.Proofs.YtmhkceeiiklfdaaGreat
open Go.RowKit Go.Abs
theorem ne_lit {a b : Nat} (h : a ≠ b) : a ≠ b := h
theorem swap_swap {P : List T → Prop} {c : List T} (h : IsSplice P c) : swapT (swapT c) = c := by
  obtain ⟨k, i, a, s, p, q, rfl, hp, hq⟩ := h.parts
  rw [swap_eq rfl hp.len, swap_eq rfl hq.len]
theorem nm_ones {l : List Value} (h : ∀ u ∈ l, u.oneCell' = true) (i : Nat) : isOne (nm l i) = true := by
  unfold nm
  rw [List.getD_eq_getElem?_getD]
  cases hi : l[i]? with
  | none => rfl
  | some u =>
    have := h u (List.mem_of_getElem? hi)
    cases u <;> first | rfl | (cases this; done)
theorem law6rest {n : Nat} (w W : World) (d d' : Nat) (c c' : List T) (us vs : List Value) (hu : RdL w d c us) (hv : RdL w d' c' vs) (pc : IsSplice (IsItem n) c) (pc' : IsSplice (IsItem n) c') (hB : Below w.heap.size w W) (a : Act) (hnt : a.tmps.size = 70) (hdef : a.defers = [])
    (h2 : a.tmps.getD 2 undef = .pointer (some ⟨w.heap.size, 0, none⟩)) (h3 : a.tmps.getD 3 undef = .pointer (some ⟨w.heap.size + 1, 0, none⟩)) (b1 : W.heap[w.heap.size]? = some (.cells us.toArray 44 (0, 0))) (b2 : W.heap[w.heap.size + 1]? = some (.cells vs.toArray 44 (0, 0))) :
    rest6.wp Tryz.prog (bodyPost Tryz.prog Tryz.f6 fun e w' => e = .returned (.bool true) ∧ Below w.heap.size w w') a W := by
  obtain ⟨r, hr⟩ : ∃ r : Bool, r = true ↔ c = c' := by
    by_cases h : c = c'
    · exact ⟨true, ⟨fun _ => h, fun _ => rfl⟩⟩
    · exact ⟨false, ⟨fun e => Bool.noConfusion e, fun e => absurd e h⟩⟩
  have lu : us.length = 28 := by rw [hu.1, pc.len]
  have lv : vs.length = 28 := by rw [hv.1, pc'.len]
  have hone : ∀ i, isOne (nm (us ++ vs) i) = true := nm_ones fun u h => by
    rcases List.mem_append.1 h with h | h
    · exact hu.ones u h
    · exact hv.ones u h
  have e1 : (List.range 28).map (fun j => nm (us ++ vs) (0 + j)) = us := nm_mid (a := []) (b := us) (c := vs) rfl lu
  have e2 : (List.range 28).map (fun j => nm (us ++ vs) (28 + j)) = vs := nm_end (a := us) (b := vs) lu lv
  refine seg_codeT (owns := [⟨w.heap.size, 44, atoms 2 0 28⟩, ⟨w.heap.size + 1, 44, atoms 2 28 28⟩]) (σ := nm (us ++ vs))
    (specs := fun A => match A with | 3 => some (d, c) | 7 => some (d, c) | 17 => some (d', c') | 23 => some (d, c) | 36 => some (d, swapT c) | _ => none) (rws := noRws) (cons := cons6 r) (w0 := w) (n := 1000000) [4] [] [.bool true] []
    [.tuple #[], .tuple #[], .pointer (some ⟨0, 0, none⟩), .pointer (some ⟨1, 0, none⟩)] (run6 r _) (by show 4 ≤ 128; omega) ?hT hnt (by show 2 < 1000; omega) ?hnd ?hok hB ?hown ?hcons (fun φ w' a' hs => ?_)
  case hT =>
    intro i v h
    match i with
    | 0 => cases h; exact .top _
    | 1 => cases h; exact .top _
    | 2 => cases h; rw [h2]; exact .ptr 0 0 _ 28 rfl
    | 3 => cases h; rw [h3]; exact .ptr 1 0 _ 28 rfl
    | i + 4 => cases h
  case hnd => simp
  case hok =>
    refine List.forall_mem_cons.2 ⟨?_, forall_one ?_⟩
    · refine own_row b1 ?_
      have h := own_names (owns := [⟨w.heap.size, 44, atoms 2 0 28⟩, ⟨w.heap.size + 1, 44, atoms 2 28 28⟩]) hone (g := 2) (i := 0) (n := 28) rfl (by omega)
      rw [e1] at h
      exact h
    · refine own_row b2 ?_
      have h := own_names (owns := [⟨w.heap.size, 44, atoms 2 0 28⟩, ⟨w.heap.size + 1, 44, atoms 2 28 28⟩]) hone (g := 2) (i := 28) (n := 28) rfl (by omega)
      rw [e2] at h
      exact h
  case hown => exact List.forall_mem_cons.2 ⟨Nat.le_refl _, forall_one (Nat.le_succ _)⟩
  case hcons =>
    have ts := fun (specs : Specs) => tells_g (g := 2) (specs := specs) (d := d) (i := 0) (by omega) e1 hu
    have tt := fun (specs : Specs) => tells_g (g := 2) (specs := specs) (d := d') (i := 28) (by omega) e2 hv
    have tss := fun (specs : Specs) => tells_gs (g := 2) (specs := specs) (d := d) (i := 0) (by omega) pc e1 hu
    have tts := fun (specs : Specs) => tells_gs (g := 2) (specs := specs) (d := d') (i := 28) (by omega) pc' e2 hv
    have tr : ∀ {c1 c2 : List T}, c1 = c2 → (true = true ↔ c1 = c2) := fun h => ⟨fun _ => h, fun _ => rfl⟩
    have cl := cloneSplice n
    have q28 := eqSplice n
    have q29 := sameSplice n
    unfold cons6
    refine List.forall_mem_cons.2 ⟨?_, List.forall_mem_cons.2 ⟨?_, List.forall_mem_cons.2 ⟨?_, List.forall_mem_cons.2 ⟨?_, List.forall_mem_cons.2 ⟨?_, List.forall_mem_cons.2 ⟨?_, List.forall_mem_cons.2 ⟨?_, List.forall_mem_cons.2 ⟨?_, List.forall_mem_cons.2 ⟨?_, List.forall_mem_cons.2 ⟨?_, List.forall_mem_cons.2 ⟨?_, List.forall_mem_cons.2 ⟨?_, List.forall_mem_cons.2 ⟨?_, forall_one ?_⟩⟩⟩⟩⟩⟩⟩⟩⟩⟩⟩⟩⟩
    · exact con_clone rfl (postE _ _) cl (ts _) pc pc.len rfl (ne_lit (by decide : 3 ≠ 2))
    · exact con_clone rfl (postE _ _) cl (ts _) pc pc.len rfl (ne_lit (by decide : 7 ≠ 2))
    · exact con_clone rfl (postE _ _) cl (tt _) pc' pc'.len rfl (ne_lit (by decide : 17 ≠ 2))
    · exact con_clone rfl (postE _ _) cl (ts _) pc pc.len rfl (ne_lit (by decide : 23 ≠ 2))
    · exact conOk_cl rfl (postE _ _) rfl rfl (ne_lit (by decide : 26 ≠ 2)) rfl true rfl known14
    · exact con_eq rfl (postE _ _) q28 r hr (ts _) (tt _) pc pc' rfl rfl (ne_lit (by decide : 27 ≠ 2))
    · exact con_eq rfl (postE _ _) q29 r hr (ts _) (tt _) pc pc' rfl rfl (ne_lit (by decide : 28 ≠ 2))
    · exact con_eq rfl (postE _ _) q28 true (tr rfl) (ts _) (tells_a (A := 3) (d := d) rfl (ne_lit (by decide : 3 ≠ 2)) pc.len) pc pc rfl rfl (ne_lit (by decide : 29 ≠ 2))
    · exact con_eq rfl (postE _ _) q29 true (tr rfl) (tells_a (A := 3) (d := d) rfl (ne_lit (by decide : 3 ≠ 2)) pc.len) (ts _) pc pc rfl rfl (ne_lit (by decide : 30 ≠ 2))
    · exact con_eq rfl (postE _ _) q29 true (tr rfl) (tells_as (A := 7) (d := d) pc rfl (ne_lit (by decide : 7 ≠ 2))) (tss _) pc.swap pc.swap rfl rfl (ne_lit (by decide : 33 ≠ 2))
    · exact con_clone rfl (postE _ _) cl (tells_as (A := 7) (d := d) pc rfl (ne_lit (by decide : 7 ≠ 2))) pc.swap pc.swap.len rfl (ne_lit (by decide : 36 ≠ 2))
    · exact con_eq rfl (postE _ _) q29 true (tr (swap_swap pc)) (tells_as (A := 36) (d := d) pc.swap rfl (ne_lit (by decide : 36 ≠ 2))) (ts _) pc.swap.swap pc rfl rfl (ne_lit (by decide : 37 ≠ 2))
    · exact con_eq rfl (postE _ _) q29 true (tr rfl) (tells_as (A := 17) (d := d') pc' rfl (ne_lit (by decide : 17 ≠ 2))) (tts _) pc'.swap pc'.swap rfl rfl (ne_lit (by decide : 43 ≠ 2))
    · exact con_eq rfl (postE _ _) q29 true (tr rfl) (tells_as (A := 23) (d := d) pc rfl (ne_lit (by decide : 23 ≠ 2))) (tss _) pc.swap pc.swap rfl rfl (ne_lit (by decide : 44 ≠ 2))
  · have hv4 := hs.tmp 0 4 (.bool true) rfl rfl
    generalize hx : a'.tmps.getD 4 undef = x at hv4
    have hres : x = .bool true := by
      cases hv4
      rfl
    subst hres
    refine bodyPost_ret (v := .bool true) ?_ (hs.defers.trans hdef) ⟨rfl, ?_⟩
    · rw [results_tmp (t := 4) rfl, hx]
    · refine ⟨hs.os.trans hB.os, hs.tape.trans hB.tape, hs.output.trans hB.output, Nat.le_trans hB.size hs.grow, fun b hb => (hs.kept b (Nat.lt_of_lt_of_le hb hB.size) ?_).trans (hB.block b hb)⟩
      refine List.forall_mem_cons.2 ⟨?_, forall_one ?_⟩
      · show w.heap.size ≠ b; omega
      · show w.heap.size + 1 ≠ b; omega
end Go.Proofs.YtmhkceeiiklfdaaGreat
set_option linter.unusedVariables false
set_option linter.unusedSimpArgs false
set_option maxRecDepth 100000
namespace Go.Proofs.YtmhkceeiiklfdaaGreat
open Go.RowKit Go.Abs
theorem wp_seq_mid {P : Program} {x y : Code} {Q : Exit → Act → World → Prop} {a : Act} {w : World} (R : Act → World → Prop) (hx : x.wp P (Exit.then R Q) a w) (hy : ∀ a w, R a w → y.wp P Q a w) : (Code.seq x y).wp P Q a w :=
  wp_seq_k fun K hK => by
    intro b k cs
    obtain ⟨e, a1, w1, h, harr⟩ := hx b k cs
    refine ⟨e, a1, w1, ?_, harr⟩
    cases e with
    | normal => exact hK _ _ (hy _ _ h)
    | _ => exact h
structure Hid (p : Prop) : Prop where
  out : p
structure R6 (w : World) (us vs : Array Value) (a : Act) (W : World) : Prop where
  size : a.tmps.size = 70
  defers : a.defers = []
  t2 : a.tmps.getD 2 undef = .pointer (some ⟨w.heap.size, 0, none⟩)
  t3 : a.tmps.getD 3 undef = .pointer (some ⟨w.heap.size + 1, 0, none⟩)
  base : Below w.heap.size w W
  b1 : W.heap[w.heap.size]? = some (.cells us 44 (0, 0))
  b2 : W.heap[w.heap.size + 1]? = some (.cells vs 44 (0, 0))
theorem wpList_load44 {ops : Array Oper} {Q : Exit → Act → World → Prop} {rest : List Oper} {o : Oper} {a : Act} {w : World} {k b : Nat} {us : List Value} (ho : o.op = .load 44 (.tmp k)) (hp : a.eval (.tmp k) = .pointer (some ⟨b, 0, none⟩)) (hb : w.heap[b]? = some (.cells us.toArray 44 (0, 0))) (hl : us.length = 28)
    (hw : Region.wanted o (yielded ops a.tmps) = true) (h : wpList Tryz.prog ops Q rest (a.put o.dst (.agg us.toArray)) w) : wpList Tryz.prog ops Q (o :: rest) a w :=
  wpList_wanted hw fun K hK => wp_load_mid 44 (.tmp k) ho b 0 hp us _ (fun j v hv => by
    rw [Nat.zero_add, cell_at hb]
    simpa using hv) Tryz.underlying44 rfl (by rw [hl]; kernel_rfl) (hK _ _ h)
set_option maxHeartbeats 4000000 in
theorem law6 {n : Nat} (w : World) (d d' : Nat) (c c' : List T) (us vs : List Value) (hu : RdL w d c us) (hv : RdL w d' c' vs) (pc : IsSplice (IsItem n) c) (pc' : IsSplice (IsItem n) c') :
    Calls Tryz.prog 6 #[.agg us.toArray, .agg vs.toArray] w fun e w' => e = .returned (.bool true) ∧ Below w.heap.size w w' := by
  have lu : us.length = 28 := by rw [hu.1, pc.len]
  have lv : vs.length = 28 := by rw [hv.1, pc'.len]
  have ks := fun W (hW : Below w.heap.size w W) => sm21 W d c us (hu.below hW) pc
  have kt := fun W (hW : Below w.heap.size w W) => sm21 W d' c' vs (hv.below hW) pc'
  have rest := fun W hW a h1 h2 h3 h4 h5 h6 => law6rest (n := n) w W d d' c c' _ _ hu hv pc pc' hW a h1 h2 h3 h4 h5 h6
  clear hu hv
  go_enter Tryz.func6, Tryz.ntmps6
  refine wp_seq_k fun K0 hK0 => ?_
  have hid : Hid _ := ⟨hK0⟩
  clear hK0
  go_wp2
  refine hid.out _ _ ?_
  clear hid
  refine wp_seq_mid (fun a W => R6 w us.toArray vs.toArray a W) ?_ (fun a W h => rest W h.base a h.size h.defers h.t2 h.t3 h.b1 h.b2)
  clear rest pc pc'
  have hs2 : (w.alloc (.cells us.toArray 44)).heap.size = w.heap.size + 1 := by go_size
  have B2 : Below w.heap.size w ((w.alloc (.cells us.toArray 44)).alloc (.cells vs.toArray 44)) := by go_grown
  have X2 : ((w.alloc (.cells us.toArray 44)).alloc (.cells vs.toArray 44)).heap[w.heap.size]? = some (.cells us.toArray 44 (0, 0)) := (Below.heap_alloc _ _ _ (by rw [hs2]; omega)).trans (heap_new w _)
  have Y2 : ((w.alloc (.cells us.toArray 44)).alloc (.cells vs.toArray 44)).heap[w.heap.size + 1]? = some (.cells vs.toArray 44 (0, 0)) := by
    have := heap_new (w.alloc (.cells us.toArray 44)) (.cells vs.toArray 44)
    rwa [hs2] at this
  have s2 : ((w.alloc (.cells us.toArray 44)).alloc (.cells vs.toArray 44)).heap.size = w.heap.size + 2 := by go_size
  go_wp2_with (first
    | (refine wpList_load44 rfl rfl hsx lv (by rfl) ?_)
    | (refine wpList_load44 rfl rfl hqx lu (by rfl) ?_)
    | (go_at_call 14; have hq := hB3; clear hq; refine (known14 _).mono ?_; rintro e W4 ⟨rfl, hW4⟩; have hB4 := hB3.trans (hW4.mono hB3.size))
    | (go_at_call 14; have hq := hB2s; clear hq; refine (known14 _).mono ?_; rintro e W4 ⟨rfl, hW4⟩; have hB4 := hB2s.trans (hW4.mono hB2s.size))
    | (go_at_call 14; refine (known14 _).mono ?_; rintro e W1 ⟨rfl, hW1⟩; have hB1 := B2.trans (hW1.mono (by rw [s2]; omega)); have hqx : W1.heap[w.heap.size]? = _ := (hW1.block w.heap.size (by rw [s2]; omega)).trans X2; have hpx : W1.heap[w.heap.size + 1]? = _ := (hW1.block (w.heap.size + 1) (by rw [s2]; omega)).trans Y2; have l1 := heap_lt hqx; have l2 := heap_lt hpx)
    | (go_at_call 21; have hq := hB2s; clear hq; refine (kt _ hB2s).mono ?_; rintro e W3 ⟨b2, rfl, hW3⟩; have hB3 := hB2s.trans (hW3.mono hB2s.size); have hux : W3.heap[w.heap.size]? = _ := (hW3.block w.heap.size m1).trans htx; have hvx : W3.heap[w.heap.size + 1]? = _ := (hW3.block (w.heap.size + 1) m2).trans hsx; cases b2)
    | (go_at_call 21; refine (ks _ hB1).mono ?_; rintro e W2 ⟨b1, rfl, hW2⟩; have hB2s := hB1.trans (hW2.mono hB1.size); have htx : W2.heap[w.heap.size]? = _ := (hW2.block w.heap.size l1).trans hqx; have hsx : W2.heap[w.heap.size + 1]? = _ := (hW2.block (w.heap.size + 1) l2).trans hpx; have m1 := heap_lt htx; have m2 := heap_lt hsx; cases b1))
  all_goals first
    | exact ⟨by rfl, by rfl, by rfl, by rfl, hB3, hux, hvx⟩
    | (go_ret; first | exact ⟨rfl, hB4⟩ | exact hB4)
end Go.Proofs.YtmhkceeiiklfdaaGreat
