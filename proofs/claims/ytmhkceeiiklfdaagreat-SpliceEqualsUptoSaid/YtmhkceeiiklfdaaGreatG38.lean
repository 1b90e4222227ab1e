/- The statement SpliceEqualsUptoSaid: for any two splices the law returns true and leaves its arguments as they were; where the arguments are of bulk at most 1048576. -/
import Derived.Test.YtmhkceeiiklfdaaGreatG25
import Derived.Test.YtmhkceeiiklfdaaGreatG36
import Derived.Test.YtmhkceeiiklfdaaGreatG37
import Derived.WalkKit
import Derived.ProofKit
import Derived.OpenShut
import Derived.JoinedCond
set_option linter.unusedVariables false
set_option linter.unusedSimpArgs false
set_option linter.unusedVariables false
set_option linter.unusedSimpArgs false
namespace Go.Proofs.YtmhkceeiiklfdaaGreat
open Go.ChangeShapes Go.WideShapes Go.ChangeAt Go.RowKit Go.Abs
theorem own6 : ownKnob Tryz.prog.godebug = none := by kernel_rfl
theorem laidOut6 : laidOutB Tryz.prog = true := by kernel_rfl
theorem IsSplice.le {n m : Nat} (h : n ≤ m) {c : List T} (hc : IsSplice (IsItem n) c) : IsSplice (IsItem m) c := by
  obtain ⟨k, i, a, s, p, q, rfl, hp, hq⟩ := hc
  have hi : ∀ c, IsItem n c → IsItem m c := fun c h1 => h1.le h
  exact ⟨k, i, a, s, p, q, rfl, hp.mono hi (fun c h1 => h1.mono hi) (fun c h1 => h1.mono hi), hq.mono hi (fun c h1 => h1.mono hi) (fun c h1 => h1.mono hi)⟩
theorem post_below {H : Type} {enc : TypeId × Value → H} {P : Program} {f : Func} {s : ChangeSpec} {apart fresh handsOn again : Bool} {W W' : World} {args : Array Value} {v : Value} {ds gs : List (DataW H)} {before pa pv : List MemPlace}
    (hW : DataW.Whole enc P f.params.toList s.vars apart W args.toList ds gs before)
    (hres : ∀ (b : Nat) (sp : Nat → Bool) (hd : Bool), DataW.TrodAll enc P W' b sp hd f.resultTypes.toList (v.resultList f.resultTypes.size) (s.fn H (ds ++ gs)).results [])
    (hargs : ∀ sp : Nat → Bool, (∀ p ∈ before, sp p.block = true) → DataW.TrodAll enc P W' 0 sp true f.params.toList args.toList (s.fn H (ds ++ gs)).args pa)
    (hvars : ∀ sp : Nat → Bool, (∀ p ∈ before, sp p.block = true) → DataW.TrodVars enc P W' sp s.vars (s.fn H (ds ++ gs)).vars pv)
    (hps : before = pa ++ pv) (hb : Below W.heap.size W W')
    (hok : ∀ (j : Nat) (t : TypeId) (r : Value), f.resultTypes[j]? = some t → (v.resultList f.resultTypes.size)[j]? = some r → Value.okWide P W' .any 0 t r) :
    s.post enc P f apart fresh handsOn again W args v W' := by
  have hlt := hW.lt
  have hold : ∀ p ∈ before, (fun b => decide (b < W.heap.size)) p.block = true := fun p hp => by simpa using hW.lt p hp
  refine ⟨ds, gs, before, [], pa, pv, hW, hres _ _ _, hargs _ hold, hvars _ hold, World.keptBut_mono (fun p hp => ⟨hp, ?_⟩) (hb.frame (· ∈ before)), fun _ => ?_⟩
  · rw [hps, List.mem_append] at hp
    exact Or.inr hp
  · obtain ⟨_, _, _, _, _, hz, hn⟩ := hW
    refine ⟨hok, _, _, ([] ++ pa) ++ pv, ⟨[] ++ pa, pv, trodAll_append (hargs _ (fun _ _ => rfl)) (hres _ _ _), hvars _ (fun _ _ => rfl), rfl, ?_, ?_⟩, ?_⟩
    · intro b off hp
      have hm : MemPlace.cell b off ∈ before := by rw [hps]; simpa using hp
      rw [hb.frozen (p := ⟨b, off, none⟩) (hlt _ hm)]
      exact hz b off hm
    · intro ha
      have := hn ha
      rw [hps] at this
      simpa using this
    · intro p hp _
      rw [hps]
      simpa using hp
theorem small_le {H : Type} {ds : List (DataW H)} (hk : Rows.uptoSmall H ds = true) : Rows.uptoBulkAll ds ≤ 1048576 := by
  unfold Rows.uptoSmall at hk
  exact of_decide_eq_true hk
set_option maxRecDepth 1000000 in
theorem contract6 (H : Type) (enc : TypeId × Value → H) (W : World) (base : Nat) (args : Array Value) (ds gs : List (DataW H)) (before : List MemPlace)
    (hval : ∀ (j : Nat) t v, Tryz.f6.params[j]? = some t → args[j]? = some v → Value.okWide Tryz.prog W .any base t v)
    (hW : DataW.Whole enc Tryz.prog Tryz.f6.params.toList Rows.spliceEqualsSpec.vars false W args.toList ds gs before) (hk : Rows.uptoSmall H (ds ++ gs) = true) :
    Calls Tryz.prog 6 args W fun e W' => ∃ v, e = .returned v ∧ Rows.spliceEqualsSpec.post enc Tryz.prog Tryz.f6 false true false false W args v W' := by
  have hW' := hW
  obtain ⟨p, q, hA0, hV, rfl, hfz, hnd⟩ := hW
  have hA : DataW.TrodAll enc Tryz.prog W 0 (fun _ => true) true Tryz.f6.params.toList args.toList ds p := hA0
  rw [Tryz.params6] at hA hval
  obtain ⟨v0, vs0, d0, ds0, p0, q0, hargs, rfl, rfl, h0, r0⟩ := trodAll_cons hA
  obtain ⟨v1, vs1, d1, ds1, p1, q1, rfl, rfl, rfl, h1, r1⟩ := trodAll_cons r0
  obtain ⟨rfl, rfl, rfl⟩ := trodAll_nil r1
  obtain rfl : args = #[v0, v1] := by cases args; simp_all
  obtain ⟨rfl, rfl⟩ := trodVars_none hV
  have hbulk : Rows.uptoBulkAll ([d0, d1] ++ []) ≤ 1048576 := small_le hk
  have b0 : Rows.uptoBulk d0 ≤ Rows.uptoBulkAll ([d0, d1] ++ []) := bulk_part (by simp)
  have b1 : Rows.uptoBulk d1 ≤ Rows.uptoBulkAll ([d0, d1] ++ []) := bulk_part (by simp)
  obtain ⟨c0, rfl, _⟩ := okWide_struct Tryz.underlying44 (hval 0 44 v0 rfl rfl)
  obtain ⟨c1, rfl, _⟩ := okWide_struct Tryz.underlying44 (hval 1 44 v1 rfl rfl)
  have h0k := h0
  have h1k := h1
  obtain ⟨n0, t0⟩ := h0
  obtain ⟨n1, t1⟩ := h1
  obtain ⟨x0, y0, z0⟩ := rdSplice n0 _ _ t0 (Nat.le_trans b0 hbulk)
  obtain ⟨x1, y1, z1⟩ := rdSplice n1 _ _ t1 (Nat.le_trans b1 hbulk)
  have hl := law6 (n := n0 + n1) W n0 n1 x0 x1 _ _ y0 y1 (z0.le (by omega)) (z1.le (by omega))
  have e0 : (Value.agg c0).cells.toList.toArray = c0 := by show c0.toList.toArray = c0; simp
  have e1 : (Value.agg c1).cells.toList.toArray = c1 := by show c1.toList.toArray = c1; simp
  rw [e0, e1] at hl
  refine hl.mono ?_
  rintro e W' ⟨rfl, hb⟩
  have hlt := hW'.lt
  have hr : Tryz.prog.readableRec 44 = true := by kernel_rfl
  have hs : 44 < Tryz.prog.types.size := of_decide_eq_true (by kernel_rfl)
  refine ⟨_, rfl, post_below (pa := p0 ++ (p1 ++ [])) (pv := []) hW' (fun _ _ _ => (trodAll_cons_mk (shut_bool Tryz.underlying4 _) trodAll_mk0)) (fun sp hsp => ?_) (fun _ _ => rfl) (by simp) hb (ok_one (by kernel_rfl) rfl (okWide_bool_mk Tryz.underlying4 _))⟩
  have m0 : ∀ x ∈ p0, x.block < W.heap.size := fun x hx => hlt x (by simp [hx])
  have m1 : ∀ x ∈ p1, x.block < W.heap.size := fun x hx => hlt x (by simp [hx])
  exact trodAll_cons_mk (WideElems.Trod_stays laidOut6 hr hs h0k (fun x hx => hb.same (m0 x hx)) (fun x hx => hsp x (by simp [hx])))
    (trodAll_cons_mk (WideElems.Trod_stays laidOut6 hr hs h1k (fun x hx => hb.same (m1 x hx)) (fun x hx => hsp x (by simp [hx]))) trodAll_mk0)
def zero6 : Value := .agg #[.int .i64 0, .int .i64 0, .int .i64 0, .int .i64 0, .slice none 0 0, .slice none 0 0, .slice none 0 0, .slice none 0 0, .int .i64 0, .int .i64 0, .slice none 0 0, .slice none 0 0, .slice none 0 0, .slice none 0 0, .slice none 0 0, .slice none 0 0, .slice none 0 0, .slice none 0 0, .slice none 0 0, .slice none 0 0, .int .i64 0, .int .i64 0, .slice none 0 0, .slice none 0 0, .slice none 0 0, .slice none 0 0, .slice none 0 0, .slice none 0 0]
def zeroPiece (H : Type) : DataW H := .agg [.nil, .nil, .nil, .agg [.nil, .agg [.lit (.int .i64 0), .lit (.int .i64 0), .nil, .nil]], .agg [.nil, .nil, .nil, .nil]]
def zeroData (H : Type) : DataW H := .agg [.lit (.int .i64 0), .lit (.int .i64 0), .lit (.int .i64 0), .lit (.int .i64 0), zeroPiece H, zeroPiece H]
set_option maxRecDepth 100000 in
theorem lifted6 (os : Os) (started : os.Started) (H : Type) (enc : TypeId × Value → H) (F : Stop.Interp) :
    ReturnsInHanded {} Tryz.checked os 6 .any ((Rows.OpenSpec.upto Rows.spliceEqualsSpec).pre6 enc Tryz.prog Tryz.f6 Rows.spliceEqualsUptoRow.domain false) (((Rows.OpenSpec.upto Rows.spliceEqualsSpec).at F).post enc Tryz.prog Tryz.f6 false true false false) := by
  refine returnsInHanded_of_cond (C := Tryz.checked) (s := Rows.OpenSpec.upto Rows.spliceEqualsSpec) (k := Rows.uptoSmall) rfl own6 started (by kernel_rfl) Tryz.func6
    (OpenSpec.witness (enc := enc) (C := Tryz.checked) (s := Rows.OpenSpec.upto Rows.spliceEqualsSpec) (k := Rows.uptoSmall) rfl false ⟨#[], #[zero6, zero6], []⟩ 8 (by kernel_rfl) (by kernel_rfl) (by kernel_rfl)
      (x := ([zeroData H, zeroData H], [], [])) (by kernel_rfl) rfl (by kernel_rfl)) ?_
  intro W base args ds gs before hval hW _ hk _
  exact contract6 H enc W base args ds gs before hval hW hk
theorem over6 : Rows.spliceEqualsUptoRow.holds Tryz.pinned (Rows.OpenSpec.upto Rows.spliceEqualsSpec) :=
  OpenClaim.holds_of_cond 6 Tryz.f6 rfl rfl rfl rfl rfl rfl rfl ⟨rfl, rfl, rfl, rfl, rfl⟩ rfl rfl rfl rfl rfl (by kernel_rfl) Tryz.func6 closed6
    (of_decide_eq_true (by kernel_rfl)) (by unfold Func.isWrapper; first | (rw [if_pos (by decide +kernel)]; kernel_rfl) | (rw [if_neg (by decide +kernel)]; exact ⟨rfl, rfl⟩))
    (fun os started H enc _ F => lifted6 os started H enc F)
theorem spliceEquals_holds : Rows.SpliceEqualsUptoSaid := over6
end Go.Proofs.YtmhkceeiiklfdaaGreat
