/- A part of the proof of SpliceEqualsUptoSaid (texts: SndE SndF SndG). No conditions. -/
import Derived.Test.YtmhkceeiiklfdaaGreatG02
import Derived.Laws.BytesArg
import Derived.Laws.Strings
import Derived.Laws.Tables
set_option linter.unusedVariables false
set_option linter.unusedSimpArgs false
set_option linter.unusedVariables false
set_option linter.unusedSimpArgs false
namespace Go.Abs

/-- what the abstract frame says of the temporaries -/
def FR (φ : Phi) (F : Fr) (ts : Array Value) : Prop := ∀ t, VRel φ (evalT t F) (ts.getD t undef)
theorem FR.mono {φ φ' : Phi} (e : Ext φ φ') {F : Fr} {ts : Array Value} (h : FR φ F ts) : FR φ' F ts := fun t => (h t).mono e

section
variable {φ : Phi} {F : Fr} {a : Act} (hF : FR φ F a.tmps)
 include hF
theorem ev_rel (x : Operand) : VRel φ (ev x F) (a.eval x) := by
  cases x with
  | tmp t => exact hF t
  | const v =>
    show VRel φ (@Bool.rec (fun _ => Value) (.tuple #[]) v (closedV v)) v
    rw [brec]
    split
    · rename_i h; exact .closedV h
    · exact .top v
  | global g => exact .top _
  | func f => exact .func f [] [] [] [] .nil .nil
theorem evs_rel : ∀ l : List Operand, LRel φ (evs F l) (l.map a.eval)
  | [] => .nil
  | x :: r => .cons _ _ _ _ (ev_rel hF x) (evs_rel r)
theorem evOpt_rel (x : Option Operand) (v : Value) (h : evOpt F x = some v) : ∃ v', x.map a.eval = some v' ∧ VRel φ v v' := by
  cases x with
  | none => cases h
  | some x => cases h; exact ⟨_, rfl, ev_rel hF x⟩
 omit hF in
theorem evOpt_none (x : Option Operand) (h : evOpt F x = none) : x.map a.eval = none := by
  cases x with
  | none => rfl
  | some x => cases h
end

def outH : AOut → AHeap
  | .val _ H => H
  | .enter _ _ H => H
  | .round _ _ H => H

/-- A quiet operation: no memory. -/
def QOk (φ : Phi) (E : Env) (H : AHeap) (s : Sem Next) (out : AOut) : Prop :=
  ∃ v v', out = .val v H ∧ (∀ w, s.run E.prog w = .ok (.value v') w) ∧ VRel φ v v'
theorem QOk.of {φ : Phi} {E : Env} {H : AHeap} {s : Sem Value} {out : AOut} {v v' : Value} (ho : out = .val v H) (hr : ∀ w, s.run E.prog w = .ok v' w) (hv : VRel φ v v') :
    QOk φ E H (do pure (.value (← s))) out := ⟨v, v', ho, fun w => by simp [hr w], hv⟩

theorem oval_some {H : AHeap} {x : Option Value} {out : AOut} (h : oval H x = some out) : ∃ v, x = some v ∧ out = .val v H := by
  cases x with
  | none => cases h
  | some v => cases h; exact ⟨v, rfl, rfl⟩
theorem ogr_some {H : AHeap} {x : Option Value} {out : AOut} (h : ogr H x = some out) : ∃ v, x = some v ∧ ground v = true ∧ out = .val v H := by
  cases x with
  | none => cases h
  | some v =>
    have e : ogr H (some v) = @Bool.rec (fun _ => Option AOut) none (some (.val v H)) (ground v) := rfl
    rw [e, brec] at h
    split at h
    · rename_i hg; cases h; exact ⟨v, rfl, hg, rfl⟩
    · cases h
theorem grV_some {x : Option Value} {v : Value} (h : grV x = some v) : x = some v ∧ ground v = true := by
  cases x with
  | none => cases h
  | some u =>
    have e : grV (some u) = @Bool.rec (fun _ => Option Value) none (some u) (ground u) := rfl
    rw [e, brec] at h
    split at h
    · rename_i hg; cases h; exact ⟨rfl, hg⟩
    · cases h

section
variable {φ : Phi} {E : Env} {F : Fr} {a : Act} {H : AHeap} (ok : EnvOk E) (hF : FR φ F a.tmps)

 include hF in
theorem q_move {x : Operand} {o : Oper} {out : AOut} (h : xMove x E o F H = some out) : QOk φ E H (pure (.value (a.eval x))) out := by
  cases h
  exact ⟨_, _, rfl, fun w => rfl, ev_rel hF x⟩

theorem pick2_some {c x y v : Value} (h : pick2 c x y = some v) : (c = .bool true ∧ v = x) ∨ (c = .bool false ∧ v = y) := by
  cases c with
  | bool b => cases b with
    | false => cases h; exact .inr ⟨rfl, rfl⟩
    | true => cases h; exact .inl ⟨rfl, rfl⟩
  | _ => cases h
 include hF in
theorem q_pick {c x y : Operand} {o : Oper} {out : AOut} (h : xPick c x y E o F H = some out) : QOk φ E H (do pure (.value (if ← asBool (a.eval c) then a.eval x else a.eval y))) out := by
  obtain ⟨v, h1, rfl⟩ := oval_some h
  have hc := ev_rel hF c
  rcases pick2_some h1 with ⟨h2, rfl⟩ | ⟨h2, rfl⟩
  · rw [h2] at hc
    have := hc.bool_inv
    exact ⟨_, a.eval x, rfl, fun w => by simp [this, asBool], ev_rel hF x⟩
  · rw [h2] at hc
    have := hc.bool_inv
    exact ⟨_, a.eval y, rfl, fun w => by simp [this, asBool], ev_rel hF y⟩

theorem nilChk_some {v u : Value} (h : nilChk v = some u) : u = v ∧ ((∃ ad, v = .pointer (some ad)) ∨ (∃ f a b, v = .func (.func f) a b) ∨ (∃ l a b, v = .func (.yield l) a b)) := by
  cases v with
  | pointer ad => cases ad with
    | none => cases h
    | some ad => cases h; exact ⟨rfl, .inl ⟨_, rfl⟩⟩
  | func fn a b => cases fn with
    | func f => cases h; exact ⟨rfl, .inr (.inl ⟨_, _, _, rfl⟩)⟩
    | yield l => cases h; exact ⟨rfl, .inr (.inr ⟨_, _, _, rfl⟩)⟩
    | _ => cases h
  | _ => cases h
 include hF in
theorem q_nilCheck {x : Operand} {o : Oper} {out : AOut} (hop : o.op = .nilCheck x) (h : xNilCheck x E o F H = some out) : QOk φ E H (execOp a.eval o) out := by
  obtain ⟨v, h1, rfl⟩ := oval_some h
  have hx := ev_rel hF x
  obtain ⟨rfl, h2⟩ := nilChk_some h1
  refine ⟨_, a.eval x, rfl, fun w => ?_, hx⟩
  unfold execOp
  rw [hop]
  simp only
  rcases h2 with ⟨ad, h2⟩ | ⟨f, c, d, h2⟩ | ⟨l, c, d, h2⟩ <;> rw [h2] at hx <;> generalize a.eval x = u at hx <;> cases hx <;> first | rfl | (rename_i hg; cases hg)

 include hF in
theorem q_fieldAddr {s : TypeId} {x : Operand} {f : Nat} {o : Oper} {out : AOut} (ok : EnvOk E) (h : xFieldAddr s x f E o F H = some out) : QOk φ E H (do pure (.value (← Instr.fieldAt s (a.eval x) f))) out := by
  unfold xFieldAddr fieldAt at h
  rw [orec] at h
  cases ha : addrOf (ev x F) with
  | none => rw [ha] at h; cases h
  | some q =>
    obtain ⟨A, off⟩ := q
    rw [ha] at h
    simp only [orec] at h
    cases hp : E.place s f with
    | none => rw [hp] at h; cases h
    | some fo =>
      rw [hp] at h
      cases h
      have hx := ev_rel hF x
      rw [addrOf_some ha] at hx
      obtain ⟨b, n, hA, he⟩ := hx.ptr_inv
      unfold Env.place at hp
      cases hf : E.field s f with
      | none => rw [hf] at hp; cases hp
      | some q =>
        obtain ⟨ft, off'⟩ := q
        rw [hf] at hp
        simp only at hp
        cases hs : E.size ft with
        | none => rw [hs] at hp; cases hp
        | some m =>
          rw [hs] at hp
          cases m with
          | zero => cases hp
          | succ m =>
            cases hp
            obtain ⟨fs, fd, h1, h2, rfl, rfl⟩ := EnvOk.field hf
            refine QOk.of rfl (v' := .pointer (some ⟨b, off + fd.offset, none⟩)) (fun w => ?_) (.ptr _ _ _ _ hA)
            rw [he]
            simp [Instr.fieldAt, ok.run_under h1, h2, Instr.sureAddr, fieldPlace, ok.run_size hs, add_at]

theorem part_run (ok : EnvOk E) {t : TypeId} {cs cs' : List Value} {off : Nat} {v : Value} (h : aPart E t cs off = some v) (hl : LRel φ cs cs') : ∃ v', (∀ w, (part t ⟨cs'⟩ off).run E.prog w = .ok v' w) ∧ VRel φ v v' := by
  unfold aPart at h
  rw [orec] at h
  cases hr : E.row t with
  | none => rw [hr] at h; cases h
  | some q =>
    obtain ⟨ag, m⟩ := q
    rw [hr] at h
    cases ag with
    | false =>
      have h' : headV (dropN off cs) = some v := h
      rw [dropN_eq, headV_eq, List.getElem?_drop] at h'
      obtain ⟨v', h1, h2⟩ := hl.get _ _ h'
      refine ⟨v', fun w => ?_, h2⟩
      have h1' : (⟨cs'⟩ : Array Value)[off]? = some v' := by simpa using h1
      simp [part, (ok.row hr w).1, h1']
    | true =>
      have h' : aggOf (takeN m (dropN off cs)) = some v := h
      rw [dropN_eq] at h'
      cases ht : takeN m (cs.drop off) with
      | none => rw [ht] at h'; cases h'
      | some l =>
        rw [ht] at h'; cases h'
        obtain ⟨rfl, _⟩ := takeN_some _ _ _ ht
        refine ⟨.agg ⟨(cs'.drop off).take m⟩, fun w => ?_, .agg _ _ ((hl.drop off).take m)⟩
        simp only [part, Sem.run_bind, (ok.row hr w).1, (ok.row hr w).2, Result.andThen_ok, if_true, Sem.run_pure]
        congr 2
        apply Array.ext'
        simp [List.extract]
theorem VRel.agg_inv {φ : Phi} {cs : Array Value} {v' : Value} (h : VRel φ (.agg cs) v') : ∃ cs', v' = .agg ⟨cs'⟩ ∧ LRel φ cs.toList cs' := by
  cases h with
  | gr _ hg => cases hg
  | agg cs cs' hl => exact ⟨cs', rfl, hl⟩
 include hF in
theorem q_field {t : TypeId} {x : Operand} {f : Nat} {o : Oper} {out : AOut} (ok : EnvOk E) (h : xField t x f E o F H = some out) : QOk φ E H (do pure (.value (← Instr.field t (a.eval x) f))) out := by
  obtain ⟨v, h1, rfl⟩ := oval_some h
  have hx := ev_rel hF x
  generalize ev x F = ax at h1 hx
  cases ax with
  | agg cs =>
    obtain ⟨cs', he, hl⟩ := hx.agg_inv
    have h2 : (@Option.rec (TypeId × Nat) (fun _ => Option Value) none (fun q => @Prod.rec _ _ (fun _ => Option Value) (fun ft fo => aPart E ft cs.toList fo) q) (E.field t f)) = some v := h1
    rw [orec] at h2
    cases hf : E.field t f with
    | none => rw [hf] at h2; cases h2
    | some q =>
      obtain ⟨ft, fo⟩ := q
      rw [hf] at h2
      simp only at h2
      obtain ⟨fs, fd, h3, h4, rfl, rfl⟩ := EnvOk.field hf
      obtain ⟨v', h5, h6⟩ := part_run ok h2 hl
      refine QOk.of rfl (fun w => ?_) h6
      simp [he, Instr.field, ok.run_under h3, h4, asAgg, h5 w]
  | _ => cases h1

theorem nth_eq : ∀ (l : List Value) (i : Nat), nth l i = l[i]?
  | [], i => by simp; rfl
  | v :: l, 0 => rfl
  | v :: l, i + 1 => by
    have e : nth (v :: l) (i + 1) = nth l i := rfl
    rw [e, nth_eq l i]; simp
 include hF in
theorem q_extract {t : Operand} {ix : Nat} {o : Oper} {out : AOut} (h : xExtract t ix E o F H = some out) : QOk φ E H (do pure (.value (← Instr.extract (a.eval t) ix))) out := by
  obtain ⟨v, h1, rfl⟩ := oval_some h
  have hx := ev_rel hF t
  generalize ev t F = ax at h1 hx
  cases ax with
  | tuple vs =>
    have h2 : nth vs.toList ix = some v := h1
    rw [nth_eq] at h2
    generalize a.eval t = bx at hx
    cases hx with
    | gr _ hg => cases hg
    | top v => simp at h2
    | tuple u u' cs cs' hl =>
      obtain ⟨v', h3, h4⟩ := hl.get _ _ h2
      refine QOk.of rfl (v' := v') (fun w => ?_) h4
      have h3' : (⟨u' :: cs'⟩ : Array Value)[ix]? = some v' := by simpa using h3
      simp [Instr.extract, h3']
  | _ => cases h1
end
end Go.Abs
set_option linter.unusedVariables false
set_option linter.unusedSimpArgs false
namespace Go.Abs
variable {φ : Phi} {E : Env} {F : Fr} {a : Act} {H : AHeap}

theorem VRel.slice_inv {ad : Option Addr} {len cap : Nat} {v' : Value} (h : VRel φ (.slice ad len cap) v') :
    (ad = none ∧ v' = .slice none len cap) ∨
    (∃ A off b n, ad = some ⟨A, off, none⟩ ∧ φ A = some (b, n) ∧ v' = .slice (some ⟨b, off, none⟩) len cap) ∨
    (∃ A off b n es cap', ad = some ⟨A, off, some (es + 1)⟩ ∧ φ A = some (b, n) ∧ cap ≤ cap' ∧ off + cap' * (es + 1) = n ∧ v' = .slice (some ⟨b, off, none⟩) len cap') ∨
    (∃ a' cap', ad = some ⟨0, 0, some 0⟩ ∧ len = 0 ∧ cap = 0 ∧ v' = .slice (some a') 0 cap') := by
  cases h with
  | gr _ hg => cases hg
  | sliceNil => exact .inl ⟨rfl, rfl⟩
  | sliceEx A off b n _ _ hA => exact .inr (.inl ⟨A, off, b, n, rfl, hA, rfl⟩)
  | sliceIn A off b n es _ _ cap' hA h1 h2 => exact .inr (.inr (.inl ⟨A, off, b, n, es, cap', rfl, hA, h1, h2, rfl⟩))
  | ghost a' cap' => exact .inr (.inr (.inr ⟨a', cap', rfl, rfl, rfl, rfl⟩))

theorem bound_some {d m r : Nat} {o : Option Value} (h : bound d m o = some r) : (o = none ∧ r = d) ∨ ∃ v, o = some v ∧ intIdx v = some r ∧ r ≤ m := by
  cases o with
  | none => cases h; exact .inl ⟨rfl, rfl⟩
  | some v =>
    have e : bound d m (some v) = @Option.rec Nat (fun _ => Option Nat) none (fun i => @Bool.rec (fun _ => Option Nat) none (some i) (Nat.ble i m)) (intIdx v) := rfl
    rw [e, orec] at h
    cases hi : intIdx v with
    | none => rw [hi] at h; cases h
    | some i =>
      rw [hi] at h
      simp only [brec] at h
      split at h
      · rename_i hle; cases h; exact .inr ⟨v, rfl, hi, Nat.le_of_ble_eq_true hle⟩
      · cases h
theorem run_sliceBound {P : Program} {v' : Value} {k : IntKind} {i m : Nat} (h : v' = .int k (i : Int)) (hm : i ≤ m) (c : BoundsCode) (w : World) : (Instr.sliceBound v' m c).run P w = .ok i w := by
  subst h
  have : (0 : Int) ≤ (i : Int) ∧ (i : Int) ≤ (m : Int) := ⟨by omega, by omega⟩
  simp [Instr.sliceBound, asIntOf, this]
/-- an optional value of an optional one -/
def OR (φ : Phi) (x x' : Option Value) : Prop := (x = none ∧ x' = none) ∨ ∃ v v', x = some v ∧ x' = some v' ∧ VRel φ v v'
/-- the bounds as the model reckons them: cap' may be more than what is known of it -/
theorem run_bounds {P : Program} {len cap cap' m h l : Nat} {lo hi mx lo' hi' mx' : Option Value} (isS : Bool) (w : World)
    (rl : OR φ lo lo') (rh : OR φ hi hi') (rm : OR φ mx mx')
    (hc : cap ≤ cap') (hg : (mx.isSome && hi.isNone) = false) (h1 : bound cap cap mx = some m) (h2 : bound len m hi = some h) (h3 : bound 0 h lo = some l) (hh : h ≤ m) :
    (Instr.sliceBounds isS len cap' lo' hi' mx').run P w = .ok (l, h, if mx.isSome = true then m else cap') w := by
  rcases rm with ⟨rfl, rfl⟩ | ⟨vm, vm', rfl, rfl, hrm⟩ <;> rcases rh with ⟨rfl, rfl⟩ | ⟨vh, vh', rfl, rfl, hrh⟩ <;> rcases rl with ⟨rfl, rfl⟩ | ⟨vl, vl', rfl, rfl, hrl⟩ <;>
    (try (simp at hg; done)) <;>
    rcases bound_some h1 with ⟨e1, e1'⟩ | ⟨v1, e1, e1', e1''⟩ <;> (try (cases e1; done)) <;>
    rcases bound_some h2 with ⟨e2, e2'⟩ | ⟨v2, e2, e2', e2''⟩ <;> (try (cases e2; done)) <;>
    rcases bound_some h3 with ⟨e3, e3'⟩ | ⟨v3, e3, e3', e3''⟩ <;> (try (cases e3; done)) <;>
    (try (cases e1)) <;> (try (cases e2)) <;> (try (cases e3)) <;>
    (try (obtain ⟨k1, rfl⟩ := intIdx_some e1')) <;> (try (obtain ⟨k2, rfl⟩ := intIdx_some e2')) <;> (try (obtain ⟨k3, rfl⟩ := intIdx_some e3')) <;>
    (try subst e1') <;> (try subst e2') <;> (try subst e3') <;>
    (try (have a1 := run_sliceBound (P := P) hrm.int_inv (Nat.le_trans e1'' hc))) <;>
    (try (have a2 := run_sliceBound (P := P) hrh.int_inv e2'')) <;>
    (try (have a2' := run_sliceBound (P := P) hrh.int_inv (Nat.le_trans e2'' hc))) <;>
    (try (have a3 := run_sliceBound (P := P) hrl.int_inv e3'')) <;>
    simp [Instr.sliceBounds, *]

theorem exact_rel {es A off l h m b n : Nat} (hA : φ A = some (b, n)) (hlh : l ≤ h) (hhm : h ≤ m) :
    VRel φ (exactAt es A off l h m (Nat.beq m l)) (.slice (if m = l then some (⟨b, off, none⟩ : Addr) else (some (⟨b, off, none⟩ : Addr)).map (·.add (l * es))) (h - l) (m - l)) := by
  by_cases hml : m = l
  · have : Nat.beq m l = true := by rw [Nat.beq_eq]; exact hml
    rw [this, if_pos hml]
    exact .sliceEx _ _ _ _ _ _ hA
  · have : Nat.beq m l = false := by rw [← Bool.not_eq_true, Nat.beq_eq]; exact hml
    rw [this, if_neg hml]
    simp only [Option.map_some, add_at]
    exact .sliceEx _ _ _ _ _ _ hA

theorem run_aSlice (ok : EnvOk E) {t e : TypeId} {es : Nat} (ht : E.under t = some (.slice e)) (hes : E.size e = some es) {x x' v : Value} {lo hi mx lo' hi' mx' : Option Value}
    (rl : OR φ lo lo') (rh : OR φ hi hi') (rm : OR φ mx mx') (hx : VRel φ x x') (h : aSlice es lo hi mx x = some v) :
    ∃ v', (∀ w, (Instr.sliceAt t x' lo' hi' mx').run E.prog w = .ok v' w) ∧ VRel φ v v' := by
  cases x with
  | slice ad len cap =>
    unfold aSlice at h
    simp only at h
    split at h
    · cases h
    rename_i hg
    split at h
    · cases h
    rename_i m hm
    split at h
    · cases h
    rename_i hv hh
    split at h
    · cases h
    rename_i hhm
    have hhm' := Nat.le_of_ble_eq_true hhm
    split at h
    · cases h
    rename_i l hl
    have hlh : l ≤ hv := by
      rcases bound_some hl with ⟨_, h1⟩ | ⟨_, _, _, h1⟩
      · omega
      · exact h1
    have key : ∀ cap', cap ≤ cap' → ∀ ad', ∀ w, (Instr.sliceAt t (.slice ad' len cap') lo' hi' mx').run E.prog w =
        .ok (.slice (if (if mx.isSome = true then m else cap') = l then ad' else ad'.map (·.add (l * es))) (hv - l) ((if mx.isSome = true then m else cap') - l)) w := by
      intro cap' hc ad' w
      have hb := run_bounds (P := E.prog) (φ := φ) true w rl rh rm hc hg hm hh hl hhm'
      simp only [Instr.sliceAt, Sem.run_bind, ok.run_under ht, Result.andThen_ok, Instr.slice, hb, ok.run_size hes, Sem.run_pure]
    have hmcap : mx.isSome = false → m = cap := by
      intro e
      rcases bound_some hm with ⟨_, h1⟩ | ⟨v, h1, _⟩
      · exact h1
      · subst h1; cases e
    rcases hx.slice_inv with ⟨rfl, rfl⟩ | ⟨A, off, b, n, rfl, hA, rfl⟩ | ⟨A, off, b, n, es', cap', rfl, hA, h1, h2, rfl⟩ | ⟨a', cap', rfl, rfl, rfl, rfl⟩
    · cases h
      refine ⟨_, key cap (Nat.le_refl _) none, ?_⟩
      have e : (if mx.isSome = true then m else cap) = m := by
        cases hb : mx.isSome with
        | true => rfl
        | false => exact (hmcap hb).symm
      rw [e]
      split <;> exact .sliceNil _ _
    · refine ⟨_, key cap (Nat.le_refl _) _, ?_⟩
      have e : (if mx.isSome = true then m else cap) = m := by
        cases hb : mx.isSome with
        | true => rfl
        | false => exact (hmcap hb).symm
      rw [e]
      simp only [cutAt] at h
      cases h
      exact exact_rel hA hlh hhm'
    · refine ⟨_, key cap' h1 _, ?_⟩
      cases hmx : mx.isSome with
      | true =>
        rw [hmx] at h
        simp only [cutAt] at h
        cases h
        simp only [if_true]
        exact exact_rel hA hlh hhm'
      | false =>
        rw [hmx] at h
        have hmc := hmcap hmx
        subst hmc
        simp only [cutAt] at h
        simp only [Bool.false_eq_true, if_false]
        split at h
        · rename_i hl0
          have hl0' : l = 0 := by rw [← Nat.beq_eq]; exact hl0
          subst hl0'
          cases h
          have e2 : (if cap' = 0 then some (⟨b, off, none⟩ : Addr) else (some (⟨b, off, none⟩ : Addr)).map (·.add (0 * es))) = some ⟨b, off, none⟩ := by
            split
            · rfl
            · simp [add_at]
          rw [e2]
          exact .sliceIn _ _ _ _ _ _ _ _ hA h1 h2
        · rename_i hl0
          split at h
          · rename_i hml
            have hml' : m = l := by rw [← Nat.beq_eq]; exact hml
            cases h
            have e3 : hv - l = 0 := by omega
            rw [e3]
            split
            · exact .ghost _ _
            · exact .ghost _ _
          · rename_i hml
            split at h
            · rename_i hse
              have hse' : es' + 1 = es := by rw [← Nat.beq_eq]; exact hse
              subst hse'
              cases h
              have hml' : ¬ m = l := fun e => by rw [← Nat.beq_eq] at e; exact Bool.false_ne_true (hml.symm.trans e)
              rw [if_neg (by omega)]
              simp only [Option.map_some, add_at]
              refine .sliceIn _ _ _ _ _ _ _ _ hA (by omega) ?_
              rw [← h2, Nat.add_assoc, ← Nat.add_mul]
              congr 2
              omega
            · cases h
    · cases hmx : mx.isSome with
      | true => rw [hmx] at h; simp only [cutAt] at h; cases h
      | false =>
        rw [hmx] at h
        simp only [cutAt] at h
        cases h
        refine ⟨_, key cap' (Nat.zero_le _) _, ?_⟩
        have hmc := hmcap hmx
        have e3 : hv - l = 0 := by omega
        rw [e3, hmx]
        simp only [Bool.false_eq_true, if_false]
        split
        · exact .ghost _ _
        · exact .ghost _ _
  | _ => cases h
end Go.Abs
set_option linter.unusedVariables false
set_option linter.unusedSimpArgs false
namespace Go.Abs
variable {φ : Phi} {E : Env} {F : Fr} {a : Act} {H : AHeap}

theorem OR.ev (hF : FR φ F a.tmps) (x : Option Operand) : OR φ (evOpt F x) (x.map a.eval) := by
  cases x with
  | none => exact .inl ⟨rfl, rfl⟩
  | some x => exact .inr ⟨_, _, rfl, rfl, ev_rel hF x⟩
theorem strCut_eq (s : ByteArray) (l h : Nat) (hle : h ≤ s.size) : s.extract l h = strCut s.data.toList l h := by
  apply ByteArray.ext
  apply Array.ext'
  simp [strCut, ByteArray.data_extract]
theorem str_length (s : ByteArray) : s.data.toList.length = s.size := by rw [Array.length_toList]; rfl

theorem q_slice (ok : EnvOk E) (hF : FR φ F a.tmps) {t : TypeId} {x : Operand} {lo hi mx : Option Operand} {o : Oper} {out : AOut} (h : xSlice t x lo hi mx E o F H = some out) :
    QOk φ E H (do pure (.value (← Instr.sliceAt t (a.eval x) (lo.map a.eval) (hi.map a.eval) (mx.map a.eval)))) out := by
  obtain ⟨v, h1, rfl⟩ := oval_some h
  have hx := ev_rel hF x
  have rl := OR.ev hF lo
  have rh := OR.ev hF hi
  have rm := OR.ev hF mx
  unfold sliceIn at h1
  generalize ev x F = ax at h1 hx
  by_cases hs : ∃ s, ax = .string s
  · obtain ⟨s, rfl⟩ := hs
    have hx' := hx.of_ground rfl
    simp only at h1
    split at h1
    · rename_i hm hu
      rw [hm] at rm
      rcases rm with ⟨_, rm⟩ | ⟨_, _, rm, _⟩
      · unfold aStrSlice at h1
        split at h1
        · cases h1
        · rename_i hh hhb
          split at h1
          · cases h1
          · rename_i l hlb
            cases h1
            have hle : hh ≤ s.data.toList.length := by
              rcases bound_some hhb with ⟨_, e⟩ | ⟨_, _, _, e⟩ <;> omega
            rw [str_length] at hle
            refine QOk.of rfl (v' := .string (s.extract l hh)) (fun w => ?_) ?_
            · have hb := run_bounds (P := E.prog) (φ := φ) (mx := none) (mx' := none) (cap := s.data.toList.length) (cap' := s.data.toList.length) (m := s.data.toList.length) false w rl rh (.inl ⟨rfl, rfl⟩) (Nat.le_refl _) rfl rfl hhb hlb (by rw [str_length]; exact hle)
              rw [str_length] at hb
              rw [hx', rm]
              simp only [Instr.sliceAt, Sem.run_bind, ok.run_under hu, Result.andThen_ok, Instr.slice, Option.isSome_none, Bool.false_eq_true, if_false, hb, Sem.run_pure]
            · rw [strCut_eq s l hh hle]; exact .gr _ rfl
      · cases rm
    · cases h1
  · have h2 : (match E.elem t with | some (_, es) => aSlice es (evOpt F lo) (evOpt F hi) (evOpt F mx) ax | none => none) = some v := by
      cases ax <;> first | exact h1 | exact absurd ⟨_, rfl⟩ hs
    cases he : E.elem t with
    | none => rw [he] at h2; cases h2
    | some q =>
      obtain ⟨e, es⟩ := q
      rw [he] at h2
      obtain ⟨h3, h4⟩ := EnvOk.elem he
      obtain ⟨v', h5, h6⟩ := run_aSlice ok h3 h4 rl rh rm hx h2
      exact QOk.of rfl h5 h6

theorem q_indexAddr (ok : EnvOk E) (hF : FR φ F a.tmps) {t : TypeId} {x i : Operand} {o : Oper} {out : AOut} (h : xIndexAddr t x i E o F H = some out) :
    QOk φ E H (do pure (.value (← Instr.indexAt t (a.eval x) (a.eval i)))) out := by
  unfold xIndexAddr at h
  rw [orec] at h
  cases hi : intIdx (ev i F) with
  | none => rw [hi] at h; cases h
  | some k =>
    rw [hi] at h
    simp only at h
    obtain ⟨kd, hk⟩ := intIdx_some hi
    have hiv := ev_rel hF i
    rw [hk] at hiv
    have hiv := hiv.int_inv
    have hx := ev_rel hF x
    generalize ev x F = ax at h hx
    unfold idxAddr at h
    split at h
    · rename_i A off sp len cap
      split at h
      · rename_i e es he hlt
        cases h
        obtain ⟨h3, h4⟩ := EnvOk.elem he
        have hlt' : k < len := by simpa using hlt
        have key : ∀ (b : Nat) (cap' : Nat) (w : World), (Instr.indexAt t (.slice (some ⟨b, off, none⟩) len cap') (.int kd (k : Int))).run E.prog w = .ok (.pointer (some ⟨b, off + k * es, none⟩)) w := by
          intro b cap' w
          have hc : (0 : Int) ≤ (k : Int) ∧ (k : Int) < (len : Int) := ⟨by omega, by omega⟩
          simp [Instr.indexAt, asIntOf, ok.run_under h3, hc, ok.run_size h4, add_at]; (intro hh; omega)
        rcases hx.slice_inv with ⟨h1, _⟩ | ⟨A', off', b, n, h1, hA, h2⟩ | ⟨A', off', b, n, es', cap', h1, hA, _, _, h2⟩ | ⟨_, _, _, h1, _⟩
        · cases h1
        · cases h1
          exact QOk.of rfl (fun w => by rw [hiv, h2]; exact key b cap w) (.ptr _ _ _ _ hA)
        · cases h1
          exact QOk.of rfl (fun w => by rw [hiv, h2]; exact key b cap' w) (.ptr _ _ _ _ hA)
        · omega
      · cases h
    · rename_i A off
      split at h
      · rename_i len elem hu
        split at h
        · rename_i es hes hlt
          cases h
          have hlt' : k < len := by simpa using hlt
          obtain ⟨b, n, hA, h2⟩ := hx.ptr_inv
          refine QOk.of rfl (v' := .pointer (some ⟨b, off + k * es, none⟩)) (fun w => ?_) (.ptr _ _ _ _ hA)
          have hc : (0 : Int) ≤ (k : Int) ∧ (k : Int) < (len : Int) := ⟨by omega, by omega⟩
          rw [hiv, h2]
          simp [Instr.indexAt, asIntOf, ok.run_under hu, Instr.sureAddr, hc, ok.run_size hes, add_at]; (intro hh; omega)
        · cases h
      · cases h
    · cases h

theorem q_index (ok : EnvOk E) (hF : FR φ F a.tmps) {t : TypeId} {x i : Operand} {o : Oper} {out : AOut} (h : xIndex t x i E o F H = some out) :
    QOk φ E H (do pure (.value (← Instr.index t (a.eval x) (a.eval i)))) out := by
  unfold xIndex at h
  rw [orec] at h
  cases hi : intIdx (ev i F) with
  | none => rw [hi] at h; cases h
  | some k =>
    rw [hi] at h
    simp only at h
    obtain ⟨v, h1, rfl⟩ := oval_some h
    obtain ⟨kd, hk⟩ := intIdx_some hi
    have hiv := ev_rel hF i
    rw [hk] at hiv
    have hiv := hiv.int_inv
    have hx := ev_rel hF x
    generalize ev x F = ax at h1 hx
    unfold idxIn at h1
    split at h1
    · rename_i s
      split at h1
      · rename_i bt hu hb
        cases h1
        have hx' := hx.of_ground rfl
        refine QOk.of rfl (v' := .int .u8 bt.toNat) (fun w => ?_) (.gr _ rfl)
        have hb' : s[k]? = some bt := by
          rw [List.getElem?_eq_some_iff] at hb
          obtain ⟨hb1, hb2⟩ := hb
          rw [str_length] at hb1
          rw [getElem?_pos s k hb1]
          rw [← hb2]
          rfl
        have hk0 : (0 : Int) ≤ (k : Int) := by omega
        rw [hiv, hx']
        simp [Instr.index, asIntOf, ok.run_under hu, hk0, hb']
      · cases h1
    · rename_i cs
      split at h1
      · rename_i len elem hu
        split at h1
        · rename_i es hes hlt
          have hlt' : k < len := by simpa using hlt
          obtain ⟨cs', h2, hl⟩ := hx.agg_inv
          obtain ⟨v', h3, h4⟩ := part_run ok h1 hl
          refine QOk.of rfl (fun w => ?_) h4
          have hc : (0 : Int) ≤ (k : Int) ∧ (k : Int) < (len : Int) := ⟨by omega, by omega⟩
          rw [hiv, h2]
          simp [Instr.index, asIntOf, ok.run_under hu, hc, ok.run_size hes, h3 w]; (intro hh; omega)
        · cases h1
      · cases h1
    · cases h1

theorem q_makeFunc (hF : FR φ F a.tmps) {fn : Fn} {x y : Array Operand} {o : Oper} {out : AOut} (h : xMakeFunc fn x y E o F H = some out) :
    QOk φ E H (do pure (.value (← Instr.makeFunc fn (x.map a.eval) (y.map a.eval)))) out := by
  unfold xMakeFunc at h
  split at h
  · rename_i f
    cases h
    obtain ⟨x⟩ := x
    obtain ⟨y⟩ := y
    exact QOk.of rfl (v' := .func (.func f) ⟨x.map a.eval⟩ ⟨y.map a.eval⟩) (fun w => by simp [Instr.makeFunc]) (.func _ _ _ _ _ (evs_rel hF x) (evs_rel hF y))
  · cases h

/-! ### Composite values -/
theorem evParts_eq (F : Fr) : ∀ l : List (Nat × Operand), evParts F l = l.map fun p => (p.1, ev p.2 F)
  | [] => rfl
  | (i, x) :: r => by
    have e : evParts F ((i, x) :: r) = (i, ev x F) :: evParts F r := rfl
    rw [e, evParts_eq F r]; rfl
/-- parts of parts -/
inductive PRel (φ : Phi) : List (Nat × Value) → List (Nat × Value) → Prop
  | nil : PRel φ [] []
  | cons (i : Nat) (v v' : Value) (l l' : List (Nat × Value)) : VRel φ v v' → PRel φ l l' → PRel φ ((i, v) :: l) ((i, v') :: l')
theorem evParts_rel (hF : FR φ F a.tmps) : ∀ l : List (Nat × Operand), PRel φ (evParts F l) (l.map fun p => (p.1, a.eval p.2))
  | [] => .nil
  | (i, x) :: r => .cons _ _ _ _ _ (ev_rel hF x) (evParts_rel hF r)
theorem fold_cells : ∀ (vs : List Value) (cs : List Value) (off : Nat), off + vs.length ≤ cs.length → ∀ k,
    ((⟨vs⟩ : Array Value).zipIdx k).foldl (fun (cs : Array Value) (p : Value × Nat) => cs.setIfInBounds (off + p.2) p.1) ⟨cs⟩ = (⟨over (off + k) vs cs⟩ : Array Value) ∨ ¬ off + k + vs.length ≤ cs.length := by
  intro vs
  induction vs with
  | nil =>
    intro cs off h k
    left
    have hz : (⟨[]⟩ : Array Value).zipIdx k = #[] := by apply Array.ext'; simp
    rw [hz]
    simp [over]
  | cons v vs ih =>
    intro cs off h k
    by_cases hk : off + k + (v :: vs).length ≤ cs.length
    · left
      have hz : (⟨v :: vs⟩ : Array Value).zipIdx k = #[(v, k)] ++ (⟨vs⟩ : Array Value).zipIdx (k + 1) := by
        apply Array.ext'
        simp [List.zipIdx_cons]
      rw [hz, Array.foldl_append]
      simp only [List.size_toArray, List.length_cons, List.length_nil]
      have h1 : Array.foldl (fun (cs : Array Value) (p : Value × Nat) => cs.setIfInBounds (off + p.2) p.1) (⟨cs⟩ : Array Value) #[(v, k)] = ⟨cs.set (off + k) v⟩ := by
        simp
      have hk' : off + (k + 1) + vs.length ≤ (cs.set (off + k) v).length := by simp at hk ⊢; omega
      rcases ih (cs.set (off + k) v) off (by simp at h ⊢; omega) (k + 1) with h2 | h2
      · have h1' := h1
        simp only [List.size_toArray, List.length_cons, List.length_nil, Nat.zero_add] at h1' h2 ⊢
        rw [h1', h2]
        apply Array.ext'
        apply List.ext_getElem?
        intro j
        simp only
        rw [over_get _ _ _ hk', over_get _ _ _ hk]
        by_cases hj : j = off + k
        · subst hj
          rw [if_neg (by omega), if_pos (by simp)]
          simp at hk
          simp [List.getElem?_set]; omega
        · by_cases hj2 : off + (k + 1) ≤ j ∧ j < off + (k + 1) + vs.length
          · rw [if_pos hj2, if_pos (by simp; omega), show j - (off + k) = (j - (off + (k + 1))) + 1 by omega, List.getElem?_cons_succ]
          · rw [if_neg hj2, if_neg (by simp; omega)]
            simp [List.getElem?_set, Ne.symm hj]
      · exact absurd hk' h2
    · exact .inr hk
theorem fold_cells0 (vs cs : List Value) (off : Nat) (h : off + vs.length ≤ cs.length) :
    (⟨vs⟩ : Array Value).zipIdx.foldl (fun (cs : Array Value) (p : Value × Nat) => cs.setIfInBounds (off + p.2) p.1) ⟨cs⟩ = (⟨over off vs cs⟩ : Array Value) := by
  rcases fold_cells vs cs off h 0 with h1 | h1
  · exact h1
  · exact absurd h h1
theorem over_rel {vs vs' cs cs' : List Value} {off : Nat} (hv : LRel φ vs vs') (hc : LRel φ cs cs') (h : off + vs.length ≤ cs.length) : LRel φ (over off vs cs) (over off vs' cs') := by
  unfold over
  rw [← hv.length]
  exact (hc.take _).append (hv.append (hc.drop _))
theorem fillL_cons (pl : Nat → Option (Nat × Nat)) (i : Nat) (v : Value) (r : List (Nat × Value)) (cs : List Value) :
    fillL pl ((i, v) :: r) cs = (pl i).bind fun q => (cellsV v).bind fun vs => if lenL vs = q.2 then (writeAt vs q.1 cs).bind (fillL pl r) else none := by
  show (@Option.rec _ (fun _ => Option (List Value)) none (fun q => @Prod.rec _ _ (fun _ => Option (List Value)) (fun off size => @Option.rec _ (fun _ => Option (List Value)) none (fun vs =>
      @Bool.rec (fun _ => Option (List Value)) none (@Option.rec _ (fun _ => Option (List Value)) none (fillL pl r) (writeAt vs off cs)) (Nat.beq (lenL vs) size)) (cellsV v)) q) (pl i)) = _
  rw [orec]
  cases pl i with
  | none => rfl
  | some q =>
    obtain ⟨off, size⟩ := q
    simp only [orec, beq_if, Option.bind_some]
    cases cellsV v with
    | none => rfl
    | some vs =>
      simp only [Option.bind_some]
      split
      · cases writeAt vs off cs <;> rfl
      · rfl
theorem fill_rel {pl pl' : Nat → Option (Nat × Nat)} (hpl : ∀ i q, pl i = some q → pl' i = some q) : ∀ {ps ps' : List (Nat × Value)}, PRel φ ps ps' → ∀ {cs cs' l : List Value}, LRel φ cs cs' → fillL pl ps cs = some l →
    ∃ l', Instr.fill pl' ⟨cs'⟩ ps' = some ⟨l'⟩ ∧ LRel φ l l'
  | _, _, .nil, cs, cs', l, hc, h => by
    have e : fillL pl [] cs = some cs := rfl
    rw [e] at h; cases h
    exact ⟨cs', rfl, hc⟩
  | _, _, .cons i v v' r r' hv hr, cs, cs', l, hc, h => by
    rw [fillL_cons] at h
    cases hp : pl i with
    | none => rw [hp] at h; cases h
    | some q =>
      obtain ⟨off, size⟩ := q
      rw [hp] at h
      simp only [Option.bind_some] at h
      cases hcv : cellsV v with
      | none => rw [hcv] at h; cases h
      | some vs =>
        rw [hcv] at h
        simp only [Option.bind_some, lenL_eq] at h
        split at h
        · rename_i hlen
          cases hw : writeAt vs off cs with
          | none => rw [hw] at h; cases h
          | some m =>
            rw [hw] at h
            simp only [Option.bind_some] at h
            obtain ⟨rfl, hle⟩ := writeAt_some _ _ _ _ hw
            obtain ⟨vs', h1, h2⟩ := cellsV_some hv hcv
            have hl2 := h2.length
            have hl3 := hc.length
            obtain ⟨l', h3, h4⟩ := fill_rel hpl hr (over_rel h2 hc hle) h
            refine ⟨l', ?_, h4⟩
            unfold Instr.fill
            rw [hpl _ _ hp]
            simp only [h1]
            have hb : ((⟨vs'⟩ : Array Value).size ≠ size || off + (⟨vs'⟩ : Array Value).size > (⟨cs'⟩ : Array Value).size) = false := by
              simp only [List.size_toArray]
              simp; omega
            have hsz1 : (⟨vs'⟩ : Array Value).size = vs'.length := by simp
            have hsz2 : (⟨cs'⟩ : Array Value).size = cs'.length := by simp
            rw [if_neg (by rw [hsz1, hsz2]; simp; omega), fold_cells0 vs' cs' off (by omega)]
            exact h3
        · cases h
theorem nthA_eq {α : Type} : ∀ (l : List α) (i : Nat), nthA l i = l[i]?
  | [], i => by simp; rfl
  | v :: l, 0 => rfl
  | v :: l, i + 1 => by
    have e : nthA (v :: l) (i + 1) = nthA l i := rfl
    rw [e, nthA_eq l i]; simp
theorem size_info (ok : EnvOk E) {t : TypeId} {n : Nat} (h : E.size t = some n) : ∃ i, E.prog.info? t = some i ∧ i.size = n := by
  unfold Env.size at h
  cases ht : E.types.get t with
  | none => rw [ht] at h; cases h
  | some i => rw [ht] at h; cases h; exact ⟨i, ok.info ht, rfl⟩
theorem zero_info (ok : EnvOk E) {t : TypeId} {z : Value} (h : E.zero t = some z) : ∃ i, E.prog.info? t = some i ∧ i.zero = some z := by
  unfold Env.zero at h
  cases ht : E.types.get t with
  | none => rw [ht] at h; cases h
  | some i => rw [ht] at h; exact ⟨i, ok.info ht, h⟩
theorem zeroL_info (ok : EnvOk E) {t : TypeId} {z : List Value} (h : E.zeroL t = some z) : ∃ v, E.zero t = some v ∧ v.cells = ⟨z⟩ ∧ LRel φ z z := by
  unfold Env.zeroL Env.zeroV at h
  cases hz : E.zero t with
  | none => rw [hz] at h; cases h
  | some v =>
    rw [hz] at h
    simp only at h
    split at h
    · rename_i u hu
      split at hu
      · rename_i hcl
        cases hu
        cases h
        refine ⟨v, rfl, ?_, ?_⟩
        · show v.cells = ⟨v.cells.toList⟩; rfl
        · have := VRel.closedV (φ := φ) hcl
          cases v with
          | agg cs => obtain ⟨cs⟩ := cs; exact .closed _ (allClosed_mem _ hcl)
          | _ => exact .cons _ _ _ _ this .nil
      · cases hu
    · cases h
theorem placesOf_mapM (ok : EnvOk E) : ∀ (fs : List Field) (l : List (Nat × Nat)), placesOf E fs = some l → fs.mapM (fun f => (E.prog.info? f.type).map fun i => (f.offset, i.size)) = some l
  | [], l, h => by cases h; rfl
  | f :: r, l, h => by
    unfold placesOf at h
    split at h
    · rename_i n l' hn hl'
      cases h
      obtain ⟨i, hi, rfl⟩ := size_info ok hn
      simp [List.mapM_cons, hi, placesOf_mapM ok r l' hl']
    · cases h
theorem q_build (ok : EnvOk E) (hF : FR φ F a.tmps) {t : TypeId} {ps : Array (Nat × Operand)} {o : Oper} {out : AOut} (h : xBuild t ps E o F H = some out) :
    QOk φ E H (do pure (.value (← Instr.build t (ps.map fun (i, x) => (i, a.eval x))))) out := by
  obtain ⟨v, h1, rfl⟩ := oval_some h
  unfold aBuild at h1
  rw [orec] at h1
  cases hz : E.zeroL t with
  | none => rw [hz] at h1; cases h1
  | some z =>
    rw [hz] at h1
    simp only [orec] at h1
    cases hp : E.places t with
    | none => rw [hp] at h1; cases h1
    | some pl =>
      rw [hp] at h1
      simp only at h1
      cases hf : fillL pl (evParts F ps.toList) z with
      | none => rw [hf] at h1; cases h1
      | some l =>
        rw [hf] at h1
        cases h1
        obtain ⟨zv, h2, h3, h4⟩ := zeroL_info (φ := φ) ok hz
        obtain ⟨it, h5, h6⟩ := zero_info ok h2
        have hps : (ps.map fun (i, x) => (i, a.eval x)).toList = ps.toList.map fun p => (p.1, a.eval p.2) := by simp
        have hpr := evParts_rel hF ps.toList
        rw [← hps] at hpr
        unfold Env.places at hp
        split at hp
        · rename_i fs hu
          split at hp
          · rename_i pls hpls
            cases hp
            obtain ⟨l', h7, h8⟩ := fill_rel (pl' := (pls.toArray[·]?)) (fun i q hq => by rw [nthA_eq] at hq; simpa using hq) hpr h4 hf
            refine QOk.of rfl (fun w => run_build w t _ ⟨l'⟩ ?_) (.agg _ _ h8)
            unfold Program.built
            rw [h5, ok.under hu]
            simp only [h6, placesOf_mapM ok _ _ hpls]
            rw [h3]; exact h7
          · cases hp
        · rename_i n elem hu
          split at hp
          · rename_i es hes
            cases hp
            obtain ⟨ie, h9, rfl⟩ := size_info ok hes
            obtain ⟨l', h7, h8⟩ := fill_rel (pl' := fun i => some (i * ie.size, ie.size)) (fun i q hq => hq) hpr h4 hf
            refine QOk.of rfl (fun w => run_build w t _ ⟨l'⟩ ?_) (.agg _ _ h8)
            unfold Program.built
            rw [h5, ok.under hu]
            simp only [h6, h9]
            rw [h3]; exact h7
          · cases hp
        · cases hp
end Go.Abs
