/- A part of the proof of SpliceEqualsUptoSaid (texts: SndH SndI SndJ). No conditions. -/
import Derived.Test.YtmhkceeiiklfdaaGreatG03
set_option linter.unusedVariables false
set_option linter.unusedSimpArgs false
set_option linter.unusedVariables false
set_option linter.unusedSimpArgs false
namespace Go.Abs
variable {φ : Phi} {E : Env} {F : Fr} {a : Act} {H : AHeap}

theorem notB_eq (b : Bool) : notB b = !b := by cases b <;> rfl
theorem notOf_some {v u : Value} (h : notOf v = some u) : ∃ b, v = .bool b ∧ u = .bool (!b) := by
  cases v with
  | bool b => cases h; exact ⟨b, rfl, by rw [notB_eq]⟩
  | _ => cases h
theorem q_unOp (ok : EnvOk E) (hF : FR φ F a.tmps) {op : UnOp} {t : TypeId} {x : Operand} {o : Oper} {out : AOut} (h : xUnOp op t x E o F H = some out) :
    QOk φ E H (do pure (.value (← Op.unary op (a.eval x)))) out := by
  have hx := ev_rel hF x
  have slow : ∀ v, slowUn E op (ev x F) = some v → QOk φ E H (do pure (.value (← Op.unary op (a.eval x)))) (.val v H) := by
    intro v hv
    unfold slowUn at hv
    split at hv
    · rename_i hg
      obtain ⟨h1, h2⟩ := grV_some hv
      refine QOk.of rfl (v' := v) (fun w => ?_) (.gr _ h2)
      rw [hx.of_ground hg]
      exact pureRun_run _ _ w h1
    · cases hv
  cases op with
  | not =>
    obtain ⟨v, h1, rfl⟩ := oval_some h
    obtain ⟨b, h2, rfl⟩ := notOf_some h1
    rw [h2] at hx
    exact QOk.of rfl (v' := .bool !b) (fun w => by rw [hx.bool_inv]; rfl) (.gr _ rfl)
  | neg => obtain ⟨v, h1, rfl⟩ := oval_some h; exact slow v h1
  | xor => obtain ⟨v, h1, rfl⟩ := oval_some h; exact slow v h1
  | plus => obtain ⟨v, h1, rfl⟩ := oval_some h; exact slow v h1

/-! ### Integers -/
theorem wrap64_eq (n : Int) : wrap64 n = IntKind.i64.wrap n := by
  cases n with
  | ofNat m =>
    have e : wrap64 (.ofNat m) = @Bool.rec (fun _ => Int) (IntKind.i64.wrap (.ofNat m)) (.ofNat m) (Nat.ble m 9223372036854775807) := rfl
    rw [e, brec]
    split
    · rename_i h
      have h := Nat.le_of_ble_eq_true h
      simp only [IntKind.wrap, IntKind.bits, IntKind.signed]
      simp
      omega
    · rfl
  | negSucc m =>
    have e : wrap64 (.negSucc m) = @Bool.rec (fun _ => Int) (IntKind.i64.wrap (.negSucc m)) (.negSucc m) (Nat.ble m 9223372036854775807) := rfl
    rw [e, brec]
    split
    · rename_i h
      have h := Nat.le_of_ble_eq_true h
      simp only [IntKind.wrap, IntKind.bits, IntKind.signed, Int.negSucc_eq]
      simp
      omega
    · rfl
theorem wrapK_eq (k : IntKind) (n : Int) : wrapK k n = k.wrap n := by
  cases k <;> first | rfl | exact wrap64_eq n
theorem blt_eq (m n : Nat) : Nat.blt m n = decide (m < n) := by
  rw [Bool.eq_iff_iff]; simp
theorem nbeq_eq (m n : Nat) : Nat.beq m n = decide (m = n) := by
  rw [Bool.eq_iff_iff]; simp
theorem intLt_eq (x y : Int) : intLt x y = decide (x < y) := by
  cases x with
  | ofNat m => cases y with
    | ofNat n => show Nat.blt m n = _; rw [blt_eq]; simp
    | negSucc n => show false = _; simp; omega
  | negSucc m => cases y with
    | ofNat n => show true = _; simp; omega
    | negSucc n => show Nat.blt n m = _; rw [blt_eq]; simp; omega
theorem intEq_eq (x y : Int) : intEq x y = decide (x = y) := by
  cases x with
  | ofNat m => cases y with
    | ofNat n => show Nat.beq m n = _; rw [nbeq_eq]; simp; exact Int.ofNat_inj.symm
    | negSucc n => show false = _; simp
  | negSucc m => cases y with
    | ofNat n => show false = _; simp
    | negSucc n => show Nat.beq m n = _; rw [nbeq_eq]; simp
theorem run_eqGuard_plain {P : Program} {op : BinOp} {t : TypeId} {x y : Operand} {u v : Value} (h : ∀ c, u ≠ .agg c) (h2 : u ≠ .nilIface) (w : World) : (eqGuard op t x y u v).run P w = .ok () w := by
  unfold eqGuard
  cases op <;> (simp only [Bool.not_true, Bool.not_false, Bool.false_eq_true, if_false, if_true]; cases u <;> first | rfl | exact absurd rfl (h _) | exact absurd rfl h2)
theorem intBin_run {P : Program} {op : BinOp} {k : IntKind} {m n : Int} {v : Value} (t : TypeId) (h : intBin op k m n = some v) (w : World) : (binOp op t (.int k m) (.int k n)).run P w = .ok v w ∧ ground v = true := by
  cases op <;> first | (cases h; done) | skip
  all_goals
    cases h
    refine ⟨?_, rfl⟩
    simp [binOp, Op.intArith, Op.intCmp, wrapK_eq, intEq_eq, intLt_eq, notB_eq]
  all_goals first
    | rfl
    | (rw [← Int.not_lt]; simp)
    | (simp [← Int.not_lt])
    | (rw [Bool.eq_iff_iff]; simp)
    | skip

theorem sameL_eq : ∀ (l m : List UInt8), sameL l m = (l == m)
  | [], [] => rfl
  | [], _ :: _ => rfl
  | _ :: _, [] => rfl
  | x :: l, y :: m => by
    have e : sameL (x :: l) (y :: m) = @Bool.rec (fun _ => Bool) false (sameL l m) (Nat.beq x.toNat y.toNat) := rfl
    rw [e, beq_if, sameL_eq l m]
    by_cases h : x = y
    · subst h; simp
    · have : ¬ x.toNat = y.toNat := fun e => h (UInt8.toNat_inj.1 e)
      rw [if_neg this]
      simp [h]
theorem strBin_run {P : Program} {op : BinOp} {s s' : ByteArray} {v : Value} (t : TypeId) (h : strBin s.data.toList s'.data.toList op = some v) (w : World) : (binOp op t (.string s) (.string s')).run P w = .ok v w ∧ ground v = true := by
  have e : binOp op t (.string s) (.string s') = Op.stringOp op s s' ∨ op = .shl ∨ op = .shr := by cases op <;> first | exact .inl rfl | exact .inr (.inl rfl) | exact .inr (.inr rfl)
  cases op <;> first | (cases h; done) | skip
  · unfold strBin at h
    simp only at h
    split at h
    · rename_i hle
      cases h
      have hle := Nat.le_of_ble_eq_true hle
      refine ⟨?_, rfl⟩
      have e2 : s ++ s' = ⟨⟨s.data.toList ++ s'.data.toList⟩⟩ := by
        apply ByteArray.ext; apply Array.ext'; simp
      rw [str_length, str_length] at hle
      simp only [binOp, Op.stringOp]
      rw [if_neg (by simp [IntKind.max, IntKind.signed, IntKind.bits]; omega), e2]
      rfl
    · cases h
  all_goals
    cases h
    refine ⟨?_, rfl⟩
    simp [binOp, Op.stringOp, ByteArray.toList_eq, sameL_eq, notB_eq]

/-! ### References -/
theorem run_equal (ok : EnvOk E) {t : TypeId} {d : TypeDesc} (hd : E.under t = some d) {x y x' y' : Value} {r : Bool} (h : ptrEq E d x y = some r) (hx : VRel φ x x') (hy : VRel φ y y') (w : World) :
    (Op.equal t x' y').run E.prog w = .ok r w := by
  have refs : ∀ r, refEq E d x y = some r → (Op.equal t x' y').run E.prog w = .ok r w := by
    intro r h
    unfold Op.equal Op.maxDepth Op.equalIn
    simp only [Sem.run_bind, ok.run_under hd, Result.andThen_ok]
    unfold refEq at h
    split at h
    · cases h
      rw [hx.of_ground rfl]
      cases hy with
      | gr _ hg => rfl
      | ptr => rfl
    · cases h
      rw [hy.of_ground rfl]
      cases hx with
      | gr _ hg => cases hg
      | ptr => rfl
    · cases h
      rcases hx.slice_inv with ⟨_, rfl⟩ | ⟨_, _, _, _, e, _⟩ | ⟨_, _, _, _, _, _, e, _⟩ | ⟨_, _, e, _⟩ <;> first | (cases e; done) | skip
      rcases hy.slice_inv with ⟨rfl, rfl⟩ | ⟨_, _, _, _, rfl, _, rfl⟩ | ⟨_, _, _, _, _, _, rfl, _, _, _, rfl⟩ | ⟨_, _, rfl, _, _, rfl⟩ <;> rfl
    · cases h
      rcases hy.slice_inv with ⟨_, rfl⟩ | ⟨_, _, _, _, e, _⟩ | ⟨_, _, _, _, _, _, e, _⟩ | ⟨_, _, e, _⟩ <;> first | (cases e; done) | skip
      rcases hx.slice_inv with ⟨e, rfl⟩ | ⟨_, _, _, _, _, _, rfl⟩ | ⟨_, _, _, _, _, _, _, _, _, _, rfl⟩ | ⟨_, _, _, _, _, rfl⟩ <;> first | (cases e; done) | rfl
    · cases h
      rw [hx.of_ground rfl]
      cases hy with
      | gr _ hg => rfl
      | map => rfl
    · cases h
      rw [hy.of_ground rfl]
      cases hx with
      | gr _ hg => cases hg
      | map => rfl
    · cases h
      rw [hx.of_ground rfl, hy.of_ground rfl]; rfl
    · cases h
      rw [hx.of_ground rfl]
      cases hy with
      | gr _ hg => cases hg
      | func => rfl
      | yield => rfl
    · cases h
      rw [hy.of_ground rfl]
      cases hx with
      | gr _ hg => cases hg
      | func => rfl
      | yield => rfl
    · cases h
  unfold ptrEq at h
  split at h
  · rename_i elem
    split at h
    · rename_i n A o B p hs hax hay
      split at h
      · rename_i hAB
        cases h
        obtain rfl := addrOf_some hax
        obtain rfl := addrOf_some hay
        obtain ⟨b, k, h1, rfl⟩ := hx.ptr_inv
        obtain ⟨b', k', h2, rfl⟩ := hy.ptr_inv
        have hAB' : A = B := by rw [← Nat.beq_eq]; exact hAB
        subst hAB'
        rw [h1] at h2; cases h2
        unfold Op.equal Op.maxDepth Op.equalIn
        simp [ok.run_under hd, ok.run_size hs, sameAddr]
        rw [Bool.eq_iff_iff]
        simp
      · cases h
    · exact refs r h
  · exact refs r h
theorem refBin_run (ok : EnvOk E) {op : BinOp} {t : TypeId} {x y x' y' v : Value} (h : refBin E op t x y = some v) (hx : VRel φ x x') (hy : VRel φ y y') (hr : isRef x = true) (w : World) :
    (binOp op t x' y').run E.prog w = .ok v w ∧ ground v = true := by
  unfold refBin at h
  split at h
  · rename_i d hd
    have key : ∀ r, ptrEq E d x y = some r → (Op.equal t x' y').run E.prog w = .ok r w := fun r hr => run_equal ok hd hr hx hy w
    have hbin : op = .eql ∨ op = .neq → (binOp op t x' y') = (if op = .eql then do pure (.bool (← Op.equal t x' y')) else do pure (.bool (!(← Op.equal t x' y')))) := by
      intro ho
      have hx1 : (∀ k n, x' ≠ .int k n) ∧ (∀ k n, x' ≠ .float k n) ∧ (∀ k n m, x' ≠ .complex k n m) ∧ (∀ s, x' ≠ .string s) := by
        refine ⟨fun k n e => ?_, fun k n e => ?_, fun k n m e => ?_, fun s e => ?_⟩ <;> subst e <;> cases hx <;> simp [isRef] at hr
      rcases ho with rfl | rfl
      · rw [if_pos rfl]
        cases x' <;> first | rfl | exact absurd rfl (hx1.1 _ _) | exact absurd rfl (hx1.2.1 _ _) | exact absurd rfl (hx1.2.2.1 _ _ _) | exact absurd rfl (hx1.2.2.2 _)
      · rw [if_neg (by decide)]
        cases x' <;> first | rfl | exact absurd rfl (hx1.1 _ _) | exact absurd rfl (hx1.2.1 _ _) | exact absurd rfl (hx1.2.2.1 _ _ _) | exact absurd rfl (hx1.2.2.2 _)
    split at h
    · split at h
      · rename_i r hr
        cases h
        rw [hbin (.inl rfl), if_pos rfl]
        exact ⟨by simp [key r hr], rfl⟩
      · cases h
    · split at h
      · rename_i r hr
        cases h
        rw [hbin (.inr rfl), if_neg (by decide)]
        exact ⟨by simp [key r hr, notB_eq], rfl⟩
      · cases h
    · cases h
  · cases h
end Go.Abs
set_option linter.unusedVariables false
set_option linter.unusedSimpArgs false
namespace Go.Abs
variable {φ : Phi} {E : Env} {F : Fr} {a : Act} {H : AHeap}

theorem VRel.of_groundA {v v' : Value} (h : VRel φ v v') (g : groundA v = true) : v' = v := by
  cases v with
  | agg cs =>
    obtain ⟨cs', rfl, hl⟩ := h.agg_inv
    rw [hl.of_ground g]
  | _ => exact h.of_ground g
theorem slowBin_run (ok : EnvOk E) {op : BinOp} {t : TypeId} {x y : Operand} {u v u' v' r : Value} (h : slowBin E op t x y u v = some r) (hu : VRel φ u u') (hv : VRel φ v v') (w : World) :
    (do eqGuard op t x y u' v'; binOp op t u' v' : Sem Value).run E.prog w = .ok r w ∧ ground r = true := by
  unfold slowBin at h
  split at h
  · rename_i hr
    obtain ⟨h1, h2⟩ := refBin_run ok h hu hv hr w
    have hg : (eqGuard op t x y u' v').run E.prog w = .ok () w := by
      refine run_eqGuard_plain (fun c e => ?_) (fun e => ?_) w
      · subst e; cases hu <;> simp [isRef] at hr
      · subst e; cases hu <;> simp [isRef] at hr
    exact ⟨by simp only [Sem.run_bind, hg, Result.andThen_ok, h1], h2⟩
  · split at h
    · rename_i hg
      obtain ⟨h1, h2⟩ := grV_some h
      rw [Bool.and_eq_true] at hg
      rw [hu.of_groundA hg.1, hv.of_groundA hg.2]
      exact ⟨pureRun_run _ _ w h1, h2⟩
    · cases h
theorem orElse_some {d x : Option Value} {r : Value} (h : orElse' d x = some r) : x = some r ∨ d = some r := by
  cases x with
  | none => exact .inr h
  | some v => cases h; exact .inl rfl
theorem aBin2_run (ok : EnvOk E) {op : BinOp} {t : TypeId} {x y : Operand} {u v u' v' r : Value} (h : aBin2 u v E op t x y = some r) (hu : VRel φ u u') (hv : VRel φ v v') (w : World) :
    (do eqGuard op t x y u' v'; binOp op t u' v' : Sem Value).run E.prog w = .ok r w ∧ ground r = true := by
  cases u with
  | int k m =>
    have h : binI v E op t x y k m = some r := h
    cases v with
    | int k' n =>
      have h : (@Bool.rec (fun _ => Option Value) (slowBin E op t x y (.int k m) (.int k' n)) (orElse' (slowBin E op t x y (.int k m) (.int k' n)) (intBin op k m n)) (decide (k = k'))) = some r := h
      rw [brec] at h
      split at h
      · rename_i hk
        have hk : k = k' := by simpa using hk
        subst hk
        rcases orElse_some h with h1 | h1
        · obtain ⟨h2, h3⟩ := intBin_run (P := E.prog) t h1 w
          have hg : (eqGuard op t x y (.int k m) (.int k n)).run E.prog w = .ok () w := run_eqGuard_plain (fun c e => by cases e) (fun e => by cases e) w
          rw [hu.int_inv, hv.int_inv]
          exact ⟨by simp only [Sem.run_bind, hg, Result.andThen_ok, h2], h3⟩
        · exact slowBin_run ok h1 hu hv w
      · exact slowBin_run ok h hu hv w
    | _ => cases h
  | string s =>
    have h : binS v op s = some r := h
    cases v with
    | string s' =>
      have h : strBin s.data.toList s'.data.toList op = some r := h
      obtain ⟨h2, h3⟩ := strBin_run (P := E.prog) t h w
      have hg : (eqGuard op t x y (.string s) (.string s')).run E.prog w = .ok () w := run_eqGuard_plain (fun c e => by cases e) (fun e => by cases e) w
      rw [hu.of_ground rfl, hv.of_ground rfl]
      exact ⟨by simp only [Sem.run_bind, hg, Result.andThen_ok, h2], h3⟩
    | _ => cases h
  | bool b =>
    have h : slowBin E op t x y (.bool b) v = some r := h
    exact slowBin_run ok h hu hv w
  | pointer b =>
    have h : slowBin E op t x y (.pointer b) v = some r := h
    exact slowBin_run ok h hu hv w
  | slice b n c =>
    have h : slowBin E op t x y (.slice b n c) v = some r := h
    exact slowBin_run ok h hu hv w
  | map b =>
    have h : slowBin E op t x y (.map b) v = some r := h
    exact slowBin_run ok h hu hv w
  | func f b c =>
    have h : slowBin E op t x y (.func f b c) v = some r := h
    exact slowBin_run ok h hu hv w
  | nilFunc =>
    have h : slowBin E op t x y (.nilFunc) v = some r := h
    exact slowBin_run ok h hu hv w
  | agg cs =>
    have h : slowBin E op t x y (.agg cs) v = some r := h
    exact slowBin_run ok h hu hv w
  | _ => cases h
theorem q_binOp (ok : EnvOk E) (hF : FR φ F a.tmps) {op : BinOp} {t yt : TypeId} {x y : Operand} {o : Oper} {out : AOut} (h : xBinOp op t x y yt E o F H = some out) :
    QOk φ E H (do pure (.value (← (do eqGuard op t x y (a.eval x) (a.eval y); binOp op t (a.eval x) (a.eval y))))) out := by
  obtain ⟨v, h1, rfl⟩ := oval_some h
  have hx := ev_rel hF x
  have hy := ev_rel hF y
  exact QOk.of rfl (v' := v) (fun w => (aBin2_run ok h1 hx hy w).1) (.gr _ (aBin2_run ok h1 hx hy default).2)

/-- A conversion is quiet, or a pointer's to unsafe.Pointer or back. -/
theorem slowConv_cases {src dst : TypeId} {v : Value} {out : AOut} (h : slowConv E H src dst v = some out) :
    (ground v = true ∧ ∃ r, pureRun E.prog (convert src dst v) = some r ∧ ground r = true ∧ out = .val r H) ∨ (aUnsafe E H src dst v = true ∧ out = .val v H) := by
  unfold slowConv at h
  split at h
  · rename_i hg
    obtain ⟨r, h1, h2, h3⟩ := ogr_some h
    exact .inl ⟨hg, r, h1, h2, h3⟩
  · split at h
    · rename_i hu; cases h; exact .inr ⟨hu, rfl⟩
    · cases h
/-- a conversion that looks at memory, or makes some -/
def MemConv (E : Env) (H : AHeap) (src dst : TypeId) (v : Value) (out : AOut) : Prop :=
  (∃ s e, v = .string s ∧ E.under src = some .string ∧ E.under dst = some (.slice e) ∧ E.under e = some (.int .u8) ∧ s.data.toList.length ≤ 1048576 ∧
    out = .val (.slice (some ⟨H.size, 0, some 1⟩) s.data.toList.length s.data.toList.length) (H.new (.cells e (byteCells s.data.toList) big false))) ∨
  (∃ p n c, v = .slice p n c ∧ sliceConv E H src dst (.slice p n c) = some out)
theorem strConv_cases {src dst : TypeId} {s : ByteArray} {out : AOut} (h : strConv E H src dst s = some out) :
    slowConv E H src dst (.string s) = some out ∧ (∀ e, E.under dst ≠ some (.slice e)) ∨ MemConv E H src dst (.string s) out := by
  unfold strConv at h
  split at h
  · rename_i e hd
    split at h
    · rename_i hs he hle
      cases h
      exact .inr (.inl ⟨s, e, rfl, hs, hd, he, Nat.le_of_ble_eq_true hle, rfl⟩)
    · cases h
  · rename_i hd
    exact .inl ⟨h, hd⟩
theorem c_conv (ok : EnvOk E) (hF : FR φ F a.tmps) {src dst : TypeId} {x : Operand} {o : Oper} {out : AOut} (h : xConvert src dst x E o F H = some out) :
    QOk φ E H (do pure (.value (← convert src dst (a.eval x)))) out ∨ (aUnsafe E H src dst (ev x F) = true ∧ out = .val (ev x F) H) ∨ MemConv E H src dst (ev x F) out := by
  have hx := ev_rel hF x
  have slow : ∀ out, slowConv E H src dst (ev x F) = some out → QOk φ E H (do pure (.value (← convert src dst (a.eval x)))) out ∨ (aUnsafe E H src dst (ev x F) = true ∧ out = .val (ev x F) H) ∨ MemConv E H src dst (ev x F) out := by
    intro out h
    rcases slowConv_cases h with ⟨hg, r, h1, h2, rfl⟩ | h1
    · exact .inl (QOk.of rfl (v' := r) (fun w => by rw [hx.of_ground hg]; exact pureRun_run _ _ w h1) (.gr _ h2))
    · exact .inr (.inl h1)
  unfold xConvert at h
  generalize ev x F = ax at h hx slow
  cases ax with
  | int k n =>
    have h : (@Option.rec _ (fun _ => Option AOut) (slowConv E H src dst (.int k n)) (fun k' => some (.val (.int k' (wrapK k' n)) H)) (E.intTo src dst)) = some out := h
    rw [orec] at h
    cases hi : E.intTo src dst with
    | none => rw [hi] at h; exact slow out h
    | some k' =>
      rw [hi] at h
      cases h
      unfold Env.intTo at hi
      split at hi
      · rename_i ds kd hs hd
        cases hi
        refine .inl (QOk.of rfl (v' := .int k' (k'.wrap n)) (fun w => ?_) (by rw [wrapK_eq]; exact .gr _ rfl))
        rw [hx.int_inv]
        have hs' := ok.run_under hs w
        have hd' := ok.run_under hd w
        simp only [convert, Sem.run_bind, hs', hd', Result.andThen_ok]
        cases ds <;> rfl
      · cases hi
  | string s =>
    have h : strConv E H src dst s = some out := h
    rcases strConv_cases h with ⟨h1, _⟩ | h1
    · exact slow out h1
    · exact .inr (.inr h1)
  | slice p n c => exact .inr (.inr (.inr ⟨p, n, c, rfl, h⟩))
  | pointer p => exact slow out h
  | bool b => exact slow out h
  | _ => cases h

/-! ### Quiet builtins -/
theorem run_callB {b : Builtin} {c : Call} {o : Oper} {ρ : Operand → Value} (hc : c.callee = .builtin b) (ho : o.op = .call c) :
    execOp ρ o = builtin b c.argTypes o.type (c.args.map fun | .const _ => true | _ => false) (c.args.map ρ) := by
  unfold execOp
  rw [ho]
  simp only
  unfold resolve
  rw [hc]
  rfl
theorem q_ground (hF : FR φ F a.tmps) {b : Builtin} {c : Call} {o : Oper} {out : AOut} (hb : b = .min ∨ b = .max) (hc : c.callee = .builtin b) (ho : o.op = .call c)
    (h : bGround b E H c.argTypes.toList o.type (evs F c.args.toList) = some out) : QOk φ E H (execOp a.eval o) out := by
  unfold bGround at h
  split at h
  · rename_i hg
    have hr := evs_rel hF c.args.toList
    have he := hr.of_ground hg
    split at h
    · rename_i v hv
      obtain ⟨r, h1, h2, rfl⟩ := ogr_some h
      cases h1
      refine ⟨v, v, rfl, fun w => ?_, .gr _ h2⟩
      rw [run_callB hc ho]
      have ea : c.args.map a.eval = ⟨evs F c.args.toList⟩ := by rw [← he]; apply Array.ext'; simp
      rw [ea]
      have hv' : (builtin b c.argTypes o.type #[] ⟨evs F c.args.toList⟩).run E.prog w = .ok (.value v) w := pureRun_run _ _ w hv
      rcases hb with rfl | rfl <;> exact hv'
    · cases h
  · cases h
theorem evs_one {c : Call} {v : Value} (hF : FR φ F a.tmps) (h : evs F c.args.toList = [v]) : ∃ v', c.args.map a.eval = #[v'] ∧ VRel φ v v' := by
  have hr := evs_rel hF c.args.toList
  rw [h] at hr
  generalize hl : c.args.toList.map a.eval = l at hr
  cases hr with
  | cons _ v' _ l' hv hs =>
    cases hs with
    | nil => exact ⟨v', by apply Array.ext'; simpa using hl, hv⟩
theorem evs_two {c : Call} {u v : Value} (hF : FR φ F a.tmps) (h : evs F c.args.toList = [u, v]) : ∃ u' v', c.args.map a.eval = #[u', v'] ∧ VRel φ u u' ∧ VRel φ v v' := by
  have hr := evs_rel hF c.args.toList
  rw [h] at hr
  generalize hl : c.args.toList.map a.eval = l at hr
  cases hr with
  | cons _ u' _ l' hu hs =>
    cases hs with
    | cons _ v' _ l'' hv hs2 =>
      cases hs2 with
      | nil => exact ⟨u', v', by apply Array.ext'; simpa using hl, hu, hv⟩
theorem ats_head {c : Call} {t : TypeId} {r : List TypeId} (h : c.argTypes.toList = t :: r) : c.argTypes[0]? = some t := by
  rw [← Array.getElem?_toList, h]; rfl
/-- len of a slice or a string is quiet; of a map it reads the map -/
theorem c_len (ok : EnvOk E) (hF : FR φ F a.tmps) {c : Call} {o : Oper} {out : AOut} (hc : c.callee = .builtin .len) (ho : o.op = .call c)
    (h : bLen E H c.argTypes.toList o.type (evs F c.args.toList) = some out) :
    QOk φ E H (execOp a.eval o) out ∨ (∃ t kt el r es clock rest, c.argTypes.toList = t :: rest ∧ E.under t = some (.map kt el) ∧ evs F c.args.toList = [.map (some r)] ∧ H.get r = some (.map es clock) ∧ out = .val (.int .i64 es.length) H) := by
  unfold bLen at h
  split at h
  · rename_i t rest ad n cap hats hargs
    split at h
    · rename_i e hu
      cases h
      obtain ⟨v', h1, h2⟩ := evs_one hF hargs
      refine .inl ⟨_, .int .i64 n, rfl, fun w => ?_, .gr _ rfl⟩
      rw [run_callB hc ho, h1]
      have hsl : ∃ ad' cap', v' = .slice ad' n cap' := by
        rcases h2.slice_inv with ⟨_, rfl⟩ | ⟨_, _, _, _, _, _, rfl⟩ | ⟨_, _, _, _, _, _, _, _, _, _, rfl⟩ | ⟨_, _, _, rfl, _, rfl⟩ <;> exact ⟨_, _, rfl⟩
      obtain ⟨ad', cap', rfl⟩ := hsl
      simp [builtin, Builtin.len_, ats_head hats, ok.run_under hu, goInt]
    · cases h
  · rename_i t rest s hats hargs
    split at h
    · rename_i hu
      cases h
      obtain ⟨v', h1, h2⟩ := evs_one hF hargs
      refine .inl ⟨_, .int .i64 s.data.toList.length, rfl, fun w => ?_, .gr _ rfl⟩
      rw [run_callB hc ho, h1, h2.of_ground rfl]
      simp [builtin, Builtin.len_, ats_head hats, ok.run_under hu, goInt]
    · cases h
  · rename_i t rest hats hargs
    split at h
    · rename_i hu
      cases h
      obtain ⟨v', h1, h2⟩ := evs_one hF hargs
      refine .inl ⟨_, .int .i64 0, rfl, fun w => ?_, .gr _ rfl⟩
      rw [run_callB hc ho, h1, h2.of_ground rfl]
      simp [builtin, Builtin.len_, ats_head hats, ok.run_under hu, goInt]
    · cases h
  · rename_i t rest r hats hargs
    split at h
    · rename_i kt el es clock hu hg
      cases h
      exact .inr ⟨t, kt, el, r, es, clock, rest, hats, hu, hargs, hg, rfl⟩
    · cases h
  · cases h
theorem q_cap (ok : EnvOk E) (hF : FR φ F a.tmps) {c : Call} {o : Oper} {out : AOut} (hc : c.callee = .builtin .cap) (ho : o.op = .call c)
    (h : bCap E H c.argTypes.toList o.type (evs F c.args.toList) = some out) : QOk φ E H (execOp a.eval o) out := by
  unfold bCap at h
  split at h
  · rename_i t rest n cap hats hargs
    split at h
    · rename_i e hu
      cases h
      obtain ⟨v', h1, h2⟩ := evs_one hF hargs
      refine ⟨_, .int .i64 cap, rfl, fun w => ?_, .gr _ rfl⟩
      rw [run_callB hc ho, h1]
      rcases h2.slice_inv with ⟨_, rfl⟩ | ⟨_, _, _, _, e, _⟩ | ⟨_, _, _, _, _, _, e, _⟩ | ⟨_, _, e, _⟩ <;> first | (cases e; done) | skip
      simp [builtin, Builtin.cap_, ats_head hats, ok.run_under hu, goInt]
    · cases h
  · rename_i t rest A off n cap hats hargs
    split at h
    · rename_i e hu
      cases h
      obtain ⟨v', h1, h2⟩ := evs_one hF hargs
      refine ⟨_, .int .i64 cap, rfl, fun w => ?_, .gr _ rfl⟩
      rw [run_callB hc ho, h1]
      rcases h2.slice_inv with ⟨e, _⟩ | ⟨_, _, _, _, e, _, rfl⟩ | ⟨_, _, _, _, _, _, e, _⟩ | ⟨_, _, e, _⟩ <;> first | (cases e; done) | skip
      simp [builtin, Builtin.cap_, ats_head hats, ok.run_under hu, goInt]
    · cases h
  · cases h
end Go.Abs
set_option linter.unusedVariables false
set_option linter.unusedSimpArgs false
namespace Go.Abs
variable {φ : Phi} {E : Env} {F : Fr} {a : Act} {H : AHeap}

/-- An operation that lays a new block. -/
def AOk (φ : Phi) (E : Env) (H : AHeap) (s : Sem Next) (out : AOut) : Prop :=
  ∃ ao c n v, out = .val v (H.new ao) ∧ (∀ b, φ H.size = none → ObjRel (φ.add H.size b n) E n ao c) ∧
    ∀ w : World, ∃ v', s.run E.prog w = .ok (.value v') (wpush w c) ∧ ∀ φ' : Phi, φ' H.size = some (w.heap.size, n) → VRel φ' v v'

theorem cells_obj {cs cs' : List Value} {e : TypeId} {ex : Bool} (h : LRel φ cs cs') : ObjRel φ E cs.length (.cells e cs 0 ex) (.cells ⟨cs'⟩ e (0, 0)) :=
  ⟨⟨cs'⟩, 0, 0, rfl, by simp [h.length], Nat.le_refl _, fun _ => rfl, fun i v hv => by
    obtain ⟨v', h1, h2⟩ := h.get i v hv
    exact ⟨v', by simpa using h1, h2⟩, fun i h1 h2 => by omega, .inl ⟨rfl, by unfold big; omega⟩⟩
theorem run_newRow {P : Program} (w : World) (e : TypeId) (C : Array Value) : (newRow e C).run P w = .ok ⟨w.heap.size, 0, none⟩ (wpush w (.cells C e)) := by
  simp only [newRow, Sem.run_bind, run_newObj, Result.andThen_ok, Sem.run_pure]; rfl

theorem a_alloc (ok : EnvOk E) {e : TypeId} {o : Oper} {out : AOut} (h : xAlloc e E o F H = some out) : AOk φ E H (do pure (.value (← Instr.alloc e true (.tuple #[])))) out := by
  unfold xAlloc at h
  rw [orec] at h
  cases hz : E.zeroL e with
  | none => rw [hz] at h; cases h
  | some z =>
    rw [hz] at h
    cases h
    obtain ⟨zv, h1, h2, h3⟩ := zeroL_info (φ := φ) ok hz
    refine ⟨_, .cells ⟨z⟩ e, z.length, _, rfl, fun b hf => cells_obj (h3.mono (Phi.add_ext hf)), fun w => ⟨.pointer (some ⟨w.heap.size, 0, none⟩), ?_, fun φ' e' => .ptr _ _ _ _ e'⟩⟩
    simp only [Instr.alloc, Sem.run_bind, ok.run_zero h1, Result.andThen_ok, newVar, h2, run_newRow, Sem.run_pure]
theorem a_box (ok : EnvOk E) (hF : FR φ F a.tmps) {e : TypeId} {x : Operand} {o : Oper} {out : AOut} (h : xBox e x E o F H = some out) : AOk φ E H (do pure (.value (← Instr.box e (a.eval x)))) out := by
  unfold xBox at h
  rw [orec] at h
  cases hz : cellsV (ev x F) with
  | none => rw [hz] at h; cases h
  | some z =>
    rw [hz] at h
    cases h
    obtain ⟨z', h1, h2⟩ := cellsV_some (ev_rel hF x) hz
    refine ⟨_, .cells ⟨z'⟩ e, z.length, _, rfl, fun b hf => cells_obj (h2.mono (Phi.add_ext hf)), fun w => ⟨.pointer (some ⟨w.heap.size, 0, none⟩), ?_, fun φ' e' => .ptr _ _ _ _ e'⟩⟩
    simp only [Instr.box, Sem.run_bind, Result.andThen_ok, newVar, h1, run_newRow, Sem.run_pure]
theorem a_makeMap {t : TypeId} {r : Option Operand} {o : Oper} {out : AOut} (h : xMakeMap t r E o F H = some out) : AOk φ E H (do pure (.value (← Instr.makeMap t (r.map a.eval)))) out := by
  unfold xMakeMap at h
  cases r with
  | some _ => cases h
  | none =>
    cases h
    refine ⟨_, .map #[] 0, 0, _, rfl, fun b hf => ⟨[], rfl, .nil⟩, fun w => ⟨.map (some w.heap.size), ?_, fun φ' e' => .map _ _ _ e'⟩⟩
    simp only [Instr.makeMap, Option.map_none, Sem.run_bind, run_newObj, Result.andThen_ok, Sem.run_pure]; rfl

theorem zeros_zero (z : List Value) : zeros z 0 = [] := rfl
theorem zeros_succ (z : List Value) (n : Nat) : zeros z (n + 1) = z ++ zeros z n := rfl
theorem zeros_length (z : List Value) : ∀ n, (zeros z n).length = n * z.length
  | 0 => by simp [zeros_zero]
  | n + 1 => by rw [zeros_succ, List.length_append, zeros_length z n, Nat.add_mul]; omega
theorem zeros_get (z : List Value) : ∀ (n i : Nat), i < n * z.length → (zeros z n)[i]? = z[i % z.length]?
  | 0, i, h => by omega
  | n + 1, i, h => by
    rw [zeros_succ, List.getElem?_append]
    by_cases hi : i < z.length
    · rw [if_pos hi, Nat.mod_eq_of_lt hi]
    · have h' : i < n * z.length + z.length := by rw [Nat.add_mul, Nat.one_mul] at h; exact h
      rw [if_neg hi, zeros_get z n (i - z.length) (by omega), show i % z.length = (i - z.length) % z.length from Nat.mod_eq_sub_mod (by omega)]
theorem zeros_range (z : List Value) (n : Nat) : (Array.range (n * z.length)).map (fun i => (⟨z⟩ : Array Value)[i % (⟨z⟩ : Array Value).size]!) = ⟨zeros z n⟩ := by
  apply Array.ext'
  apply List.ext_getElem?
  intro i
  simp only [Array.toList_map, Array.toList_range, List.getElem?_map, List.size_toArray]
  by_cases hi : i < n * z.length
  · rw [zeros_get z n i hi, List.getElem?_range hi]
    have hz : 0 < z.length := by
      rcases Nat.eq_zero_or_pos z.length with h | h
      · rw [h, Nat.mul_zero] at hi; omega
      · exact h
    have hm : i % z.length < z.length := Nat.mod_lt _ hz
    simp [hm]
  · have e1 : (zeros z n)[i]? = none := List.getElem?_eq_none (by rw [zeros_length]; omega)
    have e2 : (List.range (n * z.length))[i]? = none := List.getElem?_eq_none (by simp; omega)
    rw [e1, e2]; rfl
theorem LRel.zeros {z z' : List Value} (h : LRel φ z z') : ∀ n, LRel φ (zeros z n) (zeros z' n)
  | 0 => .nil
  | n + 1 => h.append (LRel.zeros h n)
theorem zeroE_some {t : TypeId} {z : List Value} (h : E.zeroE t = some z) : E.zeroL t = some z ∧ E.size t = some z.length := by
  unfold Env.zeroE at h
  split at h
  · rename_i z' n h1 h2
    split at h
    · rename_i hb
      cases h
      have : z.length = n := by rw [← Nat.beq_eq]; exact hb
      subst this
      exact ⟨h1, h2⟩
    · cases h
  · cases h
theorem zero_row (z : List Value) (n : Nat) (zero : Array Value) (h : zero = (if n * z.length = 0 then #[] else ⟨z⟩)) : (Array.range (n * z.length)).map (fun i => zero[i % zero.size]!) = ⟨zeros z n⟩ := by
  by_cases h0 : n * z.length = 0
  · rw [h0]
    apply Array.ext'
    have : zeros z n = [] := List.eq_nil_of_length_eq_zero (by rw [zeros_length]; exact h0)
    simp [this]
  · rw [h, if_neg h0]; exact zeros_range z n

theorem a_buildSlice (ok : EnvOk E) (hF : FR φ F a.tmps) {t : TypeId} {len : Nat} {ps : Array (Nat × Operand)} {o : Oper} {out : AOut} (h : xBuildSlice t len ps E o F H = some out) :
    AOk φ E H (do pure (.value (← Instr.buildSlice t len (ps.map fun (i, x) => (i, a.eval x))))) out := by
  unfold xBuildSlice aBuildSlice at h
  split at h
  · rename_i elem es he
    split at h
    · rename_i z hz hle
      split at h
      · rename_i l hf
        cases h
        obtain ⟨h1, h2⟩ := EnvOk.elem he
        obtain ⟨h3, h4⟩ := zeroE_some hz
        rw [h2] at h4; cases h4
        obtain ⟨zv, h5, h6, h7⟩ := zeroL_info (φ := φ) ok h3
        have hps : (ps.map fun (i, x) => (i, a.eval x)).toList = ps.toList.map fun p => (p.1, a.eval p.2) := by simp
        have hpr := evParts_rel hF ps.toList
        rw [← hps] at hpr
        obtain ⟨l', h8, h9⟩ := fill_rel (pl' := fun i => some (i * z.length, z.length)) (fun i q hq => hq) hpr (h7.zeros len) hf
        refine ⟨_, .cells ⟨l'⟩ elem, l.length, _, rfl, fun b hf => cells_obj (h9.mono (Phi.add_ext hf)), fun w => ⟨.slice (some ⟨w.heap.size, 0, none⟩) len len, ?_, fun φ' e' => .sliceEx _ _ _ _ _ _ e'⟩⟩
        have hle' := Nat.le_of_ble_eq_true hle
        have h8' : Instr.fill (fun i => some (i * z.length, z.length)) { toList := zeros z len } (Array.map (fun x => (x.fst, a.eval x.snd)) ps).toList = some ⟨l'⟩ := h8
        have hrow := zero_row z len _ rfl
        simp only [Instr.buildSlice, Sem.run_bind, ok.run_under h1, Result.andThen_ok, ok.run_size h2]
        rw [if_neg (by omega)]
        by_cases h0 : len * z.length = 0
        · rw [if_pos h0] at hrow
          rw [if_pos h0]
          simp only [Sem.run_bind, Sem.run_pure, Result.andThen_ok, hrow, h8', run_newRow]
        · rw [if_neg h0] at hrow
          rw [if_neg h0]
          simp only [Sem.run_bind, Sem.run_pure, Result.andThen_ok, ok.run_zero h5, h6, hrow, h8', run_newRow]
      · cases h
    · cases h
  · cases h
theorem a_makeSlice (ok : EnvOk E) (hF : FR φ F a.tmps) {t : TypeId} {x y : Operand} {o : Oper} {out : AOut} (h : xMakeSlice t x y E o F H = some out) :
    AOk φ E H (do pure (.value (← Instr.makeSlice t (a.eval x) (a.eval y)))) out := by
  unfold xMakeSlice aMakeSlice at h
  have hx := ev_rel hF x
  have hy := ev_rel hF y
  split at h
  · rename_i elem es l c he hl hc
    split at h
    · rename_i z hz hle
      cases h
      obtain ⟨h1, h2⟩ := EnvOk.elem he
      obtain ⟨h3, h4⟩ := zeroE_some hz
      rw [h2] at h4; cases h4
      obtain ⟨zv, h5, h6, h7⟩ := zeroL_info (φ := φ) ok h3
      rw [Bool.and_eq_true] at hle
      have hlc := Nat.le_of_ble_eq_true hle.1
      have hcm := Nat.le_of_ble_eq_true hle.2
      obtain ⟨kl, hl'⟩ := intIdx_some hl
      obtain ⟨kc, hc'⟩ := intIdx_some hc
      rw [hl'] at hx
      rw [hc'] at hy
      refine ⟨_, .cells ⟨zeros z c⟩ elem, (zeros z c).length, _, rfl, fun b hf => cells_obj ((h7.zeros c).mono (Phi.add_ext hf)), fun w => ⟨.slice (some ⟨w.heap.size, 0, none⟩) l c, ?_, fun φ' e' => .sliceEx _ _ _ _ _ _ e'⟩⟩
      obtain ⟨i, hi, hiz⟩ : ∃ i, E.types.get elem = some i ∧ i.size = z.length := by
        unfold Env.size at h2
        cases ht : E.types.get elem with
        | none => rw [ht] at h2; cases h2
        | some i => rw [ht] at h2; simp only [Option.some.injEq] at h2; exact ⟨i, rfl, h2⟩
      have hb := ok.bytes _ _ hi
      have hw1 : IntKind.i64.wrap (l : Int) = l := by rw [← wrap64_eq]; show @Bool.rec (fun _ => Int) _ _ (Nat.ble l 9223372036854775807) = _; rw [brec, if_pos (Nat.ble_eq_true_of_le (by omega))]; rfl
      have hw2 : IntKind.i64.wrap (c : Int) = c := by rw [← wrap64_eq]; show @Bool.rec (fun _ => Int) _ _ (Nat.ble c 9223372036854775807) = _; rw [brec, if_pos (Nat.ble_eq_true_of_le (by omega))]; rfl
      have hbc : i.bytes * c ≤ 65536 * 1048576 := Nat.mul_le_mul hb hcm
      have hrow := zero_row z c _ rfl
      have hask : (askRoom (c * i.bytes)).run E.prog w = .ok () w := by unfold askRoom; split <;> rfl
      rw [hx.int_inv, hy.int_inv]
      simp only [Instr.makeSlice, Sem.run_bind, ok.run_under h1, Result.andThen_ok, asInt, asIntOf, Sem.run_pure, ok.run_info hi, hw1, hw2]
      rw [if_neg (by simp; omega)]
      simp only [Sem.run_bind, Int.toNat_natCast, hask, Result.andThen_ok, ok.run_size h2]
      by_cases h0 : c * z.length = 0
      · rw [if_pos h0] at hrow
        rw [if_pos h0]
        simp only [Sem.run_bind, Sem.run_pure, Result.andThen_ok, hrow, run_newRow]
      · rw [if_neg h0] at hrow
        rw [if_neg h0]
        simp only [Sem.run_bind, Sem.run_pure, Result.andThen_ok, ok.run_zero h5, h6, hrow, run_newRow]
    · cases h
  · cases h
end Go.Abs
