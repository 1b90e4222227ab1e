/- A part of the proof of SpliceEqualsUptoSaid (texts: SndDa SndDb SndDc SndDd). No conditions. -/
import Derived.Test.YtmhkceeiiklfdaaGreatG10
import Derived.Orders
set_option linter.unusedVariables false
set_option linter.unusedSimpArgs false
set_option linter.unusedVariables false
set_option linter.unusedSimpArgs false
namespace Go.Abs
variable {E : Env} {F F' : Fr} {H H' : AHeap} {o : Oper} {out : AOut} {s l : Nat}

def isVal (H : AHeap) (out : AOut) : Prop := ∃ v, out = .val v H
theorem iv_oval {x : Option Value} (h : oval H x = some out) : isVal H out := by
  obtain ⟨v, _, rfl⟩ := oval_some h; exact ⟨v, rfl⟩
theorem iv_val {v : Value} (h : some (AOut.val v H) = some out) : isVal H out := by cases h; exact ⟨v, rfl⟩
theorem evLow_ne (b : Bool) (s l : Nat) : evLow b l (noneBelow s l) ≠ .float ∧ (∀ A, evLow b l (noneBelow s l) ≠ .load A) ∧ evLow b l (noneBelow s l) ≠ .new ∧ (b = false → ∀ A, evLow b l (noneBelow s l) ≠ .st A) := by
  unfold evLow
  split
  · simp
  · split <;> simp
theorem evLen_cases (ts : List TypeId) : evLen E ts = .float ∨ evLen E ts = .pure := by
  unfold evLen
  split
  · split <;> simp
  · simp
theorem evConv_ne {F : Fr} (src dst : TypeId) (s l : Nat) : (∀ A, evOf E F s l (.conv src dst) ≠ .load A) ∧ evOf E F s l (.conv src dst) ≠ .new ∧ (∀ A, evOf E F s l (.conv src dst) ≠ .st A) := by
  have e : evOf E F s l (.conv src dst) = match memConv E src dst with | true => evLow false l (noneBelow s l) | false => .float := rfl
  rw [e]
  obtain ⟨h1, h2, h3, h4⟩ := evLow_ne false s l
  split
  · exact ⟨h2, h3, h4 rfl⟩
  · exact ⟨fun A => by simp, by simp, fun A => by simp⟩
/-- a conversion that does not look at memory -/
theorem conv_still {v : Value} {src dst : TypeId} (hm : memConv E src dst = false) (h : aConv v E H src dst = some out) : isVal H out := by
  have slow : ∀ u, slowConv E H src dst u = some out → isVal H out := by
    intro u h
    rcases slowConv_cases h with ⟨_, r, _, _, rfl⟩ | ⟨_, rfl⟩ <;> exact ⟨_, rfl⟩
  cases v with
  | int k n =>
    have h : (@Option.rec _ (fun _ => Option AOut) (slowConv E H src dst (.int k n)) (fun k' => some (.val (.int k' (wrapK k' n)) H)) (E.intTo src dst)) = some out := h
    rw [orec] at h
    split at h
    · exact iv_val h
    · exact slow _ h
  | string t =>
    have h : strConv E H src dst t = some out := h
    rcases strConv_cases h with ⟨h1, _⟩ | h1
    · exact slow _ h1
    · rw [memConv_true h1] at hm; cases hm
  | slice p n c =>
    have h1 : MemConv E H src dst (.slice p n c) out := .inr ⟨p, n, c, rfl, h⟩
    rw [memConv_true h1] at hm; cases hm
  | pointer p => exact slow (.pointer p) h
  | bool b => exact slow (.bool b) h
  | _ => cases h
/-- an operation without a write -/
theorem shape_still (h : aExec o.op E o F H = some out) (hk : evOf E F s l (kindOf o.op) = .float ∨ ∃ A, evOf E F s l (kindOf o.op) = .load A) : isVal H out := by
  have other : ∀ b, ¬ (evLow b l (noneBelow s l) = .float ∨ ∃ A, evLow b l (noneBelow s l) = .load A) := by
    intro b hb
    obtain ⟨h1, h2, _⟩ := evLow_ne b s l
    rcases hb with hb | ⟨A, hb⟩
    · exact h1 hb
    · exact h2 A hb
  obtain ⟨dst, op, type, pos, after, guard⟩ := o
  cases op with
  | move x => exact iv_val h
  | assign x => exact iv_val h
  | pick c x y => exact iv_oval h
  | build t ps => exact iv_oval h
  | nilCheck x => exact iv_oval h
  | binOp op t x y yt => exact iv_oval h
  | unOp op t x =>
    have h : xUnOp op t x E ⟨dst, .unOp op t x, type, pos, after, guard⟩ F H = some out := h
    unfold xUnOp at h
    split at h <;> exact iv_oval h
  | makeFunc fn x y =>
    have h : xMakeFunc fn x y E ⟨dst, .makeFunc fn x y, type, pos, after, guard⟩ F H = some out := h
    unfold xMakeFunc at h
    split at h
    · exact iv_val h
    · cases h
  | slice t x lo hi mx => exact iv_oval h
  | fieldAddr s x f =>
    have h : fieldAt E H s f (ev x F) = some out := h
    unfold fieldAt at h
    rw [orec] at h
    split at h
    · rename_i q _
      obtain ⟨A, off⟩ := q
      simp only [orec] at h
      split at h
      · exact iv_val h
      · cases h
    · cases h
  | field t x f => exact iv_oval h
  | indexAddr t x i =>
    have h : (@Option.rec _ (fun _ => Option AOut) none (fun k => idxAddr E H t k (ev x F)) (intIdx (ev i F))) = some out := h
    rw [orec] at h
    split at h
    · unfold idxAddr at h
      split at h
      · split at h
        · exact iv_val h
        · cases h
      · split at h
        · split at h
          · exact iv_val h
          · cases h
        · cases h
      · cases h
    · cases h
  | index t x i =>
    have h : (@Option.rec _ (fun _ => Option AOut) none (fun k => oval H (idxIn E t k (ev x F))) (intIdx (ev i F))) = some out := h
    rw [orec] at h
    split at h
    · exact iv_oval h
    · cases h
  | extract t ix => exact iv_oval h
  | convert src dt x =>
    have h : aConv (ev x F) E H src dt = some out := h
    rcases hk with hk | ⟨A, hk⟩
    · exact conv_still (conv_float hk) h
    · exact absurd hk ((evConv_ne src dt s l).1 A)
  | load t x => exact iv_oval h
  | call c =>
    have hk : evOf E F s l (kindC c.argTypes c.callee) = .float ∨ ∃ A, evOf E F s l (kindC c.argTypes c.callee) = .load A := hk
    have h : (@Callee.rec (fun _ => Option AOut) (fun f => aInvoke (ev f F) E H (evs F c.args.toList)) (fun _ _ => none) (fun b => aBuiltin b E H c.argTypes.toList type (evs F c.args.toList)) c.callee) = some out := h
    generalize c.callee = ce at h hk
    cases ce with
    | value f => exact absurd hk (other false)
    | invoke f m => exact absurd hk (other false)
    | builtin b =>
      cases b with
      | min =>
        have h : bGround .min E H c.argTypes.toList type (evs F c.args.toList) = some out := h
        unfold bGround at h
        split at h
        · split at h
          · obtain ⟨v, _, _, rfl⟩ := ogr_some h; exact ⟨v, rfl⟩
          · cases h
        · cases h
      | max =>
        have h : bGround .max E H c.argTypes.toList type (evs F c.args.toList) = some out := h
        unfold bGround at h
        split at h
        · split at h
          · obtain ⟨v, _, _, rfl⟩ := ogr_some h; exact ⟨v, rfl⟩
          · cases h
        · cases h
      | cap =>
        have h : bCap E H c.argTypes.toList type (evs F c.args.toList) = some out := h
        unfold bCap at h
        split at h <;> first | (cases h; done) | (split at h <;> first | (cases h; done) | exact iv_val h)
      | len =>
        have h : bLen E H c.argTypes.toList type (evs F c.args.toList) = some out := h
        unfold bLen at h
        split at h <;> first | (cases h; done) | (split at h <;> first | (cases h; done) | exact iv_val h)
      | _ => exact absurd hk (other false)
  | store t x y => exact absurd hk (other true)
  | alloc e => rcases hk with hk | ⟨A, hk⟩ <;> cases hk
  | box e x => rcases hk with hk | ⟨A, hk⟩ <;> cases hk
  | buildSlice t n ps => rcases hk with hk | ⟨A, hk⟩ <;> cases hk
  | makeMap t r => rcases hk with hk | ⟨A, hk⟩ <;> cases hk
  | makeSlice t x y => rcases hk with hk | ⟨A, hk⟩ <;> cases hk
  | _ => exact absurd hk (other false)
theorem shape_new (h : aExec o.op E o F H = some out) (hk : evOf E F s l (kindOf o.op) = .new) : ∃ v ao, out = .val v (H.new ao) := by
  have other : ∀ b, evLow b l (noneBelow s l) ≠ .new := fun b => (evLow_ne b s l).2.2.1
  obtain ⟨dst, op, type, pos, after, guard⟩ := o
  cases op with
  | alloc e =>
    have h : (@Option.rec _ (fun _ => Option AOut) none (fun z => newAt H (.cells e z (nat_lit 0) true)) (E.zeroL e)) = some out := h
    rw [orec] at h
    split at h
    · cases h; exact ⟨_, _, rfl⟩
    · cases h
  | box e x =>
    have h : (@Option.rec _ (fun _ => Option AOut) none (fun z => newAt H (.cells e z (nat_lit 0) true)) (cellsV (ev x F))) = some out := h
    rw [orec] at h
    split at h
    · cases h; exact ⟨_, _, rfl⟩
    · cases h
  | buildSlice t n ps =>
    have h : aBuildSlice E H t n (evParts F ps.toList) = some out := h
    unfold aBuildSlice at h
    split at h
    · split at h
      · split at h
        · cases h; exact ⟨_, _, rfl⟩
        · cases h
      · cases h
    · cases h
  | makeMap t r =>
    have h : xMakeMap t r E ⟨dst, .makeMap t r, type, pos, after, guard⟩ F H = some out := h
    unfold xMakeMap at h
    split at h
    · cases h; exact ⟨_, _, rfl⟩
    · cases h
  | makeSlice t x y =>
    have h : aMakeSlice E H t (ev x F) (ev y F) = some out := h
    unfold aMakeSlice at h
    split at h
    · split at h
      · cases h; exact ⟨_, _, rfl⟩
      · cases h
    · cases h
  | load t x =>
    have hk : (match addrOf (ev x F) with | some (A, _) => Ev.load A | none => .pure) = .new := hk
    split at hk <;> cases hk
  | convert src dt x => exact absurd hk ((evConv_ne src dt s l).2.1)
  | call c =>
    exfalso
    have hk : evOf E F s l (kindC c.argTypes c.callee) = .new := hk
    generalize c.callee = ce at hk
    cases ce with
    | value f => exact absurd hk (other false)
    | invoke f m => exact absurd hk (other false)
    | builtin b =>
      cases b with
      | min => cases hk
      | max => cases hk
      | cap => cases hk
      | len =>
        have hk : evLen E c.argTypes.toList = .new := hk
        rcases evLen_cases (E := E) c.argTypes.toList with e | e <;> rw [e] at hk <;> cases hk
      | _ => exact absurd hk (other false)
  | store t x y => exact absurd hk (other true)
  | move x => cases hk
  | assign x => cases hk
  | pick c x y => cases hk
  | build t ps => cases hk
  | nilCheck x => cases hk
  | binOp op t x y yt => cases hk
  | unOp op t x => cases hk
  | makeFunc fn x y => cases hk
  | slice t x lo hi mx => cases hk
  | fieldAddr s x f => cases hk
  | field t x f => cases hk
  | indexAddr t x i => cases hk
  | index t x i => cases hk
  | extract t ix => cases hk
  | _ => exact absurd hk (other false)
end Go.Abs
set_option linter.unusedVariables false
set_option linter.unusedSimpArgs false
namespace Go.Abs
variable {E : Env} {F F' : Fr} {H H' : AHeap} {o : Oper} {out : AOut} {s l : Nat}

theorem shape_load (hk : ∃ A, evOf E F s l (kindOf o.op) = .load A) : ∃ t x A off, o.op = .load t x ∧ addrOf (ev x F) = some (A, off) ∧ evOf E F s l (kindOf o.op) = .load A := by
  obtain ⟨A, hk⟩ := hk
  have other : ∀ b, evLow b l (noneBelow s l) ≠ .load A := fun b => (evLow_ne b s l).2.1 A
  obtain ⟨dst, op, type, pos, after, guard⟩ := o
  cases op with
  | load t x =>
    have hk' : (match addrOf (ev x F) with | some (A, _) => Ev.load A | none => .pure) = .load A := hk
    split at hk'
    · rename_i B off hB
      cases hk'
      exact ⟨t, x, A, off, rfl, hB, hk⟩
    · cases hk'
  | convert src dt x => exact absurd hk ((evConv_ne src dt s l).1 A)
  | call c =>
    exfalso
    have hk : evOf E F s l (kindC c.argTypes c.callee) = .load A := hk
    generalize c.callee = ce at hk
    cases ce with
    | value f => exact absurd hk (other false)
    | invoke f m => exact absurd hk (other false)
    | builtin b =>
      cases b with
      | min => cases hk
      | max => cases hk
      | cap => cases hk
      | len =>
        have hk : evLen E c.argTypes.toList = .load A := hk
        rcases evLen_cases (E := E) c.argTypes.toList with e | e <;> rw [e] at hk <;> cases hk
      | _ => exact absurd hk (other false)
  | store t x y => exact absurd hk (other true)
  | alloc e => cases hk
  | box e x => cases hk
  | buildSlice t n ps => cases hk
  | makeMap t r => cases hk
  | makeSlice t x y => cases hk
  | move x => cases hk
  | assign x => cases hk
  | pick c x y => cases hk
  | build t ps => cases hk
  | nilCheck x => cases hk
  | binOp op t x y yt => cases hk
  | unOp op t x => cases hk
  | makeFunc fn x y => cases hk
  | slice t x lo hi mx => cases hk
  | fieldAddr s x f => cases hk
  | field t x f => cases hk
  | indexAddr t x i => cases hk
  | index t x i => cases hk
  | extract t ix => cases hk
  | _ => exact absurd hk (other false)
theorem noneBelow_zero (s : Nat) : noneBelow s 0 = true := by
  show Nat.beq (0 % 2 ^ s) 0 = true
  rw [Nat.zero_mod]; rfl
theorem lor_zero_shl (B : Nat) : Nat.lor 0 (Nat.shiftLeft 1 B) = 2 ^ B := by
  have e : Nat.lor 0 (Nat.shiftLeft 1 B) = 0 ||| (1 <<< B) := rfl
  rw [e, Nat.zero_or, Nat.one_shiftLeft]
theorem write_put {A off : Nat} {vs : List Value} (h : writeCells H A off vs = some H') : H' = H ∨ ∃ ob ob', H.get A = some ob ∧ ob ≠ .dead ∧ H' = H.put A ob' := by
  cases vs with
  | nil => cases h; exact .inl rfl
  | cons v r =>
    have h : (@Option.rec _ (fun _ => Option AHeap) none (fun o => writeObj o H A off (v :: r)) (H.get A)) = some H' := h
    rw [orec] at h
    split at h
    · rename_i ob hg
      obtain ⟨e, cs, fz, ex, rfl, _, _, _, rfl⟩ := writeObj_some h
      exact .inr ⟨_, _, hg, by simp, rfl⟩
    · cases h
theorem store_put {t : TypeId} {v p : Value} (h : aStore E H t v p = some H') : ∃ A off, addrOf p = some (A, off) ∧ (H' = H ∨ ∃ ob ob', H.get A = some ob ∧ ob ≠ .dead ∧ H' = H.put A ob') := by
  unfold aStore at h
  rw [orec] at h
  split at h
  · rename_i q hq
    obtain ⟨A, off⟩ := q
    simp only [orec] at h
    split at h
    · split at h
      · simp only [brec] at h
        split at h
        · exact ⟨A, off, hq, write_put h⟩
        · cases h
      · cases h
    · cases h
  · cases h
theorem shape_st {A : Nat} (h : aExec o.op E o F H = some out) (hl : H.low = 0) (hw : Wf H) (hk : evOf E F H.size (outH out).low (kindOf o.op) = .st A) :
    ∃ t p x H1 off ob ob', o.op = .store t p x ∧ out = .val (.tuple #[]) H1 ∧ aStore E H t (ev x F) (ev p F) = some H1 ∧ addrOf (ev p F) = some (A, off) ∧ H.get A = some ob ∧ ob ≠ .dead ∧ H1 = H.put A ob' := by
  have other : evLow false (outH out).low (noneBelow H.size (outH out).low) ≠ .st A := (evLow_ne false H.size (outH out).low).2.2.2 rfl A
  obtain ⟨dst, op, type, pos, after, guard⟩ := o
  cases op with
  | store t p x =>
    obtain ⟨H1, h1, rfl⟩ := ounit_some (show ounit (aStore E H t (ev x F) (ev p F)) = some out from h)
    obtain ⟨B, off, hB, h2⟩ := store_put h1
    have hk : evLow true H1.low (noneBelow H.size H1.low) = .st A := hk
    unfold evLow at hk
    split at hk
    · cases hk
    · rename_i hb
      cases hk
      rcases h2 with rfl | ⟨ob, ob', h3, h4, rfl⟩
      · exfalso
        rw [hl, noneBelow_zero] at hb; cases hb
      · have hBs : B < H.size := by
          rcases Nat.lt_or_ge B H.size with h5 | h5
          · exact h5
          · rw [hw.tot B h5] at h3; cases h3
        have e : Nat.log2 (H.put B ob').low = B := by
          rw [put_low, hl, lor_zero_shl]
          exact Nat.log2_two_pow
        rw [e]
        exact ⟨t, p, x, _, off, ob, ob', rfl, rfl, h1, hB, h3, h4, rfl⟩
  | load t x =>
    have hk : (match addrOf (ev x F) with | some (A, _) => Ev.load A | none => .pure) = .st A := hk
    split at hk <;> cases hk
  | convert src dt x => exact absurd hk ((evConv_ne src dt H.size (outH out).low).2.2 A)
  | call c =>
    exfalso
    have hk : evOf E F H.size (outH out).low (kindC c.argTypes c.callee) = .st A := hk
    generalize c.callee = ce at hk
    cases ce with
    | value f => exact absurd hk other
    | invoke f m => exact absurd hk other
    | builtin b =>
      cases b with
      | min => cases hk
      | max => cases hk
      | cap => cases hk
      | len =>
        have hk : evLen E c.argTypes.toList = .st A := hk
        rcases evLen_cases (E := E) c.argTypes.toList with e | e <;> rw [e] at hk <;> cases hk
      | _ => exact absurd hk other
  | alloc e => cases hk
  | box e x => cases hk
  | buildSlice t n ps => cases hk
  | makeMap t r => cases hk
  | makeSlice t x y => cases hk
  | move x => cases hk
  | assign x => cases hk
  | pick c x y => cases hk
  | build t ps => cases hk
  | nilCheck x => cases hk
  | binOp op t x y yt => cases hk
  | unOp op t x => cases hk
  | makeFunc fn x y => cases hk
  | slice t x lo hi mx => cases hk
  | fieldAddr s x f => cases hk
  | field t x f => cases hk
  | indexAddr t x i => cases hk
  | index t x i => cases hk
  | extract t ix => cases hk
  | _ => exact absurd hk other

/-! ### What an operation names is all that it sees -/
theorem evs_congr : ∀ {l : List Operand}, (∀ x ∈ l, ev x F = ev x F') → evs F l = evs F' l
  | [], _ => rfl
  | x :: r, h => by
    show ev x F :: evs F r = ev x F' :: evs F' r
    rw [h x (by simp), evs_congr fun y hy => h y (by simp [hy])]
theorem evOpt_congr {x : Option Operand} (h : ∀ y ∈ x.toArray, ev y F = ev y F') : evOpt F x = evOpt F' x := by
  cases x with
  | none => rfl
  | some x =>
    show some (ev x F) = some (ev x F')
    rw [h x (by simp)]
theorem evParts_congr {l : List (Nat × Operand)} (h : ∀ x ∈ l.map (·.2), ev x F = ev x F') : evParts F l = evParts F' l := by
  rw [evParts_eq, evParts_eq]
  apply List.map_congr_left
  intro p hp
  rw [h p.2 (List.mem_map.2 ⟨p, hp, rfl⟩)]
theorem exec_congr (hc : ∀ x ∈ o.op.operands, ev x F = ev x F') : aExec o.op E o F H = aExec o.op E o F' H := by
  obtain ⟨dst, op, type, pos, after, guard⟩ := o
  have h1 : ∀ x y, (#[y] : Array Operand) = op.operands → x = y → ev x F = ev x F' := fun x y e1 e2 => hc x (by show x ∈ op.operands; rw [← e1, e2]; simp)
  cases op with
  | move x => show some (AOut.val (ev x F) H) = some (AOut.val (ev x F') H); rw [hc x (by simp [Op.operands])]
  | assign x => show some (AOut.val (ev x F) H) = some (AOut.val (ev x F') H); rw [hc x (by simp [Op.operands])]
  | pick c x y =>
    show oval H (pick2 (ev c F) (ev x F) (ev y F)) = oval H (pick2 (ev c F') (ev x F') (ev y F'))
    rw [hc c (by simp [Op.operands]), hc x (by simp [Op.operands]), hc y (by simp [Op.operands])]
  | build t ps =>
    show oval H (aBuild E t (evParts F ps.toList)) = oval H (aBuild E t (evParts F' ps.toList))
    rw [evParts_congr fun x hx => hc x (by simpa [Op.operands] using hx)]
  | buildSlice t n ps =>
    show aBuildSlice E H t n (evParts F ps.toList) = aBuildSlice E H t n (evParts F' ps.toList)
    rw [evParts_congr fun x hx => hc x (by simpa [Op.operands] using hx)]
  | nilCheck x => show oval H (nilChk (ev x F)) = oval H (nilChk (ev x F')); rw [hc x (by simp [Op.operands])]
  | binOp op t x y yt =>
    show oval H (aBin2 (ev x F) (ev y F) E op t x y) = oval H (aBin2 (ev x F') (ev y F') E op t x y)
    rw [hc x (by simp [Op.operands]), hc y (by simp [Op.operands])]
  | unOp op t x =>
    show xUnOp op t x E ⟨dst, .unOp op t x, type, pos, after, guard⟩ F H = xUnOp op t x E ⟨dst, .unOp op t x, type, pos, after, guard⟩ F' H
    unfold xUnOp
    rw [hc x (by simp [Op.operands])]
  | makeFunc fn x y =>
    show xMakeFunc fn x y E ⟨dst, .makeFunc fn x y, type, pos, after, guard⟩ F H = xMakeFunc fn x y E ⟨dst, .makeFunc fn x y, type, pos, after, guard⟩ F' H
    unfold xMakeFunc
    rw [evs_congr (l := x.toList) fun z hz => hc z (by simp [Op.operands] at *; exact .inl hz), evs_congr (l := y.toList) fun z hz => hc z (by simp [Op.operands] at *; exact .inr hz)]
  | slice t x lo hi mx =>
    show oval H (sliceIn E t (evOpt F lo) (evOpt F hi) (evOpt F mx) (ev x F)) = oval H (sliceIn E t (evOpt F' lo) (evOpt F' hi) (evOpt F' mx) (ev x F'))
    rw [hc x (by simp [Op.operands]), evOpt_congr (x := lo) fun y hy => hc y (by simp [Op.operands] at *; simp [hy]), evOpt_congr (x := hi) fun y hy => hc y (by simp [Op.operands] at *; simp [hy]),
      evOpt_congr (x := mx) fun y hy => hc y (by simp [Op.operands] at *; simp [hy])]
  | fieldAddr s x f => show fieldAt E H s f (ev x F) = fieldAt E H s f (ev x F'); rw [hc x (by simp [Op.operands])]
  | field t x f => show oval H (fieldIn (ev x F) E t f) = oval H (fieldIn (ev x F') E t f); rw [hc x (by simp [Op.operands])]
  | indexAddr t x i =>
    show xIndexAddr t x i E ⟨dst, .indexAddr t x i, type, pos, after, guard⟩ F H = xIndexAddr t x i E ⟨dst, .indexAddr t x i, type, pos, after, guard⟩ F' H
    unfold xIndexAddr
    rw [hc x (by simp [Op.operands]), hc i (by simp [Op.operands])]
  | index t x i =>
    show xIndex t x i E ⟨dst, .index t x i, type, pos, after, guard⟩ F H = xIndex t x i E ⟨dst, .index t x i, type, pos, after, guard⟩ F' H
    unfold xIndex
    rw [hc x (by simp [Op.operands]), hc i (by simp [Op.operands])]
  | extract t ix => show oval H (extractOf (ev t F) ix) = oval H (extractOf (ev t F') ix); rw [hc t (by simp [Op.operands])]
  | convert src dt x => show aConv (ev x F) E H src dt = aConv (ev x F') E H src dt; rw [hc x (by simp [Op.operands])]
  | load t x => show oval H (aLoad E H t (ev x F)) = oval H (aLoad E H t (ev x F')); rw [hc x (by simp [Op.operands])]
  | store t p x => show ounit (aStore E H t (ev x F) (ev p F)) = ounit (aStore E H t (ev x F') (ev p F')); rw [hc x (by simp [Op.operands]), hc p (by simp [Op.operands])]
  | alloc e => rfl
  | box e x =>
    show xBox e x E ⟨dst, .box e x, type, pos, after, guard⟩ F H = xBox e x E ⟨dst, .box e x, type, pos, after, guard⟩ F' H
    unfold xBox
    rw [hc x (by simp [Op.operands])]
  | makeMap t r => rfl
  | makeSlice t x y => show aMakeSlice E H t (ev x F) (ev y F) = aMakeSlice E H t (ev x F') (ev y F'); rw [hc x (by simp [Op.operands]), hc y (by simp [Op.operands])]
  | lookup t x k okk => show oval H (aLookup E H t (ev x F) (ev k F) okk) = oval H (aLookup E H t (ev x F') (ev k F') okk); rw [hc x (by simp [Op.operands]), hc k (by simp [Op.operands])]
  | mapUpdate t m k x =>
    show ounit (aMapSet E H t (ev k F) (ev x F) (ev m F)) = ounit (aMapSet E H t (ev k F') (ev x F') (ev m F'))
    rw [hc x (by simp [Op.operands]), hc k (by simp [Op.operands]), hc m (by simp [Op.operands])]
  | insert t m k x =>
    show ounit (aMapSet E H t (ev k F) (ev x F) (ev m F)) = ounit (aMapSet E H t (ev k F') (ev x F') (ev m F'))
    rw [hc x (by simp [Op.operands]), hc k (by simp [Op.operands]), hc m (by simp [Op.operands])]
  | range t x => show aRange E t H (ev x F) = aRange E t H (ev x F'); rw [hc x (by simp [Op.operands])]
  | next it s => show aNext H s (ev it F) = aNext H s (ev it F'); rw [hc it (by simp [Op.operands])]
  | entry it => show oval H (aEntry H (ev it F)) = oval H (aEntry H (ev it F')); rw [hc it (by simp [Op.operands])]
  | call c =>
    show (@Callee.rec (fun _ => Option AOut) (fun f => aInvoke (ev f F) E H (evs F c.args.toList)) (fun _ _ => none) (fun b => aBuiltin b E H c.argTypes.toList type (evs F c.args.toList)) c.callee) =
      (@Callee.rec (fun _ => Option AOut) (fun f => aInvoke (ev f F') E H (evs F' c.args.toList)) (fun _ _ => none) (fun b => aBuiltin b E H c.argTypes.toList type (evs F' c.args.toList)) c.callee)
    have e : evs F c.args.toList = evs F' c.args.toList := evs_congr fun x hx => hc x (by simp [Op.operands, Call.operands] at *; exact .inr hx)
    rw [e]
    cases hce : c.callee with
    | value f =>
      show aInvoke (ev f F) E H _ = aInvoke (ev f F') E H _
      rw [hc f (by simp [Op.operands, Call.operands, hce])]
    | invoke f m => rfl
    | builtin b => rfl
  | _ => rfl
end Go.Abs
set_option linter.unusedVariables false
set_option linter.unusedSimpArgs false
namespace Go.Abs
variable {E : Env} {F F' : Fr} {H H' : AHeap} {o : Oper} {out : AOut} {s l : Nat}

theorem evOf_congr (hc : ∀ x ∈ o.op.operands, ev x F = ev x F') : evOf E F s l (kindOf o.op) = evOf E F' s l (kindOf o.op) := by
  obtain ⟨dst, op, type, pos, after, guard⟩ := o
  cases op with
  | load t x =>
    show (match addrOf (ev x F) with | some (A, _) => Ev.load A | none => .pure) = (match addrOf (ev x F') with | some (A, _) => Ev.load A | none => .pure)
    rw [hc x (by simp [Op.operands])]
  | call c =>
    show evOf E F s l (kindC c.argTypes c.callee) = evOf E F' s l (kindC c.argTypes c.callee)
    generalize c.callee = ce
    cases ce with
    | builtin b => cases b <;> rfl
    | _ => rfl
  | _ => rfl

/-! ### Bits -/
theorem bit_or (a b i : Nat) : bit (Nat.lor a b) i = (bit a i || bit b i) := by
  rw [bit_eq, bit_eq, bit_eq]; exact Nat.testBit_or a b i
theorem bit_one (e i : Nat) : bit (Nat.shiftLeft 1 e) i = true → i = e := by
  rw [bit_eq]
  intro h
  have h : (1 <<< e).testBit i = true := h
  rw [Nat.one_shiftLeft, Nat.testBit_two_pow] at h
  have h := of_decide_eq_true h
  first | exact h | exact h.symm

/-! ### Orders -/
theorem binds_eq (e : Edge) : Region.binds .any e = bindsE e.ground := by
  unfold Region.binds bindsE
  cases e.ground <;> rfl
/-- D is closed under the edges that bind -/
def Closed (ops : List Oper) (D : Nat → Prop) : Prop := ∀ (i : Nat) (o : Oper), D i → ops[i]? = some o → ∀ e ∈ o.after.toList, bindsE e.ground = true → D e.on
/-- everything that o must wait for has been done -/
def Waits (D : Nat → Prop) (o : Oper) : Prop := ∀ e ∈ o.after.toList, bindsE e.ground = true → D e.on
theorem edgeBits_bit (acc : List Nat) : ∀ (es : List Edge) (m j : Nat), bit (edgeBits acc es m) j = true → bit m j = true ∨ ∃ e ∈ es, bindsE e.ground = true ∧ (j = e.on ∨ bit (acc[e.on]?.getD 0) j = true)
  | [], m, j, h => .inl h
  | e :: r, m, j, h => by
    unfold edgeBits at h
    split at h
    · rename_i hb
      rcases edgeBits_bit acc r _ j h with h1 | ⟨e', h1, h2⟩
      · rw [bit_or, bit_or, Bool.or_eq_true, Bool.or_eq_true] at h1
        rcases h1 with (h1 | h1) | h1
        · exact .inl h1
        · exact .inr ⟨e, by simp, hb, .inl (bit_one _ _ h1)⟩
        · exact .inr ⟨e, by simp, hb, .inr h1⟩
      · exact .inr ⟨e', by simp [h1], h2⟩
    · rcases edgeBits_bit acc r _ j h with h1 | ⟨e', h1, h2⟩
      · exact .inl h1
      · exact .inr ⟨e', by simp [h1], h2⟩
/-- what the bits tell: whoever waits for the edges waits for all that is told -/
def Told (ops : List Oper) (acc : List Nat) (done : List Oper) : Prop :=
  acc.length = done.length ∧ ∀ (i : Nat) (o : Oper) (m : Nat), done[i]? = some o → acc[i]? = some m → ∀ j, bit m j = true → ∀ D, Closed ops D → Waits D o → D j
theorem befores_told (ops : List Oper) : ∀ (rest done : List Oper) (acc : List Nat), ops = done ++ rest → Told ops acc done → Told ops (befores acc rest) ops
  | [], done, acc, h, ht => by
    rw [List.append_nil] at h
    subst h
    exact ht
  | o :: r, done, acc, h, ht => by
    have e : befores acc (o :: r) = befores (acc ++ [edgeBits acc o.after.toList 0]) r := by
      show forceN _ _ = _
      rw [forceN_eq]
    rw [e]
    refine befores_told ops r (done ++ [o]) _ (by rw [h]; simp) ⟨by simp [ht.1], fun i o' m hi hm j hj D hD hw => ?_⟩
    rw [List.getElem?_append] at hi hm
    by_cases hlt : i < done.length
    · rw [if_pos hlt] at hi
      rw [if_pos (by rw [ht.1]; exact hlt)] at hm
      exact ht.2 i o' m hi hm j hj D hD hw
    · rw [if_neg hlt] at hi
      rw [if_neg (by rw [ht.1]; exact hlt)] at hm
      have hi0 : i - done.length = 0 := by
        rcases Nat.eq_zero_or_pos (i - done.length) with h0 | h0
        · exact h0
        · rw [List.getElem?_eq_none (by simp; omega)] at hi; cases hi
      rw [hi0] at hi
      rw [ht.1, hi0] at hm
      cases hi
      cases hm
      rcases edgeBits_bit acc _ _ j hj with h1 | ⟨e', h1, h2, h3⟩
      · rw [bit_zero] at h1; cases h1
      · have hDe := hw e' h1 h2
        rcases h3 with rfl | h3
        · exact hDe
        · cases ha : acc[e'.on]? with
          | none => rw [ha] at h3; simp [bit_zero] at h3
          | some m' =>
            rw [ha] at h3
            have hlt' : e'.on < acc.length := (List.getElem?_eq_some_iff.1 ha).1
            have hlt2 : e'.on < done.length := by rw [← ht.1]; exact hlt'
            obtain ⟨o2, hdn⟩ : ∃ o2, done[e'.on]? = some o2 := ⟨_, List.getElem?_eq_getElem hlt2⟩
            have hops : ops[e'.on]? = some o2 := by rw [h, List.getElem?_append, if_pos hlt2]; exact hdn
            exact ht.2 e'.on _ m' hdn ha j h3 D hD (fun e2 he2 hb2 => hD e'.on _ hDe hops e2 he2 hb2)
theorem befores_ok (ops : List Oper) : Told ops (befores [] ops) ops := befores_told ops ops [] [] rfl ⟨rfl, fun i o m hi => by simp at hi⟩

theorem evCheck1_all (e : Ev) (m : Nat) : ∀ (l : List Ev) (i : Nat), evCheck1 e m l i = true → ∀ (j : Nat) (f : Ev), l[j]? = some f → bit m (i + j) = true ∨ evApart f e = true
  | [], i, h, j, f, hf => by simp at hf
  | g :: r, i, h, j, f, hf => by
    unfold evCheck1 at h
    split at h
    · rename_i hb
      rw [Bool.or_eq_true] at hb
      cases j with
      | zero => simp at hf; subst hf; exact hb
      | succ j =>
        have := evCheck1_all e m r (i + 1) h j f (by simpa using hf)
        rw [show i + (j + 1) = i + 1 + j by omega]; exact this
    · cases h
theorem evCheck_all : ∀ (todo done : List Ev) (ms : List Nat), evCheck ms done todo = true → ∀ (i : Nat) (e : Ev) (m : Nat), todo[i]? = some e → ms[i]? = some m → ∀ (j : Nat) (f : Ev), j < done.length + i → (done ++ todo)[j]? = some f → bit m j = true ∨ evApart f e = true
  | [], done, ms, h, i, e, m, he, _, j, f, _, _ => by simp at he
  | x :: todo, done, [], h, i, e, m, he, hm, j, f, _, _ => by simp at hm
  | x :: todo, done, m0 :: ms, h, i, e, m, he, hm, j, f, hj, hf => by
    unfold evCheck at h
    split at h
    · rename_i h1
      cases i with
      | zero =>
        simp at he hm
        subst he; subst hm
        have := evCheck1_all x m0 done 0 h1 j f (by rw [List.getElem?_append, if_pos (by omega)] at hf; exact hf)
        rwa [Nat.zero_add] at this
      | succ i =>
        exact evCheck_all todo (done ++ [x]) ms h i e m (by simpa using he) (by simpa using hm) j f (by simp; omega) (by simpa using hf)
    · cases h
theorem tmpCheck1_all (m : Nat) (dst : Option Tmp) (names : List Tmp) : ∀ (l : List (Option Tmp × List Tmp)) (i : Nat), tmpCheck1 m dst names l i = true → ∀ (j : Nat) (f : Option Tmp × List Tmp), l[j]? = some f → bit m (i + j) = true ∨ tmpApart f.1 f.2 dst names = true
  | [], i, h, j, f, hf => by simp at hf
  | (d, ns) :: r, i, h, j, f, hf => by
    unfold tmpCheck1 at h
    split at h
    · rename_i hb
      rw [Bool.or_eq_true] at hb
      cases j with
      | zero => simp at hf; subst hf; exact hb
      | succ j =>
        have := tmpCheck1_all m dst names r (i + 1) h j f (by simpa using hf)
        rw [show i + (j + 1) = i + 1 + j by omega]; exact this
    · cases h
theorem tmpCheck_all (ops : List Oper) : ∀ (todo : List Oper) (done : List Oper) (ms : List Nat), tmpCheck ops ms (done.map fun o => (o.dst, namesOf ops o)) todo = true → ∀ (i : Nat) (o : Oper) (m : Nat), todo[i]? = some o → ms[i]? = some m → ∀ (j : Nat) (f : Oper), j < done.length + i → (done ++ todo)[j]? = some f →
    bit m j = true ∨ tmpApart f.dst (namesOf ops f) o.dst (namesOf ops o) = true
  | [], done, ms, h, i, o, m, ho, _, j, f, _, _ => by simp at ho
  | x :: todo, done, [], h, i, o, m, ho, hm, j, f, _, _ => by simp at hm
  | x :: todo, done, m0 :: ms, h, i, o, m, ho, hm, j, f, hj, hf => by
    unfold tmpCheck at h
    split at h
    · rename_i h1
      cases i with
      | zero =>
        simp at ho hm
        subst ho; subst hm
        rw [List.getElem?_append, if_pos (by omega)] at hf
        have := tmpCheck1_all m0 x.dst (namesOf ops x) _ 0 h1 j (f.dst, namesOf ops f) (by rw [List.getElem?_map, hf]; rfl)
        rwa [Nat.zero_add] at this
      | succ i =>
        refine tmpCheck_all ops todo (done ++ [x]) ms ?_ i o m (by simpa using ho) (by simpa using hm) j f (by simp; omega) (by simpa using hf)
        simpa using h
    · cases h
theorem back_all : ∀ (l : List Oper) (i : Nat), backCheck i l = true → ∀ (j : Nat) (o : Oper), l[j]? = some o → ∀ e ∈ o.after.toList, bindsE e.ground = true → e.on < i + j
  | [], i, h, j, o, ho => by simp at ho
  | x :: r, i, h, j, o, ho => by
    unfold backCheck at h
    split at h
    · rename_i h1
      cases j with
      | zero =>
        simp at ho; subst ho
        intro e he hb
        have go : ∀ (es : List Edge), edgesBack i es = true → ∀ e ∈ es, bindsE e.ground = true → e.on < i := by
          intro es
          induction es with
          | nil => intro _ e he; simp at he
          | cons y ys ih =>
            intro hh e he hb
            unfold edgesBack at hh
            split at hh
            · rename_i h2
              rcases List.mem_cons.1 he with rfl | he
              · rw [hb, Bool.not_true, Bool.or_false, blt_eq] at h2
                exact of_decide_eq_true h2
              · exact ih hh e he hb
            · cases hh
        exact go _ h1 e he hb
      | succ j =>
        intro e he hb
        have := back_all r (i + 1) h j o (by simpa using ho) e he hb
        omega
    · cases h
end Go.Abs
set_option linter.unusedVariables false
set_option linter.unusedSimpArgs false
namespace Go.Abs
variable {E : Env} {run : Run}

section
variable {F : Fr} {H : AHeap} {o : Oper} {out : AOut} {s l : Nat}
theorem st_store {A : Nat} (hk : evOf E F s l (kindOf o.op) = .st A) : ∃ t p x, o.op = .store t p x := by
  have other : evLow false l (noneBelow s l) ≠ .st A := (evLow_ne false s l).2.2.2 rfl A
  obtain ⟨dst, op, type, pos, after, guard⟩ := o
  cases op with
  | store t p x => exact ⟨t, p, x, rfl⟩
  | load t x =>
    have hk : (match addrOf (ev x F) with | some (A, _) => Ev.load A | none => .pure) = .st A := hk
    split at hk <;> cases hk
  | convert src dt x => exact absurd hk ((evConv_ne src dt s l).2.2 A)
  | call c =>
    exfalso
    have hk : evOf E F s l (kindC c.argTypes c.callee) = .st A := hk
    generalize c.callee = ce at hk
    cases ce with
    | value f => exact absurd hk other
    | invoke f m => exact absurd hk other
    | builtin b =>
      cases b with
      | min => cases hk
      | max => cases hk
      | cap => cases hk
      | len =>
        have hk : evLen E c.argTypes.toList = .st A := hk
        rcases evLen_cases (E := E) c.argTypes.toList with e | e <;> rw [e] at hk <;> cases hk
      | _ => exact absurd hk other
  | alloc e => cases hk
  | box e x => cases hk
  | buildSlice t n ps => cases hk
  | makeMap t r => cases hk
  | makeSlice t x y => cases hk
  | move x => cases hk
  | assign x => cases hk
  | pick c x y => cases hk
  | build t ps => cases hk
  | nilCheck x => cases hk
  | binOp op t x y yt => cases hk
  | unOp op t x => cases hk
  | makeFunc fn x y => cases hk
  | slice t x lo hi mx => cases hk
  | fieldAddr s x f => cases hk
  | field t x f => cases hk
  | indexAddr t x i => cases hk
  | index t x i => cases hk
  | extract t ix => cases hk
  | _ => exact absurd hk other
theorem evLow_pure {b : Bool} (h : evLow b l (noneBelow s l) = .pure) : noneBelow s l = true := by
  unfold evLow at h
  split at h
  · assumption
  · split at h <;> cases h
theorem evLow_wr {b : Bool} {m : Nat} (h : evLow b l (noneBelow s l) = .wr m) : m = l := by
  unfold evLow at h
  split at h
  · cases h
  · split at h
    · cases h
    · cases h; rfl
theorem noneBelow_bit {s l A : Nat} (h : noneBelow s l = true) (hA : A < s) : bit l A = false := by
  have h : l % 2 ^ s = 0 := Nat.eq_of_beq_eq_true h
  rw [bit_eq]
  have e := Nat.testBit_mod_two_pow l s A
  rw [h] at e
  simpa [hA] using e.symm
theorem pure_low (h : aExec o.op E o F H = some out) (hk : evOf E F s l (kindOf o.op) = .pure) : noneBelow s l = true ∨ isVal H out := by
  obtain ⟨dst, op, type, pos, after, guard⟩ := o
  cases op with
  | store t p x => exact .inl (evLow_pure (b := true) hk)
  | load t x => exact .inr (iv_oval h)
  | convert src dt x =>
    have hk : (match memConv E src dt with | true => evLow false l (noneBelow s l) | false => Ev.float) = .pure := hk
    split at hk
    · exact .inl (evLow_pure hk)
    · cases hk
  | call c =>
    have hk : evOf E F s l (kindC c.argTypes c.callee) = .pure := hk
    have h : (@Callee.rec (fun _ => Option AOut) (fun f => aInvoke (ev f F) E H (evs F c.args.toList)) (fun _ _ => none) (fun b => aBuiltin b E H c.argTypes.toList type (evs F c.args.toList)) c.callee) = some out := h
    generalize c.callee = ce at h hk
    cases ce with
    | value f => exact .inl (evLow_pure (b := false) hk)
    | invoke f m => exact .inl (evLow_pure (b := false) hk)
    | builtin b =>
      cases b with
      | min => cases hk
      | max => cases hk
      | cap => cases hk
      | len =>
        right
        have h : bLen E H c.argTypes.toList type (evs F c.args.toList) = some out := h
        unfold bLen at h
        split at h <;> first | (cases h; done) | (split at h <;> first | (cases h; done) | exact iv_val h)
      | _ => exact .inl (evLow_pure (b := false) hk)
  | alloc e => cases hk
  | box e x => cases hk
  | buildSlice t n ps => cases hk
  | makeMap t r => cases hk
  | makeSlice t x y => cases hk
  | move x => cases hk
  | assign x => cases hk
  | pick c x y => cases hk
  | build t ps => cases hk
  | nilCheck x => cases hk
  | binOp op t x y yt => cases hk
  | unOp op t x => cases hk
  | makeFunc fn x y => cases hk
  | slice t x lo hi mx => cases hk
  | fieldAddr s x f => cases hk
  | field t x f => cases hk
  | indexAddr t x i => cases hk
  | index t x i => cases hk
  | extract t ix => cases hk
  | _ => exact .inl (evLow_pure (b := false) hk)
theorem wr_low {m : Nat} (hk : evOf E F s l (kindOf o.op) = .wr m) : m = l := by
  obtain ⟨dst, op, type, pos, after, guard⟩ := o
  cases op with
  | store t p x => exact evLow_wr (b := true) hk
  | load t x =>
    have hk : (match addrOf (ev x F) with | some (A, _) => Ev.load A | none => .pure) = .wr m := hk
    split at hk <;> cases hk
  | convert src dt x =>
    have hk : (match memConv E src dt with | true => evLow false l (noneBelow s l) | false => Ev.float) = .wr m := hk
    split at hk
    · exact evLow_wr hk
    · cases hk
  | call c =>
    have hk : evOf E F s l (kindC c.argTypes c.callee) = .wr m := hk
    generalize c.callee = ce at hk
    cases ce with
    | value f => exact evLow_wr (b := false) hk
    | invoke f m => exact evLow_wr (b := false) hk
    | builtin b =>
      cases b with
      | min => cases hk
      | max => cases hk
      | cap => cases hk
      | len =>
        have hk : evLen E c.argTypes.toList = .wr m := hk
        rcases evLen_cases (E := E) c.argTypes.toList with e | e <;> rw [e] at hk <;> cases hk
      | _ => exact evLow_wr (b := false) hk
  | alloc e => cases hk
  | box e x => cases hk
  | buildSlice t n ps => cases hk
  | makeMap t r => cases hk
  | makeSlice t x y => cases hk
  | move x => cases hk
  | assign x => cases hk
  | pick c x y => cases hk
  | build t ps => cases hk
  | nilCheck x => cases hk
  | binOp op t x y yt => cases hk
  | unOp op t x => cases hk
  | makeFunc fn x y => cases hk
  | slice t x lo hi mx => cases hk
  | fieldAddr s x f => cases hk
  | field t x f => cases hk
  | indexAddr t x i => cases hk
  | index t x i => cases hk
  | extract t ix => cases hk
  | _ => exact evLow_wr (b := false) hk
end

/-- the states in text order -/
structure Text (E : Env) (run : Run) (ops : List Oper) (nt : Nat) (T : Tr Value) (Ls : Nat → Loc) (Hs : Nat → AHeap) (es : List Ev) : Prop where
  len : es.length = ops.length
  step : ∀ (i : Nat) (o : Oper), ops[i]? = some o → ∃ H1, aOp ops nt o E run T (Ls i) (resetLow (Hs i)) = some (Ls (i + 1), H1) ∧ Hs (i + 1) = lowered (Hs i).low H1 ∧ es[i]? = some (evAt ops o E ⟨Ls i, T⟩ (Hs i).size H1.low)
theorem text_of {ops : List Oper} {nt : Nat} {T : Tr Value} : ∀ (rest : List Oper) {L L' : Loc} {H H' : AHeap} {es : List Ev}, aOpsD ops nt E run T rest L H = some (L', H', es) →
    ∃ (Ls : Nat → Loc) (Hs : Nat → AHeap), Ls 0 = L ∧ Hs 0 = H ∧ Ls rest.length = L' ∧ Hs rest.length = H' ∧ es.length = rest.length ∧
      ∀ (i : Nat) (o : Oper), rest[i]? = some o → ∃ H1, aOp ops nt o E run T (Ls i) (resetLow (Hs i)) = some (Ls (i + 1), H1) ∧ Hs (i + 1) = lowered (Hs i).low H1 ∧ es[i]? = some (evAt ops o E ⟨Ls i, T⟩ (Hs i).size H1.low)
  | [], L, L', H, H', es, h => by
    cases h
    exact ⟨fun _ => L, fun _ => H, rfl, rfl, rfl, rfl, rfl, fun i o ho => by simp at ho⟩
  | o :: r, L, L', H, H', es, h => by
    obtain ⟨L1, H1, es', h1, h2, rfl⟩ := aOpsD_cons h
    obtain ⟨Ls, Hs, p1, p2, p3, p4, p5, p6⟩ := text_of r h2
    refine ⟨fun i => match i with | 0 => L | i + 1 => Ls i, fun i => match i with | 0 => H | i + 1 => Hs i, rfl, rfl, p3, p4, by simp [p5], fun i o' ho => ?_⟩
    cases i with
    | zero =>
      simp at ho
      subst ho
      exact ⟨H1, by rw [← p1] at h1; exact h1, p2, rfl⟩
    | succ i =>
      obtain ⟨H2, q1, q2, q3⟩ := p6 i o' (by simpa using ho)
      exact ⟨H2, q1, q2, by simpa using q3⟩

section
variable {ops : List Oper} {nt : Nat} {T : Tr Value} {Ls : Nat → Loc} {Hs : Nat → AHeap} {es : List Ev} (tx : Text E run ops nt T Ls Hs es) (hu : RunUp run)
 include tx hu
theorem Text.upp {i : Nat} {o : Oper} (ho : ops[i]? = some o) : Upp (Hs i) (Hs (i + 1)) := by
  obtain ⟨H1, h1, h2, _⟩ := tx.step i o ho
  rw [h2]
  exact upp_lowered (up_op hu h1)
theorem Text.upps : ∀ (d i : Nat), i + d ≤ ops.length → Upp (Hs i) (Hs (i + d))
  | 0, i, _ => .refl _
  | d + 1, i, h => by
    have ho : ops[i + d]? = some (ops[i + d]'(by omega)) := by simp
    exact (Text.upps d i (by omega)).trans (tx.upp hu ho)
theorem Text.mono {i j : Nat} (h : i ≤ j) (hj : j ≤ ops.length) : (Hs i).size ≤ (Hs j).size := by
  have := (tx.upps hu (j - i) i (by omega)).low.size
  rwa [show i + (j - i) = j by omega] at this
theorem Text.wf (h0 : Wf (Hs 0)) {i : Nat} (hi : i ≤ ops.length) : Wf (Hs i) := by
  have := (tx.upps hu i 0 (by omega)).wf h0
  rwa [Nat.zero_add] at this
end

/-- what an event may write -/
def Touch (e : Ev) (size size' A : Nat) : Prop := match e with
  | .float => False
  | .load _ => False
  | .new => A = size ∧ A < size'
  | .pure => size ≤ A ∧ A < size'
  | .st B => A = B ∧ A < size'
  | .wr m => (bit m A = true ∨ size ≤ A) ∧ A < size'

section
variable {ops : List Oper} {nt : Nat} {T : Tr Value} {Ls : Nat → Loc} {Hs : Nat → AHeap} {es : List Ev} (tx : Text E run ops nt T Ls Hs es) (hu : RunUp run)
 include tx hu
/-- what is not touched stays as it is -/
theorem Text.still (h0 : Wf (Hs 0)) {i A : Nat} {o : Oper} {e : Ev} (ho : ops[i]? = some o) (he : es[i]? = some e) (ht : ¬ Touch e (Hs i).size (Hs (i + 1)).size A) : (Hs (i + 1)).get A = (Hs i).get A := by
  have hi : i < ops.length := (List.getElem?_eq_some_iff.1 ho).1
  have wi := tx.wf hu h0 (i := i) (by omega)
  have wi1 := tx.wf hu h0 (i := i + 1) (by omega)
  have hup := tx.upp hu ho
  obtain ⟨H1, h1, h2, h3⟩ := tx.step i o ho
  rw [he] at h3
  injection h3 with h3
  have hbig : ∀ A, (Hs (i + 1)).size ≤ A → (Hs (i + 1)).get A = (Hs i).get A := fun A hA => by
    rw [wi1.tot A hA, wi.tot A (by have := hup.low.size; omega)]
  obtain ⟨hd, ⟨hw, hL, hH⟩ | ⟨hw, out, v, hx, hc, hL⟩⟩ := aOp_some h1
  · rw [h2, hH]; rfl
  · have hev : evAt ops o E ⟨Ls i, T⟩ (Hs i).size H1.low = evOf E ⟨Ls i, T⟩ (Hs i).size H1.low (kindOf o.op) := by
      unfold evAt; rw [hw]
    rw [hev] at h3
    cases e with
    | float =>
      obtain ⟨u, rfl⟩ := shape_still hx (.inl h3.symm)
      cases hc
      rw [h2]; rfl
    | load B =>
      obtain ⟨u, rfl⟩ := shape_still hx (.inr ⟨B, h3.symm⟩)
      cases hc
      rw [h2]; rfl
    | new =>
      obtain ⟨u, ao, rfl⟩ := shape_new hx h3.symm
      cases hc
      by_cases hA : A < (Hs (i + 1)).size
      · rw [h2, lowered_get]
        exact get_new_ne _ _ _ (fun e => ht ⟨e, hA⟩)
      · exact hbig A (by omega)
    | st B =>
      have hst : ∃ H2, out = .val v H2 ∧ H1 = H2 := by
        obtain ⟨t, p, x, hop⟩ := st_store h3.symm
        rw [hop] at hx
        obtain ⟨H2, _, rfl⟩ := ounit_some (show ounit (aStore E (resetLow (Hs i)) t (ev x _) (ev p _)) = some out from hx)
        cases hc
        exact ⟨_, rfl, rfl⟩
      obtain ⟨H2, rfl, rfl⟩ := hst
      obtain ⟨t, p, x, H2, off, ob, ob', _, e2, _, _, h6, _, rfl⟩ := shape_st hx (reset_low _) wi.reset h3.symm
      cases e2
      by_cases hA : A < (Hs (i + 1)).size
      · rw [h2, lowered_get, get_put_ne _ _ _ _ (fun e => ht ⟨e.symm, hA⟩)]; rfl
      · exact hbig A (by omega)
    | pure =>
      by_cases hA : A < (Hs i).size
      · rcases pure_low hx h3.symm with hl | ⟨u, rfl⟩
        · have hup1 := up_op hu h1
          rw [h2, lowered_get, hup1.low.same A (noneBelow_bit hl hA) hA]; rfl
        · cases hc
          rw [h2]; rfl
      · refine hbig A ?_
        rcases Nat.lt_or_ge A (Hs (i + 1)).size with h4 | h4
        · exact absurd ⟨by omega, h4⟩ ht
        · exact h4
    | wr m =>
      have hm := wr_low h3.symm
      by_cases hA : A < (Hs i).size
      · have hup1 := up_op hu h1
        have hb : bit H1.low A = false := by
          rw [← hm]
          cases hbm : bit m A with
          | false => rfl
          | true => exact absurd ⟨.inl hbm, by have := hup.low.size; omega⟩ ht
        rw [h2, lowered_get, hup1.low.same A hb hA]; rfl
      · refine hbig A ?_
        rcases Nat.lt_or_ge A (Hs (i + 1)).size with h4 | h4
        · exact absurd ⟨.inr (by omega), h4⟩ ht
        · exact h4
end
end Go.Abs
