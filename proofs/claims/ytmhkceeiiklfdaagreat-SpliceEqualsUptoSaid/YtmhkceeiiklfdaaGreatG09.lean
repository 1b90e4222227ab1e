/- A part of the proof of SpliceEqualsUptoSaid (texts: SndT SndU SndV). No conditions. -/
import Derived.Test.YtmhkceeiiklfdaaGreatG08
import Derived.AtR
import Derived.Defers
import Derived.RangeFuncIn
import Derived.RangeFuncRecord
set_option linter.unusedVariables false
set_option linter.unusedSimpArgs false
set_option linter.unusedVariables false
set_option linter.unusedSimpArgs false
namespace Go.Abs
variable {E : Env} {F : Fr} {H H' : AHeap} {o : Oper} {out : AOut} {run : Run}

theorem up_enter0 (hr : RunUp run) {f : FuncId} {args : List Value} {v : Value} (h : aEnter0 f args H E run = some (v, H')) : Upp H H' := by
  unfold aEnter0 at h
  rw [orec] at h
  split at h
  · rw [orec] at h
    split at h
    · rw [brec] at h
      split at h
      · exact hr _ _ _ _ _ _ _ h
      · cases h
    · cases h
  · cases h
theorem eqLeaf_sound {a b : Value} (h : eqLeaf a b = true) : a = b := by
  unfold eqLeaf at h
  split at h
  · rw [nbeq_eq] at h; rw [of_decide_eq_true h]
  · rw [Bool.and_eq_true] at h; rw [of_decide_eq_true h.1, of_decide_eq_true h.2]
  · rw [of_decide_eq_true h]
  · rename_i s t
    rw [sameL_eq] at h
    have := eq_of_beq h
    obtain ⟨⟨s⟩⟩ := s
    obtain ⟨⟨t⟩⟩ := t
    simp only at this
    rw [this]
  · rw [Bool.and_eq_true, nbeq_eq, nbeq_eq] at h; rw [of_decide_eq_true h.1, of_decide_eq_true h.2]
  · rfl
  · rw [nbeq_eq] at h; rw [of_decide_eq_true h]
  · cases h
theorem eqLeaves_sound : ∀ {a b : List Value}, eqLeaves a b = true → a = b
  | [], [], _ => rfl
  | [], _ :: _, h => by simp [eqLeaves] at h
  | _ :: _, [], h => by simp [eqLeaves] at h
  | a :: r, b :: s, h => by
    unfold eqLeaves at h
    split at h
    · rename_i h1
      rw [eqLeaf_sound h1, eqLeaves_sound h]
    · cases h
theorem eqArg_sound {a b : Value} (h : eqArg a b = true) : a = b := by
  unfold eqArg at h
  split at h
  · rename_i x y
    have := eqLeaves_sound h
    obtain ⟨x⟩ := x
    obtain ⟨y⟩ := y
    simp only at this
    rw [this]
  · cases h
  · exact eqLeaf_sound h
theorem eqArgs_sound : ∀ {a b : List Value}, eqArgs a b = true → a = b
  | [], [], _ => rfl
  | [], _ :: _, h => by simp [eqArgs] at h
  | _ :: _, [], h => by simp [eqArgs] at h
  | a :: r, b :: s, h => by
    unfold eqArgs at h
    split at h
    · rename_i h1
      rw [eqArg_sound h1, eqArgs_sound h]
    · cases h
theorem conOf_some {A : Nat} {f : FuncId} {args : List Value} {r : Value} : ∀ {l : List Con}, conOf A f args l = some r → ∃ c ∈ l, c.at_ = A ∧ c.fn = f ∧ c.args = args ∧ c.res = r
  | [], h => by cases h
  | c :: l, h => by
    have e : conOf A f args (c :: l) = @Bool.rec (fun _ => Option Value) (conOf A f args l) (some c.res) (Nat.beq c.at_ A && (Nat.beq c.fn f && eqArgs c.args args)) := rfl
    rw [e, brec] at h
    split at h
    · rename_i hc
      cases h
      rw [Bool.and_eq_true, Bool.and_eq_true, nbeq_eq, nbeq_eq] at hc
      exact ⟨c, by simp, of_decide_eq_true hc.1, of_decide_eq_true hc.2.1, eqArgs_sound hc.2.2, rfl⟩
    · obtain ⟨c', h1, h2⟩ := conOf_some h
      exact ⟨c', by simp [h1], h2⟩
theorem up_enter (hr : RunUp run) {f : FuncId} {args : List Value} {v : Value} (h : aEnter f args H E run = some (v, H')) : Upp H H' := by
  unfold aEnter at h
  rw [orec] at h
  split at h
  · cases h; exact .new _ _
  · exact up_enter0 hr h
theorem takeAll_upp (hr : RunUp run) : ∀ {d : List ADef} {H H' : AHeap}, takeAll E run d H = some H' → Upp H H'
  | [], H, H', h => by cases h; exact .refl _
  | .mark b :: r, H, H', h => by
    unfold takeAll at h
    split at h
    · rename_i hg
      exact (Upp.put _ hg).trans (takeAll_upp hr h)
    · cases h
  | .call g args :: r, H, H', h => by
    unfold takeAll at h
    split at h
    · rename_i u o s l he
      exact (up_enter0 hr he).trans (takeAll_upp hr h)
    · cases h
theorem up_leave (hr : RunUp run) {jump : Option Code} {fi : FInfo} {d : List ADef} {T : Tr Value} {v : Value} (h : aLeave jump E run fi d T H = some (v, H')) : Upp H H' := by
  unfold aLeave at h
  split at h
  · split at h
    · unfold leaveRound at h
      split at h
      · rename_i r hg
        cases h; exact Upp.put _ hg
      · cases h
    · cases h
  · split at h
    · cases h
    · unfold leaveFn at h
      split at h
      · cases h
      · rename_i H1 ht
        unfold leaveRes at h
        split at h
        · cases h
        · split at h
          · cases h; exact takeAll_upp hr ht
          · cases h
theorem up_round (hr : RunUp run) {l : Nat} {args : List Value} {v : Value} (h : aRound l args H E run = some (v, H')) : Upp H H' := by
  unfold aRound at h
  split at h
  · unfold aRoundIn at h
    split at h
    · exact hr _ _ _ _ _ _ _ h
    · cases h
  · cases h
theorem up_call (hr : RunUp run) {v : Value} (h : aCall out E run = some (v, H')) : Upp (outH out) H' := by
  cases out with
  | val u H1 => cases h; exact Upp.refl _
  | enter f args H1 => exact up_enter hr h
  | round l args H1 => exact up_round hr h
/-- an operation of a region -/
theorem aOp_some {ops : List Oper} {nt : Nat} {T : Tr Value} {L L' : Loc} (h : aOp ops nt o E run T L H = some (L', H')) :
    dstOk nt o.dst = true ∧ ((aWanted ops ⟨L, T⟩ o.guard = some false ∧ L' = putL o.dst (.chan (some 0)) L ∧ H' = H) ∨
      (aWanted ops ⟨L, T⟩ o.guard = some true ∧ ∃ out v, aExec o.op E o ⟨L, T⟩ H = some out ∧ aCall out E run = some (v, H') ∧ L' = putL o.dst v L)) := by
  unfold aOp at h
  rw [brec] at h
  split at h
  · rename_i hd
    refine ⟨hd, ?_⟩
    rw [orec] at h
    split at h
    · rename_i b hb
      rw [brec] at h
      split at h
      · rename_i hbt
        subst hbt
        unfold goOp at h
        rw [orec] at h
        split at h
        · rename_i out ho
          unfold finOp at h
          rw [orec] at h
          split at h
          · rename_i q hq
            obtain ⟨v, H1⟩ := q
            cases h
            exact .inr ⟨hb, out, v, ho, hq, rfl⟩
          · cases h
        · cases h
      · rename_i hbt
        have : b = false := by cases b <;> simp_all
        subst this
        cases h
        exact .inl ⟨hb, rfl, rfl⟩
    · cases h
  · cases h
theorem up_op (hr : RunUp run) {ops : List Oper} {nt : Nat} {T : Tr Value} {L L' : Loc} (h : aOp ops nt o E run T L H = some (L', H')) : Upp H H' := by
  obtain ⟨_, ⟨_, _, rfl⟩ | ⟨_, out, v, h1, h2, _⟩⟩ := aOp_some h
  · exact Upp.refl _
  · exact Upp.trans (up_exec h1) (up_call hr h2)
theorem aOps_cons {ops : List Oper} {nt : Nat} {T : Tr Value} {L : Loc} {o : Oper} {r : List Oper} {q : Loc × AHeap} (h : aOps ops nt E run T (o :: r) L H = some q) :
    ∃ L1 H1, aOp ops nt o E run T L H = some (L1, H1) ∧ aOps ops nt E run T r L1 H1 = some q := by
  have h : (@Option.rec _ (fun _ => OpsR) none (fun p => @Prod.rec _ _ (fun _ => OpsR) (aOps ops nt E run T r) p) (aOp ops nt o E run T L H)) = some q := h
  rw [orec] at h
  split at h
  · rename_i p hp
    obtain ⟨L1, H1⟩ := p
    exact ⟨L1, H1, hp, h⟩
  · cases h
theorem up_ops (hr : RunUp run) {ops : List Oper} {nt : Nat} {T : Tr Value} : ∀ {l : List Oper} {L L' : Loc} {H H' : AHeap}, aOps ops nt E run T l L H = some (L', H') → Upp H H'
  | [], L, L', H, H', h => by cases h; exact Upp.refl _
  | o :: r, L, L', H, H', h => by
    obtain ⟨L1, H1, h1, h2⟩ := aOps_cons h
    exact Upp.trans (up_op hr h1) (up_ops hr h2)
theorem aOpsD_cons {ops : List Oper} {nt : Nat} {T : Tr Value} {L L' : Loc} {o : Oper} {r : List Oper} {es : List Ev} (h : aOpsD ops nt E run T (o :: r) L H = some (L', H', es)) :
    ∃ L1 H1 es', aOp ops nt o E run T L (resetLow H) = some (L1, H1) ∧ aOpsD ops nt E run T r L1 (lowered H.low H1) = some (L', H', es') ∧ es = evAt ops o E ⟨L, T⟩ H.size H1.low :: es' := by
  unfold aOpsD at h
  split at h
  · rename_i L1 H1 h1
    unfold consEv at h
    split at h
    · rename_i L2 H2 l h2
      cases h
      exact ⟨L1, H1, l, h1, h2, rfl⟩
    · cases h
  · cases h
theorem lowered_low (l : Nat) (H : AHeap) : (lowered l H).low = Nat.lor l H.low := rfl
theorem lowered_size (l : Nat) (H : AHeap) : (lowered l H).size = H.size := rfl
theorem lowered_get (l : Nat) (H : AHeap) (A : Nat) : (lowered l H).get A = H.get A := rfl
theorem reset_size (H : AHeap) : (resetLow H).size = H.size := rfl
theorem reset_get (H : AHeap) (A : Nat) : (resetLow H).get A = H.get A := rfl
theorem reset_low (H : AHeap) : (resetLow H).low = 0 := rfl
theorem Wf.lowered {H : AHeap} (l : Nat) (h : Wf H) : Wf (lowered l H) := ⟨h.tot, h.lowly⟩
theorem Wf.reset {H : AHeap} (h : Wf H) : Wf (resetLow H) := ⟨h.tot, h.lowly⟩
theorem upp_lowered {H H1 : AHeap} (h : Upp (resetLow H) H1) : Upp H (lowered H.low H1) := by
  refine ⟨⟨fun A hA => by rw [lowered_low, bit_lor, hA]; rfl, fun A h1 h2 => ?_, h.low.size⟩, fun x => (h.wf x.reset).lowered _⟩
  rw [lowered_low, bit_lor, Bool.or_eq_false_iff] at h1
  rw [lowered_get, h.low.same A h1.2 h2, reset_get]
theorem up_opsD (hr : RunUp run) {ops : List Oper} {nt : Nat} {T : Tr Value} : ∀ {l : List Oper} {L L' : Loc} {H H' : AHeap} {es : List Ev}, aOpsD ops nt E run T l L H = some (L', H', es) → Upp H H'
  | [], L, L', H, H', es, h => by cases h; exact Upp.refl _
  | o :: r, L, L', H, H', es, h => by
    obtain ⟨L1, H1, es', h1, h2, _⟩ := aOpsD_cons h
    have e1 := up_op hr h1
    have e2 := up_opsD hr h2
    exact (upp_lowered e1).trans e2

variable {fi : FInfo} {d : List ADef} {T : Tr Value} {k : List AItem} {v : Value}
theorem up_code (hr : RunUp run) {c : Code} (h : stepCode c k E run fi d T H = some (v, H')) : Upp H H' := by
  cases c with
  | skip => exact hr _ _ _ _ _ _ _ h
  | label l => exact hr _ _ _ _ _ _ _ h
  | seq a b => exact hr _ _ _ _ _ _ _ h
  | block id b => exact hr _ _ _ _ _ _ _ h
  | loop b => exact hr _ _ _ _ _ _ _ h
  | scope b => exact hr _ _ _ _ _ _ _ h
  | ret => exact up_leave hr h
  | refuse s => cases h
  | cond c a b =>
    have h : sCond c a b k E run fi d T H = some (v, H') := h
    unfold sCond at h
    rw [orec] at h
    split at h
    · exact hr _ _ _ _ _ _ _ h
    · cases h
  | exit id =>
    have h : sExit id k E run fi d T H = some (v, H') := h
    unfold sExit at h
    rw [orec] at h
    split at h
    · exact hr _ _ _ _ _ _ _ h
    · exact up_leave hr h
  | goto l =>
    have h : sGoto l k E run fi d T H = some (v, H') := h
    unfold sGoto at h
    rw [orec] at h
    split at h
    · exact hr _ _ _ _ _ _ _ h
    · exact up_leave hr h
  | region id ops draw =>
    have h : sRegion id ops draw k E run fi d T H = some (v, H') := h
    unfold sRegion at h
    rw [brec] at h
    split at h
    · unfold sReg3 at h
      split at h
      · rename_i L H1 es h1
        split at h
        · split at h
          · exact Upp.trans (up_opsD hr h1) (hr _ _ _ _ _ _ _ h)
          · cases h
        · cases h
      · cases h
    · unfold sReg2 at h
      rw [orec] at h
      split at h
      · rename_i p h1
        obtain ⟨L, H1⟩ := p
        exact Upp.trans (up_ops hr h1) (hr _ _ _ _ _ _ _ h)
      · have h : sDef ops.toList E k run fi d T H = some (v, H') := h
        unfold sDef at h
        split at h
        · rename_i l c _ _
          unfold sDef2 at h
          split at h
          · rename_i L H1 h1
            split at h
            · exact Upp.trans (up_ops hr h1) (hr _ _ _ _ _ _ _ h)
            · cases h
          · cases h
        · cases h
  | rangeFunc f ps a b =>
    have h : sRange f ps a b k E run fi d T H = some (v, H') := h
    have one : ∀ df mark H0, sRange1 f ps a b k E run fi d T df mark H0 = some (v, H') → Upp H0 H' := by
      intro df mark H0 h
      unfold sRange1 at h
      split at h
      · rename_i out hi
        have e1 := up_invoke hi
        unfold sRange2 at h
        split at h
        · rename_i u o s m hc
          have e2 := up_call hr hc
          have e3 := hr _ _ _ _ _ _ _ h
          have e4 : Upp H0 (H0.new (.loop { state := .ready, pending := none, fn := fi.fn, tmps := T, params := ps.toList, assign := a, body := b, defers := df, nt := fi.nt })) := .new _ _
          exact Upp.trans e4 (Upp.trans e1 (Upp.trans e2 e3))
        · cases h
      · cases h
    unfold sRange at h
    split at h
    · exact (Upp.new _ _).trans (one _ _ _ h)
    · split at h
      · exact one _ _ _ h
      · cases h
theorem up_step (hr : RunUp run) {todo : List AItem} (h : stepTodo todo E run fi d T H = some (v, H')) : Upp H H' := by
  cases todo with
  | nil => exact up_leave hr h
  | cons i k =>
    cases i with
    | code c => exact up_code hr h
    | inBlock id => exact hr _ _ _ _ _ _ _ h
    | inLoop b => exact hr _ _ _ _ _ _ _ h
    | inScope b => exact hr _ _ _ _ _ _ _ h
    | endRangeFunc l =>
      have h : sEnd l k E run fi d T H = some (v, H') := h
      unfold sEnd at h
      split at h
      · rename_i r hg
        split at h
        · exact (Upp.put _ hg).trans (hr _ _ _ _ _ _ _ h)
        · cases h
      · cases h
    | beginRound =>
      have h : sBegin k E run fi d T H = some (v, H') := h
      unfold sBegin at h
      split at h
      · cases h
      · split at h
        · rename_i r hg
          split at h
          · exact (Upp.put _ hg).trans (hr _ _ _ _ _ _ _ h)
          · cases h
        · cases h
theorem aRun_up (E : Env) : ∀ n, RunUp (aRun E n)
  | 0 => fun _ _ _ _ _ _ _ h => by cases h
  | n + 1 => fun _ _ _ _ _ _ _ h => up_step (aRun_up E n) h
end Go.Abs
set_option linter.unusedVariables false
set_option linter.unusedSimpArgs false
namespace Go.Abs

/-! ### Items, marks, frames -/
inductive IRel (φ : Phi) : AItem → Item → Prop
  | code (c : Code) : IRel φ (.code c) (.code c)
  | inBlock (id : Nat) : IRel φ (.inBlock id) (.inBlock id)
  | inLoop (b : Code) : IRel φ (.inLoop b) (.inLoop b)
  | inScope (b : Code) : IRel φ (.inScope b) (.inScope b)
  | endRange (l b n : Nat) : φ l = some (b, n) → IRel φ (.endRangeFunc l) (.endRangeFunc b)
  | beginRound : IRel φ .beginRound .beginRound
inductive KRel (φ : Phi) : List AItem → List Item → Prop
  | nil : KRel φ [] []
  | cons (i : AItem) (j : Item) (k : List AItem) (k' : List Item) : IRel φ i j → KRel φ k k' → KRel φ (i :: k) (j :: k')
inductive DRel (φ : Phi) : List ADef → List Deferred → Prop
  | nil : DRel φ [] []
  | cons (A b n : Nat) (r : List ADef) (r' : List Deferred) : φ A = some (b, n) → DRel φ r r' → DRel φ (.mark A :: r) ({ target := .collected b, args := #[] } :: r')
  | call (g : FuncId) (args as bs : List Value) (r : List ADef) (r' : List Deferred) : LRel φ args (as ++ bs) → DRel φ r r' → DRel φ (.call g args :: r) ({ target := .fn (.func g) ⟨bs⟩, args := ⟨as⟩ } :: r')
def RoundRel (φ : Phi) : Option Nat → Option Nat → Prop
  | none, none => True
  | some l, some b => ∃ n, φ l = some (b, n)
  | _, _ => False
section
variable {φ φ' : Phi} (e : Ext φ φ')
 include e
theorem IRel.mono {i : AItem} {j : Item} (h : IRel φ i j) : IRel φ' i j := by
  cases h with
  | code c => exact .code c
  | inBlock id => exact .inBlock id
  | inLoop b => exact .inLoop b
  | inScope b => exact .inScope b
  | endRange l b n h => exact .endRange l b n (e _ _ h)
  | beginRound => exact .beginRound
theorem KRel.mono : ∀ {k : List AItem} {k' : List Item}, KRel φ k k' → KRel φ' k k'
  | _, _, .nil => .nil
  | _, _, .cons _ _ _ _ h hs => .cons _ _ _ _ (h.mono e) (KRel.mono hs)
theorem DRel.mono : ∀ {k : List ADef} {k' : List Deferred}, DRel φ k k' → DRel φ' k k'
  | _, _, .nil => .nil
  | _, _, .cons _ _ _ _ _ h hs => .cons _ _ _ _ _ (e _ _ h) (DRel.mono hs)
  | _, _, .call _ _ _ _ _ _ h hs => .call _ _ _ _ _ _ (h.mono e) (DRel.mono hs)
theorem RoundRel.mono {r s : Option Nat} (h : RoundRel φ r s) : RoundRel φ' r s := by
  cases r <;> cases s <;> first | exact h | (obtain ⟨n, hn⟩ := h; exact ⟨n, e _ _ hn⟩)
end

/-- How a frame ends. -/
def Ends (P : Program) (b : Frame) (a : Act) (k : List Item) (w : World) (v : Value) (w' : World) (cs : List Frame) : Prop :=
  match b.roundOf with
  | none => ∃ fr, Steps P (lone (b.atR a k) cs w) (lone fr cs w') ∧ fr.going P w' (.returned v) ∧ fr.fn = b.fn ∧ fr.kind = b.kind
  | some _ => ∀ c cs', cs = c :: cs' → Steps P (lone (b.atR a k) cs w) (lone (c.finish v) cs' w')
theorem Ends.of_steps {P : Program} {b : Frame} {a a1 : Act} {k k1 : List Item} {w w1 w' : World} {v : Value} {cs : List Frame} (h : Steps P (lone (b.atR a k) cs w) (lone (b.atR a1 k1) cs w1)) (h' : Ends P b a1 k1 w1 v w' cs) : Ends P b a k w v w' cs := by
  unfold Ends at h' ⊢
  split
  · rename_i hb
    rw [hb] at h'
    obtain ⟨fr, h1, h2, h3, h4⟩ := h'
    exact ⟨fr, h.trans h1, h2, h3, h4⟩
  · rename_i l hb
    rw [hb] at h'
    intro c cs' hc
    exact h.trans (h' c cs' hc)

/-- The frame as it stands. -/
structure At (φ : Phi) (E : Env) (fi : FInfo) (d : List ADef) (T : Tr Value) (b : Frame) (a : Act) : Prop where
  fn : b.fn = fi.fn
  kind : b.kind = .normal ∨ (b.kind = .deferred ∧ b.roundOf = none)
  round : RoundRel φ fi.roundOf b.roundOf
  tmps : TRel φ (keepOf E fi.fn) T a.tmps
  nt : a.tmps.size = fi.nt
  defers : DRel φ d a.defers
theorem At.normal {φ : Phi} {E : Env} {fi : FInfo} {d : List ADef} {T : Tr Value} {b : Frame} {a : Act} (h : At φ E fi d T b a) {l : Nat} (hl : b.roundOf = some l) : b.kind = .normal := by
  rcases h.kind with h | ⟨_, h⟩
  · exact h
  · rw [hl] at h; cases h
theorem Frame.leaving_of_going {P : Program} {fr : Frame} {w : World} {v : Value} (h : fr.going P w (.returned v)) (hk : fr.kind = .normal) : fr.leaving P w (.returned v) :=
  ⟨h.1, h.2.1, hk, h.2.2⟩
theorem At.mono {φ φ' : Phi} (e : Ext φ φ') {E : Env} {fi : FInfo} {d : List ADef} {T : Tr Value} {b : Frame} {a : Act} (h : At φ E fi d T b a) : At φ' E fi d T b a :=
  ⟨h.fn, h.kind, h.round.mono e, h.tmps.mono e, h.nt, h.defers.mono e⟩
def Free (φ : Phi) (H H' : AHeap) : Prop := ∀ A, H.size ≤ A → A < H'.size → φ A = none ∧ φ.atm A = none
theorem Free.left {φ : Phi} {H H1 H' : AHeap} (h : Free φ H H') (hs : H1.size ≤ H'.size) : Free φ H H1 := fun A h1 h2 => h A h1 (by omega)
theorem Free.right {φ φ1 : Phi} {H H1 H' : AHeap} {w w1 : World} (h : Free φ H H') (g : Goes φ H.size w φ1 H1.size w1) : Free φ1 H1 H' := fun A h1 h2 => by
  rw [g.only A (.inr h1), g.atm A (.inr h1)]
  have := g.le
  exact h A (by omega) h2

def Post (φ : Phi) (E : Env) (H : AHeap) (w : World) (b : Frame) (a : Act) (k : List Item) (v : Value) (H' : AHeap) (cs : List Frame) : Prop :=
  ∃ φ' w' v', Goes φ H.size w φ' H'.size w' ∧ SimL φ' E H' w' ∧ VRel φ' v v' ∧ Low H H' ∧ Ends E.prog b a k w v' w' cs
def RunOk (E : Env) (run : Run) : Prop := ∀ fi d todo T H v H', run fi d todo T H = some (v, H') →
  ∀ φ w b a k cs, At φ E fi d T b a → KRel φ todo k → SimL φ E H w → Free φ H H' → Post φ E H w b a k v H' cs
theorem Post.of_steps {φ φ1 : Phi} {E : Env} {H H1 H' : AHeap} {w w1 : World} {b : Frame} {a a1 : Act} {k k1 : List Item} {v : Value}
    {cs : List Frame} (g : Goes φ H.size w φ1 H1.size w1) (l : Low H H1) (h : Steps E.prog (lone (b.atR a k) cs w) (lone (b.atR a1 k1) cs w1)) (p : Post φ1 E H1 w1 b a1 k1 v H' cs) : Post φ E H w b a k v H' cs := by
  obtain ⟨φ', w', v', p1, p2, p3, p4, p5⟩ := p
  exact ⟨φ', w', v', g.trans p1, p2, p3, l.trans p4, p5.of_steps h⟩
theorem Post.one {φ : Phi} {E : Env} {H H' : AHeap} {w : World} {b : Frame} {a a1 : Act} {k k1 : List Item} {v : Value}
    {cs : List Frame} (h : step E.prog (lone (b.atR a k) cs w) = .next (lone (b.atR a1 k1) cs w)) (p : Post φ E H w b a1 k1 v H' cs) : Post φ E H w b a k v H' cs :=
  p.of_steps (Goes.refl _ _ _) (.refl _) (.one h)

/-! ### What is called -/
variable {φ : Phi} {E : Env} {H H' : AHeap} {w : World} {run : Run}
theorem fillK_rel {m : Nat} : ∀ {l l' : List Value} (i : Nat) (T : Tr Value) (ts : Array Value), LRel φ l l' → (∀ (j : Nat) (v : Value), l'[j]? = some v → ts[i + j]? = some v) →
    (∀ t v, T.get t = some v → (VRel φ v (ts.getD t undef) ∧ bit m t = true ∧ ¬ (2 ^ 40 ≤ t + 1)) ∧ t < i) → TRel φ m (Tr.fillK m l i T) ts
  | _, _, i, T, ts, .nil, _, hT => fun t v h => (hT t v h).1
  | _, _, i, T, ts, .cons x x' l l' hx hs, hts, hT => by
    have e : Tr.fillK m (x :: l) i T = Tr.fillK m l (i + 1) (@Bool.rec (fun _ => Tr Value) T (T.set i x) (bit m i)) := rfl
    rw [e]
    refine fillK_rel (i + 1) _ ts hs (fun j v h => by rw [show i + 1 + j = i + (j + 1) by omega]; exact hts (j + 1) v (by simpa using h)) fun t v h => ?_
    rw [brec] at h
    split at h
    · rename_i hb
      by_cases ht : t = i
      · subst ht
        by_cases hh : High t
        · rw [Tr.get_set_big _ _ _ hh] at h
          obtain ⟨h1, h2⟩ := hT t v h
          omega
        · rw [Tr.get_set_low _ _ _ hh] at h
          cases h
          refine ⟨⟨?_, hb, hh⟩, by omega⟩
          have := hts 0 x' rfl
          rw [Nat.add_zero] at this
          rw [Array.getD_eq_getD_getElem?, this]
          exact hx
      · rw [Tr.get_set_ne _ _ _ _ (Ne.symm ht)] at h
        obtain ⟨h1, h2⟩ := hT t v h
        exact ⟨h1, by omega⟩
    · obtain ⟨h1, h2⟩ := hT t v h
      exact ⟨h1, by omega⟩
theorem get_leaf {α : Type} (t : Nat) : (Tr.leaf : Tr α).get t = none := rfl
theorem zip2_rel {m nt : Nat} (ps : List Tmp) : ∀ {as as' : List Value} {T T' : Tr Value} {ts : Array Value}, zip2 m nt ps as T = some T' → LRel φ as as' → TRel φ m T ts → ts.size = nt →
    TRel φ m T' ((ps.zip as').foldl (fun tmps (t, a) => tmps.setIfInBounds t a) ts) ∧ ((ps.zip as').foldl (fun tmps (t, a) => tmps.setIfInBounds t a) ts).size = nt ∧ as'.length = ps.length := by
  induction ps with
  | nil =>
    intro as as' T T' ts h hl hT hs
    cases hl with
    | nil => cases h; exact ⟨hT, hs, rfl⟩
    | cons => cases h
  | cons p ps ih =>
    intro as as' T T' ts h hl hT hs
    cases hl with
    | nil => cases h
    | cons x x' l l' hx hl =>
    unfold zip2 at h
    split at h
    · rename_i hp
      rw [blt_eq] at hp
      have hp := of_decide_eq_true hp
      have hT' : TRel φ m (setK m T p x) (ts.setIfInBounds p x') := by
        intro t v h
        unfold setK at h
        rw [brec] at h
        by_cases ht : t = p
        · subst ht
          have hg : (ts.setIfInBounds t x').getD t undef = x' := by
            rw [Array.getD_eq_getD_getElem?]; simp [hs, hp]
          rw [hg]
          split at h
          · rename_i hb
            by_cases hh : High t
            · rw [Tr.get_set_big _ _ _ hh] at h
              exact absurd hh (hT t v h).2.2
            · rw [Tr.get_set_low _ _ _ hh] at h
              cases h
              exact ⟨hx, hb, hh⟩
          · rename_i hb
            exact absurd (hT t v h).2.1 hb
        · have hg : (ts.setIfInBounds p x').getD t undef = ts.getD t undef := by
            rw [Array.getD_eq_getD_getElem?, Array.getD_eq_getD_getElem?, Array.getElem?_setIfInBounds_ne (Ne.symm ht)]
          rw [hg]
          split at h
          · rw [Tr.get_set_ne _ _ _ _ (Ne.symm ht)] at h; exact hT t v h
          · exact hT t v h
      obtain ⟨h1, h2, h3⟩ := ih h hl hT' (by simpa using hs)
      exact ⟨h1, h2, by simp [h3]⟩
    · cases h

/-- an operation that is under way in frame fr -/
def Goer (P : Program) (fr0 : Frame) (w0 : World) (fr : Frame) (s : Sem Next) (w : World) : Prop :=
  ∀ cs, (stepG P true { frame := fr0, callers := cs, status := .running, dying := none } w0).bare = (stepG.apply P true fr cs none s w).bare
/-- A call of which something is known. -/
theorem SimL.named (h : SimL φ E H w) (vs : Nat → Value) (hf : φ H.size = none) (hf' : φ.atm H.size = none) {w' : World} (hp : (E.post H.size vs).says (fun b => Foreign φ w b ∨ (w.heap.size ≤ b ∧ b < w'.heap.size)) w') (hb : RowKit.Below w.heap.size w w') :
    Goes φ H.size w (φ.addA H.size vs) (H.size + 1) w' ∧ SimL (φ.addA H.size vs) E (H.new .dead) w' := by
  have hext := Phi.addA_ext (vs := vs) hf'
  have hn := h.tot H.size (Nat.le_refl _)
  have hsize := hb.size
  have G : Goes φ H.size w (φ.addA H.size vs) (H.size + 1) w' := by
    refine ⟨hext, fun _ _ => rfl, fun A b n h1 h2 e => ?_, by omega, hsize, fun b h1 _ => hb.block b h1, hb.os, hb.tape, hb.output, fun A hA => ?_⟩
    · have : A = H.size := by omega
      subst this
      have e : φ H.size = some (b, n) := e
      rw [hf] at e; cases e
    · rw [Phi.addA_app, if_neg (by omega)]
  refine ⟨G, ⟨⟨fun A b n e => ?_, fun A b n o e g => ?_, fun A hA => ?_, fun A B b n m hne e1 e2 => ?_, fun A us e => ?_⟩, fun A o g => ?_⟩⟩
  · have := h.dom A b n e; omega
  · have e : φ A = some (b, n) := e
    by_cases hA : A = H.size
    · subst hA; rw [hf] at e; cases e
    · rw [get_new_ne H _ A hA] at g
      obtain ⟨c, h1, h2⟩ := h.has A b n o e g
      exact ⟨c, by rw [hb.block b (h.dom A b n e)]; exact h1, h2.mono hext⟩
  · rw [new_size] at hA
    rw [get_new_ne H _ A (by omega)]
    exact h.tot A (by omega)
  · have e1 : φ A = some (b, n) := e1
    have e2 : φ B = some (b, m) := e2
    have hA : A ≠ H.size := by rintro rfl; rw [hf] at e1; cases e1
    have hB : B ≠ H.size := by rintro rfl; rw [hf] at e2; cases e2
    rw [get_new_ne H _ A hA, get_new_ne H _ B hB]
    exact h.inj A B b n m hne e1 e2
  · rw [Phi.addA_app] at e
    split at e
    · rename_i hA
      cases e
      rw [hA]
      refine (E.post H.size vs).stays _ _ _ _ hp (fun b hbF => ?_) (fun _ _ => rfl) (Nat.le_refl _) rfl rfl rfl
      rcases hbF with hbF | ⟨h1, h2⟩
      · exact G.foreign hbF
      · refine ⟨h2, fun B n e => ?_⟩
        have := h.dom B b n e
        omega
    · exact G.claim (h.post A us e)
  · by_cases hA : A = H.size
    · subst hA; exact (get_new H _ o hn g).2
    · rw [get_new_ne H _ A hA] at g; exact h.lowly A o g
theorem aEnter_cases {f : FuncId} {args : List Value} {v : Value} (h : aEnter f args H E run = some (v, H')) :
    (∃ c ∈ E.cons, c.at_ = H.size ∧ c.fn = f ∧ c.args = args ∧ c.res = v ∧ H.new .dead = H') ∨ aEnter0 f args H E run = some (v, H') := by
  unfold aEnter at h
  rw [orec] at h
  split at h
  · rename_i r hr
    cases h
    obtain ⟨c, h1, h2, h3, h4, h5⟩ := conOf_some hr
    exact .inl ⟨c, h1, h2, h3, h4, h5, rfl⟩
  · exact .inr h
theorem call_ok (ok : EnvOk E) (hr : RunOk E run) (hu : RunUp run) {s : Sem Next} {out : AOut} {v : Value} {fr0 fr : Frame} {w0 : World} (hx : XOk φ E H w s out) (h : aCall out E run = some (v, H')) (hf : Free φ H H')
    (hk : ∀ d x y k, fr.todo ≠ .call d true x y :: k) (hg : Goer E.prog fr0 w0 fr s w) (sim : SimL φ E H w) (cs : List Frame) :
    ∃ φ' w' v', Goes φ H.size w φ' H'.size w' ∧ SimL φ' E H' w' ∧ VRel φ' v v' ∧ Low H H' ∧ Steps E.prog (lone fr0 cs w0) (lone (fr.finish v') cs w') := by
  cases out with
  | val u H1 =>
    cases h
    obtain ⟨φ1, w1, nx, h1, h2, h3, h4, h5⟩ := hx
    rcases h4 with ⟨v', rfl, h4⟩ | ⟨rfl, rfl⟩
    · refine ⟨φ1, w1, v', h2, h3, h4, h5, .one (step_lone_go ?_)⟩
      rw [hg cs]
      simp [stepG.apply, Sem.runT_eq, h1]
    · refine ⟨φ1, w1, undef, h2, h3, .top _, h5, .one (step_lone_go ?_)⟩
      rw [hg cs]
      simp [stepG.apply, Sem.runT_eq, h1]
  | enter f args H1 =>
    obtain ⟨args', h1, h2, rfl⟩ := hx
    have h : aEnter f args H1 E run = some (v, H') := h
    rcases aEnter_cases h with ⟨c, hc, hca, rfl, rfl, rfl, rfl⟩ | h
    · obtain ⟨hf1, hf2⟩ := hf H1.size (Nat.le_refl _) (by rw [new_size]; omega)
      have s1 : step E.prog (lone fr0 cs w0) = .next (lone (Frame.enter E.prog c.fn ⟨args'⟩ .normal) (fr :: cs) w) := step_lone_go (by
        rw [hg cs]
        simp only [stepG.apply, Sem.runT_eq, h1, if_true]
        cases htodo : fr.todo with
        | nil => simp
        | cons i k =>
          cases i <;> try simp)
      obtain ⟨e, w', fr', ⟨vs, v', rfl, q1, q2, q3⟩, q4, q5, q6⟩ := ok.con c hc φ w args' sim.post (by rw [hca]; exact hf2) h2 (fr :: cs)
      rw [hca] at q1 q2
      have hext := Phi.addA_ext (vs := vs) hf2
      obtain ⟨p1, p2⟩ := sim.named vs hf1 hf2 q2 q3
      refine ⟨φ.addA H1.size vs, w', v', by rw [new_size]; exact p1, p2, q1, .new _ _, ?_⟩
      exact Steps.head s1 (Steps.trans q4 (.one (step_leave_returned q6)))
    unfold aEnter0 at h
    rw [orec] at h
    split at h
    · rename_i fn hfn
      rw [orec] at h
      split at h
      · rename_i c hc
        rw [brec] at h
        split at h
        · rename_i hle
          have hle := Nat.le_of_ble_eq_true hle
          rw [lenL_eq] at hle
          have hPf := ok.funcs _ _ hfn
          let b : Frame := { (default : Frame) with fn := f, kind := .normal, roundOf := none }
          let a : Act := { tmps := (⟨args'⟩ : Array Value) ++ Array.replicate (fn.ntmps - (⟨args'⟩ : Array Value).size) undef, defers := [] }
          have hb0 : Frame.enter E.prog f ⟨args'⟩ .normal = b.atR a [.code c] := by
            simp [Frame.enter, Frame.atR, b, a, hPf, hc]
          have hl := h2.length
          have hat : At φ E ⟨f, none, fn.ntmps⟩ [] (Tr.fillK (keepOf E f) args 0 .leaf) b a := by
            refine ⟨rfl, .inl rfl, trivial, ?_, ?_, .nil⟩
            · refine fillK_rel 0 .leaf a.tmps h2 (fun j v hj => ?_) (fun t v hh => by cases hh)
              have hjl := (List.getElem?_eq_some_iff.1 hj).1
              simp only [a, Nat.zero_add]
              rw [Array.getElem?_append, if_pos (by simpa using hjl)]
              simpa using hj
            · simp [a]; omega
          obtain ⟨φ', w', v', p1, p2, p3, p4, p5⟩ := hr _ _ _ _ _ _ _ h φ w b a [.code c] (fr :: cs) hat (.cons _ _ _ _ (.code c) .nil) sim hf
          refine ⟨φ', w', v', p1, p2, p3, p4, ?_⟩
          obtain ⟨fr', q1, q2, q3, q4⟩ := p5
          rw [← hb0] at q1
          have s1 : step E.prog (lone fr0 cs w0) = .next (lone (Frame.enter E.prog f ⟨args'⟩ .normal) (fr :: cs) w) := step_lone_go (by
            rw [hg cs]
            simp only [stepG.apply, Sem.runT_eq, h1, if_true]
            cases htodo : fr.todo with
            | nil => simp
            | cons i k =>
              cases i <;> try simp)
          exact Steps.head s1 (q1.trans (.one (step_leave_returned (Frame.leaving_of_going q2 q4))))
        · cases h
      · cases h
    · cases h
  | round l args H1 =>
    obtain ⟨bl, n, args', h1, h2, h3, rfl⟩ := hx
    have h : aRound l args H1 E run = some (v, H') := h
    unfold aRound at h
    split at h
    · rename_i r hg'
      unfold aRoundIn at h
      split at h
      · rename_i T hz
        obtain ⟨c', hb, r', rfl, hlr⟩ := sim.block l bl n _ h2 hg'
        obtain ⟨z1, z2, z3⟩ := zip2_rel _ hz h3 hlr.tmps hlr.nt
        have hy := run_yield (P := E.prog) (args := ⟨args'⟩) hb (by rw [hlr.params]; simpa using z3)
        have hfold : (r'.params.zip ⟨args'⟩).foldl (fun tmps (t, a) => tmps.setIfInBounds t a) r'.tmps = (r.params.zip args').foldl (fun tmps (t, a) => tmps.setIfInBounds t a) r'.tmps := by
          rw [hlr.params]
          rw [← Array.foldl_toList]
          simp
        rw [hfold] at hy
        let b : Frame := { (default : Frame) with fn := r.fn, kind := .normal, roundOf := some bl }
        let a : Act := { tmps := (r.params.zip args').foldl (fun tmps (t, a) => tmps.setIfInBounds t a) r'.tmps, defers := [] }
        have hb0 : Frame.round bl r'.fn a.tmps r'.assign r'.body .normal = b.atR a [.code r.assign, .beginRound, .code r.body] := by
          simp [Frame.round, Frame.atR, b, a, hlr.fn, hlr.assign, hlr.body]
        have hat : At φ E ⟨r.fn, some l, r.nt⟩ [] T b a := ⟨rfl, .inl rfl, ⟨n, h2⟩, z1, z2, .nil⟩
        obtain ⟨φ', w', v', p1, p2, p3, p4, p5⟩ := hr _ _ _ _ _ _ _ h φ w b a [.code r.assign, .beginRound, .code r.body] (fr :: cs) hat (.cons _ _ _ _ (.code _) (.cons _ _ _ _ .beginRound (.cons _ _ _ _ (.code _) .nil))) sim hf
        refine ⟨φ', w', v', p1, p2, p3, p4, ?_⟩
        have q1 := p5 fr cs rfl
        rw [← hb0] at q1
        have s1 : step E.prog (lone fr0 cs w0) = .next (lone (Frame.round bl r'.fn a.tmps r'.assign r'.body .normal) (fr :: cs) w) := step_lone_go (by
          rw [hg cs]
          simp only [stepG.apply, Sem.runT_eq, h1, hy, if_true, a]
          simp)
        exact Steps.head s1 q1
      · cases h
    · cases h
end Go.Abs
set_option linter.unusedVariables false
set_option linter.unusedSimpArgs false
namespace Go.Abs
variable {φ : Phi} {E : Env} {H H' : AHeap} {w : World} {run : Run}

theorem evalT_cons (t d : Tmp) (v : Value) (L : Loc) (T : Tr Value) : evalT t ⟨.cons d v L, T⟩ = if t = d then v else evalT t ⟨L, T⟩ := by
  show @Bool.rec (fun _ => Value) (evalL t T L) v (Nat.beq t d) = _
  rw [brec, nbeq_eq]
  by_cases h : t = d
  · rw [if_pos h, if_pos (by simpa using h)]
  · rw [if_neg h, if_neg (by simpa using h)]; rfl
theorem evalT_nil (t : Tmp) (T : Tr Value) : evalT t ⟨.nil, T⟩ = match T.get t with | some v => v | none => .tuple #[] := by
  show @Option.rec _ (fun _ => Value) (.tuple #[]) (fun v => v) (T.get t) = _
  cases T.get t <;> rfl
theorem FR.nil {m : Nat} {T : Tr Value} {ts : Array Value} (h : TRel φ m T ts) : FR φ ⟨.nil, T⟩ ts := by
  intro t
  rw [evalT_nil]
  split
  · rename_i v hv; exact (h t v hv).1
  · exact .top _
theorem FR.put {L : Loc} {T : Tr Value} {a : Act} (h : FR φ ⟨L, T⟩ a.tmps) {dst : Option Tmp} {v v' : Value} (hd : dstOk a.tmps.size dst = true) (hv : VRel φ v v') : FR φ ⟨putL dst v L, T⟩ (a.put dst v').tmps := by
  cases dst with
  | none => exact h
  | some d =>
    have hd : Nat.blt d a.tmps.size = true := hd
    rw [blt_eq] at hd
    have hd := of_decide_eq_true hd
    intro t
    show VRel φ (evalT t ⟨.cons d v L, T⟩) _
    rw [evalT_cons]
    simp only [Act.put]
    rw [Array.getD_eq_getD_getElem?]
    split
    · rename_i ht; subst ht; simpa [hd] using hv
    · rename_i ht
      rw [Array.getElem?_setIfInBounds_ne (Ne.symm ht), ← Array.getD_eq_getD_getElem?]
      exact h t
theorem put_size' (a : Act) (dst : Option Tmp) (v : Value) : (a.put dst v).tmps.size = a.tmps.size := by cases dst <;> simp [Act.put]
theorem put_defers (a : Act) (dst : Option Tmp) (v : Value) : (a.put dst v).defers = a.defers := by cases dst <;> rfl
/-- what lives on behind the region -/
theorem flush_get (m : Nat) (T : Tr Value) (hT : ∀ t v, T.get t = some v → bit m t = true ∧ ¬ (2 ^ 40 ≤ t + 1)) : ∀ (L : Loc) (t : Tmp) (v : Value), (flush m T L).get t = some v → bit m t = true ∧ ¬ (2 ^ 40 ≤ t + 1) ∧ v = evalT t ⟨L, T⟩
  | .nil, t, v, h => by
    have h : T.get t = some v := h
    refine ⟨(hT t v h).1, (hT t v h).2, ?_⟩
    rw [evalT_nil, h]
  | .cons d u L, t, v, h => by
    have e : flush m T (.cons d u L) = @Bool.rec (fun _ => Tr Value) (flush m T L) (Tr.set (flush m T L) d u) (bit m d) := rfl
    rw [e, brec] at h
    rw [evalT_cons]
    split at h
    · rename_i hb
      by_cases ht : t = d
      · subst ht
        rw [if_pos rfl]
        by_cases hh : High t
        · rw [Tr.get_set_big _ _ _ hh] at h
          exact absurd hh (flush_get m T hT L t v h).2.1
        · rw [Tr.get_set_low _ _ _ hh] at h
          cases h
          exact ⟨hb, hh, rfl⟩
      · rw [Tr.get_set_ne _ _ _ _ (Ne.symm ht)] at h
        rw [if_neg ht]
        exact flush_get m T hT L t v h
    · rename_i hb
      have h1 := flush_get m T hT L t v h
      by_cases ht : t = d
      · subst ht; exact absurd h1.1 hb
      · rw [if_neg ht]; exact h1
theorem flush_rel {m : Nat} {T : Tr Value} {L : Loc} {ts : Array Value} (hT : ∀ t v, T.get t = some v → bit m t = true ∧ ¬ (2 ^ 40 ≤ t + 1)) (h : FR φ ⟨L, T⟩ ts) : TRel φ m (flush m T L) ts := by
  intro t v hv
  obtain ⟨h1, h2, rfl⟩ := flush_get m T hT L t v hv
  exact ⟨h t, h1, h2⟩

theorem wanted_rel {ops : Array Oper} {o : Oper} {F : Fr} {ts : Array Value} {b : Bool} (h : aWanted ops.toList F o.guard = some b) (hF : FR φ F ts) : Region.wanted o (yielded ops ts) = b := by
  unfold aWanted at h
  unfold Region.wanted
  cases hg : o.guard with
  | none => rw [hg] at h; cases h; rfl
  | some q =>
    obtain ⟨j, want⟩ := q
    rw [hg] at h
    have h : (@Option.rec _ (fun _ => Option Bool) none (fun d => wantB want (evalT d F)) (dstAt ops.toList j)) = some b := h
    rw [orec] at h
    split at h
    · rename_i d hd
      have hd : (ops[j]?).bind (·.dst) = some d := by rw [← Array.getElem?_toList]; exact hd
      have hv := hF d
      simp only [yielded, hd, Option.bind_some]
      rw [Array.getD_eq_getD_getElem?] at hv
      cases hev : evalT d F with
      | bool x =>
        rw [hev] at h hv
        have h : some (sameB x want) = some b := h
        cases h
        have hvb := hv.bool_inv
        cases hts : ts[d]? with
        | none => rw [hts] at hvb; cases hvb
        | some u =>
          rw [hts] at hvb
          have : u = .bool x := hvb
          subst this
          cases x <;> cases want <;> rfl
      | chan c =>
        rw [hev] at h hv
        have hcb : c = some 0 ∧ b = false := by
          cases c with
          | none => cases h; 
          | some n =>
            have h : (@Bool.rec (fun _ => Option Bool) none (some false) (Nat.beq n (nat_lit 0))) = some b := h
            rw [brec, nbeq_eq] at h
            split at h
            · rename_i hn
              cases h
              exact ⟨congrArg some (of_decide_eq_true hn), rfl⟩
            · cases h
        obtain ⟨rfl, rfl⟩ := hcb
        have : ts[d]?.getD undef = .tuple #[] ∨ ∃ z, ts[d]?.getD undef = .string z := by
          generalize ts[d]?.getD undef = u at hv
          cases hv with
          | gr _ hg => cases hg
          | undef => exact .inl rfl
        cases hts : ts[d]? with
        | none => cases want <;> rfl
        | some u =>
          rw [hts] at this
          rcases this with this | ⟨z, this⟩
          · have : u = .tuple #[] := this
            subst this
            cases want <;> rfl
          · have : u = .string z := this
            subst this
            cases want <;> rfl
      | _ => rw [hev] at h; cases h
    · cases h

theorem region_op (ok : EnvOk E) (hr : RunOk E run) (hu : RunUp run) {ops : Array Oper} {i : Nat} {o : Oper} (ho : ops[i]? = some o) {nt : Nat} {T : Tr Value} {L L' : Loc} (h : aOp ops.toList nt o E run T L H = some (L', H'))
    {b : Frame} {a : Act} (hF : FR φ ⟨L, T⟩ a.tmps) (hnt : a.tmps.size = nt) (sim : SimL φ E H w) (hf : Free φ H H') (rest : List Nat) (k : List Item) (cs : List Frame) :
    ∃ φ' w' a', Goes φ H.size w φ' H'.size w' ∧ SimL φ' E H' w' ∧ FR φ' ⟨L', T⟩ a'.tmps ∧ a'.tmps.size = nt ∧ a'.defers = a.defers ∧ Low H H' ∧
      Steps E.prog (lone (b.atR a (.inRegion ops (i :: rest) :: k)) cs w) (lone (b.atR a' (.inRegion ops rest :: k)) cs w') := by
  obtain ⟨hd, ⟨hw, rfl, rfl⟩ | ⟨hw, out, v, h1, h2, rfl⟩⟩ := aOp_some h
  · have hw := wanted_rel hw hF
    refine ⟨φ, w, a.put o.dst undef, Goes.refl _ _ _, sim, hF.put (hnt ▸ hd) .undef, by rw [put_size', hnt], put_defers _ _ _, .refl _, .one ?_⟩
    have := stepR_op_skip (P := E.prog) (b := b) (a := a) (k := k) (cs := cs) (w := w) (ops := ops) (i := i) (rest := rest) (by rw [ho]; simpa using hw)
    rw [ho] at this
    exact this
  · have hw := wanted_rel hw hF
    have hx := x_exec ok hF sim h1 (fun hlt => (hf H.size (Nat.le_refl _) (Nat.lt_of_lt_of_le hlt (up_call hu h2).low.size)).1)
    have hnd : ∀ c, o.op ≠ .defer c := fun c hc => by rw [hc] at h1; cases h1
    have hg : Goer E.prog (b.atR a (.inRegion ops (i :: rest) :: k)) w (b.atR a (.inRegion ops (i :: rest) :: k)) (execOp a.eval o) w := by
      intro cs
      rw [stepGR_op ho hw, Oper.semAt_eq _ _ _ hnd]
    obtain ⟨φ', w', v', p1, p2, p3, p4, p5⟩ := call_ok ok hr hu hx h2 hf (fun d x y k' e => by cases e) hg sim cs
    refine ⟨φ', w', a.put o.dst v', p1, p2, (hF.mono p1.ext).put (hnt ▸ hd) p3, by rw [put_size', hnt], put_defers _ _ _, p4, ?_⟩
    have := p5
    rw [Frame.finish_atR, ho] at this
    exact this
theorem region_pre (ok : EnvOk E) (hr : RunOk E run) (hu : RunUp run) {ops : Array Oper} {nt : Nat} {T : Tr Value} {b : Frame} {k : List Item} (cs : List Frame) (rest : List Nat) : ∀ (l : List Oper) (i : Nat), (∀ (j : Nat) (o : Oper), l[j]? = some o → ops[i + j]? = some o) → ∀ {L L' : Loc} {H H' : AHeap} {φ : Phi} {w : World} {a : Act},
    aOps ops.toList nt E run T l L H = some (L', H') → FR φ ⟨L, T⟩ a.tmps → a.tmps.size = nt → SimL φ E H w → Free φ H H' →
    ∃ φ' w' a', Goes φ H.size w φ' H'.size w' ∧ SimL φ' E H' w' ∧ FR φ' ⟨L', T⟩ a'.tmps ∧ a'.tmps.size = nt ∧ a'.defers = a.defers ∧ Low H H' ∧
      Steps E.prog (lone (b.atR a (.inRegion ops (List.range' i l.length ++ rest) :: k)) cs w) (lone (b.atR a' (.inRegion ops rest :: k)) cs w')
  | [], i, hl, L, L', H, H', φ, w, a, h, hF, hnt, sim, hf => by
    cases h
    exact ⟨φ, w, a, Goes.refl _ _ _, sim, hF, hnt, rfl, .refl _, Steps.refl _ _⟩
  | o :: r, i, hl, L, L', H, H', φ, w, a, h, hF, hnt, sim, hf => by
    obtain ⟨L1, H1, h1, h2⟩ := aOps_cons h
    have ho : ops[i]? = some o := by simpa using hl 0 o (by simp)
    have hl' : ∀ (j : Nat) (o' : Oper), r[j]? = some o' → ops[i + 1 + j]? = some o' := fun j o' hj => by
      rw [show i + 1 + j = i + (j + 1) by omega]
      exact hl (j + 1) o' (by simpa using hj)
    obtain ⟨φ1, w1, a1, p1, p2, p3, p4, p5, p6, p7⟩ := region_op (b := b) ok hr hu ho h1 hF hnt sim (hf.left (up_ops hu h2).low.size) (List.range' (i + 1) r.length ++ rest) k cs
    obtain ⟨φ2, w2, a2, q1, q2, q3, q4, q5, q6, q7⟩ := region_pre ok hr hu cs rest r (i + 1) hl' h2 p3 p4 p2 (hf.right p1)
    exact ⟨φ2, w2, a2, p1.trans q1, q2, q3, q4, q5.trans p5, p6.trans q6, p7.trans q7⟩
theorem region_ops (ok : EnvOk E) (hr : RunOk E run) (hu : RunUp run) {ops : Array Oper} {nt : Nat} {T : Tr Value} {b : Frame} {k : List Item} (cs : List Frame) : ∀ (l : List Oper) (i : Nat), ops.toList.drop i = l → ∀ {L L' : Loc} {H H' : AHeap} {φ : Phi} {w : World} {a : Act},
    aOps ops.toList nt E run T l L H = some (L', H') → FR φ ⟨L, T⟩ a.tmps → a.tmps.size = nt → SimL φ E H w → Free φ H H' →
    ∃ φ' w' a', Goes φ H.size w φ' H'.size w' ∧ SimL φ' E H' w' ∧ FR φ' ⟨L', T⟩ a'.tmps ∧ a'.tmps.size = nt ∧ a'.defers = a.defers ∧ Low H H' ∧
      Steps E.prog (lone (b.atR a (.inRegion ops (List.range' i l.length) :: k)) cs w) (lone (b.atR a' (.inRegion ops [] :: k)) cs w')
  | [], i, hl, L, L', H, H', φ, w, a, h, hF, hnt, sim, hf => by
    cases h
    exact ⟨φ, w, a, Goes.refl _ _ _, sim, hF, hnt, rfl, .refl _, Steps.refl _ _⟩
  | o :: r, i, hl, L, L', H, H', φ, w, a, h, hF, hnt, sim, hf => by
    obtain ⟨L1, H1, h1, h2⟩ := aOps_cons h
    have ho : ops[i]? = some o := by
      rw [← Array.getElem?_toList]
      have := congrArg (·[0]?) hl
      simpa [List.getElem?_drop] using this
    have hl' : ops.toList.drop (i + 1) = r := by
      have := congrArg (List.drop 1) hl
      simpa [List.drop_drop, Nat.add_comm] using this
    obtain ⟨φ1, w1, a1, p1, p2, p3, p4, p5, p6, p7⟩ := region_op (b := b) ok hr hu ho h1 hF hnt sim (hf.left (up_ops hu h2).low.size) (List.range' (i + 1) r.length) k cs
    obtain ⟨φ2, w2, a2, q1, q2, q3, q4, q5, q6, q7⟩ := region_ops ok hr hu cs r (i + 1) hl' h2 p3 p4 p2 (hf.right p1)
    exact ⟨φ2, w2, a2, p1.trans q1, q2, q3, q4, q5.trans p5, p6.trans q6, p7.trans q7⟩
end Go.Abs
