/- A part of the proof of SpliceEqualsUptoSaid (texts: SndDe SndDf SndDg SndDh SndDi SndDj SndDk SndDl SndDm SndDn). No conditions. -/
import Derived.Test.YtmhkceeiiklfdaaGreatG11
set_option linter.unusedVariables false
set_option linter.unusedSimpArgs false
set_option linter.unusedVariables false
set_option linter.unusedSimpArgs false
namespace Go.Abs
variable {E : Env} {run : Run}

/-- two that are not apart come in the order of the text -/
theorem order_of {ops : List Oper} {D : Nat → Prop} (hD : Closed ops D) {i k : Nat} {oi ok : Oper} (hi : ops[i]? = some oi) (hk : ops[k]? = some ok) (hni : ¬ D i) (hw : Waits D oi) (hne : k ≠ i)
    (h1 : k < i → ∀ m, (befores [] ops)[i]? = some m → bit m k = true) (h2 : i < k → ∀ m, (befores [] ops)[k]? = some m → bit m i = true) : D k ↔ k < i := by
  obtain ⟨hl, ht⟩ := befores_ok ops
  have hli : i < ops.length := (List.getElem?_eq_some_iff.1 hi).1
  have hlk : k < ops.length := (List.getElem?_eq_some_iff.1 hk).1
  constructor
  · intro hDk
    rcases Nat.lt_trichotomy k i with h | h | h
    · exact h
    · exact absurd h hne
    · exfalso
      have hm : (befores [] ops)[k]? = some ((befores [] ops)[k]'(by omega)) := List.getElem?_eq_getElem (by omega)
      exact hni (ht k ok _ hk hm i (h2 h _ hm) D hD (fun e he hb => hD k ok hDk hk e he hb))
  · intro h
    have hm : (befores [] ops)[i]? = some ((befores [] ops)[i]'(by omega)) := List.getElem?_eq_getElem (by omega)
    exact ht i oi _ hi hm k (h1 h _ hm) D hD hw
theorem order_ev {ops : List Oper} {es : List Ev} (hev : evCheck (befores [] ops) [] es = true) {D : Nat → Prop} (hD : Closed ops D) {i k : Nat} {oi ok : Oper} {ei ek : Ev} (hi : ops[i]? = some oi) (hk : ops[k]? = some ok)
    (hei : es[i]? = some ei) (hek : es[k]? = some ek) (hni : ¬ D i) (hw : Waits D oi) (hne : k ≠ i) (h1 : evApart ek ei = false) (h2 : evApart ei ek = false) : D k ↔ k < i := by
  refine order_of hD hi hk hni hw hne (fun h m hm => ?_) (fun h m hm => ?_)
  · have := evCheck_all es [] _ hev i ei m hei hm k ek (by simpa using h) (by simpa using hek)
    rw [h1] at this
    simpa using this
  · have := evCheck_all es [] _ hev k ek m hek hm i ei (by simpa using h) (by simpa using hei)
    rw [h2] at this
    simpa using this
theorem order_tmp {ops : List Oper} (htm : tmpCheck ops (befores [] ops) [] ops = true) {D : Nat → Prop} (hD : Closed ops D) {i k : Nat} {oi ok : Oper} (hi : ops[i]? = some oi) (hk : ops[k]? = some ok)
    (hni : ¬ D i) (hw : Waits D oi) (hne : k ≠ i) (h1 : tmpApart ok.dst (namesOf ops ok) oi.dst (namesOf ops oi) = false) (h2 : tmpApart oi.dst (namesOf ops oi) ok.dst (namesOf ops ok) = false) : D k ↔ k < i := by
  refine order_of hD hi hk hni hw hne (fun h m hm => ?_) (fun h m hm => ?_)
  · have := tmpCheck_all ops ops [] _ htm i oi m hi hm k ok (by simpa using h) (by simpa using hk)
    rw [h1] at this
    simpa using this
  · have := tmpCheck_all ops ops [] _ htm k ok m hk hm i oi (by simpa using h) (by simpa using hi)
    rw [h2] at this
    simpa using this
theorem memN_iff (t : Nat) : ∀ l : List Nat, memN t l = true ↔ t ∈ l
  | [] => by simp [memN]
  | x :: r => by
    unfold memN
    split
    · rename_i h
      rw [nbeq_eq] at h
      have := of_decide_eq_true h
      subst this
      simp
    · rename_i h
      rw [nbeq_eq] at h
      have := of_decide_eq_false h
      rw [memN_iff t r]
      simp [this]
/-- a writer of what is named, or of the same temporary, is not apart -/
theorem tmp_clash {d dst : Option Tmp} {ns names : List Tmp} {t : Tmp} (h : (d = some t ∧ (t ∈ names ∨ dst = some t)) ∨ (dst = some t ∧ t ∈ ns)) : tmpApart d ns dst names = false := by
  unfold tmpApart
  rw [Bool.not_eq_false', Bool.or_eq_true, Bool.or_eq_true]
  rcases h with ⟨rfl, h | rfl⟩ | ⟨rfl, h⟩
  · exact .inl (.inl ((memN_iff _ _).2 h))
  · right
    show Nat.beq t t = true
    simp
  · exact .inl (.inr ((memN_iff _ _).2 h))

/-- j is a cut of temporary t -/
def CutT (ops : List Oper) (D : Nat → Prop) (t : Tmp) (j : Nat) : Prop := ∀ (k : Nat) (o : Oper), ops[k]? = some o → o.dst = some t → (D k ↔ k < j)
theorem cut_names {ops : List Oper} (htm : tmpCheck ops (befores [] ops) [] ops = true) {D : Nat → Prop} (hD : Closed ops D) {i : Nat} {oi : Oper} (hi : ops[i]? = some oi) (hni : ¬ D i) (hw : Waits D oi) {t : Tmp} (ht : t ∈ namesOf ops oi ∨ oi.dst = some t) : CutT ops D t i := by
  intro k ok hk hd
  by_cases hne : k = i
  · subst hne
    exact ⟨fun h => absurd h hni, fun h => by omega⟩
  · refine order_tmp htm hD hi hk hni hw hne (tmp_clash (t := t) (.inl ⟨hd, ht⟩)) (tmp_clash (t := t) ?_)
    rcases ht with ht | ht
    · exact .inr ⟨hd, ht⟩
    · exact .inl ⟨ht, .inr hd⟩
section
variable {ops : List Oper} {nt : Nat} {T : Tr Value} {Ls : Nat → Loc} {Hs : Nat → AHeap} {es : List Ev} (tx : Text E run ops nt T Ls Hs es)
 include tx
/-- a temporary that is not written keeps its value -/
theorem Text.kept {i : Nat} {o : Oper} (ho : ops[i]? = some o) {t : Tmp} (hd : o.dst ≠ some t) : evalT t ⟨Ls (i + 1), T⟩ = evalT t ⟨Ls i, T⟩ := by
  obtain ⟨H1, h1, h2, h3⟩ := tx.step i o ho
  have put : ∀ v, evalT t ⟨putL o.dst v (Ls i), T⟩ = evalT t ⟨Ls i, T⟩ := by
    intro v
    cases hod : o.dst with
    | none => rfl
    | some d =>
      show evalT t ⟨.cons d v (Ls i), T⟩ = _
      rw [evalT_cons, if_neg]
      rintro rfl
      exact hd hod
  obtain ⟨_, ⟨_, hL, _⟩ | ⟨_, out, v, _, _, hL⟩⟩ := aOp_some h1 <;> rw [hL] <;> exact put _
theorem Text.keptTo {t : Tmp} {i : Nat} : ∀ (d : Nat), i + d ≤ ops.length → (∀ (k : Nat) (o : Oper), i ≤ k → k < i + d → ops[k]? = some o → o.dst ≠ some t) → evalT t ⟨Ls (i + d), T⟩ = evalT t ⟨Ls i, T⟩
  | 0, _, _ => rfl
  | d + 1, h, hk => by
    have ho : ops[i + d]? = some (ops[i + d]'(by omega)) := by simp
    have e : evalT t ⟨Ls (i + d + 1), T⟩ = evalT t ⟨Ls (i + d), T⟩ := tx.kept ho (hk _ _ (by omega) (by omega) ho)
    rw [show i + (d + 1) = i + d + 1 by omega, e]
    exact Text.keptTo d (by omega) fun k o h1 h2 => hk k o h1 (by omega)
end
end Go.Abs
set_option linter.unusedVariables false
set_option linter.unusedSimpArgs false
namespace Go.Abs
variable {E : Env} {run : Run}

def More (D : Nat → Prop) (i : Nat) : Nat → Prop := fun k => D k ∨ k = i
section
variable {ops : List Oper} {nt : Nat} {T : Tr Value} {Ls : Nat → Loc} {Hs : Nat → AHeap} {es : List Ev} (tx : Text E run ops nt T Ls Hs es)
def TmpsOk (φ : Phi) (ops : List Oper) (T : Tr Value) (Ls : Nat → Loc) (D : Nat → Prop) (ts : Array Value) : Prop := ∀ t j, j ≤ ops.length → CutT ops D t j → VRel φ (evalT t ⟨Ls j, T⟩) (ts.getD t undef)
 include tx
theorem tmps_step (htm : tmpCheck ops (befores [] ops) [] ops = true) {D : Nat → Prop} (hD : Closed ops D) {i : Nat} {oi : Oper} (hi : ops[i]? = some oi) (hni : ¬ D i) (hw : Waits D oi) {φ φ' : Phi} (hext : Ext φ φ') {a : Act} (h : TmpsOk φ ops T Ls D a.tmps)
    {v v' : Value} (hL : Ls (i + 1) = putL oi.dst v (Ls i)) (hd : dstOk a.tmps.size oi.dst = true) (hv : VRel φ' v v') : TmpsOk φ' ops T Ls (More D i) (a.put oi.dst v').tmps := by
  intro t j hj hc
  by_cases hdt : oi.dst = some t
  · have hij : i < j := (hc i oi hi hdt).1 (.inr rfl)
    have hnone : ∀ (k : Nat) (o : Oper), i + 1 ≤ k → k < j → ops[k]? = some o → o.dst ≠ some t := by
      intro k o h1 h2 hk hkd
      have hDk : D k := ((hc k o hk hkd).2 h2).resolve_right (by omega)
      have := (cut_names htm hD hi hni hw (t := t) (.inr hdt)) k o hk hkd
      have := this.1 hDk
      omega
    have e := tx.keptTo (t := t) (i := i + 1) (j - (i + 1)) (by omega) (fun k o h1 h2 => hnone k o h1 (by omega))
    rw [show i + 1 + (j - (i + 1)) = j by omega] at e
    rw [e, hL, hdt]
    show VRel φ' (evalT t ⟨.cons t v (Ls i), T⟩) _
    rw [evalT_cons, if_pos rfl]
    rw [hdt] at hd
    have hd : Nat.blt t a.tmps.size = true := hd
    rw [blt_eq] at hd
    have hd := of_decide_eq_true hd
    simp only [Act.put]
    rw [Array.getD_eq_getD_getElem?]
    simpa [hd] using hv
  · have hc' : CutT ops D t j := by
      intro k o hk hkd
      have hne : k ≠ i := by
        rintro rfl
        rw [hi] at hk
        cases hk
        exact hdt hkd
      have := hc k o hk hkd
      exact ⟨fun h => this.1 (.inl h), fun h => (this.2 h).resolve_right hne⟩
    have e : (a.put oi.dst v').tmps.getD t undef = a.tmps.getD t undef := by
      cases hod : oi.dst with
      | none => rfl
      | some d =>
        simp only [Act.put]
        rw [Array.getD_eq_getD_getElem?, Array.getD_eq_getD_getElem?, Array.getElem?_setIfInBounds_ne]
        rintro rfl
        exact hdt hod
    rw [e]
    exact (h t j hj hc').mono hext
end

/-- the frame that knows the names of one operation alone -/
noncomputable def only (names : List Tmp) (F : Fr) : Fr := ⟨names.foldr (fun t L => .cons t (evalT t F) L) .nil, .leaf⟩
theorem only_in (F : Fr) : ∀ (names : List Tmp) (t : Tmp), t ∈ names → evalT t (only names F) = evalT t F
  | [], t, h => by simp at h
  | n :: r, t, h => by
    show evalT t ⟨.cons n (evalT n F) (r.foldr (fun t L => .cons t (evalT t F) L) .nil), .leaf⟩ = _
    rw [evalT_cons]
    split
    · rename_i e; rw [e]
    · rename_i hne
      exact only_in F r t ((List.mem_cons.1 h).resolve_left hne)
theorem only_out (F : Fr) : ∀ (names : List Tmp) (t : Tmp), ¬ t ∈ names → evalT t (only names F) = .tuple #[]
  | [], t, h => rfl
  | n :: r, t, h => by
    show evalT t ⟨.cons n (evalT n F) (r.foldr (fun t L => .cons t (evalT t F) L) .nil), .leaf⟩ = _
    rw [evalT_cons, if_neg (fun e => h (by simp [e]))]
    exact only_out F r t fun hm => h (by simp [hm])
theorem only_FR {φ : Phi} {F : Fr} {names : List Tmp} {ts : Array Value} (h : ∀ t ∈ names, VRel φ (evalT t F) (ts.getD t undef)) : FR φ (only names F) ts := by
  intro t
  by_cases ht : t ∈ names
  · rw [only_in F names t ht]; exact h t ht
  · rw [only_out F names t ht]; exact .top _
theorem opTmps_mem {t : Tmp} : ∀ {l : List Operand}, .tmp t ∈ l → t ∈ opTmps l
  | x :: r, h => by
    cases x with
    | tmp u =>
      rcases List.mem_cons.1 h with e | h
      · cases e; simp [opTmps]
      · simp [opTmps, opTmps_mem h]
    | const v =>
      rcases List.mem_cons.1 h with e | h
      · cases e
      · exact opTmps_mem (l := r) h
    | global g =>
      rcases List.mem_cons.1 h with e | h
      · cases e
      · exact opTmps_mem (l := r) h
    | func f =>
      rcases List.mem_cons.1 h with e | h
      · cases e
      · exact opTmps_mem (l := r) h
theorem only_operands {ops : List Oper} {o : Oper} {F : Fr} : ∀ x ∈ o.op.operands, ev x F = ev x (only (namesOf ops o) F) := by
  intro x hx
  cases x with
  | tmp t =>
    show evalT t F = evalT t (only (namesOf ops o) F)
    rw [only_in F _ t]
    unfold namesOf
    exact List.mem_append_right _ (opTmps_mem (by simpa using hx))
  | const v => rfl
  | global g => rfl
  | func f => rfl
theorem only_wanted {ops : List Oper} {o : Oper} {F : Fr} : aWanted ops F o.guard = aWanted ops (only (namesOf ops o) F) o.guard := by
  cases hg : o.guard with
  | none => rfl
  | some q =>
    obtain ⟨j, want⟩ := q
    show (@Option.rec _ (fun _ => Option Bool) none (fun d => wantB want (evalT d F)) (dstAt ops j)) = (@Option.rec _ (fun _ => Option Bool) none (fun d => wantB want (evalT d (only (namesOf ops o) F))) (dstAt ops j))
    cases hd : dstAt ops j with
    | none => rfl
    | some d =>
      show wantB want (evalT d F) = wantB want (evalT d (only (namesOf ops o) F))
      rw [only_in F _ d]
      unfold namesOf
      refine List.mem_append_left _ ?_
      rw [hg]
      have hd : (ops[j]?).bind (·.dst) = some d := hd
      simp [guardTmp, hd]
end Go.Abs
set_option linter.unusedVariables false
set_option linter.unusedSimpArgs false
namespace Go.Abs
variable {E : Env} {run : Run}

/-- j is a cut of block A -/
def CutA (Hs : Nat → AHeap) (es : List Ev) (D : Nat → Prop) (A j : Nat) : Prop := ∀ (k : Nat) (e : Ev), es[k]? = some e → Touch e (Hs k).size (Hs (k + 1)).size A → (D k ↔ k < j)
def DeadAt (Hs : Nat → AHeap) (es : List Ev) (D : Nat → Prop) (n A : Nat) : Prop := ∀ j, j ≤ n → CutA Hs es D A j → (Hs j).get A = some .dead
def isM (e : Ev) : Prop := e = .pure ∨ ∃ m, e = .wr m
def Near (Hs : Nat → AHeap) (es : List Ev) (D : Nat → Prop) (n A B : Nat) : Prop := ∃ m, (A < (Hs m).size ∨ (Hs n).size ≤ A) ∧ (B < (Hs m).size ∨ (Hs n).size ≤ B) ∧ (m = 0 ∨ ∃ k e, m = k + 1 ∧ D k ∧ es[k]? = some e ∧ isM e)
structure Mem (E : Env) (ops : List Oper) (Hs : Nat → AHeap) (es : List Ev) (φ0 : Phi) (w0 : World) (D : Nat → Prop) (φ : Phi) (w : World) : Prop where
  creator : ∀ A, (Hs 0).size ≤ A → A < (Hs ops.length).size → (φ A ≠ none ∨ φ.atm A ≠ none) → ∃ k, D k ∧ k < ops.length ∧ (Hs k).size ≤ A ∧ A < (Hs (k + 1)).size
  goes : Goes φ0 (Hs 0).size w0 φ (Hs ops.length).size w
  dom : ∀ A b n, φ A = some (b, n) → b < w.heap.size
  has : ∀ A b n j o, φ A = some (b, n) → j ≤ ops.length → CutA Hs es D A j → (Hs j).get A = some o → ∃ c, w.heap[b]? = some c ∧ ObjRel φ E n o c
  share : ∀ A B b n m, A ≠ B → φ A = some (b, n) → φ B = some (b, m) → (DeadAt Hs es D ops.length A ∨ DeadAt Hs es D ops.length B) ∧ Near Hs es D ops.length A B
  st : ∀ k A, D k → es[k]? = some (.st A) → φ A ≠ none
  post : ∀ A vs, φ.atm A = some vs → (E.post A vs).says (Foreign φ w) w

/-- what an operation looks at -/
def Sees (e : Ev) (A : Nat) : Prop := e = .load A ∨ e = .st A ∨ isM e
section
variable {ops : List Oper} {nt : Nat} {T : Tr Value} {Ls : Nat → Loc} {Hs : Nat → AHeap} {es : List Ev} (tx : Text E run ops nt T Ls Hs es) (hu : RunUp run)
 include tx hu
theorem cut_block (hev : evCheck (befores [] ops) [] es = true) {D : Nat → Prop} (hD : Closed ops D) {φ0 φ : Phi} {w0 w : World} (M : Mem E ops Hs es φ0 w0 D φ w) {i : Nat} {oi : Oper} {ei : Ev} (hi : ops[i]? = some oi) (hei : es[i]? = some ei)
    (hni : ¬ D i) (hw : Waits D oi) {A : Nat} (hs : Sees ei A) (hA : A < (Hs i).size) (hφ : φ A ≠ none) : CutA Hs es D A i := by
  intro k e he ht
  have hli : i < ops.length := (List.getElem?_eq_some_iff.1 hi).1
  have hlk : k < ops.length := by rw [← tx.len]; exact (List.getElem?_eq_some_iff.1 he).1
  obtain ⟨ok, hk⟩ : ∃ ok, ops[k]? = some ok := ⟨_, List.getElem?_eq_getElem hlk⟩
  by_cases hne : k = i
  · subst hne
    exact ⟨fun h => absurd h hni, fun h => by omega⟩
  have made : (Hs k).size ≤ A → A < (Hs (k + 1)).size → (D k ↔ k < i) := by
    intro h1 h2
    have hki : k < i := by
      rcases Nat.lt_or_ge k i with h | h
      · exact h
      · have := tx.mono hu h (by omega); omega
    refine ⟨fun _ => hki, fun _ => ?_⟩
    have h0 := tx.mono hu (Nat.zero_le k) (by omega)
    obtain ⟨k', h3, h4, h5, h6⟩ := M.creator A (by omega) (by have := tx.mono hu (show i ≤ ops.length by omega) (Nat.le_refl _); omega) (.inl hφ)
    have : k' = k := by
      rcases Nat.lt_trichotomy k k' with h | h | h
      · have := tx.mono hu (show k + 1 ≤ k' by omega) (by omega); omega
      · exact h.symm
      · have := tx.mono hu (show k' + 1 ≤ k by omega) (by omega); omega
    rw [← this]; exact h3
  have ord := fun h1 h2 => order_ev hev hD hi hk hei he hni hw hne h1 h2
  cases e with
  | float => exact ht.elim
  | load B => exact ht.elim
  | new => exact made (by have := ht.1; omega) ht.2
  | pure => exact made ht.1 ht.2
  | st B =>
    have ht : A = B := ht.1
    subst ht
    rcases hs with rfl | rfl | rfl | ⟨m, rfl⟩
    · exact ord (by simp [evApart]) (by simp [evApart])
    · exact ord (by simp [evApart]) (by simp [evApart])
    · exact ord rfl rfl
    · exact ord rfl rfl
  | wr m' =>
    by_cases hsz : (Hs k).size ≤ A
    · exact made hsz ht.2
    · have hbit : bit m' A = true := ht.1.resolve_right hsz
      rcases hs with rfl | rfl | rfl | ⟨m, rfl⟩
      · exact ord (by simp [evApart, hbit]) (by simp [evApart, hbit])
      · exact ord rfl rfl
      · exact ord rfl rfl
      · exact ord rfl rfl
theorem cut_far {D : Nat → Prop} {A j : Nat} (hA : (Hs ops.length).size ≤ A) : CutA Hs es D A j := by
  intro k e he ht
  exfalso
  have hlk : k < ops.length := by rw [← tx.len]; exact (List.getElem?_eq_some_iff.1 he).1
  have hm := tx.mono hu (show k + 1 ≤ ops.length by omega) (Nat.le_refl _)
  cases e with
  | float => exact ht
  | load B => exact ht
  | new => have := ht.2; omega
  | pure => have := ht.2; omega
  | st B => have := ht.2; omega
  | wr m => have := ht.2; omega
theorem far_alive (h0 : Wf (Hs 0)) {D : Nat → Prop} {A : Nat} (hA : (Hs ops.length).size ≤ A) : ¬ DeadAt Hs es D ops.length A := fun h => by
  have h1 := h 0 (Nat.zero_le _) (cut_far tx hu hA)
  have hm := tx.mono hu (Nat.zero_le ops.length) (Nat.le_refl _)
  rw [h0.tot A (by omega)] at h1
  cases h1
end
end Go.Abs
set_option linter.unusedVariables false
set_option linter.unusedSimpArgs false
namespace Go.Abs
variable {E : Env} {run : Run}
section
variable {ops : List Oper} {nt : Nat} {T : Tr Value} {Ls : Nat → Loc} {Hs : Nat → AHeap} {es : List Ev} (tx : Text E run ops nt T Ls Hs es) (hu : RunUp run)
 include tx hu
theorem Text.stillTo (h0 : Wf (Hs 0)) {A i : Nat} : ∀ (d : Nat), i + d ≤ ops.length → (∀ (k : Nat) (e : Ev), i ≤ k → k < i + d → es[k]? = some e → ¬ Touch e (Hs k).size (Hs (k + 1)).size A) → (Hs (i + d)).get A = (Hs i).get A
  | 0, _, _ => rfl
  | d + 1, h, hk => by
    have ho : ops[i + d]? = some (ops[i + d]'(by omega)) := by simp
    have he : es[i + d]? = some (es[i + d]'(by rw [tx.len]; omega)) := by simp
    have e : (Hs (i + d + 1)).get A = (Hs (i + d)).get A := tx.still hu h0 ho he (hk _ _ (by omega) (by omega) he)
    rw [show i + (d + 1) = i + d + 1 by omega, e]
    exact Text.stillTo h0 d (by omega) fun k o h1 h2 => hk k o h1 (by omega)
theorem cut_same (h0 : Wf (Hs 0)) {D : Nat → Prop} {A i j : Nat} (hi : CutA Hs es D A i) (hj : CutA Hs es D A j) (hin : i ≤ ops.length) (hjn : j ≤ ops.length) : (Hs i).get A = (Hs j).get A := by
  have main : ∀ i j, CutA Hs es D A i → CutA Hs es D A j → i ≤ j → j ≤ ops.length → (Hs j).get A = (Hs i).get A := by
    intro i j hi hj hij hjn
    have := tx.stillTo hu h0 (A := A) (i := i) (j - i) (by omega) (fun k e h1 h2 he ht => by
      have a1 := hi k e he ht
      have a2 := hj k e he ht
      have := a1.1 (a2.2 (by omega))
      omega)
    rwa [show i + (j - i) = j by omega] at this
  rcases Nat.le_total i j with h | h
  · exact (main i j hi hj h hjn).symm
  · exact main j i hj hi h hin
end
end Go.Abs
set_option linter.unusedVariables false
set_option linter.unusedSimpArgs false
namespace Go.Abs
variable {E : Env} {run : Run}
section
variable {ops : List Oper} {nt : Nat} {T : Tr Value} {Ls : Nat → Loc} {Hs : Nat → AHeap} {es : List Ev} (tx : Text E run ops nt T Ls Hs es) (hu : RunUp run)
 include tx hu
/-- at an operation that sees all, the memory is what the text says -/
theorem sim_at (h0 : Wf (Hs 0)) (hev : evCheck (befores [] ops) [] es = true) {D : Nat → Prop} (hD : Closed ops D) {φ0 φ : Phi} {w0 w : World} (M : Mem E ops Hs es φ0 w0 D φ w) {i : Nat} {oi : Oper} {ei : Ev} (hi : ops[i]? = some oi) (hei : es[i]? = some ei)
    (hni : ¬ D i) (hw : Waits D oi) (hm : isM ei) : SimL φ E (resetLow (Hs i)) w := by
  have hli : i < ops.length := (List.getElem?_eq_some_iff.1 hi).1
  have wi := tx.wf hu h0 (i := i) (by omega)
  have cut : ∀ A, A < (Hs i).size → φ A ≠ none → CutA Hs es D A i := fun A hA hφ => cut_block tx hu hev hD M hi hei hni hw (.inr (.inr hm)) hA hφ
  refine ⟨⟨M.dom, fun A b n o e g => ?_, wi.tot, fun A B b n m hne e1 e2 => ?_, M.post⟩, wi.lowly⟩
  · have hA : A < (Hs i).size := by
      rcases Nat.lt_or_ge A (Hs i).size with h | h
      · exact h
      · have := wi.tot A h
        rw [reset_get] at g
        rw [this] at g; cases g
    exact M.has A b n i o e (by omega) (cut A hA (by rw [e]; simp)) g
  · obtain ⟨hd, m0, hA, hB, hm0⟩ := M.share A B b n m hne e1 e2
    have hle : (Hs m0).size ≤ (Hs i).size := by
      rcases hm0 with rfl | ⟨k, e, rfl, hk, hek, hme⟩
      · exact tx.mono hu (Nat.zero_le i) (by omega)
      · have hlk : k < ops.length := by rw [← tx.len]; exact (List.getElem?_eq_some_iff.1 hek).1
        have hne' : k ≠ i := by rintro rfl; exact hni hk
        have hap : evApart e ei = false ∧ evApart ei e = false := by
          rcases hme with rfl | ⟨m1, rfl⟩ <;> rcases hm with rfl | ⟨m2, rfl⟩ <;> exact ⟨rfl, rfl⟩
        have := (order_ev hev hD hi (List.getElem?_eq_getElem hlk) hei hek hni hw hne' hap.1 hap.2).1 hk
        exact tx.mono hu (by omega) (by omega)
    have cut' : ∀ A, (A < (Hs m0).size ∨ (Hs ops.length).size ≤ A) → φ A ≠ none → CutA Hs es D A i := by
      rintro A (h | h) hφ
      · exact cut A (by omega) hφ
      · exact cut_far tx hu h
    rcases hd with hd | hd
    · exact .inl (hd i (by omega) (cut' A hA (by rw [e1]; simp)))
    · exact .inr (hd i (by omega) (cut' B hB (by rw [e2]; simp)))
end
end Go.Abs
set_option linter.unusedVariables false
set_option linter.unusedSimpArgs false
namespace Go.Abs
variable {E : Env} {run : Run}
section
variable {ops : List Oper} {Hs : Nat → AHeap} {es : List Ev} {D : Nat → Prop} {i : Nat} {ei : Ev}
theorem cut_more (hei : es[i]? = some ei) {A j : Nat} (ht : ¬ Touch ei (Hs i).size (Hs (i + 1)).size A) (hc : CutA Hs es (More D i) A j) : CutA Hs es D A j := by
  intro k e he hk
  have hne : k ≠ i := by
    rintro rfl
    rw [hei] at he
    cases he
    exact ht hk
  have := hc k e he hk
  exact ⟨fun h => this.1 (.inl h), fun h => (this.2 h).resolve_right hne⟩
theorem dead_more (hei : es[i]? = some ei) {A n : Nat} (ht : ¬ Touch ei (Hs i).size (Hs (i + 1)).size A) (h : DeadAt Hs es D n A) : DeadAt Hs es (More D i) n A :=
  fun j hj hc => h j hj (cut_more hei ht hc)
theorem near_more {n A B : Nat} (h : Near Hs es D n A B) : Near Hs es (More D i) n A B := by
  obtain ⟨m, h1, h2, h3⟩ := h
  refine ⟨m, h1, h2, ?_⟩
  rcases h3 with h3 | ⟨k, e, h4, h5, h6, h7⟩
  · exact .inl h3
  · exact .inr ⟨k, e, h4, .inl h5, h6, h7⟩
/-- an operation without a write -/
theorem mem_quiet (hei : es[i]? = some ei) (hq : ei = .float ∨ ∃ A, ei = .load A) {φ0 φ : Phi} {w0 w : World} (M : Mem E ops Hs es φ0 w0 D φ w) : Mem E ops Hs es φ0 w0 (More D i) φ w := by
  have nt : ∀ A, ¬ Touch ei (Hs i).size (Hs (i + 1)).size A := by
    intro A
    rcases hq with rfl | ⟨B, rfl⟩ <;> exact id
  refine ⟨fun A h1 h0 h2 => ?_, M.goes, M.dom, fun A b n j o h1 h2 h3 h4 => M.has A b n j o h1 h2 (cut_more hei (nt A) h3) h4, fun A B b n m hne h1 h2 => ?_, fun k A hk he => ?_, M.post⟩
  · obtain ⟨k, h3, h4⟩ := M.creator A h1 h0 h2
    exact ⟨k, .inl h3, h4⟩
  · obtain ⟨h3, h4⟩ := M.share A B b n m hne h1 h2
    exact ⟨h3.imp (dead_more hei (nt A)) (dead_more hei (nt B)), near_more h4⟩
  · rcases hk with hk | rfl
    · exact M.st k A hk he
    · rw [hei] at he
      cases he
      rcases hq with hq | ⟨B, hq⟩ <;> cases hq
end
end Go.Abs
set_option linter.unusedVariables false
set_option linter.unusedSimpArgs false
namespace Go.Abs
variable {E : Env} {run : Run}
section
variable {ops : List Oper} {nt : Nat} {T : Tr Value} {Ls : Nat → Loc} {Hs : Nat → AHeap} {es : List Ev} (tx : Text E run ops nt T Ls Hs es) (hu : RunUp run)
 include tx hu
/-- a goes of one operation, seen from the start of the region -/
theorem goes_wide {D : Nat → Prop} {φ0 φ φ' : Phi} {w0 w w' : World} {i : Nat} {oi : Oper} (hi : ops[i]? = some oi) (M : Mem E ops Hs es φ0 w0 D φ w) (g : Goes φ (Hs i).size w φ' (Hs (i + 1)).size w') : Goes φ0 (Hs 0).size w0 φ' (Hs ops.length).size w' := by
  have hli : i < ops.length := (List.getElem?_eq_some_iff.1 hi).1
  have a1 := tx.mono hu (Nat.zero_le i) (by omega)
  have a2 := tx.mono hu (show i + 1 ≤ ops.length by omega) (Nat.le_refl _)
  have G := M.goes
  refine ⟨G.ext.trans g.ext, fun A hA => ?_, fun A b n h1 h2 h3 => ?_, G.le, Nat.le_trans G.size g.size, fun b hb hn => ?_, g.os.trans G.os, g.tape.trans G.tape, g.output.trans G.output, fun A hA => by rw [g.atm A (by omega), G.atm A hA]⟩
  · rw [g.only A (by omega), G.only A hA]
  · by_cases hin : (Hs i).size ≤ A ∧ A < (Hs (i + 1)).size
    · rcases g.new A b n hin.1 hin.2 h3 with h4 | ⟨B, m, h4, h5⟩
      · exact .inl (Nat.le_trans G.size h4)
      · by_cases hB : B < (Hs 0).size
        · exact .inr ⟨B, m, hB, by rw [← G.only B (.inl hB)]; exact h5⟩
        · exact G.new B b m (by omega) (by have := g.le; omega) h5
    · have e : φ' A = φ A := g.only A (by omega)
      rw [e] at h3
      exact G.new A b n h1 h2 h3
  · rw [g.kept b (Nat.lt_of_lt_of_le hb G.size) ?_, G.kept b hb hn]
    intro A n hA hφ
    by_cases hA0 : A < (Hs 0).size
    · rw [G.only A (.inl hA0)] at hφ; exact hn A n hA0 hφ
    · rcases G.new A b n (by omega) (by have := g.le; omega) hφ with h4 | ⟨B, m, h4, h5⟩
      · omega
      · exact hn B m h4 h5
end
end Go.Abs
set_option linter.unusedVariables false
set_option linter.unusedSimpArgs false
namespace Go.Abs
variable {E : Env} {run : Run}
section
variable {ops : List Oper} {nt : Nat} {T : Tr Value} {Ls : Nat → Loc} {Hs : Nat → AHeap} {es : List Ev} (tx : Text E run ops nt T Ls Hs es) (hu : RunUp run)
 include tx hu
/-- behind the operation that has touched a block, its cuts say what that operation has left -/
theorem later_cut (h0 : Wf (Hs 0)) (hev : evCheck (befores [] ops) [] es = true) {D : Nat → Prop} (hD : Closed ops D) {φ0 φ : Phi} {w0 w : World} (M : Mem E ops Hs es φ0 w0 D φ w) {i : Nat} {oi : Oper} {ei : Ev} (hi : ops[i]? = some oi) (hei : es[i]? = some ei)
    (hni : ¬ D i) (hw : Waits D oi) {A j : Nat} (ht : Touch ei (Hs i).size (Hs (i + 1)).size A) (hnew : ei = .new → φ A = none) (hj : j ≤ ops.length) (hc : CutA Hs es (More D i) A j) : (Hs j).get A = (Hs (i + 1)).get A := by
  have hli : i < ops.length := (List.getElem?_eq_some_iff.1 hi).1
  have hij : i < j := (hc i ei hei ht).1 (.inr rfl)
  have := tx.stillTo hu h0 (A := A) (i := i + 1) (j - (i + 1)) (by omega) (fun k e h1 h2 he hk => by
    have hDk : D k := ((hc k e he hk).2 (by omega)).resolve_right (by omega)
    have hlk : k < ops.length := by rw [← tx.len]; exact (List.getElem?_eq_some_iff.1 he).1
    have ord := fun h1 h2 => (order_ev hev hD hi (List.getElem?_eq_getElem hlk) hei he hni hw (by omega) h1 h2).1 hDk
    have hmono := tx.mono hu (show i + 1 ≤ k by omega) (by omega)
    have hmono2 := tx.mono hu (show i ≤ i + 1 by omega) (by omega)
    have bad : k < i := by
      cases ei with
      | float => exact ht.elim
      | load B => exact ht.elim
      | new =>
        cases e with
        | float => exact hk.elim
        | load B => exact hk.elim
        | new => have h1 := hk.1; have := ht.2; omega
        | pure => have h1 := hk.1; have := ht.2; omega
        | wr m => exact ord rfl rfl
        | st B =>
          have hk : A = B := hk.1
          subst hk
          exact absurd (hnew rfl) (M.st k A hDk he)
      | pure =>
        cases e with
        | float => exact hk.elim
        | load B => exact hk.elim
        | new => have h1 := hk.1; have := ht.2; omega
        | pure => exact ord rfl rfl
        | wr m => exact ord rfl rfl
        | st B => exact ord rfl rfl
      | st C =>
        cases e with
        | float => exact hk.elim
        | load B => exact hk.elim
        | new => have h1 := hk.1; have := ht.2; omega
        | pure => exact ord rfl rfl
        | wr m => exact ord rfl rfl
        | st B =>
          have h1 : A = C := ht.1
          have h2 : A = B := hk.1
          subst h1; subst h2
          exact ord (by simp [evApart]) (by simp [evApart])
      | wr m0 =>
        cases e with
        | float => exact hk.elim
        | load B => exact hk.elim
        | new => exact ord rfl rfl
        | pure => exact ord rfl rfl
        | wr m => exact ord rfl rfl
        | st B => exact ord rfl rfl
    omega)
  rwa [show i + 1 + (j - (i + 1)) = j by omega] at this
end
end Go.Abs
set_option linter.unusedVariables false
set_option linter.unusedSimpArgs false
namespace Go.Abs
variable {E : Env} {run : Run}
section
variable {ops : List Oper} {nt : Nat} {T : Tr Value} {Ls : Nat → Loc} {Hs : Nat → AHeap} {es : List Ev} (tx : Text E run ops nt T Ls Hs es) (hu : RunUp run)
 include tx hu
/-- a store -/
theorem mem_st (h0 : Wf (Hs 0)) (hev : evCheck (befores [] ops) [] es = true) {D : Nat → Prop} (hD : Closed ops D) {φ0 φ : Phi} {w0 w : World} (M : Mem E ops Hs es φ0 w0 D φ w) {i : Nat} {oi : Oper} {B : Nat} (hi : ops[i]? = some oi) (hei : es[i]? = some (.st B))
    (hni : ¬ D i) (hw : Waits D oi) {b n : Nat} {ob ob' : AObj} {c : Obj} (hφ : φ B = some (b, n)) (hg : (Hs i).get B = some ob) (hd : ob ≠ .dead) (hg' : (Hs (i + 1)).get B = some ob') (hr : ObjRel φ E n ob' c)
    (g : Goes φ (Hs i).size w φ (Hs (i + 1)).size (wset w b c)) : Mem E ops Hs es φ0 w0 (More D i) φ (wset w b c) := by
  have hli : i < ops.length := (List.getElem?_eq_some_iff.1 hi).1
  have wi := tx.wf hu h0 (i := i) (by omega)
  have hBs : B < (Hs i).size := by
    rcases Nat.lt_or_ge B (Hs i).size with h | h
    · exact h
    · rw [wi.tot B h] at hg; cases hg
  have hB' := tx.mono hu (show i ≤ i + 1 by omega) (by omega)
  have hcutB := cut_block tx hu hev hD M hi hei hni hw (A := B) (.inr (.inl rfl)) hBs (by rw [hφ]; simp)
  have hsz : (wset w b c).heap.size = w.heap.size := by simp [wset]
  have hbw := M.dom B b n hφ
  have notdead : ¬ DeadAt Hs es D ops.length B := fun h => by
    have := h i (by omega) hcutB
    rw [hg] at this; cases this; exact hd rfl
  refine ⟨fun A h1 h0 h2 => ?_, goes_wide tx hu hi M g, fun A d k e => by rw [hsz]; exact M.dom A d k e, fun A d k j o h1 h2 h3 h4 => ?_, fun A C d k m hne h1 h2 => ?_, fun k A hk he => ?_, g.post rfl M.post⟩
  · obtain ⟨k, h3, h4⟩ := M.creator A h1 h0 h2
    exact ⟨k, .inl h3, h4⟩
  · by_cases hAB : A = B
    · subst hAB
      rw [hφ] at h1; cases h1
      have := later_cut tx hu h0 hev hD M hi hei hni hw (A := A) ⟨rfl, by omega⟩ (fun e => by cases e) h2 h3
      rw [this, hg'] at h4; cases h4
      exact ⟨c, wset_at w b c hbw, hr⟩
    · have hc := cut_more (D := D) hei (A := A) (fun e => hAB e.1) h3
      obtain ⟨c', h5, h6⟩ := M.has A d k j o h1 h2 hc h4
      by_cases hdb : b = d
      · subst hdb
        have hdead := ((M.share A B b k n hAB h1 hφ).1).resolve_right notdead
        have := hdead j h2 hc
        rw [h4] at this; cases this
        exact ⟨c, wset_at w b c hbw, trivial⟩
      · exact ⟨c', by rw [wset_ne w b d c hdb]; exact h5, h6⟩
  · obtain ⟨h3, h4⟩ := M.share A C d k m hne h1 h2
    refine ⟨?_, near_more h4⟩
    have keep : ∀ A, DeadAt Hs es D ops.length A → DeadAt Hs es (More D i) ops.length A := fun A h => by
      by_cases hAB : A = B
      · subst hAB; exact absurd h notdead
      · exact dead_more hei (fun e => hAB e.1) h
    exact h3.imp (keep A) (keep C)
  · rcases hk with hk | rfl
    · exact M.st k A hk he
    · rw [hei] at he
      cases he
      rw [hφ]; simp
/-- a new block -/
theorem mem_new (h0 : Wf (Hs 0)) (hev : evCheck (befores [] ops) [] es = true) {D : Nat → Prop} (hD : Closed ops D) {φ0 φ : Phi} {w0 w : World} (M : Mem E ops Hs es φ0 w0 D φ w) {i : Nat} {oi : Oper} (hi : ops[i]? = some oi) (hei : es[i]? = some .new)
    (hni : ¬ D i) (hw : Waits D oi) {n : Nat} {ao : AObj} {c : Obj} (hf : φ (Hs i).size = none) (hs : (Hs (i + 1)).size = (Hs i).size + 1) (hg' : ∀ o, (Hs (i + 1)).get (Hs i).size = some o → o = ao)
    (hr : ObjRel (φ.add (Hs i).size w.heap.size n) E n ao c) (g : Goes φ (Hs i).size w (φ.add (Hs i).size w.heap.size n) (Hs (i + 1)).size (wpush w c)) : Mem E ops Hs es φ0 w0 (More D i) (φ.add (Hs i).size w.heap.size n) (wpush w c) := by
  have hli : i < ops.length := (List.getElem?_eq_some_iff.1 hi).1
  have hext := Phi.add_ext (b := w.heap.size) (n := n) hf
  have hsz : (wpush w c).heap.size = w.heap.size + 1 := by show (w.heap.push c).size = _; simp
  have split1 : ∀ A x, φ.add (Hs i).size w.heap.size n A = some x → (A = (Hs i).size ∧ x = (w.heap.size, n)) ∨ (A ≠ (Hs i).size ∧ φ A = some x) := by
    intro A x h
    rw [Phi.add_app] at h
    split at h
    · rename_i e; cases h; exact .inl ⟨e, rfl⟩
    · rename_i e; exact .inr ⟨e, h⟩
  have nt : ∀ A, A ≠ (Hs i).size → ¬ Touch .new (Hs i).size (Hs (i + 1)).size A := fun A h e => h e.1
  refine ⟨fun A h1 h0 h2 => ?_, goes_wide tx hu hi M g, fun A d k e => ?_, fun A d k j o h1 h2 h3 h4 => ?_, fun A C d k m hne h1 h2 => ?_, fun k A hk he => ?_, g.post rfl M.post⟩
  · by_cases hA : A = (Hs i).size
    · exact ⟨i, .inr rfl, hli, by omega, by omega⟩
    · have : φ A ≠ none ∨ φ.atm A ≠ none := h2.imp (fun h2 e => h2 (by rw [Phi.add_app, if_neg hA]; exact e)) id
      obtain ⟨k, h3, h4⟩ := M.creator A h1 h0 this
      exact ⟨k, .inl h3, h4⟩
  · rw [hsz]
    rcases split1 A _ e with ⟨_, e⟩ | ⟨_, e⟩
    · cases e; omega
    · have := M.dom A d k e; omega
  · rcases split1 A _ h1 with ⟨rfl, e⟩ | ⟨hA, e⟩
    · cases e
      have := later_cut tx hu h0 hev hD M hi hei hni hw (A := (Hs i).size) ⟨rfl, by omega⟩ (fun _ => hf) h2 h3
      rw [this] at h4
      rw [hg' o h4]
      exact ⟨c, wpush_new w c, hr⟩
    · obtain ⟨c', h5, h6⟩ := M.has A d k j o e h2 (cut_more hei (nt A hA) h3) h4
      exact ⟨c', by rw [wpush_old w c d (M.dom A d k e)]; exact h5, h6.mono hext⟩
  · rcases split1 A _ h1 with ⟨rfl, e⟩ | ⟨hA, e⟩ <;> rcases split1 C _ h2 with ⟨rfl, e'⟩ | ⟨hC, e'⟩
    · exact absurd rfl hne
    · cases e; have := M.dom C _ m e'; omega
    · cases e'; have := M.dom A _ k e; omega
    · obtain ⟨h3, h4⟩ := M.share A C d k m hne e e'
      exact ⟨h3.imp (dead_more hei (nt A hA)) (dead_more hei (nt C hC)), near_more h4⟩
  · rcases hk with hk | rfl
    · intro e
      cases hφ : φ A with
      | none => exact M.st k A hk he hφ
      | some x => rw [hext A x hφ] at e; cases e
    · rw [hei] at he; cases he
end
end Go.Abs
set_option linter.unusedVariables false
set_option linter.unusedSimpArgs false
namespace Go.Abs
variable {E : Env} {run : Run}
section
variable {ops : List Oper} {nt : Nat} {T : Tr Value} {Ls : Nat → Loc} {Hs : Nat → AHeap} {es : List Ev} (tx : Text E run ops nt T Ls Hs es) (hu : RunUp run)
 include tx hu
/-- an operation that sees all -/
theorem mem_all (h0 : Wf (Hs 0)) (hev : evCheck (befores [] ops) [] es = true) {D : Nat → Prop} (hD : Closed ops D) {φ0 φ φ' : Phi} {w0 w w' : World} (M : Mem E ops Hs es φ0 w0 D φ w) {i : Nat} {oi : Oper} {ei : Ev} (hi : ops[i]? = some oi) (hei : es[i]? = some ei)
    (hni : ¬ D i) (hw : Waits D oi) (hm : isM ei) (g : Goes φ (Hs i).size w φ' (Hs (i + 1)).size w') (sim : SimL φ' E (Hs (i + 1)) w') : Mem E ops Hs es φ0 w0 (More D i) φ' w' := by
  have hli : i < ops.length := (List.getElem?_eq_some_iff.1 hi).1
  have hmono := tx.mono hu (show i ≤ i + 1 by omega) (by omega)
  have cut : ∀ A, A < (Hs i).size → φ A ≠ none → CutA Hs es D A i := fun A hA hφ => cut_block tx hu hev hD M hi hei hni hw (.inr (.inr hm)) hA hφ
  have near : ∀ A B, Near Hs es D ops.length A B → A < (Hs i).size ∨ (Hs ops.length).size ≤ A := by
    rintro A B ⟨m0, hA, hB, hm0⟩
    have hle : (Hs m0).size ≤ (Hs i).size := by
      rcases hm0 with rfl | ⟨k, e, rfl, hk, hek, hme⟩
      · exact tx.mono hu (Nat.zero_le i) (by omega)
      · have hlk : k < ops.length := by rw [← tx.len]; exact (List.getElem?_eq_some_iff.1 hek).1
        have hne' : k ≠ i := by rintro rfl; exact hni hk
        have hap : evApart e ei = false ∧ evApart ei e = false := by
          rcases hme with rfl | ⟨m1, rfl⟩ <;> rcases hm with rfl | ⟨m2, rfl⟩ <;> exact ⟨rfl, rfl⟩
        have := (order_ev hev hD hi (List.getElem?_eq_getElem hlk) hei hek hni hw hne' hap.1 hap.2).1 hk
        exact tx.mono hu (by omega) (by omega)
    omega
  have hnn : ei = .new → ∀ A, φ A = none := by rintro rfl; rcases hm with h | ⟨_, h⟩ <;> cases h
  -- what a cut says of a block below
  have says : ∀ A j, A < (Hs (i + 1)).size → φ' A ≠ none → j ≤ ops.length → CutA Hs es (More D i) A j → (Hs j).get A = (Hs (i + 1)).get A := by
    intro A j hA hφ hj hc
    by_cases ht : Touch ei (Hs i).size (Hs (i + 1)).size A
    · exact later_cut tx hu h0 hev hD M hi hei hni hw ht (fun e => hnn e A) hj hc
    · have hAi : A < (Hs i).size := by
        rcases Nat.lt_or_ge A (Hs i).size with h | h
        · exact h
        · rcases hm with rfl | ⟨m1, rfl⟩
          · exact absurd ⟨h, hA⟩ ht
          · exact absurd ⟨.inr h, hA⟩ ht
      have e : φ' A = φ A := g.only A (.inl hAi)
      rw [e] at hφ
      rw [tx.still hu h0 hi hei ht]
      exact cut_same tx hu h0 (cut_more hei ht hc) (cut A hAi hφ) hj (by omega)
  refine ⟨fun A h1 h0' h2 => ?_, goes_wide tx hu hi M g, sim.dom, fun A b n j o h1 h2 h3 h4 => ?_, fun A B b n m hne h1 h2 => ?_, fun k A hk he => ?_, sim.post⟩
  · by_cases hA : (Hs i).size ≤ A ∧ A < (Hs (i + 1)).size
    · exact ⟨i, .inr rfl, hli, hA⟩
    · have e : φ' A = φ A := g.only A (by omega)
      have e' : φ'.atm A = φ.atm A := g.atm A (by omega)
      rw [e, e'] at h2
      obtain ⟨k, h3, h4⟩ := M.creator A h1 h0' h2
      exact ⟨k, .inl h3, h4⟩
  · by_cases hA : A < (Hs (i + 1)).size
    · rw [says A j hA (by rw [h1]; simp) h2 h3] at h4
      exact sim.has A b n o h1 h4
    · have e : φ' A = φ A := g.only A (.inr (by omega))
      rw [e] at h1
      have ht : ¬ Touch ei (Hs i).size (Hs (i + 1)).size A := by
        rcases hm with rfl | ⟨m1, rfl⟩
        · exact fun h => hA h.2
        · exact fun h => hA h.2
      obtain ⟨c, h5, h6⟩ := M.has A b n j o h1 h2 (cut_more hei ht h3) h4
      refine ⟨c, ?_, h6.mono g.ext⟩
      rw [g.kept b (M.dom A b n h1) ?_]
      · exact h5
      · intro C k hC hφC
        have := near A C (M.share A C b n k (by omega) h1 hφC).2
        have hnf : A < (Hs ops.length).size := by
          rcases Nat.lt_or_ge A (Hs ops.length).size with h | h
          · exact h
          · have hmj := tx.mono hu h2 (Nat.le_refl _)
            rw [(tx.wf hu h0 h2).tot A (by omega)] at h4
            cases h4
        omega
  · have both : ∀ A B n m, A ≠ B → φ' A = some (b, n) → φ' B = some (b, m) → A < (Hs (i + 1)).size ∨ (Hs ops.length).size ≤ A := by
      intro A B n m hne h1 h2
      rcases Nat.lt_or_ge A (Hs (i + 1)).size with h | h
      · exact .inl h
      · have e : φ' A = φ A := g.only A (.inr h)
        rw [e] at h1
        by_cases hB : (Hs i).size ≤ B ∧ B < (Hs (i + 1)).size
        · rcases g.new B b m hB.1 hB.2 h2 with h4 | ⟨C, k, h4, h5⟩
          · have := M.dom A b n h1; omega
          · have := near A C (M.share A C b n k (by omega) h1 h5).2
            omega
        · have e2 : φ' B = φ B := g.only B (by omega)
          rw [e2] at h2
          have := near A B (M.share A B b n m hne h1 h2).2
          omega
    have hA := both A B n m hne h1 h2
    have hB := both B A m n (Ne.symm hne) h2 h1
    refine ⟨?_, i + 1, hA, hB, .inr ⟨i, ei, rfl, .inr rfl, hei, hm⟩⟩
    have inside : ∀ A, (Hs (i + 1)).get A = some .dead → A < (Hs (i + 1)).size := fun A hd => by
      rcases Nat.lt_or_ge A (Hs (i + 1)).size with h | h
      · exact h
      · rw [sim.tot A h] at hd; cases hd
    rcases sim.inj A B b n m hne h1 h2 with hd | hd
    · exact .inl fun j hj hc => by rw [says A j (inside A hd) (by rw [h1]; simp) hj hc]; exact hd
    · exact .inr fun j hj hc => by rw [says B j (inside B hd) (by rw [h2]; simp) hj hc]; exact hd
  · rcases hk with hk | rfl
    · intro e
      cases hφ : φ A with
      | none => exact M.st k A hk he hφ
      | some x => rw [g.ext A x hφ] at e; cases e
    · rw [hei] at he
      cases he
      rcases hm with hm | ⟨_, hm⟩ <;> cases hm
end
end Go.Abs
