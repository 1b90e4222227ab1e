/- A part of the proof of SpliceEqualsUptoSaid (texts: SndQ SndR SndS). No conditions. -/
import Derived.Test.YtmhkceeiiklfdaaGreatG07
import Derived.Laws.BytesArg
set_option linter.unusedVariables false
set_option linter.unusedSimpArgs false
set_option linter.unusedVariables false
set_option linter.unusedSimpArgs false
namespace Go.Abs
variable {φ : Phi} {E : Env} {F : Fr} {a : Act} {H : AHeap} {w : World}

theorem run_aUnsafe (ok : EnvOk E) {src dst : TypeId} {v v' : Value} (h : aUnsafe E H src dst v = true) (hv : VRel φ v v') (sim : SimL φ E H w) : (convert src dst v').run E.prog w = .ok v' w := by
  unfold aUnsafe at h
  split at h
  · rename_i A off
    obtain ⟨b, n, hA, rfl⟩ := hv.ptr_inv
    split at h
    · rename_i t e cs fz ex hs hd hg
      split at h
      · rename_i k hsz
        obtain ⟨c', hb, C, lo, hi, rfl, hCs, hcl, hce, hcr, hfr⟩ := sim.block A b n _ hA hg
        have hlt : off < cs.length := by rw [blt_eq] at h; exact of_decide_eq_true h
        have hnl : ¬ (C.size ≤ off) := by omega
        simp [convert, ok.run_under hs, ok.run_under hd, Conv.unsafePointer, Conv.seenAt, viewAt, cellsIn, World.shape?, hb, ok.run_size hsz, hnl]
      · cases h
    · rename_i u e cs fz hs hd hg
      split at h
      · rename_i k es hsz hes
        obtain ⟨c', hb, C, lo, hi, rfl, hCs, hcl, hce, hcr, hfr⟩ := sim.block A b n _ hA hg
        have hcs : C.size = cs.length := by rw [hce rfl, hCs]
        have hcell : E.prog.cellsOf e = es := by
          obtain ⟨i, hi1, hi2⟩ := size_info ok hes
          unfold Program.cellsOf
          rw [hi1]; exact hi2
        simp [convert, ok.run_under hs, ok.run_under hd, Conv.unsafePointer, Conv.seenAt, viewAt, World.shape?, hb, ok.run_size hsz, variablesAt, hcell, hcs, h]
      · cases h
    · cases h
  · cases h
theorem LRel.ints {ns : List Nat} : ∀ {l' : List Value}, LRel φ (ns.map fun n : Nat => Value.int .u8 ((n : Nat) : Int)) l' → l' = ns.map fun n : Nat => Value.int .u8 ((n : Nat) : Int) := by
  induction ns with
  | nil => intro l' h; cases h; rfl
  | cons n r ih =>
    intro l' h
    cases h with
    | cons _ v' _ l'' hv hs => rw [hv.int_inv, ih hs]; rfl
theorem freeze_at {b o k : Nat} {C : Array Value} {e : TypeId} {lo hi : Nat} (h : w.heap[b]? = some (.cells C e (lo, hi))) : w.freeze ⟨b, o, none⟩ (k + 1) = wset w b (.cells C e (if lo == hi then (o, o + (k + 1)) else (min lo o, max hi (o + (k + 1))))) := by
  unfold World.freeze wset
  rw [if_neg (by omega)]
  congr 1
  apply Array.ext_getElem?
  intro i
  rw [Array.getElem?_modify, Array.getElem?_setIfInBounds]
  by_cases hi' : b = i
  · subst hi'; simp [h]; exact (Array.getElem?_eq_some_iff.1 h).1
  · simp [hi']
theorem bytesWorld_eq (w : World) (e : TypeId) (s : ByteArray) : Lib.bytesWorld w e s = wpush w.drew (.cells (Lib.bytesCells w e s) e ((Lib.bytesCells w e s).size, (Lib.bytesCells w e s).size + 1)) := by
  have hb : (w.drew.alloc (.cells (Lib.bytesCells w e s) e)).heap[w.heap.size]? = some (.cells (Lib.bytesCells w e s) e (0, 0)) := by
    show (w.heap.push (.cells (Lib.bytesCells w e s) e))[w.heap.size]? = _
    simp
  unfold Lib.bytesWorld
  rw [freeze_at (k := 0) hb]
  simp only [beq_self_eq_true, if_true, Nat.zero_add]
  unfold wset wpush
  congr 1
  show (w.heap.push _).setIfInBounds w.heap.size _ = w.heap.push _
  apply Array.ext_getElem?
  intro i
  rw [Array.getElem?_setIfInBounds, Array.getElem?_push, Array.getElem?_push]
  by_cases hi : w.heap.size = i
  · subst hi; simp
  · rw [if_neg hi, if_neg (Ne.symm hi), if_neg (Ne.symm hi)]
theorem x_memConv (ok : EnvOk E) (sim : SimL φ E H w) {src dst : TypeId} {v v' : Value} {out : AOut} (h : MemConv E H src dst v out) (hv : VRel φ v v') (hf : H.size < (outH out).size → φ H.size = none) : XOk φ E H w (do pure (.value (← convert src dst v'))) out := by
  rcases h with ⟨s, e, rfl, hs, hd, he, hle, rfl⟩ | ⟨p, n, c, rfl, h⟩
  · rw [hv.of_ground rfl]
    have hfree : φ H.size = none := hf (by show H.size < (H.new _).size; rw [new_size]; omega)
    have hr := Lib.run_convert_string_bytes w src dst e s (ok.under hs) (ok.under hd) (ok.under he)
    rw [bytesWorld_eq] at hr
    have hsz : (Lib.bytesCells w e s).size = grownCap w s.size 0 e := by
      have : s.size ≤ grownCap w s.size 0 e := Nat.le_add_right _ _
      have hds : s.data.size = s.size := rfl
      simp only [Lib.bytesCells, Array.size_append, Array.size_map, Array.size_replicate, hds]
      omega
    have hge : s.data.toList.length ≤ grownCap w s.size 0 e := by rw [str_length]; exact Nat.le_add_right _ _
    obtain ⟨h5, h6⟩ := (sim.congr (w' := w.drew) (H' := H) rfl rfl rfl).alloc hfree (grownCap w s.size 0 e) (.cells e (byteCells s.data.toList) big false) (.cells (Lib.bytesCells w e s) e ((Lib.bytesCells w e s).size, (Lib.bytesCells w e s).size + 1)) (by
      refine ⟨_, _, _, rfl, hsz, by simpa [byteCells] using hge, (fun e => by cases e), fun i u hi => ?_, (fun i a b => by right; omega), .inr ⟨.inl (by omega), rfl⟩⟩
      have hlt := (List.getElem?_eq_some_iff.1 hi).1
      have hlt : i < s.data.toList.length := by simpa [byteCells] using hlt
      refine ⟨u, ?_, ?_⟩
      · rw [← hi]
        have hlt2 : i < s.data.size := by simpa using hlt
        simp only [Lib.bytesCells, byteCells]
        rw [Array.getElem?_append, if_pos (by simpa using hlt2)]
        simp
      · simp only [byteCells, List.getElem?_map] at hi
        cases hb : s.data.toList[i]? with
        | none => rw [hb] at hi; cases hi
        | some b => rw [hb] at hi; cases hi; exact .gr _ rfl)
    refine ⟨_, _, .value (.slice (some ⟨w.heap.size, 0, none⟩) s.size (grownCap w s.size 0 e)), ?_, by rw [new_size]; exact (Goes.drew φ H.size w).trans h6, h5, .inl ⟨_, rfl, ?_⟩, .new _ _⟩
    · simp only [Sem.run_bind, hr, Result.andThen_ok, Sem.run_pure]
    · have : s.size = s.data.toList.length := (str_length s).symm
      rw [this]
      exact .sliceIn _ _ _ _ 0 _ _ _ (Phi.add_at ..) (by rw [← this]; exact Nat.le_add_right _ _) (by rw [← this]; omega)
  · have bytes : ∀ (b off cap : Nat) (e : TypeId) (l : List Value) (bs : List UInt8) (l' : List Value), E.under src = some (.slice e) → E.under e = some (.int .u8) → E.under dst = some .string → bytesL l = some bs → LRel φ l l' →
        (loadCells ⟨b, off, none⟩ n).run E.prog w = .ok ⟨l'⟩ w → (convert src dst (.slice (some ⟨b, off, none⟩) n cap)).run E.prog w = .ok (.string ⟨⟨bs⟩⟩) w := by
      intro b off cap e l bs l' hs he hd hbs hl hld
      obtain ⟨ns, rfl, rfl⟩ := bytesL_some _ _ hbs
      rw [hl.ints] at hld
      rw [run_convert_bytes_string w src dst e _ n cap (ok.under hs) (ok.under he) (ok.under hd)]
      have hld' : (loadCells ⟨b, off, none⟩ n).run E.prog w = .ok ((ns.map fun n : Nat => ((n : Nat) : Int)).map (Value.int .u8)).toArray w := by
        rw [hld]
        simp
      rw [run_bytesToString w _ n cap _ hld', foldl_push_bytes]
      simp
    simp only [sliceConv] at h
    split at h
    · rename_i e hs hd
      split at h
      · rename_i he
        cases h
        rcases hv.slice_inv with ⟨_, rfl⟩ | ⟨_, _, _, _, e, _⟩ | ⟨_, _, _, _, _, _, e, _⟩ | ⟨_, _, e, _⟩ <;> first | (cases e; done) | skip
        refine XOk.same (v' := .string ⟨⟨[]⟩⟩) ?_ (.gr _ rfl) sim
        simp only [Sem.run_bind, run_convert_bytes_string w src dst e _ n c (ok.under hs) (ok.under he) (ok.under hd)]
        rfl
      · rename_i A off he
        split at h
        · rename_i l hr
          split at h
          · rename_i bs hbs
            cases h
            rcases hv.slice_inv with ⟨e, _⟩ | ⟨A', off', b, k, e, hA, rfl⟩ | ⟨_, _, _, _, _, _, e, _⟩ | ⟨_, _, e, _⟩ <;> cases e
            obtain ⟨l', h1, h2⟩ := run_readCells hr (sim.block _) hA
            refine XOk.same (v' := .string ⟨⟨bs⟩⟩) ?_ (.gr _ rfl) sim
            simp only [Sem.run_bind, bytes _ _ _ _ _ _ _ hs he hd hbs h2 h1, Result.andThen_ok, Sem.run_pure]
          · cases h
        · cases h
      · rename_i A off s1 he
        split at h
        · rename_i l hr
          split at h
          · rename_i bs hbs
            cases h
            rcases hv.slice_inv with ⟨e, _⟩ | ⟨A', off', b, k, e, hA, rfl⟩ | ⟨A', off', b, k, s', cap', e, hA, hle, hk, rfl⟩ | ⟨_, _, e, _⟩ <;> cases e
            obtain ⟨l', h1, h2⟩ := run_readCells hr (sim.block _) hA
            refine XOk.same (v' := .string ⟨⟨bs⟩⟩) ?_ (.gr _ rfl) sim
            simp only [Sem.run_bind, bytes _ _ _ _ _ _ _ hs he hd hbs h2 h1, Result.andThen_ok, Sem.run_pure]
          · cases h
        · cases h
      · cases h
    · rename_i e0 e hs hd
      split at h
      · rename_i A off hbe he
        split at h
        · rename_i t cs ex hg
          cases h
          have hsd : src = dst := Nat.eq_of_beq_eq_true hbe
          subst hsd
          have hee : e0 = e := by rw [hs] at hd; cases hd; rfl
          subst hee
          rcases hv.slice_inv with ⟨e, _⟩ | ⟨A', off', b, k, e, hA, rfl⟩ | ⟨_, _, _, _, _, _, e, _⟩ | ⟨_, _, e, _⟩ <;> cases e
          obtain ⟨c', hb, C, lo, hi, rfl, hsz, hle, hex, hrel, hfr, hlo2⟩ := sim.block A b k _ hA hg
          have hlo : lo = 0 := by
            rcases hlo2 with h | h
            · exact h.1
            · have := h.2; unfold big at this; omega
          have hfz := freeze_at (w := w) (o := C.size) (k := 0) hb
          refine XOk.turned (w' := wset w b (.cells C t (if lo == hi then (C.size, C.size + (0 + 1)) else (min lo C.size, max hi (C.size + (0 + 1)))))) (nx := .value (.slice (some ⟨b, off, none⟩) n c)) (A := A) ?_
            (.inr ⟨b, k, _, _, _, hA, hg, by simp, rfl, rfl, C, (if lo == hi then C.size else min lo C.size), (if lo == hi then C.size + (0 + 1) else max hi (C.size + (0 + 1))), by split <;> rfl, hsz, hle, hex, hrel, ?_, ?_⟩)
            (.inl ⟨_, rfl, .sliceEx _ _ _ _ _ _ hA⟩) sim
          · have hsh : w.shape? b = some (t, C.size) := by simp [World.shape?, hb]
            rw [← hfz]
            simp [convert, ok.run_under hs, ok.run_under he, markStringish, hsh]
          · intro i h1 h2
            by_cases hl : lo == hi
            · rw [if_pos hl] at h1; right; omega
            · have hne : lo ≠ hi := by simpa using hl
              have h0 := hfr 0 (by omega) (by omega)
              right
              omega
          · refine .inr ⟨.inl ?_, rfl⟩
            by_cases hl : lo == hi
            · rw [if_pos hl]; omega
            · have hne : lo ≠ hi := by simpa using hl
              have h0 := hfr 0 (by omega) (by omega)
              rw [if_neg hl]
              omega
        · cases h
      · cases h
    · cases h
theorem x_convert (ok : EnvOk E) (hF : FR φ F a.tmps) (sim : SimL φ E H w) {src dst : TypeId} {x : Operand} {o : Oper} {out : AOut} (h : xConvert src dst x E o F H = some out) (hf : H.size < (outH out).size → φ H.size = none) : XOk φ E H w (do pure (.value (← convert src dst (a.eval x)))) out := by
  have hx := ev_rel hF x
  rcases c_conv ok hF h with hq | ⟨hu, rfl⟩ | hm
  · exact hq.x sim
  · exact XOk.same (by simp only [Sem.run_bind, run_aUnsafe ok hu hx sim, Result.andThen_ok, Sem.run_pure]) hx sim
  · exact x_memConv ok sim hm hx hf
end Go.Abs
set_option linter.unusedVariables false
set_option linter.unusedSimpArgs false
namespace Go.Abs
variable {φ : Phi} {E : Env} {F : Fr} {a : Act} {H : AHeap} {w : World}

theorem conv_float {E : Env} {F : Fr} {src dst : TypeId} {s l : Nat} (h : evOf E F s l (.conv src dst) = .float) : memConv E src dst = false := by
  have h : (match memConv E src dst with | true => evLow false l (noneBelow s l) | false => Ev.float) = .float := h
  split at h
  · unfold evLow at h
    split at h <;> cases h
  · assumption
theorem memConv_true {E : Env} {H : AHeap} {src dst : TypeId} {v : Value} {out : AOut} (h : MemConv E H src dst v out) : memConv E src dst = true := by
  unfold memConv
  rcases h with ⟨s, e, rfl, hs, hd, _⟩ | ⟨p, n, c, rfl, h⟩
  · rw [hs, hd]
  · simp only [sliceConv] at h
    split at h
    · rename_i hs hd; rw [hs, hd]
    · rename_i hs hd; rw [hs, hd]
    · cases h
theorem k_float (ok : EnvOk E) (hF : FR φ F a.tmps) {o : Oper} {out : AOut} (h : aExec o.op E o F H = some out) {s l : Nat} (hk : evOf E F s l (kindOf o.op) = .float) : QOk φ E H (execOp a.eval o) out := by
  have other : ∀ b, evLow b l (noneBelow s l) ≠ .float := by
    intro b
    unfold evLow
    split
    · simp
    · split <;> simp
  obtain ⟨dst, op, type, pos, after, guard⟩ := o
  cases op with
  | move x => exact q_move (o := ⟨dst, .move x, type, pos, after, guard⟩) hF h
  | assign x => exact q_move (o := ⟨dst, .assign x, type, pos, after, guard⟩) hF h
  | pick c x y => exact q_pick (o := ⟨dst, .pick c x y, type, pos, after, guard⟩) hF h
  | build t ps => exact q_build (o := ⟨dst, .build t ps, type, pos, after, guard⟩) ok hF h
  | nilCheck x => exact q_nilCheck (o := ⟨dst, .nilCheck x, type, pos, after, guard⟩) hF rfl h
  | binOp op t x y yt => exact q_binOp (yt := yt) (o := ⟨dst, .binOp op t x y yt, type, pos, after, guard⟩) ok hF h
  | unOp op t x => exact q_unOp (t := t) (o := ⟨dst, .unOp op t x, type, pos, after, guard⟩) ok hF h
  | makeFunc fn x y => exact q_makeFunc (o := ⟨dst, .makeFunc fn x y, type, pos, after, guard⟩) hF h
  | slice t x lo hi mx => exact q_slice (o := ⟨dst, .slice t x lo hi mx, type, pos, after, guard⟩) ok hF h
  | fieldAddr s x f => exact q_fieldAddr (o := ⟨dst, .fieldAddr s x f, type, pos, after, guard⟩) hF ok h
  | field t x f => exact q_field (o := ⟨dst, .field t x f, type, pos, after, guard⟩) hF ok h
  | indexAddr t x i => exact q_indexAddr (o := ⟨dst, .indexAddr t x i, type, pos, after, guard⟩) ok hF h
  | index t x i => exact q_index (o := ⟨dst, .index t x i, type, pos, after, guard⟩) ok hF h
  | extract t ix => exact q_extract (o := ⟨dst, .extract t ix, type, pos, after, guard⟩) hF h
  | convert src dt x =>
    rcases c_conv (o := ⟨dst, .convert src dt x, type, pos, after, guard⟩) ok hF h with h1 | ⟨h1, _⟩ | h1
    · exact h1
    · exfalso
      have hk := conv_float hk
      unfold aUnsafe at h1
      unfold memConv at hk
      split at h1
      · split at h1
        · rename_i e1 e2 _; rw [e1, e2] at hk; cases hk
        · rename_i e1 e2 _; rw [e1, e2] at hk; cases hk
        · cases h1
      · cases h1
    · exact absurd (conv_float hk) (by rw [memConv_true h1]; simp)
  | load t x =>
    exfalso
    have hk : (match addrOf (ev x F) with | some (A, _) => Ev.load A | none => .pure) = .float := hk
    split at hk <;> cases hk
  | call c =>
    cases hc : c.callee with
    | builtin b =>
      have hk' : evOf E F s l (kindC c.argTypes c.callee) = .float := hk
      rw [hc] at hk'
      have h' : (@Callee.rec (fun _ => Option AOut) (fun f => aInvoke (ev f F) E H (evs F c.args.toList)) (fun _ _ => none) (fun b => aBuiltin b E H c.argTypes.toList type (evs F c.args.toList)) c.callee) = some out := h
      rw [hc] at h'
      have h'' : aBuiltin b E H c.argTypes.toList type (evs F c.args.toList) = some out := h'
      cases b with
      | min => exact q_ground hF (.inl rfl) hc rfl h''
      | max => exact q_ground hF (.inr rfl) hc rfl h''
      | cap => exact q_cap ok hF hc rfl h''
      | len =>
        rcases c_len (o := ⟨dst, .call c, type, pos, after, guard⟩) ok hF hc rfl h'' with h1 | ⟨t, kt, el, r, es, clock, rest, h1, h2, _⟩
        · exact h1
        · exfalso
          have hk'' : evLen E c.argTypes.toList = .float := hk'
          rw [h1] at hk''
          unfold evLen at hk''
          simp only [h2] at hk''
          cases hk''
      | _ => exact absurd hk' (other false)
    | value f =>
      have hk' : evOf E F s l (kindC c.argTypes c.callee) = .float := hk
      rw [hc] at hk'
      exact absurd hk' (other false)
    | invoke f m =>
      have hk' : evOf E F s l (kindC c.argTypes c.callee) = .float := hk
      rw [hc] at hk'
      exact absurd hk' (other false)
  | store t x y => exact absurd hk (other true)
  | alloc e => cases hk
  | box e x => cases hk
  | buildSlice t n ps => cases hk
  | makeMap t r => cases hk
  | makeSlice t x y => cases hk
  | _ => exact absurd hk (other false)
/-- what an operation that makes a new block comes to -/
theorem k_new (ok : EnvOk E) (hF : FR φ F a.tmps) {o : Oper} {out : AOut} (h : aExec o.op E o F H = some out) {s l : Nat} (hk : evOf E F s l (kindOf o.op) = .new) : AOk φ E H (execOp a.eval o) out := by
  have other : ∀ b, evLow b l (noneBelow s l) ≠ .new := by
    intro b
    unfold evLow
    split
    · simp
    · split <;> simp
  obtain ⟨dst, op, type, pos, after, guard⟩ := o
  cases op with
  | alloc e => exact a_alloc (F := F) (o := ⟨dst, .alloc e, type, pos, after, guard⟩) ok h
  | box e x => exact a_box (o := ⟨dst, .box e x, type, pos, after, guard⟩) ok hF h
  | buildSlice t n ps => exact a_buildSlice (o := ⟨dst, .buildSlice t n ps, type, pos, after, guard⟩) ok hF h
  | makeMap t r => exact a_makeMap (F := F) (a := a) (o := ⟨dst, .makeMap t r, type, pos, after, guard⟩) h
  | makeSlice t x y => exact a_makeSlice (o := ⟨dst, .makeSlice t x y, type, pos, after, guard⟩) ok hF h
  | load t x =>
    exfalso
    have hk : (match addrOf (ev x F) with | some (A, _) => Ev.load A | none => .pure) = .new := hk
    split at hk <;> cases hk
  | convert src dt x =>
    exfalso
    have hk : (match memConv E src dt with | true => evLow false l (noneBelow s l) | false => Ev.float) = .new := hk
    split at hk
    · exact other false hk
    · cases hk
  | call c =>
    exfalso
    have hk' : evOf E F s l (kindC c.argTypes c.callee) = .new := hk
    cases hc : c.callee with
    | builtin b =>
      rw [hc] at hk'
      cases b with
      | min => cases hk'
      | max => cases hk'
      | cap => cases hk'
      | len =>
        have hk'' : evLen E c.argTypes.toList = .new := hk'
        unfold evLen at hk''
        split at hk''
        · split at hk'' <;> cases hk''
        · cases hk''
      | _ => exact absurd hk' (other false)
    | value f => rw [hc] at hk'; exact absurd hk' (other false)
    | invoke f m => rw [hc] at hk'; exact absurd hk' (other false)
  | store t x y => exact absurd hk (other true)
  | move x => cases hk
  | assign x => cases hk
  | pick c x y => cases hk
  | build t ps => cases hk
  | nilCheck x => cases hk
  | binOp op t x y yt => cases hk
  | unOp op t x => cases hk
  | makeFunc fn x y => cases hk
  | slice t x lo hi mx => cases hk
  | fieldAddr s x f => cases hk
  | field t x f => cases hk
  | indexAddr t x i => cases hk
  | index t x i => cases hk
  | extract t ix => cases hk
  | _ => exact absurd hk (other false)
/-- An operation, whatever it is. -/
theorem x_exec (ok : EnvOk E) (hF : FR φ F a.tmps) (sim : SimL φ E H w) {o : Oper} {out : AOut} (h : aExec o.op E o F H = some out) (hf : H.size < (outH out).size → φ H.size = none) : XOk φ E H w (execOp a.eval o) out := by
  obtain ⟨dst, op, type, pos, after, guard⟩ := o
  cases op with
  | load t x => exact x_load (o := ⟨dst, .load t x, type, pos, after, guard⟩) ok hF sim h
  | store t x y => exact x_store (o := ⟨dst, .store t x y, type, pos, after, guard⟩) ok hF sim h
  | lookup t x k okk => exact x_lookup (o := ⟨dst, .lookup t x k okk, type, pos, after, guard⟩) ok hF sim h
  | mapUpdate t m k x => exact x_mapSet (o := ⟨dst, .mapUpdate t m k x, type, pos, after, guard⟩) ok hF sim h
  | insert t m k x => exact x_mapSet (o := ⟨dst, .mapUpdate t m k x, type, pos, after, guard⟩) ok hF sim h
  | range t x => exact x_range (o := ⟨dst, .range t x, type, pos, after, guard⟩) ok hF sim hf h
  | next it s => exact x_next (ty := type) (o := ⟨dst, .next it s, type, pos, after, guard⟩) ok hF sim h
  | entry it => exact x_entry (o := ⟨dst, .entry it, type, pos, after, guard⟩) ok hF sim h
  | convert src dt x => exact x_convert (o := ⟨dst, .convert src dt x, type, pos, after, guard⟩) ok hF sim h hf
  | call c =>
    have h' : (@Callee.rec (fun _ => Option AOut) (fun f => aInvoke (ev f F) E H (evs F c.args.toList)) (fun _ _ => none) (fun b => aBuiltin b E H c.argTypes.toList type (evs F c.args.toList)) c.callee) = some out := h
    cases hc : c.callee with
    | value f => rw [hc] at h'; exact x_callV (o := ⟨dst, .call c, type, pos, after, guard⟩) ok hF sim hc rfl h' hf
    | invoke f m => rw [hc] at h'; cases h'
    | builtin b =>
      rw [hc] at h'
      have h'' : aBuiltin b E H c.argTypes.toList type (evs F c.args.toList) = some out := h'
      cases b with
      | append => exact x_append (o := ⟨dst, .call c, type, pos, after, guard⟩) ok hF sim hf hc rfl h''
      | len => exact x_len (o := ⟨dst, .call c, type, pos, after, guard⟩) ok hF sim hc rfl h''
      | copy => exact x_copy (o := ⟨dst, .call c, type, pos, after, guard⟩) ok hF sim hc rfl h''
      | clear => exact x_clear (o := ⟨dst, .call c, type, pos, after, guard⟩) ok hF sim hc rfl h''
      | delete => exact x_delete (o := ⟨dst, .call c, type, pos, after, guard⟩) ok hF sim hc rfl h''
      | unsafeSliceData => exact x_sliceData (o := ⟨dst, .call c, type, pos, after, guard⟩) ok hF sim hc rfl h''
      | unsafeString => exact x_string (o := ⟨dst, .call c, type, pos, after, guard⟩) ok hF sim hc rfl h''
      | min => exact (q_ground (o := ⟨dst, .call c, type, pos, after, guard⟩) hF (.inl rfl) hc rfl h'').x sim
      | max => exact (q_ground (o := ⟨dst, .call c, type, pos, after, guard⟩) hF (.inr rfl) hc rfl h'').x sim
      | cap => exact (q_cap (o := ⟨dst, .call c, type, pos, after, guard⟩) ok hF hc rfl h'').x sim
      | _ => cases h''
  | alloc e => exact (k_new (s := 0) (l := 0) (o := ⟨dst, .alloc e, type, pos, after, guard⟩) ok hF h rfl).x sim hf
  | box e x => exact (k_new (s := 0) (l := 0) (o := ⟨dst, .box e x, type, pos, after, guard⟩) ok hF h rfl).x sim hf
  | buildSlice t n ps => exact (k_new (s := 0) (l := 0) (o := ⟨dst, .buildSlice t n ps, type, pos, after, guard⟩) ok hF h rfl).x sim hf
  | makeMap t r => exact (k_new (s := 0) (l := 0) (o := ⟨dst, .makeMap t r, type, pos, after, guard⟩) ok hF h rfl).x sim hf
  | makeSlice t x y => exact (k_new (s := 0) (l := 0) (o := ⟨dst, .makeSlice t x y, type, pos, after, guard⟩) ok hF h rfl).x sim hf
  | move x => exact (k_float (s := 0) (l := 0) (o := ⟨dst, .move x, type, pos, after, guard⟩) ok hF h rfl).x sim
  | assign x => exact (k_float (s := 0) (l := 0) (o := ⟨dst, .assign x, type, pos, after, guard⟩) ok hF h rfl).x sim
  | pick c x y => exact (k_float (s := 0) (l := 0) (o := ⟨dst, .pick c x y, type, pos, after, guard⟩) ok hF h rfl).x sim
  | build t ps => exact (k_float (s := 0) (l := 0) (o := ⟨dst, .build t ps, type, pos, after, guard⟩) ok hF h rfl).x sim
  | nilCheck x => exact (k_float (s := 0) (l := 0) (o := ⟨dst, .nilCheck x, type, pos, after, guard⟩) ok hF h rfl).x sim
  | binOp op t x y yt => exact (k_float (s := 0) (l := 0) (o := ⟨dst, .binOp op t x y yt, type, pos, after, guard⟩) ok hF h rfl).x sim
  | unOp op t x => exact (k_float (s := 0) (l := 0) (o := ⟨dst, .unOp op t x, type, pos, after, guard⟩) ok hF h rfl).x sim
  | makeFunc fn x y => exact (k_float (s := 0) (l := 0) (o := ⟨dst, .makeFunc fn x y, type, pos, after, guard⟩) ok hF h rfl).x sim
  | slice t x lo hi mx => exact (k_float (s := 0) (l := 0) (o := ⟨dst, .slice t x lo hi mx, type, pos, after, guard⟩) ok hF h rfl).x sim
  | fieldAddr s x f => exact (k_float (s := 0) (l := 0) (o := ⟨dst, .fieldAddr s x f, type, pos, after, guard⟩) ok hF h rfl).x sim
  | field t x f => exact (k_float (s := 0) (l := 0) (o := ⟨dst, .field t x f, type, pos, after, guard⟩) ok hF h rfl).x sim
  | indexAddr t x i => exact (k_float (s := 0) (l := 0) (o := ⟨dst, .indexAddr t x i, type, pos, after, guard⟩) ok hF h rfl).x sim
  | index t x i => exact (k_float (s := 0) (l := 0) (o := ⟨dst, .index t x i, type, pos, after, guard⟩) ok hF h rfl).x sim
  | extract t ix => exact (k_float (s := 0) (l := 0) (o := ⟨dst, .extract t ix, type, pos, after, guard⟩) ok hF h rfl).x sim
  | _ => cases h
end Go.Abs
set_option linter.unusedVariables false
set_option linter.unusedSimpArgs false
namespace Go.Abs
variable {E : Env} {F : Fr} {H H' : AHeap} {o : Oper} {out : AOut}

/-- a memory as it is meant to be -/
structure Wf (H : AHeap) : Prop where
  tot : ∀ A, H.size ≤ A → H.get A = none
  lowly : ∀ A o, H.get A = some o → ¬ High A
theorem SimL.wf {φ : Phi} {w : World} (h : SimL φ E H w) : Wf H := ⟨h.tot, h.lowly⟩
/-- from memory to memory -/
structure Upp (H H' : AHeap) : Prop where
  low : Low H H'
  wf : Wf H → Wf H'
theorem Upp.refl (H : AHeap) : Upp H H := ⟨.refl _, id⟩
theorem Upp.trans {H H1 H2 : AHeap} (h : Upp H H1) (k : Upp H1 H2) : Upp H H2 := ⟨h.low.trans k.low, fun x => k.wf (h.wf x)⟩
theorem Upp.new (H : AHeap) (o : AObj) : Upp H (H.new o) := by
  refine ⟨.new _ _, fun x => ⟨fun A hA => ?_, fun A u g => ?_⟩⟩
  · rw [new_size] at hA
    rw [get_new_ne H o A (by omega)]
    exact x.tot A (by omega)
  · by_cases hA : A = H.size
    · subst hA; exact (get_new H o u (x.tot _ (Nat.le_refl _)) g).2
    · rw [get_new_ne H o A hA] at g; exact x.lowly A u g
theorem Upp.put {H : AHeap} {A : Nat} {o : AObj} (o' : AObj) (hg : H.get A = some o) : Upp H (H.put A o') := by
  refine ⟨.put _ _ _, fun x => ⟨fun B hB => ?_, fun B u g => ?_⟩⟩
  · rw [put_size] at hB
    have : A ≠ B := by
      rintro rfl
      rw [x.tot A hB] at hg; cases hg
    rw [get_put_ne H A B _ this]
    exact x.tot B hB
  · by_cases hB : A = B
    · subst hB; exact x.lowly A o hg
    · rw [get_put_ne H A B _ hB] at g; exact x.lowly B u g
def Up (H : AHeap) (out : AOut) : Prop := Upp H (outH out)
theorem up_oval {x : Option Value} (h : oval H x = some out) : Up H out := by
  obtain ⟨v, _, rfl⟩ := oval_some h; exact Upp.refl _
theorem up_ogr {x : Option Value} (h : ogr H x = some out) : Up H out := by
  obtain ⟨v, _, _, rfl⟩ := ogr_some h; exact Upp.refl _
theorem up_val {v : Value} (h : some (AOut.val v H) = some out) : Up H out := by cases h; exact Upp.refl _
theorem up_newAt {ao : AObj} (h : newAt H ao = some out) : Up H out := by
  cases h; exact .new _ _
theorem write_upp {A off : Nat} {vs : List Value} (h : writeCells H A off vs = some H') : Upp H H' := by
  cases vs with
  | nil => cases h; exact .refl _
  | cons v r =>
    have h : (@Option.rec _ (fun _ => Option AHeap) none (fun o => writeObj o H A off (v :: r)) (H.get A)) = some H' := h
    rw [orec] at h
    split at h
    · rename_i o hg
      obtain ⟨e, cs, fz, ex, _, _, _, _, rfl⟩ := writeObj_some h
      exact .put _ hg
    · cases h
theorem up_ounit {x : Option AHeap} (h : ounit x = some out) (hx : ∀ H', x = some H' → Upp H H') : Up H out := by
  obtain ⟨H', h1, rfl⟩ := ounit_some h; exact hx _ h1
theorem up_mem {s d : TypeId} {v : Value} (h : MemConv E H s d v out) : Up H out := by
  rcases h with ⟨t, e, rfl, _, _, _, _, rfl⟩ | ⟨p, n, c, rfl, h⟩
  · exact .new _ _
  · simp only [sliceConv] at h
    split at h
    · split at h
      · exact up_val h
      · split at h
        · split at h
          · exact up_val h
          · cases h
        · cases h
      · split at h
        · split at h
          · exact up_val h
          · cases h
        · cases h
      · cases h
    · split at h
      · split at h
        · rename_i hg
          cases h
          exact Upp.put _ hg
        · cases h
      · cases h
    · cases h
theorem up_native {k : NatK} {args : List Value} (h : aNative H k args = some out) : Up H out := by
  unfold aNative at h
  split at h
  · exact up_val h
  · exact up_val h
  · exact up_val h
  · split at h
    · split at h
      · exact up_val h
      · cases h
    · cases h
  · split at h
    · exact up_ounit h fun H' h => write_upp h
    · cases h
  · split at h
    · split at h
      · split at h
        · rename_i hw; cases h; exact write_upp hw
        · cases h
      · cases h
    · cases h
  · split at h
    · split at h
      · split at h
        · rename_i hw; cases h; exact write_upp hw
        · cases h
      · cases h
    · cases h
  · split at h
    · exact up_val h
    · cases h
  · split at h
    · cases h; exact .new _ _
    · cases h
  · cases h
theorem up_conv {v : Value} {s d : TypeId} (h : aConv v E H s d = some out) : Up H out := by
  have slow : ∀ u, slowConv E H s d u = some out → Up H out := by
    intro u h
    rcases slowConv_cases h with ⟨_, r, _, _, rfl⟩ | ⟨_, rfl⟩ <;> exact Upp.refl _
  cases v with
  | int k n =>
    have h : (@Option.rec _ (fun _ => Option AOut) (slowConv E H s d (.int k n)) (fun k' => some (.val (.int k' (wrapK k' n)) H)) (E.intTo s d)) = some out := h
    rw [orec] at h
    split at h
    · exact up_val h
    · exact slow _ h
  | string t =>
    have h : strConv E H s d t = some out := h
    rcases strConv_cases h with ⟨h1, _⟩ | h1
    · exact slow _ h1
    · exact up_mem h1
  | slice p n c => exact up_mem (.inr ⟨p, n, c, rfl, h⟩)
  | pointer p => exact slow (.pointer p) h
  | bool b => exact slow (.bool b) h
  | _ => cases h
theorem up_append {ats : List TypeId} {s x v : Value} (h : aAppend E H ats s x = some (v, H')) : Upp H H' := by
  have to : ∀ el es n new, aAppendTo H el es n new s = some (v, H') → Upp H H' := by
    intro el es n new h
    unfold aAppendTo at h
    split at h
    · rename_i base len cap
      split at h
      · split at h
        · cases h; exact Upp.refl _
        · split at h
          · rename_i H1 hw
            cases h
            exact write_upp hw
          · cases h
      · unfold growTo at h
        split at h
        · rename_i q old H1 fz ho
          split at h
          · cases h
            refine Upp.trans ?_ (.new _ _)
            unfold oldCells at ho
            split at ho
            · cases ho; exact .refl _
            · split at ho
              · cases ho; exact .refl _
              · split at ho
                · cases ho; exact .refl _
                · cases ho
            · split at ho
              · split at ho
                · split at ho
                  · cases ho; exact .put _ (by assumption)
                  · cases ho
                · cases ho
              · cases ho
            · cases ho
          · cases h
        · cases h
    · cases h
  unfold aAppend at h
  split at h
  · cases h
  · split at h
    · cases h
    · split at h
      · cases h
      · split at h
        · cases h
        · split at h
          · split at h
            · exact to _ _ _ _ h
            · cases h
          · cases h
        · split at h
          · split at h
            · exact to _ _ _ _ h
            · cases h
          · cases h
theorem up_builtin {b : Builtin} {ats : List TypeId} {ty : TypeId} {args : List Value} (h : aBuiltin b E H ats ty args = some out) : Up H out := by
  cases b with
  | append =>
    have h : bAppend E H ats ty args = some out := h
    unfold bAppend at h
    split at h
    · split at h
      · rename_i v H1 ha; cases h; exact up_append ha
      · cases h
    · cases h
  | len =>
    have h : bLen E H ats ty args = some out := h
    unfold bLen at h
    split at h <;> first | (cases h; done) | (split at h <;> first | (cases h; done) | exact up_val h)
  | cap =>
    have h : bCap E H ats ty args = some out := h
    unfold bCap at h
    split at h <;> first | (cases h; done) | (split at h <;> first | (cases h; done) | exact up_val h)
  | copy =>
    have h : bCopy E H ats ty args = some out := h
    unfold bCopy at h
    split at h
    · split at h
      · split at h
        · split at h
          · unfold bCopyTo at h
            split at h
            · exact up_val h
            · split at h
              · rename_i H1 hw
                cases h
                exact write_upp hw
              · cases h
          · cases h
        · cases h
      · cases h
    · cases h
  | clear =>
    have h : bClear E H ats ty args = some out := h
    unfold bClear at h
    split at h
    · split at h
      · split at h
        · exact up_val h
        · exact up_val h
        · split at h
          · exact up_ounit h (fun H1 hw => by exact write_upp hw)
          · cases h
        · cases h
      · cases h
    · cases h
  | unsafeSliceData =>
    have h : bSliceData E H ats ty args = some out := h
    unfold bSliceData at h
    split at h <;> first | (cases h; done) | exact up_val h
  | unsafeString =>
    have h : bString E H ats ty args = some out := h
    unfold bString at h
    split at h
    · split at h
      · exact up_val h
      · unfold bStringAt at h
        split at h
        · exact up_val h
        · split at h
          · split at h
            · split at h
              · cases h; exact Upp.put _ (by assumption)
              · cases h
            · cases h
          · cases h
      · cases h
    · cases h
  | delete =>
    have h : bDelete E H ats ty args = some out := h
    unfold bDelete at h
    split at h
    · split at h
      · split at h
        · split at h
          · split at h
            · cases h; exact Upp.put _ (by assumption)
            · exact up_val h
            · cases h
          · cases h
        · cases h
      · cases h
    · cases h
  | min =>
    have h : bGround .min E H ats ty args = some out := h
    unfold bGround at h
    split at h
    · split at h
      · exact up_ogr h
      · cases h
    · cases h
  | max =>
    have h : bGround .max E H ats ty args = some out := h
    unfold bGround at h
    split at h
    · split at h
      · exact up_ogr h
      · cases h
    · cases h
  | _ => cases h
theorem up_invoke {f : Value} {args : List Value} (h : aInvoke f E H args = some out) : Up H out := by
  cases f with
  | func fn first cap =>
    cases fn with
    | func g =>
      have h : aInvFunc E H g (first.toList ++ (args ++ cap.toList)) = some out := h
      unfold aInvFunc at h
      rw [orec] at h
      split at h
      · rw [orec] at h
        split at h
        · cases h; exact Upp.refl _
        · split at h
          · exact up_native h
          · cases h
      · cases h
    | yield l =>
      have h : some (AOut.round l (first.toList ++ args) H) = some out := h
      cases h; exact Upp.refl _
    | _ => cases h
  | _ => cases h
theorem up_exec (h : aExec o.op E o F H = some out) : Up H out := by
  obtain ⟨dst, op, type, pos, after, guard⟩ := o
  cases op with
  | move x => cases h; exact Upp.refl _
  | assign x => cases h; exact Upp.refl _
  | pick c x y => exact up_oval h
  | build t ps => exact up_oval h
  | nilCheck x => exact up_oval h
  | binOp op t x y yt => exact up_oval h
  | unOp op t x =>
    have h : xUnOp op t x E ⟨dst, .unOp op t x, type, pos, after, guard⟩ F H = some out := h
    unfold xUnOp at h
    split at h <;> exact up_oval h
  | makeFunc fn x y =>
    have h : xMakeFunc fn x y E ⟨dst, .makeFunc fn x y, type, pos, after, guard⟩ F H = some out := h
    unfold xMakeFunc at h
    split at h
    · exact up_val h
    · cases h
  | slice t x lo hi mx => exact up_oval h
  | fieldAddr s x f =>
    have h : fieldAt E H s f (ev x F) = some out := h
    unfold fieldAt at h
    rw [orec] at h
    split at h
    · rename_i q _
      obtain ⟨A, off⟩ := q
      simp only [orec] at h
      split at h
      · exact up_val h
      · cases h
    · cases h
  | field t x f => exact up_oval h
  | indexAddr t x i =>
    have h : (@Option.rec _ (fun _ => Option AOut) none (fun k => idxAddr E H t k (ev x F)) (intIdx (ev i F))) = some out := h
    rw [orec] at h
    split at h
    · unfold idxAddr at h
      split at h
      · split at h
        · exact up_val h
        · cases h
      · split at h
        · split at h
          · exact up_val h
          · cases h
        · cases h
      · cases h
    · cases h
  | index t x i =>
    have h : (@Option.rec _ (fun _ => Option AOut) none (fun k => oval H (idxIn E t k (ev x F))) (intIdx (ev i F))) = some out := h
    rw [orec] at h
    split at h
    · exact up_oval h
    · cases h
  | extract t ix => exact up_oval h
  | entry it => exact up_oval h
  | convert src dt x => exact up_conv h
  | load t x => exact up_oval h
  | store t x y =>
    refine up_ounit h (fun H1 hw => ?_)
    unfold aStore at hw
    rw [orec] at hw
    split at hw
    · rename_i q _
      obtain ⟨A, off⟩ := q
      simp only [orec] at hw
      split at hw
      · split at hw
        · simp only [brec] at hw
          split at hw
          · exact write_upp hw
          · cases hw
        · cases hw
      · cases hw
    · cases hw
  | alloc e =>
    have h : (@Option.rec _ (fun _ => Option AOut) none (fun z => newAt H (.cells e z (nat_lit 0) true)) (E.zeroL e)) = some out := h
    rw [orec] at h
    split at h
    · exact up_newAt h
    · cases h
  | box e x =>
    have h : (@Option.rec _ (fun _ => Option AOut) none (fun z => newAt H (.cells e z (nat_lit 0) true)) (cellsV (ev x F))) = some out := h
    rw [orec] at h
    split at h
    · exact up_newAt h
    · cases h
  | buildSlice t n ps =>
    have h : aBuildSlice E H t n (evParts F ps.toList) = some out := h
    unfold aBuildSlice at h
    split at h
    · split at h
      · split at h
        · cases h; exact .new _ _
        · cases h
      · cases h
    · cases h
  | makeMap t r =>
    have h : xMakeMap t r E ⟨dst, .makeMap t r, type, pos, after, guard⟩ F H = some out := h
    unfold xMakeMap at h
    split at h
    · cases h; exact .new _ _
    · cases h
  | makeSlice t x y =>
    have h : aMakeSlice E H t (ev x F) (ev y F) = some out := h
    unfold aMakeSlice at h
    split at h
    · split at h
      · cases h; exact .new _ _
      · cases h
    · cases h
  | lookup t x k okk => exact up_oval h
  | mapUpdate t m k x => 
    refine up_ounit h (fun H1 hw => ?_)
    unfold aMapSet at hw
    repeat' (split at hw)
    all_goals first | (cases hw; done) | (cases hw; exact Upp.put _ (by assumption))
  | insert t m k x => 
    refine up_ounit h (fun H1 hw => ?_)
    unfold aMapSet at hw
    repeat' (split at hw)
    all_goals first | (cases hw; done) | (cases hw; exact Upp.put _ (by assumption))
  | range t x =>
    have h : aRange E t H (ev x F) = some out := h
    unfold aRange at h
    repeat' (split at h)
    all_goals first | (cases h; done) | exact up_newAt h
  | next it s =>
    have h : aNext H s (ev it F) = some out := h
    unfold aNext at h
    split at h
    · split at h
      · unfold nextStr at h
        split at h
        · exact up_val h
        · cases h; exact Upp.put _ (by assumption)
      · exact up_val h
      · unfold nextMap at h
        repeat' (split at h)
        all_goals first | (cases h; done) | exact up_val h | (cases h; exact Upp.put _ (by assumption))
      · cases h
    · cases h
  | call c =>
    have h' : (@Callee.rec (fun _ => Option AOut) (fun f => aInvoke (ev f F) E H (evs F c.args.toList)) (fun _ _ => none) (fun b => aBuiltin b E H c.argTypes.toList type (evs F c.args.toList)) c.callee) = some out := h
    cases hc : c.callee with
    | value f => rw [hc] at h'; exact up_invoke h'
    | invoke f m => rw [hc] at h'; cases h'
    | builtin b => rw [hc] at h'; exact up_builtin h'
  | _ => cases h

/-- How the memory goes. -/
def RunUp (run : Run) : Prop := ∀ fi d todo T H v H', run fi d todo T H = some (v, H') → Upp H H'
end Go.Abs
