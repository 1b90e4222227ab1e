/- A part of the proof of SpliceEqualsUptoSaid (texts: Abs). No conditions. -/
import GoSem.Step
set_option linter.unusedVariables false
set_option linter.unusedSimpArgs false
set_option linter.unusedVariables false
namespace Go.Abs

/-! ### 1. Tries -/
inductive Tr (α : Type) where
  | leaf
  | node (v : Option α) (l r : Tr α)

noncomputable def Tr.at {α : Type} : Tr α → Nat → Option α :=
  Tr.rec (motive := fun _ => Nat → Option α) (fun _ => none)
    (fun v _ _ il ir p => (Bool.rec (motive := fun _ => Option α) ((Bool.rec (motive := fun _ => Option α) (ir (Nat.div p (nat_lit 2))) (il (Nat.div p (nat_lit 2)))) (Nat.beq (Nat.mod p (nat_lit 2)) (nat_lit 0))) (v)) (Nat.beq p (nat_lit 1)))
noncomputable def Tr.get {α : Type} (t : Tr α) (k : Nat) : Option α := Tr.at t (Nat.succ k)

noncomputable def Tr.nodeL {α : Type} (v : Option α) (r l : Tr α) : Tr α :=
  Tr.rec (motive := fun _ => Tr α) (.node v .leaf r) (fun v' l' r' _ _ => .node v (.node v' l' r') r) l
noncomputable def Tr.nodeR {α : Type} (v : Option α) (l r : Tr α) : Tr α :=
  Tr.rec (motive := fun _ => Tr α) (.node v l .leaf) (fun v' l' r' _ _ => .node v l (.node v' l' r')) r
noncomputable def Tr.put {α : Type} (x : α) : Nat → Tr α → Nat → Tr α :=
  (Nat.rec (motive := fun _ => Tr α → Nat → Tr α) (fun t _ => t) (fun _ ih t p => Tr.rec (motive := fun _ => Tr α)
      ((Bool.rec (motive := fun _ => Tr α) ((Bool.rec (motive := fun _ => Tr α) (Tr.nodeR none .leaf (ih .leaf (Nat.div p (nat_lit 2)))) (Tr.nodeL none .leaf (ih .leaf (Nat.div p (nat_lit 2))))) (Nat.beq (Nat.mod p (nat_lit 2)) (nat_lit 0))) (.node (some x) .leaf .leaf)) (Nat.beq p (nat_lit 1)))
      (fun v l r _ _ => (Bool.rec (motive := fun _ => Tr α) ((Bool.rec (motive := fun _ => Tr α) (Tr.nodeR v l (ih r (Nat.div p (nat_lit 2)))) (Tr.nodeL v r (ih l (Nat.div p (nat_lit 2))))) (Nat.beq (Nat.mod p (nat_lit 2)) (nat_lit 0))) (.node (some x) l r)) (Nat.beq p (nat_lit 1))) t))
noncomputable def Tr.set {α : Type} (t : Tr α) (k : Nat) (x : α) : Tr α := Tr.put x (nat_lit 40) t (Nat.succ k)

noncomputable def Tr.fill {α : Type} : List α → Nat → Tr α → Tr α :=
  (List.rec (motive := fun _ => Nat → Tr α → Tr α) (fun _ t => t) (fun x _ ih i t => ih (Nat.succ i) (t.set i x)))
noncomputable def Tr.ofList {α : Type} (l : List α) : Tr α := Tr.fill l (nat_lit 0) .leaf
noncomputable def bit (m i : Nat) : Bool := Nat.beq (Nat.mod (Nat.shiftRight m i) (nat_lit 2)) (nat_lit 1)
/-- those alone whose bit is set -/
noncomputable def Tr.fillK {α : Type} (m : Nat) : List α → Nat → Tr α → Tr α :=
  (List.rec (motive := fun _ => Nat → Tr α → Tr α) (fun _ t => t) (fun x _ ih i t => ih (Nat.succ i) ((Bool.rec (motive := fun _ => Tr α) (t) (t.set i x)) (bit m i))))

/-! ### 2. The abstract memory -/
structure ALoop where
  state : LoopState
  pending : Option Code
  fn : FuncId
  tmps : Tr Value
  params : List Tmp
  assign : Code
  body : Code
  defers : Nat
  nt : Nat

/-- a row that was made of a string's bytes bears this bound -/
def big : Nat := 1073741824
inductive AObj where
  /-- cells below 'fz' may be frozen; 'ex': the block has no more cells than these -/
  | cells (elem : TypeId) (cs : List Value) (fz : Nat) (ex : Bool)
  | dead
  | map (es : List MapEntry) (clock : Nat)
  | loop (r : ALoop)
  | deferred
  | siter (s : ByteArray) (pos : Nat)
  | miter (m : Option Nat) (since : Nat) (seen : List Nat) (stepped : Nat)

structure AHeap where
  objs : Tr AObj
  size : Nat
  /-- the blocks that have been written since this was reset (bits) -/
  low : Nat

/-- a deferred call, or the mark of a loop over a function -/
inductive ADef where
  | mark (n : Nat)
  | call (g : FuncId) (args : List Value)

inductive AItem where
  | code (c : Code)
  | inBlock (id : Nat)
  | inLoop (body : Code)
  | inScope (body : Code)
  | endRangeFunc (l : Nat)
  | beginRound

/-- what the operations of the region under way have yielded, the last one first -/
inductive Loc where
  | nil
  | cons (t : Tmp) (v : Value) (r : Loc)
structure Fr where
  l : Loc
  t : Tr Value

structure FInfo where
  fn : FuncId
  roundOf : Option Nat
  /-- how many temporaries the frame has -/
  nt : Nat

/-- functions without a body -/
inductive NatK where
  | ident | noop | mark | load32 | store32 | add32 | cas32 | indexByte | makeNoZero (e : TypeId)

/-- a call of which something is known: at a memory of this size, the function, the arguments, what it returns -/
structure Con where
  at_ : Nat
  fn : FuncId
  args : List Value
  res : Value
/-- a property of the memory that leans on the blocks F alone -/
structure Claim where
  says : (Nat → Prop) → World → Prop
  stays : ∀ (F F' : Nat → Prop) (w w' : World), says F w → (∀ b, F b → F' b) → (∀ b, F b → w'.heap[b]? = w.heap[b]?) → w.heap.size ≤ w'.heap.size → w'.os = w.os → w'.tape = w.tape → w'.output = w.output → says F' w'

structure Env where
  prog : Program
  funcs : Tr Func
  types : Tr TypeInfo
  /-- functions without a body, and what they do -/
  nats : List (FuncId × NatK)
  /-- of each function, which temporaries live on behind their region (bits); what is dropped reads as 'unknown' -/
  keep : Tr Nat
  cons : List Con
  /-- what is known of the values that came to be at a memory of this size -/
  post : Nat → (Nat → Value) → Claim

/-- the number evaluated -/
noncomputable def forceN {β : Type} (n : Nat) (k : Nat → β) : β := (Nat.rec (motive := fun _ => β) (k (nat_lit 0)) (fun m _ => k (Nat.succ m))) n

noncomputable def AHeap.new (H : AHeap) (o : AObj) : AHeap := forceN H.size fun n => { objs := H.objs.set n o, size := Nat.succ n, low := H.low }
noncomputable def AHeap.put (H : AHeap) (A : Nat) (o : AObj) : AHeap := { objs := H.objs.set A o, size := H.size, low := Nat.lor H.low (Nat.shiftLeft (nat_lit 1) A) }
noncomputable def AHeap.get (H : AHeap) (A : Nat) : Option AObj := H.objs.get A

/-! ### 3. Types: closed terms, reckoned once -/
noncomputable def descOf (E : Env) : TypeDesc → Option TypeDesc
  | .named _ u => match E.types.get u with
    | some j => some j.desc
    | none => none
  | d => some d
noncomputable def Env.under (E : Env) (t : TypeId) : Option TypeDesc :=
  match E.types.get t with
  | some i => descOf E i.desc
  | none => none
noncomputable def Env.size (E : Env) (t : TypeId) : Option Nat := match E.types.get t with | some i => some i.size | none => none
noncomputable def Env.bytes (E : Env) (t : TypeId) : Option Nat := match E.types.get t with | some i => some i.bytes | none => none
def cellsL (v : Value) : List Value := v.cells.toList
noncomputable def Env.zero (E : Env) (t : TypeId) : Option Value := match E.types.get t with | some i => i.zero | none => none
/-- the zero value's cells -/

def isAggD : TypeDesc → Bool
  | .struct _ => true
  | .array _ _ => true
  | _ => false
/-- whether the type is read as an aggregate, and its size -/
noncomputable def Env.row (E : Env) (t : TypeId) : Option (Bool × Nat) := match E.under t with
  | some d => match E.size t with
    | some n => some (isAggD d, n)
    | none => none
  | none => none
def structD : TypeDesc → Option (Array Field)
  | .struct fs => some fs
  | _ => none
def sliceD : TypeDesc → Option TypeId
  | .slice e => some e
  | _ => none
/-- a field's type and place -/
noncomputable def Env.field (E : Env) (t : TypeId) (f : Nat) : Option (TypeId × Nat) := match (E.under t).bind structD with
  | some fs => match fs.toList[f]? with
    | some fd => some (fd.type, fd.offset)
    | none => none
  | none => none
/-- the place of a field that has cells -/
noncomputable def Env.place (E : Env) (t : TypeId) (f : Nat) : Option Nat := match E.field t f with
  | some (ft, off) => match E.size ft with
    | some (_ + 1) => some off
    | _ => none
  | none => none
/-- the element's type and size of a slice type -/
noncomputable def Env.elem (E : Env) (t : TypeId) : Option (TypeId × Nat) := match (E.under t).bind sliceD with
  | some e => match E.size e with
    | some n => some (e, n)
    | none => none
  | none => none

/-! ### 4. Values -/
noncomputable def ground : Value → Bool :=
  (Value.rec (motive_1 := fun _ => Bool) (motive_2 := fun _ => PUnit) (motive_3 := fun _ => PUnit) (fun _ => true) (fun _ _ => true) (fun _ _ => true) (fun _ _ _ => true) (fun _ => true) ((Option.rec (motive := fun _ => Bool) (true) (fun _ => false))) (fun _ _ _ => (false)) ((Option.rec (motive := fun _ => Bool) (true) (fun _ => false))) (fun _ => (false)) (fun _ _ _ _ _ => (false)) (true) (fun _ _ _ => (false)) (true) (fun _ _ => (false)) (fun _ _ => (false)) (fun _ _ => ⟨⟩) ⟨⟩ (fun _ _ _ _ => ⟨⟩))
noncomputable def allGround : List Value → Bool := (List.rec (motive := fun _ => Bool) (true) (fun v _ ih => (Bool.rec (motive := fun _ => Bool) (false) (ih)) (ground v)))

/-- '.tuple #[]' says: unknown -/
noncomputable def evalK (t : Tmp) (T : Tr Value) : Value := (Option.rec (motive := fun _ => Value) (.tuple #[]) (fun v => v)) (T.get t)
noncomputable def evalL (t : Tmp) (T : Tr Value) (l : Loc) : Value :=
  Loc.rec (motive := fun _ => Value) (evalK t T) (fun t' v _ ih => (Bool.rec (motive := fun _ => Value) (ih) (v)) (Nat.beq t t')) l
noncomputable def evalT (t : Tmp) (F : Fr) : Value := evalL t F.t F.l
/-- A constant without an address (aggregates one deep). -/
noncomputable def closedC : Value → Bool := (Value.rec (motive_1 := fun _ => Bool) (motive_2 := fun _ => PUnit) (motive_3 := fun _ => PUnit) (fun _ => true) (fun _ _ => true) (fun _ _ => true) (fun _ _ _ => true) (fun _ => true) ((Option.rec (motive := fun _ => Bool) (true) (fun _ => false))) (fun a _ _ => (Option.rec (motive := fun _ => Bool) (true) (fun _ => false)) a) ((Option.rec (motive := fun _ => Bool) (true) (fun _ => false))) (fun _ => (false)) (fun _ _ _ _ _ => (false)) (true) (fun _ _ _ => (false)) (true) (fun _ _ => (false)) (fun _ _ => (false)) (fun _ _ => ⟨⟩) ⟨⟩ (fun _ _ _ _ => ⟨⟩))
noncomputable def allClosed : List Value → Bool := (List.rec (motive := fun _ => Bool) (true) (fun v _ ih => (Bool.rec (motive := fun _ => Bool) (false) (ih)) (closedC v)))
noncomputable def closedV : Value → Bool := (Value.rec (motive_1 := fun _ => Bool) (motive_2 := fun _ => PUnit) (motive_3 := fun _ => PUnit) (fun _ => true) (fun _ _ => true) (fun _ _ => true) (fun _ _ _ => true) (fun _ => true) ((Option.rec (motive := fun _ => Bool) (true) (fun _ => false))) (fun a _ _ => (Option.rec (motive := fun _ => Bool) (true) (fun _ => false)) a) ((Option.rec (motive := fun _ => Bool) (true) (fun _ => false))) (fun _ => (false)) (fun _ _ _ _ _ => (false)) (true) (fun _ _ _ => (false)) (true) (fun cs _ => allClosed cs.toList) (fun _ _ => (false)) (fun _ _ => ⟨⟩) ⟨⟩ (fun _ _ _ _ => ⟨⟩))
noncomputable def evalC (v : Value) (_ : Fr) : Value := (Bool.rec (motive := fun _ => Value) (.tuple #[]) (v)) (closedV v)
def evalF (f : FuncId) (_ : Fr) : Value := .func (.func f) #[] #[]
def evalG (g : Nat) (_ : Fr) : Value := .tuple #[]
noncomputable def ev : Operand → Fr → Value := (Operand.rec (motive := fun _ => Fr → Value) (evalT) (evalC) (evalG) (evalF))
noncomputable def evs (F : Fr) : List Operand → List Value := (List.rec (motive := fun _ => List Value) ([]) (fun x _ ih => ev x F :: ih))
noncomputable def evOpt (F : Fr) : Option Operand → Option Value := (Option.rec (motive := fun _ => Option Value) (none) (fun x => some (ev x F)))

/-- a type's zero value, and its cells -/
noncomputable def Env.zeroV (E : Env) (t : TypeId) : Option Value := match E.zero t with
  | some z => match closedV z with
    | true => some z
    | false => none
  | none => none
noncomputable def Env.zeroL (E : Env) (t : TypeId) : Option (List Value) := match E.zeroV t with | some z => some (cellsL z) | none => none

/-- the zero value's cells, as many as the type has -/
noncomputable def Env.zeroE (E : Env) (t : TypeId) : Option (List Value) := match E.zeroL t, E.size t with
  | some z, some n => match Nat.beq z.length n with
    | true => some z
    | false => none
  | _, _ => none

/-- The pure part of the model's own semantics. -/
def pureRun {α : Type} (p : Program) : Sem α → Option α
  | .pure a => some a
  | .program k => pureRun p (k p)
  | .mark _ k => pureRun p k
  | _ => none

/-- the cells of a value that is known -/
noncomputable def cellsV : Value → Option (List Value) :=
  (Value.rec (motive_1 := fun _ => Option (List Value)) (motive_2 := fun _ => PUnit) (motive_3 := fun _ => PUnit) (fun b => some [.bool b]) (fun k n => some [.int k n]) (fun k n => some [.float k n]) (fun k n m => some [.complex k n m]) (fun s => some [.string s]) (fun a => some [.pointer a]) (fun a n c => some [.slice a n c]) (fun r => some [.map r]) ((Option.rec (motive := fun _ => Option (List Value)) (none) (fun n => (Bool.rec (motive := fun _ => Option (List Value)) (some [.chan (some n)]) (none)) (Nat.beq n (nat_lit 0))))) (fun f a b _ _ => some [.func f a b]) (some [.nilFunc]) (fun t v _ => some [.iface t v]) (some [.nilIface]) (fun cs _ => some cs.toList) (fun _ _ => (none)) (fun _ _ => ⟨⟩) ⟨⟩ (fun _ _ _ _ => ⟨⟩))

/-! ### 5. Cells -/
noncomputable def takeN : Nat → List Value → Option (List Value) :=
  (Nat.rec (motive := fun _ => List Value → Option (List Value)) (fun _ => some []) (fun _ ih l => (List.rec (motive := fun _ => Option (List Value)) (none) (fun v r _ => (Option.rec (motive := fun _ => Option (List Value)) (none) (fun x => some (v :: x))) (ih r))) l))
noncomputable def dropN : Nat → List Value → List Value :=
  (Nat.rec (motive := fun _ => List Value → List Value) (fun l => l) (fun _ ih l => (List.rec (motive := fun _ => List Value) ([]) (fun _ r _ => ih r)) l))
noncomputable def headV : List Value → Option Value := (List.rec (motive := fun _ => Option Value) (none) (fun v _ _ => some v))
noncomputable def cellsO : AObj → Option (List Value) := (AObj.rec (motive := fun _ => Option (List Value)) (fun _ cs _ _ => some cs) (none) (fun _ _ => (none)) (fun _ => (none)) (none) (fun _ _ => (none)) (fun _ _ _ _ => (none)))
noncomputable def readCells (H : AHeap) (A off n : Nat) : Option (List Value) :=
  (Option.rec (motive := fun _ => Option (List Value)) (none) (fun o => (Option.rec (motive := fun _ => Option (List Value)) (none) (fun cs => takeN n (dropN off cs))) (cellsO o))) (H.get A)
noncomputable def readCell (H : AHeap) (A off : Nat) : Option Value :=
  (Option.rec (motive := fun _ => Option Value) (none) (fun o => (Option.rec (motive := fun _ => Option Value) (none) (fun cs => headV (dropN off cs))) (cellsO o))) (H.get A)

noncomputable def overwrite : List Value → List Value → Option (List Value) :=
  (List.rec (motive := fun _ => List Value → Option (List Value)) (fun cs => some cs) (fun v _ ih cs => (List.rec (motive := fun _ => Option (List Value)) (none) (fun _ r _ => (Option.rec (motive := fun _ => Option (List Value)) (none) (fun l => some (v :: l))) (ih r))) cs))
noncomputable def writeAt (vs : List Value) : Nat → List Value → Option (List Value) :=
  (Nat.rec (motive := fun _ => List Value → Option (List Value)) (fun cs => overwrite vs cs) (fun _ ih cs => (List.rec (motive := fun _ => Option (List Value)) (none) (fun c r _ => (Option.rec (motive := fun _ => Option (List Value)) (none) (fun l => some (c :: l))) (ih r))) cs))
noncomputable def plainCell : Value → Bool := (Value.rec (motive_1 := fun _ => Bool) (motive_2 := fun _ => PUnit) (motive_3 := fun _ => PUnit) (fun _ => (true)) (fun _ _ => (true)) (fun _ _ => (true)) (fun _ _ _ => (true)) (fun _ => (true)) (fun _ => (true)) (fun _ _ _ => (true)) (fun _ => (true)) ((Option.rec (motive := fun _ => Bool) (false) (fun n => Nat.blt (nat_lit 0) n))) (fun _ _ _ _ _ => (true)) (true) (fun _ _ _ => (true)) (true) (fun _ _ => false) (fun _ _ => false) (fun _ _ => ⟨⟩) ⟨⟩ (fun _ _ _ _ => ⟨⟩))
noncomputable def allPlain : List Value → Bool := (List.rec (motive := fun _ => Bool) (true) (fun v _ ih => (Bool.rec (motive := fun _ => Bool) (false) (ih)) (plainCell v)))
noncomputable def writeObj : AObj → AHeap → Nat → Nat → List Value → Option AHeap :=
  (AObj.rec (motive := fun _ => AHeap → Nat → Nat → List Value → Option AHeap) (fun e cs fz ex H A off vs =>
    (Bool.rec (motive := fun _ => Option AHeap) (none) ((Bool.rec (motive := fun _ => Option AHeap) (none) ((Option.rec (motive := fun _ => Option AHeap) (none) (fun cs => some (H.put A (.cells e cs fz ex)))) (writeAt vs off cs))) (allPlain vs))) (Nat.ble fz off)) (fun _ _ _ _ => none) (fun _ _ => (fun _ _ _ _ => none)) (fun _ => (fun _ _ _ _ => none)) (fun _ _ _ _ => none) (fun _ _ => (fun _ _ _ _ => none)) (fun _ _ _ _ => (fun _ _ _ _ => none)))
noncomputable def writeCells (H : AHeap) (A off : Nat) (vs : List Value) : Option AHeap :=
  (List.rec (motive := fun _ => Option AHeap) (some H) (fun v r _ => (Option.rec (motive := fun _ => Option AHeap) (none) (fun o => writeObj o H A off (v :: r))) (H.get A))) vs

noncomputable def zeros (z : List Value) : Nat → List Value := (Nat.rec (motive := fun _ => List Value) ([]) (fun _ ih => z ++ ih))
noncomputable def lenL : List Value → Nat := (List.rec (motive := fun _ => Nat) (nat_lit 0) (fun _ _ ih => Nat.succ ih))

/-- parts laid over cells; 'place' tells where a part lies and how many cells it has -/
noncomputable def fillL (place : Nat → Option (Nat × Nat)) : List (Nat × Value) → List Value → Option (List Value) :=
  (List.rec (motive := fun _ => List Value → Option (List Value)) (fun cs => some cs) (fun p _ ih cs => (Prod.rec (motive := fun _ => Option (List Value)) (fun i v =>
    (Option.rec (motive := fun _ => Option (List Value)) (none) (fun q => (Prod.rec (motive := fun _ => Option (List Value)) (fun off size => (Option.rec (motive := fun _ => Option (List Value)) (none) (fun vs =>
      (Bool.rec (motive := fun _ => Option (List Value)) (none) ((Option.rec (motive := fun _ => Option (List Value)) (none) (ih)) (writeAt vs off cs))) (Nat.beq (lenL vs) size))) (cellsV v))) q)) (place i))) p))

/-! ### 6. What an operation comes to -/
inductive AOut where
  | val (v : Value) (H : AHeap)
  | enter (f : FuncId) (args : List Value) (H : AHeap)
  | round (l : Nat) (args : List Value) (H : AHeap)

noncomputable def oval (H : AHeap) : Option Value → Option AOut := (Option.rec (motive := fun _ => Option AOut) (none) (fun v => some (.val v H)))
noncomputable def ounit : Option AHeap → Option AOut := (Option.rec (motive := fun _ => Option AOut) (none) (fun H => some (.val (.tuple #[]) H)))
/-- a value without an address -/
noncomputable def ogr (H : AHeap) : Option Value → Option AOut := (Option.rec (motive := fun _ => Option AOut) (none) (fun v => (Bool.rec (motive := fun _ => Option AOut) (none) (some (.val v H))) (ground v)))

noncomputable def addrA : Addr → Option (Nat × Nat) := (Addr.rec (motive := fun _ => Option (Nat × Nat)) (fun A off sp => (Option.rec (motive := fun _ => Option (Nat × Nat)) (some (A, off)) (fun _ => none)) sp))
noncomputable def addrOf : Value → Option (Nat × Nat) := (Value.rec (motive_1 := fun _ => Option (Nat × Nat)) (motive_2 := fun _ => PUnit) (motive_3 := fun _ => PUnit) (fun _ => (none)) (fun _ _ => (none)) (fun _ _ => (none)) (fun _ _ _ => (none)) (fun _ => (none)) ((Option.rec (motive := fun _ => Option (Nat × Nat)) (none) (addrA))) (fun _ _ _ => (none)) (fun _ => (none)) (fun _ => (none)) (fun _ _ _ _ _ => (none)) (none) (fun _ _ _ => (none)) (none) (fun _ _ => (none)) (fun _ _ => (none)) (fun _ _ => ⟨⟩) ⟨⟩ (fun _ _ _ _ => ⟨⟩))

noncomputable def aggOf : Option (List Value) → Option Value := (Option.rec (motive := fun _ => Option Value) (none) (fun l => some (.agg ⟨l⟩)))
noncomputable def loadRow (H : AHeap) (A off : Nat) : Option (Bool × Nat) → Option Value :=
  (Option.rec (motive := fun _ => Option Value) (none) (fun q => (Prod.rec (motive := fun _ => Option Value) (fun b n => (Bool.rec (motive := fun _ => Option Value) (readCell H A off) (aggOf (readCells H A off n))) b)) q))
noncomputable def aLoad (E : Env) (H : AHeap) (t : TypeId) (p : Value) : Option Value :=
  (Option.rec (motive := fun _ => Option Value) (none) (fun q => (Prod.rec (motive := fun _ => Option Value) (fun A off => loadRow H A off (E.row t))) q)) (addrOf p)
noncomputable def aStore (E : Env) (H : AHeap) (t : TypeId) (v p : Value) : Option AHeap :=
  (Option.rec (motive := fun _ => Option AHeap) (none) (fun q => (Prod.rec (motive := fun _ => Option AHeap) (fun A off => (Option.rec (motive := fun _ => Option AHeap) (none) (fun vs => (Option.rec (motive := fun _ => Option AHeap) (none) (fun n =>
    (Bool.rec (motive := fun _ => Option AHeap) (none) (writeCells H A off vs)) (Nat.beq (lenL vs) n))) (E.size t))) (cellsV v))) q)) (addrOf p)

noncomputable def intIdx : Value → Option Nat := (Value.rec (motive_1 := fun _ => Option Nat) (motive_2 := fun _ => PUnit) (motive_3 := fun _ => PUnit) (fun _ => (none)) (fun _ n => (Int.rec (motive := fun _ => Option Nat) (fun k => some k) (fun _ => none)) n) (fun _ _ => (none)) (fun _ _ _ => (none)) (fun _ => (none)) (fun _ => (none)) (fun _ _ _ => (none)) (fun _ => (none)) (fun _ => (none)) (fun _ _ _ _ _ => (none)) (none) (fun _ _ _ => (none)) (none) (fun _ _ => (none)) (fun _ _ => (none)) (fun _ _ => ⟨⟩) ⟨⟩ (fun _ _ _ _ => ⟨⟩))

noncomputable def aPart (E : Env) (t : TypeId) (cs : List Value) (off : Nat) : Option Value :=
  (Option.rec (motive := fun _ => Option Value) (none) (fun q => (Prod.rec (motive := fun _ => Option Value) (fun b n => (Bool.rec (motive := fun _ => Option Value) (headV (dropN off cs)) (aggOf (takeN n (dropN off cs)))) b)) q)) (E.row t)

noncomputable def findKey (kind : TypeDesc) (k : Value) (es : List MapEntry) : Option (Option (Nat × Value)) := Instr.findNow kind k es 0

def ghost : Value := .slice (some ⟨0, 0, some 0⟩) 0 0

/-- an optional bound: the default, or an index that is at most m -/
noncomputable def bound (d m : Nat) : Option Value → Option Nat :=
  (Option.rec (motive := fun _ => Option Nat) (some d) (fun v => (Option.rec (motive := fun _ => Option Nat) (none) (fun i => (Bool.rec (motive := fun _ => Option Nat) (none) (some i)) (Nat.ble i m))) (intIdx v)))

def exactAt (es A off l h m : Nat) : Bool → Value
  | true => .slice (some ⟨A, off, none⟩) (h - l) (m - l)
  | false => .slice (some ⟨A, off + l * es, none⟩) (h - l) (m - l)
def cutAt (es A off : Nat) (sp : Option Nat) (l h m : Nat) (given : Bool) : Option Value :=
  match sp, given with
  | none, _ => some (exactAt es A off l h m (Nat.beq m l))
  | some 0, true => none
  | some 0, false => some ghost
  | some (s + 1), true => some (exactAt es A off l h m (Nat.beq m l))
  | some (s + 1), false => match Nat.beq l 0 with
    | true => some (.slice (some ⟨A, off, some (s + 1)⟩) h m)
    | false => match Nat.beq m l with
      | true => some ghost
      | false => match Nat.beq (s + 1) es with
        | true => some (.slice (some ⟨A, off + l * es, some (s + 1)⟩) (h - l) (m - l))
        | false => none
/-- s[lo:hi:max] of a slice -/
noncomputable def aSlice (es : Nat) (lo hi mx : Option Value) : Value → Option Value
  | .slice a len cap =>
    match mx.isSome && hi.isNone with
    | true => none
    | false => match bound cap cap mx with
    | none => none
    | some m => match bound len m hi with
      | none => none
      | some h => match Nat.ble h m with
        | false => none
        | true => match bound 0 h lo with
          | none => none
          | some l => match a with
            | none => some (.slice none (h - l) (m - l))
            | some ⟨A, off, sp⟩ => cutAt es A off sp l h m mx.isSome
  | _ => none

def strCut (s : List UInt8) (l h : Nat) : ByteArray := ⟨⟨(s.drop l).take (h - l)⟩⟩
/-- s[lo:hi] of a string -/
noncomputable def aStrSlice (s : ByteArray) (lo hi : Option Value) : Option Value :=
  match bound s.data.toList.length s.data.toList.length hi with
  | none => none
  | some h => match bound 0 h lo with
    | none => none
    | some l => some (.string (strCut s.data.toList l h))

def lenOf : Value → Option Nat
  | .slice _ n _ => some n
  | .string s => some s.data.toList.length
  | _ => none
def byteCells (l : List UInt8) : List Value := l.map fun b => .int .u8 b.toNat
/-- The first n elements' cells of what is appended or copied. -/
noncomputable def firstOf (H : AHeap) (es n : Nat) : Value → Option (List Value)
  | .slice (some ⟨A, off, sp⟩) _ _ => match n, sp with
    | 0, _ => some []
    | _ + 1, some 0 => none
    | n + 1, _ => readCells H A off ((n + 1) * es)
  | .slice none _ _ => some []
  | .string s => some (byteCells (s.data.toList.take n))
  | _ => none

/-- the old elements' cells, the memory, the frozen bound -/
noncomputable def oldCells (H : AHeap) (elem es len : Nat) : Option Addr → Option (List Value × AHeap × Nat)
  | none => some ([], H, 0)
  | some ⟨A, off, none⟩ => match len with
    | 0 => some ([], H, 0)
    | n + 1 => match readCells H A off ((n + 1) * es) with
      | some old => some (old, H, 0)
      | none => none
  | some ⟨A, 0, some (s + 1)⟩ => match Nat.beq (s + 1) es, H.get A with
    | true, some (.cells e cs fz _) => match (Nat.ble fz (len * es) || Nat.beq fz big) && Nat.beq e elem with
      | true => match takeN (len * es) cs with
        | some old => some (old, H.put A .dead, fz)
        | none => none
      | false => none
    | _, _ => none
  | _ => none
noncomputable def growTo (elem es need : Nat) (new : List Value) : Option (List Value × AHeap × Nat) → Option (Value × AHeap)
  | some (old, H, fz) => match es, allPlain new && Nat.beq (lenL (old ++ new)) (need * es), Nat.ble need 1048576 with
    | s + 1, true, true => some (.slice (some ⟨H.size, 0, some (s + 1)⟩) need need, H.new (.cells elem (old ++ new) fz false))
    | _, _, _ => none
  | none => none
noncomputable def aAppendTo (H : AHeap) (elem es n : Nat) (new : List Value) : Value → Option (Value × AHeap)
  | .slice base len cap => match Nat.ble (len + n) cap with
    | true => match base with
      | none => some (.slice none (len + n) cap, H)
      | some ⟨A, off, sp⟩ => match writeCells H A (off + len * es) new with
        | some H => some (.slice (some ⟨A, off, sp⟩) (len + n) cap, H)
        | none => none
    | false => growTo elem es (len + n) new (oldCells H elem es len base)
  | _ => none
def isIntD : TypeDesc → Bool
  | .int _ => true
  | _ => false
/-- append(s, make([]T, n)...) bears the number itself -/
noncomputable def Env.zerosAt (E : Env) (argTypes : List TypeId) : Option Bool := match argTypes with
  | _ :: xT :: _ => match E.under xT with
    | some d => some (isIntD d)
    | none => none
  | _ => some false
noncomputable def aAppend (E : Env) (H : AHeap) (argTypes : List TypeId) (s x : Value) : Option (Value × AHeap) :=
  match argTypes with
  | [] => none
  | sT :: _ => match E.elem sT with
    | none => none
    | some (elem, es) => match E.zeroE elem with
      | none => none
      | some z => match E.zerosAt argTypes with
        | none => none
        | some true => match intIdx x with
          | some n => match Nat.ble n 1048576 with
            | true => aAppendTo H elem es n (zeros z n) s
            | false => none
          | none => none
        | some false => match lenOf x with
          | some n => match firstOf H es n x with
            | some new => aAppendTo H elem es n new s
            | none => none
          | none => none

/-- comparisons of references: by the type -/
def refEq (E : Env) (d : TypeDesc) (x y : Value) : Option Bool :=
  match d, x, y with
  | .pointer _, .pointer none, .pointer b => some b.isNone
  | .pointer _, .pointer (some _), .pointer none => some false
  | .slice _, .slice none _ _, .slice b _ _ => some b.isNone
  | .slice _, .slice (some _) _ _, .slice none _ _ => some false
  | .map _ _, .map none, .map b => some b.isNone
  | .map _ _, .map (some _), .map none => some false
  | .func _ _ _, .nilFunc, .nilFunc => some true
  | .func _ _ _, .nilFunc, .func _ _ _ => some false
  | .func _ _ _, .func _ _ _, .nilFunc => some false
  | _, _, _ => none
noncomputable def ptrEq (E : Env) (d : TypeDesc) (x y : Value) : Option Bool :=
  match d with
  | .pointer elem => match E.size elem, addrOf x, addrOf y with
    | some (_ + 1), some (A, o), some (B, p) => match Nat.beq A B with
      | true => some (Nat.beq o p)
      | false => none
    | _, _, _ => refEq E d x y
  | _ => refEq E d x y

noncomputable def natOf (g : FuncId) : List (FuncId × NatK) → Option NatK
  | [] => none
  | (f, k) :: r => match Nat.beq f g with
    | true => some k
    | false => natOf g r
/-- the first place of a byte -/
noncomputable def byteAt (c : Nat) : List UInt8 → Nat → Int
  | [], _ => -1
  | b :: r, i => match Nat.beq b.toNat c with
    | true => Int.ofNat i
    | false => byteAt c r (i + 1)
/-- What a function without a body does. -/
noncomputable def aNative (H : AHeap) : NatK → List Value → Option AOut
  | .ident, [x] => some (.val x H)
  | .noop, [] => some (.val (.tuple #[]) H)
  | .mark, [.pointer (some _)] => some (.val (.tuple #[]) H)
  | .load32, [p] => match addrOf p with
    | some (A, off) => match readCell H A off with
      | some (.int .u32 n) => some (.val (.int .u32 n) H)
      | _ => none
    | none => none
  | .store32, [p, .int k n] => match addrOf p with
    | some (A, off) => ounit (writeCells H A off [.int k n])
    | none => none
  | .add32, [p, .int .i32 y] => match addrOf p with
    | some (A, off) => match readCell H A off with
      | some (.int .i32 x) => match writeCells H A off [.int .i32 (IntKind.i32.wrap (x + y))] with
        | some H => some (.val (.int .i32 (IntKind.i32.wrap (x + y))) H)
        | none => none
      | _ => none
    | none => none
  | .cas32, [p, .int .i32 x, .int .i32 y] => match addrOf p with
    | some (A, off) => match readCell H A off with
      | some (.int .i32 z) => match decide (z = x), writeCells H A off [.int .i32 y] with
        | true, some H => some (.val (.bool true) H)
        | _, _ => none
      | _ => none
    | none => none
  | .indexByte, [.string s, .int .u8 (.ofNat c)] => match Nat.blt c 256 with
    | true => some (.val (.int .i64 (byteAt c s.data.toList 0)) H)
    | false => none
  | .makeNoZero e, [.int .i64 (.ofNat n)] => match Nat.ble n 1048576 with
    | true => some (.val (.slice (some ⟨H.size, 0, some 1⟩) n n) (H.new (.cells e (zeros [.tuple #[]] n) 0 false)))
    | false => none
  | _, _ => none
/-- A call of a function value. -/
noncomputable def aInvFunc (E : Env) (H : AHeap) (g : FuncId) (args : List Value) : Option AOut :=
  (Option.rec (motive := fun _ => Option AOut) (none) (fun fn => (Option.rec (motive := fun _ => Option AOut) (match natOf g E.nats with
      | some k => aNative H k args
      | none => none) (fun _ => some (.enter g args H))) fn.body)) (E.funcs.get g)
noncomputable def aInvoke : Value → Env → AHeap → List Value → Option AOut :=
  (Value.rec (motive_1 := fun _ => Env → AHeap → List Value → Option AOut) (motive_2 := fun _ => PUnit) (motive_3 := fun _ => PUnit) (fun _ => (fun _ _ _ => none)) (fun _ _ => (fun _ _ _ => none)) (fun _ _ => (fun _ _ _ => none)) (fun _ _ _ => (fun _ _ _ => none)) (fun _ => (fun _ _ _ => none)) (fun _ => (fun _ _ _ => none)) (fun _ _ _ => (fun _ _ _ => none)) (fun _ => (fun _ _ _ => none)) (fun _ => (fun _ _ _ => none)) (fun fn first cap _ _ E H args => (Fn.rec (motive := fun _ => Option AOut) (fun g => aInvFunc E H g (first.toList ++ (args ++ cap.toList))) (fun _ => none) (fun _ _ => none) (fun _ _ _ _ => none) (fun l => some (.round l (first.toList ++ args) H))) fn) (fun _ _ _ => none) (fun _ _ _ => (fun _ _ _ => none)) (fun _ _ _ => none) (fun _ _ => (fun _ _ _ => none)) (fun _ _ => (fun _ _ _ => none)) (fun _ _ => ⟨⟩) ⟨⟩ (fun _ _ _ _ => ⟨⟩))

/-- the arguments of a round -/
noncomputable def setK (m : Nat) (t : Tr Value) (p : Tmp) (a : Value) : Tr Value := (Bool.rec (motive := fun _ => Tr Value) (t) (t.set p a)) (bit m p)
noncomputable def zip2 (m nt : Nat) : List Tmp → List Value → Tr Value → Option (Tr Value)
  | [], [], t => some t
  | p :: ps, a :: as, t => match Nat.blt p nt with
    | true => zip2 m nt ps as (setK m t p a)
    | false => none
  | _, _, _ => none

/-- To unsafe.Pointer and back: the pointer stays. -/
noncomputable def aUnsafe (E : Env) (H : AHeap) (src dst : TypeId) : Value → Bool
  | .pointer (some ⟨A, off, none⟩) => match E.under src, E.under dst, H.get A with
    | some (.pointer t), some .unsafePointer, some (.cells _ cs _ _) => match E.size t with
      | some (_ + 1) => Nat.blt off cs.length
      | _ => false
    | some .unsafePointer, some (.pointer u), some (.cells e cs _ true) => match E.size u, E.size e with
      | some (_ + 1), some es => liesAt E.prog E.prog.depth e (cs.length / es) off u 1
      | _, _ => false
    | _, _, _ => false
  | _ => false

def bytesL : List Value → Option (List UInt8)
  | [] => some []
  | .int .u8 (.ofNat n) :: r => match bytesL r with
    | some l => some (n.toUInt8 :: l)
    | none => none
  | _ => none

noncomputable def bAppend (E : Env) (H : AHeap) (ats : List TypeId) (type : TypeId) : List Value → Option AOut
  | [s, x] => match aAppend E H ats s x with
    | some (v, H) => some (.val v H)
    | none => none
  | _ => none
noncomputable def bLen (E : Env) (H : AHeap) (ats : List TypeId) (type : TypeId) (l : List Value) : Option AOut :=
  match ats, l with
  | t :: _, [.slice _ n _] => match E.under t with
    | some (.slice _) => some (.val (.int .i64 n) H)
    | _ => none
  | t :: _, [.string s] => match E.under t with
    | some .string => some (.val (.int .i64 s.data.toList.length) H)
    | _ => none
  | t :: _, [.map none] => match E.under t with
    | some (.map _ _) => some (.val (.int .i64 0) H)
    | _ => none
  | t :: _, [.map (some r)] => match E.under t, H.get r with
    | some (.map _ _), some (.map es _) => some (.val (.int .i64 es.length) H)
    | _, _ => none
  | _, _ => none
noncomputable def bCap (E : Env) (H : AHeap) (ats : List TypeId) (type : TypeId) (l : List Value) : Option AOut :=
  match ats, l with
  | t :: _, [.slice none _ c] => match E.under t with
    | some (.slice _) => some (.val (.int .i64 c) H)
    | _ => none
  | t :: _, [.slice (some ⟨_, _, none⟩) _ c] => match E.under t with
    | some (.slice _) => some (.val (.int .i64 c) H)
    | _ => none
  | _, _ => none
noncomputable def bCopyTo (H : AHeap) (n : Nat) (l : List Value) : Option Addr → Option AOut
  | none => some (.val (.int .i64 n) H)
  | some ⟨A, off, _⟩ => match writeCells H A off l with
    | some H => some (.val (.int .i64 n) H)
    | none => none
noncomputable def bCopy (E : Env) (H : AHeap) (ats : List TypeId) (type : TypeId) : List Value → Option AOut
  | [.slice base dLen _, src] => match ats with
    | dT :: _ => match E.elem dT, lenOf src with
      | some (_, es), some n => match firstOf H es (Nat.min n dLen) src with
        | some l => bCopyTo H (Nat.min n dLen) l base
        | none => none
      | _, _ => none
    | [] => none
  | _ => none
noncomputable def bClear (E : Env) (H : AHeap) (ats : List TypeId) (type : TypeId) (args : List Value) : Option AOut := match ats with
  | dT :: _ => match E.elem dT with
    | some (elem, _) => match args with
      | [.slice none _ _] => some (.val (.tuple #[]) H)
      | [.slice (some _) 0 _] => some (.val (.tuple #[]) H)
      | [.slice (some ⟨A, off, _⟩) (n + 1) _] => match E.zeroL elem with
        | some z => ounit (writeCells H A off (zeros z (n + 1)))
        | none => none
      | _ => none
    | none => none
  | [] => none
noncomputable def bSliceData (E : Env) (H : AHeap) (ats : List TypeId) (type : TypeId) : List Value → Option AOut
  | [.slice none _ _] => some (.val (.pointer none) H)
  | [.slice (some ⟨A, off, none⟩) _ (_ + 1)] => some (.val (.pointer (some ⟨A, off, none⟩)) H)
  | [.slice (some ⟨A, off, some (_ + 1)⟩) _ (_ + 1)] => some (.val (.pointer (some ⟨A, off, none⟩)) H)
  | _ => none
noncomputable def sizeOne (E : Env) (e : TypeId) : Bool := match E.size e with
  | some 1 => true
  | _ => false
noncomputable def bStringAt (E : Env) (H : AHeap) (pt : TypeId) (A n : Nat) : Option AOut := match n with
  | 0 => some (.val (.string ⟨⟨[]⟩⟩) H)
  | n + 1 => match E.under pt, H.get A with
    | some (.pointer u), some (.cells e cs fz ex) => match E.under e, Nat.beq u e && (sizeOne E e && (Nat.ble n 1048576 && Nat.ble fz 1048577)), takeN (n + 1) cs with
      | some (.int .u8), true, some l => match bytesL l with
        | some bs => some (.val (.string ⟨⟨bs⟩⟩) (H.put A (.cells e cs (Nat.max fz (n + 1)) ex)))
        | none => none
      | _, _, _ => none
    | _, _ => none
noncomputable def bString (E : Env) (H : AHeap) (ats : List TypeId) (type : TypeId) (l : List Value) : Option AOut := match ats with
  | pt :: _ => match l with
    | [.pointer none, .int .i64 (.ofNat 0)] => some (.val (.string ⟨⟨[]⟩⟩) H)
    | [.pointer (some ⟨A, 0, none⟩), .int .i64 (.ofNat n)] => bStringAt E H pt A n
    | _ => none
  | [] => none
def keyD : TypeDesc → Bool
  | .int _ => true
  | .string => true
  | .bool => true
  | _ => false
noncomputable def bDelete (E : Env) (H : AHeap) (ats : List TypeId) (type : TypeId) : List Value → Option AOut
  | [.map (some r), k] => match ats with
    | dT :: _ => match E.under dT with
      | some (.map kt _) => match H.get r, E.under kt with
        | some (.map es clock), some d => match keyD d && ground k, findKey d k es with
          | true, some (some (i, _)) => some (.val (.tuple #[]) (H.put r (.map (es.eraseIdx i) clock)))
          | true, some none => some (.val (.tuple #[]) H)
          | _, _ => none
        | _, _ => none
      | _ => none
    | [] => none
  | _ => none
noncomputable def bGround (b : Builtin) (E : Env) (H : AHeap) (ats : List TypeId) (type : TypeId) (args : List Value) : Option AOut :=
  match allGround args with
  | true => match pureRun E.prog (builtin b ⟨ats⟩ type #[] ⟨args⟩) with
    | some (.value v) => ogr H (some v)
    | _ => none
  | false => none
def bNone (E : Env) (H : AHeap) (ats : List TypeId) (type : TypeId) (args : List Value) : Option AOut := none
noncomputable def aBuiltin : Builtin → Env → AHeap → List TypeId → TypeId → List Value → Option AOut :=
  (Builtin.rec (motive := fun _ => Env → AHeap → List TypeId → TypeId → List Value → Option AOut) (bAppend) (bCap) (bClear) (bNone) (bNone) (bCopy) (bDelete) (bNone) (bLen) (bNone) (bGround .max) (bGround .min) (bNone) (bNone) (bNone) (bNone) (bNone) (bNone) (bNone) (bNone) (bSliceData) (bString) (bNone) (bNone) (bNone) (bNone))

noncomputable def mapOf (H : AHeap) : Value → Option (List MapEntry)
  | .map none => some []
  | .map (some r) => match H.get r with
    | some (.map es _) => some es
    | _ => none
  | _ => none
def withOk (ok : Bool) (v : Value) (b : Bool) : Value := match ok with
  | true => .tuple #[v, .bool b]
  | false => v
noncomputable def aLookup (E : Env) (H : AHeap) (t : TypeId) (x k : Value) (ok : Bool) : Option Value :=
  match E.under t with
  | some (.map kt el) => match E.under kt with
    | some d => match keyD d && ground k with
      | true => match mapOf H x with
        | none => none
        | some es => match findKey d k es with
          | some (some (_, v)) => some (withOk ok v true)
          | some none => match E.zeroV el with
            | some z => some (withOk ok z false)
            | none => none
          | none => none
      | false => none
    | none => none
  | _ => none

noncomputable def aMapSet (E : Env) (H : AHeap) (t : TypeId) (k v m : Value) : Option AHeap :=
  match m with
  | .map (some r) => match E.under t with
    | some (.map kt _) => match E.under kt with
      | some d => match keyD d && ground k, H.get r with
        | true, some (.map es clock) => match findKey d k es with
          | some (some (i, _)) => some (H.put r (.map (es.modify i fun e => { e with key := k, val := v }) clock))
          | some none => some (H.put r (.map (es ++ [{ key := k, val := v, born := clock }]) (clock + 1)))
          | none => none
        | _, _ => none
      | none => none
    | _ => none
  | _ => none

noncomputable def nextStr (H : AHeap) (r : Nat) (s : ByteArray) (pos : Nat) : Option AOut :=
  match Nat.ble s.data.toList.length pos with
  | true => some (.val (.tuple #[.bool false]) H)
  | false => some (.val (.tuple #[.bool true, .int .i64 pos, .int .i32 (Utf8.decode s pos).1]) (H.put r (.siter s (pos + (Utf8.decode s pos).2))))
noncomputable def nextMap (H : AHeap) (r m since : Nat) (seen : List Nat) (last : Nat) : Option AObj → Option AOut
  | some (.map es clock) =>
    match !seen.isEmpty && !es.isEmpty && es.all (fun e => Nat.ble last e.born) with
    | true => none
    | false =>
      match es.filter fun e => !seen.contains e.born with
      | [] => some (.val (.tuple #[.bool false]) H)
      | [e] => match Nat.ble since e.born with
        | true => none
        | false => some (.val (.tuple #[.bool true, e.key, e.val]) (H.put r (.miter (some m) since (seen ++ [e.born]) clock)))
      | _ => none
  | _ => none
noncomputable def aNext (H : AHeap) (isString : Bool) (it : Value) : Option AOut :=
  match it with
  | .pointer (some ⟨r, 0, none⟩) => match H.get r, isString with
    | some (.siter s pos), true => nextStr H r s pos
    | some (.miter none _ _ _), false => some (.val (.tuple #[.bool false]) H)
    | some (.miter (some m) since seen last), false => nextMap H r m since seen last (H.get m)
    | _, _ => none
  | _ => none

noncomputable def lastN : List Nat → Option Nat
  | [] => none
  | [n] => some n
  | _ :: r => lastN r
noncomputable def bornAt (stamp : Nat) : List MapEntry → Option MapEntry
  | [] => none
  | e :: r => match Nat.beq e.born stamp with
    | true => some e
    | false => bornAt stamp r
/-- the entry at which a step stands -/
noncomputable def aEntry (H : AHeap) (it : Value) : Option Value :=
  match it with
  | .pointer (some ⟨r, 0, none⟩) => match H.get r with
    | some (.miter (some m) _ seen stepped) => match lastN seen, H.get m with
      | some stamp, some (.map es clock) => match Nat.beq clock stepped, bornAt stamp es with
        | true, some e => some (.tuple #[e.key, e.val])
        | _, _ => none
      | _, _ => none
    | _ => none
  | _ => none

noncomputable def newAt (H : AHeap) (o : AObj) : Option AOut := some (.val (.pointer (some ⟨H.size, 0, none⟩)) (H.new o))
noncomputable def aRange (E : Env) (t : TypeId) (H : AHeap) (x : Value) : Option AOut :=
  match E.under t, x with
  | some .string, .string s => newAt H (.siter s 0)
  | some (.map _ _), .map none => newAt H (.miter none 0 [] 0)
  | some (.map _ _), .map (some m) => match H.get m with
    | some (.map _ clock) => newAt H (.miter (some m) clock [] clock)
    | _ => none
  | _, _ => none

noncomputable def placesOf (E : Env) : List Field → Option (List (Nat × Nat))
  | [] => some []
  | f :: r => match E.size f.type, placesOf E r with
    | some n, some l => some ((f.offset, n) :: l)
    | _, _ => none
noncomputable def nthA {α : Type} : List α → Nat → Option α := (List.rec (motive := fun _ => Nat → Option α) (fun _ => none) (fun v _ ih i => (Nat.rec (motive := fun _ => Option α) (some v) (fun m _ => ih m)) i))
def rowPlaces (es i : Nat) : Option (Nat × Nat) := some (i * es, es)
/-- where the parts of a composite literal lie -/
noncomputable def Env.places (E : Env) (t : TypeId) : Option (Nat → Option (Nat × Nat)) := match E.under t with
  | some (.struct fs) => match placesOf E fs.toList with
    | some l => some (nthA l)
    | none => none
  | some (.array _ elem) => match E.size elem with
    | some es => some (rowPlaces es)
    | none => none
  | _ => none
noncomputable def aBuild (E : Env) (t : TypeId) (parts : List (Nat × Value)) : Option Value :=
  (Option.rec (motive := fun _ => Option Value) (none) (fun z => (Option.rec (motive := fun _ => Option Value) (none) (fun pl => aggOf (fillL pl parts z))) (E.places t))) (E.zeroL t)
noncomputable def aBuildSlice (E : Env) (H : AHeap) (t : TypeId) (len : Nat) (parts : List (Nat × Value)) : Option AOut :=
  match E.elem t with
  | some (elem, es) => match E.zeroE elem, Nat.ble (len * es) 16777216 with
    | some z, true => match fillL (rowPlaces es) parts (zeros z len) with
      | some l => some (.val (.slice (some ⟨H.size, 0, none⟩) len len) (H.new (.cells elem l 0 true)))
      | none => none
    | _, _ => none
  | none => none
noncomputable def aMakeSlice (E : Env) (H : AHeap) (t : TypeId) (l c : Value) : Option AOut :=
  match E.elem t, intIdx l, intIdx c with
  | some (elem, _), some l, some c => match E.zeroE elem, Nat.ble l c && Nat.ble c 1048576 with
    | some z, true => some (.val (.slice (some ⟨H.size, 0, none⟩) l c) (H.new (.cells elem (zeros z c) 0 true)))
    | _, _ => none
  | _, _, _ => none

/-- the everyday operators on integers of one kind -/
noncomputable def intLt : Int → Int → Bool :=
  (Int.rec (motive := fun _ => Int → Bool) (fun m b => (Int.rec (motive := fun _ => Bool) (fun n => Nat.blt m n) (fun _ => false)) b) (fun m b => (Int.rec (motive := fun _ => Bool) (fun _ => true) (fun n => Nat.blt n m)) b))
noncomputable def intEq : Int → Int → Bool :=
  (Int.rec (motive := fun _ => Int → Bool) (fun m b => (Int.rec (motive := fun _ => Bool) (fun n => Nat.beq m n) (fun _ => false)) b) (fun m b => (Int.rec (motive := fun _ => Bool) (fun _ => false) (fun n => Nat.beq m n)) b))
noncomputable def notB : Bool → Bool := (Bool.rec (motive := fun _ => Bool) (true) (false))
noncomputable def wrap64 (n : Int) : Int :=
  (Int.rec (motive := fun _ => Int) (fun m => (Bool.rec (motive := fun _ => Int) (IntKind.i64.wrap n) (Int.ofNat m)) (Nat.ble m (nat_lit 9223372036854775807))) (fun m => (Bool.rec (motive := fun _ => Int) (IntKind.i64.wrap n) (Int.negSucc m)) (Nat.ble m (nat_lit 9223372036854775807)))) n
noncomputable def wrapK : IntKind → Int → Int := IntKind.rec (motive := fun _ => Int → Int) (IntKind.i8.wrap) (IntKind.i16.wrap) (IntKind.i32.wrap) wrap64 (IntKind.u8.wrap) (IntKind.u16.wrap) (IntKind.u32.wrap) (IntKind.u64.wrap)
def iNone (k : IntKind) (a b : Int) : Option Value := none
noncomputable def intBin : BinOp → IntKind → Int → Int → Option Value :=
  (BinOp.rec (motive := fun _ => IntKind → Int → Int → Option Value) (fun k a b => some (.int k (wrapK k (Int.add a b)))) (fun k a b => some (.int k (wrapK k (Int.sub a b)))) (fun k a b => some (.int k (wrapK k (Int.mul a b)))) (iNone) (iNone) (iNone) (iNone) (iNone) (iNone) (iNone) (iNone) (fun _ a b => some (.bool (intEq a b))) (fun _ a b => some (.bool (notB (intEq a b)))) (fun _ a b => some (.bool (intLt a b))) (fun _ a b => some (.bool (notB (intLt b a)))) (fun _ a b => some (.bool (intLt b a))) (fun _ a b => some (.bool (notB (intLt a b)))))
noncomputable def sameL : List UInt8 → List UInt8 → Bool :=
  (List.rec (motive := fun _ => List UInt8 → Bool) ((List.rec (motive := fun _ => Bool) (true) (fun _ _ _ => false))) (fun x _ ih b => (List.rec (motive := fun _ => Bool) (false) (fun y r _ => (Bool.rec (motive := fun _ => Bool) (false) (ih r)) (Nat.beq x.toNat y.toNat))) b))
noncomputable def strBin (a b : List UInt8) (op : BinOp) : Option Value :=
  match op with
  | .eql => some (.bool (sameL a b))
  | .neq => some (.bool (notB (sameL a b)))
  | .lss => some (.bool (Op.bytesLess a b))
  | .gtr => some (.bool (notB (Op.bytesLess a b || sameL a b)))
  | .add => match Nat.ble (a.length + b.length) 9223372036854775807 with
    | true => some (.string ⟨⟨a ++ b⟩⟩)
    | false => none
  | _ => none
noncomputable def refBin (E : Env) (op : BinOp) (t : TypeId) (a b : Value) : Option Value :=
  match E.under t with
  | some d => match op with
    | .eql => match ptrEq E d a b with
      | some r => some (.bool r)
      | none => none
    | .neq => match ptrEq E d a b with
      | some r => some (.bool (notB r))
      | none => none
    | _ => none
  | none => none
noncomputable def grV : Option Value → Option Value := (Option.rec (motive := fun _ => Option Value) (none) (fun v => (Bool.rec (motive := fun _ => Option Value) (none) (some v)) (ground v)))
def isRef : Value → Bool
  | .pointer _ => true
  | .slice .. => true
  | .map _ => true
  | .func .. => true
  | .nilFunc => true
  | _ => false
/-- a value without an address, or an aggregate of such -/
noncomputable def groundA : Value → Bool
  | .agg cs => allGround cs.toList
  | v => ground v
noncomputable def slowBin (E : Env) (op : BinOp) (t : TypeId) (x y : Operand) (a b : Value) : Option Value :=
  match isRef a with
  | true => refBin E op t a b
  | false => match groundA a && groundA b with
    | true => grV (pureRun E.prog (do eqGuard op t x y a b; binOp op t a b))
    | false => none
noncomputable def orElse' (d : Option Value) : Option Value → Option Value := (Option.rec (motive := fun _ => Option Value) (d) (fun v => some v))
noncomputable def binI (b : Value) (E : Env) (op : BinOp) (t : TypeId) (x y : Operand) (k : IntKind) (m : Int) : Option Value :=
  (Value.rec (motive_1 := fun _ => Option Value) (motive_2 := fun _ => PUnit) (motive_3 := fun _ => PUnit) (fun _ => (none)) (fun k' n => (Bool.rec (motive := fun _ => Option Value) (slowBin E op t x y (.int k m) (.int k' n)) (orElse' (slowBin E op t x y (.int k m) (.int k' n)) (intBin op k m n))) (decide (k = k'))) (fun _ _ => (none)) (fun _ _ _ => (none)) (fun _ => (none)) (fun _ => (none)) (fun _ _ _ => (none)) (fun _ => (none)) (fun _ => (none)) (fun _ _ _ _ _ => (none)) (none) (fun _ _ _ => (none)) (none) (fun _ _ => (none)) (fun _ _ => (none)) (fun _ _ => ⟨⟩) ⟨⟩ (fun _ _ _ _ => ⟨⟩)) b
noncomputable def binS (b : Value) (op : BinOp) (s : ByteArray) : Option Value :=
  (Value.rec (motive_1 := fun _ => Option Value) (motive_2 := fun _ => PUnit) (motive_3 := fun _ => PUnit) (fun _ => (none)) (fun _ _ => (none)) (fun _ _ => (none)) (fun _ _ _ => (none)) (fun s' => strBin s.data.toList s'.data.toList op) (fun _ => (none)) (fun _ _ _ => (none)) (fun _ => (none)) (fun _ => (none)) (fun _ _ _ _ _ => (none)) (none) (fun _ _ _ => (none)) (none) (fun _ _ => (none)) (fun _ _ => (none)) (fun _ _ => ⟨⟩) ⟨⟩ (fun _ _ _ _ => ⟨⟩)) b
noncomputable def aBin2 : Value → Value → Env → BinOp → TypeId → Operand → Operand → Option Value :=
  (Value.rec (motive_1 := fun _ => Value → Env → BinOp → TypeId → Operand → Operand → Option Value) (motive_2 := fun _ => PUnit) (motive_3 := fun _ => PUnit) (fun a b E op t x y => slowBin E op t x y (.bool a) b) (fun k m b E op t x y => binI b E op t x y k m) (fun _ _ => (fun b E op t x y => none)) (fun _ _ _ => (fun b E op t x y => none)) (fun s b E op t x y => binS b op s) (fun a b E op t x y => slowBin E op t x y (.pointer a) b) (fun a n c b E op t x y => slowBin E op t x y (.slice a n c) b) (fun a b E op t x y => slowBin E op t x y (.map a) b) (fun _ => (fun b E op t x y => none)) (fun f a c _ _ b E op t x y => slowBin E op t x y (.func f a c) b) (fun b E op t x y => slowBin E op t x y .nilFunc b) (fun _ _ _ => (fun b E op t x y => none)) (fun b E op t x y => none) (fun cs _ b E op t x y => slowBin E op t x y (.agg cs) b) (fun _ _ => (fun b E op t x y => none)) (fun _ _ => ⟨⟩) ⟨⟩ (fun _ _ _ _ => ⟨⟩))

noncomputable def evParts (F : Fr) : List (Nat × Operand) → List (Nat × Value) := (List.rec (motive := fun _ => List (Nat × Value)) ([]) (fun p _ ih => (Prod.rec (motive := fun _ => List (Nat × Value)) (fun i x => (i, ev x F) :: ih)) p))

noncomputable def pick2 : Value → Value → Value → Option Value := (Value.rec (motive_1 := fun _ => Value → Value → Option Value) (motive_2 := fun _ => PUnit) (motive_3 := fun _ => PUnit) ((Bool.rec (motive := fun _ => Value → Value → Option Value) (fun _ b => some b) (fun a _ => some a))) (fun _ _ => (fun _ _ => none)) (fun _ _ => (fun _ _ => none)) (fun _ _ _ => (fun _ _ => none)) (fun _ => (fun _ _ => none)) (fun _ => (fun _ _ => none)) (fun _ _ _ => (fun _ _ => none)) (fun _ => (fun _ _ => none)) (fun _ => (fun _ _ => none)) (fun _ _ _ _ _ => (fun _ _ => none)) (fun _ _ => none) (fun _ _ _ => (fun _ _ => none)) (fun _ _ => none) (fun _ _ => (fun _ _ => none)) (fun _ _ => (fun _ _ => none)) (fun _ _ => ⟨⟩) ⟨⟩ (fun _ _ _ _ => ⟨⟩))
noncomputable def nilChk : Value → Option Value := (Value.rec (motive_1 := fun _ => Option Value) (motive_2 := fun _ => PUnit) (motive_3 := fun _ => PUnit) (fun _ => (none)) (fun _ _ => (none)) (fun _ _ => (none)) (fun _ _ _ => (none)) (fun _ => (none)) ((Option.rec (motive := fun _ => Option Value) (none) (fun a => some (.pointer (some a))))) (fun _ _ _ => (none)) (fun _ => (none)) (fun _ => (none)) (fun fn a b _ _ => (Fn.rec (motive := fun _ => Option Value) (fun f => some (.func (.func f) a b)) (fun _ => none) (fun _ _ => none) (fun _ _ _ _ => none) (fun l => some (.func (.yield l) a b))) fn) (none) (fun _ _ _ => (none)) (none) (fun _ _ => (none)) (fun _ _ => (none)) (fun _ _ => ⟨⟩) ⟨⟩ (fun _ _ _ _ => ⟨⟩))
noncomputable def slowConv (E : Env) (H : AHeap) (src dst : TypeId) (a : Value) : Option AOut :=
  match ground a with
  | true => ogr H (pureRun E.prog (convert src dst a))
  | false => match aUnsafe E H src dst a with
    | true => some (.val a H)
    | false => none
/-- a slice of bytes to a string, and to a slice of the same type -/
noncomputable def sliceConv (E : Env) (H : AHeap) (src dst : TypeId) : Value → Option AOut
  | .slice a n c => match E.under src, E.under dst with
    | some (.slice e), some .string => match E.under e, a with
      | some (.int .u8), none => some (.val (.string ⟨⟨[]⟩⟩) H)
      | some (.int .u8), some ⟨A, off, none⟩ => match readCells H A off n with
        | some l => match bytesL l with
          | some bs => some (.val (.string ⟨⟨bs⟩⟩) H)
          | none => none
        | none => none
      | some (.int .u8), some ⟨A, off, some (_ + 1)⟩ => match readCells H A off n with
        | some l => match bytesL l with
          | some bs => some (.val (.string ⟨⟨bs⟩⟩) H)
          | none => none
        | none => none
      | _, _ => none
    | some (.slice _), some (.slice e) => match Nat.beq src dst, E.under e, a with
      | true, some (.int .u8), some ⟨A, off, none⟩ => match H.get A with
        | some (.cells t cs 0 ex) => some (.val (.slice (some ⟨A, off, none⟩) n c) (H.put A (.cells t cs big ex)))
        | _ => none
      | _, _, _ => none
    | _, _ => none
  | _ => none
/-- a string to a slice of bytes -/
noncomputable def strConv (E : Env) (H : AHeap) (src dst : TypeId) (s : ByteArray) : Option AOut :=
  match E.under dst with
  | some (.slice e) => match E.under src, E.under e, Nat.ble s.data.toList.length 1048576 with
    | some .string, some (.int .u8), true => some (.val (.slice (some ⟨H.size, 0, some 1⟩) s.data.toList.length s.data.toList.length) (H.new (.cells e (byteCells s.data.toList) big false)))
    | _, _, _ => none
  | _ => slowConv E H src dst (.string s)
/-- the kind, where both types are there and the second one is an integer type -/
noncomputable def Env.intTo (E : Env) (src dst : TypeId) : Option IntKind := match E.under src, E.under dst with
  | some _, some (.int k) => some k
  | _, _ => none
/-- Conversions between integer kinds; others. -/
noncomputable def aConv : Value → Env → AHeap → TypeId → TypeId → Option AOut :=
  (Value.rec (motive_1 := fun _ => Env → AHeap → TypeId → TypeId → Option AOut) (motive_2 := fun _ => PUnit) (motive_3 := fun _ => PUnit) (fun a E H src dst => slowConv E H src dst (.bool a)) (fun k n E H src dst => (Option.rec (motive := fun _ => Option AOut) (slowConv E H src dst (.int k n)) (fun k' => some (.val (.int k' (wrapK k' n)) H))) (E.intTo src dst)) (fun _ _ => (fun _ _ _ _ => none)) (fun _ _ _ => (fun _ _ _ _ => none)) (fun s E H src dst => strConv E H src dst s) (fun a E H src dst => slowConv E H src dst (.pointer a)) (fun a n c E H src dst => sliceConv E H src dst (.slice a n c)) (fun _ => (fun _ _ _ _ => none)) (fun _ => (fun _ _ _ _ => none)) (fun _ _ _ _ _ => (fun _ _ _ _ => none)) (fun _ _ _ _ => none) (fun _ _ _ => (fun _ _ _ _ => none)) (fun _ _ _ _ => none) (fun _ _ => (fun _ _ _ _ => none)) (fun _ _ => (fun _ _ _ _ => none)) (fun _ _ => ⟨⟩) ⟨⟩ (fun _ _ _ _ => ⟨⟩))

noncomputable def nth : List Value → Nat → Option Value := (List.rec (motive := fun _ => Nat → Option Value) (fun _ => none) (fun v _ ih i => (Nat.rec (motive := fun _ => Option Value) (some v) (fun m _ => ih m)) i))
noncomputable def extractOf : Value → Nat → Option Value := (Value.rec (motive_1 := fun _ => Nat → Option Value) (motive_2 := fun _ => PUnit) (motive_3 := fun _ => PUnit) (fun _ => (fun _ => none)) (fun _ _ => (fun _ => none)) (fun _ _ => (fun _ => none)) (fun _ _ _ => (fun _ => none)) (fun _ => (fun _ => none)) (fun _ => (fun _ => none)) (fun _ _ _ => (fun _ => none)) (fun _ => (fun _ => none)) (fun _ => (fun _ => none)) (fun _ _ _ _ _ => (fun _ => none)) (fun _ => none) (fun _ _ _ => (fun _ => none)) (fun _ => none) (fun _ _ => (fun _ => none)) (fun vs _ ix => nth vs.toList ix) (fun _ _ => ⟨⟩) ⟨⟩ (fun _ _ _ _ => ⟨⟩))
noncomputable def fieldAt (E : Env) (H : AHeap) (s f : Nat) (x : Value) : Option AOut :=
  (Option.rec (motive := fun _ => Option AOut) (none) (fun q => (Prod.rec (motive := fun _ => Option AOut) (fun A off => (Option.rec (motive := fun _ => Option AOut) (none) (fun fo => some (.val (.pointer (some ⟨A, Nat.add off fo, none⟩)) H))) (E.place s f))) q)) (addrOf x)
noncomputable def fieldIn : Value → Env → TypeId → Nat → Option Value := (Value.rec (motive_1 := fun _ => Env → TypeId → Nat → Option Value) (motive_2 := fun _ => PUnit) (motive_3 := fun _ => PUnit) (fun _ => (fun _ _ _ => none)) (fun _ _ => (fun _ _ _ => none)) (fun _ _ => (fun _ _ _ => none)) (fun _ _ _ => (fun _ _ _ => none)) (fun _ => (fun _ _ _ => none)) (fun _ => (fun _ _ _ => none)) (fun _ _ _ => (fun _ _ _ => none)) (fun _ => (fun _ _ _ => none)) (fun _ => (fun _ _ _ => none)) (fun _ _ _ _ _ => (fun _ _ _ => none)) (fun _ _ _ => none) (fun _ _ _ => (fun _ _ _ => none)) (fun _ _ _ => none) (fun cs _ E t f => (Option.rec (motive := fun _ => Option Value) (none) (fun q => (Prod.rec (motive := fun _ => Option Value) (fun ft fo => aPart E ft cs.toList fo)) q)) (E.field t f)) (fun _ _ => (fun _ _ _ => none)) (fun _ _ => ⟨⟩) ⟨⟩ (fun _ _ _ _ => ⟨⟩))
noncomputable def idxAddr (E : Env) (H : AHeap) (t : TypeId) (k : Nat) : Value → Option AOut
  | .slice (some ⟨A, off, _⟩) len _ => match E.elem t, Nat.blt k len with
    | some (_, es), true => some (.val (.pointer (some ⟨A, off + k * es, none⟩)) H)
    | _, _ => none
  | .pointer (some ⟨A, off, none⟩) => match E.under t with
    | some (.array len elem) => match E.size elem, Nat.blt k len with
      | some es, true => some (.val (.pointer (some ⟨A, off + k * es, none⟩)) H)
      | _, _ => none
    | _ => none
  | _ => none
noncomputable def idxIn (E : Env) (t : TypeId) (k : Nat) : Value → Option Value
  | .string s => match E.under t, s.data.toList[k]? with
    | some .string, some b => some (.int .u8 b.toNat)
    | _, _ => none
  | .agg cs => match E.under t with
    | some (.array len elem) => match E.size elem, Nat.blt k len with
      | some es, true => aPart E elem cs.toList (k * es)
      | _, _ => none
    | _ => none
  | _ => none
noncomputable def sliceIn (E : Env) (t : TypeId) (lo hi mx : Option Value) (x : Value) : Option Value :=
  match x with
  | .string s => match mx, E.under t with
    | none, some .string => aStrSlice s lo hi
    | _, _ => none
  | _ => match E.elem t with
    | some (_, es) => aSlice es lo hi mx x
    | none => none

/-! ### 7. The operations -/
noncomputable def xMove (x : Operand) (E : Env) (o : Oper) (F : Fr) (H : AHeap) : Option AOut := some (.val (ev x F) H)
noncomputable def xPick (c a b : Operand) (E : Env) (o : Oper) (F : Fr) (H : AHeap) : Option AOut := oval H (pick2 (ev c F) (ev a F) (ev b F))
noncomputable def xAlloc (e : TypeId) (E : Env) (o : Oper) (F : Fr) (H : AHeap) : Option AOut := (Option.rec (motive := fun _ => Option AOut) (none) (fun z => newAt H (.cells e z (nat_lit 0) true))) (E.zeroL e)
noncomputable def xBox (e : TypeId) (x : Operand) (E : Env) (o : Oper) (F : Fr) (H : AHeap) : Option AOut := (Option.rec (motive := fun _ => Option AOut) (none) (fun cs => newAt H (.cells e cs (nat_lit 0) true))) (cellsV (ev x F))
noncomputable def xBuild (t : TypeId) (ps : Array (Nat × Operand)) (E : Env) (o : Oper) (F : Fr) (H : AHeap) : Option AOut := oval H (aBuild E t (evParts F ps.toList))
noncomputable def xBuildSlice (t : TypeId) (len : Nat) (ps : Array (Nat × Operand)) (E : Env) (o : Oper) (F : Fr) (H : AHeap) : Option AOut := aBuildSlice E H t len (evParts F ps.toList)
noncomputable def xLoad (t : TypeId) (a : Operand) (E : Env) (o : Oper) (F : Fr) (H : AHeap) : Option AOut := oval H (aLoad E H t (ev a F))
noncomputable def xStore (t : TypeId) (a x : Operand) (E : Env) (o : Oper) (F : Fr) (H : AHeap) : Option AOut := ounit (aStore E H t (ev x F) (ev a F))
noncomputable def xNilCheck (x : Operand) (E : Env) (o : Oper) (F : Fr) (H : AHeap) : Option AOut := oval H (nilChk (ev x F))
noncomputable def xBinOp (op : BinOp) (t : TypeId) (x y : Operand) (yt : TypeId) (E : Env) (o : Oper) (F : Fr) (H : AHeap) : Option AOut := oval H (aBin2 (ev x F) (ev y F) E op t x y)
noncomputable def notOf : Value → Option Value := (Value.rec (motive_1 := fun _ => Option Value) (motive_2 := fun _ => PUnit) (motive_3 := fun _ => PUnit) (fun b => some (.bool (notB b))) (fun _ _ => (none)) (fun _ _ => (none)) (fun _ _ _ => (none)) (fun _ => (none)) (fun _ => (none)) (fun _ _ _ => (none)) (fun _ => (none)) (fun _ => (none)) (fun _ _ _ _ _ => (none)) (none) (fun _ _ _ => (none)) (none) (fun _ _ => (none)) (fun _ _ => (none)) (fun _ _ => ⟨⟩) ⟨⟩ (fun _ _ _ _ => ⟨⟩))
noncomputable def slowUn (E : Env) (op : UnOp) (a : Value) : Option Value := match ground a with
  | true => grV (pureRun E.prog (Op.unary op a))
  | false => none
noncomputable def xUnOp (op : UnOp) (t : TypeId) (x : Operand) (E : Env) (o : Oper) (F : Fr) (H : AHeap) : Option AOut := match op with
  | .not => oval H (notOf (ev x F))
  | op => oval H (slowUn E op (ev x F))
noncomputable def xConvert (src dst : TypeId) (x : Operand) (E : Env) (o : Oper) (F : Fr) (H : AHeap) : Option AOut := aConv (ev x F) E H src dst
noncomputable def xMakeFunc (fn : Fn) (a b : Array Operand) (E : Env) (o : Oper) (F : Fr) (H : AHeap) : Option AOut := match fn with
  | .func f => some (.val (.func (.func f) ⟨evs F a.toList⟩ ⟨evs F b.toList⟩) H)
  | _ => none
noncomputable def xMakeMap (t : TypeId) (r : Option Operand) (E : Env) (o : Oper) (F : Fr) (H : AHeap) : Option AOut := match r with
  | none => some (.val (.map (some H.size)) (H.new (.map [] 0)))
  | some _ => none
noncomputable def xMakeSlice (t : TypeId) (l c : Operand) (E : Env) (o : Oper) (F : Fr) (H : AHeap) : Option AOut := aMakeSlice E H t (ev l F) (ev c F)
noncomputable def xSlice (t : TypeId) (x : Operand) (lo hi mx : Option Operand) (E : Env) (o : Oper) (F : Fr) (H : AHeap) : Option AOut := oval H (sliceIn E t (evOpt F lo) (evOpt F hi) (evOpt F mx) (ev x F))
noncomputable def xFieldAddr (s : TypeId) (x : Operand) (f : Nat) (E : Env) (o : Oper) (F : Fr) (H : AHeap) : Option AOut := fieldAt E H s f (ev x F)
noncomputable def xField (t : TypeId) (x : Operand) (f : Nat) (E : Env) (o : Oper) (F : Fr) (H : AHeap) : Option AOut := oval H (fieldIn (ev x F) E t f)
noncomputable def xIndexAddr (t : TypeId) (x i : Operand) (E : Env) (o : Oper) (F : Fr) (H : AHeap) : Option AOut := (Option.rec (motive := fun _ => Option AOut) (none) (fun k => idxAddr E H t k (ev x F))) (intIdx (ev i F))
noncomputable def xIndex (t : TypeId) (x i : Operand) (E : Env) (o : Oper) (F : Fr) (H : AHeap) : Option AOut := (Option.rec (motive := fun _ => Option AOut) (none) (fun k => oval H (idxIn E t k (ev x F)))) (intIdx (ev i F))
noncomputable def xLookup (t : TypeId) (x k : Operand) (ok : Bool) (E : Env) (o : Oper) (F : Fr) (H : AHeap) : Option AOut := oval H (aLookup E H t (ev x F) (ev k F) ok)
noncomputable def xMapSet (t : TypeId) (m k x : Operand) (E : Env) (o : Oper) (F : Fr) (H : AHeap) : Option AOut := ounit (aMapSet E H t (ev k F) (ev x F) (ev m F))
noncomputable def xRange (t : TypeId) (x : Operand) (E : Env) (o : Oper) (F : Fr) (H : AHeap) : Option AOut := aRange E t H (ev x F)
noncomputable def xNext (it : Operand) (s : Bool) (E : Env) (o : Oper) (F : Fr) (H : AHeap) : Option AOut := aNext H s (ev it F)
noncomputable def xEntry (it : Operand) (E : Env) (o : Oper) (F : Fr) (H : AHeap) : Option AOut := oval H (aEntry H (ev it F))
noncomputable def xExtract (t : Operand) (ix : Nat) (E : Env) (o : Oper) (F : Fr) (H : AHeap) : Option AOut := oval H (extractOf (ev t F) ix)
noncomputable def xCall (c : Call) (E : Env) (o : Oper) (F : Fr) (H : AHeap) : Option AOut :=
  (Callee.rec (motive := fun _ => Option AOut) (fun f => aInvoke (ev f F) E H (evs F c.args.toList)) (fun _ _ => none) (fun b => aBuiltin b E H c.argTypes.toList o.type (evs F c.args.toList))) c.callee
def xNone (E : Env) (o : Oper) (F : Fr) (H : AHeap) : Option AOut := none

noncomputable def aExec : Op → Env → Oper → Fr → AHeap → Option AOut :=
  (Op.rec (motive := fun _ => Env → Oper → Fr → AHeap → Option AOut) (xMove) (xMove) (xPick) (xAlloc) (xBox) (xBuild) (xBuildSlice) (xMapSet) (xLoad) (xStore) (fun _ => (xNone)) (fun _ => (xNone)) (xNilCheck) (xBinOp) (xUnOp) (xConvert) (fun _ _ => (xNone)) (fun _ _ => (xNone)) (xMakeFunc) (xMakeMap) (fun _ _ => (xNone)) (xMakeSlice) (xSlice) (xFieldAddr) (xField) (xIndexAddr) (xIndex) (xLookup) (xMapSet) (fun _ _ _ => (xNone)) (fun _ _ _ _ => (xNone)) (xRange) (xNext) (xEntry) (fun _ _ _ _ => (xNone)) (xExtract) (xCall) (fun _ => (xNone)) (fun _ => (xNone)) (fun _ => (xNone)) (fun _ _ => (xNone)) (fun _ _ _ => (xNone)) (fun _ _ => (xNone)))

/-! ### 8. Frames -/
noncomputable def aExitTo (id : Nat) : List AItem → Option (List AItem) :=
  (List.rec (motive := fun _ => Option (List AItem)) (none) (fun x k ih => (AItem.rec (motive := fun _ => Option (List AItem)) (fun _ => (ih)) (fun j => (Bool.rec (motive := fun _ => Option (List AItem)) (ih) (some k)) (Nat.beq j id)) (fun _ => (ih)) (fun _ => (ih)) (fun _ => (ih)) (ih)) x))
noncomputable def aGotoIn (l : Nat) : List AItem → Option (List AItem)
  | .inScope body :: k => match findLabel body l with
    | some rest => some (.code rest :: .inScope body :: k)
    | none => aGotoIn l k
  | _ :: k => aGotoIn l k
  | [] => none

noncomputable def aResult (E : Env) (H : AHeap) (T : Tr Value) : List ResultVar → Option (List Value)
  | [] => some []
  | .tmp t :: r => match aResult E H T r with
    | some vs => some (evalK t T :: vs)
    | none => none
  | .cell a t :: r => match aLoad E H t (evalK a T), aResult E H T r with
    | some v, some vs => some (v :: vs)
    | _, _ => none

def one : List Value → Value
  | [v] => v
  | vs => .tuple ⟨vs⟩

abbrev Res := Option (Value × AHeap)
abbrev Run := FInfo → List ADef → List AItem → Tr Value → AHeap → Res

def retJump : Option Code → Bool
  | none => true
  | some .ret => true
  | _ => false
noncomputable def leaveRes (E : Env) (fn : FuncId) (T : Tr Value) (H : AHeap) : Res := match E.funcs.get fn with
  | none => none
  | some fn => match aResult E H T fn.results.toList with
    | some vs => some (one vs, H)
    | none => none
def endState : Option Code → LoopState
  | none => .ready
  | some _ => .done
noncomputable def leaveRound (H : AHeap) (jump : Option Code) (l : Nat) : Res := match H.get l with
  | some (.loop r) => some (.bool jump.isNone, H.put l (.loop { r with state := endState jump, pending := jump }))
  | _ => none
noncomputable def keepOf (E : Env) (fn : FuncId) : Nat := (Option.rec (motive := fun _ => Nat) (nat_lit 0) (fun m => m)) (E.keep.get fn)

/-- equal values: leaves, and aggregates of leaves -/
noncomputable def eqLeaf : Value → Value → Bool
  | .chan (some a), .chan (some b) => Nat.beq a b
  | .int k a, .int l b => decide (k = l) && decide (a = b)
  | .bool a, .bool b => decide (a = b)
  | .string a, .string b => sameL a.data.toList b.data.toList
  | .slice none a b, .slice none c d => Nat.beq a c && Nat.beq b d
  | .pointer none, .pointer none => true
  | .func (.func f) ⟨[]⟩ ⟨[]⟩, .func (.func g) ⟨[]⟩ ⟨[]⟩ => Nat.beq f g
  | _, _ => false
noncomputable def eqLeaves : List Value → List Value → Bool
  | [], [] => true
  | a :: r, b :: s => match eqLeaf a b with
    | true => eqLeaves r s
    | false => false
  | _, _ => false
noncomputable def eqArg : Value → Value → Bool
  | .agg a, .agg b => eqLeaves a.toList b.toList
  | .agg _, _ => false
  | a, b => eqLeaf a b
noncomputable def eqArgs : List Value → List Value → Bool
  | [], [] => true
  | a :: r, b :: s => match eqArg a b with
    | true => eqArgs r s
    | false => false
  | _, _ => false
/-- what is known of a call -/
noncomputable def conOf (A : Nat) (f : FuncId) (args : List Value) : List Con → Option Value :=
  (List.rec (motive := fun _ => Option Value) (none) (fun c _ ih => (Bool.rec (motive := fun _ => Option Value) (ih) (some c.res)) (Nat.beq c.at_ A && (Nat.beq c.fn f && eqArgs c.args args))))
/-- What is called, run to its end. -/
noncomputable def aEnter0 (f : FuncId) (args : List Value) (H : AHeap) (E : Env) (run : Run) : Res :=
  (Option.rec (motive := fun _ => Res) (none) (fun fn => (Option.rec (motive := fun _ => Res) (none) (fun c => (Bool.rec (motive := fun _ => Res) (none) (run ⟨f, none, fn.ntmps⟩ [] [.code c] (Tr.fillK (keepOf E f) args (nat_lit 0) .leaf) H)) (Nat.ble (lenL args) fn.ntmps))) fn.body)) (E.funcs.get f)
noncomputable def aEnter (f : FuncId) (args : List Value) (H : AHeap) (E : Env) (run : Run) : Res :=
  (Option.rec (motive := fun _ => Res) (aEnter0 f args H E run) (fun r => some (r, H.new .dead))) (conOf H.size f args E.cons)
noncomputable def takeAll (E : Env) (run : Run) : List ADef → AHeap → Option AHeap
  | [], H => some H
  | .mark b :: r, H => match H.get b with
    | some .deferred => takeAll E run r (H.put b .dead)
    | _ => none
  | .call g args :: r, H => match aEnter0 g args H E run with
    | some (_, ⟨o, s, l⟩) => takeAll E run r ⟨o, s, l⟩
    | none => none
noncomputable def leaveFn (E : Env) (run : Run) (fn : FuncId) (d : List ADef) (T : Tr Value) (H : AHeap) : Res := match takeAll E run d H with
  | none => none
  | some H => leaveRes E fn T H
/-- The frame is left. -/
noncomputable def aLeave (jump : Option Code) (E : Env) (run : Run) (fi : FInfo) (d : List ADef) (T : Tr Value) (H : AHeap) : Res :=
  match fi.roundOf with
  | some l => match d with
    | [] => leaveRound H jump l
    | _ => none
  | none => match retJump jump with
    | false => none
    | true => leaveFn E run fi.fn d T H
noncomputable def aRoundIn (l : Nat) (args : List Value) (H : AHeap) (E : Env) (run : Run) (r : ALoop) : Res := match zip2 (keepOf E r.fn) r.nt r.params args r.tmps with
  | some T => run ⟨r.fn, some l, r.nt⟩ [] [.code r.assign, .beginRound, .code r.body] T H
  | none => none
noncomputable def aRound (l : Nat) (args : List Value) (H : AHeap) (E : Env) (run : Run) : Res := match H.get l with
  | some (.loop r) => aRoundIn l args H E run r
  | _ => none
def aVal (v : Value) (H : AHeap) (E : Env) (run : Run) : Res := some (v, H)
noncomputable def aCall : AOut → Env → Run → Res := (AOut.rec (motive := fun _ => Env → Run → Res) (aVal) (aEnter) (aRound))

noncomputable def putL (dst : Option Tmp) (v : Value) (L : Loc) : Loc := (Option.rec (motive := fun _ => Loc) (L) (fun d => .cons d v L)) dst

noncomputable def sameB : Bool → Bool → Bool := (Bool.rec (motive := fun _ => Bool → Bool) (notB) (fun b => b))
/-- a guard is known to be met, or known not to be met -/
noncomputable def wantB (want : Bool) : Value → Option Bool := (Value.rec (motive_1 := fun _ => Option Bool) (motive_2 := fun _ => PUnit) (motive_3 := fun _ => PUnit) (fun b => some (sameB b want)) (fun _ _ => (none)) (fun _ _ => (none)) (fun _ _ _ => (none)) (fun _ => (none)) (fun _ => (none)) (fun _ _ _ => (none)) (fun _ => (none)) ((Option.rec (motive := fun _ => Option Bool) (none) (fun n => (Bool.rec (motive := fun _ => Option Bool) (none) (some false)) (Nat.beq n (nat_lit 0))))) (fun _ _ _ _ _ => (none)) (none) (fun _ _ _ => (none)) (none) (fun _ _ => (none)) (fun _ _ => (none)) (fun _ _ => ⟨⟩) ⟨⟩ (fun _ _ _ _ => ⟨⟩))
noncomputable def dstAt (ops : List Oper) (j : Nat) : Option Tmp := (ops[j]?).bind (·.dst)
noncomputable def aWanted (ops : List Oper) (F : Fr) : Option (Nat × Bool) → Option Bool :=
  (Option.rec (motive := fun _ => Option Bool) (some true) (fun q => (Prod.rec (motive := fun _ => Option Bool) (fun j want => (Option.rec (motive := fun _ => Option Bool) (none) (fun d => wantB want (evalT d F))) (dstAt ops j))) q))

abbrev OpsR := Option (Loc × AHeap)
noncomputable def finOp (dst : Option Tmp) (L : Loc) : Res → OpsR := (Option.rec (motive := fun _ => OpsR) (none) (fun q => (Prod.rec (motive := fun _ => OpsR) (fun v H => AHeap.rec (motive := fun _ => OpsR) (fun o s l => some (putL dst v L, ⟨o, s, l⟩)) H)) q))
noncomputable def goOp (o : Oper) (E : Env) (run : Run) (T : Tr Value) (L : Loc) (H : AHeap) : OpsR :=
  (Option.rec (motive := fun _ => OpsR) (none) (fun out => finOp o.dst L (aCall out E run))) (aExec o.op E o ⟨L, T⟩ H)
/-- an operation that is skipped yields what the model calls undefined: '.chan (some 0)' here -/
noncomputable def dstOk (nt : Nat) : Option Tmp → Bool := (Option.rec (motive := fun _ => Bool) (true) (fun d => Nat.blt d nt))
noncomputable def aOp (ops : List Oper) (nt : Nat) (o : Oper) (E : Env) (run : Run) (T : Tr Value) (L : Loc) (H : AHeap) : OpsR :=
  (Bool.rec (motive := fun _ => OpsR) (none) ((Option.rec (motive := fun _ => OpsR) (none) (fun b => (Bool.rec (motive := fun _ => OpsR) (some (putL o.dst (.chan (some 0)) L, H)) (goOp o E run T L H)) b)) (aWanted ops ⟨L, T⟩ o.guard))) (dstOk nt o.dst)

noncomputable def aOps (ops : List Oper) (nt : Nat) (E : Env) (run : Run) (T : Tr Value) : List Oper → Loc → AHeap → OpsR :=
  (List.rec (motive := fun _ => Loc → AHeap → OpsR) (fun L H => some (L, H)) (fun o _ ih L H => (Option.rec (motive := fun _ => OpsR) (none) (fun p => (Prod.rec (motive := fun _ => OpsR) (ih)) p)) (aOp ops nt o E run T L H)))

/-- what lives on behind the region -/
noncomputable def flush (m : Nat) (T : Tr Value) (L : Loc) : Tr Value :=
  Loc.rec (motive := fun _ => Tr Value) T (fun t v _ ih => (Bool.rec (motive := fun _ => Tr Value) (ih) (Tr.set ih t v)) (bit m t)) L

/-! ### 9. A region that draws its order -/
inductive Ev where
  /-- no memory -/
  | float
  /-- a new block -/
  | new
  | load (A : Nat)
  /-- a store into one block -/
  | st (A : Nat)
  /-- new blocks alone are written -/
  | pure
  /-- these blocks (bits) and new ones are written -/
  | wr (m : Nat)
inductive Kind where
  | float | new | load (a : Operand) | store | len (ats : List TypeId) | other | conv (src dst : TypeId)
def kindB (ats : Array TypeId) : Builtin → Kind
  | .min => .float
  | .max => .float
  | .cap => .float
  | .len => .len ats.toList
  | _ => .other
def kindC (ats : Array TypeId) : Callee → Kind
  | .builtin b => kindB ats b
  | _ => .other
def kindOf : Op → Kind
  | .move _ => .float
  | .assign _ => .float
  | .pick .. => .float
  | .build .. => .float
  | .nilCheck _ => .float
  | .binOp .. => .float
  | .unOp .. => .float
  | .convert s d _ => .conv s d
  | .makeFunc .. => .float
  | .slice .. => .float
  | .fieldAddr .. => .float
  | .field .. => .float
  | .indexAddr .. => .float
  | .index .. => .float
  | .extract .. => .float
  | .alloc _ => .new
  | .box .. => .new
  | .buildSlice .. => .new
  | .makeMap .. => .new
  | .makeSlice .. => .new
  | .load _ a => .load a
  | .store .. => .store
  | .call c => kindC c.argTypes c.callee
  | _ => .other
noncomputable def evLen (E : Env) : List TypeId → Ev
  | t :: _ => match E.under t with
    | some (.slice _) => .float
    | some .string => .float
    | _ => .pure
  | [] => .pure
/-- conversions that look at memory -/
noncomputable def memConv (E : Env) (src dst : TypeId) : Bool := match E.under src, E.under dst with
  | some .unsafePointer, _ => true
  | _, some .unsafePointer => true
  | some (.slice _), _ => true
  | _, some (.slice _) => true
  | _, _ => false
noncomputable def evLow (store : Bool) (low : Nat) : Bool → Ev
  | true => .pure
  | false => match store with
    | true => .st (Nat.log2 low)
    | false => .wr low
/-- nothing below 'size' has been written -/
noncomputable def noneBelow (size low : Nat) : Bool := Nat.beq (Nat.mod low (Nat.pow (nat_lit 2) size)) (nat_lit 0)
noncomputable def evOf (E : Env) (F : Fr) (size low : Nat) : Kind → Ev
  | .float => .float
  | .new => .new
  | .load a => match addrOf (ev a F) with
    | some (A, _) => .load A
    | none => .pure
  | .len ats => evLen E ats
  | .store => evLow true low (noneBelow size low)
  | .other => evLow false low (noneBelow size low)
  | .conv s d => match memConv E s d with
    | true => evLow false low (noneBelow size low)
    | false => .float
/-- may the two stand in either order? -/
noncomputable def evApart : Ev → Ev → Bool
  | .new, .wr _ => false
  | .wr _, .new => false
  | .new, _ => true
  | _, .new => true
  | .float, _ => true
  | _, .float => true
  | .load _, .load _ => true
  | .load _, .pure => true
  | .pure, .load _ => true
  | .load A, .wr m => !(bit m A)
  | .wr m, .load A => !(bit m A)
  | .load A, .st B => !(Nat.beq A B)
  | .st B, .load A => !(Nat.beq A B)
  | .st B, .st A => !(Nat.beq A B)
  | _, _ => false
/-- every earlier one is ordered ahead of e (bits of m), or apart from it -/
noncomputable def evCheck1 (e : Ev) (m : Nat) : List Ev → Nat → Bool
  | [], _ => true
  | f :: r, i => match bit m i || evApart f e with
    | true => evCheck1 e m r (Nat.succ i)
    | false => false
noncomputable def evCheck : (befores : List Nat) → (done todo : List Ev) → Bool
  | m :: ms, done, e :: es => match evCheck1 e m done 0 with
    | true => evCheck ms (done ++ [e]) es
    | false => false
  | _, _, [] => true
  | [], _, _ :: _ => false
def bindsE : Ground → Bool
  | .textOnly _ => false
  | .gcOnly _ => false
  | _ => true
/-- the bits of what is ordered ahead: 'acc' holds those of the operations so far -/
noncomputable def edgeBits (acc : List Nat) : List Edge → Nat → Nat
  | [], m => m
  | e :: r, m => match bindsE e.ground with
    | true => edgeBits acc r (Nat.lor (Nat.lor m (Nat.shiftLeft 1 e.on)) (acc[e.on]?.getD 0))
    | false => edgeBits acc r m
noncomputable def befores : List Nat → List Oper → List Nat
  | acc, [] => acc
  | acc, o :: r => forceN (edgeBits acc o.after.toList 0) fun b => befores (acc ++ [b]) r
def opTmps : List Operand → List Tmp
  | [] => []
  | .tmp t :: r => t :: opTmps r
  | _ :: r => opTmps r
def guardTmp (ops : List Oper) : Option (Nat × Bool) → List Tmp
  | none => []
  | some (j, _) => match (ops[j]?).bind (·.dst) with
    | some d => [d]
    | none => []
/-- all that an operation names -/
def namesOf (ops : List Oper) (o : Oper) : List Tmp := guardTmp ops o.guard ++ opTmps o.op.operands.toList
noncomputable def memN (t : Nat) : List Nat → Bool
  | [] => false
  | x :: r => match Nat.beq t x with
    | true => true
    | false => memN t r
noncomputable def memO (d : Option Tmp) (l : List Tmp) : Bool := match d with
  | some t => memN t l
  | none => false
noncomputable def sameO (d e : Option Tmp) : Bool := match d, e with
  | some t, some u => Nat.beq t u
  | _, _ => false
/-- an earlier operation (dst d, names ns) and a later one (dst, names) do not touch -/
noncomputable def tmpApart (d : Option Tmp) (ns : List Tmp) (dst : Option Tmp) (names : List Tmp) : Bool := !(memO d names || memO dst ns || sameO d dst)
noncomputable def tmpCheck1 (m : Nat) (dst : Option Tmp) (names : List Tmp) : List (Option Tmp × List Tmp) → Nat → Bool
  | [], _ => true
  | (d, ns) :: r, i => match bit m i || tmpApart d ns dst names with
    | true => tmpCheck1 m dst names r (Nat.succ i)
    | false => false
noncomputable def tmpCheck (ops : List Oper) : List Nat → List (Option Tmp × List Tmp) → List Oper → Bool
  | m :: ms, done, o :: r => match tmpCheck1 m o.dst (namesOf ops o) done 0 with
    | true => tmpCheck ops ms (done ++ [(o.dst, namesOf ops o)]) r
    | false => false
  | _, _, [] => true
  | [], _, _ :: _ => false
/-- edges that bind lead back -/
noncomputable def edgesBack : Nat → List Edge → Bool
  | _, [] => true
  | i, e :: r => match Nat.blt e.on i || !(bindsE e.ground) with
    | true => edgesBack i r
    | false => false
noncomputable def backCheck : Nat → List Oper → Bool
  | _, [] => true
  | i, o :: r => match edgesBack i o.after.toList with
    | true => backCheck (Nat.succ i) r
    | false => false
noncomputable def regOk (ops : List Oper) : Bool := match backCheck 0 ops with
  | true => tmpCheck ops (befores [] ops) [] ops
  | false => false

noncomputable def resetLow : AHeap → AHeap
  | ⟨o, s, _⟩ => ⟨o, s, nat_lit 0⟩
noncomputable def lowered (l : Nat) : AHeap → AHeap
  | ⟨o, s, m⟩ => ⟨o, s, Nat.lor l m⟩
noncomputable def evAt (ops : List Oper) (o : Oper) (E : Env) (F : Fr) (size low : Nat) : Ev := match aWanted ops F o.guard with
  | some true => evOf E F size low (kindOf o.op)
  | _ => .float
abbrev OpsD := Option (Loc × AHeap × List Ev)
noncomputable def consEv (e : Ev) : OpsD → OpsD
  | some (T, H, l) => some (T, H, e :: l)
  | none => none
noncomputable def aOpsD (ops : List Oper) (nt : Nat) (E : Env) (run : Run) (T : Tr Value) : List Oper → Loc → AHeap → OpsD
  | [], L, H => some (L, H, [])
  | o :: r, L, H => match aOp ops nt o E run T L (resetLow H) with
    | some (L', H') => consEv (evAt ops o E ⟨L, T⟩ H.size H'.low) (aOpsD ops nt E run T r L' (lowered H.low H'))
    | none => none

/-! ### 10. The run -/
abbrev Step := List AItem → Env → Run → FInfo → List ADef → Tr Value → AHeap → Res
noncomputable def sPop (k : List AItem) (E : Env) (ih : Run) (fi : FInfo) (d : List ADef) (T : Tr Value) (H : AHeap) : Res := ih fi d k T H
noncomputable def sRet (k : List AItem) (E : Env) (ih : Run) (fi : FInfo) (d : List ADef) (T : Tr Value) (H : AHeap) : Res := aLeave (some .ret) E ih fi d T H
noncomputable def sSeq (a b : Code) (k : List AItem) (E : Env) (ih : Run) (fi : FInfo) (d : List ADef) (T : Tr Value) (H : AHeap) : Res := ih fi d (.code a :: .code b :: k) T H
noncomputable def condOf : Value → Code → Code → Option Code := (Value.rec (motive_1 := fun _ => Code → Code → Option Code) (motive_2 := fun _ => PUnit) (motive_3 := fun _ => PUnit) ((Bool.rec (motive := fun _ => Code → Code → Option Code) (fun _ b => some b) (fun a _ => some a))) (fun _ _ => (fun _ _ => none)) (fun _ _ => (fun _ _ => none)) (fun _ _ _ => (fun _ _ => none)) (fun _ => (fun _ _ => none)) (fun _ => (fun _ _ => none)) (fun _ _ _ => (fun _ _ => none)) (fun _ => (fun _ _ => none)) (fun _ => (fun _ _ => none)) (fun _ _ _ _ _ => (fun _ _ => none)) (fun _ _ => none) (fun _ _ _ => (fun _ _ => none)) (fun _ _ => none) (fun _ _ => (fun _ _ => none)) (fun _ _ => (fun _ _ => none)) (fun _ _ => ⟨⟩) ⟨⟩ (fun _ _ _ _ => ⟨⟩))
noncomputable def sCond (c : Operand) (a b : Code) (k : List AItem) (E : Env) (ih : Run) (fi : FInfo) (d : List ADef) (T : Tr Value) (H : AHeap) : Res :=
  (Option.rec (motive := fun _ => Res) (none) (fun x => ih fi d (.code x :: k) T H)) (condOf (ev c ⟨.nil, T⟩) a b)
noncomputable def sBlock (id : Nat) (body : Code) (k : List AItem) (E : Env) (ih : Run) (fi : FInfo) (d : List ADef) (T : Tr Value) (H : AHeap) : Res := ih fi d (.code body :: .inBlock id :: k) T H
noncomputable def sLoop (body : Code) (k : List AItem) (E : Env) (ih : Run) (fi : FInfo) (d : List ADef) (T : Tr Value) (H : AHeap) : Res := ih fi d (.code body :: .inLoop body :: k) T H
noncomputable def sScope (body : Code) (k : List AItem) (E : Env) (ih : Run) (fi : FInfo) (d : List ADef) (T : Tr Value) (H : AHeap) : Res := ih fi d (.code body :: .inScope body :: k) T H
noncomputable def sExit (id : Nat) (k : List AItem) (E : Env) (ih : Run) (fi : FInfo) (d : List ADef) (T : Tr Value) (H : AHeap) : Res :=
  (Option.rec (motive := fun _ => Res) (aLeave (some (.exit id)) E ih fi d T H) (fun k' => ih fi d k' T H)) (aExitTo id k)
noncomputable def sGoto (l : Nat) (k : List AItem) (E : Env) (ih : Run) (fi : FInfo) (d : List ADef) (T : Tr Value) (H : AHeap) : Res :=
  (Option.rec (motive := fun _ => Res) (aLeave (some (.goto l)) E ih fi d T H) (fun k' => ih fi d k' T H)) (aGotoIn l k)
noncomputable def sRefuse (why : String) (k : List AItem) (E : Env) (ih : Run) (fi : FInfo) (d : List ADef) (T : Tr Value) (H : AHeap) : Res := none

noncomputable def sRange2 (l : Nat) (k : List AItem) (mark : List ADef) (ih : Run) (fi : FInfo) (d : List ADef) (T : Tr Value) : Res → Res
  | some (_, ⟨o, s, m⟩) => ih fi (mark ++ d) (.endRangeFunc l :: k) T ⟨o, s, m⟩
  | none => none
noncomputable def sRange1 (f : Operand) (ps : Array Tmp) (assign body : Code) (k : List AItem) (E : Env) (ih : Run) (fi : FInfo) (d : List ADef) (T : Tr Value) (df : Nat) (mark : List ADef) (H : AHeap) : Res :=
  match aInvoke (ev f ⟨.nil, T⟩) E (H.new (.loop { state := .ready, pending := none, fn := fi.fn, tmps := T, params := ps.toList, assign, body, defers := df, nt := fi.nt })) [.func (.yield H.size) #[] #[]] with
  | some out => sRange2 H.size k mark ih fi d T (aCall out E ih)
  | none => none
noncomputable def sRange (f : Operand) (ps : Array Tmp) (assign body : Code) (k : List AItem) (E : Env) (ih : Run) (fi : FInfo) (d : List ADef) (T : Tr Value) (H : AHeap) : Res :=
  match fi.roundOf with
  | none => sRange1 f ps assign body k E ih fi d T H.size [.mark H.size] (H.new .deferred)
  | some l => match H.get l with
    | some (.loop r) => sRange1 f ps assign body k E ih fi d T r.defers [] H
    | _ => none

/-- the operations ahead of a deferred call that ends them -/
def ahead : List Oper → Option (List Oper × Call)
  | [] => none
  | [o] => match o.op, o.dst, o.guard with
    | .defer c, none, none => some ([], c)
    | _, _, _ => none
  | o :: r => match ahead r with
    | some (l, c) => some (o :: l, c)
    | none => none
def deferOf (args : List Value) : Value → Option ADef
  | .func (.func g) first cap => some (.call g (first.toList ++ (args ++ cap.toList)))
  | _ => none
noncomputable def defOf (E : Env) (c : Call) (L : Loc) (T : Tr Value) : Option ADef := match c.callee with
  | .value f => deferOf (evs ⟨L, T⟩ c.args.toList) (ev f ⟨L, T⟩)
  | _ => none
noncomputable def sDef2 (E : Env) (c : Call) (k : List AItem) (ih : Run) (fi : FInfo) (d : List ADef) (T : Tr Value) : OpsR → Res
  | some (L, H) => match defOf E c L T with
    | some x => ih fi (x :: d) k (flush (keepOf E fi.fn) T L) H
    | none => none
  | none => none
/-- a region that ends in a deferred call -/
noncomputable def sDef (ops : List Oper) (E : Env) (k : List AItem) (ih : Run) (fi : FInfo) (d : List ADef) (T : Tr Value) (H : AHeap) : Res := match fi.roundOf, ahead ops with
  | none, some (l, c) => sDef2 E c k ih fi d T (aOps ops fi.nt E ih T l .nil H)
  | _, _ => none
noncomputable def sReg2 (ops : List Oper) (H0 : AHeap) (E : Env) (k : List AItem) (ih : Run) (fi : FInfo) (d : List ADef) (T : Tr Value) : OpsR → Res :=
  (Option.rec (motive := fun _ => Res) (sDef ops E k ih fi d T H0) (fun p => (Prod.rec (motive := fun _ => Res) (fun L H => ih fi d k (flush (keepOf E fi.fn) T L) H)) p))
noncomputable def sReg3 (E : Env) (ops : List Oper) (k : List AItem) (ih : Run) (fi : FInfo) (d : List ADef) (T : Tr Value) : OpsD → Res
  | some (L, H, evs) => match regOk ops with
    | true => match evCheck (befores [] ops) [] evs with
      | true => ih fi d k (flush (keepOf E fi.fn) T L) H
      | false => none
    | false => none
  | none => none
noncomputable def sRegion (id : Nat) (ops : Array Oper) (draw : Bool) (k : List AItem) (E : Env) (ih : Run) (fi : FInfo) (d : List ADef) (T : Tr Value) (H : AHeap) : Res :=
  (Bool.rec (motive := fun _ => Res) (sReg2 ops.toList H E k ih fi d T (aOps ops.toList fi.nt E ih T ops.toList .nil H)) (sReg3 E ops.toList k ih fi d T (aOpsD ops.toList fi.nt E ih T ops.toList .nil H))) draw

noncomputable def stepCode : Code → Step :=
  (Code.rec (motive := fun _ => Step) (sPop) (sRegion) (fun a b _ _ => sSeq a b) (fun c a b _ _ => sCond c a b) (fun id b _ => sBlock id b) (fun b _ => sLoop b) (fun f ps a b _ _ => sRange f ps a b) (sExit) (fun b _ => sScope b) (fun _ => (sPop)) (sGoto) (sRet) (sRefuse))

noncomputable def sBegin (k : List AItem) (E : Env) (ih : Run) (fi : FInfo) (d : List ADef) (T : Tr Value) (H : AHeap) : Res :=
  match fi.roundOf with
  | none => none
  | some l => match H.get l with
    | some (.loop r) => match r.state with
      | .ready => ih fi d k T (H.put l (.loop { r with state := .busy }))
      | _ => none
    | _ => none
def pend (k : List AItem) : Option Code → List AItem
  | some c => .code c :: k
  | none => k
def notBusy : LoopState → Bool
  | .busy => false
  | _ => true
noncomputable def sEnd (l : Nat) (k : List AItem) (E : Env) (ih : Run) (fi : FInfo) (d : List ADef) (T : Tr Value) (H : AHeap) : Res :=
  match H.get l with
  | some (.loop r) => match notBusy r.state with
    | true => ih fi d (pend k r.pending) T (H.put l (.loop { r with state := .exhausted }))
    | false => none
  | _ => none
noncomputable def stepItem : AItem → Step :=
  (AItem.rec (motive := fun _ => Step) (stepCode) (fun _ => (sPop)) (sLoop) (fun _ => (sPop)) (sEnd) (sBegin))
noncomputable def sDone (E : Env) (ih : Run) (fi : FInfo) (d : List ADef) (T : Tr Value) (H : AHeap) : Res := aLeave none E ih fi d T H
noncomputable def stepTodo : List AItem → Env → Run → FInfo → List ADef → Tr Value → AHeap → Res :=
  (List.rec (motive := fun _ => Env → Run → FInfo → List ADef → Tr Value → AHeap → Res) (sDone) (fun i k _ => stepItem i k))
noncomputable def aRun (E : Env) : Nat → Run :=
  (Nat.rec (motive := fun _ => Run) (fun _ _ _ _ _ => none) (fun _ ih fi d todo T H => stepTodo todo E ih fi d T H))

def emptyHeap : AHeap := { objs := .leaf, size := 0, low := 0 }
def noClaim : Claim := ⟨fun _ _ => True, fun _ _ _ _ _ _ _ _ _ _ _ => trivial⟩
noncomputable def envWith (p : Program) (nats : List (FuncId × NatK)) (keep : List Nat) (cons : List Con) (post : Nat → (Nat → Value) → Claim) : Env := { prog := p, funcs := Tr.ofList p.funcs.toList, types := Tr.ofList p.types.toList, nats, keep := Tr.ofList keep, cons, post }
noncomputable def envOf (p : Program) (nats : List (FuncId × NatK)) (keep : List Nat) : Env := envWith p nats keep [] fun _ _ => noClaim
/-- a call at an empty memory -/
noncomputable def aTop (E : Env) (n : Nat) (f : FuncId) (args : List Value) : Res := aEnter0 f args emptyHeap E (aRun E n)
noncomputable def isTrue : Res → Bool := (Option.rec (motive := fun _ => Bool) (false) (fun q => (Prod.rec (motive := fun _ => Bool) (fun v _ => (Value.rec (motive_1 := fun _ => Bool) (motive_2 := fun _ => PUnit) (motive_3 := fun _ => PUnit) (fun b => b) (fun _ _ => (false)) (fun _ _ => (false)) (fun _ _ _ => (false)) (fun _ => (false)) (fun _ => (false)) (fun _ _ _ => (false)) (fun _ => (false)) (fun _ => (false)) (fun _ _ _ _ _ => (false)) (false) (fun _ _ _ => (false)) (false) (fun _ _ => (false)) (fun _ _ => (false)) (fun _ _ => ⟨⟩) ⟨⟩ (fun _ _ _ _ => ⟨⟩)) v)) q))
end Go.Abs
