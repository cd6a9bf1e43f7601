/- The abstract layer, part 5: from a program's operations to those of part 3, and what it is that a step comes to. -/
import Derived.Test.YtookmilggbnoiaaGreatAbMem
import Derived.RangeFuncBox
import Derived.RangeFuncCalls
import Derived.RangeFuncLeaves
set_option linter.unusedSimpArgs false
set_option linter.unusedVariables false
namespace Go.Ab

def oneCells (vs : Array Value) : Bool := vs.toList.all fun v => v.oneCell'

def compArg : Operand → Option Arg
  | .tmp t => some (.t t)
  | .const (.agg cs) => bif oneCells cs then some (.k (.agg (cs.toList.map .raw))) else none
  | .const v => some (.k (.raw v))
  | .func f => some (.k (.func (.func f) [] []))
  | .global _ => none

def compArgs : List Operand → Option (List Arg)
  | [] => some []
  | x :: xs => (compArg x).bind fun a => (compArgs xs).map fun as => a :: as

def compArg? : Option Operand → Option (Option Arg)
  | none => some none
  | some x => (compArg x).map some

/-- The cells of a type's zero value. -/
def zeroOf (P : Program) (t : TypeId) : Option (List Value) :=
  (P.info? t).bind fun i => i.zero.bind fun z => bif oneCells z.cells then some z.cells.toList else none

def sizeTy (P : Program) (t : TypeId) : Option Nat := (P.info? t).map (·.size)
def bytesTy (P : Program) (t : TypeId) : Option Nat := (P.info? t).map (·.bytes)

/-- A part of an aggregate: as one cell, or as so many. -/
def partOf (P : Program) (t : TypeId) : Option (Option Nat) :=
  (P.underlying t).bind fun d => bif aggDesc d then (sizeTy P t).map some else some none

def compParts (place : Nat → Option (Nat × Nat)) : List (Nat × Operand) → Option (List (Nat × Nat × Arg))
  | [] => some []
  | (i, x) :: rest => (place i).bind fun p => (compArg x).bind fun a => (compParts place rest).map fun r => (p.1, p.2, a) :: r

/-- Where a struct's fields lie. -/
def fieldPlaces (P : Program) (fields : Array Field) : Option (List (Nat × Nat)) :=
  fields.toList.mapM fun f => (sizeTy P f.type).map fun s => (f.offset, s)

/-- Types whose values are told apart by their cells: numbers, bools, and structs and arrays of these. Which cells are numbers. -/
def plainTy (P : Program) : Nat → TypeId → Option (List Bool)
  | 0, _ => none
  | d + 1, t =>
    match P.underlying t with
    | some (.int _) => some [true]
    | some .bool => some [false]
    | some (.array n e) => (plainTy P d e).bind fun m => if sizeTy P e = some m.length then some (List.replicate n m).flatten else none
    | some (.struct fs) => if P.stoodInHeld t then none else
      fs.toList.foldl (fun acc f => acc.bind fun sh => (plainTy P d f.type).bind fun m =>
        if f.offset = sh.length ∧ f.name ≠ "_" ∧ sizeTy P f.type = some m.length then some (sh ++ m) else none) (some [])
    | _ => none

def isPlain (P : Program) (t : TypeId) : Option (List Bool) :=
  match P.underlying t with
  | some (.struct _) | some (.array _ _) => if P.eqGuardType P.depth t then none else plainTy P 20 t
  | _ => none

def isNilArg : Arg → Bool
  | .k (.raw (.slice none 0 0)) => true
  | _ => false
theorem isNilArg_eq {y : Arg} (h : isNilArg y = true) : y = .k (.raw (.slice none 0 0)) := by
  unfold isNilArg at h
  split at h
  · rfl
  · cases h

def compBin (P : Program) (op : BinOp) (t : TypeId) (x y : Arg) : Option XOp :=
  match op with
  | .eql | .neq =>
    match P.underlying t with
    | some (.int _) | some .string => some (.bin op x y)
    | some .bool => some (.eq .bool (op == .neq) x y)
    | some (.pointer _) => some (.eq .ptr (op == .neq) x y)
    | some (.slice _) => bif isNilArg y then some (.isNil (op == .neq) x) else some (.eq .slice (op == .neq) x y)
    | some (.map _ _) => some (.eq .map (op == .neq) x y)
    | some (.func _ _ _) => some (.eq .func (op == .neq) x y)
    | _ => (isPlain P t).map fun sh => .eq (.plain sh) (op == .neq) x y
  | _ => some (.bin op x y)

/-- May this be appended? -/
def isSrcDesc : TypeDesc → Bool
  | .string | .slice _ => true
  | _ => false

def compBuiltin (P : Program) (b : Builtin) (ts : Array TypeId) (args : List Arg) : Option XOp :=
  match b, args with
  | .append, [x, y] =>
    match ts[0]?.bind P.underlying, ts[1]?.bind P.underlying with
    | some (.slice e), some (.int _) => (sizeTy P e).bind fun s => (bytesTy P e).bind fun b => (zeroOf P e).bind fun z => if z.length = s ∧ 0 < s ∧ 0 < b then some (.appendZ s b z x y) else none
    | some (.slice e), some d => bif isSrcDesc d then (sizeTy P e).bind fun s => (bytesTy P e).bind fun b => (zeroOf P e).bind fun z => if z.length = s ∧ 0 < s ∧ 0 < b then some (.append s b x y) else none else none
    | _, _ => none
  | .copy, [x, y] =>
    match ts[0]?.bind P.underlying with
    | some (.slice e) => (sizeTy P e).map fun s => .copy s x y
    | _ => none
  | .clear, [x] =>
    match ts[0]?.bind P.underlying with
    | some (.slice e) => (zeroOf P e).bind fun z => if sizeTy P e = some z.length ∧ 0 < z.length then some (.clear z x) else none
    | _ => none
  | .len, [x] =>
    match ts[0]?.bind P.underlying with
    | some .string => some (.lenStr x)
    | some (.slice _) => some (.len x)
    | some (.array n _) => some (.konst (.raw (.int .i64 n)))
    | some (.pointer a) => match P.underlying a with | some (.array n _) => some (.konst (.raw (.int .i64 n))) | _ => none
    | _ => none
  | .cap, [x] =>
    match ts[0]?.bind P.underlying with
    | some (.slice _) => some (.cap x)
    | _ => none
  | .min, x :: xs => some (.minMax false x xs)
  | .max, x :: xs => some (.minMax true x xs)
  | _, _ => none

/-- A function with a body, entered by a call. -/
def enters (P : Program) (f : FuncId) : Bool :=
  match P.funcs[f]? with
  | some fn => fn.name != "runtime.NumGoroutine" && fn.body.isSome
  | none => false

def compOp (P : Program) (o : Oper) : Option XOp :=
  match o.op with
  | .move x | .assign x => (compArg x).map .mv
  | .pick c a b => (compArg c).bind fun c => (compArg a).bind fun a => (compArg b).map fun b => .pick c a b
  | .alloc t => (zeroOf P t).map .alloc
  | .box _ x => (compArg x).map .box
  | .build t parts =>
    (zeroOf P t).bind fun z =>
      match P.underlying t with
      | some (.struct fields) => (fieldPlaces P fields).bind fun ps => (compParts (ps[·]?) parts.toList).map fun r => .build z r
      | some (.array _ e) => (sizeTy P e).bind fun s => (compParts (fun i => some (i * s, s)) parts.toList).map fun r => .build z r
      | _ => none
  | .buildSlice t len parts =>
    match P.underlying t with
    | some (.slice e) => (sizeTy P e).bind fun s => (zeroOf P e).bind fun z => if len * s ≤ 2 ^ 24 ∧ z.length = s ∧ 0 < s then
        (compParts (fun i => some (i * s, s)) parts.toList).map fun r => .buildF len (List.replicate len z).flatten r else none
    | _ => none
  | .load t x => (partOf P t).bind fun n => (compArg x).map fun x => .load n x
  | .store t x v => (sizeTy P t).bind fun n => (compArg x).bind fun x => (compArg v).map fun v => .store n x v
  | .nilCheck x => (compArg x).map .nilCheck
  | .binOp op t x y _ => (compArg x).bind fun x => (compArg y).bind fun y => compBin P op t x y
  | .unOp op _ x => (compArg x).map fun x => .un op x
  | .convert src dst x =>
    match P.underlying src, P.underlying dst with
    | some _, some (.int k) => (compArg x).map fun x => .conv k x
    | some .string, some (.slice e) => match P.underlying e with | some (.int .u8) => (compArg x).map .strBytes | _ => none
    | _, _ => none
  | .sliceToArrayPointer t x =>
    match P.underlying t with
    | some (.array n e) => (sizeTy P e).bind fun s => (compArg x).map fun x => .arrPtr n s x
    | _ => none
  | .makeFunc fn first captured => (compArgs first.toList).bind fun f => (compArgs captured.toList).map fun c => .mkFunc fn f c
  | .makeSlice t l c =>
    match P.underlying t with
    | some (.slice e) => (sizeTy P e).bind fun s => (bytesTy P e).bind fun b => (zeroOf P e).bind fun z => if z.length = s ∧ 0 < s then (compArg l).bind fun l => (compArg c).map fun c => .mkSlice s b z l c else none
    | _ => none
  | .slice t x lo hi mx =>
    (compArg x).bind fun x => (compArg? lo).bind fun lo => (compArg? hi).bind fun hi => (compArg? mx).bind fun mx =>
      if mx.isSome && !hi.isSome then none else
      match P.underlying t with
      | some (.slice e) => (sizeTy P e).map fun s => .slice s x lo hi mx
      | some (.array n e) => (sizeTy P e).map fun s => .sliceArr n s x lo hi mx
      | _ => none
  | .fieldAddr s x f =>
    match P.underlying s with
    | some (.struct fields) => (fields[f]?).bind fun fd => (sizeTy P fd.type).bind fun n => if n = 0 then none else (compArg x).map fun x => .fieldAddr fd.offset x
    | _ => none
  | .field s x f =>
    match P.underlying s with
    | some (.struct fields) => (fields[f]?).bind fun fd => (partOf P fd.type).bind fun n => (compArg x).map fun x => .field fd.offset n x
    | _ => none
  | .indexAddr t x i =>
    match P.underlying t with
    | some (.array n e) => (sizeTy P e).bind fun s => (compArg x).bind fun x => (compArg i).map fun i => .idxAddrArr n s x i
    | some (.slice e) => (sizeTy P e).bind fun s => (compArg x).bind fun x => (compArg i).map fun i => .idxAddr s x i
    | _ => none
  | .index t x i =>
    match P.underlying t with
    | some (.array n e) => (sizeTy P e).bind fun s => (partOf P e).bind fun z => (compArg x).bind fun x => (compArg i).map fun i => .idxArr n s z x i
    | some .string => (compArg x).bind fun x => (compArg i).map fun i => .idxStr x i
    | _ => none
  | .extract x i => (compArg x).map fun x => .extract x i
  | .call { callee := .value (.func f), args, .. } => if enters P f = true then (compArgs args.toList).map fun as => .call f as else none
  | .call { callee := .value fv, args, .. } => (compArg fv).bind fun fv => (compArgs args.toList).map fun as => .callv fv as
  | .call { callee := .builtin b, args, argTypes } => (compArgs args.toList).bind fun as => compBuiltin P b argTypes as
  | _ => none

variable (P : Program)

/-- What came of a step: some abstract value and heap of which 'K' holds. -/
def Got (φ : Emb) (A : Heap) (w : World) (K : AVal → Heap → Prop) (v : Value) (w' : World) : Prop :=
  ∃ φ' a A', K a A' ∧ V φ' A' w' a v ∧ R φ' A' w' ∧ Ext φ A w φ' A' w'

/-- A call, told abstractly: whatever world the heap stands for, the call returns, and of the value and the heap behind it 'Q' holds. -/
def J (f : Nat) (args : List AVal) (A : Heap) (Q : AVal → Heap → Prop) : Prop :=
  enters P f = true ∧ ∀ (φ : Emb) (w : World) (vs : List Value), R φ A w → Vl φ A w args vs →
    Calls P f vs.toArray w fun e w' => ∃ v, e = .returned v ∧ Got φ A w Q v w'

/-- A round of a loop over a function, told abstractly: 'i' is the loop's record. -/
def JR (i : Nat) (args : List AVal) (A : Heap) (Q : AVal → Heap → Prop) : Prop :=
  A.live i ∧ ∀ (φ : Emb) (w : World) (vs : List Value), R φ A w → Vl φ A w args vs →
    ∃ f tmps assign body, (Instr.yield (φ i) vs.toArray).run P w = .ok (.round (φ i) f tmps assign body) w ∧
      RoundIn Fence.wide 0 P (φ i) f tmps assign body w fun e w' => ∃ v, e = .returned v ∧ Got φ A w Q v w'

def Res (φ : Emb) (A : Heap) (w : World) (K : AVal → Heap → Prop) : Result Next → Prop
  | .ok (.value v) w' => Got φ A w K v w'
  | .ok .skip w' => Got φ A w K Go.undef w'
  | .ok (.enter f args) w' => Calls P f args w' fun e w'' => ∃ v, e = .returned v ∧ Got φ A w K v w''
  | .ok (.round l f tmps asg body) w' => RoundIn Fence.wide 0 P l f tmps asg body w' fun e w'' => ∃ v, e = .returned v ∧ Got φ A w K v w''
  | _ => False

def req (p : Prop) [Decidable p] (k : Prop) : Prop := p ∧ k

/-- What an operation asks, as a proposition. -/
def ask (x : XOp) (ts : List AVal) (A : Heap) (K : AVal → Heap → Prop) : Prop := astep req False (J P) (JR P) (fun k => ∀ b, k b) x ts A K

theorem Got.same {φ : Emb} {A : Heap} {w : World} {K : AVal → Heap → Prop} {a : AVal} {v : Value} (hR : R φ A w) (hv : V φ A w a v) (h : K a A) : Got φ A w K v w :=
  ⟨φ, a, A, h, hv, hR, .of_heap hR rfl⟩

theorem Got.mono {φ : Emb} {A : Heap} {w w' : World} {K K' : AVal → Heap → Prop} {v : Value} (hk : ∀ a A', K a A' → K' a A') (h : Got φ A w K v w') : Got φ A w K' v w' := by
  obtain ⟨φ', a, A', h1, h2⟩ := h
  exact ⟨φ', a, A', hk _ _ h1, h2⟩

theorem JR.mono {P : Program} {i : Nat} {args : List AVal} {A : Heap} {Q Q' : AVal → Heap → Prop} (h : JR P i args A Q) (hq : ∀ a A', Q a A' → Q' a A') : JR P i args A Q' :=
  ⟨h.1, fun φ w vs hR hv => by
    obtain ⟨f, tmps, assign, body, h1, h2⟩ := h.2 φ w vs hR hv
    exact ⟨f, tmps, assign, body, h1, h2.mono fun _ _ ⟨v, he, hg⟩ => ⟨v, he, hg.mono hq⟩⟩⟩

theorem J.mono {P : Program} {f : Nat} {args : List AVal} {A : Heap} {Q Q' : AVal → Heap → Prop} (h : J P f args A Q) (hq : ∀ a A', Q a A' → Q' a A') : J P f args A Q' :=
  ⟨h.1, fun φ w vs hR hv => (h.2 φ w vs hR hv).mono fun _ _ ⟨v, he, hg⟩ => ⟨v, he, hg.mono hq⟩⟩

end Go.Ab
