/- The abstract layer, part 3: operations with all that they ask of types laid open, what they do to abstract values and heaps, and how they are made out of a program's own operations. -/
import Derived.Test.YtookmilggbnoiaaGreatAbStep
set_option linter.unusedSimpArgs false
set_option linter.unusedVariables false
namespace Go.Ab

/-- An operand: a slot, or a constant. -/
inductive Arg where
  | t (i : Nat)
  | k (a : AVal)

def AVal.undef : AVal := .raw Go.undef

def Arg.ev (ts : List AVal) : Arg → AVal
  | .t i => ts.getD i AVal.undef
  | .k a => a

/-- The value of one cell? (Of 'raw' it is looked at.) -/
def AVal.one : AVal → Bool
  | .raw v => v.oneCell'
  | .agg _ | .tup _ | .any => false
  | _ => true

/-- The cells of a value, if it may stand in cells. -/
def AVal.cells? : AVal → Option (List AVal)
  | .agg cs => some cs
  | a => bif a.one then some [a] else none

/-- Kinds of types whose values are compared. -/
inductive EqK where
  | bool | ptr | slice | map | func
  | plain (sh : List Bool)

inductive XOp where
  | mv (x : Arg)
  | pick (c a b : Arg)
  | box (x : Arg)
  | alloc (zs : List Value)
  | build (zs : List Value) (parts : List (Nat × Nat × Arg))
  | buildSlice (len esz : Nat) (zs : List Value) (parts : List (Nat × Nat × Arg))
  | buildF (len : Nat) (zs : List Value) (parts : List (Nat × Nat × Arg))
  | load (n : Option Nat) (x : Arg)
  | store (n : Nat) (x v : Arg)
  | nilCheck (x : Arg)
  | bin (op : BinOp) (x y : Arg)
  | eq (kd : EqK) (neg : Bool) (x y : Arg)
  | die
  | un (op : UnOp) (x : Arg)
  | conv (k : IntKind) (x : Arg)
  | arrPtr (n esz : Nat) (x : Arg)
  | mkFunc (fn : Fn) (first captured : List Arg)
  | mkSlice (esz bytes : Nat) (zs : List Value) (len cap : Arg)
  | slice (esz : Nat) (x : Arg) (lo hi mx : Option Arg)
  | sliceArr (n esz : Nat) (x : Arg) (lo hi mx : Option Arg)
  | fieldAddr (off : Nat) (x : Arg)
  | field (off : Nat) (n : Option Nat) (x : Arg)
  | idxAddr (esz : Nat) (x i : Arg)
  | idxAddrArr (n esz : Nat) (x i : Arg)
  | idxArr (n esz : Nat) (sz : Option Nat) (x i : Arg)
  | extract (x : Arg) (i : Nat)
  | call (f : Nat) (args : List Arg)
  | callv (fv : Arg) (args : List Arg)
  | append (esz bytes : Nat) (x y : Arg)
  | appendZ (esz bytes : Nat) (zs : List Value) (x n : Arg)
  | copy (esz : Nat) (x y : Arg)
  | clear (zs : List Value) (x : Arg)
  | len (x : Arg)
  | lenStr (x : Arg)
  | idxStr (x i : Arg)
  | strBytes (x : Arg)
  | isNil (neg : Bool) (x : Arg)
  | konst (a : AVal)
  | cap (x : Arg)
  | minMax (max : Bool) (x : Arg) (xs : List Arg)

/-- Cells laid over others, from a place on. -/
def splice (vs : List AVal) (off : Nat) (cs : List AVal) : List AVal := vs.take off ++ (cs ++ vs.drop (off + cs.length))

def afill (ts : List AVal) : List AVal → List (Nat × Nat × Arg) → Option (List AVal)
  | vs, [] => some vs
  | vs, (off, size, x) :: rest =>
    match (x.ev ts).cells? with
    | some cs => if cs.length = size ∧ off + size ≤ vs.length then afill ts (splice vs off cs) rest else none
    | none => none

/-- Cells of numbers (true) and bools (false), compared one by one. -/
def rawEqs : List Bool → List AVal → List AVal → Option Bool
  | [], [], [] => some true
  | true :: sh, .raw (.int k x) :: as, .raw (.int k' y) :: bs => if k = k' then (rawEqs sh as bs).map fun r => x == y && r else none
  | false :: sh, .raw (.bool x) :: as, .raw (.bool y) :: bs => (rawEqs sh as bs).map fun r => x == y && r
  | _, _, _ => none

/-- Equal, where that is told by the values. -/
def aeq : EqK → AVal → AVal → Option Bool
  | .bool, .raw (.bool a), .raw (.bool b) => some (a == b)
  | .ptr, .raw (.pointer none), .raw (.pointer none) => some true
  | .ptr, .ptr _ _, .raw (.pointer none) | .ptr, .raw (.pointer none), .ptr _ _ => some false
  | .ptr, .fptr _, .raw (.pointer none) | .ptr, .raw (.pointer none), .fptr _ => some false
  | .slice, .raw (.slice none _ _), .raw (.slice none _ _) => some true
  | .slice, .sl .., .raw (.slice none _ _) | .slice, .raw (.slice none _ _), .sl .. => some false
  | .slice, .fsl (_ :: _) _ _, .raw (.slice none _ _) | .slice, .raw (.slice none _ _), .fsl (_ :: _) _ _ => some false
  | .map, .raw (.map none), .raw (.map none) => some true
  | .map, .map _, .raw (.map none) | .map, .raw (.map none), .map _ => some false
  | .func, .raw .nilFunc, .raw .nilFunc => some true
  | .func, .func .., .raw .nilFunc | .func, .raw .nilFunc, .func .. => some false
  | .plain sh, .agg as, .agg bs => rawEqs sh as bs
  | _, _, _ => none

/-- Two numbers: sums, bits, comparisons. -/
def intBin (op : BinOp) (k : IntKind) (a b : Int) : Option Value :=
  match op with
  | .add => some (.int k (k.wrap (a + b)))
  | .sub => some (.int k (k.wrap (a - b)))
  | .mul => some (.int k (k.wrap (a * b)))
  | .and => some (.int k (k.wrap (BitVec.ofInt k.bits a &&& BitVec.ofInt k.bits b).toNat))
  | .or => some (.int k (k.wrap (BitVec.ofInt k.bits a ||| BitVec.ofInt k.bits b).toNat))
  | .xor => some (.int k (k.wrap (BitVec.ofInt k.bits a ^^^ BitVec.ofInt k.bits b).toNat))
  | .andNot => some (.int k (k.wrap (BitVec.ofInt k.bits a &&& ~~~ BitVec.ofInt k.bits b).toNat))
  | .eql => some (.bool (a == b))
  | .neq => some (.bool (a != b))
  | .lss => some (.bool (decide (a < b)))
  | .leq => some (.bool (decide (a ≤ b)))
  | .gtr => some (.bool (decide (a > b)))
  | .geq => some (.bool (decide (a ≥ b)))
  | _ => none

def asInt? : AVal → Option Int
  | .raw (.int _ n) => some n
  | _ => none

section
variable {β : Type} (req : (p : Prop) → [Decidable p] → β → β) (bad : β)

/-- A bound of a slice expression: given, or as it is without. -/
def abound (ts : List AVal) (x : Option Arg) (dflt y : Nat) (K : Nat → β) : β :=
  match x with
  | none => K dflt
  | some x =>
    match x.ev ts with
    | .raw (.int _ n) => req (0 ≤ n ∧ n ≤ (y : Int)) (K n.toNat)
    | _ => bad

/-- The cells of what is appended, or copied: so many elements. -/
def srcCells (A : Heap) (esz : Nat) : AVal → (Nat → List AVal → β) → β
  | .raw (.slice none n _), K => req (n = 0) (K 0 [])
  | .raw (.string s), K => req (esz = 1) (K s.size (s.data.toList.map fun b => .raw (.int .u8 b.toNat)))
  | .fsl cs n _, K => req (cs.length = n * esz) (K n cs)
  | .sl i off n _ e, K =>
    match A.get i with
    | some (.cells vs) => req (e = esz ∧ off + n * esz ≤ vs.length) (K n ((vs.drop off).take (n * esz)))
    | _ => bad
  | _, _ => bad

/-- How far a slice may be laid anew: its capacity, or as many elements as are known to lie there (where the capacity is not named, it goes to the row's end). -/
def slCap (A : Heap) (i off len : Nat) (cap : Option Nat) (e : Nat) : Nat :=
  match cap with
  | some c => c
  | none =>
    match A.get i with
    | some (.cells vs) => max len ((vs.length - off) / e)
    | _ => len

/-- 'append' of so many cells behind a slice. -/
def aappend (A : Heap) (esz bytes : Nat) (s : AVal) (n : Nat) (xs : List AVal) (K : AVal → Heap → β) : β :=
  if n = 0 then
    match s with
    | .raw (.slice none 0 0) | .sl .. | .fsl .. => K s A
    | _ => bad
  else
    match s with
    | .raw (.slice none l c) => req (l = 0 ∧ c = 0 ∧ n * bytes ≤ 2 ^ 46) (K (.sl A.top 0 n none esz) (A.push (.cells xs)))
    | .fsl cs len (some c) => req (c < len + n ∧ cs.length = len * esz ∧ (len + n) * bytes ≤ 2 ^ 46) (K (.sl A.top 0 (len + n) none esz) (A.push (.cells (cs ++ xs))))
    | .sl i off len cap e =>
      match A.get i with
      | some (.cells vs) =>
        match cap with
        | some c =>
          if len + n ≤ c then req (e = esz ∧ off + (len + n) * esz ≤ vs.length) (K (.sl i off (len + n) (some c) esz) (A.set i (.cells (splice vs (off + len * esz) xs))))
          else req (e = esz ∧ off + len * esz ≤ vs.length ∧ (len + n) * bytes ≤ 2 ^ 46) (K (.sl A.top 0 (len + n) none esz) (A.push (.cells ((vs.drop off).take (len * esz) ++ xs))))
        | none =>
          if off + len * e < vs.length ∧ off + (len + n) * e ≤ vs.length then req (e = esz) (K (.sl i off (len + n) none esz) (A.set i (.cells (splice vs (off + len * esz) xs))))
          else req (off = 0 ∧ e = esz ∧ len * esz ≤ vs.length ∧ (len + n) * bytes ≤ 2 ^ 46) (K (.sl A.top 0 (len + n) none esz) ((A.del i).push (.cells (vs.take (len * esz) ++ xs))))
      | _ => bad
    | _ => bad

def repCells (zs : List Value) (n : Nat) : List AVal := (List.replicate n (zs.map AVal.raw)).flatten

def mm (max : Bool) : Value → Value → Option Value
  | .int k x, .int k' y => if k = k' then some (.int k (if max then (if y > x then y else x) else (if y < x then y else x))) else none
  | _, _ => none

def mms (max : Bool) : Value → List AVal → Option Value
  | v, [] => some v
  | v, .raw x :: xs => (mm max v x).bind fun r => mms max r xs
  | _, _ => none

/-- What an operation does: 'req' is what must hold, 'bad' where nothing is said. -/
def astep (call yield : Nat → List AVal → Heap → (AVal → Heap → β) → β) (amb : (Bool → β) → β) (x : XOp) (ts : List AVal) (A : Heap) (K : AVal → Heap → β) : β :=
  match x with
  | .mv x => K (x.ev ts) A
  | .konst a => K a A
  | .pick c a b =>
    match c.ev ts with
    | .raw (.bool c) => if c = true then K (a.ev ts) A else K (b.ev ts) A
    | _ => bad
  | .box x =>
    match (x.ev ts).cells? with
    | some cs => K (.ptr A.top 0) (A.push (.cells cs))
    | none => bad
  | .alloc zs => K (.ptr A.top 0) (A.push (.cells (zs.map .raw)))
  | .build zs parts =>
    match afill ts (zs.map .raw) parts with
    | some cs => K (.agg cs) A
    | none => bad
  | .buildSlice len esz zs parts =>
    match afill ts (zs.map .raw) parts with
    | some cs => K (.sl A.top 0 len (some len) esz) (A.push (.cells cs))
    | none => bad
  | .buildF len zs parts =>
    match afill ts (zs.map .raw) parts with
    | some cs => K (.fsl cs len (some len)) A
    | none => bad
  | .load n x =>
    match x.ev ts with
    | .ptr i off =>
      match A.get i with
      | some (.cells vs) =>
        match n with
        | none => match vs[off]? with | some a => K a A | none => bad
        | some n => req (off + n ≤ vs.length) (K (.agg ((vs.drop off).take n)) A)
      | _ => bad
    | .fptr vs =>
      match n with
      | none => match vs[0]? with | some a => K a A | none => bad
      | some n => req (n ≤ vs.length) (K (.agg (vs.take n)) A)
    | _ => bad
  | .store n x v =>
    match x.ev ts with
    | .ptr i off =>
      match A.get i, (v.ev ts).cells? with
      | some (.cells vs), some cs => req (cs.length = n ∧ off + n ≤ vs.length) (K AVal.undef (A.set i (.cells (splice vs off cs))))
      | _, _ => bad
    | _ => bad
  | .nilCheck x =>
    match x.ev ts with
    | .ptr i off => K (.ptr i off) A
    | .fptr cs => K (.fptr cs) A
    | .func (.func f) first captured => K (.func (.func f) first captured) A
    | _ => bad
  | .bin op x y =>
    match x.ev ts, y.ev ts with
    | .raw (.int k a), .raw (.int k' b) =>
      match op with
      | .shl => req (0 ≤ b) (K (.raw (.int k (k.wrap (a * 2 ^ min b.toNat k.bits)))) A)
      | .shr => req (0 ≤ b) (K (.raw (.int k (a.fdiv (2 ^ min b.toNat k.bits)))) A)
      | .quo => req (k = k' ∧ b ≠ 0) (K (.raw (.int k (k.wrap (a.tdiv b)))) A)
      | .rem => req (k = k' ∧ b ≠ 0) (K (.raw (.int k (a.tmod b))) A)
      | _ => match intBin op k a b with | some r => req (k = k') (K (.raw r) A) | none => bad
    | .raw (.string a), .raw (.string b) =>
      match op with
      | .eql => K (.raw (.bool (a.toList == b.toList))) A
      | .neq => K (.raw (.bool (!(a.toList == b.toList)))) A
      | _ => bad
    | _, _ => bad
  | .die => bad
  | .eq kd neg x y =>
    match aeq kd (x.ev ts) (y.ev ts) with
    | some r => K (.raw (.bool (if neg then !r else r))) A
    | none => bad
  | .un op x =>
    match op, x.ev ts with
    | .not, .raw (.bool b) => K (.raw (.bool (!b))) A
    | .neg, .raw (.int k n) => K (.raw (.int k (k.wrap (0 - n)))) A
    | .xor, .raw (.int k n) => K (.raw (.int k (k.wrap (BitVec.ofInt k.bits (if k.signed then -1 else k.max) ^^^ BitVec.ofInt k.bits n).toNat))) A
    | _, _ => bad
  | .conv k x =>
    match x.ev ts with
    | .raw (.int _ n) => K (.raw (.int k (k.wrap n))) A
    | _ => bad
  | .arrPtr n esz x =>
    match x.ev ts with
    | .sl i off len _ e => req (n ≤ len ∧ e = esz) (K (.ptr i off) A)
    | .fsl cs len _ => req (n ≤ len ∧ cs ≠ []) (K (.fptr cs) A)
    | _ => bad
  | .mkFunc fn first captured => K (.func fn (first.map (·.ev ts)) (captured.map (·.ev ts))) A
  | .mkSlice esz bytes zs len cap =>
    match len.ev ts, cap.ev ts with
    | .raw (.int _ l), .raw (.int _ c) =>
      req (0 ≤ l ∧ l ≤ c ∧ c ≤ 2 ^ 40 ∧ bytes * c ≤ 2 ^ 46) (K (.sl A.top 0 l.toNat (some c.toNat) esz) (A.push (.cells (repCells zs c.toNat))))
    | _, _ => bad
  | .slice esz x lo hi mx =>
    match x.ev ts with
    | .raw (.slice none 0 0) => abound req bad ts mx 0 0 fun _ => abound req bad ts hi 0 0 fun _ => abound req bad ts lo 0 0 fun _ => K (.raw (.slice none 0 0)) A
    | .fsl cs len cap =>
      match mx, cap with
      | none, _ => abound req bad ts hi len (cap.getD len) fun h => req (h ≤ len) <| abound req bad ts lo 0 h fun l => K (.fsl ((cs.drop (l * esz)).take ((h - l) * esz)) (h - l) (cap.map (· - l))) A
      | some _, _ => abound req bad ts mx len len fun m => abound req bad ts hi len m fun h => abound req bad ts lo 0 h fun l => K (.fsl ((cs.drop (l * esz)).take ((h - l) * esz)) (h - l) (some (m - l))) A
    | .sl i off len cap e =>
      match mx with
      | none => abound req bad ts hi len (slCap A i off len cap e) fun h => abound req bad ts lo 0 h fun l =>
          req (e = esz) (if h = l ∧ l ≠ 0 then K (.fsl [] 0 (cap.map (· - l))) A else K (.sl i (off + l * esz) (h - l) (cap.map (· - l)) esz) A)
      | some _ => abound req bad ts mx len (slCap A i off len cap e) fun m => abound req bad ts hi len m fun h => abound req bad ts lo 0 h fun l =>
          req (e = esz) (if m = l ∧ l ≠ 0 then K (.fsl [] 0 (some (m - l))) A else K (.sl i (off + l * esz) (h - l) (some (m - l)) esz) A)
    | _ => bad
  | .sliceArr n esz x lo hi mx =>
    match x.ev ts with
    | .ptr i off =>
      match A.get i with
      | some (.cells vs) =>
        abound req bad ts mx n n fun m => abound req bad ts hi n m fun h => abound req bad ts lo 0 h fun l =>
          req (off + n * esz ≤ vs.length) (if m = l ∧ l ≠ 0 then K (.fsl [] 0 (some 0)) A else K (.sl i (off + l * esz) (h - l) (some (m - l)) esz) A)
      | _ => bad
    | .fptr cs =>
      abound req bad ts mx n n fun m => abound req bad ts hi n m fun h => abound req bad ts lo 0 h fun l =>
        req (n * esz ≤ cs.length) (K (.fsl ((cs.drop (l * esz)).take ((h - l) * esz)) (h - l) (some (m - l))) A)
    | _ => bad
  | .fieldAddr off x =>
    match x.ev ts with
    | .ptr i o => K (.ptr i (o + off)) A
    | .fptr cs => K (.fptr (cs.drop off)) A
    | _ => bad
  | .field off n x =>
    match x.ev ts with
    | .agg cs =>
      match n with
      | none => match cs[off]? with | some a => K a A | none => bad
      | some n => K (.agg ((cs.drop off).take n)) A
    | _ => bad
  | .idxAddr esz x i =>
    match i.ev ts with
    | .raw (.int _ n) =>
      match x.ev ts with
      | .sl o off len _ e => req (0 ≤ n ∧ n < (len : Int) ∧ e = esz) (K (.ptr o (off + n.toNat * esz)) A)
      | .fsl cs len _ => req (0 ≤ n ∧ n < (len : Int) ∧ cs ≠ []) (K (.fptr (cs.drop (n.toNat * esz))) A)
      | _ => bad
    | _ => bad
  | .idxAddrArr n esz x i =>
    match i.ev ts with
    | .raw (.int _ m) =>
      match x.ev ts with
      | .ptr o off => req (0 ≤ m ∧ m < (n : Int)) (K (.ptr o (off + m.toNat * esz)) A)
      | .fptr cs => req (0 ≤ m ∧ m < (n : Int)) (K (.fptr (cs.drop (m.toNat * esz))) A)
      | _ => bad
    | _ => bad
  | .idxArr n esz sz x i =>
    match i.ev ts with
    | .raw (.int _ m) =>
      match x.ev ts with
      | .agg cs =>
        match sz with
        | none => match cs[m.toNat * esz]? with | some a => req (0 ≤ m ∧ m < (n : Int)) (K a A) | none => bad
        | some s => req (0 ≤ m ∧ m < (n : Int)) (K (.agg ((cs.drop (m.toNat * esz)).take s)) A)
      | _ => bad
    | _ => bad
  | .extract x i =>
    match x.ev ts with
    | .tup vs => match vs[i]? with | some a => K a A | none => bad
    | _ => bad
  | .call f args => call f (args.map (·.ev ts)) A K
  | .callv fv args =>
    match fv.ev ts with
    | .func (.func f) first captured => call f (first ++ args.map (·.ev ts) ++ captured) A K
    | .yield i => yield i (args.map (·.ev ts)) A K
    | _ => bad
  | .append esz bytes x y => srcCells req bad A esz (y.ev ts) fun n xs => aappend req bad A esz bytes (x.ev ts) n xs K
  | .appendZ esz bytes zs x n =>
    match n.ev ts with
    | .raw (.int .i64 m) => req (0 ≤ m ∧ m * bytes ≤ 2 ^ 46) (aappend req bad A esz bytes (x.ev ts) m.toNat (repCells zs m.toNat) K)
    | _ => bad
  | .copy esz x y =>
    srcCells req bad A esz (y.ev ts) fun n xs =>
      match x.ev ts with
      | .raw (.slice none l _) => K (.raw (.int .i64 (min n l : Nat))) A
      | .sl i off len _ e =>
        match A.get i with
        | some (.cells vs) => req (e = esz ∧ off + len * esz ≤ vs.length) (K (.raw (.int .i64 (min n len : Nat))) (A.set i (.cells (splice vs off (xs.take (min n len * esz))))))
        | _ => bad
      | _ => bad
  | .clear zs x =>
    match x.ev ts with
    | .raw (.slice none _ _) => K (.tup []) A
    | .fsl _ n _ => req (n = 0) (K (.tup []) A)
    | .sl i off len _ e =>
      if len = 0 then K (.tup []) A else
      match A.get i with
      | some (.cells vs) => req (e = zs.length ∧ off + len * e ≤ vs.length) (K (.tup []) (A.set i (.cells (splice vs off (repCells zs len)))))
      | _ => bad
    | _ => bad
  | .len x =>
    match x.ev ts with
    | .raw (.slice none n _) => K (.raw (.int .i64 n)) A
    | .sl _ _ n _ _ => K (.raw (.int .i64 n)) A
    | .fsl _ n _ => K (.raw (.int .i64 n)) A
    | _ => bad
  | .idxStr x i =>
    match i.ev ts with
    | .raw (.int _ m) =>
      match x.ev ts with
      | .raw (.string s) => match s.data[m.toNat]? with | some b => req (0 ≤ m) (K (.raw (.int .u8 b.toNat)) A) | none => bad
      | _ => bad
    | _ => bad
  | .isNil neg x =>
    match x.ev ts with
    | .raw (.slice none _ _) => K (.raw (.bool (!neg))) A
    | .sl .. => K (.raw (.bool neg)) A
    | .fsl (_ :: _) _ _ => K (.raw (.bool neg)) A
    | .fsl [] _ _ => amb fun r => K (.raw (.bool r)) A
    | _ => bad
  | .strBytes x =>
    match x.ev ts with
    | .raw (.string s) => K (.sl A.top 0 s.size none 1) (A.push (.cells (s.data.toList.map fun b => .raw (.int .u8 b.toNat))))
    | _ => bad
  | .lenStr x =>
    match x.ev ts with
    | .raw (.string s) => K (.raw (.int .i64 s.size)) A
    | _ => bad
  | .cap x =>
    match x.ev ts with
    | .raw (.slice none _ c) => K (.raw (.int .i64 c)) A
    | .sl _ _ _ (some c) _ => K (.raw (.int .i64 c)) A
    | .fsl _ _ (some c) => K (.raw (.int .i64 c)) A
    | _ => bad
  | .minMax max x xs =>
    match x.ev ts with
    | .raw v => match mms max v (xs.map (·.ev ts)) with | some r => K (.raw r) A | none => bad
    | _ => bad
end

end Go.Ab
