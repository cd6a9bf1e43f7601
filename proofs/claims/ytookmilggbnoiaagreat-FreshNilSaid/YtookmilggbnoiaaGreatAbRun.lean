/- The abstract layer, part 24: operations for 'simp': an operation's value is looked at first, what is behind it comes when it is known. -/
import Derived.Test.YtookmilggbnoiaaGreatAbSimp
import Derived.Test.YtookmilggbnoiaaGreatAbRound
import Derived.Attr
set_option linter.unusedSimpArgs false
set_option linter.unusedVariables false
namespace Go.Ab

variable {P : Program} {A A' A0 : Heap} {ts ts' : List AVal} {K : AVal → Heap → Prop}

/-! Eliminators: 'simp' looks into the first argument alone. -/

def intsK (v u : AVal) (F : IntKind → IntKind → Int → Int → Prop) : Prop :=
  match v, u with
  | .raw (.int k a), .raw (.int k' b) => F k k' a b
  | _, _ => False
def intK (v : AVal) (F : IntKind → Int → Prop) : Prop :=
  match v with
  | .raw (.int k a) => F k a
  | _ => False
def cellsK (o : Option AObj) (F : List AVal → Prop) : Prop :=
  match o with
  | some (.cells vs) => F vs
  | _ => False
def optK {α : Type} (o : Option α) (F : α → Prop) : Prop :=
  match o with
  | some a => F a
  | none => False
def ptrK (v : AVal) (F : Nat → Nat → Prop) (G : List AVal → Prop) : Prop :=
  match v with
  | .ptr i off => F i off
  | .fptr cs => G cs
  | _ => False
def funcK (v : AVal) (F : Nat → List AVal → List AVal → Prop) (G : Nat → Prop) : Prop :=
  match v with
  | .yield i => G i
  | .func (.func f) first captured => F f first captured
  | _ => False
def aggK (v : AVal) (F : List AVal → Prop) : Prop :=
  match v with
  | .agg cs => F cs
  | _ => False
def tupK (v : AVal) (F : List AVal → Prop) : Prop :=
  match v with
  | .tup cs => F cs
  | _ => False
def slK (v : AVal) (F : Nat → Nat → Nat → Option Nat → Nat → Prop) (G : List AVal → Nat → Option Nat → Prop) (H : Nat → Nat → Prop) : Prop :=
  match v with
  | .sl i off len cap esz => F i off len cap esz
  | .fsl cs len cap => G cs len cap
  | .raw (.slice none l c) => H l c
  | _ => False
/-- Any value. -/
def valK (v : AVal) (F : AVal → Prop) : Prop := F v

@[congr] theorem intsK_congr {v v' u u' : AVal} {F : IntKind → IntKind → Int → Int → Prop} (h : v = v') (h' : u = u') : intsK v u F = intsK v' u' F := by rw [h, h']
@[congr] theorem intK_congr {v v' : AVal} {F : IntKind → Int → Prop} (h : v = v') : intK v F = intK v' F := by rw [h]
@[congr] theorem cellsK_congr {v v' : Option AObj} {F : List AVal → Prop} (h : v = v') : cellsK v F = cellsK v' F := by rw [h]
@[congr] theorem optK_congr {α : Type} {v v' : Option α} {F : α → Prop} (h : v = v') : optK v F = optK v' F := by rw [h]
@[congr] theorem ptrK_congr {v v' : AVal} {F : Nat → Nat → Prop} {G : List AVal → Prop} (h : v = v') : ptrK v F G = ptrK v' F G := by rw [h]
@[congr] theorem funcK_congr {v v' : AVal} {F : Nat → List AVal → List AVal → Prop} {G : Nat → Prop} (h : v = v') : funcK v F G = funcK v' F G := by rw [h]
@[congr] theorem aggK_congr {v v' : AVal} {F : List AVal → Prop} (h : v = v') : aggK v F = aggK v' F := by rw [h]
@[congr] theorem tupK_congr {v v' : AVal} {F : List AVal → Prop} (h : v = v') : tupK v F = tupK v' F := by rw [h]
@[congr] theorem slK_congr {v v' : AVal} {F : Nat → Nat → Nat → Option Nat → Nat → Prop} {G : List AVal → Nat → Option Nat → Prop} {H : Nat → Nat → Prop} (h : v = v') : slK v F G H = slK v' F G H := by rw [h]
@[congr] theorem valK_congr {v v' : AVal} {F : AVal → Prop} (h : v = v') : valK v F = valK v' F := by rw [h]

theorem intsK_eq {k k' : IntKind} {a b : Int} {F : IntKind → IntKind → Int → Int → Prop} : intsK (.raw (.int k a)) (.raw (.int k' b)) F = F k k' a b := rfl
theorem intK_eq {k : IntKind} {a : Int} {F : IntKind → Int → Prop} : intK (.raw (.int k a)) F = F k a := rfl
theorem cellsK_eq {vs : List AVal} {F : List AVal → Prop} : cellsK (some (.cells vs)) F = F vs := rfl
theorem optK_eq {α : Type} {a : α} {F : α → Prop} : optK (some a) F = F a := rfl
theorem optK_none {α : Type} {F : α → Prop} : optK (none : Option α) F = False := rfl
theorem ptrK_ptr {i off : Nat} {F : Nat → Nat → Prop} {G : List AVal → Prop} : ptrK (.ptr i off) F G = F i off := rfl
theorem ptrK_fptr {cs : List AVal} {F : Nat → Nat → Prop} {G : List AVal → Prop} : ptrK (.fptr cs) F G = G cs := rfl
theorem ptrK_nil {F : Nat → Nat → Prop} {G : List AVal → Prop} : ptrK (.raw (.pointer none)) F G = False := rfl
theorem funcK_eq {f : Nat} {x y : List AVal} {F : Nat → List AVal → List AVal → Prop} {G : Nat → Prop} : funcK (.func (.func f) x y) F G = F f x y := rfl
theorem funcK_yield {i : Nat} {F : Nat → List AVal → List AVal → Prop} {G : Nat → Prop} : funcK (.yield i) F G = G i := rfl
theorem aggK_eq {cs : List AVal} {F : List AVal → Prop} : aggK (.agg cs) F = F cs := rfl
theorem tupK_eq {cs : List AVal} {F : List AVal → Prop} : tupK (.tup cs) F = F cs := rfl
theorem slK_sl {i off len : Nat} {cap : Option Nat} {esz : Nat} {F : Nat → Nat → Nat → Option Nat → Nat → Prop} {G : List AVal → Nat → Option Nat → Prop} {H : Nat → Nat → Prop} : slK (.sl i off len cap esz) F G H = F i off len cap esz := rfl
theorem slK_fsl {cs : List AVal} {len : Nat} {cap : Option Nat} {F : Nat → Nat → Nat → Option Nat → Nat → Prop} {G : List AVal → Nat → Option Nat → Prop} {H : Nat → Nat → Prop} : slK (.fsl cs len cap) F G H = G cs len cap := rfl
theorem slK_nil {l c : Nat} {F : Nat → Nat → Nat → Option Nat → Nat → Prop} {G : List AVal → Nat → Option Nat → Prop} {H : Nat → Nat → Prop} : slK (.raw (.slice none l c)) F G H = H l c := rfl

/-! Stops: what is behind is not looked into. -/

inductive Veil {α : Type} (_ : α) : Type where
  | mk

def JS (P : Program) (f : Nat) (args : List AVal) (A : Heap) (K : AVal → Heap → Prop) (_ : Veil K) : Prop := J P f args A K
def JRS (P : Program) (i : Nat) (args : List AVal) (A : Heap) (K : AVal → Heap → Prop) (_ : Veil K) : Prop := JR P i args A K
/-- A loop over a function. -/
def RangeS (P : Program) (g : Nat) (first lb : List AVal) (ps : Array Nat) (asg body : XCode) (E : Posts) (ts : List AVal) (A : Heap) (_ : Veil E) : Prop :=
  first = [] ∧ ∀ (a c : Code), comp P a = asg → comp P c = body → J P g (.yield A.top :: lb) (A.push (.loop false ts ps a c)) fun _ A' => (∃ ts', A'.get A.top = some (.loop false ts' ps a c)) ∧ E.n ts (A'.del A.top)
def LoopS (P : Program) (A0 : Heap) (c : XCode) (E : Posts) (ts : List AVal) (A : Heap) (_ : Veil c) (_ : Veil E) : Prop := awp P A0 (.loop c) E ts A
def WkS (A0 : Heap) (vs : List AVal) (A : Heap) (G : List AVal → Heap → Prop) (_ : Veil G) : Prop := Wk A0 vs A G
theorem awp_loop {c : XCode} {E : Posts} : awp P A0 (.loop c) E ts A = LoopS P A0 c E ts A .mk .mk := rfl

theorem awp_range {f : Arg} {ps : Array Nat} {x y : XCode} {E : Posts} : awp P A0 (.rangeFunc f ps x y) E ts A = funcK (f.ev ts) (fun g first lb => RangeS P g first lb ps x y E ts A .mk) (fun _ => False) := by
  simp only [awp]
  generalize f.ev ts = v
  cases v with
  | func fn first lb =>
    cases fn with
    | func g => cases first <;> simp [funcK, RangeS]
    | _ => rfl
  | _ => rfl

/-! ## Each operation -/

theorem ask_mv {x : Arg} : ask P (.mv x) ts A K = K (x.ev ts) A := rfl
theorem ask_konst {a : AVal} : ask P (.konst a) ts A K = K a A := rfl
theorem ask_die : ask P .die ts A K = False := rfl
theorem ask_mkFunc {fn : Fn} {f c : List Arg} : ask P (.mkFunc fn f c) ts A K = K (.func fn (f.map (·.ev ts)) (c.map (·.ev ts))) A := rfl
theorem ask_alloc {zs : List Value} : ask P (.alloc zs) ts A K = K (.ptr A.top 0) (A.push (.cells (zs.map .raw))) := rfl
theorem ask_call {f : Nat} {as : List Arg} : ask P (.call f as) ts A K = JS P f (as.map (·.ev ts)) A K .mk := rfl
theorem ask_pick {c a b : Arg} : ask P (.pick c a b) ts A K = onBool (c.ev ts) (K (a.ev ts) A) (K (b.ev ts) A) := by
  simp only [ask, astep]
  generalize c.ev ts = v
  cases v with
  | raw v =>
    cases v with
    | bool b => cases b <;> simp [onBool]
    | _ => rfl
  | _ => rfl

theorem ask_box {x : Arg} : ask P (.box x) ts A K = optK (x.ev ts).cells? fun cs => K (.ptr A.top 0) (A.push (.cells cs)) := by
  simp only [ask, astep]
  generalize (x.ev ts).cells? = v
  cases v <;> rfl

theorem ask_build {zs : List Value} {ps : List (Nat × Nat × Arg)} : ask P (.build zs ps) ts A K = optK (afill ts (zs.map .raw) ps) fun cs => K (.agg cs) A := by
  simp only [ask, astep]
  generalize afill ts (zs.map .raw) ps = v
  cases v <;> rfl

theorem ask_buildF {l : Nat} {zs : List Value} {ps : List (Nat × Nat × Arg)} : ask P (.buildF l zs ps) ts A K = optK (afill ts (zs.map .raw) ps) fun cs => K (.fsl cs l (some l)) A := by
  simp only [ask, astep]
  generalize afill ts (zs.map .raw) ps = v
  cases v <;> rfl

theorem ask_load1 {x : Arg} : ask P (.load none x) ts A K = ptrK (x.ev ts) (fun i off => cellsK (A.get i) fun vs => optK vs[off]? fun a => K a A) (fun cs => optK cs[0]? fun a => K a A) := by
  simp only [ask, astep]
  generalize x.ev ts = v
  cases v with
  | ptr i off =>
    simp only [ptrK]
    generalize A.get i = o
    cases o with
    | none => rfl
    | some o =>
      cases o with
      | map es => rfl
      | loop => rfl
      | cells vs =>
        simp only [cellsK]
        generalize vs[off]? = o
        cases o <;> rfl
  | fptr cs =>
    simp only [ptrK]
    generalize cs[0]? = o
    cases o <;> rfl
  | _ => rfl

theorem ask_loadN {n : Nat} {x : Arg} : ask P (.load (some n) x) ts A K = ptrK (x.ev ts) (fun i off => cellsK (A.get i) fun vs => off + n ≤ vs.length ∧ K (.agg ((vs.drop off).take n)) A) (fun cs => n ≤ cs.length ∧ K (.agg (cs.take n)) A) := by
  simp only [ask, astep]
  generalize x.ev ts = v
  cases v with
  | ptr i off =>
    simp only [ptrK]
    generalize A.get i = o
    cases o with
    | none => rfl
    | some o => cases o <;> rfl
  | _ => rfl

theorem ask_store {n : Nat} {x v : Arg} : ask P (.store n x v) ts A K = ptrK (x.ev ts) (fun i off => cellsK (A.get i) fun vs => optK (v.ev ts).cells? fun cs => cs.length = n ∧ off + n ≤ vs.length ∧ K AVal.undef (A.set i (.cells (splice vs off cs)))) (fun _ => False) := by
  simp only [ask, astep]
  generalize x.ev ts = u
  generalize (v.ev ts).cells? = c
  cases u with
  | ptr i off =>
    simp only [ptrK]
    generalize A.get i = o
    cases o with
    | none => rfl
    | some o =>
      cases o with
      | map es => rfl
      | loop => rfl
      | cells vs => cases c <;> simp [cellsK, optK, req, and_assoc]
  | _ => rfl

theorem ask_nil {x : Arg} : ask P (.nilCheck x) ts A K = valK (x.ev ts) fun v => match v with
    | .ptr i off => K (.ptr i off) A
    | .fptr cs => K (.fptr cs) A
    | .func (.func f) first captured => K (.func (.func f) first captured) A
    | _ => False := rfl
theorem ask_shl {x y : Arg} : ask P (.bin .shl x y) ts A K = intsK (x.ev ts) (y.ev ts) fun k _ a b => 0 ≤ b ∧ K (.raw (.int k (k.wrap (a * 2 ^ min b.toNat k.bits)))) A := by
  simp only [ask, astep]
  generalize x.ev ts = v
  generalize y.ev ts = u
  cases v with
  | raw v =>
    cases u with
    | raw u => cases v <;> cases u <;> rfl
    | _ => cases v <;> rfl
  | _ => rfl

theorem ask_shr {x y : Arg} : ask P (.bin .shr x y) ts A K = intsK (x.ev ts) (y.ev ts) fun k _ a b => 0 ≤ b ∧ K (.raw (.int k (a.fdiv (2 ^ min b.toNat k.bits)))) A := by
  simp only [ask, astep]
  generalize x.ev ts = v
  generalize y.ev ts = u
  cases v with
  | raw v =>
    cases u with
    | raw u => cases v <;> cases u <;> rfl
    | _ => cases v <;> rfl
  | _ => rfl

theorem ask_quo {x y : Arg} : ask P (.bin .quo x y) ts A K = intsK (x.ev ts) (y.ev ts) fun k k' a b => (k = k' ∧ b ≠ 0) ∧ K (.raw (.int k (k.wrap (a.tdiv b)))) A := by
  simp only [ask, astep]
  generalize x.ev ts = v
  generalize y.ev ts = u
  cases v with
  | raw v =>
    cases u with
    | raw u => cases v <;> cases u <;> rfl
    | _ => cases v <;> rfl
  | _ => rfl

theorem ask_rem {x y : Arg} : ask P (.bin .rem x y) ts A K = intsK (x.ev ts) (y.ev ts) fun k k' a b => (k = k' ∧ b ≠ 0) ∧ K (.raw (.int k (a.tmod b))) A := by
  simp only [ask, astep]
  generalize x.ev ts = v
  generalize y.ev ts = u
  cases v with
  | raw v =>
    cases u with
    | raw u => cases v <;> cases u <;> rfl
    | _ => cases v <;> rfl
  | _ => rfl

/-- The other operations on integers. -/
def BinOp.easy : BinOp → Bool
  | .add | .sub | .mul | .lss | .leq | .gtr | .geq | .and | .or | .xor | .andNot => true
  | _ => false

theorem ask_bin {op : BinOp} {x y : Arg} (h : BinOp.easy op = true) : ask P (.bin op x y) ts A K = intsK (x.ev ts) (y.ev ts) fun k k' a b => optK (intBin op k a b) fun r => k = k' ∧ K (.raw r) A := by
  cases op <;> simp only [BinOp.easy, Bool.false_eq_true] at h <;> simp only [ask, astep]
  all_goals
    generalize x.ev ts = v
    generalize y.ev ts = u
    cases v with
    | raw v =>
      cases u with
      | raw u => cases v <;> cases u <;> rfl
      | _ => cases v <;> rfl
    | _ => rfl

def eqlK (v u : AVal) (F : Bool → Prop) : Prop :=
  match v, u with
  | .raw (.int k a), .raw (.int k' b) => k = k' ∧ F (decide (a = b))
  | .raw (.string a), .raw (.string b) => F (a.toList == b.toList)
  | _, _ => False
@[congr] theorem eqlK_congr {v v' u u' : AVal} {F : Bool → Prop} (h : v = v') (h' : u = u') : eqlK v u F = eqlK v' u' F := by rw [h, h']
theorem eqlK_int {k k' : IntKind} {a b : Int} {F : Bool → Prop} : eqlK (.raw (.int k a)) (.raw (.int k' b)) F = (k = k' ∧ F (decide (a = b))) := rfl
theorem eqlK_str {a b : ByteArray} {F : Bool → Prop} : eqlK (.raw (.string a)) (.raw (.string b)) F = F (a.toList == b.toList) := rfl

def eqK (o : Option Bool) (F : Bool → Prop) : Prop :=
  match o with
  | some r => F r
  | none => False
@[congr] theorem eqK_congr {v v' : Option Bool} {F : Bool → Prop} (h : v = v') : eqK v F = eqK v' F := by rw [h]
theorem eqK_eq {b : Bool} {F : Bool → Prop} : eqK (some b) F = F b := rfl
theorem ask_eq {kd : EqK} {neg : Bool} {x y : Arg} : ask P (.eq kd neg x y) ts A K = eqK (aeq kd (x.ev ts) (y.ev ts)) fun r => K (.raw (.bool (if neg then !r else r))) A := by
  simp only [ask, astep]
  generalize aeq kd (x.ev ts) (y.ev ts) = o
  cases o <;> rfl

theorem ask_eqF {kd : EqK} {x y : Arg} : ask P (.eq kd false x y) ts A K = eqK (aeq kd (x.ev ts) (y.ev ts)) fun r => K (.raw (.bool r)) A := ask_eq
theorem ask_eqT {kd : EqK} {x y : Arg} : ask P (.eq kd true x y) ts A K = eqK (aeq kd (x.ev ts) (y.ev ts)) fun r => K (.raw (.bool (!r))) A := ask_eq
theorem ask_not {x : Arg} : ask P (.un .not x) ts A K = valK (x.ev ts) fun v => match v with | .raw (.bool b) => K (.raw (.bool (!b))) A | _ => False := by
  simp only [ask, astep]
  generalize x.ev ts = v
  cases v with
  | raw v => cases v <;> rfl
  | _ => rfl

theorem ask_conv {k : IntKind} {x : Arg} : ask P (.conv k x) ts A K = intK (x.ev ts) fun _ n => K (.raw (.int k (k.wrap n))) A := by
  simp only [ask, astep]
  generalize x.ev ts = v
  cases v with
  | raw v => cases v <;> rfl
  | _ => rfl

theorem ask_fieldAddr {o : Nat} {x : Arg} : ask P (.fieldAddr o x) ts A K = ptrK (x.ev ts) (fun i off => K (.ptr i (off + o)) A) (fun cs => K (.fptr (cs.drop o)) A) := by
  simp only [ask, astep]
  generalize x.ev ts = v
  cases v with
  | raw v => cases v <;> rfl
  | _ => rfl

theorem ask_field1 {o : Nat} {x : Arg} : ask P (.field o none x) ts A K = aggK (x.ev ts) fun cs => optK cs[o]? fun a => K a A := by
  simp only [ask, astep]
  generalize x.ev ts = v
  cases v with
  | agg cs =>
    simp only [aggK]
    generalize cs[o]? = o
    cases o <;> rfl
  | _ => rfl

theorem ask_fieldN {o n : Nat} {x : Arg} : ask P (.field o (some n) x) ts A K = aggK (x.ev ts) fun cs => K (.agg ((cs.drop o).take n)) A := by
  simp only [ask, astep]
  generalize x.ev ts = v
  cases v with
  | raw v => cases v <;> rfl
  | _ => rfl

theorem ask_extract {x : Arg} {i : Nat} : ask P (.extract x i) ts A K = tupK (x.ev ts) fun vs => optK vs[i]? fun a => K a A := by
  simp only [ask, astep]
  generalize x.ev ts = v
  cases v with
  | tup cs =>
    simp only [tupK]
    generalize cs[i]? = o
    cases o <;> rfl
  | _ => rfl

theorem ask_idxAddr {s : Nat} {x i : Arg} : ask P (.idxAddr s x i) ts A K = intK (i.ev ts) fun _ n => slK (x.ev ts) (fun o off len _ e => (0 ≤ n ∧ n < (len : Int) ∧ e = s) ∧ K (.ptr o (off + n.toNat * s)) A) (fun cs len _ => (0 ≤ n ∧ n < (len : Int) ∧ cs ≠ []) ∧ K (.fptr (cs.drop (n.toNat * s))) A) (fun _ _ => False) := by
  simp only [ask, astep]
  generalize x.ev ts = v
  generalize i.ev ts = u
  cases u with
  | raw u =>
    cases u with
    | int k n =>
      cases v with
      | raw v =>
        cases v with
        | slice a l c => cases a <;> rfl
        | _ => rfl
      | _ => rfl
    | _ => rfl
  | _ => rfl

theorem ask_idxAddrArr {m s : Nat} {x i : Arg} : ask P (.idxAddrArr m s x i) ts A K = intK (i.ev ts) fun _ n => ptrK (x.ev ts) (fun o off => (0 ≤ n ∧ n < (m : Int)) ∧ K (.ptr o (off + n.toNat * s)) A) (fun cs => (0 ≤ n ∧ n < (m : Int)) ∧ K (.fptr (cs.drop (n.toNat * s))) A) := by
  simp only [ask, astep]
  generalize x.ev ts = v
  generalize i.ev ts = u
  cases u with
  | raw u => cases u <;> cases v <;> rfl
  | _ => rfl

theorem ask_idxArr1 {m s : Nat} {x i : Arg} : ask P (.idxArr m s none x i) ts A K = intK (i.ev ts) fun _ n => aggK (x.ev ts) fun cs => optK cs[n.toNat * s]? fun a => (0 ≤ n ∧ n < (m : Int)) ∧ K a A := by
  simp only [ask, astep]
  generalize x.ev ts = v
  generalize i.ev ts = u
  cases u with
  | raw u =>
    cases u with
    | int k n =>
      cases v with
      | agg cs =>
        simp only [intK, aggK]
        generalize cs[n.toNat * s]? = o
        cases o <;> rfl
      | _ => rfl
    | _ => rfl
  | _ => rfl

theorem ask_len {x : Arg} : ask P (.len x) ts A K = slK (x.ev ts) (fun _ _ n _ _ => K (.raw (.int .i64 n)) A) (fun _ n _ => K (.raw (.int .i64 n)) A) (fun n _ => K (.raw (.int .i64 n)) A) := by
  simp only [ask, astep]
  generalize x.ev ts = v
  cases v with
  | raw v =>
    cases v with
    | slice a l c => cases a <;> rfl
    | _ => rfl
  | _ => rfl

theorem ask_callv {f : Arg} {as : List Arg} : ask P (.callv f as) ts A K = funcK (f.ev ts) (fun g first captured => JS P g (first ++ as.map (·.ev ts) ++ captured) A K .mk) (fun i => JRS P i (as.map (·.ev ts)) A K .mk) := by
  simp only [ask, astep]
  generalize f.ev ts = v
  cases v with
  | func fn x y => cases fn <;> rfl
  | _ => rfl


theorem ask_eql {x y : Arg} : ask P (.bin .eql x y) ts A K = eqlK (x.ev ts) (y.ev ts) fun r => K (.raw (.bool r)) A := by
  simp only [ask, astep]
  generalize x.ev ts = v
  generalize y.ev ts = u
  cases v with
  | raw v =>
    cases u with
    | raw u => cases v <;> cases u <;> rfl
    | _ => cases v <;> rfl
  | _ => rfl
theorem ask_neq {x y : Arg} : ask P (.bin .neq x y) ts A K = eqlK (x.ev ts) (y.ev ts) fun r => K (.raw (.bool (!r))) A := by
  simp only [ask, astep]
  generalize x.ev ts = v
  generalize y.ev ts = u
  cases v with
  | raw v =>
    cases u with
    | raw u => cases v <;> cases u <;> rfl
    | _ => cases v <;> rfl
  | _ => rfl

theorem ask_add {x y : Arg} : ask P (.bin .add x y) ts A K = intsK (x.ev ts) (y.ev ts) fun k k' a b => k = k' ∧ K (.raw (.int k (k.wrap (a + b)))) A := ask_bin rfl
theorem ask_sub {x y : Arg} : ask P (.bin .sub x y) ts A K = intsK (x.ev ts) (y.ev ts) fun k k' a b => k = k' ∧ K (.raw (.int k (k.wrap (a - b)))) A := ask_bin rfl
theorem ask_mul {x y : Arg} : ask P (.bin .mul x y) ts A K = intsK (x.ev ts) (y.ev ts) fun k k' a b => k = k' ∧ K (.raw (.int k (k.wrap (a * b)))) A := ask_bin rfl
theorem ask_and {x y : Arg} : ask P (.bin .and x y) ts A K = intsK (x.ev ts) (y.ev ts) fun k k' a b => k = k' ∧ K (.raw (.int k (k.wrap (BitVec.ofInt k.bits a &&& BitVec.ofInt k.bits b).toNat))) A := ask_bin rfl
theorem ask_or {x y : Arg} : ask P (.bin .or x y) ts A K = intsK (x.ev ts) (y.ev ts) fun k k' a b => k = k' ∧ K (.raw (.int k (k.wrap (BitVec.ofInt k.bits a ||| BitVec.ofInt k.bits b).toNat))) A := ask_bin rfl
theorem ask_xor {x y : Arg} : ask P (.bin .xor x y) ts A K = intsK (x.ev ts) (y.ev ts) fun k k' a b => k = k' ∧ K (.raw (.int k (k.wrap (BitVec.ofInt k.bits a ^^^ BitVec.ofInt k.bits b).toNat))) A := ask_bin rfl
theorem ask_andNot {x y : Arg} : ask P (.bin .andNot x y) ts A K = intsK (x.ev ts) (y.ev ts) fun k k' a b => k = k' ∧ K (.raw (.int k (k.wrap (BitVec.ofInt k.bits a &&& ~~~ BitVec.ofInt k.bits b).toNat))) A := ask_bin rfl
theorem ask_lss {x y : Arg} : ask P (.bin .lss x y) ts A K = intsK (x.ev ts) (y.ev ts) fun k k' a b => k = k' ∧ K (.raw (.bool (decide (a < b)))) A := ask_bin rfl
theorem ask_leq {x y : Arg} : ask P (.bin .leq x y) ts A K = intsK (x.ev ts) (y.ev ts) fun k k' a b => k = k' ∧ K (.raw (.bool (decide (a ≤ b)))) A := ask_bin rfl
theorem ask_gtr {x y : Arg} : ask P (.bin .gtr x y) ts A K = intsK (x.ev ts) (y.ev ts) fun k k' a b => k = k' ∧ K (.raw (.bool (decide (b < a)))) A := ask_bin rfl
theorem ask_geq {x y : Arg} : ask P (.bin .geq x y) ts A K = intsK (x.ev ts) (y.ev ts) fun k k' a b => k = k' ∧ K (.raw (.bool (decide (b ≤ a)))) A := ask_bin rfl
theorem aeq_nn : aeq .ptr (.raw (.pointer none)) (.raw (.pointer none)) = some true := rfl
theorem aeq_pn {i off : Nat} : aeq .ptr (.ptr i off) (.raw (.pointer none)) = some false := rfl
theorem aeq_fn {cs : List AVal} : aeq .ptr (.fptr cs) (.raw (.pointer none)) = some false := rfl
theorem aeq_sn {l c l' c' : Nat} : aeq .slice (.raw (.slice none l c)) (.raw (.slice none l' c')) = some true := rfl
theorem aeq_s {i off len : Nat} {cap : Option Nat} {e l c : Nat} : aeq .slice (.sl i off len cap e) (.raw (.slice none l c)) = some false := rfl
theorem set_zero {v u : AVal} {l : List AVal} : (v :: l).set 0 u = u :: l := rfl
theorem set_succ {v u : AVal} {l : List AVal} {n : Nat} : (v :: l).set (n + 1) u = v :: l.set n u := rfl
theorem getD_zero {v : AVal} {l : List AVal} {d : AVal} : (v :: l).getD 0 d = v := rfl
theorem getD_succ {v : AVal} {l : List AVal} {n : Nat} {d : AVal} : (v :: l).getD (n + 1) d = l.getD n d := rfl
theorem get_zero {α : Type} {v : α} {l : List α} : (v :: l)[0]? = some v := rfl
theorem get_succ {α : Type} {v : α} {l : List α} {n : Nat} : (v :: l)[n + 1]? = l[n]? := rfl
theorem fin_eq {rs : List XRes} {Q : AVal → Heap → Prop} : fin A0 rs Q ts A = ares ts A rs fun vs => WkS A0 [single vs] A (fun us A' => ∃ u, us = [u] ∧ Q u A') .mk := rfl
theorem ares_nil {K : List AVal → Prop} : ares ts A [] K = K [] := rfl
theorem ares_tmp {t : Nat} {rs : List XRes} {K : List AVal → Prop} : ares ts A (.tmp t :: rs) K = ares ts A rs fun vs => K (ts.getD t AVal.undef :: vs) := rfl
theorem single_one {v : AVal} : single [v] = v := rfl
theorem single_two {v u : AVal} {l : List AVal} : single (v :: u :: l) = .tup (v :: u :: l) := rfl
theorem single_nil : single [] = .tup [] := rfl
theorem args_eq {l : List AVal} {n : Nat} : l ++ List.replicate (n - l.length) AVal.undef = l ++ List.replicate (n - l.length) AVal.undef := rfl

theorem valK_eq {v : AVal} {F : AVal → Prop} : valK v F = F v := rfl

attribute [go_sem ↓] awp_range awp_skip awp_ops awp_draw awp_seq awp_block awp_exit awp_ret awp_die awp_cond awp_loop runs_nil runs_op runs_tell Dr_tell runX_none runX_some ask_mv ask_konst ask_die ask_mkFunc ask_alloc ask_call ask_pick ask_box ask_build ask_buildF ask_load1 ask_loadN ask_store ask_nil ask_shl ask_shr ask_quo ask_rem ask_add ask_sub ask_mul ask_and ask_or ask_xor ask_andNot ask_lss ask_leq ask_gtr ask_geq ask_eql ask_neq ask_eqF ask_eqT ask_not ask_conv ask_fieldAddr ask_field1 ask_fieldN ask_extract ask_idxAddr ask_idxAddrArr ask_idxArr1 ask_len ask_callv fin_eq ares_nil ares_tmp
attribute [go_sem] onBool_true onBool_false onBool_dec onBool_ndec orBool_true orBool_false orBool_dec orBool_ndec orBool_undef guarded_tt guarded_ff guarded_tf guarded_ft guarded_undef put_some put_none ev_t ev_k undef_eq intsK_eq intK_eq cellsK_eq optK_eq optK_none ptrK_ptr ptrK_fptr ptrK_nil funcK_eq funcK_yield aggK_eq tupK_eq slK_sl slK_fsl slK_nil eqlK_int eqlK_str eqK_eq aeq_nn aeq_pn aeq_fn aeq_sn aeq_s set_zero set_succ getD_zero getD_succ get_zero get_succ single_one single_two single_nil List.map_cons List.map_nil List.cons_append List.nil_append List.length_cons List.length_nil List.replicate_succ List.replicate_zero true_and Bool.not_true Bool.not_false and_true true_implies false_implies implies_true valK_eq

end Go.Ab
