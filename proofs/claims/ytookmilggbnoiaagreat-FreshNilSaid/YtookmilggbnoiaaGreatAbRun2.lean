/- The abstract layer, part 25: more operations for 'simp', regions of open order, the heap. -/
import Derived.Test.YtookmilggbnoiaaGreatAbRun
set_option linter.unusedSimpArgs false
set_option linter.unusedVariables false
namespace Go.Ab

variable {P : Program} {A A' A0 : Heap} {ts ts' : List AVal} {K : AVal → Heap → Prop}

/-! ## A value's cells -/

theorem cells_agg {cs : List AVal} : (AVal.agg cs).cells? = some cs := rfl
theorem cells_ptr {i o : Nat} : (AVal.ptr i o).cells? = some [.ptr i o] := rfl
theorem cells_fptr {cs : List AVal} : (AVal.fptr cs).cells? = some [.fptr cs] := rfl
theorem cells_sl {i o l : Nat} {c : Option Nat} {e : Nat} : (AVal.sl i o l c e).cells? = some [.sl i o l c e] := rfl
theorem cells_fsl {cs : List AVal} {l : Nat} {c : Option Nat} : (AVal.fsl cs l c).cells? = some [.fsl cs l c] := rfl
theorem cells_func {f : Fn} {a b : List AVal} : (AVal.func f a b).cells? = some [.func f a b] := rfl
theorem cells_bool {b : Bool} : (AVal.raw (.bool b)).cells? = some [.raw (.bool b)] := rfl
theorem cells_int {k : IntKind} {n : Int} : (AVal.raw (.int k n)).cells? = some [.raw (.int k n)] := rfl
theorem cells_string {b : ByteArray} : (AVal.raw (.string b)).cells? = some [.raw (.string b)] := rfl
theorem cells_pointer {b : Option Addr} : (AVal.raw (.pointer b)).cells? = some [.raw (.pointer b)] := rfl
theorem cells_slice {b : Option Addr} {l c : Nat} : (AVal.raw (.slice b l c)).cells? = some [.raw (.slice b l c)] := rfl
theorem cells_map {b : Option Nat} : (AVal.raw (.map b)).cells? = some [.raw (.map b)] := rfl
theorem cells_rfunc {f : Fn} {a b : Array Value} : (AVal.raw (.func f a b)).cells? = some [.raw (.func f a b)] := rfl
theorem cells_nilFunc : (AVal.raw .nilFunc).cells? = some [.raw .nilFunc] := rfl
theorem cells_tuple {a : Array Value} : (AVal.raw (.tuple a)).cells? = none := rfl
theorem cells_ragg {a : Array Value} : (AVal.raw (.agg a)).cells? = none := rfl

/-! ## Slices -/

def boundK (ts : List AVal) (x : Option Arg) (d y : Nat) (F : Nat → Prop) : Prop := abound req False ts x d y F
theorem bound_none {d y : Nat} {F : Nat → Prop} : boundK ts none d y F = F d := rfl
theorem bound_some {x : Arg} {d y : Nat} {F : Nat → Prop} : boundK ts (some x) d y F = intK (x.ev ts) fun _ n => (0 ≤ n ∧ n ≤ (y : Int)) ∧ F n.toNat := by
  simp only [boundK, abound]
  generalize x.ev ts = v
  cases v with
  | raw v => cases v <;> rfl
  | _ => rfl

theorem ask_mkSlice {s b : Nat} {zs : List Value} {l c : Arg} : ask P (.mkSlice s b zs l c) ts A K = intK (l.ev ts) fun _ l => intK (c.ev ts) fun _ c => (0 ≤ l ∧ l ≤ c ∧ c ≤ 2 ^ 40 ∧ b * c ≤ 2 ^ 46) ∧ K (.sl A.top 0 l.toNat (some c.toNat) s) (A.push (.cells (repCells zs c.toNat))) := by
  simp only [ask, astep]
  generalize l.ev ts = v
  generalize c.ev ts = u
  cases v with
  | raw v =>
    cases u with
    | raw u => cases v <;> cases u <;> rfl
    | _ => cases v <;> rfl
  | _ => rfl

theorem ask_slice {s : Nat} {x : Arg} {lo hi : Option Arg} : ask P (.slice s x lo hi none) ts A K = slK (x.ev ts)
    (fun i off len cap e => boundK ts hi len (slCap A i off len cap e) fun h => boundK ts lo 0 h fun l => e = s ∧ if h = l ∧ l ≠ 0 then K (.fsl [] 0 (cap.map (· - l))) A else K (.sl i (off + l * s) (h - l) (cap.map (· - l)) s) A)
    (fun cs len cap => boundK ts hi len (cap.getD len) fun h => h ≤ len ∧ boundK ts lo 0 h fun l => K (.fsl ((cs.drop (l * s)).take ((h - l) * s)) (h - l) (cap.map (· - l))) A)
    (fun l c => match l, c with | 0, 0 => boundK ts hi 0 0 fun _ => boundK ts lo 0 0 fun _ => K (.raw (.slice none 0 0)) A | _, _ => False) := by
  simp only [ask, astep]
  generalize x.ev ts = v
  cases v with
  | raw v =>
    cases v with
    | slice a l c =>
      cases a with
      | some a => rfl
      | none => cases l <;> cases c <;> rfl
    | _ => rfl
  | _ => rfl

theorem slCap_some {i off len c e : Nat} : slCap A i off len (some c) e = c := rfl

theorem ask_sliceArr {n s : Nat} {x : Arg} {lo hi : Option Arg} : ask P (.sliceArr n s x lo hi none) ts A K = ptrK (x.ev ts)
    (fun i off => cellsK (A.get i) fun vs => boundK ts hi n n fun h => boundK ts lo 0 h fun l => off + n * s ≤ vs.length ∧ if n = l ∧ l ≠ 0 then K (.fsl [] 0 (some 0)) A else K (.sl i (off + l * s) (h - l) (some (n - l)) s) A)
    (fun cs => boundK ts hi n n fun h => boundK ts lo 0 h fun l => n * s ≤ cs.length ∧ K (.fsl ((cs.drop (l * s)).take ((h - l) * s)) (h - l) (some (n - l))) A) := by
  simp only [ask, astep]
  generalize x.ev ts = v
  cases v with
  | ptr i off =>
    simp only [ptrK]
    generalize A.get i = o
    cases o with
    | none => rfl
    | some o => cases o <;> rfl
  | _ => rfl

def srcK (A : Heap) (s : Nat) (v : AVal) (F : Nat → List AVal → Prop) : Prop := srcCells req False A s v F
@[congr] theorem srcK_congr {s : Nat} {v v' : AVal} {F : Nat → List AVal → Prop} (h : A = A') (h' : v = v') : srcK A s v F = srcK A' s v' F := by rw [h, h']
theorem src_nil {s l c : Nat} {F : Nat → List AVal → Prop} : srcK A s (.raw (.slice none l c)) F = (l = 0 ∧ F 0 []) := rfl
theorem src_fsl {s n : Nat} {cs : List AVal} {cap : Option Nat} {F : Nat → List AVal → Prop} : srcK A s (.fsl cs n cap) F = (cs.length = n * s ∧ F n cs) := rfl
theorem src_sl {s i off n e : Nat} {cap : Option Nat} {F : Nat → List AVal → Prop} : srcK A s (.sl i off n cap e) F = cellsK (A.get i) fun vs => (e = s ∧ off + n * s ≤ vs.length) ∧ F n ((vs.drop off).take (n * s)) := by
  simp only [srcK, srcCells]
  generalize A.get i = o
  cases o with
  | none => rfl
  | some o => cases o <;> rfl

def appK (A : Heap) (s b : Nat) (v : AVal) (n : Nat) (xs : List AVal) (K : AVal → Heap → Prop) : Prop := aappend req False A s b v n xs K
@[congr] theorem appK_congr {s b : Nat} {v v' : AVal} {n n' : Nat} {xs xs' : List AVal} (h : A = A') (h1 : v = v') (h2 : n = n') (h3 : xs = xs') : appK A s b v n xs K = appK A' s b v' n' xs' K := by rw [h, h1, h2, h3]
theorem app_nil {s b n : Nat} {xs : List AVal} : appK A s b (.raw (.slice none 0 0)) n xs K = if n = 0 then K (.raw (.slice none 0 0)) A else n * b ≤ 2 ^ 46 ∧ K (.sl A.top 0 n none s) (A.push (.cells xs)) := by
  simp only [appK, aappend, req]
  by_cases h : n = 0 <;> simp [h]
theorem app_own {s b n i len e : Nat} {xs : List AVal} : appK A s b (.sl i 0 len none e) n xs K = if n = 0 then K (.sl i 0 len none e) A else cellsK (A.get i) fun vs =>
    if len * e < vs.length ∧ (len + n) * e ≤ vs.length then e = s ∧ K (.sl i 0 (len + n) none s) (A.set i (.cells (splice vs (len * s) xs)))
    else (e = s ∧ len * s ≤ vs.length ∧ (len + n) * b ≤ 2 ^ 46) ∧ K (.sl A.top 0 (len + n) none s) ((A.del i).push (.cells (vs.take (len * s) ++ xs))) := by
  simp only [appK, aappend, req]
  by_cases h : n = 0
  · simp [h]
  · rw [if_neg h, if_neg h]
    generalize A.get i = o
    cases o with
    | none => rfl
    | some o => cases o <;> simp [cellsK]
theorem app_fsl {s b n len c : Nat} {cs xs : List AVal} : appK A s b (.fsl cs len (some c)) n xs K = if n = 0 then K (.fsl cs len (some c)) A else (c < len + n ∧ cs.length = len * s ∧ (len + n) * b ≤ 2 ^ 46) ∧ K (.sl A.top 0 (len + n) none s) (A.push (.cells (cs ++ xs))) := by
  simp only [appK, aappend, req]
theorem app_cap {s b n i off len c e : Nat} {xs : List AVal} : appK A s b (.sl i off len (some c) e) n xs K = if n = 0 then K (.sl i off len (some c) e) A else cellsK (A.get i) fun vs =>
    if len + n ≤ c then (e = s ∧ off + (len + n) * s ≤ vs.length) ∧ K (.sl i off (len + n) (some c) s) (A.set i (.cells (splice vs (off + len * s) xs)))
    else (e = s ∧ off + len * s ≤ vs.length ∧ (len + n) * b ≤ 2 ^ 46) ∧ K (.sl A.top 0 (len + n) none s) (A.push (.cells ((vs.drop off).take (len * s) ++ xs))) := by
  simp only [appK, aappend, req]
  by_cases h : n = 0
  · simp [h]
  · rw [if_neg h, if_neg h]
    generalize A.get i = o
    cases o with
    | none => rfl
    | some o => cases o <;> rfl
theorem ask_append {s b : Nat} {x y : Arg} : ask P (.append s b x y) ts A K = srcK A s (y.ev ts) fun n xs => appK A s b (x.ev ts) n xs K := rfl
theorem ask_appendZ {s b : Nat} {zs : List Value} {x y : Arg} : ask P (.appendZ s b zs x y) ts A K = intK (y.ev ts) fun k m => k = .i64 ∧ (0 ≤ m ∧ m * b ≤ 2 ^ 46) ∧ appK A s b (x.ev ts) m.toNat (repCells zs m.toNat) K := by
  simp only [ask, astep]
  generalize y.ev ts = v
  cases v with
  | raw v =>
    cases v with
    | int k n => cases k <;> simp [intK, req, appK]
    | _ => rfl
  | _ => rfl
theorem ask_copy {s : Nat} {x y : Arg} : ask P (.copy s x y) ts A K = srcK A s (y.ev ts) fun n xs => slK (x.ev ts)
    (fun i off len _ e => cellsK (A.get i) fun vs => (e = s ∧ off + len * s ≤ vs.length) ∧ K (.raw (.int .i64 (min n len : Nat))) (A.set i (.cells (splice vs off (xs.take (min n len * s)))))) (fun _ _ _ => False) (fun l _ => K (.raw (.int .i64 (min n l : Nat))) A) := by
  simp only [ask, astep, srcK]
  congr 1
  funext n xs
  generalize x.ev ts = v
  cases v with
  | raw v =>
    cases v with
    | slice a l c => cases a <;> rfl
    | _ => rfl
  | sl i off len cap e =>
    simp only [slK]
    generalize A.get i = o
    cases o with
    | none => rfl
    | some o => cases o <;> rfl
  | _ => rfl
theorem ask_cap {x : Arg} : ask P (.cap x) ts A K = slK (x.ev ts) (fun _ _ _ c _ => optK c fun c => K (.raw (.int .i64 c)) A) (fun _ _ c => optK c fun c => K (.raw (.int .i64 c)) A) (fun _ c => K (.raw (.int .i64 c)) A) := by
  simp only [ask, astep]
  generalize x.ev ts = v
  cases v with
  | raw v =>
    cases v with
    | slice a l c => cases a <;> rfl
    | _ => rfl
  | sl i off len cap e => cases cap <;> rfl
  | fsl cs len cap => cases cap <;> rfl
  | _ => rfl
theorem ask_isNil {n : Bool} {x : Arg} : ask P (.isNil n x) ts A K = valK (x.ev ts) fun v => match v with
    | .raw (.slice none _ _) => K (.raw (.bool (!n))) A
    | .sl .. => K (.raw (.bool n)) A
    | .fsl (_ :: _) _ _ => K (.raw (.bool n)) A
    | .fsl [] _ _ => ∀ r, K (.raw (.bool r)) A
    | _ => False := rfl
theorem ask_neg {x : Arg} : ask P (.un .neg x) ts A K = intK (x.ev ts) fun k n => K (.raw (.int k (k.wrap (0 - n)))) A := by
  simp only [ask, astep]
  generalize x.ev ts = v
  cases v with
  | raw v => cases v <;> rfl
  | _ => rfl
theorem ask_arrPtr {n s : Nat} {x : Arg} : ask P (.arrPtr n s x) ts A K = slK (x.ev ts) (fun i off len _ e => (n ≤ len ∧ e = s) ∧ K (.ptr i off) A) (fun cs len _ => (n ≤ len ∧ cs ≠ []) ∧ K (.fptr cs) A) (fun _ _ => False) := by
  simp only [ask, astep]
  generalize x.ev ts = v
  cases v with
  | raw v =>
    cases v with
    | slice a l c => cases a <;> rfl
    | _ => rfl
  | _ => rfl
theorem ask_minMax {m : Bool} {x : Arg} {xs : List Arg} : ask P (.minMax m x xs) ts A K = valK (x.ev ts) fun v => match v with | .raw v => optK (mms m v (xs.map (·.ev ts))) fun r => K (.raw r) A | _ => False := by
  simp only [ask, astep]
  generalize x.ev ts = v
  cases v with
  | raw v =>
    simp only [valK]
    generalize mms m v (xs.map (·.ev ts)) = o
    cases o <;> rfl
  | _ => rfl

/-! ## Regions of open order -/

def alK (x : XOper) (F : Option Nat → List Value → Prop) : Prop :=
  match x with
  | ⟨dst, .alloc zs, none⟩ => F dst zs
  | _ => False
theorem alK_eq {d : Option Nat} {zs : List Value} {F : Option Nat → List Value → Prop} : alK ⟨d, .alloc zs, none⟩ F = F d zs := rfl

def wv (v : AVal) (b : Bool) : Bool :=
  match v with
  | .raw (.bool c) => c == b
  | _ => false
theorem wants_none : wants none ts = true := rfl
theorem wants_some {t : Nat} {b : Bool} : wants (some (t, b)) ts = wv (ts.getD t AVal.undef) b := rfl
theorem wv_bool {c b : Bool} : wv (.raw (.bool c)) b = (c == b) := rfl
theorem wv_undef {b : Bool} : wv (.raw (.tuple #[])) b = false := rfl

section
variable {xs : List XOper} {anc : List (List Nat)} {Q : List AVal → Heap → Prop} {rs : List DStep} {C : List (Nat × XOp × AVal)} {i : Nat}
theorem Dr_nil : Dr P xs anc Q [] C ts A = Q ts A := rfl
theorem Dr_q : Dr P xs anc Q (.q i :: rs) C ts A = optK xs[i]? fun x => runX P x ts A fun v A' => Dr P xs anc Q rs (bif x.op.looks ts && wants x.guard ts then (i, x.op.inst ts, v) :: C else C) (put ts x.dst v) A' := by
  simp only [Dr]
  generalize xs[i]? = o
  cases o <;> rfl
theorem Dr_al : Dr P xs anc Q (.al i :: rs) C ts A = optK xs[i]? fun x => alK x fun dst zs => Dr P xs anc Q rs C (put ts dst (.ptr A.top 0)) (A.push (.cells (zs.map .raw))) := by
  simp only [Dr]
  generalize xs[i]? = o
  cases o with
  | none => rfl
  | some x =>
    obtain ⟨d, op, g⟩ := x
    cases op <;> cases g <;> rfl
theorem Dr_eff : Dr P xs anc Q (.eff i :: rs) C ts A = optK xs[i]? fun x => runX P x ts A fun v A' => stabs P (anc.getD i []) A' C ∧ Dr P xs anc Q rs C (put ts x.dst v) A' := by
  simp only [Dr]
  generalize xs[i]? = o
  cases o <;> rfl
theorem stabs_nil {an : List Nat} : stabs P an A [] = True := rfl
theorem stabs_cons {an : List Nat} {x : XOp} {v : AVal} : stabs P an A ((i, x, v) :: C) = ((bif an.contains i then True else ask P x [] A fun a _ => a = v) ∧ stabs P an A C) := rfl
theorem inst_load {n : Option Nat} {x : Arg} : XOp.inst ts (.load n x) = .load n (.k (x.ev ts)) := rfl
theorem inst_sliceArr {n s : Nat} {x : Arg} {lo hi mx : Option Arg} : XOp.inst ts (.sliceArr n s x lo hi mx) = .sliceArr n s (.k (x.ev ts)) (lo.map fun y => .k (y.ev ts)) (hi.map fun y => .k (y.ev ts)) (mx.map fun y => .k (y.ev ts)) := rfl
end

theorem lget_zero {α : Type} {v : α} {l : List α} {d : α} : (v :: l).getD 0 d = v := rfl
theorem lget_succ {α : Type} {v : α} {l : List α} {n : Nat} {d : α} : (v :: l).getD (n + 1) d = l.getD n d := rfl

theorem JS_of {f : Nat} {args : List AVal} {Q : AVal → Heap → Prop} {u : Veil K} (h : J P f args A Q) (hk : ∀ v A', Q v A' → K v A') : JS P f args A K u := h.mono hk

/-- What is new is forgotten: the heap is as it was. -/
theorem Wk.back {G : List AVal → Heap → Prop} {vs : List AVal} (hlt : ∀ i, A0.live i → i < A0.top) (hsub : ∀ j, j < A0.top → A.get j = A0.get j) (h : G (renL (fate A0.top [] []) vs) A0) : Wk A0 vs A G := by
  refine Wk.tidy [] [] [] A0 hlt rfl (fun j o ho => .inl ⟨ho, ?_⟩) (by simp) trivial trivial h
  rw [hsub j (hlt j (by simp [Heap.live, ho]))]
  exact ho

theorem keep_eq {live : List Nat} : keep live ts = keepFrom live 0 ts := rfl
theorem keepFrom_nil {live : List Nat} {i : Nat} : keepFrom live i [] = [] := rfl
theorem keepFrom_cons {live : List Nat} {i : Nat} {t : AVal} : keepFrom live i (t :: ts) = (bif live.contains i then t else .any) :: keepFrom live (i + 1) ts := rfl

/-- The round's end: the next state. -/
def NextS {σ : Type} (A0 : Heap) (live : List Nat) (Inv : σ → Prop) (T : σ → List AVal) (H : σ → Heap) (μ : σ → Nat) (s : σ) (ts : List AVal) (A : Heap) : Prop :=
  Wk A0 (keep live ts) A fun ts'' A'' => ∃ m, m < μ s ∧ ∃ s', Inv s' ∧ μ s' = m ∧ ts'' = T s' ∧ A'' = H s'

theorem NextS.wk {σ : Type} {live : List Nat} {Inv : σ → Prop} {T : σ → List AVal} {H : σ → Heap} {μ : σ → Nat} {s : σ} (s' : σ) (h0 : Inv s') (h1 : μ s' < μ s) (h : Wk A0 (keep live ts) A fun ts'' A'' => ts'' = T s' ∧ A'' = H s') : NextS A0 live Inv T H μ s ts A :=
  h.mono fun _ _ ⟨h2, h3⟩ => ⟨_, h1, s', h0, rfl, h2, h3⟩

theorem NextS.to {σ : Type} {live : List Nat} {Inv : σ → Prop} {T : σ → List AVal} {H : σ → Heap} {μ : σ → Nat} {s : σ} (s' : σ) (h0 : Inv s') (h1 : μ s' < μ s) (h2 : keep live ts = T s') (h3 : A = H s') : NextS A0 live Inv T H μ s ts A :=
  .wk s' h0 h1 (.refl ⟨h2, h3⟩)

/-- A loop, by the states that it goes through. -/
theorem loop_st {σ : Type} (live : List Nat) (Inv : σ → Prop) (T : σ → List AVal) (H : σ → Heap) (μ : σ → Nat) {c : XCode} {E : Posts} {u : Veil c} {v : Veil E} (s0 : σ) (h0 : Inv s0) (hT : keep live ts = T s0) (hH : A = H s0)
    (round : ∀ s, Inv s → awp P A0 c ⟨fun ts' A' => NextS A0 live Inv T H μ s ts' A', E.r, E.x⟩ (T s) (H s)) : LoopS P A0 c E ts A u v := by
  intro X hX hW
  have key : ∀ n s, μ s ≤ n → Inv s → X (T s) (H s) := by
    intro n
    induction n with
    | zero =>
      intro s hs hi
      refine hX _ _ (awp_n (round s hi) ?_)
      intro ts' A' h
      exact hW live _ _ (Wk.mono h fun _ _ ⟨m, hm, _⟩ => by omega)
    | succ n ih =>
      intro s hs hi
      refine hX _ _ (awp_n (round s hi) ?_)
      intro ts' A' h
      exact hW live _ _ (Wk.mono h fun _ _ ⟨m, hm, s', h1, h2, h3, h4⟩ => by subst h3 h4; exact ih s' (by omega) h1)
  refine hW live _ _ (.refl ?_)
  rw [hT, hH]
  exact key _ s0 (Nat.le_refl _) h0

/-- A loop, round by round. -/
theorem loop_roll {c : XCode} {E : Posts} {u : Veil c} {v : Veil E} (h : awp P A0 c ⟨fun ts A => LoopS P A0 c E ts A .mk .mk, E.r, E.x⟩ ts A) : LoopS P A0 c E ts A u v := by
  intro X hX hW
  exact hX _ _ (awp_n h fun _ _ h => h X hX hW)

theorem Heap.push_set {o o' : AObj} {i : Nat} (h : i = A.top) : (A.push o).set i o' = A.push o' := by
  subst h
  simp only [Heap.push, Heap.set, Tr.set_set]

theorem ares_cell1 {t : Nat} {rs : List XRes} {K : List AVal → Prop} : ares ts A (.cell t none :: rs) K = ptrK (ts.getD t AVal.undef) (fun i off => cellsK (A.get i) fun vs => optK vs[off]? fun v => ares ts A rs fun us => K (v :: us)) (fun _ => False) := by
  simp only [ares]
  generalize ts.getD t AVal.undef = v
  cases v with
  | ptr i off =>
    simp only [ptrK]
    generalize A.get i = o
    cases o with
    | none => rfl
    | some o =>
      cases o with
      | cells vs => simp only [cellsK]; generalize vs[off]? = o; cases o <;> rfl
      | _ => rfl
  | _ => rfl
theorem ares_cellN {t n : Nat} {rs : List XRes} {K : List AVal → Prop} : ares ts A (.cell t (some n) :: rs) K = ptrK (ts.getD t AVal.undef) (fun i off => cellsK (A.get i) fun vs => off + n ≤ vs.length ∧ ares ts A rs fun us => K (.agg ((vs.drop off).take n) :: us)) (fun _ => False) := by
  simp only [ares]
  generalize ts.getD t AVal.undef = v
  cases v with
  | ptr i off =>
    simp only [ptrK]
    generalize A.get i = o
    cases o with
    | none => rfl
    | some o => cases o <;> rfl
  | _ => rfl

attribute [go_sem ↓] ares_cell1 ares_cellN exit_same exit_other bound_none bound_some ask_mkSlice ask_slice ask_sliceArr ask_append ask_appendZ ask_copy ask_cap ask_isNil ask_neg ask_arrPtr ask_minMax Dr_nil Dr_q Dr_al Dr_eff
attribute [go_sem] Heap.set_set Heap.push_set List.zip_cons_cons List.zip_nil_right List.zip_nil_left List.foldl_cons List.foldl_nil slCap_some src_nil src_fsl src_sl app_nil app_own app_fsl app_cap alK_eq wants_none wants_some wv_bool wv_undef stabs_nil stabs_cons inst_load inst_sliceArr lget_zero lget_succ XOp.looks AVal.vague Option.isSome cond_true cond_false Bool.true_and Bool.false_and Bool.and_true Bool.and_false
  List.contains_cons List.contains_nil Bool.or_true Bool.true_or Bool.or_false Bool.false_or Heap.get_push_if Heap.get_set_if Heap.get_del_if Heap.top_push Heap.top_set Heap.top_del Nat.add_eq_left Nat.left_eq_add Nat.add_assoc Nat.add_left_cancel_iff Nat.zero_add Nat.add_zero
  List.length_map Nat.reduceLeDiff if_true if_false splice List.take_succ_cons List.take_zero List.drop_succ_cons List.drop_zero afill cells_agg cells_ptr cells_fptr cells_sl cells_fsl cells_func cells_bool cells_int cells_string cells_pointer cells_slice cells_map cells_rfunc cells_nilFunc cells_tuple cells_ragg AVal.one Value.oneCell'

end Go.Ab
