/- The abstract layer, part 15: operations with their slots and guards; what they read; one step of the model. -/
import Derived.Test.YtookmilggbnoiaaGreatAbMain
import Derived.Orders
set_option linter.unusedSimpArgs false
set_option linter.unusedVariables false
namespace Go.Ab

variable {P : Program} {φ φ' : Emb} {A A' : Heap} {w w' : World} {ts : List AVal} {a : Act} {K : AVal → Heap → Prop}

structure XOper where
  dst : Option Nat
  op : XOp
  guard : Option (Nat × Bool)

def put (ts : List AVal) (dst : Option Nat) (v : AVal) : List AVal :=
  match dst with
  | some d => ts.set d v
  | none => ts

/-- Is a guarded operation to be carried out? -/
def wants (g : Option (Nat × Bool)) (ts : List AVal) : Bool :=
  match g with
  | none => true
  | some (t, want) =>
    match ts.getD t AVal.undef with
    | .raw (.bool b) => b == want
    | _ => false

def AVal.known : AVal → Prop
  | .any => False
  | _ => True

/-- Is it known what the guard says? -/
def gd (g : Option (Nat × Bool)) (ts : List AVal) : Prop :=
  match g with
  | none => True
  | some (t, _) => (ts.getD t AVal.undef).known

/-- An operation, its guard looked at. -/
def runX (P : Program) (x : XOper) (ts : List AVal) (A : Heap) (K : AVal → Heap → Prop) : Prop :=
  gd x.guard ts ∧ bif wants x.guard ts then ask P x.op ts A K else K AVal.undef A

/-- In place of its slots, what they hold. -/
def Arg.inst (ts : List AVal) (x : Arg) : Arg := .k (x.ev ts)

def XOp.inst (ts : List AVal) : XOp → XOp
  | .mv x => .mv (x.inst ts)
  | .pick c a b => .pick (c.inst ts) (a.inst ts) (b.inst ts)
  | .box x => .box (x.inst ts)
  | .alloc zs => .alloc zs
  | .build zs ps => .build zs (ps.map fun p => (p.1, p.2.1, p.2.2.inst ts))
  | .buildSlice l s zs ps => .buildSlice l s zs (ps.map fun p => (p.1, p.2.1, p.2.2.inst ts))
  | .buildF l zs ps => .buildF l zs (ps.map fun p => (p.1, p.2.1, p.2.2.inst ts))
  | .load n x => .load n (x.inst ts)
  | .store n x v => .store n (x.inst ts) (v.inst ts)
  | .nilCheck x => .nilCheck (x.inst ts)
  | .bin op x y => .bin op (x.inst ts) (y.inst ts)
  | .eq k n x y => .eq k n (x.inst ts) (y.inst ts)
  | .die => .die
  | .un op x => .un op (x.inst ts)
  | .conv k x => .conv k (x.inst ts)
  | .arrPtr n s x => .arrPtr n s (x.inst ts)
  | .mkFunc fn f c => .mkFunc fn (f.map (·.inst ts)) (c.map (·.inst ts))
  | .mkSlice s b zs l c => .mkSlice s b zs (l.inst ts) (c.inst ts)
  | .slice s x lo hi mx => .slice s (x.inst ts) (lo.map (·.inst ts)) (hi.map (·.inst ts)) (mx.map (·.inst ts))
  | .sliceArr n s x lo hi mx => .sliceArr n s (x.inst ts) (lo.map (·.inst ts)) (hi.map (·.inst ts)) (mx.map (·.inst ts))
  | .fieldAddr o x => .fieldAddr o (x.inst ts)
  | .field o n x => .field o n (x.inst ts)
  | .idxAddr s x i => .idxAddr s (x.inst ts) (i.inst ts)
  | .idxAddrArr n s x i => .idxAddrArr n s (x.inst ts) (i.inst ts)
  | .idxArr n s z x i => .idxArr n s z (x.inst ts) (i.inst ts)
  | .extract x i => .extract (x.inst ts) i
  | .call f as => .call f (as.map (·.inst ts))
  | .callv f as => .callv (f.inst ts) (as.map (·.inst ts))
  | .append s b x y => .append s b (x.inst ts) (y.inst ts)
  | .appendZ s b zs x y => .appendZ s b zs (x.inst ts) (y.inst ts)
  | .copy s x y => .copy s (x.inst ts) (y.inst ts)
  | .clear zs x => .clear zs (x.inst ts)
  | .len x => .len (x.inst ts)
  | .lenStr x => .lenStr (x.inst ts)
  | .idxStr x i => .idxStr (x.inst ts) (i.inst ts)
  | .strBytes x => .strBytes (x.inst ts)
  | .isNil n x => .isNil n (x.inst ts)
  | .konst a => .konst a
  | .cap x => .cap (x.inst ts)
  | .minMax m x xs => .minMax m (x.inst ts) (xs.map (·.inst ts))

def Arg.slots : Arg → List Nat
  | .t i => [i]
  | .k _ => []

def XOp.slots : XOp → List Nat
  | .mv x | .box x | .load _ x | .nilCheck x | .un _ x | .conv _ x | .arrPtr _ _ x | .fieldAddr _ x | .field _ _ x | .extract x _ | .clear _ x | .len x | .lenStr x | .strBytes x | .isNil _ x | .cap x => x.slots
  | .pick c a b => c.slots ++ a.slots ++ b.slots
  | .alloc _ | .die | .konst _ => []
  | .build _ ps | .buildSlice _ _ _ ps | .buildF _ _ ps => ps.flatMap fun p => p.2.2.slots
  | .store _ x y | .bin _ x y | .eq _ _ x y | .mkSlice _ _ _ x y | .idxAddr _ x y | .idxAddrArr _ _ x y | .idxArr _ _ _ x y | .append _ _ x y | .appendZ _ _ _ x y | .copy _ x y | .idxStr x y => x.slots ++ y.slots
  | .mkFunc _ f c => f.flatMap (·.slots) ++ c.flatMap (·.slots)
  | .slice _ x lo hi mx | .sliceArr _ _ x lo hi mx => x.slots ++ lo.toList.flatMap (·.slots) ++ hi.toList.flatMap (·.slots) ++ mx.toList.flatMap (·.slots)
  | .call _ as => as.flatMap (·.slots)
  | .callv f as => f.slots ++ as.flatMap (·.slots)
  | .minMax _ x xs => x.slots ++ xs.flatMap (·.slots)

theorem Arg.inst_ev (ts ts' : List AVal) (x : Arg) : (x.inst ts).ev ts' = x.ev ts := rfl

theorem afill_inst (ts ts' : List AVal) : ∀ (ps : List (Nat × Nat × Arg)) (vs : List AVal), afill ts' vs (ps.map fun p => (p.1, p.2.1, p.2.2.inst ts)) = afill ts vs ps
  | [], _ => rfl
  | (o, s, x) :: ps, vs => by
    simp only [List.map_cons, afill, Arg.inst_ev]
    split
    · split
      · exact afill_inst ts ts' ps _
      · rfl
    · rfl

theorem abound_inst {ts ts' : List AVal} {x : Option Arg} {d y : Nat} {C : Nat → Prop} : abound req False ts' (x.map (·.inst ts)) d y C = abound req False ts x d y C := by
  cases x <;> rfl

theorem ask_inst (ts ts' : List AVal) (x : XOp) (A : Heap) (K : AVal → Heap → Prop) : ask P (x.inst ts) ts' A K = ask P x ts A K := by
  cases x <;> simp only [ask, XOp.inst, astep, Arg.inst_ev, afill_inst, abound_inst, List.map_map, Function.comp_def]
  case slice s x lo hi mx => cases mx <;> simp only [Option.map_none, Option.map_some] <;> rfl

theorem Arg.inst_congr {ts ts' : List AVal} {x : Arg} (h : ∀ t ∈ x.slots, ts.getD t AVal.undef = ts'.getD t AVal.undef) : x.inst ts = x.inst ts' := by
  cases x with
  | t i => simp only [Arg.inst, Arg.ev]; rw [h i (by simp [Arg.slots])]
  | k a => rfl

theorem args_congr {ts ts' : List AVal} {xs : List Arg} (h : ∀ t ∈ xs.flatMap (·.slots), ts.getD t AVal.undef = ts'.getD t AVal.undef) : xs.map (·.inst ts) = xs.map (·.inst ts') :=
  List.map_congr_left fun x hx => Arg.inst_congr fun t ht => h t (List.mem_flatMap.2 ⟨x, hx, ht⟩)

theorem opt_congr {ts ts' : List AVal} {x : Option Arg} (h : ∀ t ∈ x.toList.flatMap (·.slots), ts.getD t AVal.undef = ts'.getD t AVal.undef) : x.map (·.inst ts) = x.map (·.inst ts') := by
  cases x with
  | none => rfl
  | some x => simp only [Option.map_some]; rw [Arg.inst_congr fun t ht => h t (by simpa using ht)]

theorem inst_congr {ts ts' : List AVal} {x : XOp} (h : ∀ t ∈ x.slots, ts.getD t AVal.undef = ts'.getD t AVal.undef) : x.inst ts = x.inst ts' := by
  cases x <;> simp only [XOp.slots, List.mem_append] at h <;> simp only [XOp.inst]
  case build zs ps =>
    congr 1
    exact List.map_congr_left fun p hp => by rw [Arg.inst_congr fun t ht => h t (List.mem_flatMap.2 ⟨p, hp, ht⟩)]
  case buildSlice l s zs ps =>
    congr 1
    exact List.map_congr_left fun p hp => by rw [Arg.inst_congr fun t ht => h t (List.mem_flatMap.2 ⟨p, hp, ht⟩)]
  case buildF l zs ps =>
    congr 1
    exact List.map_congr_left fun p hp => by rw [Arg.inst_congr fun t ht => h t (List.mem_flatMap.2 ⟨p, hp, ht⟩)]
  case mkFunc fn f c => rw [args_congr fun t ht => h t (.inl ht), args_congr fun t ht => h t (.inr ht)]
  case call f as => rw [args_congr h]
  case callv f as => rw [Arg.inst_congr fun t ht => h t (.inl ht), args_congr fun t ht => h t (.inr ht)]
  case minMax m x xs => rw [Arg.inst_congr fun t ht => h t (.inl ht), args_congr fun t ht => h t (.inr ht)]
  case slice s x lo hi mx => rw [Arg.inst_congr fun t ht => h t (.inl (.inl (.inl ht))), opt_congr fun t ht => h t (.inl (.inl (.inr ht))), opt_congr fun t ht => h t (.inl (.inr ht)), opt_congr fun t ht => h t (.inr ht)]
  case sliceArr n s x lo hi mx => rw [Arg.inst_congr fun t ht => h t (.inl (.inl (.inl ht))), opt_congr fun t ht => h t (.inl (.inl (.inr ht))), opt_congr fun t ht => h t (.inl (.inr ht)), opt_congr fun t ht => h t (.inr ht)]
  case pick c a b => rw [Arg.inst_congr fun t ht => h t (.inl (.inl ht)), Arg.inst_congr fun t ht => h t (.inl (.inr ht)), Arg.inst_congr fun t ht => h t (.inr ht)]
  all_goals first
    | rfl
    | rw [Arg.inst_congr h]
    | rw [Arg.inst_congr fun t ht => h t (.inl ht), Arg.inst_congr fun t ht => h t (.inr ht)]

/-- The operations that make and write nothing. -/
def XOp.quiet : XOp → Bool
  | .mv _ | .pick .. | .build .. | .buildF .. | .load .. | .nilCheck _ | .bin .. | .eq .. | .die | .un .. | .conv .. | .arrPtr .. | .mkFunc .. | .slice .. | .sliceArr .. | .fieldAddr .. | .field ..
  | .idxAddr .. | .idxAddrArr .. | .idxArr .. | .extract .. | .len _ | .lenStr _ | .idxStr .. | .konst _ | .cap _ | .minMax .. => true
  | _ => false

/-- Those among them that look at the heap. -/
def AVal.vague : AVal → Bool
  | .sl _ _ _ none _ => true
  | _ => false
def XOp.looks (ts : List AVal) : XOp → Bool
  | .load .. | .sliceArr .. => true
  | .slice _ x _ hi mx => (hi.isSome || mx.isSome) && (x.ev ts).vague
  | _ => false

/-- A value that an operation comes to, whatever is asked behind it. -/
def Comes (P : Program) (x : XOp) (ts : List AVal) (A : Heap) (v : AVal) : Prop := ∀ K : AVal → Heap → Prop, K v A → ask P x ts A K

theorem abound_split {ts : List AVal} {x : Option Arg} {d y : Nat} {C : Nat → Prop} (h : abound req False ts x d y C) : ∃ n, C n ∧ ∀ C' : Nat → Prop, C' n → abound req False ts x d y C' := by
  cases x with
  | none => exact ⟨d, h, fun _ h' => h'⟩
  | some x =>
    simp only [abound] at h ⊢
    generalize x.ev ts = b at h ⊢
    cases b with
    | raw b =>
      cases b with
      | int k n => exact ⟨n.toNat, h.2, fun _ h' => ⟨h.1, h'⟩⟩
      | _ => exact h.elim
    | _ => exact h.elim

/-- A quiet operation comes to one value, and leaves the heap alone. -/
theorem quiet_split {x : XOp} (hq : x.quiet = true) (h : ask P x ts A K) : ∃ v, K v A ∧ Comes P x ts A v := by
  unfold Comes
  cases x <;> simp only [XOp.quiet, reduceCtorEq] at hq <;> simp only [ask, astep] at h ⊢
  case mv x => exact ⟨_, h, fun _ h' => h'⟩
  case konst x => exact ⟨_, h, fun _ h' => h'⟩
  case mkFunc => exact ⟨_, h, fun _ h' => h'⟩
  case pick c a b =>
    split at h
    · rename_i b _
      cases b with
      | true => rw [if_pos rfl] at h; exact ⟨_, h, fun _ h' => by rw [if_pos rfl]; exact h'⟩
      | false => rw [if_neg (by simp)] at h; exact ⟨_, h, fun _ h' => by rw [if_neg (by simp)]; exact h'⟩
    · exact h.elim
  case slice s x lo hi mx =>
    split at h
    · obtain ⟨m, h, h1⟩ := abound_split h
      obtain ⟨n, h, h2⟩ := abound_split h
      obtain ⟨l, h, h3⟩ := abound_split h
      exact ⟨_, h, fun K' h' => h1 _ (h2 _ (h3 _ h'))⟩
    · split at h
      · obtain ⟨n, ⟨h0, h⟩, h2⟩ := abound_split h
        obtain ⟨l, h, h3⟩ := abound_split h
        exact ⟨_, h, fun K' h' => h2 _ ⟨h0, h3 _ h'⟩⟩
      · obtain ⟨m, h, h1⟩ := abound_split h
        obtain ⟨n, h, h2⟩ := abound_split h
        obtain ⟨l, h, h3⟩ := abound_split h
        exact ⟨_, h, fun K' h' => h1 _ (h2 _ (h3 _ h'))⟩
    · split at h
      · obtain ⟨n, h, h2⟩ := abound_split h
        obtain ⟨l, ⟨h0, h⟩, h3⟩ := abound_split h
        by_cases hc : n = l ∧ l ≠ 0
        · rw [if_pos hc] at h
          exact ⟨_, h, fun K' h' => h2 _ (h3 _ ⟨h0, by rw [if_pos hc]; exact h'⟩)⟩
        · rw [if_neg hc] at h
          exact ⟨_, h, fun K' h' => h2 _ (h3 _ ⟨h0, by rw [if_neg hc]; exact h'⟩)⟩
      · obtain ⟨m, h, h1⟩ := abound_split h
        obtain ⟨n, h, h2⟩ := abound_split h
        obtain ⟨l, ⟨h0, h⟩, h3⟩ := abound_split h
        by_cases hc : m = l ∧ l ≠ 0
        · rw [if_pos hc] at h
          exact ⟨_, h, fun K' h' => h1 _ (h2 _ (h3 _ ⟨h0, by rw [if_pos hc]; exact h'⟩))⟩
        · rw [if_neg hc] at h
          exact ⟨_, h, fun K' h' => h1 _ (h2 _ (h3 _ ⟨h0, by rw [if_neg hc]; exact h'⟩))⟩
    · exact h.elim
  case sliceArr n s x lo hi mx =>
    split at h
    · split at h
      · obtain ⟨m, h, h1⟩ := abound_split h
        obtain ⟨n, h, h2⟩ := abound_split h
        obtain ⟨l, ⟨h0, h⟩, h3⟩ := abound_split h
        by_cases hc : m = l ∧ l ≠ 0
        · rw [if_pos hc] at h
          exact ⟨_, h, fun K' h' => h1 _ (h2 _ (h3 _ ⟨h0, by rw [if_pos hc]; exact h'⟩))⟩
        · rw [if_neg hc] at h
          exact ⟨_, h, fun K' h' => h1 _ (h2 _ (h3 _ ⟨h0, by rw [if_neg hc]; exact h'⟩))⟩
      · exact h.elim
    · obtain ⟨m, h, h1⟩ := abound_split h
      obtain ⟨n, h, h2⟩ := abound_split h
      obtain ⟨l, ⟨h0, h⟩, h3⟩ := abound_split h
      exact ⟨_, h, fun K' h' => h1 _ (h2 _ (h3 _ ⟨h0, h'⟩))⟩
    · exact h.elim
  case load n x =>
    split at h
    · split at h
      · split at h
        · split at h
          · exact ⟨_, h, fun _ h' => h'⟩
          · exact h.elim
        · exact ⟨_, h.2, fun _ h' => ⟨h.1, h'⟩⟩
      · exact h.elim
    · split at h
      · split at h
        · exact ⟨_, h, fun _ h' => h'⟩
        · exact h.elim
      · exact ⟨_, h.2, fun _ h' => ⟨h.1, h'⟩⟩
    · exact h.elim
  case bin op x y =>
    split at h
    · split at h
      · exact ⟨_, h.2, fun _ h' => ⟨h.1, h'⟩⟩
      · exact ⟨_, h.2, fun _ h' => ⟨h.1, h'⟩⟩
      · exact ⟨_, h.2, fun _ h' => ⟨h.1, h'⟩⟩
      · exact ⟨_, h.2, fun _ h' => ⟨h.1, h'⟩⟩
      · split at h
        · exact ⟨_, h.2, fun _ h' => ⟨h.1, h'⟩⟩
        · exact h.elim
    · split at h
      · exact ⟨_, h, fun _ h' => h'⟩
      · exact ⟨_, h, fun _ h' => h'⟩
      · exact h.elim
    · exact h.elim
  all_goals
    repeat' (first
      | exact ⟨_, h.2, fun _ h' => ⟨h.1, h'⟩⟩
      | exact ⟨_, h, fun _ h' => h'⟩
      | exact h.elim
      | split at h)

theorem abound_le {ts : List AVal} {x : Option Arg} {d y y' : Nat} {C : Nat → Prop} (hy : y ≤ y') (h : abound req False ts x d y C) : abound req False ts x d y' C := by
  cases x with
  | none => exact h
  | some x =>
    simp only [abound] at h ⊢
    generalize x.ev ts = b at h ⊢
    cases b with
    | raw b =>
      cases b with
      | int k n => exact ⟨⟨h.1.1, by have := h.1.2; omega⟩, h.2⟩
      | _ => exact h.elim
    | _ => exact h.elim

/-- A slice may be laid anew on a heap on which it reaches as far. -/
theorem ask_slice_le {s : Nat} {x : Arg} {lo hi mx : Option Arg} (hle : hi.isSome = true ∨ mx.isSome = true → ∀ i off len cap e, x.ev ts = .sl i off len cap e → slCap A i off len cap e ≤ slCap A' i off len cap e) {C : AVal → Prop} (h : ask P (.slice s x lo hi mx) ts A fun a _ => C a) : ask P (.slice s x lo hi mx) ts A' fun a _ => C a := by
  simp only [ask, astep] at h ⊢
  generalize x.ev ts = b at h hle ⊢
  cases b with
  | sl i off len cap e =>
    cases mx with
    | none =>
      simp only [] at h ⊢
      cases hi with
      | none => exact h
      | some hi => exact abound_le (hle (.inl rfl) _ _ _ _ _ rfl) h
    | some mx => exact abound_le (hle (.inr rfl) _ _ _ _ _ rfl) h
  | raw r =>
    cases r with
    | slice base l c =>
      cases base with
      | none => cases l <;> cases c <;> exact h
      | some _ => exact h
    | _ => exact h
  | _ => exact h

/-- What does not look at the heap comes to the same on any other. -/
theorem Comes.pure {x : XOp} {v : AVal} (hq : x.quiet = true) (hr : x.looks ts = false) (h : Comes P x ts A v) : Comes P x ts A' v := by
  have key : ask P x ts A (fun a _ => a = v) → ask P x ts A' (fun a _ => a = v) := by
    cases x <;> simp only [XOp.quiet, reduceCtorEq] at hq <;> simp only [XOp.looks, reduceCtorEq] at hr
    case slice s x lo hi mx =>
      refine ask_slice_le (C := fun a => a = v) fun hs i off len cap e he => ?_
      have hs : (hi.isSome || mx.isSome) = true := by rcases hs with h | h <;> simp [h]
      rw [hs, he] at hr
      cases cap with
      | none => simp [AVal.vague] at hr
      | some c => exact Nat.le_refl _
    all_goals exact id
  obtain ⟨u, rfl, h2⟩ := quiet_split hq (key (h _ rfl))
  exact h2

end Go.Ab
