/- The abstract layer, part 30: fast operations for the kernel: numbers and lists. -/
import Derived.Test.YtookmilggbnoiaaGreatAbExec3
set_option linter.unusedVariables false
set_option linter.unusedSimpArgs false
namespace Go.Ab

variable {P : Program} {γ : Type} {g : γ}

/-! ## Numbers -/

noncomputable def wrapU {β : Type} (M : Nat) (n : Int) (K : Int → β) : β :=
  match n with
  | .ofNat m => fNat (Nat.mod m M) fun m => K (.ofNat m)
  | .negSucc m => fNat (Nat.sub (Nat.pred M) (Nat.mod m M)) fun m => K (.ofNat m)

noncomputable def wrapS {β : Type} (H : Nat) (k : IntKind) (n : Int) (K : Int → β) : β :=
  match n with
  | .ofNat m => match Nat.ble (Nat.succ m) H with
    | true => fNat m fun m => K (.ofNat m)
    | false => fInt (k.wrap n) K
  | .negSucc m => match Nat.ble (Nat.succ m) H with
    | true => fNat m fun m => K (.negSucc m)
    | false => fInt (k.wrap n) K

noncomputable def wrapF {β : Type} (k : IntKind) : Int → (Int → β) → β :=
  IntKind.rec (wrapS 128 .i8) (wrapS 32768 .i16) (wrapS 2147483648 .i32) (wrapS 9223372036854775808 .i64) (wrapU 256) (wrapU 65536) (wrapU 4294967296) (wrapU 18446744073709551616) k

theorem wrapU_eq {β : Type} {M : Nat} (hM : 0 < M) {n : Int} {K : Int → β} : wrapU M n K = K (n % (M : Int)) := by
  cases n with
  | ofNat m =>
    simp only [wrapU, fNat_eq]
    rfl
  | negSucc m =>
    simp only [wrapU, fNat_eq]
    congr 1
    have h1 : m % M < M := Nat.mod_lt _ hM
    show ((M - 1 - m % M : Nat) : Int) = Int.negSucc m % (M : Int)
    rw [Int.negSucc_emod _ (by omega)]
    omega

theorem wrap_small {k : IntKind} (hs : k.signed = true) {n : Int} (h1 : -(2 ^ (k.bits - 1)) ≤ n) (h2 : n < 2 ^ (k.bits - 1)) : k.wrap n = n := by
  have key : ∀ M H : Int, M = 2 * H → -H ≤ n → n < H → (if (true && decide (n % M ≥ H)) = true then n % M - M else n % M) = n := by
    intro M H hM h1 h2
    subst hM
    by_cases h0 : 0 ≤ n
    · rw [Int.emod_eq_of_lt h0 (by omega), if_neg]
      simp only [Bool.true_and, decide_eq_true_eq]
      omega
    · have : n % (2 * H) = n + 2 * H := by
        rw [← Int.add_emod_right, Int.emod_eq_of_lt (by omega) (by omega)]
      rw [this, if_pos]
      · omega
      · simp only [Bool.true_and, decide_eq_true_eq]
        omega
  cases k <;> first
    | (cases hs; done)
    | exact key _ _ (by decide) h1 h2

theorem wrapF_eq {β : Type} {k : IntKind} {n : Int} {K : Int → β} : wrapF k n K = K (k.wrap n) := by
  have hs : ∀ (H : Nat) (k : IntKind), (∀ m : Nat, m < H → k.wrap (Int.ofNat m) = Int.ofNat m ∧ k.wrap (Int.negSucc m) = Int.negSucc m) → wrapS H k n K = K (k.wrap n) := by
    intro H k h
    cases n with
    | ofNat m =>
      simp only [wrapS, fNat_eq, fInt_eq]
      split
      · rename_i hb
        rw [(h m (Nat.le_of_ble_eq_true hb)).1]
      · rfl
    | negSucc m =>
      simp only [wrapS, fNat_eq, fInt_eq]
      split
      · rename_i hb
        rw [(h m (Nat.le_of_ble_eq_true hb)).2]
      · rfl
  cases k
  case u8 => exact (wrapU_eq (by omega)).trans rfl
  case u16 => exact (wrapU_eq (by omega)).trans rfl
  case u32 => exact (wrapU_eq (by omega)).trans rfl
  case u64 => exact (wrapU_eq (by omega)).trans rfl
  all_goals
    refine hs _ _ fun m hm => ?_
    rw [Int.negSucc_eq, Int.ofNat_eq_natCast]
    constructor
    · exact wrap_small rfl (by show (-(_ : Int)) ≤ _; simp only [IntKind.bits]; omega) (by simp only [IntKind.bits]; omega)
    · exact wrap_small rfl (by simp only [IntKind.bits]; omega) (by simp only [IntKind.bits]; omega)

def IntKind.idx : IntKind → Nat
  | .i8 => 0 | .i16 => 1 | .i32 => 2 | .i64 => 3 | .u8 => 4 | .u16 => 5 | .u32 => 6 | .u64 => 7
def sameK (k k' : IntKind) : Bool := Nat.beq (IntKind.idx k) (IntKind.idx k')
theorem sameK_eq {k k' : IntKind} (h : sameK k k' = true) : k = k' := by
  cases k <;> cases k' <;> first | rfl | cases h

def ltB (a b : Int) : Bool :=
  match a with
  | .ofNat m => match b with
    | .ofNat n => Nat.ble (Nat.succ m) n
    | .negSucc _ => false
  | .negSucc m => match b with
    | .ofNat _ => true
    | .negSucc n => Nat.ble (Nat.succ n) m
def eqB (a b : Int) : Bool :=
  match a with
  | .ofNat m => match b with
    | .ofNat n => Nat.beq m n
    | .negSucc _ => false
  | .negSucc m => match b with
    | .ofNat _ => false
    | .negSucc n => Nat.beq m n
theorem ltB_eq (a b : Int) : ltB a b = decide (a < b) := by
  cases a <;> cases b <;> simp only [ltB]
  case ofNat.ofNat m n =>
    rw [Bool.eq_iff_iff, decide_eq_true_eq]
    show Nat.ble (m + 1) n = true ↔ (m : Int) < (n : Int)
    rw [Nat.ble_eq]; omega
  case ofNat.negSucc m n => symm; rw [decide_eq_false_iff_not]; show ¬ (m : Int) < _; rw [Int.negSucc_eq]; omega
  case negSucc.ofNat m n => symm; rw [decide_eq_true_eq]; show _ < (n : Int); rw [Int.negSucc_eq]; omega
  case negSucc.negSucc m n =>
    rw [Bool.eq_iff_iff, decide_eq_true_eq, Int.negSucc_eq, Int.negSucc_eq]
    show Nat.ble (n + 1) m = true ↔ _
    rw [Nat.ble_eq]; omega
theorem eqB_eq (a b : Int) : eqB a b = (a == b) := by
  cases a <;> cases b <;> simp only [eqB]
  case ofNat.ofNat m n =>
    rw [Bool.eq_iff_iff, beq_iff_eq, Nat.beq_eq]
    show m = n ↔ (m : Int) = (n : Int)
    omega
  case ofNat.negSucc m n => symm; rw [beq_eq_false_iff_ne]; intro h; cases h
  case negSucc.ofNat m n => symm; rw [beq_eq_false_iff_ne]; intro h; cases h
  case negSucc.negSucc m n =>
    rw [Bool.eq_iff_iff, beq_iff_eq, Nat.beq_eq]
    exact ⟨fun h => by rw [h], fun h => by cases h; rfl⟩

/-- Two to the bits. -/
def IntKind.full : IntKind → Nat
  | .i8 | .u8 => 256 | .i16 | .u16 => 65536 | .i32 | .u32 => 4294967296 | .i64 | .u64 => 18446744073709551616
theorem IntKind.full_eq (k : IntKind) : IntKind.full k = 2 ^ k.bits := by cases k <;> rfl

theorem bv_nat {w m : Nat} (h : m < 2 ^ w) : (BitVec.ofInt w (m : Int)).toNat = m := by
  rw [BitVec.toNat_ofInt]
  have : (m : Int) % ((2 ^ w : Nat) : Int) = (m : Int) := Int.emod_eq_of_lt (by omega) (by omega)
  rw [this]; rfl

/-- Bits of two numbers, neither below nought. -/
def bitsF (op : BinOp) (M : Nat) (a b : Nat) : Option Nat :=
  match op with
  | .and => some (Nat.land a b)
  | .or => some (Nat.lor a b)
  | .xor => some (Nat.xor a b)
  | .andNot => some (Nat.land a (Nat.sub (Nat.pred M) b))
  | _ => none

theorem bitsF_some {op : BinOp} {k : IntKind} {a b r : Nat} (ha : a < IntKind.full k) (hb : b < IntKind.full k) (h : bitsF op (IntKind.full k) a b = some r) : intBin op k (a : Int) (b : Int) = some (.int k (k.wrap (r : Int))) := by
  rw [IntKind.full_eq] at ha hb h
  have h1 := bv_nat ha
  have h2 := bv_nat hb
  cases op <;> simp only [bitsF, Option.some.injEq, reduceCtorEq] at h <;> subst h <;> simp only [intBin, BitVec.toNat_and, BitVec.toNat_or, BitVec.toNat_xor, BitVec.toNat_not, h1, h2] <;> rfl

section
variable (k : IntKind) (a b : Int) (K : Value → Option γ) (slow : Unit → Option γ)
noncomputable def x_add : Option γ := wrapF k (Int.add a b) fun n => K (.int k n)
noncomputable def x_sub : Option γ := wrapF k (Int.sub a b) fun n => K (.int k n)
noncomputable def x_mul : Option γ := wrapF k (Int.mul a b) fun n => K (.int k n)
noncomputable def x_eql : Option γ := fBool (eqB a b) fun r => K (.bool r)
noncomputable def x_neq : Option γ := fBool (not (eqB a b)) fun r => K (.bool r)
noncomputable def x_lss : Option γ := fBool (ltB a b) fun r => K (.bool r)
noncomputable def x_leq : Option γ := fBool (not (ltB b a)) fun r => K (.bool r)
noncomputable def x_gtr : Option γ := fBool (ltB b a) fun r => K (.bool r)
noncomputable def x_geq : Option γ := fBool (not (ltB a b)) fun r => K (.bool r)
noncomputable def x_shl : Option γ :=
  match a with
  | .ofNat m => match b with
    | .ofNat s => match Nat.ble s k.bits with
      | true => wrapF k (.ofNat (Nat.mul m (Nat.pow 2 s))) fun n => K (.int k n)
      | false => slow ()
    | _ => slow ()
  | _ => slow ()
noncomputable def x_shr : Option γ :=
  match a with
  | .ofNat m => match b with
    | .ofNat s => match Nat.ble s k.bits with
      | true => fNat (Nat.div m (Nat.pow 2 s)) fun n => K (.int k (.ofNat n))
      | false => slow ()
    | _ => slow ()
  | _ => slow ()
noncomputable def x_bits (op : BinOp) : Option γ :=
  match a with
  | .ofNat m => match b with
    | .ofNat n => match Nat.ble (Nat.succ m) (IntKind.full k) with
      | true => match Nat.ble (Nat.succ n) (IntKind.full k) with
        | true => match bitsF op (IntKind.full k) m n with
          | some r => wrapF k (.ofNat r) fun n => K (.int k n)
          | none => slow ()
        | false => slow ()
      | false => slow ()
    | _ => slow ()
  | _ => slow ()
end
noncomputable def xint (op : BinOp) : IntKind → Int → Int → (Value → Option γ) → (Unit → Option γ) → Option γ :=
  match op with
  | .add => fun k a b K _ => x_add k a b K
  | .sub => fun k a b K _ => x_sub k a b K
  | .mul => fun k a b K _ => x_mul k a b K
  | .eql => fun _ a b K _ => x_eql a b K
  | .neq => fun _ a b K _ => x_neq a b K
  | .lss => fun _ a b K _ => x_lss a b K
  | .leq => fun _ a b K _ => x_leq a b K
  | .gtr => fun _ a b K _ => x_gtr a b K
  | .geq => fun _ a b K _ => x_geq a b K
  | .shl => x_shl
  | .shr => x_shr
  | op => fun k a b K slow => x_bits k a b K slow op

/-- What is asked of two numbers, by 'astep'. -/
noncomputable def xslow (op : BinOp) (v u : AVal) (A : Heap) (K : AVal → Heap → Option γ) : Option γ := astep reqO none (fun _ _ _ _ => none) (fun _ _ _ _ => none) (fun _ => none) (.bin op (.k v) (.k u)) [] A K
noncomputable def xbin (op : BinOp) (v u : AVal) (A : Heap) (K : AVal → Heap → Option γ) : Option γ :=
  match v with
  | .raw (.int k a) => match u with
    | .raw (.int k' b) => match sameK k k' with
      | true => xint op k a b (fun r => K (.raw r) A) fun _ => xslow op v u A K
      | false => xslow op v u A K
    | _ => none
  | _ => xslow op v u A K

theorem astep_bin {call call' : Nat → List AVal → Heap → (AVal → Heap → Option γ) → Option γ} {op : BinOp} {x y x' y' : Arg} {ts ts' : List AVal} {A : Heap} {K : AVal → Heap → Option γ} (hx : x.ev ts = x'.ev ts') (hy : y.ev ts = y'.ev ts') :
    astep reqO none call (fun _ _ _ _ => none) (fun _ => none) (.bin op x y) ts A K = astep reqO none call' (fun _ _ _ _ => none) (fun _ => none) (.bin op x' y') ts' A K := by simp only [astep, hx, hy]

theorem xint_some {call : Nat → List AVal → Heap → (AVal → Heap → Option γ) → Option γ} {op : BinOp} {k : IntKind} {a b : Int} {A : Heap} {K : AVal → Heap → Option γ} {slow : Unit → Option γ}
    (h : xint op k a b (fun r => K (.raw r) A) slow = some g) (hs : slow () = some g → astep reqO none call (fun _ _ _ _ => none) (fun _ => none) (.bin op (.k (.raw (.int k a))) (.k (.raw (.int k b)))) [] A K = some g) :
    astep reqO none call (fun _ _ _ _ => none) (fun _ => none) (.bin op (.k (.raw (.int k a))) (.k (.raw (.int k b)))) [] A K = some g := by
  have easy : ∀ {r : Value}, intBin op k a b = some r → K (.raw r) A = some g → (op ≠ .shl ∧ op ≠ .shr ∧ op ≠ .quo ∧ op ≠ .rem) → astep reqO none call (fun _ _ _ _ => none) (fun _ => none) (.bin op (.k (.raw (.int k a))) (.k (.raw (.int k b)))) [] A K = some g := by
    intro r h1 h2 h3
    cases op <;> first
      | exact absurd rfl h3.1
      | exact absurd rfl h3.2.1
      | exact absurd rfl h3.2.2.1
      | exact absurd rfl h3.2.2.2
      | (simp only [astep, Arg.ev, h1]; exact reqO_some.2 ⟨by trivial, h2⟩)
  have bits : (op = .and ∨ op = .or ∨ op = .xor ∨ op = .andNot) → ∀ m n : Nat, a = .ofNat m → b = .ofNat n → Nat.ble (Nat.succ m) (IntKind.full k) = true → Nat.ble (Nat.succ n) (IntKind.full k) = true → ∀ r, bitsF op (IntKind.full k) m n = some r →
      wrapF k (.ofNat r) (fun n => K (.raw (.int k n)) A) = some g → astep reqO none call (fun _ _ _ _ => none) (fun _ => none) (.bin op (.k (.raw (.int k a))) (.k (.raw (.int k b)))) [] A K = some g := by
    rintro h0 m n rfl rfl h1 h2 r hr h
    rw [wrapF_eq] at h
    exact easy (bitsF_some (Nat.lt_of_succ_le (Nat.le_of_ble_eq_true h1)) (Nat.lt_of_succ_le (Nat.le_of_ble_eq_true h2)) hr) h (by rcases h0 with rfl | rfl | rfl | rfl <;> simp)
  cases op
  case add => simp only [xint, x_add, x_sub, x_mul, wrapF_eq] at h; exact easy rfl h (by simp)
  case sub => simp only [xint, x_add, x_sub, x_mul, wrapF_eq] at h; exact easy rfl h (by simp)
  case mul => simp only [xint, x_add, x_sub, x_mul, wrapF_eq] at h; exact easy rfl h (by simp)
  case eql => simp only [xint, x_eql, x_neq, fBool_eq, eqB_eq] at h; exact easy rfl h (by simp)
  case neq => simp only [xint, x_eql, x_neq, fBool_eq, eqB_eq] at h; exact easy rfl h (by simp)
  case lss => simp only [xint, x_lss, x_leq, x_gtr, x_geq, fBool_eq, ltB_eq] at h; exact easy rfl h (by simp)
  case leq => simp only [xint, x_lss, x_leq, x_gtr, x_geq, fBool_eq, ltB_eq] at h; exact easy rfl (by rw [← h]; congr 3; rw [Bool.eq_iff_iff]; simp) (by simp)
  case gtr => simp only [xint, x_lss, x_leq, x_gtr, x_geq, fBool_eq, ltB_eq] at h; exact easy rfl h (by simp)
  case geq => simp only [xint, x_lss, x_leq, x_gtr, x_geq, fBool_eq, ltB_eq] at h; exact easy rfl (by rw [← h]; congr 3; rw [Bool.eq_iff_iff]; simp) (by simp)
  case shl =>
    cases a with
    | negSucc m => exact hs h
    | ofNat m =>
      cases b with
      | negSucc s => exact hs h
      | ofNat s =>
        simp only [xint, x_shl, x_shr] at h
        split at h
        · rename_i hb
          have hb := Nat.le_of_ble_eq_true hb
          rw [wrapF_eq] at h
          simp only [astep, Arg.ev]
          refine reqO_some.2 ⟨by simp, ?_⟩
          rw [show min (Int.ofNat s).toNat k.bits = s from Nat.min_eq_left hb]
          have : Int.ofNat m * 2 ^ s = Int.ofNat (m.mul (Nat.pow 2 s)) := by
            show (m : Int) * 2 ^ s = ((m * 2 ^ s : Nat) : Int)
            simp
          rw [this]
          exact h
        · exact hs h
  case shr =>
    cases a with
    | negSucc m => exact hs h
    | ofNat m =>
      cases b with
      | negSucc s => exact hs h
      | ofNat s =>
        simp only [xint, x_shl, x_shr] at h
        split at h
        · rename_i hb
          have hb := Nat.le_of_ble_eq_true hb
          rw [fNat_eq] at h
          simp only [astep, Arg.ev]
          refine reqO_some.2 ⟨by simp, ?_⟩
          rw [show min (Int.ofNat s).toNat k.bits = s from Nat.min_eq_left hb]
          have : Int.fdiv (Int.ofNat m) (2 ^ s) = Int.ofNat (m.div (Nat.pow 2 s)) := by
            have h2 : ((2 : Int) ^ s) = ((2 ^ s : Nat) : Int) := by simp
            rw [h2, Int.fdiv_eq_ediv_of_nonneg _ (Int.natCast_nonneg _)]
            rfl
          rw [this]
          exact h
        · exact hs h
  all_goals
    cases a with
    | negSucc m => exact hs h
    | ofNat m =>
      cases b with
      | negSucc n => exact hs h
      | ofNat n =>
        simp only [xint, x_bits] at h
        split at h
        · rename_i h1
          split at h
          · rename_i h2
            split at h
            · rename_i r hr
              first
                | (simp only [bitsF, reduceCtorEq] at hr; done)
                | exact bits (by simp) m n rfl rfl h1 h2 r hr h
            · exact hs h
          · exact hs h
        · exact hs h

theorem xbin_some {call : Nat → List AVal → Heap → (AVal → Heap → Option γ) → Option γ} {op : BinOp} {v u : AVal} {A : Heap} {K : AVal → Heap → Option γ} (h : xbin op v u A K = some g) :
    astep reqO none call (fun _ _ _ _ => none) (fun _ => none) (.bin op (.k v) (.k u)) [] A K = some g := by
  have slow : ∀ {v u : AVal}, astep reqO none (fun _ _ _ _ => none) (fun _ _ _ _ => none) (fun _ => none) (.bin op (.k v) (.k u)) [] A K = some g → astep reqO none call (fun _ _ _ _ => none) (fun _ => none) (.bin op (.k v) (.k u)) [] A K = some g := by
    intro v u h
    rw [← h]
    exact astep_bin rfl rfl
  unfold xbin at h
  split at h
  · split at h
    · split at h
      · rename_i k a k' b hk
        have hk := sameK_eq hk
        subst hk
        exact xint_some h slow
      · exact slow h
    · cases h
  · exact slow h

/-! ## Lists -/

noncomputable def lNth (l : List AVal) : Nat → Option AVal := List.rec (fun _ => none) (fun a _ ih i => Nat.casesOn i (some a) ih) l
theorem lNth_eq : ∀ (l : List AVal) (i : Nat), lNth l i = l[i]? := by
  intro l
  induction l with
  | nil => intro i; rfl
  | cons a l ih =>
    intro i
    cases i with
    | zero => rfl
    | succ i => exact (ih i).trans (by simp)

noncomputable def lDrop (l : List AVal) : Nat → List AVal := List.rec (fun _ => []) (fun a tl ih i => Nat.casesOn i (a :: tl) ih) l
theorem lDrop_eq : ∀ (l : List AVal) (i : Nat), lDrop l i = l.drop i := by
  intro l
  induction l with
  | nil => intro i; simp [lDrop]
  | cons a l ih =>
    intro i
    cases i with
    | zero => rfl
    | succ i => exact (ih i).trans (by simp)

noncomputable def lTakeK {β : Type} (l : List AVal) : Nat → (List AVal → β) → β := List.rec (fun _ K => K []) (fun a _ ih i K => Nat.casesOn i (K []) fun i => ih i fun l => K (a :: l)) l
theorem lTakeK_eq {β : Type} : ∀ (l : List AVal) (i : Nat) (K : List AVal → β), lTakeK l i K = K (l.take i) := by
  intro l
  induction l with
  | nil => intro i K; simp [lTakeK]
  | cons a l ih =>
    intro i K
    cases i with
    | zero => rfl
    | succ i => exact (ih i _).trans (by simp)

/-- So many, and others behind. -/
noncomputable def lOntoK {β : Type} (l : List AVal) (xs : List AVal) : Nat → (List AVal → β) → β := List.rec (fun _ K => K xs) (fun a _ ih i K => Nat.casesOn i (K xs) fun i => ih i fun l => K (a :: l)) l
theorem lOntoK_eq {β : Type} : ∀ (l xs : List AVal) (i : Nat) (K : List AVal → β), lOntoK l xs i K = K (l.take i ++ xs) := by
  intro l xs
  induction l with
  | nil => intro i K; simp [lOntoK]
  | cons a l ih =>
    intro i K
    cases i with
    | zero => rfl
    | succ i => exact (ih i _).trans (by simp)

noncomputable def overK {β : Type} (cs : List AVal) : List AVal → (List AVal → β) → β := List.rec (fun vs K => K vs) (fun c _ ih vs K => ih (List.casesOn vs [] fun _ tl => tl) fun l => K (c :: l)) cs
theorem overK_eq {β : Type} : ∀ (cs vs : List AVal) (K : List AVal → β), overK cs vs K = K (cs ++ vs.drop cs.length) := by
  intro cs
  induction cs with
  | nil => intro vs K; simp [overK]
  | cons c cs ih =>
    intro vs K
    refine (ih _ _).trans ?_
    cases vs with
    | nil => simp
    | cons v vs => simp

noncomputable def spliceK {β : Type} (cs : List AVal) (vs : List AVal) : Nat → (List AVal → β) → β :=
  List.rec (fun _ K => K cs) (fun a tl ih off K => Nat.casesOn off (overK cs (a :: tl) K) fun off => ih off fun l => K (a :: l)) vs
theorem spliceK_eq {β : Type} : ∀ (cs vs : List AVal) (off : Nat) (K : List AVal → β), spliceK cs vs off K = K (splice vs off cs) := by
  intro cs vs
  induction vs with
  | nil => intro off K; simp [spliceK, splice]
  | cons a vs ih =>
    intro off K
    cases off with
    | zero =>
      refine (overK_eq cs (a :: vs) K).trans ?_
      simp [splice]
    | succ off =>
      refine (ih off _).trans ?_
      simp only [splice, List.take_succ_cons, List.cons_append]
      congr 3
      rw [show off + 1 + cs.length = off + cs.length + 1 by omega]
      simp

noncomputable def lLenK {β : Type} (l : List AVal) : Nat → (Nat → β) → β := List.rec (fun n K => K n) (fun _ _ ih n K => ih (Nat.succ n) K) l
theorem lLenK_eq {β : Type} : ∀ (l : List AVal) (n : Nat) (K : Nat → β), lLenK l n K = K (n + l.length) := by
  intro l
  induction l with
  | nil => intro n K; rfl
  | cons a l ih =>
    intro n K
    refine (ih _ _).trans ?_
    simp only [List.length_cons]
    congr 1
    omega

end Go.Ab
