/- The abstract layer, part 23: for 'simp': what is behind a step is not looked into. -/
import Derived.Test.YtookmilggbnoiaaGreatAbMono
set_option linter.unusedSimpArgs false
set_option linter.unusedVariables false
namespace Go.Ab

variable {P : Program} {A A' A0 : Heap} {ts ts' : List AVal}

@[congr] theorem awp_congr {c : XCode} {E : Posts} (h1 : ts = ts') (h2 : A = A') : awp P A0 c E ts A = awp P A0 c E ts' A' := by rw [h1, h2]
@[congr] theorem runs_congr {xs : List XStep} {K : List AVal → Heap → Prop} (h1 : ts = ts') (h2 : A = A') : runs P xs ts A K = runs P xs ts' A' K := by rw [h1, h2]
@[congr] theorem runX_congr' {x : XOper} {K : AVal → Heap → Prop} (h1 : ts = ts') (h2 : A = A') : runX P x ts A K = runX P x ts' A' K := by rw [h1, h2]
@[congr] theorem ask_congr {x : XOp} {K : AVal → Heap → Prop} (h1 : ts = ts') (h2 : A = A') : ask P x ts A K = ask P x ts' A' K := by rw [h1, h2]
@[congr] theorem astep_congr {req : (p : Prop) → [Decidable p] → Prop → Prop} {bad : Prop} {amb : (Bool → Prop) → Prop} {call yield : Nat → List AVal → Heap → (AVal → Heap → Prop) → Prop} {x : XOp} {K : AVal → Heap → Prop} (h1 : ts = ts') (h2 : A = A') :
    astep req bad call yield amb x ts A K = astep req bad call yield amb x ts' A' K := by rw [h1, h2]
@[congr] theorem Dr_congr {xs : List XOper} {anc : List (List Nat)} {Q : List AVal → Heap → Prop} {rs : List DStep} {C C' : List (Nat × XOp × AVal)} (h0 : C = C') (h1 : ts = ts') (h2 : A = A') : Dr P xs anc Q rs C ts A = Dr P xs anc Q rs C' ts' A' := by rw [h0, h1, h2]
@[congr] theorem J_congr {f : Nat} {Q : AVal → Heap → Prop} (h1 : ts = ts') (h2 : A = A') : J P f ts A Q = J P f ts' A' Q := by rw [h1, h2]
@[congr] theorem Wk_congr {G : List AVal → Heap → Prop} (h1 : ts = ts') (h2 : A = A') : Wk A0 ts A G = Wk A0 ts' A' G := by rw [h1, h2]
@[congr] theorem ares_congr {rs : List XRes} {K : List AVal → Prop} (h1 : ts = ts') (h2 : A = A') : ares ts A rs K = ares ts' A' rs K := by rw [h1, h2]
@[congr] theorem bcond_congr {b b' : Bool} {x y : Prop} (h : b = b') : (bif b then x else y) = (bif b' then x else y) := by rw [h]

theorem awp_skip {E : Posts} : awp P A0 .skip E ts A = E.n ts A := rfl
theorem awp_ops {xs : List XStep} {E : Posts} : awp P A0 (.ops xs) E ts A = runs P xs ts A (fun ts A => E.n ts A) := rfl
theorem awp_draw {xs : List XOper} {anc : List (List Nat)} {sc : List DStep} {E : Posts} : awp P A0 (.draw xs anc sc) E ts A = Dr P xs anc (fun ts A => E.n ts A) sc [] ts A := rfl
theorem awp_seq {a b : XCode} {E : Posts} : awp P A0 (.seq a b) E ts A = awp P A0 a ⟨fun ts A => awp P A0 b E ts A, E.r, E.x⟩ ts A := rfl
def exitK (a b : Nat) (p q : Prop) : Prop := if a = b then p else q
theorem exit_same {a : Nat} {p q : Prop} : exitK a a p q = p := by simp [exitK]
theorem exit_other {a b : Nat} {p q : Prop} (h : a ≠ b) : exitK a b p q = q := by simp [exitK, h]
theorem awp_block {id : Nat} {c : XCode} {E : Posts} : awp P A0 (.block id c) E ts A = awp P A0 c ⟨fun ts A => E.n ts A, E.r, fun id' ts A => exitK id' id (E.n ts A) (E.x id' ts A)⟩ ts A := by
  have : (fun id' => bif id' == id then E.n else E.x id') = fun id' ts A => exitK id' id (E.n ts A) (E.x id' ts A) := by
    funext id' ts A
    by_cases h : id' = id
    · subst h; simp [exitK]
    · have : (id' == id) = false := by simpa using h
      simp [exitK, h, this]
  show awp P A0 c ⟨E.n, E.r, fun id' => bif id' == id then E.n else E.x id'⟩ ts A = _
  rw [this]
theorem awp_exit {id : Nat} {E : Posts} : awp P A0 (.exit id) E ts A = E.x id ts A := rfl
theorem awp_ret {E : Posts} : awp P A0 .ret E ts A = E.r ts A := rfl
theorem awp_die {E : Posts} : awp P A0 .die E ts A = False := rfl

def onBool (v : AVal) (p q : Prop) : Prop :=
  match v with
  | .raw (.bool b) => (b = true → p) ∧ (b = false → q)
  | _ => False

@[congr] theorem onBool_congr {v v' : AVal} {p q : Prop} (h : v = v') : onBool v p q = onBool v' p q := by rw [h]
theorem onBool_true {p q : Prop} : onBool (.raw (.bool true)) p q = p := by simp [onBool]
theorem onBool_false {p q : Prop} : onBool (.raw (.bool false)) p q = q := by simp [onBool]
theorem onBool_eq {b : Bool} {p q : Prop} : onBool (.raw (.bool b)) p q = ((b = true → p) ∧ (b = false → q)) := rfl
theorem onBool_dec {c : Prop} [Decidable c] {p q : Prop} : onBool (.raw (.bool (decide c))) p q = ((c → p) ∧ (¬ c → q)) := by simp [onBool]
theorem onBool_ndec {c : Prop} [Decidable c] {p q : Prop} : onBool (.raw (.bool (!decide c))) p q = ((c → q) ∧ (¬ c → p)) := by
  simp only [onBool, Bool.not_eq_true', decide_eq_false_iff_not, Bool.not_eq_false', decide_eq_true_eq]
  exact propext ⟨fun h => ⟨h.2, h.1⟩, fun h => ⟨h.2, h.1⟩⟩
theorem awp_cond {c : Arg} {x y : XCode} {E : Posts} : awp P A0 (.cond c x y) E ts A = onBool (c.ev ts) (awp P A0 x E ts A) (awp P A0 y E ts A) := rfl

def orBool (v : AVal) (p q r : Prop) : Prop :=
  match v with
  | .raw (.bool b) => (b = true → p) ∧ (b = false → q)
  | _ => r

@[congr] theorem orBool_congr {v v' : AVal} {p q r : Prop} (h : v = v') : orBool v p q r = orBool v' p q r := by rw [h]
theorem orBool_true {p q r : Prop} : orBool (.raw (.bool true)) p q r = p := by simp [orBool]
theorem orBool_false {p q r : Prop} : orBool (.raw (.bool false)) p q r = q := by simp [orBool]
theorem orBool_eq {b : Bool} {p q r : Prop} : orBool (.raw (.bool b)) p q r = ((b = true → p) ∧ (b = false → q)) := rfl
theorem orBool_dec {c : Prop} [Decidable c] {p q r : Prop} : orBool (.raw (.bool (decide c))) p q r = ((c → p) ∧ (¬ c → q)) := by simp [orBool]
theorem orBool_ndec {c : Prop} [Decidable c] {p q r : Prop} : orBool (.raw (.bool (!decide c))) p q r = ((c → q) ∧ (¬ c → p)) := by
  simp only [orBool, Bool.not_eq_true', decide_eq_false_iff_not, Bool.not_eq_false', decide_eq_true_eq]
  exact propext ⟨fun h => ⟨h.2, h.1⟩, fun h => ⟨h.2, h.1⟩⟩
theorem orBool_undef {p q r : Prop} : orBool (.raw (.tuple #[])) p q r = r := rfl

theorem runs_nil {K : List AVal → Heap → Prop} : runs P [] ts A K = K ts A := rfl
theorem runs_op {x : XOper} {xs : List XStep} {K : List AVal → Heap → Prop} : runs P (.op x :: xs) ts A K = runX P x ts A fun v A' => runs P xs (put ts x.dst v) A' K := rfl
theorem runs_tell {t : Nat} {xs : List XStep} {K : List AVal → Heap → Prop} : runs P (.split t :: xs) ts A K =
    orBool (ts.getD t AVal.undef) (runs P xs (ts.set t (.raw (.bool true))) A K) (runs P xs (ts.set t (.raw (.bool false))) A K) (runs P xs ts A K) := rfl
theorem Dr_tell {t : Nat} {xs : List XOper} {anc : List (List Nat)} {Q : List AVal → Heap → Prop} {rs : List DStep} {C : List (Nat × XOp × AVal)} : Dr P xs anc Q (.split t :: rs) C ts A =
    orBool (ts.getD t AVal.undef) (Dr P xs anc Q rs C (ts.set t (.raw (.bool true))) A) (Dr P xs anc Q rs C (ts.set t (.raw (.bool false))) A) (Dr P xs anc Q rs C ts A) := rfl
theorem runX_none {d : Option Nat} {o : XOp} {K : AVal → Heap → Prop} : runX P ⟨d, o, none⟩ ts A K = ask P o ts A K := by simp [runX, gd, wants]

/-- A guarded operation, by what the guard's slot holds. -/
def guarded (v : AVal) (b : Bool) (p q : Prop) : Prop :=
  match v with
  | .raw (.bool c) => bif c == b then p else q
  | .any => False
  | _ => q

@[congr] theorem guarded_congr {v v' : AVal} {b : Bool} {p q : Prop} (h : v = v') : guarded v b p q = guarded v' b p q := by rw [h]
theorem guarded_tt {p q : Prop} : guarded (.raw (.bool true)) true p q = p := rfl
theorem guarded_ff {p q : Prop} : guarded (.raw (.bool false)) false p q = p := rfl
theorem guarded_tf {p q : Prop} : guarded (.raw (.bool true)) false p q = q := rfl
theorem guarded_ft {p q : Prop} : guarded (.raw (.bool false)) true p q = q := rfl
theorem guarded_undef {b : Bool} {p q : Prop} : guarded (.raw (.tuple #[])) b p q = q := rfl
theorem guarded_bool {c b : Bool} {p q : Prop} : guarded (.raw (.bool c)) b p q = bif c == b then p else q := rfl
theorem runX_some {d : Option Nat} {o : XOp} {t : Nat} {b : Bool} {K : AVal → Heap → Prop} : runX P ⟨d, o, some (t, b)⟩ ts A K = guarded (ts.getD t AVal.undef) b (ask P o ts A K) (K AVal.undef A) := by
  simp only [runX, gd, wants, guarded]
  generalize ts.getD t AVal.undef = v
  cases v with
  | raw v => cases v <;> simp [AVal.known]
  | _ => simp [AVal.known]

theorem put_some {d : Nat} {v : AVal} : put ts (some d) v = ts.set d v := rfl
theorem put_none {v : AVal} : put ts none v = ts := rfl
theorem ev_t {i : Nat} : Arg.ev ts (.t i) = ts.getD i AVal.undef := rfl
theorem ev_k {a : AVal} : Arg.ev ts (.k a) = a := rfl
theorem req_eq {p k : Prop} [Decidable p] : req p k = (p ∧ k) := rfl
theorem undef_eq : AVal.undef = .raw (.tuple #[]) := rfl

end Go.Ab
