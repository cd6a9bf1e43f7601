/- The abstract layer, part 7: each operation does in the model what part 3 says of it (numbers, comparisons, slices). -/
import Derived.Test.YtookmilggbnoiaaGreatAbSound
import Derived.Laws.StructEq
set_option linter.unusedSimpArgs false
set_option linter.unusedVariables false
namespace Go.Ab

variable {P : Program} {φ φ' : Emb} {A A' : Heap} {w w' : World} {ts : List AVal} {a : Act} {K : AVal → Heap → Prop}

theorem eqGuard_not {op : BinOp} (h : (op matches .eql | .neq) = false) (t : TypeId) (x y : Operand) (u v : Value) : (eqGuard op t x y u v).run P w = .ok () w := by
  cases op <;> first | rfl | (simp at h)

theorem eqGuard_int (op : BinOp) (t : TypeId) (x y : Operand) (k k' : IntKind) (m n : Int) : (eqGuard op t x y (.int k m) (.int k' n)).run P w = .ok () w := by
  cases op <;> rfl

theorem eqGuard_string (op : BinOp) (t : TypeId) (x y : Operand) (m n : ByteArray) : (eqGuard op t x y (.string m) (.string n)).run P w = .ok () w := by
  cases op <;> rfl

theorem run_intBin {op : BinOp} {t : TypeId} {k : IntKind} {m n : Int} {r : Value} (h : intBin op k m n = some r) : (binOp op t (.int k m) (.int k n)).run P w = .ok r w := by
  cases op <;> simp only [intBin, Option.some.injEq, reduceCtorEq] at h <;> subst h <;> simp [binOp, Op.intArith, Op.intBits, Op.intCmp]

theorem sound_bin {op : BinOp} {t yt : TypeId} {x y : Operand} {xa ya : Arg} (hx : V φ A w (xa.ev ts) (a.eval x)) (hy : V φ A w (ya.ev ts) (a.eval y)) (hR : R φ A w) (h : ask P (.bin op xa ya) ts A K) {o : Oper} (ho : o.op = .binOp op t x y yt) :
    Res P φ A w K ((execOp a.eval o).run P w) := by
  simp only [execOp, ho]
  generalize a.eval x = v at hx
  generalize a.eval y = u at hy
  simp only [ask, astep] at h
  generalize xa.ev ts = b at h hx
  generalize ya.ev ts = c at h hy
  cases b with
  | raw b =>
    cases c with
    | raw c =>
      cases b with
      | int k m =>
        cases c with
        | int k' n =>
          simp only [V] at hx hy
          subst hx hy
          simp only [Sem.run_bind, eqGuard_int, Result.andThen_ok]
          cases op with
          | shl =>
            obtain ⟨h1, h2⟩ := h
            have h3 : ¬ n < 0 := by omega
            simp only [binOp, Op.shift, h3, if_false, Sem.run_pure, Result.andThen_ok]
            exact .same hR (.raw _) h2
          | shr =>
            obtain ⟨h1, h2⟩ := h
            have h3 : ¬ n < 0 := by omega
            simp only [binOp, Op.shift, h3, if_false, Sem.run_pure, Result.andThen_ok]
            exact .same hR (.raw _) h2
          | quo =>
            obtain ⟨⟨rfl, h1⟩, h2⟩ := h
            simp only [binOp, ne_eq, not_true_eq_false, if_false, Op.intDiv, h1, Sem.run_pure, Result.andThen_ok]
            exact .same hR (.raw _) h2
          | rem =>
            obtain ⟨⟨rfl, h1⟩, h2⟩ := h
            simp only [binOp, ne_eq, not_true_eq_false, if_false, Op.intDiv, h1, Sem.run_pure, Result.andThen_ok]
            exact .same hR (.raw _) h2
          | _ =>
            simp only [intBin] at h
            obtain ⟨rfl, h2⟩ := h
            rw [run_intBin (by simp only [intBin]; rfl)]
            exact .same hR (.raw _) h2
        | _ => exact h.elim
      | string m =>
        cases c with
        | string n =>
          simp only [V] at hx hy
          subst hx hy
          simp only [Sem.run_bind, eqGuard_string, Result.andThen_ok]
          cases op with
          | eql =>
            simp only [binOp, Op.stringOp, Sem.run_pure, Result.andThen_ok]
            exact .same hR (.raw _) h
          | neq =>
            simp only [binOp, Op.stringOp, Sem.run_pure, Result.andThen_ok]
            exact .same hR (.raw _) h
          | _ => exact h.elim
        | _ => exact h.elim
      | _ => exact h.elim
    | _ => cases b <;> exact h.elim
  | _ => exact h.elim

theorem sound_un {op : UnOp} {x : Arg} {v : Value} (hv : V φ A w (x.ev ts) v) (hR : R φ A w) (h : ask P (.un op x) ts A K) :
    Res P φ A w K ((do pure (Next.value (← Op.unary op v))).run P w) := by
  simp only [ask, astep] at h
  generalize x.ev ts = b at h hv
  cases b with
  | raw b =>
    simp only [V] at hv
    subst hv
    cases op <;> cases v <;> first
      | exact h.elim
      | (simp only [Op.unary, Op.intArith, Op.intBits, Sem.run_bind, Sem.run_pure, Result.andThen_ok]; exact .same hR (.raw _) h)
  | _ => cases op <;> exact h.elim

theorem sound_conv {s d : TypeId} {k : IntKind} {ds : TypeDesc} {x : Arg} {v : Value} (hs : P.underlying s = some ds) (hd : P.underlying d = some (.int k)) (hv : V φ A w (x.ev ts) v) (hR : R φ A w) (h : ask P (.conv k x) ts A K) :
    Res P φ A w K ((do pure (Next.value (← convert s d v))).run P w) := by
  simp only [ask, astep] at h
  generalize x.ev ts = b at h hv
  cases b with
  | raw b =>
    simp only [V] at hv
    subst hv
    cases v with
    | int k' n =>
      simp only [convert, Sem.run_bind, run_underlying hs, run_underlying hd, Result.andThen_ok, Conv.intToInt, Sem.run_pure]
      exact .same hR (.raw _) h
    | _ => exact h.elim
  | _ => exact h.elim

theorem sound_len {x : Arg} {v : Value} {e : TypeId} {tys : Array TypeId} {ty : TypeId} (ht : tys[0]?.bind P.underlying = some (.slice e)) (hv : V φ A w (x.ev ts) v) (hR : R φ A w) (h : ask P (.len x) ts A K) :
    Res P φ A w K ((do pure (Next.value (← Builtin.len_ tys ty #[v]))).run P w) := by
  simp only [Option.bind_eq_some_iff] at ht
  obtain ⟨t, ht, hd⟩ := ht
  simp only [ask, astep] at h
  generalize x.ev ts = b at h hv
  have hv0 : (#[v] : Array Value)[0]? = some v := rfl
  have key : ∀ (b : Option Addr) (n c : Nat), v = .slice b n c → K (.raw (.int .i64 n)) A → Res P φ A w K ((do pure (Next.value (← Builtin.len_ tys ty #[v]))).run P w) := by
    intro b n c hv hk
    simp only [Builtin.len_, ht, hv0, Sem.run_bind, run_underlying hd, Result.andThen_ok]
    subst hv
    simp only [goInt, Sem.run_pure, Result.andThen_ok]
    exact .same hR (.raw _) hk
  cases b with
  | raw b =>
    simp only [V] at hv
    cases b with
    | slice b n c =>
      cases b with
      | none => exact key _ _ _ hv h
      | some _ => exact h.elim
    | _ => exact h.elim
  | sl i off len cap e =>
    simp only [V] at hv
    obtain ⟨ad, c, hv, _⟩ := hv
    exact key _ _ _ hv h
  | fsl cs len cap =>
    simp only [V] at hv
    obtain ⟨ad, c, hv, _⟩ := hv
    exact key _ _ _ hv h
  | _ => exact h.elim

theorem sound_lenStr {x : Arg} {v : Value} {tys : Array TypeId} {ty : TypeId} (ht : tys[0]?.bind P.underlying = some .string) (hv : V φ A w (x.ev ts) v) (hR : R φ A w) (h : ask P (.lenStr x) ts A K) :
    Res P φ A w K ((do pure (Next.value (← Builtin.len_ tys ty #[v]))).run P w) := by
  simp only [Option.bind_eq_some_iff] at ht
  obtain ⟨t, ht, hd⟩ := ht
  simp only [ask, astep] at h
  generalize x.ev ts = b at h hv
  have hv0 : (#[v] : Array Value)[0]? = some v := rfl
  cases b with
  | raw b =>
    simp only [V] at hv
    cases b with
    | string s =>
      simp only [Builtin.len_, ht, hv0, Sem.run_bind, run_underlying hd, Result.andThen_ok]
      subst hv
      simp only [goInt, Sem.run_pure, Result.andThen_ok]
      exact .same hR (.raw _) h
    | _ => exact h.elim
  | _ => exact h.elim

theorem sound_cap {x : Arg} {v : Value} {e : TypeId} {tys : Array TypeId} {ty : TypeId} (ht : tys[0]?.bind P.underlying = some (.slice e)) (hv : V φ A w (x.ev ts) v) (hR : R φ A w) (h : ask P (.cap x) ts A K) :
    Res P φ A w K ((do pure (Next.value (← Builtin.cap_ tys ty #[v]))).run P w) := by
  simp only [Option.bind_eq_some_iff] at ht
  obtain ⟨t, ht, hd⟩ := ht
  simp only [ask, astep] at h
  generalize x.ev ts = b at h hv
  have hv0 : (#[v] : Array Value)[0]? = some v := rfl
  have key : ∀ (b : Option Addr) (n c : Nat), v = .slice b n c → K (.raw (.int .i64 c)) A → Res P φ A w K ((do pure (Next.value (← Builtin.cap_ tys ty #[v]))).run P w) := by
    intro b n c hv hk
    simp only [Builtin.cap_, ht, hv0, Sem.run_bind, run_underlying hd, Result.andThen_ok]
    subst hv
    simp only [goInt, Sem.run_pure, Result.andThen_ok]
    exact .same hR (.raw _) hk
  cases b with
  | raw b =>
    simp only [V] at hv
    cases b with
    | slice b n c =>
      cases b with
      | none => exact key _ _ _ hv h
      | some _ => exact h.elim
    | _ => exact h.elim
  | sl i off len cap e =>
    cases cap with
    | none => exact h.elim
    | some k =>
      simp only [V] at hv
      obtain ⟨ad, c, hv, _, _, hc, _⟩ := hv
      exact key _ _ _ hv (by rw [hc k rfl]; exact h)
  | fsl cs len cap =>
    cases cap with
    | none => exact h.elim
    | some k =>
      simp only [V] at hv
      obtain ⟨ad, c, hv, _, hc, _⟩ := hv
      exact key _ _ _ hv (by rw [hc k rfl]; exact h)
  | _ => exact h.elim

theorem run_mms {mx : Bool} : ∀ {xs : List AVal} {vs : List Value} {v r : Value}, mms mx v xs = some r → Vl φ A w xs vs → ((vs.foldlM (if mx then Builtin.max2 else Builtin.min2) v : Sem Value)).run P w = .ok r w
  | [], [], v, r, h, _ => by simp only [mms, Option.some.injEq] at h; subst h; simp
  | .raw x :: xs, u :: vs, v, r, h, hv => by
    simp only [mms, Option.bind_eq_some_iff] at h
    obtain ⟨r', h1, h2⟩ := h
    simp only [Vl, V] at hv
    obtain ⟨rfl, hv⟩ := hv
    cases v <;> cases u <;> simp only [mm, reduceCtorEq] at h1
    rename_i k m k' n
    by_cases hk : k = k'
    · rw [if_pos hk] at h1
      cases h1
      have ih := run_mms h2 hv
      cases mx <;> simpa [List.foldlM_cons, Builtin.max2, Builtin.min2] using ih
    · rw [if_neg hk] at h1; cases h1
  | [], _ :: _, _, _, _, hv => by simp only [Vl] at hv
  | _ :: _, [], _, _, _, hv => by simp only [Vl] at hv
  | .ptr .. :: _, _ :: _, _, _, h, _ | .fptr .. :: _, _ :: _, _, _, h, _ | .sl .. :: _, _ :: _, _, _, h, _ | .fsl .. :: _, _ :: _, _, _, h, _ | .map .. :: _, _ :: _, _, _, h, _
  | .agg .. :: _, _ :: _, _, _, h, _ | .tup .. :: _, _ :: _, _, _, h, _ | .func .. :: _, _ :: _, _, _, h, _ => by simp [mms] at h

theorem sound_minMax {mx : Bool} {x : Arg} {xs : List Arg} {v : Value} {vs : List Value} (hv : V φ A w (x.ev ts) v) (hvs : Vl φ A w (xs.map (·.ev ts)) vs) (hR : R φ A w) (h : ask P (.minMax mx x xs) ts A K) :
    Res P φ A w K ((do pure (Next.value (← ((vs.foldlM (if mx then Builtin.max2 else Builtin.min2) v : Sem Value))))).run P w) := by
  simp only [ask, astep] at h
  generalize x.ev ts = b at h hv
  cases b with
  | raw b =>
    simp only [V] at hv
    subst hv
    simp only [] at h
    cases hm : mms mx v (xs.map (·.ev ts)) with
    | none => rw [hm] at h; exact h.elim
    | some r =>
      rw [hm] at h
      simp only [Sem.run_bind, run_mms hm hvs, Result.andThen_ok, Sem.run_pure]
      exact .same hR (.raw _) h
  | _ => exact h.elim

/-! ## Bounds of slice expressions -/

/-- A bound and its value: both given, or neither. -/
def BoundV (φ : Emb) (A : Heap) (w : World) (ts : List AVal) : Option Arg → Option Value → Prop
  | none, none => True
  | some x, some v => V φ A w (x.ev ts) v
  | _, _ => False

/-- What a bound comes to: n. -/
def BoundIs (P : Program) (w : World) (dflt y n : Nat) : Option Value → Prop
  | none => n = dflt
  | some v => n ≤ y ∧ ∀ (y' : Nat) (code : BoundsCode), n ≤ y' → (Instr.sliceBound v y' code).run P w = .ok n w

theorem abound_spec {x : Option Arg} {dflt y : Nat} {C : Nat → Prop} {v : Option Value} (hv : BoundV φ A w ts x v)
    (h : abound req False ts x dflt y C) : ∃ n, C n ∧ BoundIs P w dflt y n v := by
  cases x with
  | none =>
    cases v with
    | none => exact ⟨dflt, h, rfl⟩
    | some v => exact hv.elim
  | some x =>
    cases v with
    | none => exact hv.elim
    | some v =>
      simp only [abound] at h
      simp only [BoundV] at hv
      generalize x.ev ts = b at h hv
      cases b with
      | raw b =>
        simp only [V] at hv
        subst hv
        cases v with
        | int k n =>
          obtain ⟨⟨h1, h2⟩, h3⟩ := h
          refine ⟨n.toNat, h3, by omega, fun y' code hy => ?_⟩
          have h4 : n ≤ (y' : Int) := by omega
          simp only [Instr.sliceBound, asIntOf, Sem.run_bind, Sem.run_pure, Result.andThen_ok, h1, h4, and_self, if_true]
        | _ => exact h.elim
      | _ => exact h.elim

theorem BoundIs.le {dflt y n : Nat} {v : Option Value} (h : BoundIs P w dflt y n v) (hd : dflt ≤ y) : n ≤ y := by
  cases v with
  | none => simp only [BoundIs] at h; omega
  | some v => exact h.1

/-- The three bounds of a slice expression. -/
theorem run_sliceBounds {isSlice : Bool} {len cap m h l ym yh : Nat} {lo hi mx : Option Value} (hm : BoundIs P w cap ym m mx) (hym : m ≤ cap) (hh : BoundIs P w len yh h hi) (hyh : h ≤ m) (hl : BoundIs P w 0 h l lo)
    (hmx : mx.isSome = true → hi.isSome = true) : (Instr.sliceBounds isSlice len cap lo hi mx).run P w = .ok (l, h, m) w := by
  have h1 : l ≤ h := hl.le (Nat.zero_le _)
  cases mx with
  | none =>
    simp only [BoundIs] at hm
    subst hm
    cases hi with
    | none =>
      simp only [BoundIs] at hh
      subst hh
      cases lo with
      | none => simp only [BoundIs] at hl; subst hl; simp [Instr.sliceBounds]
      | some lo => simp [Instr.sliceBounds, hl.2 _ _ h1]
    | some hi =>
      cases lo with
      | none => simp only [BoundIs] at hl; subst hl; simp [Instr.sliceBounds, hh.2 _ _ hyh]
      | some lo => simp [Instr.sliceBounds, hh.2 _ _ hyh, hl.2 _ _ h1]
  | some mx =>
    cases hi with
    | none => simp at hmx
    | some hi =>
      cases lo with
      | none => simp only [BoundIs] at hl; subst hl; simp [Instr.sliceBounds, hm.2 _ _ hym, hh.2 _ _ hyh]
      | some lo => simp [Instr.sliceBounds, hm.2 _ _ hym, hh.2 _ _ hyh, hl.2 _ _ h1]

theorem map_sub_is {cap : Option Nat} {c l : Nat} (h : CapIs cap c) : CapIs (cap.map (· - l)) (c - l) := by
  intro k hk
  cases cap with
  | none => cases hk
  | some k' => simp at hk; rw [h k' rfl]; exact hk

theorem some_is (n : Nat) : CapIs (some n) n := fun k hk => by cases hk; rfl

theorem getD_le {cap : Option Nat} {c len : Nat} (h : CapIs cap c) (hl : len ≤ c) : cap.getD len ≤ c := by
  cases cap with
  | none => exact hl
  | some k => rw [h k rfl]; exact Nat.le_refl _

theorem slCap_le {cap : Option Nat} {c i off len e : Nat} (hR : R φ A w) (hcap : CapIs cap c) (hl : len ≤ c) (hb : A.live i → ∃ sh, w.shape? (φ i) = some sh ∧ off + c * e ≤ sh.2 ∧ (cap = none → off + c * e = sh.2)) : slCap A i off len cap e ≤ c := by
  cases cap with
  | some k => simp only [slCap]; rw [hcap k rfl]; exact Nat.le_refl _
  | none =>
    simp only [slCap]
    cases ho : A.get i with
    | none => exact hl
    | some o =>
      cases o with
      | map es => exact hl
      | loop => exact hl
      | cells vs =>
        obtain ⟨sh, h1, _, h2⟩ := hb (by simp [Heap.live, ho])
        obtain ⟨ob, q1, c0, el, fz, rfl, q2, q3, q4⟩ := hR.rel i _ ho
        have hshc : sh.2 = c0.size := by
          simp only [World.shape?, q1, Option.some.injEq] at h1
          rw [← h1]
        have h3 := h2 rfl
        refine Nat.max_le.2 ⟨hl, ?_⟩
        rcases Nat.eq_zero_or_pos e with he | he
        · subst he; simp
        · have h5 : (vs.length - off) / e * e ≤ c * e := by
            have := Nat.div_mul_le_self (vs.length - off) e
            omega
          exact Nat.le_of_mul_le_mul_right h5 he

theorem sound_slice {t e : TypeId} {s : Nat} {x : Arg} {lo hi mx : Option Arg} {v : Value} {vlo vhi vmx : Option Value} (ht : P.underlying t = some (.slice e)) (hs : sizeTy P e = some s)
    (hmx : mx.isSome = true → hi.isSome = true) (hv : V φ A w (x.ev ts) v) (hlo : BoundV φ A w ts lo vlo) (hhi : BoundV φ A w ts hi vhi) (hmxv : BoundV φ A w ts mx vmx)
    (hR : R φ A w) (h : ask P (.slice s x lo hi mx) ts A K) :
    Res P φ A w K ((do pure (Next.value (← Instr.sliceAt t v vlo vhi vmx))).run P w) := by
  have hmx' : vmx.isSome = true → vhi.isSome = true := by
    intro h1
    cases mx with
    | none => cases vmx <;> first | exact hmxv.elim | cases h1
    | some m =>
      have h2 := hmx rfl
      cases hi with
      | none => cases h2
      | some _ => cases vhi with
        | none => exact hhi.elim
        | some _ => rfl
  have hmn : mx = none → vmx = none := by
    rintro rfl
    cases vmx with
    | none => rfl
    | some _ => exact hmxv.elim
  simp only [Instr.sliceAt, Sem.run_bind, run_underlying ht, Result.andThen_ok]
  -- what is left is 'slice' itself
  have key : ∀ (base : Option Addr) (len c l h m ym yh : Nat) (b : AVal), v = .slice base len c → BoundIs P w c ym m vmx → m ≤ c → BoundIs P w len yh h vhi → h ≤ m → BoundIs P w 0 h l vlo →
      V φ A w b (.slice (if m = l then base else base.map (·.add (l * s))) (h - l) (m - l)) → K b A →
      Res P φ A w K (((Instr.slice t v vlo vhi vmx).run P w).andThen fun a w' => (Pure.pure (Next.value a) : Sem Next).run P w') := by
    intro base len c l h m ym yh b hv hm hmc hh hhm hl hb hk
    subst hv
    simp only [Instr.slice, Sem.run_bind, run_underlying ht, Result.andThen_ok, run_sliceBounds hm hmc hh hhm hl hmx', sizeTy_spec hs, Sem.run_pure]
    exact .same hR hb hk
  simp only [ask, astep] at h
  generalize x.ev ts = b at h hv
  cases b with
  | raw b =>
    simp only [V] at hv
    cases b with
    | slice base len c =>
      cases base with
      | none =>
        cases len with
        | succ _ => exact h.elim
        | zero =>
          cases c with
          | succ _ => exact h.elim
          | zero =>
            simp only [] at h
            obtain ⟨m, h, hm⟩ := abound_spec (P := P) hmxv h
            obtain ⟨hh, h, hhi⟩ := abound_spec (P := P) hhi h
            obtain ⟨l, h, hl⟩ := abound_spec (P := P) hlo h
            have h1 : m = 0 := Nat.le_zero.1 (hm.le (Nat.le_refl _))
            have h2 : hh = 0 := Nat.le_zero.1 (hhi.le (Nat.le_refl _))
            have h3 : l = 0 := Nat.le_zero.1 (hl.le (Nat.zero_le _))
            subst h1 h2 h3
            exact key none 0 0 0 0 0 0 0 _ hv hm (Nat.le_refl _) hhi (Nat.le_refl _) hl (by simp [V]) h
      | some _ => exact h.elim
    | _ => exact h.elim
  | fsl cs len cap =>
    simp only [V] at hv
    obtain ⟨base, c, hv, hlc, hcap, hb⟩ := hv
    have hnew : ∀ (l h m : Nat), h ≤ len → l ≤ h → ∀ cap', CapIs cap' (m - l) → h ≤ m → V φ A w (.fsl ((cs.drop (l * s)).take ((h - l) * s)) (h - l) cap') (.slice (if m = l then base else base.map (·.add (l * s))) (h - l) (m - l)) := by
      intro l h m h1 h2 cap' h3 h4
      simp only [V]
      refine ⟨_, _, rfl, by omega, h3, ?_⟩
      by_cases hml : m = l
      · left
        rw [show h - l = 0 by omega]; simp
      · rw [if_neg hml]
        rcases hb with hb | ⟨b, off, rfl, g1, g2⟩
        · left; rw [hb]; simp
        · exact .inr ⟨b, off + l * s, by simp [add_none], g1, (g2.drop _).take _⟩
    cases mx with
    | none =>
      have := hmn rfl
      subst this
      simp only [] at h
      obtain ⟨hh, ⟨h5, h⟩, hhi⟩ := abound_spec (P := P) hhi h
      obtain ⟨l, h, hl⟩ := abound_spec (P := P) hlo h
      exact key base len c l hh c 0 _ _ hv rfl (Nat.le_refl _) hhi (by omega) hl (hnew l hh c h5 (hl.le (Nat.zero_le _)) _ (map_sub_is hcap) (by omega)) h
    | some mx =>
      simp only [] at h
      obtain ⟨m, h, hm⟩ := abound_spec (P := P) hmxv h
      obtain ⟨hh, h, hhi⟩ := abound_spec (P := P) hhi h
      obtain ⟨l, h, hl⟩ := abound_spec (P := P) hlo h
      have hms : vmx.isSome = true := by cases vmx with | none => exact hmxv.elim | some _ => rfl
      have h6 : m ≤ len := hm.le (Nat.le_refl _)
      have h7 : hh ≤ m := by
        have := hmx' hms
        cases vhi with
        | none => cases this
        | some _ => exact hhi.1
      have hm' : BoundIs P w c len m vmx := by
        cases vmx with
        | none => cases hms
        | some _ => exact hm
      exact key base len c l hh m _ _ _ hv hm' (by omega) hhi h7 hl (hnew l hh m (by omega) (hl.le (Nat.zero_le _)) _ (some_is _) h7) h
  | sl i off len cap e =>
    simp only [V] at hv
    obtain ⟨ad, c, hv, hlt, hlc, hcap, hb⟩ := hv
    have hsc : slCap A i off len cap e ≤ c := slCap_le hR hcap hlc fun hl => (hb hl).2
    have hnew : ∀ (l h m : Nat), e = s → m ≤ c → l ≤ h → h ≤ m → ∀ cap', CapIs cap' (m - l) → (m = l → l = 0) → (cap' = none → cap = none) → (cap' = none → m = c) →
        V φ A w (.sl i (off + l * s) (h - l) cap' s) (.slice (if m = l then some ad else (some ad).map (·.add (l * s))) (h - l) (m - l)) := by
      intro l h m h0 h1 h2 h4 cap' h3 h5 hcn hcm
      subst h0
      simp only [V]
      by_cases hml : m = l
      · have := h5 hml
        subst this
        rw [if_pos hml]
        refine ⟨_, _, rfl, hlt, by omega, h3, fun hl => ?_⟩
        obtain ⟨h6, sh, h7, h8, h9⟩ := hb hl
        refine ⟨by simpa using h6, sh, h7, ?_, fun hn => ?_⟩
        · have : (m - 0) * e ≤ c * e := Nat.mul_le_mul_right _ (by omega)
          omega
        · have := h9 (hcn hn)
          rw [hcm hn]
          simpa using this
      · rw [if_neg hml]
        refine ⟨_, _, rfl, hlt, by omega, h3, fun hl => ?_⟩
        obtain ⟨h6, sh, h7, h8, h10⟩ := hb hl
        have h9 : l * e + (m - l) * e = m * e := by rw [← Nat.add_mul]; congr 1; omega
        refine ⟨by rw [h6]; exact add_none _ _ _, sh, h7, ?_, fun hn => ?_⟩
        · have : m * e ≤ c * e := Nat.mul_le_mul_right _ h1
          omega
        · have := h10 (hcn hn)
          rw [hcm hn] at h9 ⊢
          omega
    have hempty : ∀ (base : Option Addr) (h l m : Nat) cap', h = l → CapIs cap' (m - l) → V φ A w (.fsl [] 0 cap') (.slice base (h - l) (m - l)) := by
      intro base h l m cap' h1 h2
      simp only [V]
      rw [show h - l = 0 by omega]
      exact ⟨_, _, rfl, Nat.zero_le _, h2, .inl trivial⟩
    cases mx with
    | none =>
      have := hmn rfl
      subst this
      simp only [] at h
      obtain ⟨hh, h, hhi⟩ := abound_spec (P := P) hhi h
      obtain ⟨l, ⟨h5, h⟩, hl⟩ := abound_spec (P := P) hlo h
      have hle := hl.le (Nat.zero_le _)
      have hhc : hh ≤ c := by
        cases vhi with
        | none => simp only [BoundIs] at hhi; omega
        | some _ => exact Nat.le_trans hhi.1 hsc
      by_cases h8 : hh = l ∧ l ≠ 0
      · rw [if_pos h8] at h
        exact key _ len c l hh c 0 _ _ hv rfl (Nat.le_refl _) hhi hhc hl (hempty _ _ _ _ _ h8.1 (map_sub_is hcap)) h
      · rw [if_neg h8] at h
        exact key _ len c l hh c 0 _ _ hv rfl (Nat.le_refl _) hhi hhc hl (hnew l hh c h5 (Nat.le_refl _) hle hhc _ (map_sub_is hcap) (by omega) (fun hn => by cases cap <;> first | rfl | cases hn) (fun _ => rfl)) h
    | some mx =>
      simp only [] at h
      obtain ⟨m, h, hm⟩ := abound_spec (P := P) hmxv h
      obtain ⟨hh, h, hhi⟩ := abound_spec (P := P) hhi h
      obtain ⟨l, ⟨h5, h⟩, hl⟩ := abound_spec (P := P) hlo h
      have hms : vmx.isSome = true := by cases vmx with | none => exact hmxv.elim | some _ => rfl
      have hle := hl.le (Nat.zero_le _)
      have h6 : m ≤ c := by
        cases vmx with
        | none => cases hms
        | some _ => exact Nat.le_trans hm.1 hsc
      have h7 : hh ≤ m := by
        have := hmx' hms
        cases vhi with
        | none => cases this
        | some _ => exact hhi.1
      have hm' : BoundIs P w c (slCap A i off len cap e) m vmx := by
        cases vmx with
        | none => cases hms
        | some _ => exact hm
      by_cases h8 : m = l ∧ l ≠ 0
      · rw [if_pos h8] at h
        exact key _ len c l hh m _ _ _ hv hm' h6 hhi h7 hl (hempty _ _ _ _ _ (by omega) (some_is _)) h
      · rw [if_neg h8] at h
        exact key _ len c l hh m _ _ _ hv hm' h6 hhi h7 hl (hnew l hh m h5 h6 hle h7 _ (some_is _) (by omega) (fun hn => by cases hn) (fun hn => by cases hn)) h
  | _ => exact h.elim

end Go.Ab
