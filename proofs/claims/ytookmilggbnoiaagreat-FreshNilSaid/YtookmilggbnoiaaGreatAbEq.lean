/- The abstract layer, part 13: '==' on bools, on nil, and on structs and arrays of numbers. -/
import Derived.Test.YtookmilggbnoiaaGreatAbSound7
set_option linter.unusedSimpArgs false
set_option linter.unusedVariables false
namespace Go.Ab

variable {P : Program} {φ φ' : Emb} {A A' : Heap} {w w' : World} {ts : List AVal} {a : Act} {K : AVal → Heap → Prop}

/-- Cells compared one by one, on the model's side. -/
def cellEqs : List Bool → List Value → List Value → Option Bool
  | [], [], [] => some true
  | true :: sh, .int k x :: as, .int k' y :: bs => if k = k' then (cellEqs sh as bs).map fun r => x == y && r else none
  | false :: sh, .bool x :: as, .bool y :: bs => (cellEqs sh as bs).map fun r => x == y && r
  | _, _, _ => none

theorem rawEqs_cells : ∀ {sh : List Bool} {cs ds : List AVal} {xs ys : List Value} {r : Bool}, rawEqs sh cs ds = some r → Vcs φ A w cs xs → Vcs φ A w ds ys → cellEqs sh xs ys = some r := by
  intro sh
  induction sh with
  | nil =>
    intro cs ds xs ys r h h1 h2
    cases cs <;> cases ds <;> simp only [rawEqs, reduceCtorEq, Option.some.injEq] at h
    have e1 := h1.length
    have e2 := h2.length
    rw [List.length_eq_zero_iff.1 e1.symm, List.length_eq_zero_iff.1 e2.symm]
    simpa [cellEqs] using h
  | cons b sh ih =>
    intro cs ds xs ys r h h1 h2
    unfold rawEqs at h
    split at h
    · rename_i heq; cases heq
    · rename_i sh' k m as k' n bs heq
      cases heq
      cases xs with
      | nil => simp only [Vcs] at h1
      | cons x xs =>
        cases ys with
        | nil => simp only [Vcs] at h2
        | cons y ys =>
          simp only [Vcs, V] at h1 h2
          obtain ⟨⟨_, rfl⟩, h1⟩ := h1
          obtain ⟨⟨_, rfl⟩, h2⟩ := h2
          by_cases hk : k = k'
          · rw [if_pos hk] at h
            simp only [Option.map_eq_some_iff] at h
            obtain ⟨r', h3, h4⟩ := h
            simp only [cellEqs, hk, if_true, ih h3 h1 h2, Option.map_some, h4]
          · rw [if_neg hk] at h; cases h
    · rename_i sh' m as n bs heq
      cases heq
      cases xs with
      | nil => simp only [Vcs] at h1
      | cons x xs =>
        cases ys with
        | nil => simp only [Vcs] at h2
        | cons y ys =>
          simp only [Vcs, V] at h1 h2
          obtain ⟨⟨_, rfl⟩, h1⟩ := h1
          obtain ⟨⟨_, rfl⟩, h2⟩ := h2
          simp only [Option.map_eq_some_iff] at h
          obtain ⟨r', h3, h4⟩ := h
          simp only [cellEqs, ih h3 h1 h2, Option.map_some, h4]
    · cases h

theorem cellEqs_append {s2 : List Bool} {cs ds : List Value} : ∀ {s1 : List Bool} {as bs : List Value}, as.length = s1.length → bs.length = s1.length → ∀ {r : Bool}, cellEqs (s1 ++ s2) (as ++ cs) (bs ++ ds) = some r →
    ∃ r1 r2, cellEqs s1 as bs = some r1 ∧ cellEqs s2 cs ds = some r2 ∧ r = (r1 && r2) := by
  intro s1
  induction s1 with
  | nil =>
    intro as bs h1 h2 r h
    rw [List.length_eq_zero_iff.1 h1, List.length_eq_zero_iff.1 h2] at h ⊢
    exact ⟨true, r, rfl, by simpa using h, by simp⟩
  | cons b s1 ih =>
    intro as bs h1 h2 r h
    cases as with
    | nil => simp at h1
    | cons a as =>
      cases bs with
      | nil => simp at h2
      | cons b bs =>
        simp only [List.length_cons, Nat.add_right_cancel_iff] at h1 h2
        simp only [List.cons_append] at h
        unfold cellEqs at h
        split at h
        · rename_i heq; cases heq
        · rename_i sh k x as' k' y bs' heq heq' heq''
          cases heq; cases heq'; cases heq''
          by_cases hk : k = k'
          · rw [if_pos hk] at h
            simp only [Option.map_eq_some_iff] at h
            obtain ⟨r', h3, h4⟩ := h
            obtain ⟨r1, r2, g1, g2, g3⟩ := ih h1 h2 h3
            refine ⟨x == y && r1, r2, by simp [cellEqs, hk, g1], g2, ?_⟩
            rw [← h4, g3, Bool.and_assoc]
          · rw [if_neg hk] at h; cases h
        · rename_i sh x as' y bs' heq heq' heq''
          cases heq; cases heq'; cases heq''
          simp only [Option.map_eq_some_iff] at h
          obtain ⟨r', h3, h4⟩ := h
          obtain ⟨r1, r2, g1, g2, g3⟩ := ih h1 h2 h3
          refine ⟨x == y && r1, r2, by simp [cellEqs, g1], g2, ?_⟩
          rw [← h4, g3, Bool.and_assoc]
        · cases h

theorem cellEqs_length : ∀ {sh : List Bool} {as bs : List Value} {r : Bool}, cellEqs sh as bs = some r → as.length = sh.length ∧ bs.length = sh.length := by
  intro sh
  induction sh with
  | nil => intro as bs r h; cases as <;> cases bs <;> simp [cellEqs] at h; exact ⟨rfl, rfl⟩
  | cons b sh ih =>
    intro as bs r h
    unfold cellEqs at h
    split at h
    · rename_i heq; cases heq
    · rename_i sh k x as' k' y bs' heq
      cases heq
      by_cases hk : k = k'
      · rw [if_pos hk] at h
        simp only [Option.map_eq_some_iff] at h
        obtain ⟨r', h3, _⟩ := h
        obtain ⟨g1, g2⟩ := ih h3
        simp [g1, g2]
      · rw [if_neg hk] at h; cases h
    · rename_i sh x as' y bs' heq
      cases heq
      simp only [Option.map_eq_some_iff] at h
      obtain ⟨r', h3, _⟩ := h
      obtain ⟨g1, g2⟩ := ih h3
      simp [g1, g2]
    · cases h

/-- The value of a type whose cells are these. -/
def valOf (P : Program) (t : TypeId) (cs : List Value) : Value :=
  match P.underlying t with
  | some (.struct _) | some (.array _ _) => .agg cs.toArray
  | _ => cs.getD 0 undef

theorem run_part_val {t : TypeId} {d : TypeDesc} {m : Nat} (ht : P.underlying t = some d) (hs : sizeTy P t = some m) (hm : aggDesc d = false → m = 1) {cs : List Value} {off : Nat} (hl : off + m ≤ cs.length) :
    (part t cs.toArray off).run P w = .ok (valOf P t ((cs.drop off).take m)) w := by
  cases hd : aggDesc d with
  | true =>
    have hp : partOf P t = some (some m) := by simp [partOf, ht, hd, hs]
    rw [run_partN hp, extract_list]
    cases d <;> simp [aggDesc] at hd <;> simp [valOf, ht]
  | false =>
    have hm1 := hm hd
    subst hm1
    have hp : partOf P t = some none := by simp [partOf, ht, hd]
    rw [run_part1 hp (v := cs[off]) (by simp [show off < cs.length by omega])]
    have h1 : (cs.drop off).take 1 = [cs[off]] := by
      rw [List.drop_eq_getElem_cons (show off < cs.length by omega)]; rfl
    rw [h1]
    cases d <;> simp [aggDesc] at hd <;> simp [valOf, ht]

theorem plainTy_one {d : Nat} {t : TypeId} {n : List Bool} {ds : TypeDesc} (h : plainTy P (d + 1) t = some n) (ht : P.underlying t = some ds) (hd : aggDesc ds = false) : n.length = 1 := by
  simp only [plainTy, ht] at h
  cases ds <;> simp [aggDesc] at hd <;> simp at h <;> (subst h; rfl)

/-- The fields of a struct, one by one. -/
theorem eqFields_plain {d m : Nat} (ih : ∀ (t : TypeId) (sh : List Bool), plainTy P d t = some sh → ∀ (xs ys : List Value) (r : Bool), cellEqs sh xs ys = some r → ∀ w, (Op.equalIn (d + m) t (valOf P t xs) (valOf P t ys)).run P w = .ok r w)
    (xs ys : List Value) (w : World) : ∀ (fs : List Field) (sh0 sh : List Bool) (r : Bool),
    fs.foldl (fun acc f => acc.bind fun sh => (plainTy P d f.type).bind fun m => if f.offset = sh.length ∧ f.name ≠ "_" ∧ sizeTy P f.type = some m.length then some (sh ++ m) else none) (some sh0) = some sh →
    xs.length = sh.length → ys.length = sh.length → cellEqs (sh.drop sh0.length) (xs.drop sh0.length) (ys.drop sh0.length) = some r →
    (Op.eqFields (d + m) xs.toArray ys.toArray fs).run P w = .ok r w
  | [], sh0, sh, r, h, _, _, hr => by
    simp only [List.foldl_nil, Option.some.injEq] at h
    subst h
    rw [List.drop_length] at hr
    have := cellEqs_length hr
    rw [List.length_eq_zero_iff.1 this.1, List.length_eq_zero_iff.1 this.2] at hr
    simp only [cellEqs, Option.some.injEq] at hr
    subst hr
    simp [Op.eqFields]
  | f :: fs, sh0, sh, r, h, hx, hy, hr => by
    have nofold : ∀ fs : List Field, fs.foldl (fun (acc : Option (List Bool)) f => acc.bind fun sh => (plainTy P d f.type).bind fun m => if f.offset = sh.length ∧ f.name ≠ "_" ∧ sizeTy P f.type = some m.length then some (sh ++ m) else none) none = none := by
      intro fs
      induction fs with
      | nil => rfl
      | cons f fs ih => simpa using ih
    simp only [List.foldl_cons, Option.bind_some] at h
    cases hp : plainTy P d f.type with
    | none => rw [hp, Option.bind_none, nofold] at h; cases h
    | some mf =>
      rw [hp, Option.bind_some] at h
      by_cases hc : f.offset = sh0.length ∧ f.name ≠ "_" ∧ sizeTy P f.type = some mf.length
      · rw [if_pos hc] at h
        -- the shape begins with what was there, and the field's
        have pre : ∀ (fs : List Field) (s0 s : List Bool), fs.foldl (fun acc f => acc.bind fun sh => (plainTy P d f.type).bind fun m => if f.offset = sh.length ∧ f.name ≠ "_" ∧ sizeTy P f.type = some m.length then some (sh ++ m) else none) (some s0) = some s → ∃ t, s = s0 ++ t := by
          intro fs
          induction fs with
          | nil => intro s0 s h; simp only [List.foldl_nil, Option.some.injEq] at h; exact ⟨[], by simp [h]⟩
          | cons g gs ih =>
            intro s0 s h
            simp only [List.foldl_cons, Option.bind_some] at h
            cases hq : plainTy P d g.type with
            | none => rw [hq, Option.bind_none, nofold] at h; cases h
            | some mg =>
              rw [hq, Option.bind_some] at h
              by_cases hd : g.offset = s0.length ∧ g.name ≠ "_" ∧ sizeTy P g.type = some mg.length
              · rw [if_pos hd] at h
                obtain ⟨t, ht⟩ := ih _ _ h
                exact ⟨mg ++ t, by rw [ht, List.append_assoc]⟩
              · rw [if_neg hd, nofold] at h; cases h
        obtain ⟨rest, hrest⟩ := pre fs _ _ h
        have hsh : sh = sh0 ++ (mf ++ rest) := by rw [hrest, List.append_assoc]
        have hxl : (xs.drop sh0.length).length = (mf ++ rest).length := by rw [List.length_drop, hx, hsh]; simp
        have hyl : (ys.drop sh0.length).length = (mf ++ rest).length := by rw [List.length_drop, hy, hsh]; simp
        rw [hsh, List.drop_left] at hr
        rw [← List.take_append_drop mf.length (xs.drop sh0.length), ← List.take_append_drop mf.length (ys.drop sh0.length)] at hr
        simp only [List.length_append] at hxl hyl
        obtain ⟨r1, r2, g1, g2, rfl⟩ := cellEqs_append (by rw [List.length_take]; omega) (by rw [List.length_take]; omega) hr
        have hag : ∀ ds, P.underlying f.type = some ds → aggDesc ds = false → mf.length = 1 := by
          intro ds h1 h2
          cases d with
          | zero => simp [plainTy] at hp
          | succ d => exact plainTy_one hp h1 h2
        obtain ⟨ds, hds⟩ : ∃ ds, P.underlying f.type = some ds := by
          cases d with
          | zero => simp [plainTy] at hp
          | succ d =>
            cases hu : P.underlying f.type with
            | none => simp [plainTy, hu] at hp
            | some ds => exact ⟨ds, rfl⟩
        have e1 := ih f.type mf hp _ _ _ g1
        have e2 := eqFields_plain ih xs ys w fs (sh0 ++ mf) sh r2 h hx hy (by
          rw [hsh, ← List.append_assoc, List.length_append, List.drop_left' (by simp)]
          rw [List.drop_drop, List.drop_drop] at g2
          exact g2)
        have hshl : sh.length = sh0.length + (mf.length + rest.length) := by rw [hsh]; simp
        simp only [Op.eqFields, ne_eq, hc.2.1, not_false_eq_true, if_true, Sem.run_bind]
        rw [hc.1, run_part_val hds hc.2.2 (hag ds hds) (by omega), Result.andThen_ok, run_part_val hds hc.2.2 (hag ds hds) (by omega), Result.andThen_ok, e1, Result.andThen_ok]
        cases r1 with
        | false => simp
        | true => simpa using e2
      · rw [if_neg hc, nofold] at h; cases h

/-- The elements of an array, one by one. -/
theorem forIn_plain {d m len : Nat} {e : TypeId} {mf : List Bool} (ih : ∀ (xs ys : List Value) (r : Bool), cellEqs mf xs ys = some r → ∀ w, (Op.equalIn (d + m) e (valOf P e xs) (valOf P e ys)).run P w = .ok r w)
    (hpart : ∀ (cs : List Value) (i : Nat) (w : World), i < len → cs.length = len * mf.length → (part e cs.toArray (i * mf.length)).run P w = .ok (valOf P e ((cs.drop (i * mf.length)).take mf.length)) w)
    {xs ys : List Value} (hx : xs.length = len * mf.length) (hy : ys.length = len * mf.length) (w : World) : ∀ (k i : Nat) (r : Bool), i + k = len → cellEqs ((List.replicate k mf).flatten) (xs.drop (i * mf.length)) (ys.drop (i * mf.length)) = some r →
    ((forIn (List.range' i k) ((none, ()) : Option Bool × Unit) fun j _ => do
      let a ← part e xs.toArray (j * mf.length)
      let b ← part e ys.toArray (j * mf.length)
      let q ← Op.equalIn (d + m) e a b
      if (!q) = true then pure (ForInStep.done (some false, ())) else pure (ForInStep.yield (none, ())) : Sem (Option Bool × Unit))).run P w = .ok (if r then (none, ()) else (some false, ())) w
  | 0, i, r, _, hr => by
    simp only [List.replicate_zero, List.flatten_nil] at hr
    have := cellEqs_length hr
    rw [List.length_eq_zero_iff.1 this.1, List.length_eq_zero_iff.1 this.2] at hr
    simp only [cellEqs, Option.some.injEq] at hr
    subst hr
    simp
  | k + 1, i, r, hk, hr => by
    have hi1 : (i + 1) * mf.length = i * mf.length + mf.length := Nat.succ_mul _ _
    have hlen : len * mf.length = i * mf.length + (k + 1) * mf.length := by rw [← Nat.add_mul, hk]
    have hk1 : (k + 1) * mf.length = k * mf.length + mf.length := Nat.succ_mul _ _
    rw [List.replicate_succ, List.flatten_cons, ← List.take_append_drop mf.length (xs.drop (i * mf.length)), ← List.take_append_drop mf.length (ys.drop (i * mf.length))] at hr
    obtain ⟨r1, r2, g1, g2, rfl⟩ := cellEqs_append (by rw [List.length_take, List.length_drop]; omega) (by rw [List.length_take, List.length_drop]; omega) hr
    rw [List.drop_drop, List.drop_drop, ← hi1] at g2
    have e2 := forIn_plain ih hpart hx hy w k (i + 1) r2 (by omega) g2
    simp only [List.range'_succ, List.forIn_cons, Sem.run_bind, hpart xs i w (by omega) hx, hpart ys i w (by omega) hy, Result.andThen_ok, ih _ _ _ g1]
    cases r1 with
    | false => simp
    | true => simpa using e2

/-- Values of a plain type are equal as their cells are. -/
theorem run_equalIn_plain : ∀ (d m : Nat) (t : TypeId) (sh : List Bool), plainTy P d t = some sh → ∀ (xs ys : List Value) (r : Bool), cellEqs sh xs ys = some r →
    ∀ w, (Op.equalIn (d + m) t (valOf P t xs) (valOf P t ys)).run P w = .ok r w
  | 0, _, t, sh, h => by simp [plainTy] at h
  | d + 1, m, t, sh, h => by
    intro xs ys r hr w
    have ih := run_equalIn_plain d m
    rw [show d + 1 + m = d + m + 1 by omega]
    cases hu : P.underlying t with
    | none => simp [plainTy, hu] at h
    | some ds =>
      simp only [plainTy, hu] at h
      cases ds with
      | int k =>
        simp only [Option.some.injEq] at h
        subst h
        obtain ⟨l1, l2⟩ := cellEqs_length hr
        match xs, ys, l1, l2 with
        | [x], [y], _, _ =>
          unfold cellEqs at hr
          split at hr
          · rename_i heq _ _; cases heq
          · rename_i sh' k1 m1 as k2 m2 bs h1 h2 h3
            cases h1; cases h2; cases h3
            by_cases hk : k1 = k2
            · rw [if_pos hk] at hr
              simp only [cellEqs, Option.map_some, Option.some.injEq, Bool.and_true] at hr
              subst hr hk
              simp only [valOf, hu, List.getD_cons_zero]
              exact run_equalIn_int w _ _ _ _ _ _ hu
            · rw [if_neg hk] at hr; cases hr
          · rename_i heq _ _; cases heq
          · cases hr
      | bool =>
        simp only [Option.some.injEq] at h
        subst h
        obtain ⟨l1, l2⟩ := cellEqs_length hr
        match xs, ys, l1, l2 with
        | [x], [y], _, _ =>
          unfold cellEqs at hr
          split at hr
          · rename_i heq _ _; cases heq
          · rename_i heq _ _; cases heq
          · rename_i sh' m1 as m2 bs h1 h2 h3
            cases h1; cases h2; cases h3
            simp only [cellEqs, Option.map_some, Option.some.injEq, Bool.and_true] at hr
            subst hr
            simp only [valOf, hu, List.getD_cons_zero]
            exact run_equalIn_bool' w _ _ _ _ hu
          · cases hr
      | struct fs =>
        dsimp only at h
        by_cases hs : P.stoodInHeld t = true
        · rw [if_pos hs] at h; cases h
        · rw [if_neg hs] at h
          have hfo : P.underlying t = some (.struct (P.fieldsOf t)) := by simp [Program.fieldsOf, hu]
          have hfs : P.fieldsOf t = fs := by simp [Program.fieldsOf, hu]
          obtain ⟨l1, l2⟩ := cellEqs_length hr
          simp only [valOf, hu]
          rw [run_equalIn_struct w _ _ _ _ hfo (by simpa using hs), hfs]
          exact eqFields_plain ih xs ys w fs.toList [] sh r h l1 l2 (by simpa using hr)
      | array n e =>
        simp only [Option.bind_eq_some_iff] at h
        obtain ⟨mf, h1, h2⟩ := h
        by_cases hs : sizeTy P e = some mf.length
        · rw [if_pos hs] at h2
          cases h2
          obtain ⟨l1, l2⟩ := cellEqs_length hr
          have hl : ((List.replicate n mf).flatten).length = n * mf.length := by simp
          rw [hl] at l1 l2
          have hag : ∀ ds, P.underlying e = some ds → aggDesc ds = false → mf.length = 1 := by
            intro ds h3 h4
            cases d with
            | zero => simp [plainTy] at h1
            | succ d => exact plainTy_one h1 h3 h4
          obtain ⟨ds, hds⟩ : ∃ ds, P.underlying e = some ds := by
            cases d with
            | zero => simp [plainTy] at h1
            | succ d =>
              cases hv : P.underlying e with
              | none => simp [plainTy, hv] at h1
              | some ds => exact ⟨ds, rfl⟩
          have key := forIn_plain (P := P) (d := d) (m := m) (ih e mf h1) (fun cs i w hi hc => run_part_val hds hs (hag ds hds) (by
            rw [hc]
            have : (i + 1) * mf.length ≤ n * mf.length := Nat.mul_le_mul_right _ (by omega)
            rw [Nat.succ_mul] at this
            exact this)) l1 l2 w n 0 r (by omega) (by simpa using hr)
          simp only [valOf, hu, Op.equalIn, Sem.run_bind, run_underlying hu, Result.andThen_ok, sizeTy_spec hs]
          rw [Std.Legacy.Range.forIn_eq_forIn_range']
          simp only [Std.Legacy.Range.size, Nat.sub_zero, Nat.add_sub_cancel, Nat.div_one]
          rw [key]
          cases r <;> rfl
        · rw [if_neg hs] at h2; cases h2
      | _ => simp at h

theorem eqGuard_other {op : BinOp} {t : TypeId} {x y : Operand} {u v : Value} (h1 : ∀ cs, u ≠ .agg cs) (h2 : u ≠ .nilIface) : (eqGuard op t x y u v).run P w = .ok () w := by
  cases op <;> first | rfl | (cases u <;> first | rfl | exact absurd rfl (h1 _) | exact absurd rfl h2)

theorem sound_eq {op : BinOp} (hop : op = .eql ∨ op = .neq) {kd : EqK} {t yt : TypeId} {ds : TypeDesc} {x y : Operand} {xa ya : Arg} (ht : P.underlying t = some ds)
    (hkd : match kd with
      | .bool => ds = .bool
      | .ptr => ∃ e, ds = .pointer e
      | .slice => ∃ e, ds = .slice e
      | .map => ∃ k e, ds = .map k e
      | .func => ∃ a b c, ds = .func a b c
      | .plain sh => aggDesc ds = true ∧ P.eqGuardType P.depth t = false ∧ plainTy P 20 t = some sh)
    (hx : V φ A w (xa.ev ts) (a.eval x)) (hy : V φ A w (ya.ev ts) (a.eval y)) (hR : R φ A w) (h : ask P (.eq kd (op == .neq) xa ya) ts A K) {o : Oper} (ho : o.op = .binOp op t x y yt) :
    Res P φ A w K ((execOp a.eval o).run P w) := by
  simp only [execOp, ho]
  generalize a.eval x = v at hx
  generalize a.eval y = u at hy
  simp only [ask, astep] at h
  generalize xa.ev ts = b at h hx
  generalize ya.ev ts = c at h hy
  cases hr : aeq kd b c with
  | none => rw [hr] at h; exact h.elim
  | some r =>
    rw [hr] at h
    -- it is enough that the model's own comparison comes to r
    have key : (eqGuard op t x y v u).run P w = .ok () w → (∀ bo, bo = BinOp.eql ∨ bo = .neq → (binOp bo t v u).run P w = ((Op.equal t v u).run P w).andThen fun q w' => .ok (.bool (if bo == .neq then !q else q)) w') → (Op.equal t v u).run P w = .ok r w →
        Res P φ A w K ((do let r ← (do eqGuard op t x y v u; binOp op t v u : Sem Value); pure (Next.value r) : Sem Next).run P w) := by
      intro h1 h2 h3
      simp only [Sem.run_bind, h1, Result.andThen_ok, h2 op hop, h3, Sem.run_pure]
      exact .same hR (.raw _) h
    have eqv : ∀ {m : Nat}, m = 9999 → (Op.equal t v u).run P w = (Op.equalIn (m + 1) t v u).run P w := by rintro m rfl; rfl
    have eqn : ∀ {v' u' : Value}, v = v' → u = u' → (∀ bo, bo = BinOp.eql ∨ bo = .neq → (binOp bo t v' u').run P w = ((Op.equal t v' u').run P w).andThen fun q w' => .ok (.bool (if bo == .neq then !q else q)) w') →
        (eqGuard op t x y v' u').run P w = .ok () w → (∀ d, 100 ≤ d → (Op.equalIn (d + 1) t v' u').run P w = .ok r w) →
        Res P φ A w K ((do let r ← (do eqGuard op t x y v u; binOp op t v u : Sem Value); pure (Next.value r) : Sem Next).run P w) := by
      rintro v' u' rfl rfl h1 h2 h3
      exact key h2 h1 (by rw [eqv rfl]; exact h3 _ (by omega))
    clear key eqv h
    unfold aeq at hr
    split at hr <;> first
      | (cases hr; done)
      | (simp only [Option.some.injEq] at hr
         simp only [V] at hx hy
         subst hr
         simp only [] at hkd
         subst hkd
         refine eqn hx hy (fun bo hbo => by rcases hbo with rfl | rfl <;> simp [binOp]) (by rcases hop with rfl | rfl <;> rfl) ?_
         intro d _
         simp [Op.equalIn, run_underlying ht]
         done)
      | (simp only [Option.some.injEq] at hr
         simp only [V] at hx hy
         subst hr
         simp only [] at hkd
         obtain ⟨e, rfl⟩ := hkd
         refine eqn hx hy (fun bo hbo => by rcases hbo with rfl | rfl <;> simp [binOp]) (by rcases hop with rfl | rfl <;> rfl) ?_
         intro d _
         simp [Op.equalIn, run_underlying ht]
         done)
      | skip
    · simp only [Option.some.injEq] at hr
      simp only [V] at hx hy
      subst hr
      simp only [] at hkd
      obtain ⟨e, rfl⟩ := hkd
      obtain ⟨ad, hx, _⟩ := hx
      refine eqn hx hy (fun bo hbo => by rcases hbo with rfl | rfl <;> simp [binOp]) (by rcases hop with rfl | rfl <;> rfl) ?_
      intro d _
      simp [Op.equalIn, run_underlying ht]
    · simp only [Option.some.injEq] at hr
      simp only [V] at hx hy
      subst hr
      simp only [] at hkd
      obtain ⟨e, rfl⟩ := hkd
      obtain ⟨ad, hy, _⟩ := hy
      refine eqn hx hy (fun bo hbo => by rcases hbo with rfl | rfl <;> simp [binOp]) (by rcases hop with rfl | rfl <;> rfl) ?_
      intro d _
      simp [Op.equalIn, run_underlying ht]
    · simp only [Option.some.injEq] at hr
      simp only [V] at hx hy
      subst hr
      simp only [] at hkd
      obtain ⟨e, rfl⟩ := hkd
      obtain ⟨b, off, hx, _⟩ := hx
      refine eqn hx hy (fun bo hbo => by rcases hbo with rfl | rfl <;> simp [binOp]) (by rcases hop with rfl | rfl <;> rfl) ?_
      intro d _
      simp [Op.equalIn, run_underlying ht]
    · simp only [Option.some.injEq] at hr
      simp only [V] at hx hy
      subst hr
      simp only [] at hkd
      obtain ⟨e, rfl⟩ := hkd
      obtain ⟨b, off, hy, _⟩ := hy
      refine eqn hx hy (fun bo hbo => by rcases hbo with rfl | rfl <;> simp [binOp]) (by rcases hop with rfl | rfl <;> rfl) ?_
      intro d _
      simp [Op.equalIn, run_underlying ht]
    · simp only [Option.some.injEq] at hr
      simp only [V] at hx hy
      subst hr
      simp only [] at hkd
      obtain ⟨e, rfl⟩ := hkd
      obtain ⟨ad, c, hx, _⟩ := hx
      refine eqn hx hy (fun bo hbo => by rcases hbo with rfl | rfl <;> simp [binOp]) (by rcases hop with rfl | rfl <;> rfl) ?_
      intro d _
      simp [Op.equalIn, run_underlying ht]
    · simp only [Option.some.injEq] at hr
      simp only [V] at hx hy
      subst hr
      simp only [] at hkd
      obtain ⟨e, rfl⟩ := hkd
      obtain ⟨ad, c, hy, _⟩ := hy
      refine eqn hx hy (fun bo hbo => by rcases hbo with rfl | rfl <;> simp [binOp]) (by rcases hop with rfl | rfl <;> rfl) ?_
      intro d _
      simp [Op.equalIn, run_underlying ht]
    · simp only [Option.some.injEq] at hr
      simp only [V] at hx hy
      subst hr
      simp only [] at hkd
      obtain ⟨e, rfl⟩ := hkd
      obtain ⟨base, c, hx, _, _, hb⟩ := hx
      rcases hb with hb | ⟨b, off, rfl, _⟩
      · cases hb
      refine eqn hx hy (fun bo hbo => by rcases hbo with rfl | rfl <;> simp [binOp]) (by rcases hop with rfl | rfl <;> rfl) ?_
      intro d _
      simp [Op.equalIn, run_underlying ht]
    · simp only [Option.some.injEq] at hr
      simp only [V] at hx hy
      subst hr
      simp only [] at hkd
      obtain ⟨e, rfl⟩ := hkd
      obtain ⟨base, c, hy, _, _, hb⟩ := hy
      rcases hb with hb | ⟨b, off, rfl, _⟩
      · cases hb
      refine eqn hx hy (fun bo hbo => by rcases hbo with rfl | rfl <;> simp [binOp]) (by rcases hop with rfl | rfl <;> rfl) ?_
      intro d _
      simp [Op.equalIn, run_underlying ht]
    · simp only [Option.some.injEq] at hr
      simp only [V] at hx hy
      subst hr
      simp only [] at hkd
      obtain ⟨k, e, rfl⟩ := hkd
      refine eqn hx hy (fun bo hbo => by rcases hbo with rfl | rfl <;> simp [binOp]) (by rcases hop with rfl | rfl <;> rfl) ?_
      intro d _
      simp [Op.equalIn, run_underlying ht]
    · simp only [Option.some.injEq] at hr
      simp only [V] at hx hy
      subst hr
      simp only [] at hkd
      obtain ⟨k, e, rfl⟩ := hkd
      obtain ⟨m, hx, _⟩ := hx
      refine eqn hx hy (fun bo hbo => by rcases hbo with rfl | rfl <;> simp [binOp]) (by rcases hop with rfl | rfl <;> rfl) ?_
      intro d _
      simp [Op.equalIn, run_underlying ht]
    · simp only [Option.some.injEq] at hr
      simp only [V] at hx hy
      subst hr
      simp only [] at hkd
      obtain ⟨k, e, rfl⟩ := hkd
      obtain ⟨m, hy, _⟩ := hy
      refine eqn hx hy (fun bo hbo => by rcases hbo with rfl | rfl <;> simp [binOp]) (by rcases hop with rfl | rfl <;> rfl) ?_
      intro d _
      simp [Op.equalIn, run_underlying ht]
    · simp only [Option.some.injEq] at hr
      simp only [V] at hx hy
      subst hr
      simp only [] at hkd
      obtain ⟨p, q, z, rfl⟩ := hkd
      refine eqn hx hy (fun bo hbo => by rcases hbo with rfl | rfl <;> simp [binOp]) (by rcases hop with rfl | rfl <;> rfl) ?_
      intro d _
      simp [Op.equalIn, run_underlying ht]
    · simp only [Option.some.injEq] at hr
      simp only [V] at hx hy
      subst hr
      simp only [] at hkd
      obtain ⟨p, q, z, rfl⟩ := hkd
      obtain ⟨xs, ys, hx, _⟩ := hx
      refine eqn hx hy (fun bo hbo => by rcases hbo with rfl | rfl <;> simp [binOp]) (by rcases hop with rfl | rfl <;> rfl) ?_
      intro d _
      simp [Op.equalIn, run_underlying ht]
    · simp only [Option.some.injEq] at hr
      simp only [V] at hx hy
      subst hr
      simp only [] at hkd
      obtain ⟨p, q, z, rfl⟩ := hkd
      obtain ⟨xs, ys, hy, _⟩ := hy
      refine eqn hx hy (fun bo hbo => by rcases hbo with rfl | rfl <;> simp [binOp]) (by rcases hop with rfl | rfl <;> rfl) ?_
      intro d _
      simp [Op.equalIn, run_underlying ht]
    · simp only [] at hkd
      obtain ⟨h1, h2, h3⟩ := hkd
      simp only [V] at hx hy
      obtain ⟨xs, hx, gx⟩ := hx
      obtain ⟨ys, hy, gy⟩ := hy
      have h4 := rawEqs_cells hr gx gy
      have hval : ∀ cs : List Value, valOf P t cs = .agg cs.toArray := by
        intro cs
        cases ds <;> simp [aggDesc] at h1 <;> simp [valOf, ht]
      refine eqn hx hy (fun bo hbo => by rcases hbo with rfl | rfl <;> simp [binOp]) (run_eqGuard_agg w op t x y _ _ h2) ?_
      intro d hd
      have h5 := run_equalIn_plain 20 (d - 19) t _ h3 xs ys r h4 w
      rw [hval, hval, show 20 + (d - 19) = d + 1 by omega] at h5
      exact h5

/-- Is a slice nil? -/
theorem sound_isNil {op : BinOp} (hop : op = .eql ∨ op = .neq) {t yt e : TypeId} {x y : Operand} {xa : Arg} (ht : P.underlying t = some (.slice e))
    (hx : V φ A w (xa.ev ts) (a.eval x)) (hy : a.eval y = .slice none 0 0) (hR : R φ A w) (h : ask P (.isNil (op == .neq) xa) ts A K) {o : Oper} (ho : o.op = .binOp op t x y yt) :
    Res P φ A w K ((execOp a.eval o).run P w) := by
  have key : ∀ base l c, a.eval x = .slice base l c → K (.raw (.bool (if op == .neq then !base.isNone else base.isNone))) A → Res P φ A w K ((execOp a.eval o).run P w) := by
    intro base l c hv hk
    simp only [execOp, ho, hv, hy]
    have h1 : (eqGuard op t x y (.slice base l c) (.slice none 0 0)).run P w = .ok () w := by rcases hop with rfl | rfl <;> rfl
    have h3 : (Op.equal t (.slice base l c) (.slice none 0 0)).run P w = .ok base.isNone w := by
      have h4 : ∀ d, (Op.equalIn (d + 1) t (.slice base l c) (.slice none 0 0)).run P w = .ok base.isNone w := by
        intro d
        cases base <;> simp [Op.equalIn, run_underlying ht]
      have h5 : ∀ m : Nat, m = 9999 → (Op.equal t (.slice base l c) (.slice none 0 0)).run P w = (Op.equalIn (m + 1) t (.slice base l c) (.slice none 0 0)).run P w := by rintro m rfl; rfl
      rw [h5 _ rfl]
      exact h4 _
    have h2 : (binOp op t (.slice base l c) (.slice none 0 0)).run P w = .ok (.bool (if op == .neq then !base.isNone else base.isNone)) w := by
      rcases hop with rfl | rfl <;> simp [binOp, h3]
    simp only [Sem.run_bind, h1, Result.andThen_ok, h2, Sem.run_pure]
    exact .same hR (.raw _) hk
  simp only [ask, astep] at h
  generalize xa.ev ts = b at h hx
  cases b with
  | raw b =>
    simp only [V] at hx
    cases b with
    | slice base l c =>
      cases base with
      | none => exact key _ _ _ hx (by rcases hop with rfl | rfl <;> exact h)
      | some _ => exact h.elim
    | _ => exact h.elim
  | sl i off len cap esz =>
    simp only [V] at hx
    obtain ⟨ad, c, hx, _⟩ := hx
    exact key _ _ _ hx (by rcases hop with rfl | rfl <;> exact h)
  | fsl cs len cap =>
    simp only [V] at hx
    obtain ⟨base, c, hx, _, _, hb⟩ := hx
    cases cs with
    | nil => exact key _ _ _ hx (h _)
    | cons d cs =>
      rcases hb with hb | ⟨b, off, rfl, _⟩
      · cases hb
      · exact key _ _ _ hx (by rcases hop with rfl | rfl <;> exact h)
  | _ => exact h.elim

end Go.Ab
