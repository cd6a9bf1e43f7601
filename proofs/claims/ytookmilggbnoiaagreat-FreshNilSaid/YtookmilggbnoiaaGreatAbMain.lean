/- The abstract layer, part 14: every operation that part 5 makes does in the model what part 3 says of it. -/
import Derived.Test.YtookmilggbnoiaaGreatAbEq
set_option linter.unusedSimpArgs false
set_option linter.unusedVariables false
namespace Go.Ab

variable {P : Program} {φ φ' : Emb} {A A' : Heap} {w w' : World} {ts : List AVal} {a : Act} {K : AVal → Heap → Prop}

theorem compArg?_V (hV : Vl φ A w ts a.tmps.toList) {o : Option Operand} {x : Option Arg} (hx : compArg? o = some x) : BoundV φ A w ts x (o.map a.eval) := by
  cases o with
  | none => simp only [compArg?, Option.some.injEq] at hx; subst hx; trivial
  | some o =>
    simp only [compArg?, Option.map_eq_some_iff] at hx
    obtain ⟨y, h1, rfl⟩ := hx
    exact compArg_V hV h1

theorem compArg?_some {o : Option Operand} {x : Option Arg} (hx : compArg? o = some x) : x.isSome = o.isSome := by
  cases o with
  | none => simp only [compArg?, Option.some.injEq] at hx; subst hx; rfl
  | some o =>
    simp only [compArg?, Option.map_eq_some_iff] at hx
    obtain ⟨y, _, rfl⟩ := hx
    rfl

theorem compBuiltin_sound {b : Builtin} {tys : Array TypeId} {ty : TypeId} {cs : Array Bool} {args : List Arg} {vs : List Value} {x : XOp} (hx : compBuiltin P b tys args = some x) (hv : Vl φ A w (args.map (·.ev ts)) vs) (hR : R φ A w) (h : ask P x ts A K) :
    Res P φ A w K ((builtin b tys ty cs vs.toArray).run P w) := by
  unfold compBuiltin at hx
  split at hx
  · -- append
    rename_i x0 y0
    cases vs with
    | nil => simp only [List.map_cons, Vl] at hv
    | cons v vs =>
      cases vs with
      | nil => simp only [List.map_cons, Vl] at hv; exact hv.2.elim
      | cons u vs =>
        simp only [List.map_cons, List.map_nil, Vl] at hv
        obtain ⟨hv, hu, hn⟩ := hv
        have hvs : vs = [] := List.length_eq_zero_iff.1 (by have := Vl.length hn; simpa using this.symm)
        subst hvs
        split at hx
        · rename_i e k h0 h1
          simp only [Option.bind_eq_some_iff] at hx
          obtain ⟨s, hs, bb, hb, z, hz, hx⟩ := hx
          by_cases hc : z.length = s ∧ 0 < s ∧ 0 < bb
          · rw [if_pos hc] at hx
            cases hx
            exact sound_appendZ hs hb hz hc.1 hc.2.1 hc.2.2 h0 h1 hv hu hR h
          · rw [if_neg hc] at hx; cases hx
        · rename_i e d _ h0 h1
          cases hd : isSrcDesc d with
          | false => rw [hd] at hx; cases hx
          | true =>
            rw [hd] at hx
            simp only [cond_true, Option.bind_eq_some_iff] at hx
            obtain ⟨s, hs, bb, hb, z, hz, hx⟩ := hx
            by_cases hc : z.length = s ∧ 0 < s ∧ 0 < bb
            · rw [if_pos hc] at hx
              cases hx
              exact sound_append hs hb hz hc.1 hc.2.1 hc.2.2 h0 h1 hd hv hu hR h
            · rw [if_neg hc] at hx; cases hx
        · cases hx
  · -- copy
    cases vs with
    | nil => simp only [List.map_cons, Vl] at hv
    | cons v vs =>
      cases vs with
      | nil => simp only [List.map_cons, Vl] at hv; exact hv.2.elim
      | cons u vs =>
        simp only [List.map_cons, List.map_nil, Vl] at hv
        obtain ⟨hv, hu, hn⟩ := hv
        have hvs : vs = [] := List.length_eq_zero_iff.1 (by have := Vl.length hn; simpa using this.symm)
        subst hvs
        split at hx
        · rename_i e h0
          simp only [Option.map_eq_some_iff] at hx
          obtain ⟨s, hs, rfl⟩ := hx
          exact sound_copy hs h0 hv hu hR h
        · cases hx
  · -- clear
    cases vs with
    | nil => simp only [List.map_cons, Vl] at hv
    | cons v vs =>
      simp only [List.map_cons, List.map_nil, Vl] at hv
      obtain ⟨hv, hn⟩ := hv
      have hvs : vs = [] := List.length_eq_zero_iff.1 (by have := Vl.length hn; simpa using this.symm)
      subst hvs
      split at hx
      · rename_i e h0
        simp only [Option.bind_eq_some_iff] at hx
        obtain ⟨z, hz, hx⟩ := hx
        by_cases hc : sizeTy P e = some z.length ∧ 0 < z.length
        · rw [if_pos hc] at hx
          cases hx
          exact sound_clear hz h0 hv hR h
        · rw [if_neg hc] at hx; cases hx
      · cases hx
  · -- len
    cases vs with
    | nil => simp only [List.map_cons, Vl] at hv
    | cons v vs =>
      simp only [List.map_cons, List.map_nil, Vl] at hv
      obtain ⟨hv, hn⟩ := hv
      have hvs : vs = [] := List.length_eq_zero_iff.1 (by have := Vl.length hn; simpa using this.symm)
      subst hvs
      have v0 : ([v].toArray : Array Value)[0]? = some v := rfl
      split at hx
      · cases hx; exact sound_lenStr (by assumption) hv hR h
      · cases hx; exact sound_len (by assumption) hv hR h
      · rename_i n e h0
        cases hx
        simp only [Option.bind_eq_some_iff] at h0
        obtain ⟨t, ht, hu⟩ := h0
        have : (builtin .len tys ty cs [v].toArray).run P w = .ok (.value (.int .i64 n)) w := by
          simp only [builtin, Builtin.len_, ht, v0, Sem.run_bind, run_underlying hu, Result.andThen_ok, goInt, Sem.run_pure]
        rw [this]
        exact .same hR (.raw _) h
      · rename_i e h0
        simp only [Option.bind_eq_some_iff] at h0
        obtain ⟨t, ht, hu⟩ := h0
        split at hx
        · rename_i n e' h1
          cases hx
          have : (builtin .len tys ty cs [v].toArray).run P w = .ok (.value (.int .i64 n)) w := by
            simp only [builtin, Builtin.len_, ht, v0, Sem.run_bind, run_underlying hu, run_underlying h1, Result.andThen_ok, goInt, Sem.run_pure]
          rw [this]
          exact .same hR (.raw _) h
        · cases hx
      · cases hx
  · -- cap
    cases vs with
    | nil => simp only [List.map_cons, Vl] at hv
    | cons v vs =>
      simp only [List.map_cons, List.map_nil, Vl] at hv
      obtain ⟨hv, hn⟩ := hv
      have hvs : vs = [] := List.length_eq_zero_iff.1 (by have := Vl.length hn; simpa using this.symm)
      subst hvs
      split at hx
      · cases hx; exact sound_cap (by assumption) hv hR h
      · cases hx
  · -- min
    cases hx
    cases vs with
    | nil => simp only [List.map_cons, Vl] at hv
    | cons v vs =>
      simp only [List.map_cons, Vl] at hv
      exact sound_minMax hv.1 hv.2 hR h
  · -- max
    cases hx
    cases vs with
    | nil => simp only [List.map_cons, Vl] at hv
    | cons v vs =>
      simp only [List.map_cons, Vl] at hv
      exact sound_minMax hv.1 hv.2 hR h
  · cases hx

theorem compBin_sound {op : BinOp} {t yt : TypeId} {x y : Operand} {xa ya : Arg} {xo : XOp} (hc : compBin P op t xa ya = some xo) (hx : V φ A w (xa.ev ts) (a.eval x)) (hy : V φ A w (ya.ev ts) (a.eval y)) (hR : R φ A w) (h : ask P xo ts A K) {o : Oper} (ho : o.op = .binOp op t x y yt) :
    Res P φ A w K ((execOp a.eval o).run P w) := by
  unfold compBin at hc
  have heq : (op = .eql ∨ op = .neq) → ∀ xo, (match P.underlying t with
    | some (.int _) | some .string => some (XOp.bin op xa ya)
    | some .bool => some (.eq .bool (op == .neq) xa ya)
    | some (.pointer _) => some (.eq .ptr (op == .neq) xa ya)
    | some (.slice _) => bif isNilArg ya then some (.isNil (op == .neq) xa) else some (.eq .slice (op == .neq) xa ya)
    | some (.map _ _) => some (.eq .map (op == .neq) xa ya)
    | some (.func _ _ _) => some (.eq .func (op == .neq) xa ya)
    | _ => (isPlain P t).map fun sh => .eq (.plain sh) (op == .neq) xa ya) = some xo → ask P xo ts A K → Res P φ A w K ((execOp a.eval o).run P w) := by
    intro hop xo hc h
    split at hc
    · cases hc; exact sound_bin hx hy hR h ho
    · cases hc; exact sound_bin hx hy hR h ho
    · rename_i hu; cases hc; exact sound_eq hop (kd := .bool) hu rfl hx hy hR h ho
    · rename_i e hu; cases hc; exact sound_eq hop (kd := .ptr) hu ⟨e, rfl⟩ hx hy hR h ho
    · rename_i e hu
      cases hn : isNilArg ya with
      | true =>
        rw [hn] at hc
        cases hc
        rw [isNilArg_eq hn] at hy
        simp only [Arg.ev, V] at hy
        exact sound_isNil hop hu hx hy hR h ho
      | false =>
        rw [hn] at hc
        cases hc; exact sound_eq hop (kd := .slice) hu ⟨e, rfl⟩ hx hy hR h ho
    · rename_i k e hu; cases hc; exact sound_eq hop (kd := .map) hu ⟨k, e, rfl⟩ hx hy hR h ho
    · rename_i p q z hu; cases hc; exact sound_eq hop (kd := .func) hu ⟨p, q, z, rfl⟩ hx hy hR h ho
    · simp only [Option.map_eq_some_iff] at hc
      obtain ⟨sh, h1, rfl⟩ := hc
      unfold isPlain at h1
      split at h1
      · rename_i fs hu
        by_cases hg : P.eqGuardType P.depth t = true
        · rw [if_pos hg] at h1; cases h1
        · rw [if_neg hg] at h1
          exact sound_eq hop (kd := .plain sh) hu ⟨rfl, by simpa using hg, h1⟩ hx hy hR h ho
      · rename_i n e hu
        by_cases hg : P.eqGuardType P.depth t = true
        · rw [if_pos hg] at h1; cases h1
        · rw [if_neg hg] at h1
          exact sound_eq hop (kd := .plain sh) hu ⟨rfl, by simpa using hg, h1⟩ hx hy hR h ho
      · cases h1
  cases op with
  | eql => exact heq (.inl rfl) xo hc h
  | neq => exact heq (.inr rfl) xo hc h
  | _ => simp only [Option.some.injEq] at hc; subst hc; exact sound_bin hx hy hR h ho

/-- Every operation that is made does what is said of it. -/
theorem op_sound {o : Oper} {x : XOp} (hx : compOp P o = some x) (hV : Vl φ A w ts a.tmps.toList) (hR : R φ A w) (h : ask P x ts A K) : Res P φ A w K ((execOp a.eval o).run P w) := by
  obtain ⟨dst, op, ty, pos, after, guard⟩ := o
  unfold compOp at hx
  simp only [] at hx
  cases op with
  | move y =>
    simp only [Option.map_eq_some_iff] at hx
    obtain ⟨y', h1, rfl⟩ := hx
    exact .same hR (compArg_V hV h1) h
  | assign y =>
    simp only [Option.map_eq_some_iff] at hx
    obtain ⟨y', h1, rfl⟩ := hx
    exact .same hR (compArg_V hV h1) h
  | pick c y z =>
    simp only [Option.bind_eq_some_iff, Option.map_eq_some_iff] at hx
    obtain ⟨c', h1, y', h2, z', h3, rfl⟩ := hx
    exact sound_pick (compArg_V hV h1) (compArg_V hV h2) (compArg_V hV h3) hR h
  | alloc t =>
    simp only [Option.map_eq_some_iff] at hx
    obtain ⟨z, h1, rfl⟩ := hx
    exact sound_alloc h1 hR h
  | box t y =>
    simp only [Option.map_eq_some_iff] at hx
    obtain ⟨y', h1, rfl⟩ := hx
    simp only [ask, astep] at h
    cases hc : (y'.ev ts).cells? with
    | none => rw [hc] at h; exact h.elim
    | some cs => rw [hc] at h; exact sound_box (compArg_V hV h1) hc hR h
  | build t parts =>
    simp only [Option.bind_eq_some_iff] at hx
    obtain ⟨z, hz, hx⟩ := hx
    split at hx
    · rename_i fields hu
      simp only [Option.bind_eq_some_iff, Option.map_eq_some_iff] at hx
      obtain ⟨ps, h1, r, h2, rfl⟩ := hx
      exact sound_buildStruct hz hu h1 h2 hV hR h
    · rename_i n e hu
      simp only [Option.bind_eq_some_iff, Option.map_eq_some_iff] at hx
      obtain ⟨s, h1, r, h2, rfl⟩ := hx
      exact sound_buildArray hz hu h1 h2 hV hR h
    · cases hx
  | buildSlice t len parts =>
    simp only [] at hx
    split at hx
    · rename_i e hu
      simp only [Option.bind_eq_some_iff] at hx
      obtain ⟨s, h1, z, h2, hx⟩ := hx
      by_cases hc : len * s ≤ 2 ^ 24 ∧ z.length = s ∧ 0 < s
      · rw [if_pos hc] at hx
        simp only [Option.map_eq_some_iff] at hx
        obtain ⟨r, h3, rfl⟩ := hx
        exact sound_buildF h2 hu h1 hc.1 hc.2.1 hc.2.2 h3 hV hR h
      · rw [if_neg hc] at hx; cases hx
    · cases hx
  | load t y =>
    simp only [Option.bind_eq_some_iff, Option.map_eq_some_iff] at hx
    obtain ⟨n, h1, y', h2, rfl⟩ := hx
    exact sound_load h1 (compArg_V hV h2) hR h
  | store t y z =>
    simp only [Option.bind_eq_some_iff, Option.map_eq_some_iff] at hx
    obtain ⟨n, h1, y', h2, z', h3, rfl⟩ := hx
    exact sound_store h1 (compArg_V hV h2) (compArg_V hV h3) hR h
  | nilCheck y =>
    simp only [Option.map_eq_some_iff] at hx
    obtain ⟨y', h1, rfl⟩ := hx
    exact sound_nilCheck rfl rfl (compArg_V hV h1) hR h
  | binOp op t y z yt =>
    simp only [Option.bind_eq_some_iff] at hx
    obtain ⟨y', h1, z', h2, hx⟩ := hx
    exact compBin_sound hx (compArg_V hV h1) (compArg_V hV h2) hR h rfl
  | unOp op t y =>
    simp only [Option.map_eq_some_iff] at hx
    obtain ⟨y', h1, rfl⟩ := hx
    exact sound_un (compArg_V hV h1) hR h
  | convert s d y =>
    simp only [] at hx
    split at hx
    · simp only [Option.map_eq_some_iff] at hx
      obtain ⟨y', h1, rfl⟩ := hx
      exact sound_conv (by assumption) (by assumption) (compArg_V hV h1) hR h
    · split at hx
      · simp only [Option.map_eq_some_iff] at hx
        obtain ⟨y', h1, rfl⟩ := hx
        exact sound_strBytes (by assumption) (by assumption) (by assumption) (compArg_V hV h1) hR h
      · cases hx
    · cases hx
  | sliceToArrayPointer t y =>
    simp only [] at hx
    split at hx
    · simp only [Option.bind_eq_some_iff, Option.map_eq_some_iff] at hx
      obtain ⟨s, h1, y', h2, rfl⟩ := hx
      exact sound_arrPtr (by assumption) (compArg_V hV h2) hR h
    · cases hx
  | makeFunc fn f c =>
    simp only [Option.bind_eq_some_iff, Option.map_eq_some_iff] at hx
    obtain ⟨f', h1, c', h2, rfl⟩ := hx
    exact sound_mkFunc (by rw [Array.toList_map]; exact compArgs_V hV h1) (by rw [Array.toList_map]; exact compArgs_V hV h2) hR h
  | makeSlice t l c =>
    simp only [] at hx
    split at hx
    · rename_i e hu
      simp only [Option.bind_eq_some_iff] at hx
      obtain ⟨s, h1, b, h2, z, h3, hx⟩ := hx
      by_cases hc : z.length = s ∧ 0 < s
      · rw [if_pos hc] at hx
        simp only [Option.bind_eq_some_iff, Option.map_eq_some_iff] at hx
        obtain ⟨l', h4, c', h5, rfl⟩ := hx
        exact sound_mkSlice hu h1 h2 h3 hc.1 hc.2 (compArg_V hV h4) (compArg_V hV h5) hR h
      · rw [if_neg hc] at hx; cases hx
    · cases hx
  | slice t y lo hi mx =>
    simp only [Option.bind_eq_some_iff] at hx
    obtain ⟨y', h1, lo', h2, hi', h3, mx', h4, hx⟩ := hx
    by_cases hc : (mx'.isSome && !hi'.isSome) = true
    · rw [if_pos hc] at hx; cases hx
    · rw [if_neg hc] at hx
      have hm : mx'.isSome = true → hi'.isSome = true := by
        intro h5
        cases hh : hi'.isSome with
        | true => rfl
        | false => rw [h5, hh] at hc; exact absurd rfl hc
      split at hx
      · rename_i e hu
        simp only [Option.map_eq_some_iff] at hx
        obtain ⟨s, h5, rfl⟩ := hx
        exact sound_slice hu h5 hm (compArg_V hV h1) (compArg?_V hV h2) (compArg?_V hV h3) (compArg?_V hV h4) hR h
      · rename_i n e hu
        simp only [Option.map_eq_some_iff] at hx
        obtain ⟨s, h5, rfl⟩ := hx
        exact sound_sliceArr hu h5 hm (compArg_V hV h1) (compArg?_V hV h2) (compArg?_V hV h3) (compArg?_V hV h4) hR h
      · cases hx
  | fieldAddr s y f =>
    simp only [] at hx
    split at hx
    · rename_i fields hu
      simp only [Option.bind_eq_some_iff] at hx
      obtain ⟨fd, h1, n, h2, hx⟩ := hx
      by_cases hn : n = 0
      · rw [if_pos hn] at hx; cases hx
      · rw [if_neg hn] at hx
        simp only [Option.map_eq_some_iff] at hx
        obtain ⟨y', h3, rfl⟩ := hx
        exact sound_fieldAddr hu h1 h2 hn (compArg_V hV h3) hR h
    · cases hx
  | field s y f =>
    simp only [] at hx
    split at hx
    · rename_i fields hu
      simp only [Option.bind_eq_some_iff, Option.map_eq_some_iff] at hx
      obtain ⟨fd, h1, n, h2, y', h3, rfl⟩ := hx
      exact sound_field hu h1 h2 (compArg_V hV h3) hR h
    · cases hx
  | indexAddr t y i =>
    simp only [] at hx
    split at hx
    · simp only [Option.bind_eq_some_iff, Option.map_eq_some_iff] at hx
      obtain ⟨s, h1, y', h2, i', h3, rfl⟩ := hx
      exact sound_idxAddrArr (by assumption) h1 (compArg_V hV h2) (compArg_V hV h3) hR h
    · simp only [Option.bind_eq_some_iff, Option.map_eq_some_iff] at hx
      obtain ⟨s, h1, y', h2, i', h3, rfl⟩ := hx
      exact sound_idxAddr (by assumption) h1 (compArg_V hV h2) (compArg_V hV h3) hR h
    · cases hx
  | index t y i =>
    simp only [] at hx
    split at hx
    · simp only [Option.bind_eq_some_iff, Option.map_eq_some_iff] at hx
      obtain ⟨s, h1, z, h2, y', h3, i', h4, rfl⟩ := hx
      exact sound_idxArr (by assumption) h1 h2 (compArg_V hV h3) (compArg_V hV h4) hR h
    · simp only [Option.bind_eq_some_iff, Option.map_eq_some_iff] at hx
      obtain ⟨y', h3, i', h4, rfl⟩ := hx
      exact sound_idxStr (by assumption) (compArg_V hV h3) (compArg_V hV h4) hR h
    · cases hx
  | extract y i =>
    simp only [Option.map_eq_some_iff] at hx
    obtain ⟨y', h1, rfl⟩ := hx
    exact sound_extract (compArg_V hV h1) hR h
  | call c =>
    obtain ⟨callee, args, argTypes⟩ := c
    cases callee with
    | value fv =>
      have hargs : ∀ as, compArgs args.toList = some as → Vl φ A w (as.map (·.ev ts)) (args.map a.eval).toList := fun as h1 => by rw [Array.toList_map]; exact compArgs_V hV h1
      cases fv with
      | func f =>
        simp only [] at hx
        by_cases he : enters P f = true
        · rw [if_pos he] at hx
          simp only [Option.map_eq_some_iff] at hx
          obtain ⟨as, h1, rfl⟩ := hx
          have := sound_call (hargs as h1) hR h
          rw [show (args.map a.eval).toList.toArray = args.map a.eval from Array.toArray_toList] at this
          simpa [execOp, resolve, Act.eval] using this
        · rw [if_neg he] at hx; cases hx
      | tmp t =>
        simp only [Option.bind_eq_some_iff, Option.map_eq_some_iff] at hx
        obtain ⟨fv', h1, as, h2, rfl⟩ := hx
        have := sound_callv (compArg_V hV h1) (hargs as h2) hR h
        rw [show (args.map a.eval).toList.toArray = args.map a.eval from Array.toArray_toList] at this
        simpa [execOp, resolve] using this
      | const v =>
        simp only [Option.bind_eq_some_iff, Option.map_eq_some_iff] at hx
        obtain ⟨fv', h1, as, h2, rfl⟩ := hx
        have := sound_callv (compArg_V hV h1) (hargs as h2) hR h
        rw [show (args.map a.eval).toList.toArray = args.map a.eval from Array.toArray_toList] at this
        simpa [execOp, resolve] using this
      | global g => simp [compArg] at hx
    | invoke r m => cases hx
    | builtin b =>
      simp only [Option.bind_eq_some_iff] at hx
      obtain ⟨as, h1, hx⟩ := hx
      have := compBuiltin_sound (ty := ty) (cs := args.map fun | .const _ => true | _ => false) hx (vs := (args.map a.eval).toList) (by rw [Array.toList_map]; exact compArgs_V hV h1) hR h
      rw [show (args.map a.eval).toList.toArray = args.map a.eval from Array.toArray_toList] at this
      simp only [execOp, resolve, invoke, Sem.run_bind, Sem.run_pure, Result.andThen_ok]
      exact this
  | _ => cases hx

end Go.Ab
