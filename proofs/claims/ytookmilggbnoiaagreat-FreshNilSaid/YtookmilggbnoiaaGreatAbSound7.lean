/- The abstract layer, part 12: append of zeros, copy, clear, and calls. -/
import Derived.Test.YtookmilggbnoiaaGreatAbSound6
set_option linter.unusedSimpArgs false
set_option linter.unusedVariables false
namespace Go.Ab

variable {P : Program} {φ φ' : Emb} {A A' : Heap} {w w' : World} {ts : List AVal} {a : Act} {K : AVal → Heap → Prop}

theorem sound_appendZ {e : TypeId} {s b : Nat} {z : List Value} (hs : sizeTy P e = some s) (hb : bytesTy P e = some b) (hz : zeroOf P e = some z) (hzs : z.length = s) (hs0 : 0 < s) (hb0 : 0 < b)
    {tys : Array TypeId} {ty : TypeId} {k1 : IntKind} (ht0 : tys[0]?.bind P.underlying = some (.slice e)) (ht1 : tys[1]?.bind P.underlying = some (.int k1))
    {x y : Arg} {v u : Value} (hv : V φ A w (x.ev ts) v) (hu : V φ A w (y.ev ts) u) (hR : R φ A w) (h : ask P (.appendZ s b z x y) ts A K) :
    Res P φ A w K ((do pure (Next.value (← Builtin.append_ tys ty #[v, u]))).run P w) := by
  simp only [Option.bind_eq_some_iff] at ht0 ht1
  obtain ⟨t0, ht0, hu0⟩ := ht0
  obtain ⟨t1, ht1, hu1⟩ := ht1
  obtain ⟨⟨zv, h1, h2⟩, h3⟩ := zeroOf_spec hz
  obtain ⟨i, hi, hib⟩ := bytesTy_spec hb
  simp only [ask, astep] at h
  generalize y.ev ts = c at h hu
  cases c with
  | raw c =>
    cases c with
    | int k m =>
      cases k with
      | i64 =>
        simp only [V] at hu
        subst hu
        obtain ⟨⟨g1, g2⟩, h⟩ := h
        rw [repCells_map] at h
        have g3 : m ≤ 2 ^ 46 := by
          have hb1 : (1 : Int) ≤ b := by omega
          have : m * 1 ≤ m * b := Int.mul_le_mul_of_nonneg_left hb1 g1
          omega
        have w1 : IntKind.i64.wrap m = m := by simp [IntKind.wrap, IntKind.bits, IntKind.signed]; omega
        have c1 : ¬ m < 0 := by omega
        have c2 : ¬ m * (i.bytes : Int) > 2 ^ 48 := by rw [hib]; omega
        have hz' : ∀ k, Builtin.zeroCells z.toArray k = ((List.replicate k z).flatten).toArray := fun k => Array.ext' (by rw [zeroCells_list])
        have hap : ∀ w2 : World, ((if m.toNat * s = 0 then pure #[] else do pure (Builtin.zeroCells (← zeroValue e).cells m.toNat) : Sem (Array Value))).run P w2 = .ok ((List.replicate m.toNat z).flatten).toArray w2 := by
          intro w2
          by_cases hm : m.toNat * s = 0
          · have hm0 : m.toNat = 0 := by
              rcases Nat.mul_eq_zero.1 hm with h | h
              · exact h
              · omega
            rw [if_pos hm, hm0]; rfl
          · simp only [hm, if_false, Sem.run_bind, h2, Result.andThen_ok, h1, hz', Sem.run_pure]
        have hcs : Vcs φ A w (((List.replicate m.toNat z).flatten).map AVal.raw) ((List.replicate m.toNat z).flatten) := Vcs.raws (rep_raws h3 _)
        simp only [Sem.run_bind]
        refine append_core (e := e) (F := fun v _ w => (Builtin.append_ tys ty #[v, .int .i64 m]).run P w) hzs hs0 hv hR hcs (by simp [hzs]) h ?_ ?_
        · intro base len cap w2 hv hfit hw2
          subst hv
          have a0 : (#[Value.slice base len cap, .int .i64 m] : Array Value)[0]? = some (.slice base len cap) := rfl
          have a1 : (#[Value.slice base len cap, .int .i64 m] : Array Value)[1]? = some (.int .i64 m) := rfl
          cases base <;> simp only [Builtin.append_, ht0, ht1, a0, a1, Sem.run_bind, run_underlying hu0, run_underlying hu1, Result.andThen_ok, sizeTy_spec hs, Sem.run_pure, if_true, asInt, asIntOf, w1, c1, if_false, hi, c2, hfit, Bool.not_true, Bool.false_eq_true, hap]
        · intro base len cap old hv hfit hbd hold
          subst hv
          have a0 : (#[Value.slice base len cap, .int .i64 m] : Array Value)[0]? = some (.slice base len cap) := rfl
          have a1 : (#[Value.slice base len cap, .int .i64 m] : Array Value)[1]? = some (.int .i64 m) := rfl
          obtain ⟨q1, q2, q3⟩ := grow_bound hfit hbd hb0
          have q4 : ¬ ((len + m.toNat : Nat) : Int) > IntKind.i64.max := by omega
          have q5 : ¬ Builtin.nextslicecap (len + m.toNat) cap * i.bytes > 2 ^ 48 := by rw [hib]; omega
          refine ⟨(Question.appendCap (len + m.toNat) cap e).cut (w.tape w.drawn (.appendCap (len + m.toNat) cap e)), ?_, ?_⟩
          · simp only [Question.cut]; omega
          · simp only [Builtin.append_, ht0, ht1, a0, a1, Sem.run_bind, run_underlying hu0, run_underlying hu1, Result.andThen_ok, sizeTy_spec hs, Sem.run_pure, if_true, asInt, asIntOf, w1, c1, if_false, hi, c2, hfit, Bool.not_true, Bool.false_eq_true, hap,
              q4, q5, false_and, run_choose, Question.forced, run_askRoom, hold { w with drawn := w.drawn + 1 } rfl, h2, h1, hz', run_newRow]
            simp
      | _ => exact h.elim
    | _ => exact h.elim
  | _ => exact h.elim

theorem sound_copy {e : TypeId} {s : Nat} (hs : sizeTy P e = some s) {tys : Array TypeId} {ty : TypeId} (ht0 : tys[0]?.bind P.underlying = some (.slice e))
    {x y : Arg} {v u : Value} (hv : V φ A w (x.ev ts) v) (hu : V φ A w (y.ev ts) u) (hR : R φ A w) (h : ask P (.copy s x y) ts A K) :
    Res P φ A w K ((do pure (Next.value (← Builtin.copy_ tys ty #[v, u]))).run P w) := by
  simp only [Option.bind_eq_some_iff] at ht0
  obtain ⟨t0, ht0, hu0⟩ := ht0
  simp only [ask, astep] at h
  obtain ⟨n, cs, h, hcl, hlen, hf⟩ := src_spec (P := P) hu hR h
  have a0 : (#[v, u] : Array Value)[0]? = some v := rfl
  have a1 : (#[v, u] : Array Value)[1]? = some u := rfl
  generalize x.ev ts = c at h hv
  cases c with
  | raw c =>
    simp only [V] at hv
    cases c with
    | slice base l cp =>
      cases base with
      | none =>
        obtain ⟨xs, q1, q2⟩ := hf (min n l) (Nat.min_le_left _ _)
        subst hv
        simp only [Builtin.copy_, ht0, a0, a1, Sem.run_bind, run_underlying hu0, Result.andThen_ok, hlen, sizeTy_spec hs, show Nat.min n l = min n l from rfl, q2 w rfl, goInt, Sem.run_pure]
        exact .same hR (.raw _) h
      | some _ => exact h.elim
    | _ => exact h.elim
  | sl i off len cap e' =>
    simp only [V] at hv
    obtain ⟨ad, c, hv, hlt, hlc, hcap, hbase⟩ := hv
    cases ho : A.get i with
    | none => simp only [ho] at h
    | some o =>
      cases o with
      | map => simp only [ho] at h
      | loop => simp only [ho] at h
      | cells vs =>
        simp only [ho] at h
        obtain ⟨⟨rfl, h2⟩, h⟩ := h
        obtain ⟨rfl, _⟩ := hbase (by simp [Heap.live, ho])
        obtain ⟨xs, q1, q2⟩ := hf (min n len) (Nat.min_le_left _ _)
        have hmn : min n len * e' ≤ len * e' := Nat.mul_le_mul_right _ (Nat.min_le_right _ _)
        obtain ⟨w', g1, g2, g3⟩ := run_storeLive (P := P) off 0 hR ho q1 (by rw [List.length_take]; omega)
        simp only [Nat.add_zero] at g2 g3
        subst hv
        simp only [Builtin.copy_, ht0, a0, a1, Sem.run_bind, run_underlying hu0, Result.andThen_ok, hlen, sizeTy_spec hs, show Nat.min n len = min n len from rfl, q2 w rfl, g1, goInt, Sem.run_pure]
        exact ⟨φ, _, _, h, .raw _, g2, g3⟩
  | _ => exact h.elim

theorem sound_clear {e : TypeId} {z : List Value} (hz : zeroOf P e = some z) {tys : Array TypeId} {ty : TypeId} (ht0 : tys[0]?.bind P.underlying = some (.slice e))
    {x : Arg} {v : Value} (hv : V φ A w (x.ev ts) v) (hR : R φ A w) (h : ask P (.clear z x) ts A K) :
    Res P φ A w K ((do pure (Next.value (← Builtin.clear_ tys ty #[v]))).run P w) := by
  simp only [Option.bind_eq_some_iff] at ht0
  obtain ⟨t0, ht0, hu0⟩ := ht0
  obtain ⟨⟨zv, h1, h2⟩, h3⟩ := zeroOf_spec hz
  simp only [ask, astep] at h
  have a0 : (#[v] : Array Value)[0]? = some v := rfl
  have htup : V φ A w (.tup []) (.tuple #[]) := by simp only [V]; exact ⟨[], rfl, by simp [Vl]⟩
  have none0 : ∀ (b : Option Addr) (n c : Nat), v = .slice b n c → (b = none ∨ n = 0) → K (.tup []) A → Res P φ A w K ((do pure (Next.value (← Builtin.clear_ tys ty #[v]))).run P w) := by
    intro b n c hv hb hk
    subst hv
    have : (Builtin.clear_ tys ty #[Value.slice b n c]).run P w = .ok (.tuple #[]) w := by
      rcases hb with rfl | rfl
      · simp only [Builtin.clear_, ht0, a0, Sem.run_bind, run_underlying hu0, Result.andThen_ok, Sem.run_pure]
      · cases b <;> simp only [Builtin.clear_, ht0, a0, Sem.run_bind, run_underlying hu0, Result.andThen_ok, Sem.run_pure]
    simp only [Sem.run_bind, this, Result.andThen_ok, Sem.run_pure]
    exact .same hR htup hk
  generalize x.ev ts = c at h hv
  cases c with
  | raw c =>
    simp only [V] at hv
    cases c with
    | slice base l cp =>
      cases base with
      | none => exact none0 _ _ _ hv (.inl rfl) h
      | some _ => exact h.elim
    | _ => exact h.elim
  | fsl cs n cap =>
    simp only [V] at hv
    obtain ⟨b, c, hv, _⟩ := hv
    obtain ⟨h4, h⟩ := h
    exact none0 _ _ _ hv (.inr h4) h
  | sl i off len cap e' =>
    simp only [V] at hv
    obtain ⟨ad, c, hv, hlt, hlc, hcap, hbase⟩ := hv
    simp only [] at h
    by_cases hl0 : len = 0
    · rw [if_pos hl0] at h
      exact none0 _ _ _ hv (.inr hl0) h
    · rw [if_neg hl0] at h
      cases ho : A.get i with
      | none => rw [ho] at h; exact h.elim
      | some o =>
        cases o with
        | map => rw [ho] at h; exact h.elim
        | loop => rw [ho] at h; exact h.elim
        | cells vs =>
          rw [ho] at h
          obtain ⟨⟨rfl, h4⟩, h⟩ := h
          obtain ⟨rfl, _⟩ := hbase (by simp [Heap.live, ho])
          have hcs : Vcs φ A w (repCells z len) ((List.replicate len z).flatten) := by rw [repCells_map]; exact Vcs.raws (rep_raws h3 _)
          obtain ⟨w', g1, g2, g3⟩ := run_storeLive (P := P) off 0 hR ho hcs (by rw [hcs.length]; simp; omega)
          simp only [Nat.add_zero] at g2 g3
          subst hv
          obtain ⟨k, rfl⟩ : ∃ k, len = k + 1 := ⟨len - 1, by omega⟩
          have : (Builtin.clear_ tys ty #[Value.slice (some ⟨φ i, off, none⟩) (k + 1) c]).run P w = .ok (.tuple #[]) w' := by
            simp only [Builtin.clear_, ht0, a0, Sem.run_bind, run_underlying hu0, Result.andThen_ok, h2, h1, zeroCells_list, g1, Sem.run_pure]
          simp only [Sem.run_bind, this, Result.andThen_ok, Sem.run_pure]
          exact ⟨φ, _, _, h, by simp only [V]; exact ⟨[], rfl, by simp [Vl]⟩, g2, g3⟩
  | _ => exact h.elim

theorem run_callFunc {f : FuncId} (h : enters P f = true) (args : Array Value) : (callFunc f args).run P w = .ok (.enter f args) w := by
  unfold enters at h
  cases hf : P.funcs[f]? with
  | none => rw [hf] at h; cases h
  | some fn =>
    rw [hf] at h
    simp only [Bool.and_eq_true, bne_iff_ne, ne_eq] at h
    have h2 : fn.body.isNone = false := by
      cases hb : fn.body with
      | none => rw [hb] at h; simp at h
      | some _ => rfl
    simp only [callFunc, Sem.run_bind, run_program, Result.andThen_ok, hf, beq_iff_eq, h.1, if_false, h2, Bool.false_eq_true, Sem.run_pure]

theorem sound_call {f : FuncId} {args : List Arg} {vs : List Value} (hv : Vl φ A w (args.map (·.ev ts)) vs) (hR : R φ A w) (h : ask P (.call f args) ts A K) :
    Res P φ A w K ((do let d ← Deferred.ofValue (.func (.func f) #[] #[]) vs.toArray; invoke d.target d.args).run P w) := by
  simp only [ask, astep] at h
  simp only [Deferred.ofValue, Sem.run_bind, Sem.run_pure, Result.andThen_ok, invoke, Array.append_empty, Array.empty_append]
  rw [run_callFunc h.1]
  exact h.2 φ w vs hR hv

theorem sound_callv {fv : Arg} {args : List Arg} {g : Value} {vs : List Value} (hg : V φ A w (fv.ev ts) g) (hv : Vl φ A w (args.map (·.ev ts)) vs) (hR : R φ A w) (h : ask P (.callv fv args) ts A K) :
    Res P φ A w K ((do let d ← Deferred.ofValue g vs.toArray; invoke d.target d.args).run P w) := by
  simp only [ask, astep] at h
  generalize fv.ev ts = c at h hg
  cases c with
  | func fn first captured =>
    cases fn with
    | func f =>
      simp only [V] at hg
      obtain ⟨xs, ys, rfl, h1, h2⟩ := hg
      simp only [Deferred.ofValue, Sem.run_bind, Sem.run_pure, Result.andThen_ok, invoke]
      rw [run_callFunc h.1]
      have := h.2 φ w (xs ++ vs ++ ys) hR ((h1.append hv).append h2)
      simpa [Res] using this
    | _ => exact h.elim
  | yield i =>
    simp only [V] at hg
    obtain ⟨r, rfl, h1, h2⟩ := hg
    have h3 := h2 h.1
    subst h3
    obtain ⟨f, tmps, assign, body, h4, h5⟩ := h.2 φ w vs hR hv
    simp only [Deferred.ofValue, Sem.run_bind, Sem.run_pure, Result.andThen_ok, invoke]
    simp only [Array.empty_append, Array.append_empty]
    rw [h4]
    exact h5
  | _ => exact h.elim

end Go.Ab
