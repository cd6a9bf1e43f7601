/- The abstract layer, part 11: append, copy and clear, as they stand in a program. -/
import Derived.Test.YtookmilggbnoiaaGreatAbSound5
set_option linter.unusedSimpArgs false
set_option linter.unusedVariables false
namespace Go.Ab

variable {P : Program} {φ φ' : Emb} {A A' : Heap} {w w' : World} {ts : List AVal} {a : Act} {K : AVal → Heap → Prop}

theorem grow_bound {len n b cap : Nat} (h : ¬ len + n ≤ cap) (hb : (len + n) * b ≤ 2 ^ 46) (hb0 : 0 < b) : ((len + n : Nat) : Int) ≤ IntKind.i64.max ∧ Builtin.nextslicecap (len + n) cap * b ≤ 2 ^ 48 ∧ len + n ≤ 2 ^ 46 := by
  have h1 : len + n ≤ (len + n) * b := Nat.le_mul_of_pos_right _ hb0
  have h2 := nextslicecap_le (n := len + n) (c := cap) (by omega)
  have h3 : Builtin.nextslicecap (len + n) cap * b ≤ 2 * (len + n) * b := Nat.mul_le_mul_right _ h2
  have h4 : 2 * (len + n) * b = 2 * ((len + n) * b) := Nat.mul_assoc _ _ _
  refine ⟨?_, by omega, by omega⟩
  simp only [IntKind.max, IntKind.signed, IntKind.bits, if_true]
  omega

theorem run_append {e : TypeId} {s b : Nat} {z : List Value} (hs : sizeTy P e = some s) (hb : bytesTy P e = some b) (hz : zeroOf P e = some z) (hb0 : 0 < b)
    {tys : Array TypeId} {ty t0 t1 : TypeId} {d1 : TypeDesc} (ht0 : tys[0]? = some t0) (hu0 : P.underlying t0 = some (.slice e)) (ht1 : tys[1]? = some t1) (hu1 : P.underlying t1 = some d1) (hd1 : isSrcDesc d1 = true)
    {n : Nat} {u : Value} {xs : List Value} (hlen : ∀ w2 : World, (Builtin.lenOf u).run P w2 = .ok n w2) (hxs : ∀ w2 : World, w2.heap = w.heap → (Builtin.firstCells s n u).run P w2 = .ok xs.toArray w2) :
    (∀ v base len cap w2, v = Value.slice base len cap → len + n ≤ cap → w2.heap = w.heap → (Builtin.append_ tys ty #[v, u]).run P w2 = (match base with | some ad => (storeCells (ad.add (len * s)) xs).run P w2 | none => .ok () w2).andThen fun _ w3 => .ok (.slice base (len + n) cap) w3) ∧
    (∀ v base len cap old, v = Value.slice base len cap → ¬ len + n ≤ cap → (len + n) * b ≤ 2 ^ 46 → (∀ w2 : World, w2.heap = w.heap → (Builtin.firstCells s len v).run P w2 = .ok (List.toArray old) w2) →
      ∃ c, len + n ≤ c ∧ (Builtin.append_ tys ty #[v, u]).run P w = .ok (.slice (some ⟨w.heap.size, 0, none⟩) (len + n) c) { w with drawn := w.drawn + 1, heap := w.heap.push (.cells (old ++ xs ++ (List.replicate (c - (len + n)) z).flatten).toArray e) }) := by
  obtain ⟨⟨zv, h1, h2⟩, h3⟩ := zeroOf_spec hz
  constructor
  · intro v base len cap w2 hv hfit hw2
    subst hv
    have a0 : (#[Value.slice base len cap, u] : Array Value)[0]? = some (.slice base len cap) := rfl
    have a1 : (#[Value.slice base len cap, u] : Array Value)[1]? = some u := rfl
    cases d1 <;> first
      | (simp [isSrcDesc] at hd1; done)
      | (cases base <;> simp only [Builtin.append_, ht0, ht1, a0, a1, Sem.run_bind, run_underlying hu0, run_underlying hu1, Result.andThen_ok, sizeTy_spec hs, Sem.run_pure, Bool.false_eq_true, if_false, hlen, hfit, if_true, Bool.not_false, hxs w2 hw2])
  · intro v base len cap old hv hfit hbd hold
    subst hv
    have a0 : (#[Value.slice base len cap, u] : Array Value)[0]? = some (.slice base len cap) := rfl
    have a1 : (#[Value.slice base len cap, u] : Array Value)[1]? = some u := rfl
    obtain ⟨i, hi, hib⟩ := bytesTy_spec hb
    obtain ⟨g1, g2, g3⟩ := grow_bound hfit hbd hb0
    have g4 : ¬ ((len + n : Nat) : Int) > IntKind.i64.max := by omega
    have g5 : ¬ Builtin.nextslicecap (len + n) cap * i.bytes > 2 ^ 48 := by rw [hib]; omega
    refine ⟨(Question.appendCap (len + n) cap e).cut (w.tape w.drawn (.appendCap (len + n) cap e)), ?_, ?_⟩
    · simp only [Question.cut]; omega
    · have hz' : ∀ k, Builtin.zeroCells z.toArray k = ((List.replicate k z).flatten).toArray := fun k => Array.ext' (by rw [zeroCells_list])
      cases d1 <;> first
        | (simp [isSrcDesc] at hd1; done)
        | (simp only [Builtin.append_, ht0, ht1, a0, a1, Sem.run_bind, run_underlying hu0, run_underlying hu1, Result.andThen_ok, sizeTy_spec hs, Sem.run_pure, Bool.false_eq_true, if_false, hlen, hfit, if_true, Bool.not_false, hi, g4, g5, false_and, run_choose, Question.forced,
             run_askRoom, hold { w with drawn := w.drawn + 1 } rfl, hxs { w with drawn := w.drawn + 1 } rfl, h2, h1, hz', run_newRow]
           simp)

theorem sound_append {e : TypeId} {s b : Nat} {z : List Value} (hs : sizeTy P e = some s) (hb : bytesTy P e = some b) (hz : zeroOf P e = some z) (hzs : z.length = s) (hs0 : 0 < s) (hb0 : 0 < b)
    {tys : Array TypeId} {ty : TypeId} {d1 : TypeDesc} (ht0 : tys[0]?.bind P.underlying = some (.slice e)) (ht1 : tys[1]?.bind P.underlying = some d1) (hd1 : isSrcDesc d1 = true)
    {x y : Arg} {v u : Value} (hv : V φ A w (x.ev ts) v) (hu : V φ A w (y.ev ts) u) (hR : R φ A w) (h : ask P (.append s b x y) ts A K) :
    Res P φ A w K ((do pure (Next.value (← Builtin.append_ tys ty #[v, u]))).run P w) := by
  simp only [Option.bind_eq_some_iff] at ht0 ht1
  obtain ⟨t0, ht0, hu0⟩ := ht0
  obtain ⟨t1, ht1, hu1⟩ := ht1
  simp only [ask, astep] at h
  obtain ⟨n, cs, h, hcl, hlen, hf⟩ := src_spec (P := P) hu hR h
  obtain ⟨xs, h1, h2⟩ := hf n (Nat.le_refl _)
  rw [List.take_of_length_le (by omega)] at h1
  obtain ⟨g1, g2⟩ := run_append (w := w) hs hb hz hb0 ht0 (ty := ty) hu0 ht1 hu1 hd1 hlen h2
  simp only [Sem.run_bind]
  exact append_core (F := fun v _ w => (Builtin.append_ tys ty #[v, u]).run P w) hzs hs0 hv hR h1 hcl h (fun base len cap w2 he hl hw2 => g1 v base len cap w2 he hl hw2) (fun base len cap old he hl hbd ho => g2 v base len cap old he hl hbd ho)

end Go.Ab
