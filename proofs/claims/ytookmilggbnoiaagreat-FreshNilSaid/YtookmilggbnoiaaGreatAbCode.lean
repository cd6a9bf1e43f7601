/- The abstract layer, part 21: code. -/
import Derived.Test.YtookmilggbnoiaaGreatAbDraw5
import Derived.Scope
import Derived.TacticsIn
set_option linter.unusedSimpArgs false
set_option linter.unusedVariables false
namespace Go.Ab

inductive XStep where
  | op (x : XOper)
  | split (t : Nat)

inductive XCode where
  | skip
  | ops (xs : List XStep)
  | draw (xs : List XOper) (anc : List (List Nat)) (script : List DStep)
  | seq (a b : XCode)
  | cond (c : Arg) (thn els : XCode)
  | block (id : Nat) (body : XCode)
  | loop (body : XCode)
  | rangeFunc (f : Arg) (ps : Array Nat) (asg body : XCode)
  | exit (id : Nat)
  | ret
  | die

variable {P : Program} {φ φ' φ0 : Emb} {A A' A0 : Heap} {w w' w0 : World} {ts : List AVal} {a : Act} {K : AVal → Heap → Prop}

/-! ## From the program -/

def isAllocOp : Op → Bool
  | .alloc _ => true
  | _ => false

def compOper? (P : Program) (ops : Array Oper) (o : Oper) : Option XOper :=
  (compOp P o).bind fun x => bif x.isAlloc && !isAllocOp o.op then none else
    match o.guard with
    | none => some ⟨o.dst, x, none⟩
    | some (j, want) => ((ops[j]?).bind (·.dst)).map fun t => ⟨o.dst, x, some (t, want)⟩

def compOper (P : Program) (ops : Array Oper) (o : Oper) : XOper := (compOper? P ops o).getD ⟨o.dst, .die, none⟩

/-- Ahead of the first operation that looks at a truth value, it is told apart. -/
def withSplits : List XOper → List Nat → List XStep
  | [], _ => []
  | x :: xs, seen =>
    match x.guard with
    | some (t, _) => bif seen.contains t then .op x :: withSplits xs seen else .split t :: .op x :: withSplits xs (t :: seen)
    | none =>
      match x.op with
      | .pick (.t t) _ _ => bif seen.contains t then .op x :: withSplits xs seen else .split t :: .op x :: withSplits xs (t :: seen)
      | _ => .op x :: withSplits xs seen

def ancOf (ops : Array Oper) : Nat → List (List Nat)
  | 0 => []
  | n + 1 =>
    let l := ancOf ops n
    l ++ [(deps ops n).foldl (fun acc e => (e :: l.getD e []).foldl (fun acc j => bif acc.contains j then acc else j :: acc) acc) []]

def insertAt (order : List Nat) (i : Nat) : List Nat := order ++ [i]

/-- One order: what is quiet as early as may be; effects by their number; what is made, right ahead of the next effect. -/
def scriptOf (ops : Array Oper) (xs : List XOper) (anc : List (List Nat)) : Nat → List Nat → List Nat → List DStep
  | 0, _, _ => []
  | fuel + 1, D, seen =>
    let ready := fun i => !D.contains i && (deps ops i).all (D.contains ·)
    let quietNow := (List.range ops.size).find? fun i => ready i && ((xs[i]?).map fun x => x.op.quiet).getD false
    match quietNow with
    | some i =>
      let sp := match xs[i]? with
        | some x => (match x.guard with
          | some (t, _) => [t]
          | none => match x.op with
            | .pick (.t t) _ _ => [t]
            | _ => []).filter fun t => !seen.contains t
        | none => []
      sp.map .split ++ .q i :: scriptOf ops xs anc fuel (i :: D) (sp ++ seen)
    | none =>
      -- the effect that all other effects wait for
      let rest := (List.range ops.size).filter fun i => !D.contains i
      let effs := rest.filter fun i => ((xs[i]?).map fun x => !x.op.quiet && !x.op.isAlloc).getD false
      let als := rest.filter fun i => ((xs[i]?).map fun x => x.op.isAlloc).getD false
      match effs.find? fun e => effs.all fun j => j == e || (anc.getD j []).contains e with
      | some e =>
        let need := als.filter fun i => (anc.getD e []).contains i
        match need with
        | [] =>
          let sp := match (xs[e]?).bind (·.guard) with
            | some (t, _) => bif seen.contains t then [] else [t]
            | none => []
          sp.map .split ++ .eff e :: scriptOf ops xs anc fuel (e :: D) (sp ++ seen)
        | i :: _ => .al i :: scriptOf ops xs anc fuel (i :: D) seen
      | none =>
        match als with
        | i :: _ => .al i :: scriptOf ops xs anc fuel (i :: D) seen
        | [] => []

def compRegion (P : Program) (ops : Array Oper) (draw : Bool) : XCode :=
  let xs := ops.toList.map (compOper P ops)
  bif draw then
    let anc := ancOf ops ops.size
    let script := scriptOf ops xs anc ops.size [] []
    bif regionOk ops xs anc script && P.follows .mixedOrders then .draw xs anc script else .die
  else .ops (withSplits xs [])

def comp (P : Program) : Code → XCode
  | .skip => .skip
  | .region _ ops draw => compRegion P ops draw
  | .seq a b => .seq (comp P a) (comp P b)
  | .cond c x y =>
    match compArg c with
    | some c => .cond c (comp P x) (comp P y)
    | none => .die
  | .block id c => .block id (comp P c)
  | .loop c => .loop (comp P c)
  | .exit id => .exit id
  | .scope c => comp P c
  | .label _ => .skip
  | .ret => .ret
  | .rangeFunc f ps x y =>
    match compArg f with
    | some f => .rangeFunc f ps (comp P x) (comp P y)
    | none => .die
  | _ => .die

/-- Without a loop over a function. -/
def XCode.flat : XCode → Bool
  | .seq a b => a.flat && b.flat
  | .cond _ x y => x.flat && y.flat
  | .block _ c => c.flat
  | .loop c => c.flat
  | .rangeFunc .. => false
  | _ => true

/-! ## What it asks -/

structure Posts where
  n : List AVal → Heap → Prop
  r : List AVal → Heap → Prop
  x : Nat → List AVal → Heap → Prop

/-- No more is ours, and no more is held for frozen than what was ours. -/
def Less (φ : Emb) (A : Heap) (φ' : Emb) (A' : Heap) : Prop := (∀ b, Mg φ' A' b → Mg φ A b) ∧ (∀ b, φ'.frz b → φ.frz b ∨ Mg φ A b)

/-- What values and heap may be taken for, in a body that began at 'A0'. -/
def Wk (A0 : Heap) (vs : List AVal) (A : Heap) (G : List AVal → Heap → Prop) : Prop :=
  ∀ (φ0 : Emb) (w0 : World) (φ : Emb) (w : World) (us : List Value), R φ0 A0 w0 → Ext φ0 A0 w0 φ A w → R φ A w → Vl φ A w vs us →
    ∃ (φ' : Emb) (vs' : List AVal) (A' : Heap), G vs' A' ∧ Ext φ0 A0 w0 φ' A' w ∧ R φ' A' w ∧ Vl φ' A' w vs' us ∧ Less φ A φ' A'

theorem Wk.refl {vs : List AVal} {G : List AVal → Heap → Prop} (h : G vs A) : Wk A0 vs A G := fun _ _ φ _ _ _ h1 h2 h3 => ⟨φ, vs, A, h, h1, h2, h3, fun _ h => h, fun _ h => .inl h⟩
theorem Wk.bind {vs : List AVal} {G G' : List AVal → Heap → Prop} (h : Wk A0 vs A G) (hg : ∀ vs A, G vs A → Wk A0 vs A G') : Wk A0 vs A G' := by
  intro φ0 w0 φ w us h0 h1 h2 h3
  obtain ⟨φ', vs', A', g0, g1, g2, g3, g4, g5⟩ := h φ0 w0 φ w us h0 h1 h2 h3
  obtain ⟨φ'', vs'', A'', k0, k1, k2, k3, k4, k5⟩ := hg vs' A' g0 φ0 w0 φ' w us h0 g1 g2 g3
  refine ⟨φ'', vs'', A'', k0, k1, k2, k3, fun b hb => g4 b (k4 b hb), fun b hb => ?_⟩
  rcases k5 b hb with h | h
  · exact g5 b h
  · exact .inr (g4 b h)
theorem Wk.mono {vs : List AVal} {G G' : List AVal → Heap → Prop} (h : Wk A0 vs A G) (hg : ∀ vs A, G vs A → G' vs A) : Wk A0 vs A G' := h.bind fun vs A h => .refl (hg vs A h)

def runs (P : Program) : List XStep → List AVal → Heap → (List AVal → Heap → Prop) → Prop
  | [], ts, A, K => K ts A
  | .op x :: xs, ts, A, K => runX P x ts A fun v A' => runs P xs (put ts x.dst v) A' K
  | .split t :: xs, ts, A, K =>
    match ts.getD t AVal.undef with
    | .raw (.bool b) => (b = true → runs P xs (ts.set t (.raw (.bool true))) A K) ∧ (b = false → runs P xs (ts.set t (.raw (.bool false))) A K)
    | _ => runs P xs ts A K

/-- What is not named is forgotten. -/
def keepFrom (live : List Nat) : Nat → List AVal → List AVal
  | _, [] => []
  | i, t :: ts => (bif live.contains i then t else .any) :: keepFrom live (i + 1) ts

def keep (live : List Nat) (ts : List AVal) : List AVal := keepFrom live 0 ts

def awp (P : Program) (A0 : Heap) : XCode → Posts → List AVal → Heap → Prop
  | .skip, E, ts, A => E.n ts A
  | .ops xs, E, ts, A => runs P xs ts A E.n
  | .draw xs anc script, E, ts, A => Dr P xs anc E.n script [] ts A
  | .seq a b, E, ts, A => awp P A0 a { E with n := awp P A0 b E } ts A
  | .cond c x y, E, ts, A =>
    match c.ev ts with
    | .raw (.bool b) => (b = true → awp P A0 x E ts A) ∧ (b = false → awp P A0 y E ts A)
    | _ => False
  | .block id c, E, ts, A => awp P A0 c { E with x := fun id' => bif id' == id then E.n else E.x id' } ts A
  | .loop c, E, ts, A => ∀ X : List AVal → Heap → Prop, (∀ ts A, awp P A0 c { E with n := X } ts A → X ts A) → (∀ live ts A, Wk A0 (keep live ts) A X → X ts A) → X ts A
  | .rangeFunc f ps asg body, E, ts, A =>
    match f.ev ts with
    | .func (.func gf) [] lb => ∀ (a c : Code), comp P a = asg → comp P c = body →
        J P gf (.yield A.top :: lb) (A.push (.loop false ts ps a c)) fun _ A' => (∃ ts', A'.get A.top = some (.loop false ts' ps a c)) ∧ E.n ts (A'.del A.top)
    | _ => False
  | .exit id, E, ts, A => E.x id ts A
  | .ret, E, ts, A => E.r ts A
  | .die, _, _, _ => False

/-! ## It is so -/

def Pq (φ0 : Emb) (A0 : Heap) (w0 : World) (E : Posts) : Exit → Act → World → Prop
  | .normal, a, w => Past φ0 A0 w0 E.n a w
  | .ret, a, w => Past φ0 A0 w0 E.r a w
  | .exit id, a, w => Past φ0 A0 w0 (E.x id) a w
  | _, _, _ => False

def abool : AVal → Option Bool
  | .raw (.bool b) => some b
  | _ => none

theorem V_bool {v : AVal} {u : Value} (hk : v.known) (hv : V φ A w v u) : (match u with | .bool b => some b | _ => none) = abool v := by
  cases v with
  | raw x => simp only [V] at hv; subst hv; cases u <;> rfl
  | any => exact hk.elim
  | ptr i off => simp only [V] at hv; obtain ⟨a, rfl, _⟩ := hv; rfl
  | fptr cs => simp only [V] at hv; obtain ⟨b, off, rfl, _⟩ := hv; rfl
  | sl i off len cap esz => simp only [V] at hv; obtain ⟨a, c, rfl, _⟩ := hv; rfl
  | fsl ds len cap => simp only [V] at hv; obtain ⟨a, c, rfl, _⟩ := hv; rfl
  | map i => simp only [V] at hv; obtain ⟨r, rfl, _⟩ := hv; rfl
  | agg cs => simp only [V] at hv; obtain ⟨xs, rfl, _⟩ := hv; rfl
  | tup cs => simp only [V] at hv; obtain ⟨xs, rfl, _⟩ := hv; rfl
  | func fn f c => simp only [V] at hv; obtain ⟨xs, ys, rfl, _⟩ := hv; rfl
  | yield i => simp only [V] at hv; obtain ⟨r, rfl, _⟩ := hv; rfl

theorem Vl.getE : ∀ {cs : List AVal} {xs : List Value}, Vl φ A w cs xs → ∀ (i : Nat), (cs[i]? = none ∧ xs[i]? = none) ∨ ∃ c x, cs[i]? = some c ∧ xs[i]? = some x ∧ V φ A w c x
  | [], [], _, i => .inl (by simp)
  | c :: cs, x :: xs, h, 0 => by simp only [Vl] at h; exact .inr ⟨c, x, rfl, rfl, h.1⟩
  | c :: cs, x :: xs, h, i + 1 => by simp only [Vl] at h; simpa using Vl.getE h.2 i
  | [], _ :: _, h, _ => by simp only [Vl] at h
  | _ :: _, [], h, _ => by simp only [Vl] at h

theorem compOper_spec (ops : Array Oper) (o : Oper) : compOper P ops o = ⟨o.dst, .die, none⟩ ∨ ∃ x, compOp P o = some x ∧ (x.isAlloc = true → isAllocOp o.op = true) ∧
    ((o.guard = none ∧ compOper P ops o = ⟨o.dst, x, none⟩) ∨ ∃ j want t, o.guard = some (j, want) ∧ (ops[j]?).bind (·.dst) = some t ∧ compOper P ops o = ⟨o.dst, x, some (t, want)⟩) := by
  unfold compOper compOper?
  cases hx : compOp P o with
  | none => exact .inl rfl
  | some x =>
    simp only [Option.bind_some]
    cases hb : x.isAlloc && !isAllocOp o.op with
    | true => exact .inl rfl
    | false =>
      have ha : x.isAlloc = true → isAllocOp o.op = true := fun h => by rw [h] at hb; simpa using hb
      simp only [cond_false]
      cases hg : o.guard with
      | none => exact .inr ⟨x, rfl, ha, .inl ⟨rfl, rfl⟩⟩
      | some g =>
        obtain ⟨j, want⟩ := g
        cases hd : (ops[j]?).bind (·.dst) with
        | none => left; simp only [hd, Option.map_none, Option.getD_none]
        | some t => exact .inr ⟨x, rfl, ha, .inr ⟨j, want, t, rfl, hd, by simp only [hd, Option.map_some, Option.getD_some]⟩⟩

theorem compOper_ok (ops : Array Oper) (o : Oper) : OpOk P ops o (compOper P ops o) := by
  rcases compOper_spec (P := P) ops o with h | ⟨x, hx, _, ⟨hg, h⟩ | ⟨j, want, t, hg, hd, h⟩⟩
  · rw [h]
    exact ⟨rfl, fun φ A w ts a K hR hV h => by simp [runX, wants, ask, astep] at h⟩
  · rw [h]
    refine ⟨rfl, fun φ A w ts a K hR hV h => ?_⟩
    simp only [runX, wants, cond_true] at h
    exact .inl ⟨by simp [Region.wanted, hg], op_sound hx hV hR h.2⟩
  · rw [h]
    refine ⟨rfl, fun φ A w ts a K hR hV h => ?_⟩
    obtain ⟨h0, h⟩ := h
    simp only [gd] at h0
    have hy : yielded ops a.tmps j = (match a.tmps[t]? with | some (.bool b) => some b | _ => none) := by
      simp only [yielded, hd, Option.bind_some]
      split <;> simp_all
    have he : yielded ops a.tmps j = abool (ts.getD t AVal.undef) := by
      rw [hy]
      rcases hV.getE t with ⟨h1, h2⟩ | ⟨c, x, h1, h2, h3⟩
      · simp only [Array.getElem?_toList] at h2
        simp [List.getD, h1, h2, AVal.undef, Go.undef, abool]
      · simp only [Array.getElem?_toList] at h2
        simp only [List.getD, h1, Option.getD_some] at h0 ⊢
        rw [h2]
        refine Eq.trans ?_ (V_bool h0 h3)
        cases x <;> rfl
    have hw : Region.wanted o (yielded ops a.tmps) = wants (some (t, want)) ts := by
      simp only [Region.wanted, hg, he, wants]
      generalize ts.getD t AVal.undef = v
      cases v with
      | raw v => cases v <;> rfl
      | _ => rfl
    cases hb : wants (some (t, want)) ts with
    | true =>
      rw [hb] at h
      exact .inl ⟨hw.trans hb, op_sound hx hV hR h⟩
    | false =>
      rw [hb] at h
      exact .inr ⟨hw.trans hb, h⟩

theorem compOper_al (ops : Array Oper) (o : Oper) : AlOk P o (compOper P ops o) := by
  intro zs hz hg0
  rcases compOper_spec (P := P) ops o with h | ⟨x, hx, ha, ⟨hg, h⟩ | ⟨j, want, t, hg, hd, h⟩⟩
  · rw [h] at hz; cases hz
  · rw [h] at hz ⊢
    simp only [] at hz
    subst hz
    have ha := ha rfl
    obtain ⟨dst, op, ty, pos, after, guard⟩ := o
    cases op <;> simp only [isAllocOp, reduceCtorEq] at ha
    rename_i t _
    simp only [compOp, Option.map_eq_some_iff, XOp.alloc.injEq] at hx
    obtain ⟨z, h1, rfl⟩ := hx
    obtain ⟨⟨v, h2, h3⟩, h4⟩ := zeroOf_spec h1
    refine ⟨rfl, hg, h4, t, fun a w => ?_⟩
    show ((do pure (Next.value (← Instr.alloc t true (.tuple #[])))).run P w) = _
    simp only [Instr.alloc, Sem.run_bind, h3, Result.andThen_ok, run_newVar, Sem.run_pure, h2]
  · rw [h] at hg0; cases hg0

/-! ## Regions, one after another -/

theorem compRegion_ops (ops : Array Oper) (i : Nat) (o : Oper) (x : XOper) (ho : ops[i]? = some o) (hx : (ops.toList.map (compOper P ops))[i]? = some x) : OpOk P ops o x ∧ AlOk P o x := by
  rw [List.getElem?_map, Array.getElem?_toList, ho] at hx
  simp only [Option.map_some, Option.some.injEq] at hx
  subst hx
  exact ⟨compOper_ok ops o, compOper_al ops o⟩

theorem runs_split {xs : List XStep} {t : Nat} {K : List AVal → Heap → Prop} (h : runs P (.split t :: xs) ts A K) : runs P xs ts A K := by
  simp only [runs] at h
  split at h
  · rename_i b hb
    have hset : ts.set t (.raw (.bool b)) = ts := by
      by_cases hl : t < ts.length
      · have : ts[t] = .raw (.bool b) := by simpa [List.getD, hl] using hb
        rw [← this]; exact List.set_getElem_self hl
      · exact List.set_eq_of_length_le (Nat.le_of_not_lt hl)
    cases b with
    | true => have := h.1 rfl; rwa [hset] at this
    | false => have := h.2 rfl; rwa [hset] at this
  · exact h

theorem withSplits_cons (x : XOper) (xs : List XOper) (seen : List Nat) : ∃ seen', ∀ (ts : List AVal) (A : Heap) (K : List AVal → Heap → Prop), runs P (withSplits (x :: xs) seen) ts A K → runX P x ts A fun v A' => runs P (withSplits xs seen') (put ts x.dst v) A' K := by
  have key : ∃ seen', withSplits (x :: xs) seen = .op x :: withSplits xs seen' ∨ ∃ t, withSplits (x :: xs) seen = .split t :: .op x :: withSplits xs seen' := by
    simp only [withSplits]
    split
    · rename_i t _ _
      cases seen.contains t with
      | true => exact ⟨seen, .inl rfl⟩
      | false => exact ⟨t :: seen, .inr ⟨t, rfl⟩⟩
    · split
      · rename_i t _ _ _
        cases seen.contains t with
        | true => exact ⟨seen, .inl rfl⟩
        | false => exact ⟨t :: seen, .inr ⟨t, rfl⟩⟩
      · exact ⟨seen, .inl rfl⟩
  obtain ⟨seen', h | ⟨t, h⟩⟩ := key
  · exact ⟨seen', fun ts A K hr => by rw [h] at hr; exact hr⟩
  · exact ⟨seen', fun ts A K hr => by rw [h] at hr; exact runs_split hr⟩

theorem runs_sound {ro : Option Nat} {n : Nat} {ops : Array Oper} {Q : Exit → Act → World → Prop} {K : List AVal → Heap → Prop} (hQ : ∀ a w, Past φ0 A0 w0 K a w → Q .normal a w) :
    ∀ (suf : List Oper) (i : Nat) (seen : List Nat) (ts : List AVal) (A : Heap) (φ : Emb) (a : Act) (w : World), ops.toList.drop i = suf → R φ A w → Ext φ0 A0 w0 φ A w → Vl φ A w ts a.tmps.toList → DefOk w0.heap.size φ A w a.defers →
      runs P (withSplits (suf.map (compOper P ops)) seen) ts A K → wpOpsIn (fenceR ro) n P ops Q (List.range' i suf.length) a w
  | [], i, seen, ts, A, φ, a, w, hd, hR, hE, hV, hdf, h => hQ _ _ ⟨φ, ts, A, h, hR, hE, hV, hdf⟩
  | o :: suf, i, seen, ts, A, φ, a, w, hd, hR, hE, hV, hdf, h => by
    have ho : ops[i]? = some o := by
      have := congrArg List.head? hd
      simpa [List.head?_drop, Array.getElem?_toList] using this
    have hd' : ops.toList.drop (i + 1) = suf := by
      have := congrArg List.tail hd
      simpa [List.tail_drop] using this
    obtain ⟨seen', hs⟩ := withSplits_cons (P := P) (compOper P ops o) (suf.map (compOper P ops)) seen
    rw [List.length_cons, List.range'_succ, wpOpsIn_cons]
    refine (compOper_ok ops o).wpOp ho hR hV (hs _ _ _ h) ?_
    rintro u w' ⟨φ', v, A', hk, hv, hR', hE'⟩
    refine runs_sound hQ suf (i + 1) seen' _ A' φ' _ w' hd' hR' (hE.trans hE') ?_ (by rw [put_defers o.dst u rfl]; exact hdf.ext hE') hk
    rw [← (compOper_ok (P := P) ops o).1]
    exact put_Vl (hV.ext hE') hv

theorem keepFrom_V (live : List Nat) : ∀ {ts : List AVal} {us : List Value} (i : Nat), Vl φ A w ts us → Vl φ A w (keepFrom live i ts) us
  | [], [], _, _ => by simp only [keepFrom, Vl]
  | t :: ts, u :: us, i, h => by
    simp only [Vl] at h
    simp only [keepFrom, Vl]
    refine ⟨?_, keepFrom_V live (i + 1) h.2⟩
    cases live.contains i with
    | true => exact h.1
    | false => simp only [cond_false, V]
  | [], _ :: _, _, h => by simp only [Vl] at h
  | _ :: _, [], _, h => by simp only [Vl] at h

theorem keep_V {ts : List AVal} {us : List Value} (live : List Nat) (h : Vl φ A w ts us) : Vl φ A w (keep live ts) us := keepFrom_V live 0 h

/-- A loop, its head behind it. -/
def LoopW (F : Fence) (m : Nat) (P : Program) (c : Code) (Q : Exit → Act → World → Prop) (a : Act) (w : World) : Prop :=
  ∀ (b : Frame) (k : List Item) (cs : List Frame), b.roundOf = F.round → F.fn b.fn → F.room (cs.length + 1 + m) →
    ∃ e a' w', Q e a' w' ∧ ArrivesIn (Machine.fenced P F) P (lone (b.atR a (.code c :: .inLoop c :: k)) cs w) b k cs e a' w'

theorem LoopW.step {F : Fence} {m : Nat} {c : Code} {Q : Exit → Act → World → Prop} (h : c.wpIn F m P (Exit.then (LoopW F m P c Q) Q) a w) : LoopW F m P c Q a w := by
  intro b k cs hro hb hr
  obtain ⟨e, a₁, w₁, hq, harr⟩ := h b (.inLoop c :: k) cs hro hb hr
  cases e with
  | normal =>
    obtain ⟨e₂, a₂, w₂, hq₂, harr₂⟩ := hq b k cs hro hb hr
    exact ⟨e₂, a₂, w₂, hq₂, .of_steps (StepsIn.trans harr (.one (fenced_calm hb hr rfl) stepR_inLoop)) harr₂⟩
  | exit id => exact ⟨_, a₁, w₁, hq, .pass (x := .inLoop c) rfl (fun _ _ => .inl (by simp)) harr⟩
  | goto l => exact ⟨_, a₁, w₁, hq, .pass (x := .inLoop c) rfl (fun _ _ => .inl (by simp)) harr⟩
  | ret => exact ⟨_, a₁, w₁, hq, .pass (x := .inLoop c) rfl (fun _ _ => .inl (by simp)) harr⟩
  | panic ch => exact ⟨_, a₁, w₁, hq, .pass (x := .inLoop c) rfl (fun _ _ => .inl (by simp)) harr⟩
  | outgrown => exact ⟨_, a₁, w₁, hq, .pass (x := .inLoop c) rfl (fun _ _ => .inl (by simp)) harr⟩

theorem LoopW.wpIn {F : Fence} {m : Nat} {c : Code} {Q : Exit → Act → World → Prop} (h : LoopW F m P c Q a w) : (Code.loop c).wpIn F m P Q a w := by
  intro b k cs hro hb hr
  obtain ⟨e, a', w', hq, harr⟩ := h b k cs hro hb hr
  exact ⟨e, a', w', hq, .of_steps (.one (fenced_calm hb hr rfl) stepR_loop) harr⟩

theorem stepR_scope {b : Frame} {k : List Item} {cs : List Frame} {c : Code} : step P (lone (b.atR a (.code (.scope c) :: k)) cs w) = .next (lone (b.atR a (.code c :: .inScope c :: k)) cs w) :=
  step_lone_go (by simp [stepG, stepG.exec, Frame.atR])
theorem stepR_inScope {b : Frame} {k : List Item} {cs : List Frame} {c : Code} : step P (lone (b.atR a (.inScope c :: k)) cs w) = .next (lone (b.atR a k) cs w) :=
  step_lone_go (by simp [stepG, stepG.exec, Frame.atR])

theorem wpIn_scope_straight {F : Fence} {n : Nat} {Q : Exit → Act → World → Prop} {c : Code} (h : c.wpIn F n P (Exit.noGoto Q) a w) : (Code.scope c).wpIn F n P Q a w := by
  intro b k cs hro hb hr
  have h0 : (lone (b.atR a (.code (.scope c) :: k)) cs w).fenced P F := fenced_calm hb hr rfl
  obtain ⟨e, a₁, w₁, hq, harr⟩ := h b (.inScope c :: k) cs hro hb hr
  cases e with
  | normal => exact ⟨.normal, a₁, w₁, hq, .head h0 stepR_scope (StepsIn.trans harr (.one (fenced_calm hb hr rfl) stepR_inScope))⟩
  | exit id =>
    have hx : exitTo id (.inScope c :: k) = exitTo id k := by simp [exitTo]
    exact ⟨.exit id, a₁, w₁, hq, fun k' hk => .head h0 stepR_scope (harr.1 k' (by rw [hx]; exact hk)),
      fun hr' hk => let ⟨k₁, h1, h2⟩ := harr.2 hr' (by rw [hx]; exact hk); ⟨k₁, h1, .head h0 stepR_scope h2⟩⟩
  | goto l => exact hq.elim
  | ret => exact ⟨_, a₁, w₁, hq, .of_steps (.one h0 stepR_scope) harr⟩
  | panic ch => exact ⟨_, a₁, w₁, hq, .of_steps (.one h0 stepR_scope) harr⟩
  | outgrown => exact ⟨_, a₁, w₁, hq, .of_steps (.one h0 stepR_scope) harr⟩

/-- A block that is not ours, and not held for frozen, may turn (where it is no cells). -/
theorem R.turn (hR : R φ A w) {D : Nat} {o : Obj} (h3 : w.shape? D = none) (h4 : ¬ Mg φ A D) (h5 : ¬ φ.frz D) (ho : o.isCells = false) : Ext0 φ A w φ A (w.putObj D o) ∧ R φ A (w.putObj D o) := by
  have hE : Ext0 φ A w φ A (w.putObj D o) := by
    refine ⟨Nat.le_refl _, fun _ _ h => ⟨h, rfl⟩, fun i hi hl => ?_, by rw [World.putObj_size]; exact Nat.le_refl _, fun b hb => World.putObj_heap_other fun e => h5 (e ▸ hb.2), fun b hb => ?_, fun _ h => h⟩
    · have := hR.lt i hl; omega
    · by_cases hbD : b = D
      · subst hbD
        rw [h3]
        simp only [World.shape?, World.putObj_heap_same hb]
        cases o <;> first | rfl | (simp [Obj.isCells] at ho)
      · simp only [World.shape?, World.putObj_heap_other hbD]
  refine ⟨hE, ⟨hR.lt, fun i o' hi => ?_, hR.inj, hR.sep, fun b hb => by rw [World.putObj_size]; exact hR.flt b hb⟩⟩
  obtain ⟨ob, g1, g2⟩ := hR.rel i o' hi
  exact ⟨ob, by rw [World.putObj_heap_other fun e => h4 ⟨i, by simp [Heap.live, hi], e⟩]; exact g1, g2.ext0 hE⟩

theorem Ext.turn {D : Nat} {o : Obj} (hE : Ext φ0 A0 w0 φ A w) (hD : w0.heap.size ≤ D) : Ext φ0 A0 w0 φ A (w.putObj D o) :=
  ⟨hE.top, hE.old, hE.new, by rw [World.putObj_size]; exact hE.size, fun b hb hm => by rw [World.putObj_heap_other (by omega)]; exact hE.keep b hb hm,
    fun b hb => by
      have := hE.shape b hb
      simp only [World.shape?] at this ⊢
      rw [World.putObj_heap_other (by omega)]; exact this, hE.frz, hE.fnew, hE.io⟩

theorem DefOk.turn {B D : Nat} {o : Obj} {ds : List Deferred} (h : DefOk B φ A w ds) (hD : ∀ d ∈ ds, d ≠ { target := .collected D, args := #[] }) : DefOk B φ A (w.putObj D o) ds := by
  refine ⟨fun d hd => ?_, h.2⟩
  obtain ⟨E, h1, h2, h3, h4, h5⟩ := h.1 d hd
  exact ⟨E, h1, h2, by rw [World.putObj_heap_other (fun e => hD d hd (by rw [h1, e]))]; exact h3, h4, h5⟩

theorem DefOk.less {B : Nat} {ds : List Deferred} (h : DefOk B φ A w ds) (hl : Less φ A φ' A') : DefOk B φ' A' w ds := by
  refine ⟨fun d hd => ?_, h.2⟩
  obtain ⟨D, h1, h2, h3, h4, h5⟩ := h.1 d hd
  exact ⟨D, h1, h2, h3, fun hm => h4 (hl.1 D hm), fun hf => (hl.2 D hf).elim h5 h4⟩

/-- A body does what is asked of it. -/
theorem awp_sound (hR0 : R φ0 A0 w0) {ro : Option Nat} {m : Nat} : ∀ (c : Code) (E : Posts) (ts : List AVal) (A : Heap) (φ : Emb) (a : Act) (w : World), (ro = none ∨ (comp P c).flat = true) → R φ A w → Ext φ0 A0 w0 φ A w → Vl φ A w ts a.tmps.toList → DefOk w0.heap.size φ A w a.defers →
    awp P A0 (comp P c) E ts A → c.wpIn (fenceR ro) m P (Pq φ0 A0 w0 E) a w := by
  intro c
  induction c with
  | skip => intro E ts A φ a w hro hR hE hV hd h; exact wpIn_skip ⟨φ, ts, A, h, hR, hE, hV, hd⟩
  | label l => intro E ts A φ a w hro hR hE hV hd h; exact wpIn_label ⟨φ, ts, A, h, hR, hE, hV, hd⟩
  | exit id => intro E ts A φ a w hro hR hE hV hd h; exact wpIn_exit ⟨φ, ts, A, h, hR, hE, hV, hd⟩
  | ret => intro E ts A φ a w hro hR hE hV hd h; exact wpIn_ret ⟨φ, ts, A, h, hR, hE, hV, hd⟩
  | goto l => intro E ts A φ a w hro hR hE hV hd h; exact h.elim
  | refuse s => intro E ts A φ a w hro hR hE hV hd h; exact h.elim
  | rangeFunc f ps x y =>
    intro E ts A φ a w hro hR hE hV hd h
    simp only [comp] at h hro
    cases hc : compArg f with
    | none => rw [hc] at h; exact h.elim
    | some f' =>
      rw [hc] at h hro
      have hro : ro = none := hro.resolve_right (by simp [XCode.flat])
      subst hro
      simp only [awp] at h
      have hf := compArg_V hV hc
      split at h
      · rename_i gf lb hfe
        rw [hfe] at hf
        simp only [V] at hf
        obtain ⟨xs, lbv, hfv, h1, h2⟩ := hf
        have hx : xs = [] := by
          cases xs with
          | nil => rfl
          | cons => simp only [Vl] at h1
        subst hx
        have hJ := h x y rfl rfl
        refine wpIn_rangeFunc fun fn _ => ?_
        obtain ⟨L, hL⟩ : ∃ L : Loop, L = { state := .ready, pending := none, fn, tmps := a.tmps, params := ps, assign := x, body := y, defers := w.heap.size } := ⟨_, rfl⟩
        obtain ⟨g1, g2⟩ := hR.garbage (w' := w.alloc (.deferred (some []))) rfl ⟨rfl, rfl, rfl⟩
        have hV1 := hV.ext g2
        have hrel : Rel φ A (w.alloc (.deferred (some []))) (.loop false ts ps x y) (.loop L) := ⟨fn, a.tmps, w.heap.size, by rw [hL]; rfl, hV1⟩
        have hsz : (w.alloc (.deferred (some []))).heap.size = w.heap.size + 1 := by simp
        obtain ⟨g3, g4⟩ := g1.push (w' := (w.alloc (.deferred (some []))).alloc (.loop L)) rfl hrel ⟨rfl, rfl, rfl⟩
        rw [hsz] at g3 g4
        have hg := g2.trans g4
        refine ⟨w.heap.size + 1, [{ target := .collected w.heap.size, args := #[] }], (w.alloc (.deferred (some []))).alloc (.loop L), { target := .fn (.func gf) lbv.toArray, args := #[.func (.yield (w.heap.size + 1)) #[] #[]] },
          (w.alloc (.deferred (some []))).alloc (.loop L), gf, #[.func (.yield (w.heap.size + 1)) #[] #[]] ++ lbv.toArray, (w.alloc (.deferred (some []))).alloc (.loop L), ?_, ?_, fun _ _ => fenceR_fn none _, ?_, fenceR_depth none, ?_⟩
        · rw [hL]; exact run_enterLoop_outer _ _ _ _ _
        · simp only [resolve, hfv]
          simp [go_sem]
        · simp [invoke, go_sem, run_callFunc hJ.1]
        · have hargs : Vl (φ.put A.top (w.heap.size + 1)) (A.push (.loop false ts ps x y)) ((w.alloc (.deferred (some []))).alloc (.loop L)) (.yield A.top :: lb) (.func (.yield (w.heap.size + 1)) #[] #[] :: lbv) := by
            simp only [Vl, V]
            exact ⟨⟨_, rfl, by rw [Heap.top_push]; omega, fun _ => by rw [Emb.put_eq]⟩, h2.ext hg⟩
          have hcall := hJ.2 _ _ _ g3 hargs
          rw [show (.func (.yield (w.heap.size + 1)) #[] #[] :: lbv).toArray = #[Value.func (.yield (w.heap.size + 1)) #[] #[]] ++ lbv.toArray by simp] at hcall
          refine calls_fenceR (hcall.mono ?_)
          rintro e w2 ⟨v, rfl, φ2, v', A2, ⟨⟨ts', hl2⟩, hk⟩, _, hR2, hE2⟩
          obtain ⟨ob, q1, fn2, tmps2, dfr2, hob, q2⟩ := hR2.rel _ _ hl2
          subst hob
          have hlive2 : A2.live A.top := by simp [Heap.live, hl2]
          have hφ2 : φ2 A.top = w.heap.size + 1 := by
            rw [(hE2.old A.top (by rw [Heap.top_push]; omega) hlive2).2, Emb.put_eq]
          rw [hφ2] at q1
          have hend := run_endLoop (P := P) q1 (by simp)
          refine ⟨none, _, hend, ?_⟩
          simp only []
          have hEa := hE.trans (hg.trans hE2)
          have hsub := Heap.Sub.del A2 A.top
          have hR3 := hR2.sub hsub
          have hE3 := Ext.sub hR2 hsub
          have hnm : ¬ Mg φ2 (A2.del A.top) (w.heap.size + 1) := by
            rintro ⟨j, hj, hje⟩
            have hjl := hsub.live hj
            have := hR2.inj j A.top hjl hlive2 (by rw [hje, hφ2])
            subst this
            exact hj (Heap.get_del _ _)
          have hnf : ¬ φ2.frz (w.heap.size + 1) := by rw [← hφ2]; exact hR2.sep _ hlive2
          have hsh : w2.shape? (w.heap.size + 1) = none := by simp only [World.shape?, q1]
          obtain ⟨k1, k2⟩ := hR3.turn (o := .loop { state := .exhausted, pending := none, fn := fn2, tmps := tmps2, params := ps, assign := x, body := y, defers := dfr2 }) hsh hnm hnf rfl
          refine ⟨φ2, ts, A2.del A.top, hk, k2, (hEa.trans hE3).turn (by have := hE.size; omega), ((hV.ext (hg.trans (hE2.trans hE3))).ext0 k1), ?_⟩
          have hmark : DefOk w0.heap.size (φ.put A.top (w.heap.size + 1)) (A.push (.loop false ts ps x y)) ((w.alloc (.deferred (some []))).alloc (.loop L)) ({ target := .collected w.heap.size, args := #[] } :: a.defers) := by
            have h0 := hd.ext hg
            refine ⟨fun d hdd => ?_, ?_⟩
            · rcases List.mem_cons.1 hdd with rfl | hdd
              · refine ⟨w.heap.size, rfl, hE.size, ?_, ?_, ?_⟩
                · exact (Go.RowKit.Below.heap_alloc _ _ _ (by simp)).trans (World.alloc_heap_new w _)
                · rintro ⟨j, hj, hje⟩
                  unfold Heap.live at hj
                  rw [Heap.get_push_if] at hj
                  by_cases hjt : j = A.top
                  · subst hjt; rw [Emb.put_eq] at hje; omega
                  · rw [if_neg hjt] at hj
                    rw [Emb.put_ne _ _ hjt] at hje
                    have := hR.block_lt hj
                    omega
                · intro hf
                  have := hR.flt _ hf
                  omega
              · exact h0.1 d hdd
            · refine List.nodup_cons.2 ⟨fun hmem => ?_, hd.2⟩
              obtain ⟨D, e1, _, e3, _⟩ := hd.1 _ hmem
              simp only [Deferred.mk.injEq, Target.collected.injEq, and_true] at e1
              subst e1
              simp at e3
          have := (hmark.ext (hE2.trans hE3)).turn (D := w.heap.size + 1) (o := .loop { state := .exhausted, pending := none, fn := fn2, tmps := tmps2, params := ps, assign := x, body := y, defers := dfr2 }) (by
            intro d hdd he
            subst he
            obtain ⟨D, e1, _, e3, e4, _⟩ := hmark.1 _ hdd
            simp only [Deferred.mk.injEq, Target.collected.injEq, and_true] at e1
            subst e1
            exact e4 ⟨A.top, by simp [Heap.live, Heap.get_push], by rw [Emb.put_eq]⟩)
          exact this
      · exact h.elim
  | seq x y ihx ihy =>
    intro E ts A φ a w hro hR hE hV hd h
    simp only [comp, XCode.flat, Bool.and_eq_true] at hro
    refine wpIn_seq (wpIn_mono (ihx _ ts A φ a w (hro.imp id And.left) hR hE hV hd h) fun e a' w' he => ?_)
    cases e with
    | normal =>
      obtain ⟨φ', ts', A', g1, g2, g3, g4, g5⟩ := he
      exact ihy E ts' A' φ' a' w' (hro.imp id And.right) g2 g3 g4 g5 g1
    | _ => exact he
  | cond c x y ihx ihy =>
    intro E ts A φ a w hro hR hE hV hd h
    simp only [comp] at h hro
    cases hc : compArg c with
    | none => rw [hc] at h; exact h.elim
    | some c' =>
      rw [hc] at h hro
      simp only [XCode.flat, Bool.and_eq_true] at hro
      simp only [awp] at h
      have hv := compArg_V hV hc
      split at h
      · rename_i b hb
        rw [hb] at hv
        simp only [V] at hv
        exact wpIn_cond_split hv (fun hb => ihx E ts A φ a w (hro.imp id And.left) hR hE hV hd (h.1 hb)) (fun hb => ihy E ts A φ a w (hro.imp id And.right) hR hE hV hd (h.2 hb))
      · exact h.elim
  | block id x ih =>
    intro E ts A φ a w hro hR hE hV hd h
    refine wpIn_block (wpIn_mono (ih _ ts A φ a w hro hR hE hV hd h) fun e a' w' he => ?_)
    cases e with
    | exit id' =>
      simp only [Pq, Exit.inBlock] at he ⊢
      by_cases hid : id' = id
      · rw [if_pos hid]
        have : (id' == id) = true := by simpa using hid
        rw [this] at he
        exact he
      · rw [if_neg hid]
        have : (id' == id) = false := by simpa using hid
        rw [this] at he
        exact he
    | _ => exact he
  | scope x ih =>
    intro E ts A φ a w hro hR hE hV hd h
    refine wpIn_scope_straight (wpIn_mono (ih _ ts A φ a w hro hR hE hV hd h) fun e a' w' he => ?_)
    cases e <;> exact he
  | loop x ih =>
    intro E ts A φ a w hro hR hE hV hd h
    refine LoopW.wpIn ?_
    refine h (fun ts A => ∀ (φ : Emb) (a : Act) (w : World), R φ A w → Ext φ0 A0 w0 φ A w → Vl φ A w ts a.tmps.toList → DefOk w0.heap.size φ A w a.defers → LoopW (fenceR ro) m P x (Pq φ0 A0 w0 E) a w) ?_ ?_ φ a w hR hE hV hd
    · intro ts A h φ a w hR hE hV hd
      refine LoopW.step (wpIn_mono (ih _ ts A φ a w hro hR hE hV hd h) fun e a' w' he => ?_)
      cases e with
      | normal =>
        obtain ⟨φ', ts', A', g1, g2, g3, g4, g5⟩ := he
        exact g1 φ' a' w' g2 g3 g4 g5
      | _ => exact he
    · intro live ts A hw φ a w hR hE hV hd
      obtain ⟨φ', vs', A', g0, g1, g2, g3, g4⟩ := hw φ0 w0 φ w _ hR0 hE hR (keep_V live hV)
      exact g0 φ' a w g2 g1 g3 (hd.less g4)
  | region id ops draw =>
    intro E ts A φ a w hro hR hE hV hd h
    simp only [comp, compRegion] at h
    cases draw with
    | false =>
      simp only [cond_false, awp] at h
      refine wpIn_region ?_
      rw [List.range_eq_range']
      have := runs_sound (ro := ro) (n := m) (Q := Pq φ0 A0 w0 E) (ops := ops) (fun _ _ h => h) ops.toList 0 [] ts A φ a w rfl hR hE hV hd h
      simpa using this
    | true =>
      simp only [cond_true] at h
      cases hok : regionOk ops (ops.toList.map (compOper P ops)) (ancOf ops ops.size) (scriptOf ops (ops.toList.map (compOper P ops)) (ancOf ops ops.size) ops.size [] []) && P.follows .mixedOrders with
      | false => rw [hok] at h; exact h.elim
      | true =>
        rw [hok] at h
        rw [Bool.and_eq_true] at hok
        simp only [cond_true, awp] at h
        refine wp_draw hok.2 hok.1 (compRegion_ops ops) hR hV rfl h fun a' w' hp => ?_
        obtain ⟨φ', ts', A', g1, g2, g3, g4, g5⟩ := hp
        exact ⟨φ', ts', A', g1, g2, hE.trans g3, g4, by rw [g5]; exact hd.ext g3⟩

/-! ## Results -/

inductive XRes where
  | tmp (t : Nat)
  | cell (t : Nat) (n : Option Nat)

def compRes (P : Program) : List ResultVar → Option (List XRes)
  | [] => some []
  | .tmp t :: rs => (compRes P rs).map fun r => .tmp t :: r
  | .cell t ty :: rs => (partOf P ty).bind fun n => (compRes P rs).map fun r => .cell t n :: r

def ares (ts : List AVal) (A : Heap) : List XRes → (List AVal → Prop) → Prop
  | [], K => K []
  | .tmp t :: rs, K => ares ts A rs fun vs => K (ts.getD t AVal.undef :: vs)
  | .cell t n :: rs, K =>
    match ts.getD t AVal.undef with
    | .ptr i off =>
      match A.get i with
      | some (.cells vs) =>
        match n with
        | none => match vs[off]? with | some v => ares ts A rs fun us => K (v :: us) | none => False
        | some n => off + n ≤ vs.length ∧ ares ts A rs fun us => K (.agg ((vs.drop off).take n) :: us)
      | _ => False
    | _ => False

def single (vs : List AVal) : AVal :=
  match vs with
  | [v] => v
  | vs => .tup vs

def resAct (a : Act) : ResultVar → Sem Value
  | .tmp t => pure (a.tmps.getD t undef)
  | .cell x t => do loadVar t (← asAddr (a.tmps.getD x undef))

theorem ares_sound (hR : R φ A w) (hV : Vl φ A w ts a.tmps.toList) : ∀ (rs : List ResultVar) (xs : List XRes) (K : List AVal → Prop), compRes P rs = some xs → ares ts A xs K →
    ∃ vs us, K vs ∧ (rs.mapM (resAct a)).run P w = .ok us w ∧ Vl φ A w vs us
  | [], xs, K, hx, h => by
    simp only [compRes, Option.some.injEq] at hx
    subst hx
    exact ⟨[], [], h, by simp, by simp only [Vl]⟩
  | .tmp t :: rs, xs, K, hx, h => by
    simp only [compRes, Option.map_eq_some_iff] at hx
    obtain ⟨r, h1, rfl⟩ := hx
    simp only [ares] at h
    obtain ⟨vs, us, g1, g2, g3⟩ := ares_sound hR hV rs r _ h1 h
    refine ⟨_, a.tmps.getD t undef :: us, g1, by simp [List.mapM_cons, resAct, g2], ?_⟩
    simp only [Vl]
    exact ⟨compArg_V hV (o := .tmp t) (x := .t t) rfl, g3⟩
  | .cell t ty :: rs, xs, K, hx, h => by
    simp only [compRes, Option.bind_eq_some_iff, Option.map_eq_some_iff] at hx
    obtain ⟨n, h0, r, h1, rfl⟩ := hx
    simp only [ares] at h
    have hv := compArg_V hV (o := .tmp t) (x := .t t) rfl
    simp only [Arg.ev] at hv
    split at h
    · rename_i i off hp
      rw [hp] at hv
      simp only [V] at hv
      obtain ⟨ad, g1, g2, g3⟩ := hv
      split at h
      · rename_i cs ho
        have had := g3 (by simp [Heap.live, ho])
        subst had
        have he : a.tmps.getD t undef = .pointer (some ⟨φ i, off, none⟩) := g1
        split at h
        · split at h
          · rename_i v hv0
            obtain ⟨vs, us, k1, k2, k3⟩ := ares_sound hR hV rs r _ h1 h
            obtain ⟨u, q1, _, _, q2⟩ := hR.cell ho hv0
            refine ⟨_, u :: us, k1, ?_, by simp only [Vl]; exact ⟨q2, k3⟩⟩
            simp only [List.mapM_cons, resAct, he, asAddr, Sem.run_bind, Sem.run_pure, Result.andThen_ok, run_loadVar1 h0, run_load, q1, k2]
          · exact h.elim
        · rename_i m
          obtain ⟨h2, h3⟩ := h
          obtain ⟨vs, us, k1, k2, k3⟩ := ares_sound hR hV rs r _ h1 h3
          obtain ⟨xs, q1, q2⟩ := run_loadLive (P := P) hR ho h2
          refine ⟨_, .agg xs.toArray :: us, k1, ?_, by simp only [Vl, V]; exact ⟨⟨xs, rfl, q2⟩, k3⟩⟩
          simp only [List.mapM_cons, resAct, he, asAddr, Sem.run_bind, Sem.run_pure, Result.andThen_ok, run_loadVarN h0, q1, k2]
      · exact h.elim
    · exact h.elim

/-! ## Functions -/

structure XFn where
  code : XCode
  res : List XRes
  ntmps : Nat

def compFn (P : Program) (f : Nat) : Option XFn :=
  bif enters P f then
    match P.funcs[f]? with
    | some fn => fn.body.bind fun c => (compRes P fn.results.toList).map fun r => ⟨comp P c, r, fn.ntmps⟩
    | none => none
  else none

/-- What a body that is done gives. -/
def fin (A0 : Heap) (rs : List XRes) (Q : AVal → Heap → Prop) (ts : List AVal) (A : Heap) : Prop :=
  ares ts A rs fun vs => Wk A0 [single vs] A fun us A' => ∃ u, us = [u] ∧ Q u A'

theorem J_of {f : Nat} {code : XCode} {res : List XRes} {n : Nat} (hX : compFn P f = some ⟨code, res, n⟩) {args : List AVal} {A : Heap} {Q : AVal → Heap → Prop}
    (h : (∀ i, A.live i → i < A.top) → awp P A code ⟨fin A res Q, fin A res Q, fun _ _ _ => False⟩ (args ++ List.replicate (n - args.length) AVal.undef) A) : J P f args A Q := by
  unfold compFn at hX
  cases he : enters P f with
  | false => rw [he] at hX; cases hX
  | true =>
    rw [he] at hX
    simp only [cond_true] at hX
    refine ⟨he, fun φ w vs hR hV => ?_⟩
    cases hf : P.funcs[f]? with
    | none => rw [hf] at hX; cases hX
    | some fn =>
      rw [hf] at hX
      simp only [Option.bind_eq_some_iff, Option.map_eq_some_iff] at hX
      obtain ⟨c, hc, r, hr, hx⟩ := hX
      cases hx
      have hlen := Vl.length hV
      refine callsIn_wide (n := 0).1 (callsIn_of_wp_marks hf hc trivial ?_)
      have hV' : Vl φ A w (args ++ List.replicate (fn.ntmps - args.length) AVal.undef) (vs.toArray ++ Array.replicate (fn.ntmps - vs.toArray.size) undef).toList := by
        simp only [Array.toList_append, Array.toList_replicate, List.size_toArray]
        rw [hlen]
        refine Vl.append hV ?_
        have key : ∀ n, Vl φ A w (List.replicate n AVal.undef) (List.replicate n undef) := by
          intro n
          induction n with
          | zero => simp [Vl]
          | succ n ih => simp only [List.replicate_succ, Vl]; exact ⟨by simp only [AVal.undef, V], ih⟩
        exact key _
      refine wpIn_mono (awp_sound (w0 := w) (φ0 := φ) (ro := none) (m := 0) hR c _ _ A φ _ w (.inl rfl) hR (.refl φ A w hR.lt) hV' .nil (h hR.lt)) fun e a' w' he => ?_
      have done : ∀ (ds : List Deferred) (w' : World), (∃ φ' ts' A', fin A res Q ts' A' ∧ R φ' A' w' ∧ Ext φ A w φ' A' w' ∧ Vl φ' A' w' ts' a'.tmps.toList ∧ DefOk w.heap.size φ' A' w' ds) → LeavesInM (fenceR none) 0 P fn a'.tmps (fun e w' => ∃ v, e = .returned v ∧ Got φ A w Q v w') ds .returning w' := by
        intro ds
        induction ds with
        | cons d ds ih =>
          rintro w' ⟨φ', ts', A', g1, g2, g3, g4, g5⟩
          obtain ⟨D, rfl, e2, e3, e4, e5⟩ := g5.1 d (by simp)
          obtain ⟨k1, k2⟩ := g2.turn (o := .deferred none) (by simp only [World.shape?, e3]) e4 e5 rfl
          refine ⟨by simp, .inl ⟨D, _, rfl, run_takeDeferred e3, ih _ ⟨φ', ts', A', g1, k2, g3.turn e2, g4.ext0 k1, ?_⟩⟩⟩
          have hnd := List.nodup_cons.1 g5.2
          exact DefOk.turn ⟨fun d hd => g5.1 d (by simp [hd]), hnd.2⟩ fun d hd he => hnd.1 (he ▸ hd)
        | nil =>
          rintro w' ⟨φ', ts', A', g1, g2, g3, g4, g5⟩
          show ∃ v, (results fn a'.tmps).run P w' = .ok v w' ∧ ∃ v', Ending.returned v = .returned v' ∧ Got φ A w Q v' w'
          obtain ⟨vs', us, k1, k2, k3⟩ := ares_sound (P := P) g2 g4 fn.results.toList res _ hr g1
          have hres : ∃ v, (results fn a'.tmps).run P w' = .ok v w' ∧ V φ' A' w' (single vs') v := by
            have hrf : results fn a'.tmps = (do
                let vs ← fn.results.mapM (resAct a')
                pure (if h : vs.size = 1 then vs[0] else .tuple vs)) := by
              unfold results
              congr 2
            rw [hrf, Array.mapM_eq_mapM_toList]
            refine ⟨_, by simp only [bind_map_left, Sem.run_bind, k2, Result.andThen_ok, Sem.run_pure]; rfl, ?_⟩
            have hl := Vl.length k3
            match vs', us, hl, k3 with
            | [], [], _, _ => simp [single, V, Vl]
            | [v], [u], _, k3 => simp only [Vl] at k3; simpa [single] using k3.1
            | v :: v2 :: vs, u :: u2 :: us, _, k3 => simp [single, V]; exact k3
          obtain ⟨v, q1, q2⟩ := hres
          obtain ⟨φ3, vs3, A3, ⟨u, rfl, j1⟩, j2, j3, j4, _⟩ := k1 φ w φ' w' [v] hR g3 g2 (by simp only [Vl]; exact ⟨q2, trivial⟩)
          simp only [Vl] at j4
          exact ⟨v, q1, v, rfl, φ3, u, A3, j1, j4.1, j3, j2⟩
      cases e with
      | normal => exact done a'.defers w' he
      | ret => exact done a'.defers w' he
      | exit id => obtain ⟨_, _, _, h, _⟩ := he; exact h.elim
      | _ => exact he.elim

end Go.Ab
