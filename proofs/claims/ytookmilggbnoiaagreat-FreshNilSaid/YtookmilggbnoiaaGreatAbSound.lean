/- The abstract layer, part 6: each operation does in the model what part 3 says of it (values, memory, addresses). -/
import Derived.Test.YtookmilggbnoiaaGreatAbComp
set_option linter.unusedSimpArgs false
set_option linter.unusedVariables false
namespace Go.Ab

variable {P : Program} {φ φ' : Emb} {A A' : Heap} {w w' : World} {ts : List AVal} {a : Act} {K : AVal → Heap → Prop}

theorem V.raw (v : Value) : V φ A w (.raw v) v := by simp [V]

theorem Vcs.raws : ∀ {vs : List Value}, (vs.all fun v => v.oneCell') = true → Vcs φ A w (vs.map AVal.raw) vs
  | [], _ => by simp [Vcs]
  | v :: vs, h => by
    simp only [List.all_cons, Bool.and_eq_true] at h
    simp only [List.map_cons, Vcs]
    exact ⟨⟨h.1, .raw v⟩, Vcs.raws h.2⟩

theorem compArg_V (hV : Vl φ A w ts a.tmps.toList) {o : Operand} {x : Arg} (hx : compArg o = some x) : V φ A w (x.ev ts) (a.eval o) := by
  cases o with
  | tmp t =>
    simp only [compArg, Option.some.injEq] at hx
    subst hx
    simp only [Arg.ev, Act.eval]
    cases ht : ts[t]? with
    | none =>
      have h1 : a.tmps.toList[t]? = none := by
        rw [List.getElem?_eq_none_iff] at ht ⊢
        rw [← hV.length]; exact ht
      have h2 : a.tmps[t]? = none := by simpa using h1
      simp [List.getD, ht, AVal.undef, h2, V]
    | some c =>
      obtain ⟨v, h1, h2⟩ := hV.get ht
      have h3 : a.tmps[t]? = some v := by simpa using h1
      simp [List.getD, ht, h3]
      exact h2
  | const v =>
    cases v with
    | agg cs =>
      simp only [compArg] at hx
      cases h1 : oneCells cs with
      | false => rw [h1] at hx; cases hx
      | true =>
        rw [h1] at hx
        cases hx
        simp only [Arg.ev, Act.eval, V]
        exact ⟨cs.toList, by simp, Vcs.raws h1⟩
    | _ => simp only [compArg, Option.some.injEq] at hx; subst hx; exact .raw _
  | func f =>
    simp only [compArg, Option.some.injEq] at hx
    subst hx
    simp only [Arg.ev, Act.eval, V]
    exact ⟨[], [], rfl, by simp [Vl], by simp [Vl]⟩
  | global g => cases hx

theorem compArgs_V (hV : Vl φ A w ts a.tmps.toList) : ∀ {os : List Operand} {xs : List Arg}, compArgs os = some xs → Vl φ A w (xs.map (·.ev ts)) (os.map a.eval)
  | [], _, hx => by simp only [compArgs, Option.some.injEq] at hx; subst hx; simp [Vl]
  | o :: os, _, hx => by
    simp only [compArgs, Option.bind_eq_some_iff, Option.map_eq_some_iff] at hx
    obtain ⟨x, h1, xs, h2, rfl⟩ := hx
    simp only [List.map_cons, Vl]
    exact ⟨compArg_V hV h1, compArgs_V hV h2⟩

theorem zeroOf_spec {t : TypeId} {z : List Value} (h : zeroOf P t = some z) : (∃ v, v.cells = z.toArray ∧ ∀ w, (zeroValue t).run P w = .ok v w) ∧ (z.all fun v => v.oneCell') = true := by
  simp only [zeroOf, Option.bind_eq_some_iff] at h
  obtain ⟨i, h1, v, h2, h3⟩ := h
  cases h4 : oneCells v.cells with
  | false => rw [h4] at h3; cases h3
  | true =>
    rw [h4] at h3
    cases h3
    exact ⟨⟨v, by simp, fun w => run_zeroValue h1 h2 w⟩, h4⟩

theorem sizeTy_spec {t : TypeId} {n : Nat} (h : sizeTy P t = some n) (w : World) : (sizeOf t).run P w = .ok n w := by
  simp only [sizeTy, Option.map_eq_some_iff] at h
  obtain ⟨i, h1, rfl⟩ := h
  exact run_sizeOf h1 w

theorem bytesTy_spec {t : TypeId} {n : Nat} (h : bytesTy P t = some n) : ∃ i : TypeInfo, (∀ w, (typeInfo t).run P w = .ok i w) ∧ i.bytes = n := by
  simp only [bytesTy, Option.map_eq_some_iff] at h
  obtain ⟨i, h1, rfl⟩ := h
  exact ⟨i, run_typeInfo h1, rfl⟩

theorem sound_alloc {t : TypeId} {z : List Value} (hz : zeroOf P t = some z) (hR : R φ A w) (h : K (.ptr A.top 0) (A.push (.cells (z.map .raw)))) :
    Res P φ A w K ((do pure (Next.value (← Instr.alloc t true (.tuple #[])))).run P w) := by
  obtain ⟨⟨v, h1, h2⟩, h3⟩ := zeroOf_spec hz
  simp only [Instr.alloc, Sem.run_bind, h2, Result.andThen_ok, run_newVar, Sem.run_pure, Res]
  obtain ⟨g1, g2⟩ := hR.pushCells (w' := { w with heap := w.heap.push (.cells z.toArray t) }) (fz := (0, 0)) (.inl (Nat.le_refl _)) (cs' := z.map .raw) (by rw [List.take_length]) (Vcs.raws h3) rfl
  rw [h1]
  exact ⟨φ.put A.top w.heap.size, _, _, h, V.newPtr _ (Emb.put_eq _ _ _), g1, g2⟩

theorem sound_box {t : TypeId} {b : AVal} {v : Value} {cs : List AVal} (hv : V φ A w b v) (hc : b.cells? = some cs) (hR : R φ A w) (h : K (.ptr A.top 0) (A.push (.cells cs))) :
    Res P φ A w K ((do pure (Next.value (← Instr.box t v))).run P w) := by
  obtain ⟨xs, h1, h2⟩ := hv.cells hc
  simp only [Instr.box, Sem.run_bind, Result.andThen_ok, run_newVar, Sem.run_pure, Res]
  obtain ⟨g1, g2⟩ := hR.pushCells (w' := { w with heap := w.heap.push (.cells xs.toArray t) }) (fz := (0, 0)) (.inl (Nat.le_refl _)) (cs' := cs) (by rw [List.take_length]) h2 rfl
  rw [h1]
  exact ⟨φ.put A.top w.heap.size, _, _, h, V.newPtr _ (Emb.put_eq _ _ _), g1, g2⟩

theorem cells_value (v : Value) (h : v.oneCell' = true) : v.cells = #[v] := by cases v <;> first | rfl | (simp [Value.oneCell'] at h)

/-- 'loadVar' of one cell, or of many. -/
theorem run_loadVar1 {t : TypeId} (hp : partOf P t = some none) (ad : Addr) (w : World) : (loadVar t ad).run P w = (Go.load ad).run P w := by
  simp only [partOf, Option.bind_eq_some_iff] at hp
  obtain ⟨d, h1, h2⟩ := hp
  cases h3 : aggDesc d with
  | true => rw [h3] at h2; simp at h2
  | false => simp only [loadVar, Sem.run_bind, run_isAgg h1, h3, Result.andThen_ok, Bool.false_eq_true, if_false]

theorem run_loadVarN {t : TypeId} {n : Nat} (hp : partOf P t = some (some n)) (ad : Addr) (w : World) :
    (loadVar t ad).run P w = ((loadCells ad n).run P w).andThen fun cs w' => .ok (.agg cs) w' := by
  simp only [partOf, Option.bind_eq_some_iff] at hp
  obtain ⟨d, h1, h2⟩ := hp
  cases h3 : aggDesc d with
  | false => rw [h3] at h2; simp at h2
  | true =>
    rw [h3] at h2
    simp only [cond_true, Option.map_eq_some_iff] at h2
    obtain ⟨m, h4, h5⟩ := h2
    cases h5
    simp only [loadVar, Sem.run_bind, run_isAgg h1, h3, Result.andThen_ok, if_true, sizeTy_spec h4, Sem.run_pure]

theorem sound_load {t : TypeId} {n : Option Nat} {x : Arg} {v : Value} (hp : partOf P t = some n) (hv : V φ A w (x.ev ts) v) (hR : R φ A w) (h : ask P (.load n x) ts A K) :
    Res P φ A w K ((do pure (Next.value (← Instr.loadAt t v))).run P w) := by
  simp only [ask, astep] at h
  generalize x.ev ts = b at h hv
  cases b with
  | ptr i off =>
    simp only [V] at hv
    obtain ⟨ad, rfl, h1, h2⟩ := hv
    simp only [] at h
    cases ho : A.get i with
    | none => rw [ho] at h; exact h.elim
    | some o =>
      cases o with
      | map => rw [ho] at h; exact h.elim
      | loop => rw [ho] at h; exact h.elim
      | cells vs =>
        rw [ho] at h
        have h3 := h2 (by simp [Heap.live, ho])
        subst h3
        cases n with
        | none =>
          simp only [] at h
          cases hc : vs[off]? with
          | none => rw [hc] at h; exact h.elim
          | some c =>
            rw [hc] at h
            obtain ⟨u, g1, _, _, g2⟩ := hR.cell ho hc
            simp only [Instr.loadAt, Instr.sureAddr, Sem.run_bind, Sem.run_pure, Result.andThen_ok, run_loadVar1 hp, run_load, g1]
            exact .same hR g2 h
        | some n =>
          obtain ⟨h4, h5⟩ := h
          obtain ⟨xs, g1, g2⟩ := run_loadLive (P := P) hR ho h4
          simp only [Instr.loadAt, Instr.sureAddr, Sem.run_bind, Sem.run_pure, Result.andThen_ok, run_loadVarN hp, g1]
          exact .same hR (by simp only [V]; exact ⟨xs, rfl, g2⟩) h5
  | fptr cs =>
    simp only [V] at hv
    obtain ⟨b, off, rfl, h1, h2⟩ := hv
    cases n with
    | none =>
      simp only [] at h
      cases hc : cs[0]? with
      | none => rw [hc] at h; exact h.elim
      | some c =>
        rw [hc] at h
        obtain ⟨u, g1, _, g2⟩ := h2.get hc
        simp only [Nat.add_zero] at g1
        simp only [Instr.loadAt, Instr.sureAddr, Sem.run_bind, Sem.run_pure, Result.andThen_ok, run_loadVar1 hp, run_load, g1]
        exact .same hR g2 h
    | some n =>
      obtain ⟨h4, h5⟩ := h
      obtain ⟨xs, g1, g2⟩ := run_loadRow (P := P) h2 h4
      simp only [Instr.loadAt, Instr.sureAddr, Sem.run_bind, Sem.run_pure, Result.andThen_ok, run_loadVarN hp, g1]
      exact .same hR (by simp only [V]; exact ⟨xs, rfl, g2⟩) h5
  | _ => exact h.elim

theorem sound_store {t : TypeId} {n : Nat} {x y : Arg} {v u : Value} (hp : sizeTy P t = some n) (hv : V φ A w (x.ev ts) v) (hu : V φ A w (y.ev ts) u) (hR : R φ A w) (h : ask P (.store n x y) ts A K) :
    Res P φ A w K ((do Instr.storeAt t v u; pure Next.skip).run P w) := by
  simp only [ask, astep] at h
  generalize x.ev ts = b at h hv
  generalize y.ev ts = c at h hu
  cases b with
  | ptr i off =>
    simp only [V] at hv
    obtain ⟨ad, rfl, h1, h2⟩ := hv
    simp only [] at h
    cases ho : A.get i with
    | none => rw [ho] at h; exact h.elim
    | some o =>
      cases o with
      | map => rw [ho] at h; exact h.elim
      | loop => rw [ho] at h; exact h.elim
      | cells vs =>
        rw [ho] at h
        have h3 := h2 (by simp [Heap.live, ho])
        subst h3
        cases hc : c.cells? with
        | none => rw [hc] at h; exact h.elim
        | some cs =>
          rw [hc] at h
          obtain ⟨⟨h4, h5⟩, h6⟩ := h
          obtain ⟨xs, g1, g2⟩ := hu.cells hc
          have g3 := g2.length
          obtain ⟨w', g4, g5, g6⟩ := run_storeLive (P := P) off 0 hR ho g2 (by omega)
          simp only [Nat.add_zero] at g5 g6
          have g7 : (xs.toArray.size ≠ n) = False := by simp; omega
          simp only [Instr.storeAt, Instr.sureAddr, Sem.run_bind, Sem.run_pure, Result.andThen_ok, storeVar, sizeTy_spec hp, g7, if_false, g1, g4]
          exact ⟨φ, _, _, h6, .raw _, g5, g6⟩
  | _ => exact h.elim

theorem sound_nilCheck {x : Arg} {v : Value} {o : Oper} {y : Operand} (ho : o.op = .nilCheck y) (hy : a.eval y = v) (hv : V φ A w (x.ev ts) v) (hR : R φ A w) (h : ask P (.nilCheck x) ts A K) :
    Res P φ A w K ((execOp a.eval o).run P w) := by
  simp only [ask, astep] at h
  have hv' := hv
  generalize x.ev ts = b at h hv hv'
  cases b with
  | ptr i off =>
    simp only [V] at hv
    obtain ⟨ad, rfl, _⟩ := hv
    simp only [execOp, ho, hy, Sem.run_pure]
    exact .same hR hv' h
  | fptr cs =>
    simp only [V] at hv
    obtain ⟨b, off, rfl, _⟩ := hv
    simp only [execOp, ho, hy, Sem.run_pure]
    exact .same hR hv' h
  | func fn f c =>
    cases fn with
    | func g =>
      simp only [V] at hv
      obtain ⟨xs, ys, rfl, _⟩ := hv
      simp only [execOp, ho, hy, Sem.run_pure]
      exact .same hR hv' h
    | _ => exact h.elim
  | _ => exact h.elim

theorem sound_fieldAddr {s : TypeId} {fields : Array Field} {f n : Nat} {fd : Field} {x : Arg} {v : Value} (hs : P.underlying s = some (.struct fields)) (hf : fields[f]? = some fd) (hn : sizeTy P fd.type = some n) (hn0 : n ≠ 0)
    (hv : V φ A w (x.ev ts) v) (hR : R φ A w) (h : ask P (.fieldAddr fd.offset x) ts A K) :
    Res P φ A w K ((do pure (Next.value (← Instr.fieldAt s v f))).run P w) := by
  simp only [ask, astep] at h
  generalize x.ev ts = b at h hv
  cases b with
  | ptr i off =>
    simp only [V] at hv
    obtain ⟨ad, rfl, h1, h2⟩ := hv
    simp only [Instr.fieldAt, Instr.sureAddr, fieldPlace, Sem.run_bind, run_underlying hs, hf, Sem.run_pure, Result.andThen_ok, sizeTy_spec hn, hn0, if_false]
    refine .same hR ?_ h
    simp only [V]
    exact ⟨_, rfl, h1, fun hl => by rw [h2 hl, add_none]⟩
  | fptr cs =>
    simp only [V] at hv
    obtain ⟨b, off, rfl, h1, h2⟩ := hv
    simp only [Instr.fieldAt, Instr.sureAddr, fieldPlace, Sem.run_bind, run_underlying hs, hf, Sem.run_pure, Result.andThen_ok, sizeTy_spec hn, hn0, if_false, add_none]
    refine .same hR ?_ h
    simp only [V]
    exact ⟨_, _, rfl, h1, h2.drop _⟩
  | _ => exact h.elim

/-- A part of an aggregate's cells. -/
theorem run_part1 {t : TypeId} (hp : partOf P t = some none) {cs : Array Value} {off : Nat} {v : Value} (hc : cs[off]? = some v) (w : World) : (part t cs off).run P w = .ok v w := by
  simp only [partOf, Option.bind_eq_some_iff] at hp
  obtain ⟨d, h1, h2⟩ := hp
  cases h3 : aggDesc d with
  | true => rw [h3] at h2; simp at h2
  | false => simp only [part, Sem.run_bind, run_isAgg h1, h3, Result.andThen_ok, Bool.false_eq_true, if_false, hc, Sem.run_pure]

theorem run_partN {t : TypeId} {n : Nat} (hp : partOf P t = some (some n)) (cs : Array Value) (off : Nat) (w : World) : (part t cs off).run P w = .ok (.agg (cs.extract off (off + n))) w := by
  simp only [partOf, Option.bind_eq_some_iff] at hp
  obtain ⟨d, h1, h2⟩ := hp
  cases h3 : aggDesc d with
  | false => rw [h3] at h2; simp at h2
  | true =>
    rw [h3] at h2
    simp only [cond_true, Option.map_eq_some_iff] at h2
    obtain ⟨m, h4, h5⟩ := h2
    cases h5
    simp only [part, Sem.run_bind, run_isAgg h1, h3, Result.andThen_ok, if_true, sizeTy_spec h4, Sem.run_pure]

theorem extract_list (xs : List Value) (off n : Nat) : xs.toArray.extract off (off + n) = ((xs.drop off).take n).toArray := by
  simp [List.extract_toArray, List.extract_eq_take_drop]

theorem sound_field {s : TypeId} {fields : Array Field} {f : Nat} {n : Option Nat} {fd : Field} {x : Arg} {v : Value} (hs : P.underlying s = some (.struct fields)) (hf : fields[f]? = some fd) (hp : partOf P fd.type = some n)
    (hv : V φ A w (x.ev ts) v) (hR : R φ A w) (h : ask P (.field fd.offset n x) ts A K) :
    Res P φ A w K ((do pure (Next.value (← Instr.field s v f))).run P w) := by
  simp only [ask, astep] at h
  generalize x.ev ts = b at h hv
  cases b with
  | agg cs =>
    simp only [V] at hv
    obtain ⟨xs, rfl, h1⟩ := hv
    cases n with
    | none =>
      simp only [] at h
      cases hc : cs[fd.offset]? with
      | none => rw [hc] at h; exact h.elim
      | some c =>
        rw [hc] at h
        obtain ⟨u, g1, _, g2⟩ := h1.get hc
        simp only [Instr.field, asAgg, Sem.run_bind, run_underlying hs, hf, Sem.run_pure, Result.andThen_ok, run_part1 hp (cs := xs.toArray) (v := u) (by simpa using g1)]
        exact .same hR g2 h
    | some n =>
      simp only [Instr.field, asAgg, Sem.run_bind, run_underlying hs, hf, Sem.run_pure, Result.andThen_ok, run_partN hp, extract_list]
      exact .same hR (by simp only [V]; exact ⟨_, rfl, (h1.drop _).take _⟩) h
  | _ => exact h.elim

theorem sound_idxAddrArr {t e : TypeId} {n s : Nat} {x i : Arg} {v u : Value} (ht : P.underlying t = some (.array n e)) (hs : sizeTy P e = some s)
    (hv : V φ A w (x.ev ts) v) (hu : V φ A w (i.ev ts) u) (hR : R φ A w) (h : ask P (.idxAddrArr n s x i) ts A K) :
    Res P φ A w K ((do pure (Next.value (← Instr.indexAt t v u))).run P w) := by
  simp only [ask, astep] at h
  generalize x.ev ts = b at h hv
  generalize i.ev ts = c at h hu
  cases c with
  | raw c =>
    cases c with
    | int k m =>
      simp only [V] at hu
      subst hu
      cases b with
      | ptr o off =>
        simp only [V] at hv
        obtain ⟨ad, rfl, h1, h2⟩ := hv
        obtain ⟨h3, h4⟩ := h
        simp only [Instr.indexAt, asIntOf, Instr.sureAddr, Sem.run_bind, run_underlying ht, Sem.run_pure, Result.andThen_ok, h3.1, h3.2, and_self, if_true, sizeTy_spec hs]
        refine .same hR ?_ h4
        simp only [V]
        exact ⟨_, rfl, h1, fun hl => by rw [h2 hl, add_none]⟩
      | fptr cs =>
        simp only [V] at hv
        obtain ⟨b, off, rfl, h1, h2⟩ := hv
        obtain ⟨h3, h4⟩ := h
        simp only [Instr.indexAt, asIntOf, Instr.sureAddr, Sem.run_bind, run_underlying ht, Sem.run_pure, Result.andThen_ok, h3.1, h3.2, and_self, if_true, sizeTy_spec hs, add_none]
        refine .same hR ?_ h4
        simp only [V]
        exact ⟨_, _, rfl, h1, h2.drop _⟩
      | _ => exact h.elim
    | _ => exact h.elim
  | _ => exact h.elim

theorem sound_idxAddr {t e : TypeId} {s : Nat} {x i : Arg} {v u : Value} (ht : P.underlying t = some (.slice e)) (hs : sizeTy P e = some s)
    (hv : V φ A w (x.ev ts) v) (hu : V φ A w (i.ev ts) u) (hR : R φ A w) (h : ask P (.idxAddr s x i) ts A K) :
    Res P φ A w K ((do pure (Next.value (← Instr.indexAt t v u))).run P w) := by
  simp only [ask, astep] at h
  generalize x.ev ts = b at h hv
  generalize i.ev ts = c at h hu
  cases c with
  | raw c =>
    cases c with
    | int k m =>
      simp only [V] at hu
      subst hu
      cases b with
      | sl o off len cap e =>
        simp only [V] at hv
        obtain ⟨ad, c, rfl, h1, h2, _, h5⟩ := hv
        obtain ⟨h3, h4⟩ := h
        simp only [Instr.indexAt, asIntOf, Instr.sureAddr, Sem.run_bind, run_underlying ht, Sem.run_pure, Result.andThen_ok, h3.1, h3.2.1, and_self, if_true, sizeTy_spec hs]
        refine .same hR ?_ h4
        simp only [V]
        exact ⟨_, rfl, h1, fun hl => by rw [(h5 hl).1, add_none]⟩
      | fsl cs len cap =>
        simp only [V] at hv
        obtain ⟨base, c, rfl, h1, h2, h5⟩ := hv
        obtain ⟨h3, h4⟩ := h
        rcases h5 with h5 | ⟨b, off, rfl, h5, h6⟩
        · exact absurd h5 h3.2.2
        simp only [Instr.indexAt, asIntOf, Instr.sureAddr, Sem.run_bind, run_underlying ht, Sem.run_pure, Result.andThen_ok, h3.1, h3.2.1, and_self, if_true, sizeTy_spec hs, add_none]
        refine .same hR ?_ h4
        simp only [V]
        exact ⟨_, _, rfl, h5, h6.drop _⟩
      | _ => exact h.elim
    | _ => exact h.elim
  | _ => exact h.elim

theorem sound_idxArr {t e : TypeId} {n s : Nat} {z : Option Nat} {x i : Arg} {v u : Value} (ht : P.underlying t = some (.array n e)) (hs : sizeTy P e = some s) (hp : partOf P e = some z)
    (hv : V φ A w (x.ev ts) v) (hu : V φ A w (i.ev ts) u) (hR : R φ A w) (h : ask P (.idxArr n s z x i) ts A K) :
    Res P φ A w K ((do pure (Next.value (← Instr.index t v u))).run P w) := by
  simp only [ask, astep] at h
  generalize x.ev ts = b at h hv
  generalize i.ev ts = c at h hu
  cases c with
  | raw c =>
    cases c with
    | int k m =>
      simp only [V] at hu
      subst hu
      cases b with
      | agg cs =>
        simp only [V] at hv
        obtain ⟨xs, rfl, h1⟩ := hv
        cases z with
        | none =>
          simp only [] at h
          cases hc : cs[m.toNat * s]? with
          | none => rw [hc] at h; exact h.elim
          | some c =>
            rw [hc] at h
            obtain ⟨h3, h4⟩ := h
            obtain ⟨y, g1, _, g2⟩ := h1.get hc
            simp only [Instr.index, asIntOf, Sem.run_bind, run_underlying ht, Sem.run_pure, Result.andThen_ok, h3.1, h3.2, and_self, if_true, sizeTy_spec hs,
              run_part1 hp (cs := xs.toArray) (v := y) (by simpa using g1)]
            exact .same hR g2 h4
        | some z =>
          obtain ⟨h3, h4⟩ := h
          simp only [Instr.index, asIntOf, Sem.run_bind, run_underlying ht, Sem.run_pure, Result.andThen_ok, h3.1, h3.2, and_self, if_true, sizeTy_spec hs, run_partN hp, extract_list]
          exact .same hR (by simp only [V]; exact ⟨_, rfl, (h1.drop _).take _⟩) h4
      | _ => exact h.elim
    | _ => exact h.elim
  | _ => exact h.elim

theorem sound_idxStr {t : TypeId} {x i : Arg} {v u : Value} (ht : P.underlying t = some .string) (hv : V φ A w (x.ev ts) v) (hu : V φ A w (i.ev ts) u) (hR : R φ A w) (h : ask P (.idxStr x i) ts A K) :
    Res P φ A w K ((do pure (Next.value (← Instr.index t v u))).run P w) := by
  simp only [ask, astep] at h
  generalize x.ev ts = b at h hv
  generalize i.ev ts = c at h hu
  cases c with
  | raw c =>
    cases c with
    | int k m =>
      simp only [V] at hu
      subst hu
      cases b with
      | raw b =>
        cases b with
        | string s =>
          simp only [V] at hv
          subst hv
          simp only [] at h
          cases hc : s.data[m.toNat]? with
          | none => rw [hc] at h; exact h.elim
          | some y =>
            rw [hc] at h
            obtain ⟨h3, h4⟩ := h
            have hg : s[m.toNat]? = some y := by
              rw [Array.getElem?_eq_some_iff] at hc
              obtain ⟨h5, h6⟩ := hc
              have h7 : m.toNat < s.size := h5
              rw [getElem?_pos s m.toNat h7]
              exact congrArg some h6
            simp only [Instr.index, asIntOf, Sem.run_bind, run_underlying ht, Sem.run_pure, Result.andThen_ok, h3, if_true, hg]
            exact .same hR (.raw _) h4
        | _ => exact h.elim
      | _ => exact h.elim
    | _ => exact h.elim
  | _ => exact h.elim

theorem sound_extract {i : Nat} {x : Arg} {v : Value} (hv : V φ A w (x.ev ts) v) (hR : R φ A w) (h : ask P (.extract x i) ts A K) :
    Res P φ A w K ((do pure (Next.value (← Instr.extract v i))).run P w) := by
  simp only [ask, astep] at h
  generalize x.ev ts = b at h hv
  cases b with
  | tup vs =>
    simp only [V] at hv
    obtain ⟨xs, rfl, h1⟩ := hv
    simp only [] at h
    cases hc : vs[i]? with
    | none => rw [hc] at h; exact h.elim
    | some c =>
      rw [hc] at h
      obtain ⟨y, g1, g2⟩ := h1.get hc
      have g3 : xs.toArray[i]? = some y := by simpa using g1
      simp only [Instr.extract, g3, Sem.run_bind, Sem.run_pure, Result.andThen_ok]
      exact .same hR g2 h
  | _ => exact h.elim

theorem sound_pick {c x y : Arg} {vc vx vy : Value} (hc : V φ A w (c.ev ts) vc) (hx : V φ A w (x.ev ts) vx) (hy : V φ A w (y.ev ts) vy) (hR : R φ A w) (h : ask P (.pick c x y) ts A K) :
    Res P φ A w K ((do pure (Next.value (if ← asBool vc then vx else vy)) : Sem Next).run P w) := by
  simp only [ask, astep] at h
  generalize c.ev ts = b at h hc
  cases b with
  | raw b =>
    cases b with
    | bool b =>
      simp only [V] at hc
      subst hc
      simp only [asBool, Sem.run_bind, Sem.run_pure, Result.andThen_ok]
      cases b with
      | true => exact .same hR hx (by simpa using h)
      | false => exact .same hR hy (by simpa using h)
    | _ => exact h.elim
  | _ => exact h.elim

theorem sound_arrPtr {t e : TypeId} {n s : Nat} {x : Arg} {v : Value} (ht : P.underlying t = some (.array n e)) (hv : V φ A w (x.ev ts) v) (hR : R φ A w) (h : ask P (.arrPtr n s x) ts A K) :
    Res P φ A w K ((do pure (Next.value (← Instr.arrayAt t v))).run P w) := by
  simp only [ask, astep] at h
  generalize x.ev ts = b at h hv
  cases b with
  | sl o off len cap e =>
    simp only [V] at hv
    obtain ⟨ad, c, rfl, h1, h2, _, h5⟩ := hv
    obtain ⟨h3, h4⟩ := h
    have h6 : ¬ len < n := by omega
    simp only [Instr.arrayAt, Sem.run_bind, run_underlying ht, Sem.run_pure, Result.andThen_ok, h6, if_false]
    refine .same hR ?_ h4
    simp only [V]
    exact ⟨_, rfl, h1, fun hl => (h5 hl).1⟩
  | fsl cs len cap =>
    simp only [V] at hv
    obtain ⟨base, c, rfl, h1, h2, h5⟩ := hv
    obtain ⟨h3, h4⟩ := h
    have h6 : ¬ len < n := by omega
    rcases h5 with h5 | ⟨b, off, rfl, h5, h7⟩
    · exact absurd h5 h3.2
    simp only [Instr.arrayAt, Sem.run_bind, run_underlying ht, Sem.run_pure, Result.andThen_ok, h6, if_false]
    refine .same hR ?_ h4
    simp only [V]
    exact ⟨_, _, rfl, h5, h7⟩
  | _ => exact h.elim

theorem sound_mkFunc {fn : Fn} {f c : List Arg} {xs ys : Array Value} (hf : Vl φ A w (f.map (·.ev ts)) xs.toList) (hc : Vl φ A w (c.map (·.ev ts)) ys.toList) (hR : R φ A w) (h : ask P (.mkFunc fn f c) ts A K) :
    Res P φ A w K ((do pure (Next.value (← Instr.makeFunc fn xs ys))).run P w) := by
  simp only [ask, astep] at h
  simp only [Instr.makeFunc, Sem.run_bind, Sem.run_pure, Result.andThen_ok]
  refine .same hR ?_ h
  simp only [V]
  exact ⟨xs.toList, ys.toList, by simp, hf, hc⟩

end Go.Ab
