/- The abstract layer, part 8: each operation does in the model what part 3 says of it (what is built, appended and copied). -/
import Derived.Test.YtookmilggbnoiaaGreatAbSound2
set_option linter.unusedSimpArgs false
set_option linter.unusedVariables false
namespace Go.Ab

variable {P : Program} {φ φ' : Emb} {A A' : Heap} {w w' : World} {ts : List AVal} {a : Act} {K : AVal → Heap → Prop}

theorem sound_sliceArr {t e : TypeId} {n s : Nat} {x : Arg} {lo hi mx : Option Arg} {v : Value} {vlo vhi vmx : Option Value} (ht : P.underlying t = some (.array n e)) (hs : sizeTy P e = some s)
    (hmx : mx.isSome = true → hi.isSome = true) (hv : V φ A w (x.ev ts) v) (hlo : BoundV φ A w ts lo vlo) (hhi : BoundV φ A w ts hi vhi) (hmxv : BoundV φ A w ts mx vmx)
    (hR : R φ A w) (h : ask P (.sliceArr n s x lo hi mx) ts A K) :
    Res P φ A w K ((do pure (Next.value (← Instr.sliceAt t v vlo vhi vmx))).run P w) := by
  have hmx' : vmx.isSome = true → vhi.isSome = true := by
    intro h1
    cases mx with
    | none => cases vmx <;> first | exact hmxv.elim | cases h1
    | some m =>
      have h2 := hmx rfl
      cases hi with
      | none => cases h2
      | some _ => cases vhi with
        | none => exact hhi.elim
        | some _ => rfl
  have key : ∀ (ad : Addr) (l h m : Nat) (b : AVal), v = .pointer (some ad) → BoundIs P w n n m vmx → BoundIs P w n m h vhi → BoundIs P w 0 h l vlo → h ≤ m →
      V φ A w b (.slice (some (if m = l then ad else ad.add (l * s))) (h - l) (m - l)) → K b A →
      Res P φ A w K ((do pure (Next.value (← Instr.sliceAt t v vlo vhi vmx))).run P w) := by
    intro ad l h m b hv hm hh hl hhm hb hk
    subst hv
    simp only [Instr.sliceAt, Instr.sureAddr, Sem.run_bind, run_underlying ht, Result.andThen_ok, Sem.run_pure, run_sliceBounds hm (hm.le (Nat.le_refl _)) hh hhm hl hmx', sizeTy_spec hs]
    exact .same hR hb hk
  have hle : ∀ m h : Nat, BoundIs P w n n m vmx → BoundIs P w n m h vhi → h ≤ m := by
    intro m h hm hh
    cases vhi with
    | some _ => exact hh.1
    | none =>
      simp only [BoundIs] at hh
      cases vmx with
      | some _ => have := hmx' rfl; cases this
      | none => simp only [BoundIs] at hm; omega
  simp only [ask, astep] at h
  generalize x.ev ts = b at h hv
  cases b with
  | ptr i off =>
    simp only [V] at hv
    obtain ⟨ad, rfl, h1, h2⟩ := hv
    simp only [] at h
    cases ho : A.get i with
    | none => rw [ho] at h; exact h.elim
    | some o =>
      cases o with
      | map => rw [ho] at h; exact h.elim
      | loop => rw [ho] at h; exact h.elim
      | cells vs =>
        rw [ho] at h
        obtain ⟨m, h, hm⟩ := abound_spec (P := P) hmxv h
        obtain ⟨hh, h, hhi⟩ := abound_spec (P := P) hhi h
        obtain ⟨l, ⟨h5, h⟩, hl⟩ := abound_spec (P := P) hlo h
        have h3 := h2 (by simp [Heap.live, ho])
        subst h3
        have hhm := hle m hh hm hhi
        have hlh := hl.le (Nat.zero_le _)
        have hmn := hm.le (Nat.le_refl _)
        by_cases h8 : m = l ∧ l ≠ 0
        · rw [if_pos h8] at h
          refine key _ l hh m _ rfl hm hhi hl hhm ?_ h
          simp only [V]
          rw [show hh - l = 0 by omega, show m - l = 0 by omega]
          exact ⟨_, _, rfl, Nat.le_refl _, some_is _, .inl trivial⟩
        · rw [if_neg h8] at h
          refine key _ l hh m _ rfl hm hhi hl hhm ?_ h
          obtain ⟨ob, g1, c0, el, fz, rfl, _, g3, _⟩ := hR.rel i _ ho
          simp only [V]
          refine ⟨_, _, rfl, h1, by omega, some_is _, fun _ => ⟨?_, (el, c0.size), by simp [World.shape?, g1], ?_, fun hn => by cases hn⟩⟩
          · by_cases hml : m = l
            · rw [if_pos hml]; have : l = 0 := by omega
              subst this; simp
            · rw [if_neg hml, add_none]
          · have h9 : l * s + (m - l) * s = m * s := by rw [← Nat.add_mul]; congr 1; omega
            have : m * s ≤ n * s := Nat.mul_le_mul_right _ hmn
            show off + l * s + (m - l) * s ≤ c0.size
            omega
  | fptr cs =>
    simp only [V] at hv
    obtain ⟨b, off, rfl, h1, h2⟩ := hv
    simp only [] at h
    obtain ⟨m, h, hm⟩ := abound_spec (P := P) hmxv h
    obtain ⟨hh, h, hhi⟩ := abound_spec (P := P) hhi h
    obtain ⟨l, ⟨h5, h⟩, hl⟩ := abound_spec (P := P) hlo h
    have hhm := hle m hh hm hhi
    have hlh := hl.le (Nat.zero_le _)
    refine key _ l hh m _ rfl hm hhi hl hhm ?_ h
    simp only [V]
    refine ⟨_, _, rfl, by omega, some_is _, ?_⟩
    by_cases hml : m = l
    · left; rw [show hh - l = 0 by omega]; simp
    · rw [if_neg hml, add_none]
      exact .inr ⟨b, off + l * s, rfl, h1, (h2.drop _).take _⟩
  | _ => exact h.elim

/-! ## What is built -/

theorem foldl_set : ∀ (vs : List Value) (k off : Nat) (xs : List Value), off + k + vs.length ≤ xs.length →
    (vs.zipIdx k).foldl (fun (cs : Array Value) (p : Value × Nat) => cs.setIfInBounds (off + p.2) p.1) xs.toArray = (xs.take (off + k) ++ (vs ++ xs.drop (off + k + vs.length))).toArray
  | [], k, off, xs, _ => by simp
  | v :: vs, k, off, xs, h => by
    simp only [List.length_cons] at h
    rw [List.zipIdx_cons, List.foldl_cons]
    have h1 : xs.toArray.setIfInBounds (off + k) v = (xs.set (off + k) v).toArray := by simp
    rw [h1, foldl_set vs (k + 1) off (xs.set (off + k) v) (by simp; omega)]
    congr 1
    have h2 : (xs.set (off + k) v).take (off + (k + 1)) = xs.take (off + k) ++ [v] := by
      rw [show off + (k + 1) = off + k + 1 by omega, List.take_set, List.take_succ_eq_append_getElem (by omega), List.set_append_right _ _ (by simp; omega)]
      simp [Nat.min_eq_left (show off + k ≤ xs.length by omega)]
    have h3 : (xs.set (off + k) v).drop (off + (k + 1) + vs.length) = xs.drop (off + k + (vs.length + 1)) := by
      rw [List.drop_set_of_lt (by omega)]
      congr 1
      omega
    rw [h2, h3, List.length_cons]
    simp

theorem Vcs.splice {cs ds : List AVal} {xs ys : List Value} (h : Vcs φ A w cs xs) (h' : Vcs φ A w ds ys) (off : Nat) : Vcs φ A w (splice cs off ds) (xs.take off ++ (ys ++ xs.drop (off + ys.length))) := by
  unfold Go.Ab.splice
  rw [← h'.length]
  exact (h.take off).append (h'.append (h.drop _))

theorem fill_spec {place : Nat → Option (Nat × Nat)} (hV : Vl φ A w ts a.tmps.toList) : ∀ {parts : List (Nat × Operand)} {r : List (Nat × Nat × Arg)} {cs cs' : List AVal} {xs : List Value},
    compParts place parts = some r → Vcs φ A w cs xs → afill ts cs r = some cs' →
    ∃ xs', Instr.fill place xs.toArray (parts.map fun (p : Nat × Operand) => (p.1, a.eval p.2)) = some xs'.toArray ∧ Vcs φ A w cs' xs'
  | [], r, cs, cs', xs, hr, hc, hf => by
    simp only [compParts, Option.some.injEq] at hr
    subst hr
    simp only [afill, Option.some.injEq] at hf
    subst hf
    exact ⟨xs, rfl, hc⟩
  | (i, x) :: rest, r, cs, cs', xs, hr, hc, hf => by
    simp only [compParts, Option.bind_eq_some_iff, Option.map_eq_some_iff] at hr
    obtain ⟨⟨off, size⟩, h1, y, h2, r', h3, rfl⟩ := hr
    simp only [afill] at hf
    have hv := compArg_V hV h2
    cases h4 : (y.ev ts).cells? with
    | none => rw [h4] at hf; cases hf
    | some ds =>
      rw [h4] at hf
      simp only [] at hf
      obtain ⟨ys, g1, g2⟩ := hv.cells h4
      have g3 := g2.length
      have g4 := hc.length
      by_cases h5 : ds.length = size ∧ off + size ≤ cs.length
      · rw [if_pos h5] at hf
        obtain ⟨xs', g5, g6⟩ := fill_spec hV h3 (hc.splice g2 off) hf
        refine ⟨xs', ?_, g6⟩
        have h6 : (ys.toArray.size ≠ size || decide (off + ys.toArray.size > xs.toArray.size)) = false := by
          simp; omega
        have h7 : (ys.toArray.zipIdx.foldl (fun (cs : Array Value) (p : Value × Nat) => cs.setIfInBounds (off + p.2) p.1) xs.toArray) = (xs.take off ++ (ys ++ xs.drop (off + ys.length))).toArray := by
          rw [← Array.foldl_toList, Array.toList_zipIdx]
          simpa using foldl_set ys 0 off xs (by omega)
        simp only [List.map_cons, Instr.fill, h1, g1]
        rw [h6]
        simp only [Bool.false_eq_true, if_false]
        rw [← g5]
        congr 1
      · rw [if_neg h5] at hf; cases hf

theorem run_mapM_places {fields : List Field} : ∀ {ps : List (Nat × Nat)}, (fields.mapM fun f => (sizeTy P f.type).map fun s => (f.offset, s)) = some ps →
    ((fields.mapM fun f => do pure (f.offset, ← sizeOf f.type) : Sem (List (Nat × Nat)))).run P w = .ok ps w := by
  induction fields with
  | nil => intro ps h; simp at h; subst h; simp
  | cons f fs ih =>
    intro ps h
    simp only [List.mapM_cons, Option.bind_eq_bind, Option.bind_eq_some_iff, Option.map_eq_some_iff, Option.pure_def, Option.some.injEq] at h
    obtain ⟨p, ⟨s, h1, rfl⟩, ps', h2, rfl⟩ := h
    simp only [List.mapM_cons, Sem.run_bind, sizeTy_spec h1, Result.andThen_ok, Sem.run_pure, ih h2]

theorem sound_buildStruct {t : TypeId} {fields : Array Field} {z : List Value} {ps : List (Nat × Nat)} {parts : Array (Nat × Operand)} {r : List (Nat × Nat × Arg)} (hz : zeroOf P t = some z) (ht : P.underlying t = some (.struct fields))
    (hp : fieldPlaces P fields = some ps) (hr : compParts (ps[·]?) parts.toList = some r) (hV : Vl φ A w ts a.tmps.toList) (hR : R φ A w) (h : ask P (.build z r) ts A K) :
    Res P φ A w K ((do pure (Next.value (← Instr.build t (parts.map fun (p : Nat × Operand) => (p.1, a.eval p.2))))).run P w) := by
  obtain ⟨⟨v, h1, h2⟩, h3⟩ := zeroOf_spec hz
  simp only [ask, astep] at h
  cases hf : afill ts (z.map .raw) r with
  | none => rw [hf] at h; exact h.elim
  | some cs =>
    rw [hf] at h
    obtain ⟨xs', g1, g2⟩ := fill_spec hV hr (Vcs.raws h3) hf
    have g3 : ((fields.mapM fun f => do pure (f.offset, ← sizeOf f.type) : Sem (Array (Nat × Nat)))).run P w = .ok ps.toArray w := by
      rw [Array.mapM_eq_mapM_toList, Sem.run_map, run_mapM_places hp]
      rfl
    have g4 : (fun (i : Nat) => ps.toArray[i]?) = (fun (i : Nat) => ps[i]?) := by funext i; simp
    simp only [Instr.build, Sem.run_bind, h2, Result.andThen_ok, h1, run_underlying ht, g3]
    rw [g4, Array.toList_map, g1]
    simp only [Sem.run_pure, Result.andThen_ok]
    exact .same hR (by simp only [V]; exact ⟨xs', rfl, g2⟩) h

theorem sound_buildArray {t e : TypeId} {n s : Nat} {z : List Value} {parts : Array (Nat × Operand)} {r : List (Nat × Nat × Arg)} (hz : zeroOf P t = some z) (ht : P.underlying t = some (.array n e))
    (hs : sizeTy P e = some s) (hr : compParts (fun i => some (i * s, s)) parts.toList = some r) (hV : Vl φ A w ts a.tmps.toList) (hR : R φ A w) (h : ask P (.build z r) ts A K) :
    Res P φ A w K ((do pure (Next.value (← Instr.build t (parts.map fun (p : Nat × Operand) => (p.1, a.eval p.2))))).run P w) := by
  obtain ⟨⟨v, h1, h2⟩, h3⟩ := zeroOf_spec hz
  simp only [ask, astep] at h
  cases hf : afill ts (z.map .raw) r with
  | none => rw [hf] at h; exact h.elim
  | some cs =>
    rw [hf] at h
    obtain ⟨xs', g1, g2⟩ := fill_spec hV hr (Vcs.raws h3) hf
    simp only [Instr.build, Sem.run_bind, h2, Result.andThen_ok, h1, run_underlying ht, sizeTy_spec hs]
    rw [Array.toList_map, g1]
    simp only [Sem.run_pure, Result.andThen_ok]
    exact .same hR (by simp only [V]; exact ⟨xs', rfl, g2⟩) h

/-- Zero cells, over and over. -/
theorem rep_cells (z : List Value) (n : Nat) : (List.range (n * z.length)).map (fun i => z.toArray[i % z.length]!) = (List.replicate n z).flatten := by
  induction n with
  | zero => simp
  | succ n ih =>
    rw [Nat.succ_mul, List.range_add, List.map_append, ih, List.replicate_succ', List.flatten_append]
    congr 1
    simp only [List.map_map, List.flatten_cons, List.flatten_nil, List.append_nil]
    apply List.ext_getElem
    · simp
    · intro i h1 h2
      simp only [List.length_map, List.length_range] at h1
      simp [Nat.mul_add_mod_of_lt h1, h1]

theorem rep_raws {z : List Value} (h : (z.all fun v => v.oneCell') = true) : ∀ n, (((List.replicate n z).flatten).all fun v => v.oneCell') = true := by
  intro n
  rw [List.all_eq_true] at *
  intro v hv
  rw [List.mem_flatten] at hv
  obtain ⟨l, h1, h2⟩ := hv
  rw [(List.mem_replicate.1 h1).2] at h2
  exact h v h2

theorem repCells_map (z : List Value) (n : Nat) : repCells z n = ((List.replicate n z).flatten).map AVal.raw := by
  unfold repCells
  rw [List.map_flatten, List.map_replicate]

theorem sound_buildSlice {t e : TypeId} {len s : Nat} {z : List Value} {parts : Array (Nat × Operand)} {r : List (Nat × Nat × Arg)} (hz : zeroOf P e = some z) (ht : P.underlying t = some (.slice e))
    (hs : sizeTy P e = some s) (hl : len * s ≤ 2 ^ 24) (hzs : z.length = s) (hs0 : 0 < s) (hr : compParts (fun i => some (i * s, s)) parts.toList = some r) (hV : Vl φ A w ts a.tmps.toList) (hR : R φ A w)
    (h : ask P (.buildSlice len s (List.replicate len z).flatten r) ts A K) :
    Res P φ A w K ((do pure (Next.value (← Instr.buildSlice t len (parts.map fun (p : Nat × Operand) => (p.1, a.eval p.2))))).run P w) := by
  obtain ⟨⟨v, h1, h2⟩, h3⟩ := zeroOf_spec hz
  simp only [ask, astep] at h
  cases hf : afill ts (((List.replicate len z).flatten).map .raw) r with
  | none => rw [hf] at h; exact h.elim
  | some cs =>
    rw [hf] at h
    obtain ⟨xs', g1, g2⟩ := fill_spec hV hr (Vcs.raws (rep_raws h3 len)) hf
    have g0 : ¬ len * s > 2 ^ 24 := by omega
    have hcl : cs.length = len * s := by
      have : ∀ (r : List (Nat × Nat × Arg)) (cs cs' : List AVal), afill ts cs r = some cs' → cs'.length = cs.length := by
        intro r
        induction r with
        | nil => intro cs cs' hf; simp only [afill, Option.some.injEq] at hf; rw [hf]
        | cons p r ih =>
          intro cs cs' hf
          obtain ⟨off, size, x⟩ := p
          simp only [afill] at hf
          split at hf
          · rename_i ds _
            by_cases h5 : ds.length = size ∧ off + size ≤ cs.length
            · rw [if_pos h5] at hf
              rw [ih _ _ hf, splice_length]; omega
            · rw [if_neg h5] at hf; cases hf
          · cases hf
      rw [this _ _ _ hf]
      simp [hzs]
    have hxl := g2.length
    obtain ⟨g5, g6⟩ := hR.pushCells (w' := { w with heap := w.heap.push (.cells xs'.toArray e) }) (fz := (0, 0)) (.inl (Nat.le_refl _)) (cs' := cs) (by rw [List.take_length]) g2 rfl
    have g7 : V (φ.put A.top w.heap.size) (A.push (.cells cs)) { w with heap := w.heap.push (.cells xs'.toArray e) } (.sl A.top 0 len (some len) s) (.slice (some ⟨w.heap.size, 0, none⟩) len len) := by
      simp only [V]
      refine ⟨_, _, rfl, by rw [Heap.top_push]; omega, Nat.le_refl _, some_is _, fun _ => ⟨by simp, (e, xs'.toArray.size), by simp [World.shape?], ?_, fun hn => by cases hn⟩⟩
      show 0 + len * s ≤ xs'.toArray.size
      simp; omega
    by_cases hl0 : len * s = 0
    · have hlen : len = 0 := by
        rcases Nat.mul_eq_zero.1 hl0 with h | h
        · exact h
        · omega
      subst hlen
      simp only [List.replicate_zero, List.flatten_nil] at g1
      have g0' : ¬ (0 : Nat) > 2 ^ 24 := by omega
      simp only [Instr.buildSlice, Sem.run_bind, run_underlying ht, Result.andThen_ok, sizeTy_spec hs, Nat.zero_mul, g0', if_false, if_true, Sem.run_pure]
      rw [Array.toList_map, show (Array.map (fun i => (#[] : Array Value)[i % (#[] : Array Value).size]!) (Array.range 0)) = ([] : List Value).toArray by simp [Array.range], g1]
      simp only [Sem.run_bind, run_newRow, Result.andThen_ok, Sem.run_pure]
      exact ⟨φ.put A.top w.heap.size, _, _, h, g7, g5, g6⟩
    · simp only [Instr.buildSlice, Sem.run_bind, run_underlying ht, Result.andThen_ok, sizeTy_spec hs, g0, if_false, hl0, Sem.run_pure, h2, h1]
      have g8 : ((Array.range (len * s)).map fun i => z.toArray[i % z.toArray.size]!) = ((List.replicate len z).flatten).toArray := by
        apply Array.ext'
        rw [Array.toList_map, Array.toList_range]
        subst hzs
        simpa using rep_cells z len
      rw [Array.toList_map, g8, g1]
      simp only [Sem.run_bind, run_newRow, Result.andThen_ok, Sem.run_pure]
      exact ⟨φ.put A.top w.heap.size, _, _, h, g7, g5, g6⟩

/-- New cells that nobody will write. -/
theorem frzCells (hR : R φ A w) {cs cs' : List AVal} {xs : List Value} (hv : Vcs φ A w cs xs) {t : TypeId} {len : Nat} (hc : cs' = cs) :
    ∃ φ', R φ' A { w with heap := w.heap.push (.cells xs.toArray t) } ∧ Ext φ A w φ' A { w with heap := w.heap.push (.cells xs.toArray t) } ∧
      V φ' A { w with heap := w.heap.push (.cells xs.toArray t) } (.fsl cs' len (some len)) (.slice (some ⟨w.heap.size, 0, none⟩) len len) := by
  subst hc
  generalize hw : ({ w with heap := w.heap.push (.cells xs.toArray t) } : World) = w'
  have hh : w'.heap = w.heap.push (.cells xs.toArray t) := by rw [← hw]
  have hext : Ext φ A w ⟨φ.at_, fun b => φ.frz b ∨ b = w.heap.size⟩ A w' := by
    refine ⟨Nat.le_refl _, fun i _ h => ⟨h, rfl⟩, fun i hi hl => ?_, by rw [hh]; simp, fun b hb _ => ?_, fun b hb => ?_, fun b h => .inl h, fun b h => ?_, by subst hw; exact ⟨rfl, rfl, rfl⟩⟩
    · have := hR.lt i hl; omega
    · rw [hh, Array.getElem?_push_lt hb]; simp [Array.getElem?_eq_getElem hb]
    · simp only [World.shape?]
      rw [hh, Array.getElem?_push_lt hb]; simp [Array.getElem?_eq_getElem hb]
    · rcases h with h | h
      · exact .inl h
      · exact .inr (.inl (by omega))
  have hlt : ∀ i, A.live i → φ i < w.heap.size := fun i hl => hR.block_lt hl
  refine ⟨⟨φ.at_, fun b => φ.frz b ∨ b = w.heap.size⟩, ⟨hR.lt, fun i o ho => ?_, hR.inj, fun i hl h => ?_, fun b h => ?_⟩, hext, ?_⟩
  · obtain ⟨ob, h1, h2⟩ := hR.rel i o ho
    have hb := hlt i (by simp [Heap.live, ho])
    refine ⟨ob, ?_, h2.ext hext⟩
    rw [hh, Array.getElem?_push_lt hb]
    simpa [Array.getElem?_eq_getElem hb] using h1
  · have := hlt i hl
    rcases h with h | h
    · exact hR.sep i hl h
    · exact absurd h (by show φ i ≠ _; omega)
  · rw [hh, Array.size_push]
    rcases h with h | h
    · have := hR.flt b h; omega
    · omega
  · simp only [V]
    refine ⟨_, _, rfl, Nat.le_refl _, some_is _, .inr ⟨w.heap.size, 0, rfl, ⟨⟨by rw [hh]; simp, ?_⟩, .inr rfl⟩, ?_⟩⟩
    · rintro ⟨i, hl, hi⟩
      have := hlt i hl
      have hi' : φ i = w.heap.size := hi
      omega
    · have hv' := hv.ext hext
      have key : ∀ (cs : List AVal) (ys : List Value) (off : Nat), Vcs ⟨φ.at_, fun b => φ.frz b ∨ b = w.heap.size⟩ A w' cs ys → xs.drop off = ys → Vrow ⟨φ.at_, fun b => φ.frz b ∨ b = w.heap.size⟩ A w' w.heap.size off cs := by
        intro cs
        induction cs with
        | nil => intro ys off _ _; simp [Vrow]
        | cons c cs ih =>
          intro ys off hc hd
          cases ys with
          | nil => simp only [Vcs] at hc
          | cons y ys =>
            simp only [Vcs] at hc
            simp only [Vrow]
            have h0 : xs[off]? = some y := by rw [← List.head?_drop, hd]; rfl
            refine ⟨⟨y, ?_, hc.1.1, hc.1.2⟩, ih ys (off + 1) hc.2 (by rw [← List.tail_drop, hd]; rfl)⟩
            simp [World.cell?, hh, h0]
      exact key _ _ 0 hv' (by simp)

theorem sound_buildF {t e : TypeId} {len s : Nat} {z : List Value} {parts : Array (Nat × Operand)} {r : List (Nat × Nat × Arg)} (hz : zeroOf P e = some z) (ht : P.underlying t = some (.slice e))
    (hs : sizeTy P e = some s) (hl : len * s ≤ 2 ^ 24) (hzs : z.length = s) (hs0 : 0 < s) (hr : compParts (fun i => some (i * s, s)) parts.toList = some r) (hV : Vl φ A w ts a.tmps.toList) (hR : R φ A w)
    (h : ask P (.buildF len (List.replicate len z).flatten r) ts A K) :
    Res P φ A w K ((do pure (Next.value (← Instr.buildSlice t len (parts.map fun (p : Nat × Operand) => (p.1, a.eval p.2))))).run P w) := by
  obtain ⟨⟨v, h1, h2⟩, h3⟩ := zeroOf_spec hz
  simp only [ask, astep] at h
  cases hf : afill ts (((List.replicate len z).flatten).map .raw) r with
  | none => rw [hf] at h; exact h.elim
  | some cs =>
    rw [hf] at h
    obtain ⟨xs', g1, g2⟩ := fill_spec hV hr (Vcs.raws (rep_raws h3 len)) hf
    have g0 : ¬ len * s > 2 ^ 24 := by omega
    have hcl : cs.length = len * s := by
      have : ∀ (r : List (Nat × Nat × Arg)) (cs cs' : List AVal), afill ts cs r = some cs' → cs'.length = cs.length := by
        intro r
        induction r with
        | nil => intro cs cs' hf; simp only [afill, Option.some.injEq] at hf; rw [hf]
        | cons p r ih =>
          intro cs cs' hf
          obtain ⟨off, size, x⟩ := p
          simp only [afill] at hf
          split at hf
          · rename_i ds _
            by_cases h5 : ds.length = size ∧ off + size ≤ cs.length
            · rw [if_pos h5] at hf
              rw [ih _ _ hf, splice_length]; omega
            · rw [if_neg h5] at hf; cases hf
          · cases hf
      rw [this _ _ _ hf]
      simp [hzs]
    have hxl := g2.length
    obtain ⟨φ', g5, g6, g7⟩ := frzCells (t := e) hR g2 (len := len) (cs' := cs) rfl
    by_cases hl0 : len * s = 0
    · have hlen : len = 0 := by
        rcases Nat.mul_eq_zero.1 hl0 with h | h
        · exact h
        · omega
      subst hlen
      simp only [List.replicate_zero, List.flatten_nil] at g1
      have g0' : ¬ (0 : Nat) > 2 ^ 24 := by omega
      simp only [Instr.buildSlice, Sem.run_bind, run_underlying ht, Result.andThen_ok, sizeTy_spec hs, Nat.zero_mul, g0', if_false, if_true, Sem.run_pure]
      rw [Array.toList_map, show (Array.map (fun i => (#[] : Array Value)[i % (#[] : Array Value).size]!) (Array.range 0)) = ([] : List Value).toArray by simp [Array.range], g1]
      simp only [Sem.run_bind, run_newRow, Result.andThen_ok, Sem.run_pure]
      exact ⟨φ', _, _, h, g7, g5, g6⟩
    · simp only [Instr.buildSlice, Sem.run_bind, run_underlying ht, Result.andThen_ok, sizeTy_spec hs, g0, if_false, hl0, Sem.run_pure, h2, h1]
      have g8 : ((Array.range (len * s)).map fun i => z.toArray[i % z.toArray.size]!) = ((List.replicate len z).flatten).toArray := by
        apply Array.ext'
        rw [Array.toList_map, Array.toList_range]
        subst hzs
        simpa using rep_cells z len
      rw [Array.toList_map, g8, g1]
      simp only [Sem.run_bind, run_newRow, Result.andThen_ok, Sem.run_pure]
      exact ⟨φ', _, _, h, g7, g5, g6⟩

end Go.Ab
