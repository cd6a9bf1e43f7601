/- The abstract layer, part 9: each operation does in the model what part 3 says of it (append, copy, clear, make). -/
import Derived.Test.YtookmilggbnoiaaGreatAbSound3
import Derived.Lib.ConvBytes
set_option linter.unusedSimpArgs false
set_option linter.unusedVariables false
namespace Go.Ab

variable {P : Program} {φ φ' : Emb} {A A' : Heap} {w w' : World} {ts : List AVal} {a : Act} {K : AVal → Heap → Prop}

theorem zeroCells_list (z : List Value) (n : Nat) : (Builtin.zeroCells z.toArray n).toList = (List.replicate n z).flatten := by
  simp only [Builtin.zeroCells]
  rw [Array.toList_map, Array.toList_range]
  simpa using rep_cells z n

/-- A new block behind which a slice of the abstract heap stands. -/
theorem newSlice (hR : R φ A w) (hw : w.heap = w'.heap) {cs : List AVal} {xs ys : List Value} (hv : Vcs φ A w cs xs) {t : TypeId} {l c s : Nat} (hl : l ≤ c) (hc : c * s ≤ xs.length + ys.length) {cap : Option Nat} (hcap : CapIs cap c) (hce : cap = none → c * s = xs.length + ys.length)
    (h : K (.sl A.top 0 l cap s) (A.push (.cells cs))) (hio : Io w w' := by exact ⟨rfl, rfl, rfl⟩) :
    Got φ A w K (.slice (some ⟨w.heap.size, 0, none⟩) l c) { w' with heap := w'.heap.push (.cells (xs ++ ys).toArray t) } := by
  have hl1 := hv.length
  obtain ⟨ob, hob⟩ : ∃ ob, ob = Obj.cells (xs ++ ys).toArray t := ⟨_, rfl⟩
  have hrel : Rel φ A w (.cells cs) ob := by
    refine ⟨(xs ++ ys).toArray, t, (0, 0), hob, .inl (Nat.le_refl _), by simp; omega, ?_⟩
    rw [hl1]
    simpa using hv
  obtain ⟨g1, g2⟩ := hR.push (w' := { w' with heap := w'.heap.push ob }) (by rw [← hw]) hrel ⟨hio.1, hio.2.1, hio.2.2⟩
  rw [← hob]
  refine ⟨φ.put A.top w.heap.size, _, _, h, ?_, g1, g2⟩
  simp only [V]
  refine ⟨_, _, rfl, by rw [Heap.top_push]; omega, hl, hcap, fun _ => ⟨by simp, (t, (xs ++ ys).length), ?_, ?_, ?_⟩⟩
  · simp [World.shape?, ← hw, hob]
  · simp only [Nat.zero_add, List.length_append]; exact hc
  · simp only [Nat.zero_add, List.length_append]; exact hce

theorem sound_mkSlice {t e : TypeId} {s b : Nat} {z : List Value} {l c : Arg} {vl vc : Value} (ht : P.underlying t = some (.slice e)) (hs : sizeTy P e = some s) (hb : bytesTy P e = some b) (hz : zeroOf P e = some z) (hzs : z.length = s) (hs0 : 0 < s)
    (hl : V φ A w (l.ev ts) vl) (hc : V φ A w (c.ev ts) vc) (hR : R φ A w) (h : ask P (.mkSlice s b z l c) ts A K) :
    Res P φ A w K ((do pure (Next.value (← Instr.makeSlice t vl vc))).run P w) := by
  obtain ⟨⟨v, h1, h2⟩, h3⟩ := zeroOf_spec hz
  simp only [ask, astep] at h
  generalize l.ev ts = b1 at h hl
  generalize c.ev ts = b2 at h hc
  cases b1 with
  | raw b1 =>
    cases b1 with
    | int k1 m =>
      cases b2 with
      | raw b2 =>
        cases b2 with
        | int k2 n =>
          simp only [V] at hl hc
          subst hl hc
          obtain ⟨⟨g1, g2, g3, g4⟩, h⟩ := h
          obtain ⟨i, g5, g6⟩ := bytesTy_spec hb
          have w1 : IntKind.i64.wrap m = m := by simp [IntKind.wrap, IntKind.bits, IntKind.signed]; omega
          have w2 : IntKind.i64.wrap n = n := by simp [IntKind.wrap, IntKind.bits, IntKind.signed]; omega
          have c1 : (decide (n < 0) || decide ((i.bytes : Int) * n > 2 ^ 48)) = false := by
            rw [g6]; simp; omega
          have c2 : (decide (m < 0)) = false := by simp; omega
          have c3 : (decide (m > n)) = false := by simp; omega
          by_cases hn : n.toNat * s = 0
          · have hn0 : n = 0 := by
              rcases Nat.mul_eq_zero.1 hn with h | h
              · omega
              · omega
            have hm0 : m = 0 := by omega
            simp only [Instr.makeSlice, asInt, asIntOf, Sem.run_bind, run_underlying ht, Result.andThen_ok, Sem.run_pure, g5, w1, w2, c1, c2, c3, Bool.or_self, Bool.false_eq_true, if_false, run_askRoom, sizeTy_spec hs, hn, if_true, run_newRow]
            have g8 : (Array.map (fun i => (#[] : Array Value)[i % (#[] : Array Value).size]!) (Array.range 0)) = ([] ++ [] : List Value).toArray := by simp [Array.range]
            rw [g8]
            have g9 : repCells z n.toNat = [] := by simp [repCells, hn0]
            rw [g9] at h
            exact newSlice (w' := w) hR rfl (ys := []) (by simp [Vcs]) (by omega) (by simp [hn0]) (some_is _) (fun hn => by cases hn) h
          · simp only [Instr.makeSlice, asInt, asIntOf, Sem.run_bind, run_underlying ht, Result.andThen_ok, Sem.run_pure, g5, w1, w2, c1, c2, c3, Bool.or_self, Bool.false_eq_true, if_false, run_askRoom, sizeTy_spec hs, hn, h2, h1, run_newRow]
            have g8 : ((Array.range (n.toNat * s)).map fun i => z.toArray[i % z.toArray.size]!) = ((List.replicate n.toNat z).flatten ++ []).toArray := by
              apply Array.ext'
              rw [Array.toList_map, Array.toList_range]
              subst hzs
              simpa using rep_cells z n.toNat
            rw [g8]
            rw [repCells_map] at h
            exact newSlice (w' := w) hR rfl (ys := []) (Vcs.raws (rep_raws h3 _)) (by omega) (by simp [hzs]) (some_is _) (fun hn => by cases hn) h
        | _ => exact h.elim
      | _ => exact h.elim
    | _ => exact h.elim
  | _ => exact h.elim

/-- '[]byte(s)': a new row, which has a mark behind its cells. -/
theorem sound_strBytes {sr d e : TypeId} {x : Arg} {v : Value} (hs : P.underlying sr = some .string) (hd : P.underlying d = some (.slice e)) (he : P.underlying e = some (.int .u8)) (hv : V φ A w (x.ev ts) v) (hR : R φ A w) (h : ask P (.strBytes x) ts A K) :
    Res P φ A w K ((do pure (Next.value (← convert sr d v))).run P w) := by
  simp only [ask, astep] at h
  generalize x.ev ts = b at h hv
  cases b with
  | raw b =>
    cases b with
    | string s =>
      simp only [V] at hv
      subst hv
      simp only [Sem.run_bind, Lib.run_convert_string_bytes w sr d e s hs hd he, Result.andThen_ok, Sem.run_pure]
      have hh : (Lib.bytesWorld w e s).heap = w.heap.push (.cells (Lib.bytesCells w e s) e ((Lib.bytesCells w e s).size, (Lib.bytesCells w e s).size + 1)) := by
        apply Array.ext_getElem?
        intro i
        rcases Nat.lt_trichotomy i w.heap.size with hi | hi | hi
        · rw [Lib.bytesWorld_at_old w e s i hi, Array.getElem?_push_lt hi, Array.getElem?_eq_getElem hi]
        · subst hi
          rw [Lib.bytesWorld_at_new]
          simp
        · rw [Array.getElem?_eq_none (by rw [Lib.bytesWorld_size]; omega), Array.getElem?_eq_none (by rw [Array.size_push]; omega)]
      have hcap : s.size ≤ grownCap w s.size 0 e := by
        simp only [grownCap, Question.cut]
        omega
      have hcs : (Lib.bytesCells w e s).toList = (s.data.toList.map fun b => Value.int .u8 b.toNat) ++ List.replicate (grownCap w s.size 0 e - s.size) (.int .u8 0) := by
        simp [Lib.bytesCells]
      have hlen : s.data.toList.length = s.size := rfl
      have hsz : (Lib.bytesCells w e s).size = grownCap w s.size 0 e := by
        rw [← Array.length_toList, hcs, List.length_append, List.length_map, List.length_replicate, hlen]
        omega
      have hrel : Rel φ A w (.cells (s.data.toList.map fun b => .raw (.int .u8 b.toNat))) (.cells (Lib.bytesCells w e s) e ((Lib.bytesCells w e s).size, (Lib.bytesCells w e s).size + 1)) := by
        refine ⟨_, _, _, rfl, .inr (Nat.le_refl _), by rw [List.length_map, hlen, hsz]; exact hcap, ?_⟩
        rw [hcs, List.take_append_of_le_length (by simp), List.take_of_length_le (by simp)]
        have : ∀ l : List UInt8, Vcs φ A w (l.map fun b => AVal.raw (.int .u8 b.toNat)) (l.map fun b => Value.int .u8 b.toNat) := by
          intro l
          induction l with
          | nil => simp [Vcs]
          | cons x l ih => simp only [List.map_cons, Vcs]; exact ⟨⟨rfl, .raw _⟩, ih⟩
        exact this _
      obtain ⟨g1, g2⟩ := hR.push hh hrel ⟨rfl, rfl, rfl⟩
      refine ⟨φ.put A.top w.heap.size, _, _, h, ?_, g1, g2⟩
      simp only [V]
      refine ⟨_, _, rfl, by rw [Heap.top_push]; omega, hcap, (fun _ hk => by cases hk), fun _ => ⟨by simp, (e, (Lib.bytesCells w e s).size), ?_, ?_, ?_⟩⟩
      · rw [Emb.put_eq]
        simp only [World.shape?, hh]
        simp
      · simp only []
        rw [hsz]
        omega
      · intro _
        simp only []
        rw [hsz]
        omega
    | _ => exact h.elim
  | _ => exact h.elim

/-! ## append -/

/-- A source of cells: so many elements, and each first part of them can be read. -/
theorem src_spec {s : Nat} {b : AVal} {v : Value} {C : Nat → List AVal → Prop} (hv : V φ A w b v) (hR : R φ A w) (h : srcCells req False A s b C) :
    ∃ n cs, C n cs ∧ cs.length = n * s ∧ (∀ w2 : World, (Builtin.lenOf v).run P w2 = .ok n w2) ∧
      ∀ m, m ≤ n → ∃ xs : List Value, Vcs φ A w (cs.take (m * s)) xs ∧ ∀ w2 : World, w2.heap = w.heap → (Builtin.firstCells s m v).run P w2 = .ok xs.toArray w2 := by
  cases b with
  | raw b =>
    simp only [V] at hv
    subst hv
    cases v with
    | slice base n c =>
      cases base with
      | none =>
        obtain ⟨rfl, h⟩ := h
        refine ⟨0, [], h, by simp, fun w2 => rfl, fun m hm => ⟨[], by simp [Vcs], fun w2 _ => rfl⟩⟩
      | some _ => exact h.elim
    | string str =>
      obtain ⟨rfl, h⟩ := h
      refine ⟨str.size, _, h, by simp, fun w2 => rfl, fun m hm => ⟨(str.data.toList.take m).map fun b => .int .u8 b.toNat, ?_, fun w2 _ => ?_⟩⟩
      · rw [Nat.mul_one, ← List.map_take]
        have : ∀ l : List UInt8, Vcs φ A w (l.map fun b => AVal.raw (.int .u8 b.toNat)) (l.map fun b => Value.int .u8 b.toNat) := by
          intro l
          induction l with
          | nil => simp [Vcs]
          | cons x l ih => simp only [List.map_cons, Vcs]; exact ⟨⟨rfl, .raw _⟩, ih⟩
        exact this _
      · simp only [Builtin.firstCells, Sem.run_pure]
        congr 1
        apply Array.ext'
        simp
    | _ => exact h.elim
  | fsl cs n cap =>
    obtain ⟨hl, h⟩ := h
    simp only [V] at hv
    obtain ⟨base, c, rfl, _, _, hb⟩ := hv
    refine ⟨n, cs, h, hl, fun w2 => rfl, fun m hm => ?_⟩
    rcases hb with hb | ⟨b, off, rfl, g1, g2⟩
    · subst hb
      refine ⟨[], by simp [Vcs], fun w2 _ => ?_⟩
      have hm0 : m * s = 0 := by
        have : m * s ≤ n * s := Nat.mul_le_mul_right _ hm
        simp at hl; omega
      cases base with
      | none => rfl
      | some ad => simp only [Builtin.firstCells, hm0]; rfl
    · have : m * s ≤ cs.length := by rw [hl]; exact Nat.mul_le_mul_right _ hm
      obtain ⟨xs, h5, h6⟩ := (g2.take (m * s)).list
      refine ⟨xs, h5, fun w2 hw2 => ?_⟩
      have h7 := h5.length
      rw [List.length_take, Nat.min_eq_left this] at h7
      simp only [Builtin.firstCells]
      rw [h7]
      exact run_loadCells_list w2 _ xs fun j v hj => by
        rw [add_none, cell_of_block (w' := w2) (w := w) (by rw [hw2])]; exact h6 j v hj
  | sl i off n cap e =>
    simp only [srcCells] at h
    simp only [V] at hv
    obtain ⟨ad, c, rfl, hlt, hlc, _, hb⟩ := hv
    cases ho : A.get i with
    | none => rw [ho] at h; exact h.elim
    | some o =>
      cases o with
      | map => rw [ho] at h; exact h.elim
      | loop => rw [ho] at h; exact h.elim
      | cells vs =>
        rw [ho] at h
        obtain ⟨⟨rfl, hl⟩, h⟩ := h
        obtain ⟨rfl, _⟩ := hb (by simp [Heap.live, ho])
        refine ⟨n, _, h, by rw [List.length_take, List.length_drop]; omega, fun w2 => rfl, fun m hm => ?_⟩
        have hms : m * e ≤ n * e := Nat.mul_le_mul_right _ hm
        rw [List.take_take, Nat.min_eq_left hms]
        obtain ⟨xs, h5, h6⟩ := ((hR.vrow (off := off) ho).take (m * e)).list
        refine ⟨xs, h5, fun w2 hw2 => ?_⟩
        have h7 := h5.length
        rw [List.length_take, List.length_drop, Nat.min_eq_left (by omega)] at h7
        simp only [Builtin.firstCells]
        rw [h7]
        exact run_loadCells_list w2 _ xs fun j v hj => by
          rw [add_none, cell_of_block (w' := w2) (w := w) (by rw [hw2])]; exact h6 j v hj
  | _ => exact h.elim

/-- A block's cells are written in place. -/
theorem run_storeBlock {b : Nat} {el : TypeId} {fz : Nat × Nat} : ∀ {xs : List Value} {c : List Value} {w : World} (off k : Nat), w.heap[b]? = some (.cells c.toArray el fz) → (fz.2 ≤ fz.1 ∨ c.length ≤ fz.1) → off + k + xs.length ≤ c.length →
    (xs.all fun v => v.oneCell') = true →
    ∃ w', (storeCells ⟨b, off, none⟩ xs k).run P w = .ok () w' ∧ w'.heap = w.heap.setIfInBounds b (.cells (c.take (off + k) ++ (xs ++ c.drop (off + k + xs.length))).toArray el fz) ∧ Io w w'
  | [], c, w, off, k, hb, _, _, _ => by
    refine ⟨w, by simp [storeCells], ?_, .rfl⟩
    simp only [List.nil_append, List.length_nil, Nat.add_zero, List.take_append_drop]
    apply Array.ext_getElem?
    intro i
    rw [Array.getElem?_setIfInBounds]
    by_cases hi : b = i
    · subst hi
      rw [if_pos rfl, hb]
      split
      · rfl
      · rename_i hlt; simp [Array.getElem?_eq_none (Nat.le_of_not_lt hlt)] at hb
    · rw [if_neg hi]
  | x :: xs, c, w, off, k, hb, hfz, hl, h1 => by
    simp only [List.length_cons] at hl
    simp only [List.all_cons, Bool.and_eq_true] at h1
    have hbs : b < w.heap.size := by
      rcases Nat.lt_or_ge b w.heap.size with hlt | hge
      · exact hlt
      · simp [Array.getElem?_eq_none hge] at hb
    have hc : ∃ v, w.cell? ⟨b, off + k, none⟩ = some v := by
      refine ⟨c[off + k], ?_⟩
      simp [World.cell?, hb, show off + k < c.length by omega]
    have hf : w.frozen? ⟨b, off + k, none⟩ = false := by
      obtain ⟨lo, hi⟩ := fz
      simp [World.frozen?, hb]
      intro hlo
      rcases hfz with h | h
      · simp at h; omega
      · simp at h; omega
    have hs := setCell_heap (w := w) (off := off + k) (v := x) hb
    have hb' : (w.setCell ⟨b, off + k, none⟩ x).heap[b]? = some (.cells (c.set (off + k) x).toArray el fz) := by
      rw [hs, Array.getElem?_setIfInBounds_self_of_lt hbs]; simp
    obtain ⟨w', g1, g2, g3⟩ := run_storeBlock (xs := xs) off (k + 1) hb' (by simpa using hfz) (by simp; omega) h1.2
    refine ⟨w', ?_, ?_, ⟨g3.1, g3.2.1, g3.2.2⟩⟩
    · simp only [storeCells, add_none, Sem.run_bind]
      rw [run_store_cell hc hf h1.1]
      exact g1
    · rw [g2, hs, Array.setIfInBounds_setIfInBounds]
      congr 2
      have h2 : (c.set (off + k) x).take (off + (k + 1)) = c.take (off + k) ++ [x] := by
        rw [show off + (k + 1) = off + k + 1 by omega, List.take_set, List.take_succ_eq_append_getElem (by omega), List.set_append_right _ _ (by simp; omega)]
        simp [Nat.min_eq_left (show off + k ≤ c.length by omega)]
      have h3 : (c.set (off + k) x).drop (off + (k + 1) + xs.length) = c.drop (off + k + (xs.length + 1)) := by
        rw [List.drop_set_of_lt (by omega)]
        congr 1
        omega
      rw [h2, h3, List.length_cons]
      simp

theorem Vcs.ones : ∀ {cs : List AVal} {xs : List Value}, Vcs φ A w cs xs → (xs.all fun v => v.oneCell') = true
  | [], [], _ => rfl
  | _ :: _, _ :: _, h => by simp only [Vcs] at h; simp [h.1.1, Vcs.ones h.2]
  | [], _ :: _, h => by simp only [Vcs] at h
  | _ :: _, [], h => by simp only [Vcs] at h

/-- An object is given up, and its block stands for a new one. -/
theorem R.renew (hR : R φ A w) {i : Nat} {vs : List AVal} {c : List Value} {el : TypeId} {fz : Nat × Nat} (ho : A.get i = some (.cells vs)) (hb : w.heap[φ i]? = some (.cells c.toArray el fz)) {c' : List Value} (hcl : c'.length = c.length)
    (hfz : fz.2 ≤ fz.1 ∨ c.length ≤ fz.1) (hw : w'.heap = w.heap.setIfInBounds (φ i) (.cells c'.toArray el fz)) {cs : List AVal} (hcs : Vcs φ A w cs (c'.take cs.length)) (hcsl : cs.length ≤ c'.length) (hio : Io w w' := by exact ⟨rfl, rfl, rfl⟩) :
    R (φ.put A.top (φ i)) ((A.del i).push (.cells cs)) w' ∧ Ext φ A w (φ.put A.top (φ i)) ((A.del i).push (.cells cs)) w' := by
  have hli : A.live i := by simp [Heap.live, ho]
  have hit : i < A.top := hR.lt i hli
  have hbs : φ i < w.heap.size := by
    rcases Nat.lt_or_ge (φ i) w.heap.size with hlt | hge
    · exact hlt
    · simp [Array.getElem?_eq_none hge] at hb
  have hget : ∀ j, ((A.del i).push (.cells cs)).get j = if j = A.top then some (.cells cs) else if j = i then none else A.get j := by
    intro j
    rw [Heap.get_push_if, Heap.top_del, Heap.get_del_if]
  have hlive : ∀ j, ((A.del i).push (.cells cs)).live j → j = A.top ∨ (j < A.top ∧ j ≠ i ∧ A.live j) := by
    intro j hl
    unfold Heap.live at hl
    rw [hget] at hl
    by_cases hj : j = A.top
    · exact .inl hj
    · rw [if_neg hj] at hl
      by_cases hji : j = i
      · rw [if_pos hji] at hl; exact absurd rfl hl
      · rw [if_neg hji] at hl
        exact .inr ⟨hR.lt j hl, hji, hl⟩
  have hext : Ext φ A w (φ.put A.top (φ i)) ((A.del i).push (.cells cs)) w' := by
    refine ⟨by rw [Heap.top_push, Heap.top_del]; omega, fun j hj hl => ?_, fun j hj hl => ?_, by rw [hw]; simp, fun b hbb hm => ?_, fun b hbb => ?_, fun _ h => h, fun _ h => .inl h, hio⟩
    · rcases hlive j hl with h | ⟨_, _, h⟩
      · omega
      · exact ⟨h, Emb.put_ne _ _ (by omega)⟩
    · rcases hlive j hl with h | ⟨h, _, _⟩
      · right; rw [h, Emb.put_eq]; exact ⟨i, hli, rfl⟩
      · omega
    · rw [hw, Array.getElem?_setIfInBounds_ne]
      intro he; exact hm ⟨i, hli, he⟩
    · simp only [World.shape?]
      rw [hw]
      by_cases he : φ i = b
      · subst he
        rw [Array.getElem?_setIfInBounds_self_of_lt hbb, hb]
        simp [hcl]
      · rw [Array.getElem?_setIfInBounds_ne he]
  refine ⟨⟨fun j hl => ?_, fun j o hj => ?_, fun j k hj hk he => ?_, fun j hl => ?_, fun b h => Nat.lt_of_lt_of_le (hR.flt b h) hext.size⟩, hext⟩
  · rcases hlive j hl with h | ⟨h, _⟩ <;> (rw [Heap.top_push, Heap.top_del]; omega)
  · rw [hget] at hj
    by_cases hjt : j = A.top
    · rw [if_pos hjt] at hj
      cases hj
      refine ⟨.cells c'.toArray el fz, ?_, c'.toArray, el, fz, rfl, by simpa [hcl] using hfz, by simpa using hcsl, ?_⟩
      · rw [hjt, Emb.put_eq, hw, Array.getElem?_setIfInBounds_self_of_lt hbs]
      · simpa using hcs.ext hext
    · rw [if_neg hjt] at hj
      by_cases hji : j = i
      · rw [if_pos hji] at hj; cases hj
      · rw [if_neg hji] at hj
        obtain ⟨ob, h1, h2⟩ := hR.rel j o hj
        refine ⟨ob, ?_, h2.ext hext⟩
        rw [Emb.put_ne _ _ hjt, hw, Array.getElem?_setIfInBounds_ne]
        · exact h1
        · intro he; exact hji (hR.inj j i (by simp [Heap.live, hj]) hli he.symm)
  · rcases hlive j hj with h | ⟨h, h', h''⟩ <;> rcases hlive k hk with g | ⟨g, g', g''⟩
    · omega
    · rw [h, Emb.put_eq, Emb.put_ne _ _ (by omega)] at he
      exact absurd (hR.inj i k hli g'' he) (Ne.symm g')
    · rw [g, Emb.put_eq, Emb.put_ne _ _ (by omega)] at he
      exact absurd (hR.inj j i h'' hli he) h'
    · rw [Emb.put_ne _ _ (by omega), Emb.put_ne _ _ (by omega)] at he
      exact hR.inj j k h'' g'' he
  · rcases hlive j hl with h | ⟨h, _, h'⟩
    · rw [h, Emb.put_eq]; exact hR.sep i hli
    · rw [Emb.put_ne _ _ (by omega)]; exact hR.sep j h'

theorem growBy_le (n : Nat) : ∀ (r c : Nat), c < n → Builtin.growBy n r c ≤ n + (n + 768) / 4
  | 0, c, h => by simp only [Builtin.growBy]; omega
  | r + 1, c, h => by
    simp only [Builtin.growBy]
    rw [if_neg (by omega)]
    by_cases h2 : c + (c + 768) / 4 < n
    · exact growBy_le n r _ h2
    · cases r with
      | zero => simp only [Builtin.growBy]; omega
      | succ r => simp only [Builtin.growBy]; rw [if_pos (by omega)]; omega

theorem nextslicecap_le {n c : Nat} (h : c < n) : Builtin.nextslicecap n c ≤ 2 * n := by
  unfold Builtin.nextslicecap
  split
  · omega
  · split
    · omega
    · have := growBy_le n 4 c h
      omega

end Go.Ab
