/- The abstract layer, part 4: the model's own loads, stores and types over abstract heaps. -/
import Derived.Test.YtookmilggbnoiaaGreatAbOps
import Derived.Laws.Cells
import Derived.Laws.Entries
set_option linter.unusedSimpArgs false
set_option linter.unusedVariables false
namespace Go.Ab

variable {P : Program} {φ φ' : Emb} {A A' : Heap} {w w' : World}

theorem add_none (b off n : Nat) : Addr.add ⟨b, off, none⟩ n = ⟨b, off + n, none⟩ := by
  unfold Addr.add
  split
  · rename_i h; subst h; rfl
  · rfl

theorem run_typeInfo {t : TypeId} {i : TypeInfo} (h : P.info? t = some i) (w : World) : (typeInfo t).run P w = .ok i w := by
  simp [typeInfo, h]

theorem run_sizeOf {t : TypeId} {i : TypeInfo} (h : P.info? t = some i) (w : World) : (sizeOf t).run P w = .ok i.size w := by
  simp [sizeOf, run_typeInfo h]

theorem run_zeroValue {t : TypeId} {i : TypeInfo} {z : Value} (h : P.info? t = some i) (hz : i.zero = some z) (w : World) : (zeroValue t).run P w = .ok z w := by
  simp [zeroValue, run_typeInfo h, hz]

def aggDesc : TypeDesc → Bool
  | .struct _ | .array _ _ => true
  | _ => false

theorem run_isAgg {t : TypeId} {d : TypeDesc} (h : P.underlying t = some d) (w : World) : (isAgg t).run P w = .ok (aggDesc d) w := by
  cases d <;> simp [isAgg, run_underlying h, aggDesc]

theorem Vrow.list {b : Nat} : ∀ {cs : List AVal} {off : Nat}, Vrow φ A w b off cs → ∃ xs : List Value, Vcs φ A w cs xs ∧ ∀ j v, xs[j]? = some v → w.cell? ⟨b, off + j, none⟩ = some v
  | [], _, _ => ⟨[], by simp [Vcs], by simp⟩
  | c :: cs, off, h => by
    simp only [Vrow] at h
    obtain ⟨⟨x, h1, h2, h3⟩, h4⟩ := h
    obtain ⟨xs, h5, h6⟩ := Vrow.list h4
    refine ⟨x :: xs, by simp only [Vcs]; exact ⟨⟨h2, h3⟩, h5⟩, fun j v hj => ?_⟩
    cases j with
    | zero => simp at hj; subst hj; exact h1
    | succ j => rw [show off + (j + 1) = off + 1 + j by omega]; exact h6 j v (by simpa using hj)

theorem run_loadRow {b off n : Nat} {cs : List AVal} (h : Vrow φ A w b off cs) (hn : n ≤ cs.length) :
    ∃ xs : List Value, (loadCells ⟨b, off, none⟩ n).run P w = .ok xs.toArray w ∧ Vcs φ A w (cs.take n) xs := by
  obtain ⟨xs, h1, h2⟩ := (h.take n).list
  have hl := h1.length
  rw [List.length_take, Nat.min_eq_left hn] at hl
  refine ⟨xs, ?_, h1⟩
  rw [hl]
  exact run_loadCells_list w _ xs fun j v hj => by rw [add_none]; exact h2 j v hj

theorem R.vrow (hR : R φ A w) {i off : Nat} {vs : List AVal} (ho : A.get i = some (.cells vs)) : Vrow φ A w (φ i) off (vs.drop off) := by
  have h : ∀ (n : Nat) (cs : List AVal) (off : Nat), cs.length = n → cs = vs.drop off → Vrow φ A w (φ i) off cs := by
    intro n
    induction n with
    | zero => intro cs off hl _; rw [List.length_eq_zero_iff.1 hl]; simp [Vrow]
    | succ n ih =>
      intro cs off hl hd
      cases cs with
      | nil => simp at hl
      | cons c cs =>
        have hc : vs[off]? = some c := by
          rw [← List.head?_drop, ← hd]; rfl
        obtain ⟨x, h1, _, h3, h4⟩ := hR.cell ho hc
        simp only [Vrow]
        refine ⟨⟨x, h1, h3, h4⟩, ih cs (off + 1) (by simpa using hl) ?_⟩
        rw [← List.tail_drop, ← hd]; rfl
  exact h _ _ _ rfl rfl

theorem run_loadLive (hR : R φ A w) {i off n : Nat} {vs : List AVal} (ho : A.get i = some (.cells vs)) (hn : off + n ≤ vs.length) :
    ∃ xs : List Value, (loadCells ⟨φ i, off, none⟩ n).run P w = .ok xs.toArray w ∧ Vcs φ A w ((vs.drop off).take n) xs :=
  run_loadRow (hR.vrow ho) (by rw [List.length_drop]; omega)

theorem Tr.set_set : ∀ (n i : Nat) (t : Tr) (x y : Option AObj), Tr.set n (Tr.set n t i x) i y = Tr.set n t i y := by
  intro n
  induction n with
  | zero => intro i t x y; cases t <;> rfl
  | succ n ih =>
    intro i t x y
    cases t <;>
    · simp only [Tr.set]
      split
      · simp only [Tr.set]; rw [if_pos (by assumption)]
      · split
        · simp only [Tr.set]; rw [if_neg (by assumption), if_pos (by assumption), ih]
        · simp only [Tr.set]; rw [if_neg (by assumption), if_neg (by assumption), ih]

theorem Heap.set_set (A : Heap) (i : Nat) (o o' : AObj) : (A.set i o).set i o' = A.set i o' := by
  simp only [Heap.set, Tr.set_set]

theorem splice_cons (vs : List AVal) (off : Nat) (c : AVal) (cs : List AVal) (h : off < vs.length) : splice (vs.set off c) (off + 1) cs = splice vs off (c :: cs) := by
  unfold splice
  have h1 : (vs.set off c).take (off + 1) = vs.take off ++ [c] := by
    rw [List.take_set, List.take_succ_eq_append_getElem h, List.set_append_right _ _ (by simp; omega)]
    simp [Nat.min_eq_left (Nat.le_of_lt h)]
  have h2 : (vs.set off c).drop (off + 1 + cs.length) = vs.drop (off + (c :: cs).length) := by
    rw [List.drop_set_of_lt (by omega), List.length_cons]
    congr 1
    omega
  rw [h1, h2]
  simp

theorem splice_length (vs : List AVal) (off : Nat) (cs : List AVal) (h : off + cs.length ≤ vs.length) : (splice vs off cs).length = vs.length := by
  simp [splice]; omega

theorem run_store_cell {b off : Nat} (hc : ∃ x, w.cell? ⟨b, off, none⟩ = some x) (hf : w.frozen? ⟨b, off, none⟩ = false) {v : Value} (h1 : v.oneCell' = true) :
    (Go.store ⟨b, off, none⟩ v).run P w = .ok () (w.setCell ⟨b, off, none⟩ v) := by
  obtain ⟨x, hx⟩ := hc
  rw [Go.run_store P w _ v _ h1, hx]
  simp [hf]

/-- Many cells of a live object are written. -/
theorem run_storeLive {i : Nat} : ∀ {cs : List AVal} {xs : List Value} {vs : List AVal} {A : Heap} {w : World} (off k : Nat), R φ A w → A.get i = some (.cells vs) → Vcs φ A w cs xs → off + k + cs.length ≤ vs.length →
    ∃ w', (storeCells ⟨φ i, off, none⟩ xs k).run P w = .ok () w' ∧ R φ (A.set i (.cells (splice vs (off + k) cs))) w' ∧ Ext φ A w φ (A.set i (.cells (splice vs (off + k) cs))) w'
  | [], [], vs, A, w, off, k, hR, ho, _, _ => by
    have he : splice vs (off + k) [] = vs := by simp [splice]
    have hs : (A.set i (.cells (splice vs (off + k) []))).Sub A := by
      refine ⟨Nat.le_refl _, fun j o hj => ?_⟩
      rw [Heap.get_set_if, he] at hj
      split at hj
      · rename_i h; subst h; rw [ho]; exact hj
      · exact hj
    exact ⟨w, by simp [storeCells], hR.sub hs, .sub hR hs⟩
  | c :: cs, x :: xs, vs, A, w, off, k, hR, ho, hv, hl => by
    simp only [Vcs] at hv
    simp only [List.length_cons] at hl
    obtain ⟨c0, hc0⟩ : ∃ c0, vs[off + k]? = some c0 := ⟨vs[off + k], List.getElem?_eq_getElem (by omega)⟩
    obtain ⟨x0, h1, h2, _, _⟩ := hR.cell ho hc0
    obtain ⟨h3, h4⟩ := hR.store ho (off := off + k) hv.1.1 hv.1.2
    obtain ⟨w', h5, h6, h7⟩ := run_storeLive (cs := cs) (xs := xs) (vs := vs.set (off + k) c) off (k + 1) h3 (Heap.get_set _ _ _) (hv.2.ext h4) (by simp; omega)
    rw [show off + (k + 1) = off + k + 1 by omega, splice_cons _ _ _ _ (by omega), Heap.set_set] at h6 h7
    refine ⟨w', ?_, h6, h4.trans h7⟩
    simp only [storeCells, add_none, Sem.run_bind]
    rw [run_store_cell ⟨x0, h1⟩ h2 hv.1.1]
    exact h5
  | [], _ :: _, _, _, _, _, _, _, _, hv, _ => by simp only [Vcs] at hv
  | _ :: _, [], _, _, _, _, _, _, _, hv, _ => by simp only [Vcs] at hv

theorem run_newVar (t : TypeId) (v : Value) : (newVar t v).run P w = .ok ⟨w.heap.size, 0, none⟩ { w with heap := w.heap.push (.cells v.cells t) } := by
  simp [newVar, newRow]

theorem run_newRow (t : TypeId) (c : Array Value) : (newRow t c).run P w = .ok ⟨w.heap.size, 0, none⟩ { w with heap := w.heap.push (.cells c t) } := by
  simp [newRow]

/-- The cells of a value, abstract and not. -/
theorem V.cells {a : AVal} {v : Value} {cs : List AVal} (hv : V φ A w a v) (hc : a.cells? = some cs) : ∃ xs : List Value, v.cells = xs.toArray ∧ Vcs φ A w cs xs := by
  cases a with
  | agg ds =>
    simp only [AVal.cells?, Option.some.injEq] at hc
    subst hc
    simp only [V] at hv
    obtain ⟨xs, rfl, h⟩ := hv
    exact ⟨xs, rfl, h⟩
  | tup => simp [AVal.cells?, AVal.one] at hc
  | any => simp [AVal.cells?, AVal.one] at hc
  | raw u =>
    simp only [AVal.cells?, AVal.one] at hc
    cases h1 : u.oneCell'
    case true =>
      rw [h1] at hc
      cases hc
      simp only [V] at hv
      subst hv
      refine ⟨[v], ?_, by simp [Vcs, V, h1]⟩
      cases v <;> first | rfl | (simp [Value.oneCell'] at h1)
    case false =>
      rw [h1] at hc
      cases hc
  | ptr i off =>
    simp only [AVal.cells?, AVal.one, cond_true, Option.some.injEq] at hc
    subst hc
    have hv' := hv
    simp only [V] at hv
    obtain ⟨a, rfl, _⟩ := hv
    exact ⟨[_], rfl, by simp only [Vcs]; exact ⟨⟨rfl, hv'⟩, trivial⟩⟩
  | fptr ds =>
    simp only [AVal.cells?, AVal.one, cond_true, Option.some.injEq] at hc
    subst hc
    have hv' := hv
    simp only [V] at hv
    obtain ⟨b, off, rfl, _⟩ := hv
    exact ⟨[_], rfl, by simp only [Vcs]; exact ⟨⟨rfl, hv'⟩, trivial⟩⟩
  | sl i off len cap esz =>
    simp only [AVal.cells?, AVal.one, cond_true, Option.some.injEq] at hc
    subst hc
    have hv' := hv
    simp only [V] at hv
    obtain ⟨a, c, rfl, _⟩ := hv
    exact ⟨[_], rfl, by simp only [Vcs]; exact ⟨⟨rfl, hv'⟩, trivial⟩⟩
  | fsl ds len cap =>
    simp only [AVal.cells?, AVal.one, cond_true, Option.some.injEq] at hc
    subst hc
    have hv' := hv
    simp only [V] at hv
    obtain ⟨a, c, rfl, _⟩ := hv
    exact ⟨[_], rfl, by simp only [Vcs]; exact ⟨⟨rfl, hv'⟩, trivial⟩⟩
  | yield i =>
    simp only [AVal.cells?, AVal.one, cond_true, Option.some.injEq] at hc
    subst hc
    have hv' := hv
    simp only [V] at hv
    obtain ⟨a, rfl, _⟩ := hv
    exact ⟨[_], rfl, by simp only [Vcs]; exact ⟨⟨rfl, hv'⟩, trivial⟩⟩
  | map i =>
    simp only [AVal.cells?, AVal.one, cond_true, Option.some.injEq] at hc
    subst hc
    have hv' := hv
    simp only [V] at hv
    obtain ⟨r, rfl, _⟩ := hv
    exact ⟨[_], rfl, by simp only [Vcs]; exact ⟨⟨rfl, hv'⟩, trivial⟩⟩
  | func fn f c =>
    simp only [AVal.cells?, AVal.one, cond_true, Option.some.injEq] at hc
    subst hc
    have hv' := hv
    simp only [V] at hv
    obtain ⟨xs, ys, rfl, _⟩ := hv
    exact ⟨[_], rfl, by simp only [Vcs]; exact ⟨⟨rfl, hv'⟩, trivial⟩⟩

/-- A new object, of cells. -/
theorem R.pushCells (hR : R φ A w) {cs : List AVal} {xs : List Value} {t : TypeId} {fz : Nat × Nat} (hfz : fz.2 ≤ fz.1 ∨ xs.length ≤ fz.1) {cs' : List AVal} (hp : cs' = cs.take cs'.length) (hv : Vcs φ A w cs xs) (hw : w'.heap = w.heap.push (.cells xs.toArray t fz)) (hio : Io w w' := by exact ⟨rfl, rfl, rfl⟩) :
    R (φ.put A.top w.heap.size) (A.push (.cells cs')) w' ∧ Ext φ A w (φ.put A.top w.heap.size) (A.push (.cells cs')) w' := by
  refine hR.push hw ⟨xs.toArray, t, fz, rfl, by simpa using hfz, ?_, ?_⟩ hio
  · have := hv.length
    have h2 : cs'.length ≤ cs.length := by rw [hp, List.length_take]; omega
    simp; omega
  · have h2 : cs'.length ≤ cs.length := by rw [hp, List.length_take]; omega
    have := hv.take cs'.length
    rw [← hp] at this
    simpa using this

theorem V.newPtr (o : AObj) (hφ : φ' A.top = w.heap.size) : V φ' (A.push o) w' (.ptr A.top 0) (.pointer (some ⟨w.heap.size, 0, none⟩)) := by
  simp only [V]
  exact ⟨_, rfl, by rw [Heap.top_push]; omega, fun _ => by rw [hφ]⟩

end Go.Ab
