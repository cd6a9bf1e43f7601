/- The abstract layer, part 2: what reading, writing and making memory does to a world, and to the abstract heap that it stands for. -/
import Derived.Test.YtookmilggbnoiaaGreatAbBase
set_option linter.unusedSimpArgs false
set_option linter.unusedVariables false
namespace Go.Ab

variable {φ φ' : Emb} {A A' : Heap} {w w' : World}

/-- Worlds of one memory. -/
theorem Ext.of_heap (hR : R φ A w) (h : w'.heap = w.heap) (hio : Io w w' := by exact ⟨rfl, rfl, rfl⟩) : Ext φ A w φ A w' := by
  refine ⟨Nat.le_refl _, fun _ _ h => ⟨h, rfl⟩, fun i h hl => ?_, by rw [h]; exact Nat.le_refl _, fun _ _ _ => by rw [h], fun _ _ => by simp [World.shape?, h], fun _ h => h, fun _ h => .inl h, hio⟩
  have := hR.lt i hl; omega

theorem R.ext_same (hR : R φ A w) (he : Ext φ A w φ A w') (hb : ∀ i, A.live i → w'.heap[φ i]? = w.heap[φ i]?) : R φ A w' := by
  refine ⟨hR.lt, fun i o h => ?_, hR.inj, hR.sep, fun b h => Nat.lt_of_lt_of_le (hR.flt b h) he.size⟩
  obtain ⟨ob, h1, h2⟩ := hR.rel i o h
  exact ⟨ob, by rw [hb i (by simp [Heap.live, h])]; exact h1, h2.ext he⟩

theorem R.of_heap (hR : R φ A w) (h : w'.heap = w.heap) (hio : Io w w' := by exact ⟨rfl, rfl, rfl⟩) : R φ A w' :=
  hR.ext_same (.of_heap hR h hio) fun _ _ => by rw [h]

/-- Fewer objects, a higher top. -/
structure Heap.Sub (A' A : Heap) : Prop where
  top : A.top ≤ A'.top
  sub : ∀ i o, A'.get i = some o → A.get i = some o

theorem Heap.Sub.refl (A : Heap) : Heap.Sub A A := ⟨Nat.le_refl _, fun _ _ h => h⟩
theorem Heap.Sub.trans {A A' A'' : Heap} (h : A'.Sub A) (h' : A''.Sub A') : A''.Sub A := ⟨Nat.le_trans h.top h'.top, fun i o x => h.sub i o (h'.sub i o x)⟩

theorem Heap.Sub.live {A A' : Heap} (h : A'.Sub A) {i : Nat} (hl : A'.live i) : A.live i := by
  unfold Heap.live at *
  cases ho : A'.get i with
  | none => exact absurd ho hl
  | some o => rw [h.sub i o ho]; simp

theorem Ext.sub (hR : R φ A w) (h : A'.Sub A) : Ext φ A w φ A' w := by
  refine ⟨h.top, fun i _ hl => ⟨h.live hl, rfl⟩, fun i hi hl => ?_, Nat.le_refl _, fun _ _ _ => rfl, fun _ _ => rfl, fun _ h => h, fun _ h => .inl h, .rfl⟩
  have := hR.lt i (h.live hl); omega

theorem R.sub (hR : R φ A w) (h : A'.Sub A) : R φ A' w := by
  refine ⟨fun i hl => Nat.lt_of_lt_of_le (hR.lt i (h.live hl)) h.top, fun i o ho => ?_, fun i j hi hj => hR.inj i j (h.live hi) (h.live hj), fun i hl => hR.sep i (h.live hl), hR.flt⟩
  obtain ⟨ob, h1, h2⟩ := hR.rel i o (h.sub i o ho)
  exact ⟨ob, h1, h2.ext (.sub hR h)⟩

theorem Heap.Sub.del (A : Heap) (i : Nat) : (A.del i).Sub A := by
  refine ⟨Nat.le_refl _, fun j o h => ?_⟩
  rw [Heap.get_del_if] at h
  split at h
  · cases h
  · exact h

/-! ## Lists of cells -/

theorem Vcs.length : ∀ {cs : List AVal} {xs : List Value}, Vcs φ A w cs xs → cs.length = xs.length
  | [], [], _ => rfl
  | _ :: cs, _ :: xs, h => by simp only [Vcs] at h; simp [Vcs.length h.2]
  | [], _ :: _, h => by simp only [Vcs] at h
  | _ :: _, [], h => by simp only [Vcs] at h

theorem Vl.length : ∀ {cs : List AVal} {xs : List Value}, Vl φ A w cs xs → cs.length = xs.length
  | [], [], _ => rfl
  | _ :: cs, _ :: xs, h => by simp only [Vl] at h; simp [Vl.length h.2]
  | [], _ :: _, h => by simp only [Vl] at h
  | _ :: _, [], h => by simp only [Vl] at h

theorem Vcs.append : ∀ {cs ds : List AVal} {xs ys : List Value}, Vcs φ A w cs xs → Vcs φ A w ds ys → Vcs φ A w (cs ++ ds) (xs ++ ys)
  | [], _, [], _, _, h => h
  | _ :: _, _, _ :: _, _, h, h' => by simp only [Vcs, List.cons_append] at h ⊢; exact ⟨h.1, Vcs.append h.2 h'⟩
  | [], _, _ :: _, _, h, _ => by simp only [Vcs] at h
  | _ :: _, _, [], _, h, _ => by simp only [Vcs] at h

theorem Vl.append : ∀ {cs ds : List AVal} {xs ys : List Value}, Vl φ A w cs xs → Vl φ A w ds ys → Vl φ A w (cs ++ ds) (xs ++ ys)
  | [], _, [], _, _, h => h
  | _ :: _, _, _ :: _, _, h, h' => by simp only [Vl, List.cons_append] at h ⊢; exact ⟨h.1, Vl.append h.2 h'⟩
  | [], _, _ :: _, _, h, _ => by simp only [Vl] at h
  | _ :: _, _, [], _, h, _ => by simp only [Vl] at h

theorem Vcs.take : ∀ (n : Nat) {cs : List AVal} {xs : List Value}, Vcs φ A w cs xs → Vcs φ A w (cs.take n) (xs.take n)
  | 0, _, _, _ => by simp [Vcs]
  | _ + 1, [], [], _ => by simp [Vcs]
  | n + 1, _ :: _, _ :: _, h => by simp only [Vcs, List.take_succ_cons] at h ⊢; exact ⟨h.1, Vcs.take n h.2⟩
  | _ + 1, [], _ :: _, h => by simp only [Vcs] at h
  | _ + 1, _ :: _, [], h => by simp only [Vcs] at h

theorem Vcs.drop : ∀ (n : Nat) {cs : List AVal} {xs : List Value}, Vcs φ A w cs xs → Vcs φ A w (cs.drop n) (xs.drop n)
  | 0, _, _, h => by simpa using h
  | _ + 1, [], [], _ => by simp [Vcs]
  | n + 1, _ :: _, _ :: _, h => by simp only [Vcs, List.drop_succ_cons] at h ⊢; exact Vcs.drop n h.2
  | _ + 1, [], _ :: _, h => by simp only [Vcs] at h
  | _ + 1, _ :: _, [], h => by simp only [Vcs] at h

theorem Vcs.get : ∀ {cs : List AVal} {xs : List Value}, Vcs φ A w cs xs → ∀ {i : Nat} {c : AVal}, cs[i]? = some c → ∃ x, xs[i]? = some x ∧ x.oneCell' = true ∧ V φ A w c x
  | c :: cs, x :: xs, h, 0, d, hd => by simp only [Vcs] at h; simp at hd; subst hd; exact ⟨x, by simp, h.1.1, h.1.2⟩
  | c :: cs, x :: xs, h, i + 1, d, hd => by simp only [Vcs] at h; simpa using Vcs.get h.2 (by simpa using hd)
  | [], [], _, _, _, hd => by simp at hd
  | [], _ :: _, h, _, _, _ => by simp only [Vcs] at h
  | _ :: _, [], h, _, _, _ => by simp only [Vcs] at h

theorem Vl.get : ∀ {cs : List AVal} {xs : List Value}, Vl φ A w cs xs → ∀ {i : Nat} {c : AVal}, cs[i]? = some c → ∃ x, xs[i]? = some x ∧ V φ A w c x
  | c :: cs, x :: xs, h, 0, d, hd => by simp only [Vl] at h; simp at hd; subst hd; exact ⟨x, by simp, h.1⟩
  | c :: cs, x :: xs, h, i + 1, d, hd => by simp only [Vl] at h; simpa using Vl.get h.2 (by simpa using hd)
  | [], [], _, _, _, hd => by simp at hd
  | [], _ :: _, h, _, _, _ => by simp only [Vl] at h
  | _ :: _, [], h, _, _, _ => by simp only [Vl] at h

theorem Vcs.set : ∀ {cs : List AVal} {xs : List Value}, Vcs φ A w cs xs → ∀ {i : Nat} {c : AVal} {x : Value}, x.oneCell' = true → V φ A w c x → Vcs φ A w (cs.set i c) (xs.set i x)
  | [], [], _, _, _, _, _, _ => by simp [Vcs]
  | _ :: _, _ :: _, h, 0, _, _, h1, h2 => by simp only [Vcs, List.set_cons_zero] at h ⊢; exact ⟨⟨h1, h2⟩, h.2⟩
  | _ :: _, _ :: _, h, i + 1, _, _, h1, h2 => by simp only [Vcs, List.set_cons_succ] at h ⊢; exact ⟨h.1, Vcs.set h.2 h1 h2⟩
  | [], _ :: _, h, _, _, _, _, _ => by simp only [Vcs] at h
  | _ :: _, [], h, _, _, _, _, _ => by simp only [Vcs] at h

theorem Vl.set : ∀ {cs : List AVal} {xs : List Value}, Vl φ A w cs xs → ∀ {i : Nat} {c : AVal} {x : Value}, V φ A w c x → Vl φ A w (cs.set i c) (xs.set i x)
  | [], [], _, _, _, _, _ => by simp [Vl]
  | _ :: _, _ :: _, h, 0, _, _, h1 => by simp only [Vl, List.set_cons_zero] at h ⊢; exact ⟨h1, h.2⟩
  | _ :: _, _ :: _, h, i + 1, _, _, h1 => by simp only [Vl, List.set_cons_succ] at h ⊢; exact ⟨h.1, Vl.set h.2 h1⟩
  | [], _ :: _, h, _, _, _, _ => by simp only [Vl] at h
  | _ :: _, [], h, _, _, _, _ => by simp only [Vl] at h

/-- A row of cells, cell by cell, as a list of values. -/
theorem Vrow.get {b : Nat} : ∀ {cs : List AVal} {off : Nat}, Vrow φ A w b off cs → ∀ {i : Nat} {c : AVal}, cs[i]? = some c → ∃ x, w.cell? ⟨b, off + i, none⟩ = some x ∧ x.oneCell' = true ∧ V φ A w c x
  | _ :: _, _, h, 0, _, hd => by simp only [Vrow] at h; simp at hd; subst hd; simpa using h.1
  | _ :: cs, off, h, i + 1, c, hd => by
    simp only [Vrow] at h
    obtain ⟨x, h1, h2⟩ := Vrow.get h.2 (i := i) (c := c) (by simpa using hd)
    exact ⟨x, by rw [show off + (i + 1) = off + 1 + i by omega]; exact h1, h2⟩
  | [], _, _, _, _, hd => by simp at hd

theorem Vrow.drop {b : Nat} : ∀ (n : Nat) {cs : List AVal} {off : Nat}, Vrow φ A w b off cs → Vrow φ A w b (off + n) (cs.drop n)
  | 0, _, _, h => by simpa using h
  | _ + 1, [], _, _ => by simp [Vrow]
  | n + 1, _ :: _, off, h => by
    simp only [Vrow, List.drop_succ_cons] at h ⊢
    rw [show off + (n + 1) = off + 1 + n by omega]
    exact Vrow.drop n h.2

theorem Vrow.take {b : Nat} : ∀ (n : Nat) {cs : List AVal} {off : Nat}, Vrow φ A w b off cs → Vrow φ A w b off (cs.take n)
  | 0, _, _, _ => by simp [Vrow]
  | _ + 1, [], _, _ => by simp [Vrow]
  | n + 1, _ :: _, off, h => by
    simp only [Vrow, List.take_succ_cons] at h ⊢
    exact ⟨h.1, Vrow.take n h.2⟩

/-! ## Cells of a live object -/

/-- A cell of a live object: it is there, not frozen, and holds what the object says. -/
theorem R.cell (hR : R φ A w) {i off : Nat} {vs : List AVal} {c : AVal} (ho : A.get i = some (.cells vs)) (hc : vs[off]? = some c) :
    ∃ x, w.cell? ⟨φ i, off, none⟩ = some x ∧ w.frozen? ⟨φ i, off, none⟩ = false ∧ x.oneCell' = true ∧ V φ A w c x := by
  obtain ⟨ob, h1, c0, el, fz, rfl, h2, h3, h4⟩ := hR.rel i _ ho
  obtain ⟨x, h5, h6, h7⟩ := h4.get hc
  have hlt : off < vs.length := (List.getElem?_eq_some_iff.1 hc).1
  have h8 : c0.toList[off]? = some x := by
    rw [List.getElem?_take, if_pos hlt] at h5
    exact h5
  refine ⟨x, ?_, ?_, h6, h7⟩
  · simpa [World.cell?, h1] using h8
  · obtain ⟨lo, hi⟩ := fz
    simp [World.frozen?, h1]
    intro hlo
    rcases h2 with h2 | h2
    · simp at h2; omega
    · simp at h2; omega

theorem setCell_heap {b off : Nat} {v : Value} {c : Array Value} {el : TypeId} {fz : Nat × Nat} (h : w.heap[b]? = some (.cells c el fz)) :
    (w.setCell ⟨b, off, none⟩ v).heap = w.heap.setIfInBounds b (.cells (c.setIfInBounds off v) el fz) := by
  have hb : b < w.heap.size := by
    rcases Nat.lt_or_ge b w.heap.size with hlt | hge
    · exact hlt
    · simp [Array.getElem?_eq_none hge] at h
  have hg : w.heap[b] = .cells c el fz := by simpa [Array.getElem?_eq_getElem hb] using h
  apply Array.ext_getElem?
  intro i
  simp only [World.setCell, Array.getElem?_modify, Array.getElem?_setIfInBounds]
  by_cases hi : b = i
  · subst hi
    simp [hb, hg]
  · simp [hi]

/-- One cell of a live object is written. -/
theorem R.store (hR : R φ A w) {i off : Nat} {vs : List AVal} {a : AVal} {v : Value} (ho : A.get i = some (.cells vs))
    (h1 : v.oneCell' = true) (hv : V φ A w a v) :
    R φ (A.set i (.cells (vs.set off a))) (w.setCell ⟨φ i, off, none⟩ v) ∧ Ext φ A w φ (A.set i (.cells (vs.set off a))) (w.setCell ⟨φ i, off, none⟩ v) := by
  obtain ⟨ob, hb, c0, el, fz, rfl, h2, h3, h4⟩ := hR.rel i _ ho
  have hheap := setCell_heap (w := w) (off := off) (v := v) hb
  have hbl : φ i < w.heap.size := by
    rcases Nat.lt_or_ge (φ i) w.heap.size with hlt | hge
    · exact hlt
    · simp [Array.getElem?_eq_none hge] at hb
  have hli : A.live i := by simp [Heap.live, ho]
  have hlive : ∀ j, (A.set i (.cells (vs.set off a))).live j ↔ A.live j := by
    intro j
    unfold Heap.live
    rw [Heap.get_set_if]
    by_cases hj : j = i
    · subst hj; simp [ho]
    · rw [if_neg hj]
  have hext : Ext φ A w φ (A.set i (.cells (vs.set off a))) (w.setCell ⟨φ i, off, none⟩ v) := by
    refine ⟨Nat.le_refl _, fun j _ hl => ⟨(hlive j).1 hl, rfl⟩, fun j hj hl => ?_, by rw [hheap]; simp, fun b hbs hm => ?_, fun b hbs => ?_, fun _ h => h, fun _ h => .inl h, ⟨rfl, rfl, rfl⟩⟩
    · have := hR.lt j ((hlive j).1 hl); omega
    · rw [hheap, Array.getElem?_setIfInBounds_ne]
      intro he; exact hm ⟨i, hli, he⟩
    · simp only [World.shape?]
      rw [hheap]
      by_cases he : φ i = b
      · subst he
        rw [Array.getElem?_setIfInBounds_self_of_lt hbs, hb]
        simp
      · rw [Array.getElem?_setIfInBounds_ne he]
  refine ⟨⟨fun j hl => hR.lt j ((hlive j).1 hl), fun j o hj => ?_, fun j k hj hk => hR.inj j k ((hlive j).1 hj) ((hlive k).1 hk), fun j hl => hR.sep j ((hlive j).1 hl), fun b h => Nat.lt_of_lt_of_le (hR.flt b h) hext.size⟩, hext⟩
  rw [Heap.get_set_if] at hj
  by_cases hji : j = i
  · subst hji
    rw [if_pos rfl] at hj
    cases hj
    refine ⟨.cells (c0.setIfInBounds off v) el fz, by rw [hheap, Array.getElem?_setIfInBounds_self_of_lt hbl], c0.setIfInBounds off v, el, fz, rfl, by simpa using h2, by simpa using h3, ?_⟩
    have h5 : ((c0.setIfInBounds off v).toList.take (vs.set off a).length) = (c0.toList.take vs.length).set off v := by
      rw [List.length_set, Array.toList_setIfInBounds, List.take_set]
    rw [h5]
    exact (h4.ext hext).set h1 (hv.ext hext)
  · rw [if_neg hji] at hj
    obtain ⟨ob, h5, h6⟩ := hR.rel j o hj
    refine ⟨ob, ?_, h6.ext hext⟩
    rw [hheap, Array.getElem?_setIfInBounds_ne]
    · exact h5
    · intro he
      exact hji (hR.inj j i (by simp [Heap.live, hj]) hli he.symm)

theorem R.block_lt (hR : R φ A w) {j : Nat} (hl : A.live j) : φ j < w.heap.size := by
  cases hj : A.get j with
  | none => exact absurd hj hl
  | some o' =>
    obtain ⟨ob', h1, _⟩ := hR.rel j o' hj
    rcases Nat.lt_or_ge (φ j) w.heap.size with hlt | hge
    · exact hlt
    · simp [Array.getElem?_eq_none hge] at h1

/-- A new object. -/
theorem R.push (hR : R φ A w) {o : AObj} {ob : Obj} (hw : w'.heap = w.heap.push ob) (ho : Rel φ A w o ob) (hio : Io w w' := by exact ⟨rfl, rfl, rfl⟩) :
    R (φ.put A.top w.heap.size) (A.push o) w' ∧ Ext φ A w (φ.put A.top w.heap.size) (A.push o) w' := by
  have hlive : ∀ j, (A.push o).live j → j = A.top ∨ (j < A.top ∧ A.live j) := by
    intro j hl
    unfold Heap.live at hl
    rw [Heap.get_push_if] at hl
    by_cases hj : j = A.top
    · exact .inl hj
    · rw [if_neg hj] at hl
      exact .inr ⟨hR.lt j hl, hl⟩
  have hbl : ∀ j, A.live j → φ j < w.heap.size := fun j hl => hR.block_lt hl
  have hext : Ext φ A w (φ.put A.top w.heap.size) (A.push o) w' := by
    refine ⟨by rw [Heap.top_push]; omega, fun j hj hl => ?_, fun j hj hl => ?_, by rw [hw]; simp, fun b hb _ => ?_, fun b hb => ?_, fun _ h => h, fun _ h => .inl h, hio⟩
    · rcases hlive j hl with h | ⟨_, h⟩
      · omega
      · exact ⟨h, Emb.put_ne _ _ (by omega)⟩
    · rcases hlive j hl with h | ⟨h, _⟩
      · exact .inl (by rw [h, Emb.put_eq]; exact Nat.le_refl _)
      · omega
    · rw [hw, Array.getElem?_push_lt hb]; simp [Array.getElem?_eq_getElem hb]
    · simp only [World.shape?]
      rw [hw, Array.getElem?_push_lt hb]; simp [Array.getElem?_eq_getElem hb]
  refine ⟨⟨fun j hl => ?_, fun j o' hj => ?_, fun j k hj hk he => ?_, fun j hl => ?_, fun b h => Nat.lt_of_lt_of_le (hR.flt b h) hext.size⟩, hext⟩
  · rcases hlive j hl with h | ⟨h, _⟩
    · rw [Heap.top_push]; omega
    · rw [Heap.top_push]; omega
  · rw [Heap.get_push_if] at hj
    by_cases hjt : j = A.top
    · rw [if_pos hjt] at hj
      cases hj
      refine ⟨ob, ?_, ho.ext hext⟩
      rw [hjt, Emb.put_eq, hw]; simp
    · rw [if_neg hjt] at hj
      obtain ⟨ob', h1, h2⟩ := hR.rel j o' hj
      refine ⟨ob', ?_, h2.ext hext⟩
      rw [Emb.put_ne _ _ hjt, hw, Array.getElem?_push_lt (hbl j (by simp [Heap.live, hj]))]
      simpa [Array.getElem?_eq_getElem (hbl j (by simp [Heap.live, hj]))] using h1
  · rcases hlive j hj with h | ⟨h, h'⟩ <;> rcases hlive k hk with g | ⟨g, g'⟩
    · omega
    · rw [h, Emb.put_eq, Emb.put_ne _ _ (by omega)] at he
      have := hbl k g'; omega
    · rw [g, Emb.put_eq, Emb.put_ne _ _ (by omega)] at he
      have := hbl j h'; omega
    · rw [Emb.put_ne _ _ (by omega), Emb.put_ne _ _ (by omega)] at he
      exact hR.inj j k h' g' he
  · rcases hlive j hl with h | ⟨h, h'⟩
    · rw [h, Emb.put_eq]; intro hf; have := hR.flt _ hf; omega
    · rw [Emb.put_ne _ _ (by omega)]; exact hR.sep j h'

/-- A new block that stands for nothing. -/
theorem R.garbage (hR : R φ A w) {ob : Obj} (hw : w'.heap = w.heap.push ob) (hio : Io w w' := by exact ⟨rfl, rfl, rfl⟩) : R φ A w' ∧ Ext φ A w φ A w' := by
  have hext : Ext φ A w φ A w' := by
    refine ⟨Nat.le_refl _, fun j _ hl => ⟨hl, rfl⟩, fun j hj hl => ?_, by rw [hw]; simp, fun b hb _ => ?_, fun b hb => ?_, fun _ h => h, fun _ h => .inl h, hio⟩
    · have := hR.lt j hl; omega
    · rw [hw, Array.getElem?_push_lt hb]; simp [Array.getElem?_eq_getElem hb]
    · simp only [World.shape?]
      rw [hw, Array.getElem?_push_lt hb]; simp [Array.getElem?_eq_getElem hb]
  refine ⟨hR.ext_same hext fun i hl => ?_, hext⟩
  have hb := hR.block_lt hl
  rw [hw, Array.getElem?_push_lt hb]; simp [Array.getElem?_eq_getElem hb]

/-- A block that stood for nothing stands for a new object. -/
theorem R.adopt (hR : R φ A w) {b : Nat} {o : AObj} {ob : Obj} (hb : w.heap[b]? = some ob) (ho : Rel φ A w o ob) (hm : ¬ Mg φ A b) (hf : ¬ φ.frz b) :
    R (φ.put A.top b) (A.push o) w ∧ Ext0 φ A w (φ.put A.top b) (A.push o) w := by
  have hlive : ∀ j, (A.push o).live j → j = A.top ∨ (j < A.top ∧ A.live j) := by
    intro j hl
    unfold Heap.live at hl
    rw [Heap.get_push_if] at hl
    by_cases hj : j = A.top
    · exact .inl hj
    · rw [if_neg hj] at hl
      exact .inr ⟨hR.lt j hl, hl⟩
  have hext : Ext0 φ A w (φ.put A.top b) (A.push o) w := by
    refine ⟨by rw [Heap.top_push]; omega, fun j hj hl => ?_, fun j hj hl c hc he => ?_, Nat.le_refl _, fun _ _ => rfl, fun _ _ => rfl, fun _ h => h⟩
    · rcases hlive j hl with h | ⟨_, h⟩
      · omega
      · exact ⟨h, Emb.put_ne _ _ (by omega)⟩
    · rcases hlive j hl with h | ⟨h, _⟩
      · rw [h, Emb.put_eq] at he
        exact hf (he ▸ hc.2)
      · omega
  refine ⟨⟨fun j hl => ?_, fun j o' hj => ?_, fun j k hj hk he => ?_, fun j hl => ?_, hR.flt⟩, hext⟩
  · rcases hlive j hl with h | ⟨h, _⟩ <;> (rw [Heap.top_push]; omega)
  · rw [Heap.get_push_if] at hj
    by_cases hjt : j = A.top
    · rw [if_pos hjt] at hj
      cases hj
      exact ⟨ob, by rw [hjt, Emb.put_eq]; exact hb, ho.ext0 hext⟩
    · rw [if_neg hjt] at hj
      obtain ⟨ob', h1, h2⟩ := hR.rel j o' hj
      exact ⟨ob', by rw [Emb.put_ne _ _ hjt]; exact h1, h2.ext0 hext⟩
  · rcases hlive j hj with h | ⟨h, h'⟩ <;> rcases hlive k hk with g | ⟨g, g'⟩
    · omega
    · rw [h, Emb.put_eq, Emb.put_ne _ _ (by omega)] at he
      exact absurd ⟨k, g', he.symm⟩ hm
    · rw [g, Emb.put_eq, Emb.put_ne _ _ (by omega)] at he
      exact absurd ⟨j, h', he⟩ hm
    · rw [Emb.put_ne _ _ (by omega), Emb.put_ne _ _ (by omega)] at he
      exact hR.inj j k h' g' he
  · rcases hlive j hl with h | ⟨h, h'⟩
    · rw [h, Emb.put_eq]; exact hf
    · rw [Emb.put_ne _ _ (by omega)]; exact hR.sep j h'

end Go.Ab
