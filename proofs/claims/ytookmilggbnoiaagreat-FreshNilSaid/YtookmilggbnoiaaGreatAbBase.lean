/- The abstract layer, part 1: abstract values and heaps, what they stand for in a world, and what a step leaves alone. No program in sight. -/
import Derived.Calls
import Derived.Laws.Sem
set_option linter.unusedSimpArgs false
set_option linter.unusedVariables false
namespace Go.Ab

/-- Abstract values. 'ptr', 'sl', 'map' name an object of the abstract heap by its number; 'fptr' and 'fsl' lead to cells that nobody writes any more, and carry what these hold. 'any': nothing is known. -/
inductive AVal where
  | raw (v : Value)
  | ptr (i off : Nat)
  | fptr (cs : List AVal)
  | sl (i off len : Nat) (cap : Option Nat) (esz : Nat)
  | fsl (cs : List AVal) (len : Nat) (cap : Option Nat)
  | map (i : Nat)
  | agg (cs : List AVal)
  | tup (vs : List AVal)
  | func (fn : Fn) (first captured : List AVal)
  | yield (i : Nat)
  | any

instance : Inhabited AVal := ⟨.raw undef⟩

/-- Abstract objects: a row of cells (known as far as the list goes), a map, or the record of a loop over a function. -/
inductive AObj where
  | cells (vs : List AVal)
  | map (es : List (AVal × AVal))
  | loop (busy : Bool) (ts : List AVal) (ps : Array Nat) (asg body : Code)

instance : Inhabited AObj := ⟨.cells []⟩

/-- A tree of objects by number. -/
inductive Tr where
  | nil
  | node (o : Option AObj) (l r : Tr)

def Tr.get : Tr → Nat → Option AObj
  | .nil, _ => none
  | .node o l r, i => if i = 0 then o else if i % 2 = 1 then l.get (i / 2) else r.get (i / 2 - 1)

def Tr.set : (fuel : Nat) → Tr → Nat → Option AObj → Tr
  | 0, .nil, _, x => .node x .nil .nil
  | 0, .node _ l r, _, x => .node x l r
  | n + 1, .nil, i, x => if i = 0 then .node x .nil .nil else if i % 2 = 1 then .node none (Tr.set n .nil (i / 2) x) .nil else .node none .nil (Tr.set n .nil (i / 2 - 1) x)
  | n + 1, .node o l r, i, x => if i = 0 then .node x l r else if i % 2 = 1 then .node o (Tr.set n l (i / 2) x) r else .node o l (Tr.set n r (i / 2 - 1) x)

theorem Tr.get_nil (i : Nat) : Tr.nil.get i = none := rfl

theorem Tr.get_set_eq : ∀ (n i : Nat) (t : Tr) (x : Option AObj), i ≤ n → (Tr.set n t i x).get i = x := by
  intro n
  induction n with
  | zero =>
    intro i t x h
    have : i = 0 := by omega
    subst this
    cases t <;> simp [Tr.set, Tr.get]
  | succ n ih =>
    intro i t x h
    cases t <;>
    · simp only [Tr.set]
      split
      · simp [Tr.get, *]
      · split
        · simp only [Tr.get]; rw [if_neg (by assumption), if_pos (by assumption)]; exact ih _ _ _ (by omega)
        · simp only [Tr.get]; rw [if_neg (by assumption), if_neg (by assumption)]; exact ih _ _ _ (by omega)

theorem Tr.get_set_ne : ∀ (n i j : Nat) (t : Tr) (x : Option AObj), i ≤ n → j ≠ i → (Tr.set n t i x).get j = t.get j := by
  intro n
  induction n with
  | zero =>
    intro i j t x h hne
    have : i = 0 := by omega
    subst this
    cases t <;> simp [Tr.set, Tr.get, hne]
  | succ n ih =>
    intro i j t x h hne
    cases t with
    | nil =>
      simp only [Tr.set]
      split
      · rename_i h0; subst h0; simp [Tr.get, hne]
      · split
        · simp only [Tr.get]
          by_cases hj : j = 0
          · simp [hj]
          · by_cases hj2 : j % 2 = 1
            · rw [if_neg hj, if_pos hj2, ih _ _ _ _ (by omega) (by omega)]; rfl
            · rw [if_neg hj, if_neg hj2]
        · simp only [Tr.get]
          by_cases hj : j = 0
          · simp [hj]
          · by_cases hj2 : j % 2 = 1
            · rw [if_neg hj, if_pos hj2]
            · rw [if_neg hj, if_neg hj2, ih _ _ _ _ (by omega) (by omega)]; rfl
    | node o l r =>
      simp only [Tr.set]
      split
      · rename_i h0; subst h0; simp [Tr.get, hne]
      · split
        · simp only [Tr.get]
          by_cases hj : j = 0
          · simp [hj]
          · by_cases hj2 : j % 2 = 1
            · rw [if_neg hj, if_pos hj2, if_neg hj, if_pos hj2, ih _ _ _ _ (by omega) (by omega)]
            · rw [if_neg hj, if_neg hj2, if_neg hj, if_neg hj2]
        · simp only [Tr.get]
          by_cases hj : j = 0
          · simp [hj]
          · by_cases hj2 : j % 2 = 1
            · rw [if_neg hj, if_pos hj2, if_neg hj, if_pos hj2]
            · rw [if_neg hj, if_neg hj2, if_neg hj, if_neg hj2, ih _ _ _ _ (by omega) (by omega)]

/-- The abstract heap: objects by number, all numbers below 'top'. -/
structure Heap where
  tree : Tr
  top : Nat

def Heap.empty : Heap := ⟨.nil, 0⟩
def Heap.get (A : Heap) (i : Nat) : Option AObj := A.tree.get i
def Heap.set (A : Heap) (i : Nat) (o : AObj) : Heap := ⟨Tr.set i A.tree i (some o), A.top⟩
def Heap.del (A : Heap) (i : Nat) : Heap := ⟨Tr.set i A.tree i none, A.top⟩
/-- A new object: its number is 'top'. -/
def Heap.push (A : Heap) (o : AObj) : Heap := ⟨Tr.set A.top A.tree A.top (some o), A.top + 1⟩
def Heap.live (A : Heap) (i : Nat) : Prop := A.get i ≠ none

theorem Heap.get_empty (i : Nat) : Heap.empty.get i = none := rfl
theorem Heap.get_set (A : Heap) (i : Nat) (o : AObj) : (A.set i o).get i = some o := Tr.get_set_eq i i _ _ (Nat.le_refl _)
theorem Heap.get_set_ne (A : Heap) {i j : Nat} (o : AObj) (h : j ≠ i) : (A.set i o).get j = A.get j := Tr.get_set_ne i i j _ _ (Nat.le_refl _) h
theorem Heap.get_del (A : Heap) (i : Nat) : (A.del i).get i = none := Tr.get_set_eq i i _ _ (Nat.le_refl _)
theorem Heap.get_del_ne (A : Heap) {i j : Nat} (h : j ≠ i) : (A.del i).get j = A.get j := Tr.get_set_ne i i j _ _ (Nat.le_refl _) h
theorem Heap.get_push (A : Heap) (o : AObj) : (A.push o).get A.top = some o := Tr.get_set_eq _ _ _ _ (Nat.le_refl _)
theorem Heap.get_push_ne (A : Heap) {j : Nat} (o : AObj) (h : j ≠ A.top) : (A.push o).get j = A.get j := Tr.get_set_ne _ _ j _ _ (Nat.le_refl _) h
theorem Heap.top_set (A : Heap) (i : Nat) (o : AObj) : (A.set i o).top = A.top := rfl
theorem Heap.top_del (A : Heap) (i : Nat) : (A.del i).top = A.top := rfl
theorem Heap.top_push (A : Heap) (o : AObj) : (A.push o).top = A.top + 1 := rfl
theorem Heap.get_set_if (A : Heap) (i j : Nat) (o : AObj) : (A.set i o).get j = if j = i then some o else A.get j := by
  by_cases h : j = i
  · subst h; rw [if_pos rfl, Heap.get_set]
  · rw [if_neg h, Heap.get_set_ne _ _ h]
theorem Heap.get_push_if (A : Heap) (j : Nat) (o : AObj) : (A.push o).get j = if j = A.top then some o else A.get j := by
  by_cases h : j = A.top
  · subst h; rw [if_pos rfl, Heap.get_push]
  · rw [if_neg h, Heap.get_push_ne _ _ h]
theorem Heap.get_del_if (A : Heap) (i j : Nat) : (A.del i).get j = if j = i then none else A.get j := by
  by_cases h : j = i
  · subst h; rw [if_pos rfl, Heap.get_del]
  · rw [if_neg h, Heap.get_del_ne _ h]

/-- Where objects lie, and which blocks nobody writes any more. -/
structure Emb where
  at_ : Nat → Nat
  frz : Nat → Prop

instance : CoeFun Emb (fun _ => Nat → Nat) := ⟨Emb.at_⟩

def Emb.put (φ : Emb) (i b : Nat) : Emb := ⟨fun j => if j = i then b else φ j, φ.frz⟩

@[simp] theorem Emb.put_eq (φ : Emb) (i b : Nat) : φ.put i b i = b := if_pos rfl
theorem Emb.put_ne (φ : Emb) {i j : Nat} (b : Nat) (h : j ≠ i) : φ.put i b j = φ j := if_neg h

/-- The blocks that live objects stand for. -/
def Mg (φ : Emb) (A : Heap) (b : Nat) : Prop := ∃ i, A.live i ∧ φ i = b
/-- A block that is there and that no live object stands for: nobody writes it. -/
def Frz (φ : Emb) (A : Heap) (w : World) (b : Nat) : Prop := (b < w.heap.size ∧ ¬ Mg φ A b) ∧ φ.frz b

def CapIs (cap : Option Nat) (c : Nat) : Prop := ∀ k, cap = some k → c = k

mutual
/-- What an abstract value stands for, in a world. -/
def V (φ : Emb) (A : Heap) (w : World) : AVal → Value → Prop
  | .raw v, cv => cv = v
  | .ptr i off, cv => ∃ a, cv = .pointer (some a) ∧ i < A.top ∧ (A.live i → a = ⟨φ i, off, none⟩)
  | .fptr cs, cv => ∃ b off, cv = .pointer (some ⟨b, off, none⟩) ∧ Frz φ A w b ∧ Vrow φ A w b off cs
  | .sl i off len cap esz, cv => ∃ a c, cv = .slice (some a) len c ∧ i < A.top ∧ len ≤ c ∧ CapIs cap c ∧
      (A.live i → a = ⟨φ i, off, none⟩ ∧ ∃ sh, w.shape? (φ i) = some sh ∧ off + c * esz ≤ sh.2 ∧ (cap = none → off + c * esz = sh.2))
  | .fsl cs len cap, cv => ∃ base c, cv = .slice base len c ∧ len ≤ c ∧ CapIs cap c ∧
      (cs = [] ∨ ∃ b off, base = some ⟨b, off, none⟩ ∧ Frz φ A w b ∧ Vrow φ A w b off cs)
  | .map i, cv => ∃ r, cv = .map (some r) ∧ i < A.top ∧ (A.live i → r = φ i)
  | .agg cs, cv => ∃ xs : List Value, cv = .agg xs.toArray ∧ Vcs φ A w cs xs
  | .tup vs, cv => ∃ xs : List Value, cv = .tuple xs.toArray ∧ Vl φ A w vs xs
  | .func fn first captured, cv => ∃ xs ys : List Value, cv = .func fn xs.toArray ys.toArray ∧ Vl φ A w first xs ∧ Vl φ A w captured ys
  | .yield i, cv => ∃ r, cv = .func (.yield r) #[] #[] ∧ i < A.top ∧ (A.live i → r = φ i)
  | .any, _ => True
/-- Cells in a row, of a block, from a place on. -/
def Vrow (φ : Emb) (A : Heap) (w : World) (b off : Nat) : List AVal → Prop
  | [] => True
  | c :: cs => (∃ cv, w.cell? ⟨b, off, none⟩ = some cv ∧ cv.oneCell' = true ∧ V φ A w c cv) ∧ Vrow φ A w b (off + 1) cs
/-- Cells of an aggregate: each is the value of one cell. -/
def Vcs (φ : Emb) (A : Heap) (w : World) : List AVal → List Value → Prop
  | [], [] => True
  | c :: cs, x :: xs => (x.oneCell' = true ∧ V φ A w c x) ∧ Vcs φ A w cs xs
  | _, _ => False
def Vl (φ : Emb) (A : Heap) (w : World) : List AVal → List Value → Prop
  | [], [] => True
  | c :: cs, x :: xs => V φ A w c x ∧ Vl φ A w cs xs
  | _, _ => False
end

/-- A map's entries, in their order. -/
def Ves (φ : Emb) (A : Heap) (w : World) : List (AVal × AVal) → List MapEntry → Prop
  | [], [] => True
  | (k, v) :: es, x :: xs => V φ A w k x.key ∧ V φ A w v x.val ∧ Ves φ A w es xs
  | _, _ => False

/-- What an abstract object stands for. -/
def Rel (φ : Emb) (A : Heap) (w : World) : AObj → Obj → Prop
  | .cells vs, ob => ∃ c el fz, ob = .cells c el fz ∧ (fz.2 ≤ fz.1 ∨ c.size ≤ fz.1) ∧ vs.length ≤ c.size ∧ Vcs φ A w vs (c.toList.take vs.length)
  | .map es, ob => ∃ arr clock, ob = .map arr clock ∧ Ves φ A w es arr.toList ∧ (∀ x ∈ arr.toList, x.born < clock) ∧ (arr.toList.map (·.born)).Nodup
  | .loop busy ts ps asg body, ob => ∃ fn tmps dfr, ob = .loop { state := bif busy then .busy else .ready, pending := none, fn, tmps, params := ps, assign := asg, body, defers := dfr } ∧ Vl φ A w ts tmps.toList

/-- The abstract heap and a world. -/
structure R (φ : Emb) (A : Heap) (w : World) : Prop where
  lt : ∀ i, A.live i → i < A.top
  rel : ∀ i o, A.get i = some o → ∃ ob, w.heap[φ i]? = some ob ∧ Rel φ A w o ob
  inj : ∀ i j, A.live i → A.live j → φ i = φ j → i = j
  sep : ∀ i, A.live i → ¬ φ.frz (φ i)
  flt : ∀ b, φ.frz b → b < w.heap.size

/-- Nothing but memory (and what is drawn) is another. -/
def Io (w w' : World) : Prop := w'.os = w.os ∧ w'.tape = w.tape ∧ w'.output = w.output
theorem Io.rfl {w : World} : Io w w := ⟨Eq.refl _, Eq.refl _, Eq.refl _⟩
theorem Io.trans {w w' w'' : World} (h : Io w w') (h' : Io w' w'') : Io w w'' := ⟨h'.1.trans h.1, h'.2.1.trans h.2.1, h'.2.2.trans h.2.2⟩

/-- What a step leaves alone. -/
structure Ext (φ : Emb) (A : Heap) (w : World) (φ' : Emb) (A' : Heap) (w' : World) : Prop where
  top : A.top ≤ A'.top
  old : ∀ i, i < A.top → A'.live i → A.live i ∧ φ' i = φ i
  new : ∀ i, A.top ≤ i → A'.live i → w.heap.size ≤ φ' i ∨ Mg φ A (φ' i)
  size : w.heap.size ≤ w'.heap.size
  keep : ∀ b, b < w.heap.size → ¬ Mg φ A b → w'.heap[b]? = w.heap[b]?
  shape : ∀ b, b < w.heap.size → w'.shape? b = w.shape? b
  frz : ∀ b, φ.frz b → φ'.frz b
  fnew : ∀ b, φ'.frz b → φ.frz b ∨ w.heap.size ≤ b ∨ Mg φ A b
  io : Io w w'

theorem Ext.refl (φ : Emb) (A : Heap) (w : World) (hlt : ∀ i, A.live i → i < A.top) : Ext φ A w φ A w :=
  ⟨Nat.le_refl _, fun _ _ h => ⟨h, rfl⟩, fun i h hl => by have := hlt i hl; omega, Nat.le_refl _, fun _ _ _ => rfl, fun _ _ => rfl, fun _ h => h, fun _ h => .inl h, .rfl⟩

variable {φ φ' φ'' : Emb} {A A' A'' : Heap} {w w' w'' : World}

/-- What a step leaves of what values stand for. -/
structure Ext0 (φ : Emb) (A : Heap) (w : World) (φ' : Emb) (A' : Heap) (w' : World) : Prop where
  top : A.top ≤ A'.top
  old : ∀ i, i < A.top → A'.live i → A.live i ∧ φ' i = φ i
  nof : ∀ i, A.top ≤ i → A'.live i → ∀ b, Frz φ A w b → φ' i ≠ b
  size : w.heap.size ≤ w'.heap.size
  keep : ∀ b, Frz φ A w b → w'.heap[b]? = w.heap[b]?
  shape : ∀ b, b < w.heap.size → w'.shape? b = w.shape? b
  frz : ∀ b, φ.frz b → φ'.frz b

theorem Ext.to0 (h : Ext φ A w φ' A' w') : Ext0 φ A w φ' A' w' := by
  refine ⟨h.top, h.old, fun i hi hl b hf he => ?_, h.size, fun b hf => h.keep b hf.1.1 hf.1.2, h.shape, h.frz⟩
  rcases h.new i hi hl with h1 | h1
  · have := hf.1.1
    omega
  · exact hf.1.2 (he ▸ h1)

theorem Frz.ext0 {b : Nat} (h : Ext0 φ A w φ' A' w') (hf : Frz φ A w b) : Frz φ' A' w' b := by
  refine ⟨⟨Nat.lt_of_lt_of_le hf.1.1 h.size, ?_⟩, h.frz b hf.2⟩
  rintro ⟨i, hl, hi⟩
  by_cases hlt : i < A.top
  · obtain ⟨hl', he⟩ := h.old i hlt hl
    exact hf.1.2 ⟨i, hl', by rw [← he]; exact hi⟩
  · exact h.nof i (by omega) hl b hf hi

theorem Frz.ext {b : Nat} (h : Ext φ A w φ' A' w') (hf : Frz φ A w b) : Frz φ' A' w' b := hf.ext0 h.to0

theorem Mg.back (h : Ext φ A w φ' A' w') {b : Nat} (hm : Mg φ' A' b) : Mg φ A b ∨ w.heap.size ≤ b := by
  obtain ⟨i, hl, hi⟩ := hm
  by_cases hlt : i < A.top
  · obtain ⟨hl', he⟩ := h.old i hlt hl
    exact .inl ⟨i, hl', by rw [← he]; exact hi⟩
  · rcases h.new i (by omega) hl with h1 | h1
    · exact .inr (hi ▸ h1)
    · exact .inl (hi ▸ h1)

theorem Ext.trans (h : Ext φ A w φ' A' w') (h' : Ext φ' A' w' φ'' A'' w'') : Ext φ A w φ'' A'' w'' := by
  have nm : ∀ b, b < w.heap.size → ¬ Mg φ A b → ¬ Mg φ' A' b := fun b hb hm hm' => by
    rcases Mg.back h hm' with h1 | h1
    · exact hm h1
    · omega
  refine ⟨Nat.le_trans h.top h'.top, fun i hi hl => ?_, fun i hi hl => ?_, Nat.le_trans h.size h'.size, fun b hb hm => ?_, fun b hb => ?_, fun b hb => h'.frz b (h.frz b hb), fun b hb => ?_, h.io.trans h'.io⟩
  · obtain ⟨h1, h2⟩ := h'.old i (Nat.lt_of_lt_of_le hi h.top) hl
    obtain ⟨h3, h4⟩ := h.old i hi h1
    exact ⟨h3, h2.trans h4⟩
  · by_cases hlt : i < A'.top
    · obtain ⟨h1, h2⟩ := h'.old i hlt hl
      rw [h2]; exact h.new i hi h1
    · rcases h'.new i (by omega) hl with h1 | h1
      · exact .inl (Nat.le_trans h.size h1)
      · exact (Mg.back h h1).symm
  · rw [h'.keep b (Nat.lt_of_lt_of_le hb h.size) (nm b hb hm)]
    exact h.keep b hb hm
  · rw [h'.shape b (Nat.lt_of_lt_of_le hb h.size)]
    exact h.shape b hb
  · rcases h'.fnew b hb with h1 | h1 | h1
    · exact h.fnew b h1
    · exact .inr (.inl (Nat.le_trans h.size h1))
    · rcases Mg.back h h1 with h2 | h2
      · exact .inr (.inr h2)
      · exact .inr (.inl h2)

theorem cell_of_block {b : Nat} (h : w'.heap[b]? = w.heap[b]?) (off : Nat) (sp : Option Nat) : w'.cell? ⟨b, off, sp⟩ = w.cell? ⟨b, off, sp⟩ := by
  simp [World.cell?, h]

theorem shape_lt {b : Nat} {s : TypeId × Nat} (h : w.shape? b = some s) : b < w.heap.size := by
  unfold World.shape? at h
  split at h
  · rename_i hb
    rcases Nat.lt_or_ge b w.heap.size with hlt | hge
    · exact hlt
    · simp [Array.getElem?_eq_none hge] at hb
  · cases h

mutual
theorem V.ext0 (h : Ext0 φ A w φ' A' w') : ∀ {a : AVal} {v : Value}, V φ A w a v → V φ' A' w' a v
  | .raw _, _, hv => by simpa only [V] using hv
  | .ptr i off, _, hv => by
    simp only [V] at hv ⊢
    obtain ⟨a, h1, h2, h3⟩ := hv
    refine ⟨a, h1, Nat.lt_of_lt_of_le h2 h.top, fun hl => ?_⟩
    obtain ⟨h4, h5⟩ := h.old i h2 hl
    rw [h5]; exact h3 h4
  | .fptr cs, _, hv => by
    simp only [V] at hv ⊢
    obtain ⟨b, off, h1, h2, h3⟩ := hv
    exact ⟨b, off, h1, h2.ext0 h, Vrow.ext0 h h2 h3⟩
  | .sl i off len cap esz, _, hv => by
    simp only [V] at hv ⊢
    obtain ⟨a, c, h1, h2, h3, h4, h5⟩ := hv
    refine ⟨a, c, h1, Nat.lt_of_lt_of_le h2 h.top, h3, h4, fun hl => ?_⟩
    obtain ⟨h6, h7⟩ := h.old i h2 hl
    obtain ⟨h8, sh, h9, h10⟩ := h5 h6
    rw [h7]
    exact ⟨h8, sh, (h.shape _ (shape_lt h9)).trans h9, h10⟩
  | .fsl cs len cap, _, hv => by
    simp only [V] at hv ⊢
    obtain ⟨base, c, h1, h2, h3, h4⟩ := hv
    refine ⟨base, c, h1, h2, h3, ?_⟩
    rcases h4 with h4 | ⟨b, off, h4, h5, h6⟩
    · exact .inl h4
    · exact .inr ⟨b, off, h4, h5.ext0 h, Vrow.ext0 h h5 h6⟩
  | .map i, _, hv => by
    simp only [V] at hv ⊢
    obtain ⟨r, h1, h2, h3⟩ := hv
    refine ⟨r, h1, Nat.lt_of_lt_of_le h2 h.top, fun hl => ?_⟩
    obtain ⟨h4, h5⟩ := h.old i h2 hl
    rw [h5]; exact h3 h4
  | .agg cs, _, hv => by
    simp only [V] at hv ⊢
    obtain ⟨xs, h1, h2⟩ := hv
    exact ⟨xs, h1, Vcs.ext0 h h2⟩
  | .tup vs, _, hv => by
    simp only [V] at hv ⊢
    obtain ⟨xs, h1, h2⟩ := hv
    exact ⟨xs, h1, Vl.ext0 h h2⟩
  | .func fn first captured, _, hv => by
    simp only [V] at hv ⊢
    obtain ⟨xs, ys, h1, h2, h3⟩ := hv
    exact ⟨xs, ys, h1, Vl.ext0 h h2, Vl.ext0 h h3⟩
  | .yield i, _, hv => by
    simp only [V] at hv ⊢
    obtain ⟨r, h1, h2, h3⟩ := hv
    refine ⟨r, h1, Nat.lt_of_lt_of_le h2 h.top, fun hl => ?_⟩
    obtain ⟨h4, h5⟩ := h.old i h2 hl
    rw [h5]; exact h3 h4
  | .any, _, _ => by simp only [V]
theorem Vrow.ext0 (h : Ext0 φ A w φ' A' w') {b : Nat} (hb : Frz φ A w b) : ∀ {cs : List AVal} {off : Nat}, Vrow φ A w b off cs → Vrow φ' A' w' b off cs
  | [], _, _ => by simp only [Vrow]
  | c :: cs, off, hv => by
    simp only [Vrow] at hv ⊢
    obtain ⟨⟨cv, h1, h2, h3⟩, h4⟩ := hv
    exact ⟨⟨cv, by rw [cell_of_block (h.keep b hb)]; exact h1, h2, V.ext0 h h3⟩, Vrow.ext0 h hb h4⟩
theorem Vcs.ext0 (h : Ext0 φ A w φ' A' w') : ∀ {cs : List AVal} {xs : List Value}, Vcs φ A w cs xs → Vcs φ' A' w' cs xs
  | [], [], _ => by simp only [Vcs]
  | c :: cs, x :: xs, hv => by
    simp only [Vcs] at hv ⊢
    exact ⟨⟨hv.1.1, V.ext0 h hv.1.2⟩, Vcs.ext0 h hv.2⟩
  | [], _ :: _, hv => by simp only [Vcs] at hv
  | _ :: _, [], hv => by simp only [Vcs] at hv
theorem Vl.ext0 (h : Ext0 φ A w φ' A' w') : ∀ {cs : List AVal} {xs : List Value}, Vl φ A w cs xs → Vl φ' A' w' cs xs
  | [], [], _ => by simp only [Vl]
  | c :: cs, x :: xs, hv => by
    simp only [Vl] at hv ⊢
    exact ⟨V.ext0 h hv.1, Vl.ext0 h hv.2⟩
  | [], _ :: _, hv => by simp only [Vl] at hv
  | _ :: _, [], hv => by simp only [Vl] at hv
end

theorem V.ext (h : Ext φ A w φ' A' w') {a : AVal} {v : Value} (hv : V φ A w a v) : V φ' A' w' a v := hv.ext0 h.to0
theorem Vcs.ext (h : Ext φ A w φ' A' w') {cs : List AVal} {xs : List Value} (hv : Vcs φ A w cs xs) : Vcs φ' A' w' cs xs := hv.ext0 h.to0
theorem Vl.ext (h : Ext φ A w φ' A' w') {cs : List AVal} {xs : List Value} (hv : Vl φ A w cs xs) : Vl φ' A' w' cs xs := hv.ext0 h.to0

theorem Ves.ext0 (h : Ext0 φ A w φ' A' w') : ∀ {es : List (AVal × AVal)} {xs : List MapEntry}, Ves φ A w es xs → Ves φ' A' w' es xs
  | [], [], _ => by simp only [Ves]
  | (k, v) :: es, x :: xs, hv => by
    simp only [Ves] at hv ⊢
    exact ⟨hv.1.ext0 h, hv.2.1.ext0 h, Ves.ext0 h hv.2.2⟩
  | [], _ :: _, hv => by simp only [Ves] at hv
  | (_, _) :: _, [], hv => by simp only [Ves] at hv

theorem Rel.ext0 (h : Ext0 φ A w φ' A' w') {o : AObj} {ob : Obj} (hr : Rel φ A w o ob) : Rel φ' A' w' o ob := by
  cases o with
  | cells vs =>
    obtain ⟨c, el, fz, h1, h2, h3, h4⟩ := hr
    exact ⟨c, el, fz, h1, h2, h3, h4.ext0 h⟩
  | map es =>
    obtain ⟨arr, clock, h1, h2, h3, h4⟩ := hr
    exact ⟨arr, clock, h1, h2.ext0 h, h3, h4⟩
  | loop busy ts ps asg body =>
    obtain ⟨fn, tmps, dfr, h1, h2⟩ := hr
    exact ⟨fn, tmps, dfr, h1, h2.ext0 h⟩

theorem Rel.ext (h : Ext φ A w φ' A' w') {o : AObj} {ob : Obj} (hr : Rel φ A w o ob) : Rel φ' A' w' o ob := hr.ext0 h.to0

end Go.Ab
