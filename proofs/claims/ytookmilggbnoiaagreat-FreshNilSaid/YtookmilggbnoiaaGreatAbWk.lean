/- The abstract layer, part 22: what values and heap may be taken for: objects by new numbers, frozen, or forgotten. -/
import Derived.Test.YtookmilggbnoiaaGreatAbCode
set_option linter.unusedSimpArgs false
set_option linter.unusedVariables false
namespace Go.Ab

variable {P : Program} {φ φ' φ0 : Emb} {A A' A0 B : Heap} {w w' w0 : World} {ts : List AVal} {a : Act} {K : AVal → Heap → Prop}

/-- What becomes of an object. -/
inductive Fate where
  | to (j : Nat)
  | ice (cs : List AVal)
  | lost

mutual
def AVal.ren (f : Nat → Fate) : AVal → AVal
  | .raw v => .raw v
  | .ptr i off => match f i with | .to j => .ptr j off | .ice cs => .fptr (cs.drop off) | .lost => .any
  | .fptr cs => .fptr (renL f cs)
  | .sl i off len cap esz => match f i with | .to j => .sl j off len cap esz | .ice cs => .fsl (cs.drop off) len cap | .lost => .any
  | .fsl cs len cap => .fsl (renL f cs) len cap
  | .map i => match f i with | .to j => .map j | _ => .any
  | .agg cs => .agg (renL f cs)
  | .tup vs => .tup (renL f vs)
  | .func fn first captured => .func fn (renL f first) (renL f captured)
  | .yield i => match f i with | .to j => .yield j | _ => .any
  | .any => .any
def renL (f : Nat → Fate) : List AVal → List AVal
  | [] => []
  | v :: vs => v.ren f :: renL f vs
end

def AObj.ren (f : Nat → Fate) : AObj → AObj
  | .cells vs => .cells (renL f vs)
  | .map es => .map (es.map fun e => (e.1.ren f, e.2.ren f))
  | .loop busy ts ps asg body => .loop busy (renL f ts) ps asg body

theorem renL_length (f : Nat → Fate) : ∀ (vs : List AVal), (renL f vs).length = vs.length
  | [] => rfl
  | v :: vs => by simp [renL, renL_length f vs]

theorem renL_append (f : Nat → Fate) : ∀ (vs us : List AVal), renL f (vs ++ us) = renL f vs ++ renL f us
  | [], us => rfl
  | v :: vs, us => by simp [renL, renL_append f vs us]

theorem renL_map (f : Nat → Fate) : ∀ (vs : List AVal), renL f vs = vs.map (·.ren f)
  | [] => rfl
  | v :: vs => by simp [renL, renL_map f vs]

/-- What the new numbers must be. -/
structure RenOk (A0 A B : Heap) (f : Nat → Fate) (g : Nat → Nat) : Prop where
  top : A0.top ≤ B.top
  lt : ∀ j, B.live j → j < B.top
  to : ∀ i j, f i = .to j → j < B.top ∧ (B.live j → g j = i)
  src : ∀ j, B.live j → f (g j) = .to j ∧ A.live (g j)
  ice : ∀ i cs, f i = .ice cs → ∃ vs, A.get i = some (.cells vs) ∧ cs = renL f vs
  old : ∀ j, j < A0.top → B.live j → g j = j
  new : ∀ j, A0.top ≤ j → B.live j → A0.top ≤ g j

mutual
theorem V.id_of_lt {f : Nat → Fate} (hf : ∀ i, i < A0.top → f i = .to i) : ∀ {v : AVal} {u : Value}, V φ0 A0 w0 v u → v.ren f = v
  | .any, _, _ => rfl
  | .raw _, _, _ => rfl
  | .ptr i off, _, h => by
    simp only [V] at h
    obtain ⟨a, _, h2, _⟩ := h
    simp only [AVal.ren, hf i h2]
  | .fptr cs, _, h => by
    simp only [V] at h
    obtain ⟨b, off, _, _, h3⟩ := h
    simp only [AVal.ren, Vrow.id_of_lt hf h3]
  | .sl i off len cap esz, _, h => by
    simp only [V] at h
    obtain ⟨a, c, _, h2, _⟩ := h
    simp only [AVal.ren, hf i h2]
  | .fsl cs len cap, _, h => by
    simp only [V] at h
    obtain ⟨base, c, _, _, _, rfl | ⟨b, off, _, _, h6⟩⟩ := h
    · rfl
    · simp only [AVal.ren, Vrow.id_of_lt hf h6]
  | .map i, _, h => by
    simp only [V] at h
    obtain ⟨a, _, h2, _⟩ := h
    simp only [AVal.ren, hf i h2]
  | .agg cs, _, h => by
    simp only [V] at h
    obtain ⟨xs, _, h2⟩ := h
    simp only [AVal.ren, Vcs.id_of_lt hf h2]
  | .tup cs, _, h => by
    simp only [V] at h
    obtain ⟨xs, _, h2⟩ := h
    simp only [AVal.ren, Vl.id_of_lt hf h2]
  | .func fn x y, _, h => by
    simp only [V] at h
    obtain ⟨xs, ys, _, h2, h3⟩ := h
    simp only [AVal.ren, Vl.id_of_lt hf h2, Vl.id_of_lt hf h3]
  | .yield i, _, h => by
    simp only [V] at h
    obtain ⟨a, _, h2, _⟩ := h
    simp only [AVal.ren, hf i h2]
theorem Vrow.id_of_lt {f : Nat → Fate} (hf : ∀ i, i < A0.top → f i = .to i) : ∀ {cs : List AVal} {b off : Nat}, Vrow φ0 A0 w0 b off cs → renL f cs = cs
  | [], _, _, _ => rfl
  | c :: cs, _, _, h => by
    simp only [Vrow] at h
    obtain ⟨⟨u, _, _, h1⟩, h2⟩ := h
    simp only [renL, V.id_of_lt hf h1, Vrow.id_of_lt hf h2]
theorem Vcs.id_of_lt {f : Nat → Fate} (hf : ∀ i, i < A0.top → f i = .to i) : ∀ {cs : List AVal} {xs : List Value}, Vcs φ0 A0 w0 cs xs → renL f cs = cs
  | [], _, _ => rfl
  | c :: cs, [], h => by simp only [Vcs] at h
  | c :: cs, x :: xs, h => by
    simp only [Vcs] at h
    simp only [renL, V.id_of_lt hf h.1.2, Vcs.id_of_lt hf h.2]
theorem Vl.id_of_lt {f : Nat → Fate} (hf : ∀ i, i < A0.top → f i = .to i) : ∀ {cs : List AVal} {xs : List Value}, Vl φ0 A0 w0 cs xs → renL f cs = cs
  | [], _, _ => rfl
  | c :: cs, [], h => by simp only [Vl] at h
  | c :: cs, x :: xs, h => by
    simp only [Vl] at h
    simp only [renL, V.id_of_lt hf h.1, Vl.id_of_lt hf h.2]
end

theorem Ves.id_of_lt {f : Nat → Fate} (hf : ∀ i, i < A0.top → f i = .to i) : ∀ {es : List (AVal × AVal)} {xs : List MapEntry}, Ves φ0 A0 w0 es xs → es.map (fun e => (e.1.ren f, e.2.ren f)) = es
  | [], _, _ => rfl
  | (k, v) :: es, [], h => by simp only [Ves] at h
  | (k, v) :: es, x :: xs, h => by
    simp only [Ves] at h
    simp only [List.map_cons, h.1.id_of_lt hf, h.2.1.id_of_lt hf, Ves.id_of_lt hf h.2.2]

theorem Rel.id_of_lt {f : Nat → Fate} (hf : ∀ i, i < A0.top → f i = .to i) {o : AObj} {ob : Obj} (h : Rel φ0 A0 w0 o ob) : o.ren f = o := by
  cases o with
  | cells vs =>
    obtain ⟨c, el, fz, _, _, _, h4⟩ := h
    simp only [AObj.ren, h4.id_of_lt hf]
  | map es =>
    obtain ⟨arr, clock, _, h2, _⟩ := h
    simp only [AObj.ren, h2.id_of_lt hf]
  | loop busy ts ps asg body =>
    obtain ⟨fn, tmps, dfr, _, h2⟩ := h
    simp only [AObj.ren, h2.id_of_lt hf]

section
variable {f : Nat → Fate} {g : Nat → Nat}

def Emb.via (φ : Emb) (g : Nat → Nat) (A : Heap) (f : Nat → Fate) : Emb := ⟨fun j => φ (g j), fun b => φ.frz b ∨ ∃ i, (∃ cs, f i = .ice cs) ∧ A.live i ∧ φ i = b⟩

theorem RenOk.mg (hr : RenOk A0 A B f g) {b : Nat} (h : Mg (φ.via g A f) B b) : ∃ j, B.live j ∧ φ (g j) = b ∧ A.live (g j) := by
  obtain ⟨j, h1, h2⟩ := h
  exact ⟨j, h1, h2, (hr.src j h1).2⟩

theorem RenOk.frz (hr : RenOk A0 A B f g) {b : Nat} (h : Frz φ A w b) : Frz (φ.via g A f) B w b := by
  refine ⟨⟨h.1.1, fun hm => ?_⟩, .inl h.2⟩
  obtain ⟨j, _, h2, h3⟩ := hr.mg hm
  exact h.1.2 ⟨g j, h3, h2⟩

theorem RenOk.frzIce (hr : RenOk A0 A B f g) (hR : R φ A w) {i : Nat} {cs : List AVal} (h : f i = .ice cs) (hl : A.live i) : Frz (φ.via g A f) B w (φ i) := by
  refine ⟨⟨hR.block_lt hl, fun hm => ?_⟩, .inr ⟨i, ⟨cs, h⟩, hl, rfl⟩⟩
  obtain ⟨j, h1, h2, h3⟩ := hr.mg hm
  have := hR.inj _ _ h3 hl h2
  have h4 := (hr.src j h1).1
  rw [this, h] at h4
  cases h4

/-- A row of a live object's cells. -/
theorem R.rowCells (hR : R φ A w) {i : Nat} {vs : List AVal} (ho : A.get i = some (.cells vs)) (off : Nat) : ∃ xs : List Value, Vcs φ A w (vs.drop off) xs ∧ ∀ j x, xs[j]? = some x → w.cell? ⟨φ i, off + j, none⟩ = some x := by
  obtain ⟨xs, h1, h2⟩ := (hR.vrow (off := off) ho).list
  exact ⟨xs, h1, h2⟩

theorem Vrow.ofCells {b : Nat} : ∀ {cs : List AVal} {xs : List Value} {off : Nat}, Vcs φ A w cs xs → (∀ j x, xs[j]? = some x → w.cell? ⟨b, off + j, none⟩ = some x) → Vrow φ A w b off cs
  | [], [], off, _, _ => by simp only [Vrow]
  | c :: cs, x :: xs, off, h, hx => by
    simp only [Vcs] at h
    simp only [Vrow]
    refine ⟨⟨x, by simpa using hx 0 x rfl, h.1.1, h.1.2⟩, Vrow.ofCells h.2 fun j y hy => ?_⟩
    have := hx (j + 1) y (by simpa using hy)
    rwa [show off + 1 + j = off + (j + 1) by omega]
  | [], _ :: _, _, h, _ => by simp only [Vcs] at h
  | _ :: _, [], _, h, _ => by simp only [Vcs] at h

theorem renL_drop (f : Nat → Fate) : ∀ (n : Nat) (vs : List AVal), (renL f vs).drop n = renL f (vs.drop n)
  | 0, vs => rfl
  | n + 1, [] => rfl
  | n + 1, v :: vs => by simp [renL, renL_drop f n vs]

mutual
theorem RenOk.V (hr : RenOk A0 A B f g) (hR : R φ A w) : ∀ (r v : AVal) (u : Value), r = v.ren f → Go.Ab.V φ A w v u → Go.Ab.V (φ.via g A f) B w r u
  | .any, v, u, he, hv => by simp only [Go.Ab.V]
  | .raw x, v, u, he, hv => by
    cases v <;> simp only [AVal.ren] at he
    case raw y => cases he; simpa only [Go.Ab.V] using hv
    all_goals (try (split at he <;> cases he)) <;> cases he
  | .agg rs, v, u, he, hv => by
    cases v <;> simp only [AVal.ren] at he
    case agg cs =>
      cases he
      simp only [Go.Ab.V] at hv ⊢
      obtain ⟨xs, h1, h2⟩ := hv
      exact ⟨xs, h1, RenOk.Vcs hr hR _ cs xs rfl h2⟩
    all_goals (try (split at he <;> cases he)) <;> cases he
  | .tup rs, v, u, he, hv => by
    cases v <;> simp only [AVal.ren] at he
    case tup cs =>
      cases he
      simp only [Go.Ab.V] at hv ⊢
      obtain ⟨xs, h1, h2⟩ := hv
      exact ⟨xs, h1, RenOk.Vl hr hR _ cs xs rfl h2⟩
    all_goals (try (split at he <;> cases he)) <;> cases he
  | .func fn rs rs', v, u, he, hv => by
    cases v <;> simp only [AVal.ren] at he
    case func gn xs ys =>
      cases he
      simp only [Go.Ab.V] at hv ⊢
      obtain ⟨zs, us, h1, h2, h3⟩ := hv
      exact ⟨zs, us, h1, RenOk.Vl hr hR _ _ zs rfl h2, RenOk.Vl hr hR _ _ us rfl h3⟩
    all_goals (try (split at he <;> cases he)) <;> cases he
  | .map j, v, u, he, hv => by
    cases v <;> simp only [AVal.ren] at he
    case map i =>
      split at he <;> cases he
      rename_i hf
      simp only [Go.Ab.V] at hv ⊢
      obtain ⟨r, h1, h2, h3⟩ := hv
      obtain ⟨h4, h5⟩ := hr.to _ _ hf
      refine ⟨r, h1, h4, fun hl => ?_⟩
      have h6 := h5 hl
      show r = φ (g j)
      rw [h6]
      exact h3 (by rw [← h6]; exact (hr.src j hl).2)
    all_goals (try (split at he <;> cases he)) <;> cases he
  | .yield j, v, u, he, hv => by
    cases v <;> simp only [AVal.ren] at he
    case yield i =>
      split at he <;> cases he
      rename_i hf
      simp only [Go.Ab.V] at hv ⊢
      obtain ⟨r, h1, h2, h3⟩ := hv
      obtain ⟨h4, h5⟩ := hr.to _ _ hf
      refine ⟨r, h1, h4, fun hl => ?_⟩
      have h6 := h5 hl
      show r = φ (g j)
      rw [h6]
      exact h3 (by rw [← h6]; exact (hr.src j hl).2)
    all_goals (try (split at he <;> cases he)) <;> cases he
  | .ptr j off, v, u, he, hv => by
    cases v <;> simp only [AVal.ren] at he
    case ptr i off' =>
      split at he <;> cases he
      rename_i hf
      simp only [Go.Ab.V] at hv ⊢
      obtain ⟨r, h1, h2, h3⟩ := hv
      obtain ⟨h4, h5⟩ := hr.to _ _ hf
      refine ⟨r, h1, h4, fun hl => ?_⟩
      have h6 := h5 hl
      show r = ⟨φ (g j), _, none⟩
      rw [h6]
      exact h3 (by rw [← h6]; exact (hr.src j hl).2)
    all_goals (try (split at he <;> cases he)) <;> cases he
  | .sl j off len cap esz, v, u, he, hv => by
    cases v <;> simp only [AVal.ren] at he
    case sl i off' len' cap' esz' =>
      split at he <;> cases he
      rename_i hf
      simp only [Go.Ab.V] at hv ⊢
      obtain ⟨a, c, h1, h2, h3, h4, h5⟩ := hv
      obtain ⟨h6, h7⟩ := hr.to _ _ hf
      refine ⟨a, c, h1, h6, h3, h4, fun hl => ?_⟩
      have h8 := h7 hl
      show a = ⟨φ (g j), _, none⟩ ∧ ∃ sh, w.shape? (φ (g j)) = some sh ∧ _
      rw [h8]
      exact h5 (by rw [← h8]; exact (hr.src j hl).2)
    all_goals (try (split at he <;> cases he)) <;> cases he
  | .fptr rs, v, u, he, hv => by
    cases v <;> simp only [AVal.ren] at he
    case ptr i off =>
      split at he <;> cases he
      rename_i cs hf
      simp only [Go.Ab.V] at hv ⊢
      obtain ⟨a, rfl, h2, h3⟩ := hv
      obtain ⟨vs, ho, rfl⟩ := hr.ice _ _ hf
      have hl : A.live i := by simp [Heap.live, ho]
      obtain ⟨xs, g1, g2⟩ := hR.rowCells ho off
      refine ⟨φ i, off, by rw [h3 hl], hr.frzIce hR hf hl, Vrow.ofCells (RenOk.Vcs hr hR _ _ xs (renL_drop f off vs) g1) g2⟩
    case fptr cs =>
      cases he
      simp only [Go.Ab.V] at hv ⊢
      obtain ⟨b, off, h1, h2, h3⟩ := hv
      obtain ⟨xs, g1, g2⟩ := h3.list
      exact ⟨b, off, h1, hr.frz h2, Vrow.ofCells (RenOk.Vcs hr hR _ cs xs rfl g1) g2⟩
    all_goals (try (split at he <;> cases he)) <;> cases he
  | .fsl rs len cap, v, u, he, hv => by
    cases v <;> simp only [AVal.ren] at he
    case sl i off len' cap' esz =>
      split at he <;> cases he
      rename_i cs hf
      simp only [Go.Ab.V] at hv ⊢
      obtain ⟨a, c, rfl, h2, h3, h4, h5⟩ := hv
      obtain ⟨vs, ho, rfl⟩ := hr.ice _ _ hf
      have hl : A.live i := by simp [Heap.live, ho]
      obtain ⟨xs, g1, g2⟩ := hR.rowCells ho off
      refine ⟨_, c, rfl, h3, h4, .inr ⟨φ i, off, by rw [(h5 hl).1], hr.frzIce hR hf hl, Vrow.ofCells (RenOk.Vcs hr hR _ _ xs (renL_drop f off vs) g1) g2⟩⟩
    case fsl cs len' cap' =>
      cases he
      simp only [Go.Ab.V] at hv ⊢
      obtain ⟨base, c, h1, h2, h3, h4⟩ := hv
      refine ⟨base, c, h1, h2, h3, ?_⟩
      rcases h4 with rfl | ⟨b, off, h4, h5, h6⟩
      · exact .inl rfl
      · obtain ⟨xs, g1, g2⟩ := h6.list
        exact .inr ⟨b, off, h4, hr.frz h5, Vrow.ofCells (RenOk.Vcs hr hR _ cs xs rfl g1) g2⟩
    all_goals (try (split at he <;> cases he)) <;> cases he
theorem RenOk.Vcs (hr : RenOk A0 A B f g) (hR : R φ A w) : ∀ (rs vs : List AVal) (us : List Value), rs = renL f vs → Go.Ab.Vcs φ A w vs us → Go.Ab.Vcs (φ.via g A f) B w rs us
  | [], [], [], he, hv => by simp only [Go.Ab.Vcs]
  | r :: rs, v :: vs, u :: us, he, hv => by
    simp only [renL, List.cons.injEq] at he
    simp only [Go.Ab.Vcs] at hv ⊢
    exact ⟨⟨hv.1.1, RenOk.V hr hR r v u he.1 hv.1.2⟩, RenOk.Vcs hr hR rs vs us he.2 hv.2⟩
  | [], v :: vs, us, he, hv => by simp [renL] at he
  | r :: rs, [], us, he, hv => by simp [renL] at he
  | [], [], _ :: _, he, hv => by simp only [Go.Ab.Vcs] at hv
  | _ :: _, _ :: _, [], he, hv => by simp only [Go.Ab.Vcs] at hv
theorem RenOk.Vl (hr : RenOk A0 A B f g) (hR : R φ A w) : ∀ (rs vs : List AVal) (us : List Value), rs = renL f vs → Go.Ab.Vl φ A w vs us → Go.Ab.Vl (φ.via g A f) B w rs us
  | [], [], [], he, hv => by simp only [Go.Ab.Vl]
  | r :: rs, v :: vs, u :: us, he, hv => by
    simp only [renL, List.cons.injEq] at he
    simp only [Go.Ab.Vl] at hv ⊢
    exact ⟨RenOk.V hr hR r v u he.1 hv.1, RenOk.Vl hr hR rs vs us he.2 hv.2⟩
  | [], v :: vs, us, he, hv => by simp [renL] at he
  | r :: rs, [], us, he, hv => by simp [renL] at he
  | [], [], _ :: _, he, hv => by simp only [Go.Ab.Vl] at hv
  | _ :: _, _ :: _, [], he, hv => by simp only [Go.Ab.Vl] at hv
end

theorem RenOk.Ves (hr : RenOk A0 A B f g) (hR : R φ A w) : ∀ (es : List (AVal × AVal)) (xs : List MapEntry), Go.Ab.Ves φ A w es xs → Go.Ab.Ves (φ.via g A f) B w (es.map fun e => (e.1.ren f, e.2.ren f)) xs
  | [], [], h => by simp only [List.map_nil, Go.Ab.Ves]
  | (k, v) :: es, x :: xs, h => by
    simp only [Go.Ab.Ves] at h
    simp only [List.map_cons, Go.Ab.Ves]
    exact ⟨RenOk.V hr hR _ k _ rfl h.1, RenOk.V hr hR _ v _ rfl h.2.1, RenOk.Ves hr hR es xs h.2.2⟩
  | [], _ :: _, h => by simp only [Go.Ab.Ves] at h
  | (_, _) :: _, [], h => by simp only [Go.Ab.Ves] at h

theorem RenOk.rel (hr : RenOk A0 A B f g) (hR : R φ A w) {o : AObj} {ob : Obj} (h : Rel φ A w o ob) : Rel (φ.via g A f) B w (o.ren f) ob := by
  cases o with
  | cells vs =>
    obtain ⟨c, el, fz, h1, h2, h3, h4⟩ := h
    refine ⟨c, el, fz, h1, h2, by rw [renL_length]; exact h3, ?_⟩
    rw [renL_length]
    exact RenOk.Vcs hr hR _ vs _ rfl h4
  | map es =>
    obtain ⟨arr, clock, h1, h2, h3, h4⟩ := h
    exact ⟨arr, clock, h1, RenOk.Ves hr hR _ _ h2, h3, h4⟩
  | loop busy ts ps asg body =>
    obtain ⟨fn, tmps, dfr, h1, h2⟩ := h
    exact ⟨fn, tmps, dfr, h1, RenOk.Vl hr hR _ ts _ rfl h2⟩

theorem Wk.ren {G : List AVal → Heap → Prop} {vs : List AVal} (hr : RenOk A0 A B f g) (hf : ∀ i, i < A0.top → f i = .to i)
    (hobj : ∀ j o, B.get j = some o → (j < A0.top ∧ A0.get j = some o ∧ A.get j = some o) ∨ ∃ o', A.get (g j) = some o' ∧ o = o'.ren f) (h : G (renL f vs) B) : Wk A0 vs A G := by
  intro φ0 w0 φ w us hR0 hE hR hV
  refine ⟨φ.via g A f, renL f vs, B, h, ?_, ?_, RenOk.Vl hr hR _ vs us rfl hV, fun b hb => ?_, fun b hb => ?_⟩
  rotate_left 2
  · obtain ⟨j, h1, h2, h3⟩ := hr.mg hb
    exact ⟨g j, h3, h2⟩
  · rcases hb with hb | ⟨i, _, hl, rfl⟩
    · exact .inl hb
    · exact .inr ⟨i, hl, rfl⟩
  · refine ⟨hr.top, fun i hi hl => ?_, fun i hi hl => ?_, hE.size, hE.keep, hE.shape, fun b hb => .inl (hE.frz b hb), fun b hb => ?_, hE.io⟩
    · have h1 := hr.old i hi hl
      obtain ⟨h2, h3⟩ := hE.old i hi (by rw [← h1]; exact (hr.src i hl).2)
      exact ⟨h2, by show φ (g i) = _; rw [h1]; exact h3⟩
    · exact hE.new (g i) (hr.new i hi hl) (hr.src i hl).2
    · rcases hb with hb | ⟨i, ⟨cs, hi⟩, hl, rfl⟩
      · exact hE.fnew b hb
      · rcases Nat.lt_or_ge i A0.top with hlt | hge
        · rw [hf i hlt] at hi; cases hi
        · exact .inr (hE.new i hge hl)
  · refine ⟨hr.lt, fun j o ho => ?_, fun i j hi hj he => ?_, fun i hl hf' => ?_, fun b hb => ?_⟩
    · rcases hobj j o ho with ⟨h1, h2, h3⟩ | ⟨o', h1, rfl⟩
      · have h4 := hr.old j h1 (by simp [Heap.live, ho])
        obtain ⟨ob0, _, h5⟩ := hR0.rel j o h2
        obtain ⟨ob, h6, h7⟩ := hR.rel j o h3
        refine ⟨ob, by show w.heap[φ (g j)]? = _; rw [h4]; exact h6, ?_⟩
        rw [← h5.id_of_lt hf]
        exact hr.rel hR h7
      · obtain ⟨ob, h6, h7⟩ := hR.rel _ o' h1
        exact ⟨ob, h6, hr.rel hR h7⟩
    · have h1 := hr.src i hi
      have h2 := hr.src j hj
      have h3 := hR.inj _ _ h1.2 h2.2 he
      have h4 := h1.1
      rw [h3, h2.1] at h4
      cases h4
      rfl
    · have h1 := hr.src i hl
      rcases hf' with hf' | ⟨k, ⟨cs, hk⟩, hkl, he⟩
      · exact hR.sep _ h1.2 hf'
      · have h3 := hR.inj _ _ hkl h1.2 he
        rw [h3, h1.1] at hk
        cases hk
    · rcases hb with hb | ⟨i, _, hl, rfl⟩
      · exact hR.flt b hb
      · exact hR.block_lt hl

end

/-! ## In use -/

def Heap.pushL (A : Heap) : List AObj → Heap
  | [] => A
  | o :: os => (A.push o).pushL os

/-- Objects made since 'top', by their distance from it: those in 'ks' are kept, in that order; those in 'ices' are frozen; the others are forgotten. -/
def fate (top : Nat) (ks : List Nat) (ices : List (Nat × List AVal)) (i : Nat) : Fate :=
  if i < top then .to i else
    match ks.findIdx? (· == i - top) with
    | some k => .to (top + k)
    | none =>
      match ices.find? (·.1 == i - top) with
      | some p => .ice p.2
      | none => .lost

def kept (A : Heap) (top : Nat) (f : Nat → Fate) : List Nat → List AObj → Prop
  | [], [] => True
  | k :: ks, o :: os => (∃ o', A.get (top + k) = some o' ∧ o = o'.ren f) ∧ kept A top f ks os
  | _, _ => False

def iced (A : Heap) (top : Nat) (f : Nat → Fate) : List (Nat × List AVal) → Prop
  | [] => True
  | p :: ps => (∃ vs, A.get (top + p.1) = some (.cells vs) ∧ p.2 = renL f vs) ∧ iced A top f ps

theorem Heap.pushL_top : ∀ (os : List AObj) (A : Heap), (A.pushL os).top = A.top + os.length
  | [], A => rfl
  | o :: os, A => by rw [Heap.pushL, Heap.pushL_top os, Heap.top_push, List.length_cons]; omega

theorem Heap.pushL_get_lt : ∀ (os : List AObj) (A : Heap) (j : Nat), j < A.top → (A.pushL os).get j = A.get j
  | [], A, j, _ => rfl
  | o :: os, A, j, h => by rw [Heap.pushL, Heap.pushL_get_lt os _ j (by rw [Heap.top_push]; omega), Heap.get_push_ne _ _ (by omega)]

theorem Heap.pushL_get_ge : ∀ (os : List AObj) (A : Heap) (j : Nat), A.top ≤ j → (∀ i, A.live i → i < A.top) → (A.pushL os).get j = os[j - A.top]?
  | [], A, j, h, hlt => by
    cases hg : A.get j with
    | none => simpa [Heap.pushL] using hg
    | some o => have := hlt j (by simp [Heap.live, hg]); omega
  | o :: os, A, j, h, hlt => by
    rw [Heap.pushL]
    by_cases hj : j = A.top
    · subst hj
      rw [Heap.pushL_get_lt os _ _ (by rw [Heap.top_push]; omega), Heap.get_push]
      simp
    · rw [Heap.pushL_get_ge os _ j (by rw [Heap.top_push]; omega) ?_, Heap.top_push]
      · rw [show j - A.top = (j - (A.top + 1)) + 1 by omega, List.getElem?_cons_succ]
      · intro i hl
        unfold Heap.live at hl
        rw [Heap.get_push_if] at hl
        rw [Heap.top_push]
        split at hl
        · omega
        · have := hlt i hl; omega

theorem kept_length {f : Nat → Fate} {top : Nat} : ∀ {ks : List Nat} {os : List AObj}, kept A top f ks os → os.length = ks.length
  | [], [], _ => rfl
  | _ :: ks, _ :: os, h => by simp only [kept] at h; simp [kept_length h.2]
  | [], _ :: _, h => by simp only [kept] at h
  | _ :: _, [], h => by simp only [kept] at h

theorem kept_get {f : Nat → Fate} {top : Nat} : ∀ {ks : List Nat} {os : List AObj}, kept A top f ks os → ∀ (k : Nat) (o : AObj), os[k]? = some o → ∃ i o', ks[k]? = some i ∧ A.get (top + i) = some o' ∧ o = o'.ren f
  | [], [], _, k, o, ho => by simp at ho
  | i :: ks, o' :: os, h, 0, o, ho => by
    simp only [kept] at h
    simp at ho
    subst ho
    obtain ⟨o2, h1, h2⟩ := h.1
    exact ⟨i, o2, rfl, h1, h2⟩
  | i :: ks, o' :: os, h, k + 1, o, ho => by
    simp only [kept] at h
    simpa using kept_get h.2 k o (by simpa using ho)
  | [], _ :: _, h, _, _, _ => by simp only [kept] at h
  | _ :: _, [], h, _, _, _ => by simp only [kept] at h

theorem iced_get {f : Nat → Fate} {top : Nat} : ∀ {ps : List (Nat × List AVal)}, iced A top f ps → ∀ p ∈ ps, ∃ vs, A.get (top + p.1) = some (.cells vs) ∧ p.2 = renL f vs
  | [], _, p, hp => by simp at hp
  | q :: ps, h, p, hp => by
    simp only [iced] at h
    rcases List.mem_cons.1 hp with rfl | hp
    · exact h.1
    · exact iced_get h.2 p hp

theorem Wk.tidy {G : List AVal → Heap → Prop} {vs : List AVal} (ks : List Nat) (ices : List (Nat × List AVal)) (os : List AObj) (B0 : Heap)
    (hlt : ∀ i, B0.live i → i < A0.top) (htop : B0.top = A0.top)
    (hold : ∀ j o, B0.get j = some o → (A0.get j = some o ∧ A.get j = some o) ∨ ∃ o', A.get j = some o' ∧ o = o'.ren (fate A0.top ks ices))
    (hnd : ks.Nodup) (hks : kept A A0.top (fate A0.top ks ices) ks os) (hice : iced A A0.top (fate A0.top ks ices) ices)
    (h : G (renL (fate A0.top ks ices) vs) (B0.pushL os)) : Wk A0 vs A G := by
  have hlt' : ∀ i, B0.live i → i < B0.top := fun i hi => by rw [htop]; exact hlt i hi
  have hlen := kept_length hks
  have hfk : ∀ k i, ks[k]? = some i → fate A0.top ks ices (A0.top + i) = .to (A0.top + k) := by
    intro k i hk
    have hfi : ks.findIdx? (· == i) = some k := by
      rw [List.findIdx?_eq_some_iff_getElem]
      obtain ⟨hkl, hke⟩ := List.getElem?_eq_some_iff.1 hk
      refine ⟨hkl, by simp [hke], fun j hj => ?_⟩
      simp only [beq_iff_eq]
      intro he
      exact absurd (he.trans hke.symm) (List.pairwise_iff_getElem.1 hnd j k (by omega) hkl hj)
    simp only [fate]
    rw [if_neg (by omega), show A0.top + i - A0.top = i by omega, hfi]
  have hlive : ∀ j, (B0.pushL os).live j → (j < A0.top ∧ B0.live j) ∨ ∃ k i, j = A0.top + k ∧ ks[k]? = some i ∧ ∃ o o', os[k]? = some o ∧ A.get (A0.top + i) = some o' ∧ o = o'.ren (fate A0.top ks ices) := by
    intro j hj
    rcases Nat.lt_or_ge j A0.top with hl | hl
    · left
      unfold Heap.live at hj ⊢
      rw [Heap.pushL_get_lt _ _ _ (by omega)] at hj
      exact ⟨hl, hj⟩
    · right
      unfold Heap.live at hj
      rw [Heap.pushL_get_ge _ _ _ (by omega) hlt', htop] at hj
      cases ho : os[j - A0.top]? with
      | none => exact absurd ho hj
      | some o =>
        obtain ⟨i, o', h1, h2, h3⟩ := kept_get hks _ _ ho
        exact ⟨j - A0.top, i, by omega, h1, o, o', ho, h2, h3⟩
  refine Wk.ren (B := B0.pushL os) (f := fate A0.top ks ices) (g := fun j => if j < A0.top then j else A0.top + (ks[j - A0.top]?).getD 0) ?_ (fun i hi => by simp only [fate]; rw [if_pos hi]) (fun j o ho => ?_) h
  · refine ⟨by rw [Heap.pushL_top]; omega, fun j hj => ?_, fun i j hij => ?_, fun j hj => ?_, fun i cs hi => ?_, fun j hj _ => by rw [if_pos hj], fun j hj hl => ?_⟩
    · rw [Heap.pushL_top, htop]
      rcases hlive j hj with ⟨h1, _⟩ | ⟨k, i, rfl, h1, o, o', h2, _⟩
      · omega
      · have := (List.getElem?_eq_some_iff.1 h2).1; omega
    · rw [Heap.pushL_top, htop]
      simp only [fate] at hij
      split at hij
      · rename_i hi
        cases hij
        exact ⟨by omega, fun _ => by rw [if_pos hi]⟩
      · rename_i hi
        split at hij
        · rename_i k hk
          cases hij
          obtain ⟨h1, h2, _⟩ := List.findIdx?_eq_some_iff_getElem.1 hk
          refine ⟨by omega, fun _ => ?_⟩
          rw [if_neg (by omega), show A0.top + k - A0.top = k by omega, List.getElem?_eq_getElem h1, Option.getD_some]
          have := (beq_iff_eq.1 h2)
          omega
        · split at hij <;> cases hij
    · rcases hlive j hj with ⟨h1, h2⟩ | ⟨k, i, rfl, h1, o, o', h2, h3, h4⟩
      · rw [if_pos h1]
        refine ⟨by simp only [fate]; rw [if_pos h1], ?_⟩
        unfold Heap.live at h2 ⊢
        cases ho : B0.get j with
        | none => exact absurd ho h2
        | some o =>
          rcases hold j o ho with ⟨_, h⟩ | ⟨o', h, _⟩ <;> rw [h] <;> simp
      · rw [if_neg (by omega), show A0.top + k - A0.top = k by omega, h1, Option.getD_some]
        exact ⟨hfk k i h1, by simp [Heap.live, h3]⟩
    · simp only [fate] at hi
      split at hi
      · cases hi
      · split at hi
        · cases hi
        · split at hi
          · rename_i hge _ _ p hp
            cases hi
            have h1 := List.mem_of_find?_eq_some hp
            have h2 := List.find?_some hp
            obtain ⟨vs, h3, h4⟩ := iced_get hice p h1
            have h5 := beq_iff_eq.1 h2
            rw [h5, show A0.top + (i - A0.top) = i by omega] at h3
            exact ⟨vs, h3, h4⟩
          · cases hi
    · rw [if_neg (by omega)]
      omega
  · rcases Nat.lt_or_ge j A0.top with hl | hl
    · rw [Heap.pushL_get_lt _ _ _ (by omega)] at ho
      rcases hold j o ho with ⟨h1, h2⟩ | ⟨o', h1, h2⟩
      · exact .inl ⟨hl, h1, h2⟩
      · right
        rw [if_pos hl]
        exact ⟨o', h1, h2⟩
    · right
      rw [Heap.pushL_get_ge _ _ _ (by omega) hlt', htop] at ho
      obtain ⟨i, o', h1, h2, h3⟩ := kept_get hks _ _ ho
      rw [if_neg (by omega), h1, Option.getD_some]
      exact ⟨o', h2, h3⟩

end Go.Ab
