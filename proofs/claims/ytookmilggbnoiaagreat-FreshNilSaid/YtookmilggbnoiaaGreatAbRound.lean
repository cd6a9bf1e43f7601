/- The abstract layer, part 22: a round of a loop over a function. -/
import Derived.Test.YtookmilggbnoiaaGreatAbCode
set_option linter.unusedSimpArgs false
set_option linter.unusedVariables false
namespace Go.Ab

variable {P : Program} {φ φ' φ0 : Emb} {A A' A0 : Heap} {w w' w0 : World} {ts : List AVal} {a : Act} {K : AVal → Heap → Prop}

/-- A loop's record is marked. -/
theorem R.mark (hR : R φ A w) {i : Nat} {b b' : Bool} {ts : List AVal} {ps : Array Nat} {x y : Code} {fn : FuncId} {tmps : Array Value} {dfr : Nat} (ho : A.get i = some (.loop b ts ps x y)) (hV : Vl φ A w ts tmps.toList) :
    R φ (A.set i (.loop b' ts ps x y)) (w.putObj (φ i) (.loop { state := bif b' then .busy else .ready, pending := none, fn, tmps, params := ps, assign := x, body := y, defers := dfr })) ∧
    Ext φ A w φ (A.set i (.loop b' ts ps x y)) (w.putObj (φ i) (.loop { state := bif b' then .busy else .ready, pending := none, fn, tmps, params := ps, assign := x, body := y, defers := dfr })) := by
  obtain ⟨ob, hb, fn0, tmps0, dfr0, rfl, _⟩ := hR.rel i _ ho
  have hli : A.live i := by simp [Heap.live, ho]
  have hbl : φ i < w.heap.size := hR.block_lt hli
  have hlive : ∀ j, (A.set i (.loop b' ts ps x y)).live j ↔ A.live j := by
    intro j
    unfold Heap.live
    rw [Heap.get_set_if]
    by_cases hj : j = i
    · subst hj; simp [ho]
    · rw [if_neg hj]
  obtain ⟨o, hoo⟩ : ∃ o, o = Obj.loop { state := bif b' then .busy else .ready, pending := none, fn, tmps, params := ps, assign := x, body := y, defers := dfr } := ⟨_, rfl⟩
  have hext : Ext φ A w φ (A.set i (.loop b' ts ps x y)) (w.putObj (φ i) o) := by
    refine ⟨Nat.le_refl _, fun j _ hl => ⟨(hlive j).1 hl, rfl⟩, fun j hj hl => ?_, by rw [World.putObj_size]; exact Nat.le_refl _, fun b hbs hm => ?_, fun b hbs => ?_, fun _ h => h, fun _ h => .inl h, ⟨rfl, rfl, rfl⟩⟩
    · have := hR.lt j ((hlive j).1 hl); omega
    · exact World.putObj_heap_other fun e => hm ⟨i, hli, e.symm⟩
    · by_cases he : b = φ i
      · subst he
        simp only [World.shape?, World.putObj_heap_same hbl, hb, hoo]
      · simp only [World.shape?, World.putObj_heap_other he]
  rw [← hoo]
  refine ⟨⟨fun j hl => hR.lt j ((hlive j).1 hl), fun j o' hj => ?_, fun j k hj hk => hR.inj j k ((hlive j).1 hj) ((hlive k).1 hk), fun j hl => hR.sep j ((hlive j).1 hl), fun b h => Nat.lt_of_lt_of_le (hR.flt b h) hext.size⟩, hext⟩
  rw [Heap.get_set_if] at hj
  by_cases hji : j = i
  · subst hji
    rw [if_pos rfl] at hj
    cases hj
    exact ⟨o, World.putObj_heap_same hbl, fn, tmps, dfr, hoo, hV.ext hext⟩
  · rw [if_neg hji] at hj
    obtain ⟨ob, h5, h6⟩ := hR.rel j o' hj
    refine ⟨ob, ?_, h6.ext hext⟩
    rw [World.putObj_heap_other fun e => hji (hR.inj j i (by simp [Heap.live, hj]) hli e)]
    exact h5

theorem fold_V : ∀ (ps : List Nat) (args : List AVal) {us vs : List Value} {ts : List AVal}, Vl φ A w ts us → Vl φ A w args vs →
    Vl φ A w ((ps.zip args).foldl (fun ts p => ts.set p.1 p.2) ts) ((ps.zip vs).foldl (fun us p => us.set p.1 p.2) us)
  | [], _, _, _, _, h, _ => by simpa using h
  | p :: ps, [], us, [], ts, h, _ => by simpa using h
  | p :: ps, a :: args, us, v :: vs, ts, h, h' => by
    simp only [Vl] at h'
    simp only [List.zip_cons_cons, List.foldl_cons]
    exact fold_V ps args (h.set h'.1) h'.2
  | _ :: _, [], _, _ :: _, _, _, h' => by simp only [Vl] at h'
  | _ :: _, _ :: _, _, [], _, _, h' => by simp only [Vl] at h'

theorem fold_arr : ∀ (ps : List Nat) (vs : List Value) (tmps : Array Value), ((ps.toArray.zip vs.toArray).foldl (fun t (p, v) => t.setIfInBounds p v) tmps).toList = (ps.zip vs).foldl (fun us p => us.set p.1 p.2) tmps.toList := by
  intro ps vs tmps
  rw [List.zip_toArray, List.foldl_toArray]
  generalize ps.zip vs = l
  induction l generalizing tmps with
  | nil => rfl
  | cons p l ih => simp only [List.foldl_cons]; rw [ih]; simp

/-- A round's contract, from what its body is asked. -/
theorem JR_of {i : Nat} {args : List AVal} {A : Heap} {Q : AVal → Heap → Prop} {ts : List AVal} {ps : Array Nat} {x y : Code} (ho : A.get i = some (.loop false ts ps x y)) (hl : args.length = ps.size)
    (hfx : (comp P x).flat = true) (hfy : (comp P y).flat = true)
    (h : (∀ i, A.live i → i < A.top) → awp P A (comp P x) ⟨fun ts1 A1 => ∃ ts', A1.get i = some (.loop false ts' ps x y) ∧
      awp P A (comp P y) ⟨fun _ A2 => ∃ ts'', A2.get i = some (.loop true ts'' ps x y) ∧ Q (.raw (.bool true)) (A2.set i (.loop false ts'' ps x y)), fun _ _ => False, fun _ _ _ => False⟩ ts1 (A1.set i (.loop true ts' ps x y)),
      fun _ _ => False, fun _ _ _ => False⟩ ((ps.toList.zip args).foldl (fun ts p => ts.set p.1 p.2) ts) A) : JR P i args A Q := by
  have hli : A.live i := by simp [Heap.live, ho]
  have hit : ∀ {φ : Emb} {w : World}, R φ A w → i < A.top := fun hR => hR.lt i hli
  refine ⟨hli, fun φ w vs hR hv => ?_⟩
  obtain ⟨ob, hb, fn, tmps, dfr, rfl, hV⟩ := hR.rel i _ ho
  have hlv := hv.length
  have hy := run_yield (P := P) (args := vs.toArray) hb (by simp; omega)
  refine ⟨fn, _, x, y, hy, roundIn_of_wpIn trivial ?_⟩
  have hV0 : Vl φ A w ((ps.toList.zip args).foldl (fun ts p => ts.set p.1 p.2) ts) ((ps.zip vs.toArray).foldl (fun t (p, v) => t.setIfInBounds p v) tmps).toList := by
    have := fold_arr ps.toList vs tmps
    rw [Array.toArray_toList] at this
    rw [this]
    exact fold_V ps.toList args hV hv
  rw [show Fence.wide.inRound (φ i) = fenceR (some (φ i)) from rfl]
  refine wpIn_mono (awp_sound (w0 := w) (φ0 := φ) (ro := some (φ i)) (m := 0) hR x _ _ A φ _ w (.inr hfx) hR (.refl φ A w hR.lt) hV0 .nil (h hR.lt)) fun e a1 w1 he => ?_
  cases e with
  | normal =>
    obtain ⟨φ1, ts1, A1, ⟨ts', g1, g2⟩, hR1, hE1, hV1, hd1⟩ := he
    have hli1 : A1.live i := by simp [Heap.live, g1]
    have hφ1 : φ1 i = φ i := (hE1.old i (hit hR) hli1).2
    obtain ⟨ob1, hb1, fn1, tmps1, dfr1, rfl, hV1'⟩ := hR1.rel i _ g1
    have hbr := run_beginRound (P := P) hb1 rfl
    rw [hφ1] at hbr hb1
    refine ⟨_, hbr, ?_⟩
    obtain ⟨k1, k2⟩ := hR1.mark (b' := true) (fn := fn1) (dfr := dfr1) g1 hV1'
    rw [hφ1] at k1 k2
    refine wpIn_mono (awp_sound (w0 := w) (φ0 := φ) (ro := some (φ i)) (m := 0) hR y _ _ _ φ1 _ _ (.inr hfy) k1 (hE1.trans k2) (hV1.ext k2) (hd1.ext k2) g2) fun e a2 w2 he => ?_
    cases e with
    | normal =>
      obtain ⟨φ2, ts2, A2, ⟨ts'', m1, m2⟩, hR2, hE2, hV2, hd2⟩ := he
      have hli2 : A2.live i := by simp [Heap.live, m1]
      have hφ2 : φ2 i = φ i := (hE2.old i (hit hR) hli2).2
      obtain ⟨ob2, hb2, fn2, tmps2, dfr2, rfl, hV2'⟩ := hR2.rel i _ m1
      obtain ⟨n1, n2⟩ := hR2.mark (b' := false) (fn := fn2) (dfr := dfr2) m1 hV2'
      rw [hφ2] at n1 n2 hb2
      have hend := run_endRound (P := P) none hb2
      exact ⟨_, _, hend, _, rfl, φ2, _, _, m2, by simp only [V]; rfl, n1, hE2.trans n2⟩
    | ret => obtain ⟨_, _, _, h, _⟩ := he; exact h.elim
    | exit id => obtain ⟨_, _, _, h, _⟩ := he; exact h.elim
    | _ => exact he.elim
  | ret => obtain ⟨_, _, _, h, _⟩ := he; exact h.elim
  | exit id => obtain ⟨_, _, _, h, _⟩ := he; exact h.elim
  | _ => exact he.elim

end Go.Ab
