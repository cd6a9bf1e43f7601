/- The abstract layer, part 18: the proof behind part 16, its end. -/
import Derived.Test.YtookmilggbnoiaaGreatAbDraw2
set_option linter.unusedSimpArgs false
set_option linter.unusedVariables false
namespace Go.Ab

variable {ds : List Deferred} {P : Program} {ops : Array Oper} {xs : List XOper} {anc : List (List Nat)} {φ φ' φ0 : Emb} {A A' A0 : Heap} {w w' w0 : World} {ts ts0 : List AVal} {a : Act} {K : AVal → Heap → Prop}
  {D : List Nat} {C : List (Nat × XOp × AVal)} {S : Nat → Prop} {bl : Nat → Nat} {Q : List AVal → Heap → Prop}

theorem Dr.stepSplit {rs : List DStep} {t : Nat} (h : Dr P xs anc Q (.split t :: rs) C ts A) : Dr P xs anc Q rs C ts A := by
  simp only [Dr] at h
  split at h
  · rename_i b hb
    have hset : ts.set t (.raw (.bool b)) = ts := by
      by_cases hl : t < ts.length
      · have : ts[t] = .raw (.bool b) := by simpa [List.getD, hl] using hb
        rw [← this]; exact List.set_getElem_self hl
      · exact List.set_eq_of_length_le (Nat.le_of_not_lt hl)
    cases b with
    | true => have := h.1 rfl; rwa [hset] at this
    | false => have := h.2 rfl; rwa [hset] at this
  · exact h

/-- A script that begins with what must be done in the model. -/
def Norm : List DStep → Prop
  | .q _ :: _ | .split _ :: _ => False
  | _ => True

theorem DInv.norm (hr : Reg ops xs anc) : ∀ (rs : List DStep) (D : List Nat) (C : List (Nat × XOp × AVal)) (ts : List AVal), DInv ds P ops xs anc φ0 A0 w0 ts0 D C ts A S bl a φ w → Dr P xs anc Q rs C ts A → scriptOk ops xs anc rs D [] = true →
    ∃ rs' D' C' ts', DInv ds P ops xs anc φ0 A0 w0 ts0 D' C' ts' A S bl a φ w ∧ Dr P xs anc Q rs' C' ts' A ∧ scriptOk ops xs anc rs' D' [] = true ∧ Norm rs'
  | [], D, C, ts, hI, h, hs => ⟨_, _, _, _, hI, h, hs, trivial⟩
  | .al i :: rs, D, C, ts, hI, h, hs => ⟨_, _, _, _, hI, h, hs, trivial⟩
  | .eff i :: rs, D, C, ts, hI, h, hs => ⟨_, _, _, _, hI, h, hs, trivial⟩
  | .split t :: rs, D, C, ts, hI, h, hs => by
    simp only [scriptOk, Bool.and_eq_true] at hs
    exact DInv.norm hr rs D C ts hI h.stepSplit hs.2
  | .q i :: rs, D, C, ts, hI, h, hs => by
    simp only [scriptOk, Bool.and_eq_true, decide_eq_true_eq, Bool.not_eq_true', List.all_eq_true, List.contains_iff_mem] at hs
    obtain ⟨⟨⟨⟨⟨_, h1⟩, h2⟩, h3⟩, h4⟩, h5⟩ := hs
    simp only [Dr] at h
    cases hx : xs[i]? with
    | none => rw [hx] at h; exact h.elim
    | some x =>
      rw [hx] at h h4
      have hq : x.op.quiet = true := by simpa using h4
      obtain ⟨v, g1, g2⟩ := runX_quiet hq h
      exact DInv.norm hr rs _ _ _ (hI.stepQ hr h1 hx (by simpa using h2) h3 hq g2) g1 h5

theorem Ext.adopt {b : Nat} {o : AObj} (h : Ext φ0 A0 w0 φ A w) (hb : w0.heap.size ≤ b) : Ext φ0 A0 w0 (φ.put A.top b) (A.push o) w := by
  have ht := h.top
  refine ⟨by rw [Heap.top_push]; omega, fun i hi hl => ?_, fun i hi hl => ?_, h.size, h.keep, h.shape, h.frz, h.fnew, h.io⟩
  · have hne : i ≠ A.top := by omega
    unfold Heap.live at hl
    rw [Heap.get_push_ne _ _ hne] at hl
    rw [Emb.put_ne _ _ hne]
    exact h.old i hi hl
  · by_cases hne : i = A.top
    · subst hne; rw [Emb.put_eq]; exact .inl hb
    · unfold Heap.live at hl
      rw [Heap.get_push_ne _ _ hne] at hl
      rw [Emb.put_ne _ _ hne]
      exact h.new i hi hl

/-- What was made in the model is made abstractly. -/
theorem DInv.adopt (hr : Reg ops xs anc) (hI : DInv ds P ops xs anc φ0 A0 w0 ts0 D C ts A S bl a φ w) {i : Nat} {dst : Option Nat} {zs : List Value} (hi : i < ops.size) (hx : xs[i]? = some ⟨dst, .alloc zs, none⟩) (hiD : i ∉ D) (hiS : S i) (hd : ∀ e ∈ deps ops i, e ∈ D) :
    DInv ds P ops xs anc φ0 A0 w0 ts0 (i :: D) C (put ts dst (.ptr A.top 0)) (A.push (.cells (zs.map .raw))) S bl a (φ.put A.top (bl i)) w := by
  obtain ⟨x', zs', t, hx', e1, e2, e3, e4, e5, e6, e7⟩ := hI.extra i hiS hiD
  rw [hx] at hx'
  cases hx'
  simp only [XOp.alloc.injEq] at e1
  subst e1
  have hrel : Rel φ A w (.cells (zs.map .raw)) (.cells zs.toArray t (0, 0)) := by
    refine ⟨zs.toArray, t, (0, 0), rfl, .inl (Nat.le_refl _), by simp, ?_⟩
    simpa using Vcs.raws (φ := φ) (A := A) (w := w) e3
  obtain ⟨hR', hE⟩ := hI.hR.adopt e4 hrel e6 e7
  have hdst : dstOf xs i = dst := by simp [dstOf, hx]
  have other : ∀ j, j < ops.size → j ≠ i → ∀ t, dstOf xs j = some t → dst ≠ some t := fun j hj hji t ht he => hr.dst i j t hi hj (Ne.symm hji) (hdst.trans he) ht
  refine ⟨hR', hI.ext.adopt e5, hI.dfr, hI.cl, ?_, ?_, ?_, ?_, ?_, ?_, ?_, ?_, ?_⟩
  · intro j hj
    rcases List.mem_cons.1 hj with rfl | hj
    · exact ⟨hi, fun e he => List.mem_cons_of_mem _ (hd e he)⟩
    · exact ⟨(hI.dcl j hj).1, fun e he => List.mem_cons_of_mem _ ((hI.dcl j hj).2 e he)⟩
  · intro j hj
    rcases hI.inD j hj with h | h
    · exact .inl (List.mem_cons_of_mem _ h)
    · exact .inr h
  · intro j hj hqj
    rcases List.mem_cons.1 hj with rfl | hj
    · exact hiS
    · exact hI.must j hj hqj
  · intro j hj hjD
    have hjD' : j ∉ D := fun h => hjD (List.mem_cons_of_mem _ h)
    have hji : j ≠ i := fun e => hjD (e ▸ List.mem_cons_self ..)
    obtain ⟨x, zs', t', g1, g2, g3, g4, g5, g6, g7, g8⟩ := hI.extra j hj hjD'
    refine ⟨x, zs', t', g1, g2, g3, g4, g5, g6, ?_, g8⟩
    rintro ⟨k, hk, he⟩
    by_cases hkt : k = A.top
    · subst hkt
      rw [Emb.put_eq] at he
      exact hji (hI.exinj j i hj hiS hjD' hiD he.symm)
    · rw [Emb.put_ne _ _ hkt] at he
      unfold Heap.live at hk
      rw [Heap.get_push_ne _ _ hkt] at hk
      exact g7 ⟨k, hk, he⟩
  · intro j k hj hk hjD hkD
    exact hI.exinj j k hj hk (fun h => hjD (List.mem_cons_of_mem _ h)) (fun h => hkD (List.mem_cons_of_mem _ h))
  · obtain ⟨tsS, h1, h2, h3, h4, h5⟩ := hI.tmps
    have hcase : ∃ tsS' : List AVal, Vl (φ.put A.top (bl i)) (A.push (.cells (zs.map .raw))) w tsS' a.tmps.toList ∧ tsS'.length = ts.length ∧ (∀ t, dst ≠ some t → tsS'.getD t AVal.undef = tsS.getD t AVal.undef) ∧ (∀ t, dst = some t → tsS'.getD t AVal.undef = (put ts dst (.ptr A.top 0)).getD t AVal.undef) := by
      cases dst with
      | none => exact ⟨tsS, h1.ext0 hE, h2, fun _ _ => rfl, fun t ht => by cases ht⟩
      | some d =>
        by_cases hl : d < ts.length
        · refine ⟨tsS.set d (.ptr A.top 0), ?_, by simpa using h2, fun t ht => getD_set_ne _ fun e => ht (by rw [e]), fun t ht => by cases ht; rw [put_getD_eq _ hl, getD_set_eq _ (by omega)]⟩
          have h6 := h5 d i hiS hiD hdst hl
          have h7 : tsS[d]? = some (.raw (.pointer (some ⟨bl i, 0, none⟩))) := by
            rw [List.getElem?_eq_getElem (by omega)]
            congr 1
            simpa [List.getD, show d < tsS.length by omega] using h6
          obtain ⟨u, h8, h9⟩ := h1.get h7
          simp only [V] at h9
          subst h9
          have h10 := (h1.ext0 hE).set (i := d) (c := .ptr A.top 0) (x := .pointer (some ⟨bl i, 0, none⟩)) (by
            simp only [V]
            exact ⟨_, rfl, by rw [Heap.top_push]; omega, fun _ => by rw [Emb.put_eq]⟩)
          have h11 : a.tmps.toList.set d (.pointer (some ⟨bl i, 0, none⟩)) = a.tmps.toList := by
            have h12 : d < a.tmps.toList.length := (List.getElem?_eq_some_iff.1 h8).1
            have h13 : a.tmps.toList[d] = .pointer (some ⟨bl i, 0, none⟩) := (List.getElem?_eq_some_iff.1 h8).2
            rw [← h13]; exact List.set_getElem_self h12
          rwa [h11] at h10
        · refine ⟨tsS, h1.ext0 hE, h2, fun _ _ => rfl, fun t ht => ?_⟩
          cases ht
          simp only [put]
          rw [List.set_eq_of_length_le (by omega)]
          simp [List.getD, List.getElem?_eq_none (show ts.length ≤ d by omega), List.getElem?_eq_none (show tsS.length ≤ d by omega)]
    obtain ⟨tsS', q1, q2, q3, q4⟩ := hcase
    refine ⟨tsS', q1, by rw [put_length]; exact q2, fun t j hj hjD ht => ?_, fun t ht => ?_, fun t j hj hjD ht hl => ?_⟩
    · by_cases hji : j = i
      · exact q4 t (by rw [← hdst, ← hji]; exact ht)
      · have hne := other j (hI.cl j hj).1 hji t ht
        rw [put_getD_ne _ hne, q3 t hne]
        rcases List.mem_cons.1 hjD with h | h
        · exact absurd h hji
        · exact h3 t j hj h ht
    · rw [q3 t (by rw [← hdst]; exact ht i hiS)]
      exact h4 t ht
    · have hji : j ≠ i := fun e => hjD (e ▸ List.mem_cons_self ..)
      rw [put_length] at hl
      rw [q3 t (other j (hI.cl j hj).1 hji t ht)]
      exact h5 t j hj (fun h => hjD (List.mem_cons_of_mem _ h)) ht hl
  · rw [put_length]; exact hI.len0
  · intro t ht
    rw [put_getD_ne _ (by rw [← hdst]; exact ht i (List.mem_cons_self ..))]
    exact hI.nowr t fun j hj => ht j (List.mem_cons_of_mem _ hj)
  · intro j hj hjS
    rcases List.mem_cons.1 hj with rfl | hj
    · exact absurd hiS hjS
    · obtain ⟨y, tsj, u, g1, g2, g3, g4, g5, g6⟩ := hI.facts j hj hjS
      have hji : j ≠ i := fun e => hiD (e ▸ hj)
      have hqy : y.op.quiet = true := by
        cases hq : y.op.quiet with
        | true => rfl
        | false => exact absurd (hI.must j hj (by simp [quietAt, g1, hq])) hjS
      refine ⟨y, tsj, u, g1, g2.push hqy hI.hR.lt, fun d hd hl => ?_, fun t ht k hk hkt hka => ?_, g5, g6⟩
      · rw [put_length] at hl
        rw [put_getD_ne _ (other j (hI.dcl j hj).1 hji d (by simp [dstOf, g1, hd]))]
        exact g3 d hd hl
      · have hkD : k ∈ D := hr.closed' (S := (· ∈ D)) hI.dcl hj k hka
        rw [put_getD_ne _ (other k (hI.dcl k hkD).1 (fun e => hiD (e ▸ hkD)) t hkt)]
        exact g4 t ht k hk hkt hka

/-- A script's steps say each what it is. -/
theorem script_cover : ∀ (rs : List DStep) (D als : List Nat), scriptOk ops xs anc rs D als = true → ∀ i, i < ops.size → i ∈ D ∨ .q i ∈ rs ∨ .al i ∈ rs ∨ .eff i ∈ rs
  | [], D, als, hs, i, hi => by
    simp only [scriptOk, List.all_eq_true, List.mem_range, List.contains_iff_mem] at hs
    exact .inl (hs i hi)
  | .split t :: rs, D, als, hs, i, hi => by
    simp only [scriptOk, Bool.and_eq_true] at hs
    rcases script_cover rs D als hs.2 i hi with h | h | h | h
    · exact .inl h
    · exact .inr (.inl (List.mem_cons_of_mem _ h))
    · exact .inr (.inr (.inl (List.mem_cons_of_mem _ h)))
    · exact .inr (.inr (.inr (List.mem_cons_of_mem _ h)))
  | .q k :: rs, D, als, hs, i, hi => by
    simp only [scriptOk, Bool.and_eq_true] at hs
    rcases script_cover rs _ als hs.2 i hi with h | h | h | h
    · rcases List.mem_cons.1 h with rfl | h
      · exact .inr (.inl (List.mem_cons_self ..))
      · exact .inl h
    · exact .inr (.inl (List.mem_cons_of_mem _ h))
    · exact .inr (.inr (.inl (List.mem_cons_of_mem _ h)))
    · exact .inr (.inr (.inr (List.mem_cons_of_mem _ h)))
  | .al k :: rs, D, als, hs, i, hi => by
    simp only [scriptOk, Bool.and_eq_true] at hs
    rcases script_cover rs _ _ hs.2 i hi with h | h | h | h
    · rcases List.mem_cons.1 h with rfl | h
      · exact .inr (.inr (.inl (List.mem_cons_self ..)))
      · exact .inl h
    · exact .inr (.inl (List.mem_cons_of_mem _ h))
    · exact .inr (.inr (.inl (List.mem_cons_of_mem _ h)))
    · exact .inr (.inr (.inr (List.mem_cons_of_mem _ h)))
  | .eff k :: rs, D, als, hs, i, hi => by
    simp only [scriptOk, Bool.and_eq_true] at hs
    rcases script_cover rs _ _ hs.2 i hi with h | h | h | h
    · rcases List.mem_cons.1 h with rfl | h
      · exact .inr (.inr (.inr (List.mem_cons_self ..)))
      · exact .inl h
    · exact .inr (.inl (List.mem_cons_of_mem _ h))
    · exact .inr (.inr (.inl (List.mem_cons_of_mem _ h)))
    · exact .inr (.inr (.inr (List.mem_cons_of_mem _ h)))

theorem script_al : ∀ (rs : List DStep) (D als : List Nat), scriptOk ops xs anc rs D als = true → ∀ i, .al i ∈ rs → i < ops.size ∧ i ∉ D ∧ ∃ dst zs, xs[i]? = some ⟨dst, .alloc zs, none⟩
  | [], D, als, hs, i, hi => by simp at hi
  | .split t :: rs, D, als, hs, i, hi => by
    simp only [scriptOk, Bool.and_eq_true] at hs
    simp at hi
    exact script_al rs D als hs.2 i hi
  | .q k :: rs, D, als, hs, i, hi => by
    simp only [scriptOk, Bool.and_eq_true] at hs
    simp at hi
    obtain ⟨h1, h2, h3⟩ := script_al rs _ als hs.2 i hi
    exact ⟨h1, fun h => h2 (List.mem_cons_of_mem _ h), h3⟩
  | .eff k :: rs, D, als, hs, i, hi => by
    simp only [scriptOk, Bool.and_eq_true] at hs
    simp at hi
    obtain ⟨h1, h2, h3⟩ := script_al rs _ _ hs.2 i hi
    exact ⟨h1, fun h => h2 (List.mem_cons_of_mem _ h), h3⟩
  | .al k :: rs, D, als, hs, i, hi => by
    simp only [scriptOk, Bool.and_eq_true, decide_eq_true_eq, Bool.not_eq_true', List.contains_eq_mem, decide_eq_false_iff_not] at hs
    obtain ⟨⟨⟨⟨h1, h2⟩, h3⟩, h4⟩, h5⟩ := hs
    rcases List.mem_cons.1 hi with h | h
    · cases h
      refine ⟨h1, h2, ?_⟩
      cases hx : xs[k]? with
      | none => rw [hx] at h4; simp at h4
      | some x =>
        rw [hx] at h4
        obtain ⟨dst, op, g⟩ := x
        simp at h4
        obtain ⟨h6, h7⟩ := h4
        cases op <;> simp [XOp.isAlloc] at h6
        subst h7
        exact ⟨_, _, rfl⟩
    · obtain ⟨h1, h2, h3⟩ := script_al rs _ _ h5 i h
      exact ⟨h1, fun h => h2 (List.mem_cons_of_mem _ h), h3⟩

/-- What a script that begins with what must be done looks like. -/
inductive Front (ops : Array Oper) (xs : List XOper) (anc : List (List Nat)) : List DStep → List Nat → Prop where
  | fin {l : List Nat} {D : List Nat} : Front ops xs anc (l.map .al) D
  | eff {l : List Nat} {e : Nat} {rs : List DStep} {D : List Nat} : e < ops.size → e ∉ D → quietAt xs e = false → allocAt xs e = false → (∀ i ∈ l, i ∈ ancs anc e) → (∀ s ∈ rs, DStep.waits anc e s = true) → Front ops xs anc (l.map .al ++ .eff e :: rs) D

theorem front_of : ∀ (rs : List DStep) (D als : List Nat), scriptOk ops xs anc rs D als = true → (als ≠ [] ∨ Norm rs) → (Front ops xs anc rs D ∧ ∀ (l : List Nat) (e : Nat) (rs' : List DStep), rs = l.map DStep.al ++ .eff e :: rs' → ∀ i ∈ als, i ∈ ancs anc e)
  | [], D, als, hs, hn => ⟨.fin (l := []), fun l e rs' h => by cases l <;> simp at h⟩
  | .split t :: rs, D, als, hs, hn => by
    simp only [scriptOk, Bool.and_eq_true, List.isEmpty_iff] at hs
    rcases hn with hn | hn
    · exact absurd hs.1 hn
    · exact hn.elim
  | .q i :: rs, D, als, hs, hn => by
    simp only [scriptOk, Bool.and_eq_true, List.isEmpty_iff] at hs
    rcases hn with hn | hn
    · exact absurd hs.1.1.1.1.1 hn
    · exact hn.elim
  | .eff i :: rs, D, als, hs, hn => by
    simp only [scriptOk, Bool.and_eq_true, decide_eq_true_eq, Bool.not_eq_true', List.contains_eq_mem, decide_eq_false_iff_not, List.all_eq_true, decide_eq_true_eq] at hs
    obtain ⟨⟨⟨⟨⟨⟨h1, h2⟩, h3⟩, h4⟩, h5⟩, h6⟩, h7⟩ := hs
    have hq : quietAt xs i = false ∧ allocAt xs i = false := by
      simp only [quietAt, allocAt]
      cases hx : xs[i]? with
      | none => simp
      | some x => rw [hx] at h6; simpa using h6
    refine ⟨Front.eff (l := []) h1 h2 hq.1 hq.2 (by simp) h5, fun l e rs' h k hk => ?_⟩
    cases l with
    | nil => simp at h; obtain ⟨rfl, _⟩ := h; exact h4 k hk
    | cons a l => simp at h
  | .al i :: rs, D, als, hs, hn => by
    simp only [scriptOk, Bool.and_eq_true, decide_eq_true_eq, Bool.not_eq_true', List.contains_eq_mem, decide_eq_false_iff_not] at hs
    obtain ⟨⟨⟨⟨h1, h2⟩, h3⟩, h4⟩, h5⟩ := hs
    obtain ⟨g1, g2⟩ := front_of rs _ _ h5 (.inl (by simp))
    refine ⟨?_, fun l e rs' h k hk => ?_⟩
    · generalize hD : i :: D = D' at g1
      cases g1 with
      | fin => exact .fin (l := i :: _)
      | eff q1 q2 q3 q4 q5 q6 =>
        subst hD
        refine .eff (l := i :: _) q1 (fun h => q2 (List.mem_cons_of_mem _ h)) q3 q4 (fun j hj => ?_) q6
        rcases List.mem_cons.1 hj with rfl | hj
        · exact g2 _ _ _ rfl j (List.mem_cons_self ..)
        · exact q5 j hj
    · cases l with
      | nil => simp at h
      | cons a l =>
        simp at h
        exact g2 l e rs' h.2 k (List.mem_cons_of_mem _ hk)

/-- All that was made ahead of an effect, or of the end. -/
theorem DInv.adopts (hr : Reg ops xs anc) : ∀ (l : List Nat) (tl : List DStep) (D als : List Nat) (ts : List AVal) (A : Heap) (φ : Emb), DInv ds P ops xs anc φ0 A0 w0 ts0 D C ts A S bl a φ w → Dr P xs anc Q (l.map .al ++ tl) C ts A →
    scriptOk ops xs anc (l.map .al ++ tl) D als = true → (∀ i ∈ l, S i) →
    ∃ D' als' ts' A' φ', DInv ds P ops xs anc φ0 A0 w0 ts0 D' C ts' A' S bl a φ' w ∧ Dr P xs anc Q tl C ts' A' ∧ scriptOk ops xs anc tl D' als' = true
  | [], tl, D, als, ts, A, φ, hI, h, hs, hl => ⟨D, als, ts, A, φ, hI, h, hs⟩
  | i :: l, tl, D, als, ts, A, φ, hI, h, hs, hl => by
    obtain ⟨g1, g2, dst, zs, g3⟩ := script_al _ _ _ hs i (by simp)
    simp only [List.map_cons, List.cons_append, scriptOk, Bool.and_eq_true, List.all_eq_true, List.contains_iff_mem] at hs
    simp only [List.map_cons, List.cons_append, Dr, g3] at h
    exact DInv.adopts hr l tl _ _ _ _ _ (hI.adopt hr g1 g3 g2 (hl i (by simp)) hs.1.1.2) h hs.2 fun j hj => hl j (by simp [hj])

end Go.Ab
