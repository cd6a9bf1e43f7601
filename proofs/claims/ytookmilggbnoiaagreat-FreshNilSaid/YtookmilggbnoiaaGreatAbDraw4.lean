/- The abstract layer, part 19: the model's step in a region, and the theorem of open orders. -/
import Derived.Test.YtookmilggbnoiaaGreatAbDraw3
set_option linter.unusedSimpArgs false
set_option linter.unusedVariables false
namespace Go.Ab

variable {ro : Option Nat} {n : Nat} {ds : List Deferred} {P : Program} {ops : Array Oper} {xs : List XOper} {anc : List (List Nat)} {φ φ' φ0 : Emb} {A A' A0 : Heap} {w w' w0 : World} {ts ts0 : List AVal} {a : Act} {K : AVal → Heap → Prop}
  {D : List Nat} {C : List (Nat × XOp × AVal)} {S : Nat → Prop} {bl : Nat → Nat} {Q : List AVal → Heap → Prop}

theorem runX_congr {x : XOper} {ts' : List AVal} (hs : ∀ t ∈ x.slots, ts.getD t AVal.undef = ts'.getD t AVal.undef) (h : runX P x ts A K) : runX P x ts' A K := by
  obtain ⟨hw, hgd⟩ := guard_congr hs
  have hi : x.op.inst ts = x.op.inst ts' := inst_congr fun t ht => hs t (by simp [XOper.slots, ht])
  unfold runX at h ⊢
  rw [hw]
  refine ⟨hgd h.1, ?_⟩
  have h := h.2
  cases hg : wants x.guard ts with
  | true =>
    rw [hg] at h
    simp only [cond_true] at h ⊢
    rw [← ask_inst ts' ts', ← hi, ask_inst]
    exact h
  | false => rw [hg] at h; exact h

theorem getD_len {l : List AVal} {t : Nat} (h : l.length ≤ t) : l.getD t AVal.undef = AVal.undef := by
  simp [List.getD, List.getElem?_eq_none h]

/-- What was made early outlives a step. -/
theorem extra_keep (hE : Ext φ A w φ' A' w') {b : Nat} {o : Obj} (h1 : w.heap[b]? = some o) (h2 : ¬ Mg φ A b) (h3 : ¬ φ.frz b) : w'.heap[b]? = some o ∧ ¬ Mg φ' A' b ∧ ¬ φ'.frz b := by
  have hb : b < w.heap.size := by
    rcases Nat.lt_or_ge b w.heap.size with h | h
    · exact h
    · rw [Array.getElem?_eq_none h] at h1; cases h1
  refine ⟨(hE.keep b hb h2).trans h1, fun hm => ?_, fun hf => ?_⟩
  · rcases Mg.back hE hm with h | h
    · exact h2 h
    · omega
  · rcases hE.fnew b hf with h | h | h
    · exact h3 h
    · omega
    · exact h2 h

theorem cl_more {i : Nat} (hcl : ∀ i, S i → i < ops.size ∧ ∀ e ∈ deps ops i, S e) (hi : i < ops.size) (hd : ∀ e ∈ deps ops i, S e) : ∀ j, (j = i ∨ S j) → j < ops.size ∧ ∀ e ∈ deps ops j, e = i ∨ S e := by
  intro j hj
  rcases hj with rfl | hj
  · exact ⟨hi, fun e he => .inr (hd e he)⟩
  · exact ⟨(hcl j hj).1, fun e he => .inr ((hcl j hj).2 e he)⟩

/-- The model does what was done abstractly. -/
theorem DInv.late (hr : Reg ops xs anc) (hI : DInv ds P ops xs anc φ0 A0 w0 ts0 D C ts A S bl a φ w) {i : Nat} (hiD : i ∈ D) (hiS : ¬ S i) (hd : ∀ e ∈ deps ops i, S e)
    {o : Oper} {x : XOper} (ho : ops[i]? = some o) (hx : xs[i]? = some x) (hok : OpOk P ops o x) {next : Act → World → Prop} {Q' : Exit → Act → World → Prop}
    (hn : ∀ a' φ' w', DInv ds P ops xs anc φ0 A0 w0 ts0 D C ts A (fun j => j = i ∨ S j) bl a' φ' w' → next a' w') : wpOpIn (fenceR ro) n P ops Q' i next a w := by
  have hi := (hI.dcl i hiD).1
  obtain ⟨x', tsi, v, hx', hv, f1, f2, f3, f4⟩ := hI.facts i hiD hiS
  rw [hx] at hx'
  cases hx'
  obtain ⟨tsS, h1, h2, h3, h4, h5⟩ := hI.tmps
  have hdst : dstOf xs i = x.dst := by simp [dstOf, hx]
  have other : ∀ j, j < ops.size → j ≠ i → ∀ t, dstOf xs j = some t → x.dst ≠ some t := fun j hj hji t ht he => hr.dst i j t hi hj (Ne.symm hji) (hdst.trans he) ht
  have hs : ∀ t ∈ x.slots, tsi.getD t AVal.undef = tsS.getD t AVal.undef := by
    intro t ht
    by_cases hex : ∃ j, j < ops.size ∧ j ≠ i ∧ dstOf xs j = some t ∧ j ∈ ancs anc i
    · obtain ⟨j, hj, hji, hjt, hja⟩ := hex
      rw [f2 t ht j hji hjt hja]
      exact (h3 t j (hr.closed hI.cl i hi hd j hja) (hr.closed' (S := (· ∈ D)) hI.dcl hiD j hja) hjt).symm
    · rw [f3 t ht fun j hj hji hjt hja => hex ⟨j, hj, hji, hjt, hja⟩]
      refine (h4 t fun j hj hjt => ?_).symm
      have hji : j ≠ i := fun e => hiS (e ▸ hj)
      rcases hr.slots i x t j hi (hI.cl j hj).1 hx ht hji hjt with h | h
      · exact hex ⟨j, (hI.cl j hj).1, hji, hjt, h.1⟩
      · exact hiS (hr.closed' hI.cl hj i h)
  have hrun : runX P x tsS A fun v' A' => v' = v ∧ A' = A := (hv.congr hs).run ⟨rfl, rfl⟩
  refine hok.wpOp ho hI.hR h1 hrun ?_
  rintro u w' ⟨φ', v', A', ⟨rfl, rfl⟩, hV, hR', hE⟩
  refine hn _ φ' w' ⟨hR', hI.ext.trans hE, put_defers _ _ hI.dfr, cl_more hI.cl hi hd, hI.dcl, ?_, fun j hj hq => .inr (hI.must j hj hq), ?_, ?_, ?_, hI.len0, hI.nowr, fun j hj hjS => hI.facts j hj fun h => hjS (.inr h)⟩
  · rintro j (rfl | hj)
    · exact .inl hiD
    · exact hI.inD j hj
  · rintro j (rfl | hj) hjD
    · exact absurd hiD hjD
    · obtain ⟨y, zs, t, g1, g2, g3, g4, g5, g6, g7, g8⟩ := hI.extra j hj hjD
      obtain ⟨k1, k2, k3⟩ := extra_keep hE g5 g7 g8
      exact ⟨y, zs, t, g1, g2, g3, g4, k1, g6, k2, k3⟩
  · rintro j k (rfl | hj) (rfl | hk) hjD hkD he
    · rfl
    · exact absurd hiD hjD
    · exact absurd hiD hkD
    · exact hI.exinj j k hj hk hjD hkD he
  · refine ⟨put tsS x.dst v', ?_, by rw [put_length]; exact h2, ?_, ?_, ?_⟩
    · rw [← hok.1]
      exact put_Vl (h1.ext hE) hV
    · rintro t j (rfl | hj) hjD ht
      · rw [hdst] at ht
        by_cases hl : t < ts.length
        · rw [ht, put_getD_eq _ (by omega)]
          exact (f1 t ht hl).symm
        · rw [getD_len (by rw [put_length]; omega), getD_len (by omega)]
      · rw [put_getD_ne _ (other j (hI.cl j hj).1 (fun e => hiS (e ▸ hj)) t ht)]
        exact h3 t j hj hjD ht
    · intro t ht
      rw [put_getD_ne _ (by rw [← hdst]; exact ht i (.inl rfl))]
      exact h4 t fun j hj => ht j (.inr hj)
    · rintro t j (rfl | hj) hjD ht hl
      · exact absurd hiD hjD
      · rw [put_getD_ne _ (other j (hI.cl j hj).1 (fun e => hiS (e ▸ hj)) t ht)]
        exact h5 t j hj hjD ht hl

/-- The model makes a block ahead of its turn. -/
theorem DInv.early (hr : Reg ops xs anc) (hI : DInv ds P ops xs anc φ0 A0 w0 ts0 D C ts A S bl a φ w) {i : Nat} (hi : i < ops.size) (hiD : i ∉ D) (hiS : ¬ S i) (hd : ∀ e ∈ deps ops i, S e)
    {o : Oper} {dst : Option Nat} {zs : List Value} (ho : ops[i]? = some o) (hx : xs[i]? = some ⟨dst, .alloc zs, none⟩) (hok : AlOk P o ⟨dst, .alloc zs, none⟩) {next : Act → World → Prop} {Q' : Exit → Act → World → Prop}
    (hn : ∀ a' w' bl', DInv ds P ops xs anc φ0 A0 w0 ts0 D C ts A (fun j => j = i ∨ S j) bl' a' φ w' → next a' w') : wpOpIn (fenceR ro) n P ops Q' i next a w := by
  obtain ⟨e1, e2, e3, ty, e4⟩ := hok zs rfl rfl
  simp only [] at e1
  simp only [wpOpIn, ho, Region.wanted, e2, if_true]
  have e5 : (o.semAt ro a.eval).run P w = (execOp a.eval o).run P w := semAt_round (A := A) (φ := φ) (K := fun _ _ => True) (by rw [e4]; exact ⟨_, .any, A, trivial, by simp only [V], (hI.hR.garbage (w' := { w with heap := w.heap.push (.cells zs.toArray ty) }) rfl).1, (hI.hR.garbage (w' := { w with heap := w.heap.push (.cells zs.toArray ty) }) rfl).2⟩)
  refine ⟨fun f _ => fenceR_fn ro f, ?_⟩
  show o.uponIn (fenceR ro) n P a next Q' ((o.semAt ro a.eval).run P w)
  rw [e5, e4]
  simp only [Oper.uponIn]
  obtain ⟨tsS, h1, h2, h3, h4, h5⟩ := hI.tmps
  have hdst : dstOf xs i = dst := by simp [dstOf, hx]
  have other : ∀ j, j < ops.size → j ≠ i → ∀ t, dstOf xs j = some t → dst ≠ some t := fun j hj hji t ht he => hr.dst i j t hi hj (Ne.symm hji) (hdst.trans he) ht
  obtain ⟨hR', hE⟩ := hI.hR.garbage (w' := { w with heap := w.heap.push (.cells zs.toArray ty) }) rfl
  have hne : ∀ j, S j → j ≠ i := fun j hj e => hiS (e ▸ hj)
  have hlt : ∀ j, S j → j ∉ D → bl j < w.heap.size := by
    intro j hj hjD
    obtain ⟨y, zs', t, g1, g2, g3, g4, g5, g6⟩ := hI.extra j hj hjD
    rcases Nat.lt_or_ge (bl j) w.heap.size with h | h
    · exact h
    · rw [Array.getElem?_eq_none h] at g5; cases g5
  refine hn _ _ (fun j => if j = i then w.heap.size else bl j) ⟨hR', hI.ext.trans hE, put_defers _ _ hI.dfr, cl_more hI.cl hi hd, hI.dcl, ?_, fun j hj hq => .inr (hI.must j hj hq), ?_, ?_, ?_, hI.len0, hI.nowr, fun j hj hjS => hI.facts j hj fun h => hjS (.inr h)⟩
  · rintro j (rfl | hj)
    · right; simp [allocAt, hx, XOp.isAlloc]
    · exact hI.inD j hj
  · rintro j (rfl | hj) hjD
    · refine ⟨_, zs, ty, hx, rfl, rfl, e3, by simp, by simp; exact hI.ext.size, ?_, ?_⟩
      · rintro ⟨k, hk, he⟩
        have := hI.hR.block_lt hk
        simp at he
        omega
      · intro hf
        have := hI.hR.flt _ hf
        simp at this
    · obtain ⟨y, zs', t, g1, g2, g3, g4, g5, g6, g7, g8⟩ := hI.extra j hj hjD
      obtain ⟨k1, k2, k3⟩ := extra_keep hE g5 g7 g8
      rw [if_neg (hne j hj)]
      exact ⟨y, zs', t, g1, g2, g3, g4, k1, g6, k2, k3⟩
  · rintro j k (rfl | hj) (rfl | hk) hjD hkD he
    · rfl
    · rw [if_pos rfl, if_neg (hne k hk)] at he
      have := hlt k hk hkD
      omega
    · rw [if_pos rfl, if_neg (hne j hj)] at he
      have := hlt j hj hjD
      omega
    · rw [if_neg (hne j hj), if_neg (hne k hk)] at he
      exact hI.exinj j k hj hk hjD hkD he
  · refine ⟨put tsS dst (.raw (.pointer (some ⟨w.heap.size, 0, none⟩))), ?_, by rw [put_length]; exact h2, ?_, ?_, ?_⟩
    · rw [← e1]
      exact put_Vl (h1.ext hE) (by simp only [V])
    · rintro t j (rfl | hj) hjD ht
      · exact absurd hjD hiD
      · rw [put_getD_ne _ (other j (hI.cl j hj).1 (hne j hj) t ht)]
        exact h3 t j hj hjD ht
    · intro t ht
      rw [put_getD_ne _ (by rw [← hdst]; exact ht i (.inl rfl))]
      exact h4 t fun j hj => ht j (.inr hj)
    · rintro t j (rfl | hj) hjD ht hl
      · rw [hdst] at ht
        rw [ht, put_getD_eq _ (by omega), if_pos rfl]
      · rw [put_getD_ne _ (other j (hI.cl j hj).1 (hne j hj) t ht), if_neg (hne j hj)]
        exact h5 t j hj hjD ht hl

theorem stabs_get : ∀ {C : List (Nat × XOp × AVal)} {an : List Nat} {i : Nat} {x : XOp} {v : AVal}, stabs P an A C → (i, x, v) ∈ C → i ∈ an ∨ ask P x [] A fun a _ => a = v
  | (j, y, u) :: C, an, i, x, v, h, hm => by
    simp only [stabs] at h
    rcases List.mem_cons.1 hm with e | hm
    · cases e
      cases hc : an.contains j with
      | true => left; simpa using hc
      | false => rw [hc] at h; exact .inr h.1
    · exact stabs_get h.2 hm

/-- An effect, in both. -/
theorem DInv.effect (hr : Reg ops xs anc) (hI : DInv ds P ops xs anc φ0 A0 w0 ts0 D C ts A S bl a φ w) {i : Nat} (hi : i < ops.size) (hiD : i ∉ D) (hiS : ¬ S i) (hd : ∀ e ∈ deps ops i, S e) (hd' : ∀ e ∈ deps ops i, e ∈ D)
    {o : Oper} {x : XOper} (ho : ops[i]? = some o) (hx : xs[i]? = some x) (hok : OpOk P ops o x) {K : AVal → Heap → Prop} (h : runX P x ts A fun v A' => stabs P (anc.getD i []) A' C ∧ K v A') {next : Act → World → Prop} {Q' : Exit → Act → World → Prop}
    (hn : ∀ a' φ' w' v A', K v A' → DInv ds P ops xs anc φ0 A0 w0 ts0 (i :: D) C (put ts x.dst v) A' (fun j => j = i ∨ S j) bl a' φ' w' → next a' w') : wpOpIn (fenceR ro) n P ops Q' i next a w := by
  obtain ⟨tsS, h1, h2, h3, h4, h5⟩ := hI.tmps
  have hdst : dstOf xs i = x.dst := by simp [dstOf, hx]
  have other : ∀ j, j < ops.size → j ≠ i → ∀ t, dstOf xs j = some t → x.dst ≠ some t := fun j hj hji t ht he => hr.dst i j t hi hj (Ne.symm hji) (hdst.trans he) ht
  have hs : ∀ t ∈ x.slots, ts.getD t AVal.undef = tsS.getD t AVal.undef := by
    intro t ht
    by_cases hex : ∃ j, j < ops.size ∧ j ≠ i ∧ dstOf xs j = some t ∧ j ∈ ancs anc i
    · obtain ⟨j, hj, hji, hjt, hja⟩ := hex
      exact (h3 t j (hr.closed hI.cl i hi hd j hja) (hr.closed (S := (· ∈ D)) hI.dcl i hi hd' j hja) hjt).symm
    · rw [hI.nowr t fun j hj hjt => ?_]
      · refine (h4 t fun j hj hjt => ?_).symm
        have hji : j ≠ i := fun e => hiS (e ▸ hj)
        rcases hr.slots i x t j hi (hI.cl j hj).1 hx ht hji hjt with h | h
        · exact hex ⟨j, (hI.cl j hj).1, hji, hjt, h.1⟩
        · exact hiS (hr.closed' hI.cl hj i h)
      · have hji : j ≠ i := fun e => hiD (e ▸ hj)
        rcases hr.slots i x t j hi (hI.dcl j hj).1 hx ht hji hjt with h | h
        · exact hex ⟨j, (hI.dcl j hj).1, hji, hjt, h.1⟩
        · exact hiD (hr.closed' (S := (· ∈ D)) hI.dcl hj i h)
  refine hok.wpOp ho hI.hR h1 (runX_congr hs h) ?_
  rintro u w' ⟨φ', v, A', ⟨hst, hk⟩, hV, hR', hE⟩
  have hne : ∀ j, S j → j ≠ i := fun j hj e => hiS (e ▸ hj)
  have hneD : ∀ j, j ∈ D → j ≠ i := fun j hj e => hiD (e ▸ hj)
  refine hn _ φ' w' v A' hk ⟨hR', hI.ext.trans hE, put_defers _ _ hI.dfr, cl_more hI.cl hi hd, ?_, ?_, ?_, ?_, ?_, ?_, by rw [put_length]; exact hI.len0, ?_, ?_⟩
  · intro j hj
    rcases List.mem_cons.1 hj with rfl | hj
    · exact ⟨hi, fun e he => List.mem_cons_of_mem _ (hd' e he)⟩
    · exact ⟨(hI.dcl j hj).1, fun e he => List.mem_cons_of_mem _ ((hI.dcl j hj).2 e he)⟩
  · rintro j (rfl | hj)
    · exact .inl (List.mem_cons_self ..)
    · rcases hI.inD j hj with h | h
      · exact .inl (List.mem_cons_of_mem _ h)
      · exact .inr h
  · intro j hj hq
    rcases List.mem_cons.1 hj with rfl | hj
    · exact .inl rfl
    · exact .inr (hI.must j hj hq)
  · rintro j (rfl | hj) hjD
    · exact absurd (List.mem_cons_self ..) hjD
    · obtain ⟨y, zs, t, g1, g2, g3, g4, g5, g6, g7, g8⟩ := hI.extra j hj fun h => hjD (List.mem_cons_of_mem _ h)
      obtain ⟨k1, k2, k3⟩ := extra_keep hE g5 g7 g8
      exact ⟨y, zs, t, g1, g2, g3, g4, k1, g6, k2, k3⟩
  · rintro j k (rfl | hj) (rfl | hk) hjD hkD he
    · rfl
    · exact absurd (List.mem_cons_self ..) hjD
    · exact absurd (List.mem_cons_self ..) hkD
    · exact hI.exinj j k hj hk (fun h => hjD (List.mem_cons_of_mem _ h)) (fun h => hkD (List.mem_cons_of_mem _ h)) he
  · refine ⟨put tsS x.dst v, ?_, by rw [put_length, put_length]; exact h2, ?_, ?_, ?_⟩
    · rw [← hok.1]
      exact put_Vl (h1.ext hE) hV
    · rintro t j (rfl | hj) hjD ht
      · rw [hdst] at ht
        by_cases hl : t < ts.length
        · rw [ht, put_getD_eq _ (by omega), put_getD_eq _ hl]
        · rw [getD_len (by rw [put_length]; omega), getD_len (by rw [put_length]; omega)]
      · have := other j (hI.cl j hj).1 (hne j hj) t ht
        rw [put_getD_ne _ this, put_getD_ne _ this]
        rcases List.mem_cons.1 hjD with h | h
        · exact absurd h (hne j hj)
        · exact h3 t j hj h ht
    · intro t ht
      rw [put_getD_ne _ (by rw [← hdst]; exact ht i (.inl rfl))]
      exact h4 t fun j hj => ht j (.inr hj)
    · rintro t j (rfl | hj) hjD ht hl
      · exact absurd (List.mem_cons_self ..) hjD
      · rw [put_length] at hl
        rw [put_getD_ne _ (other j (hI.cl j hj).1 (hne j hj) t ht)]
        exact h5 t j hj (fun h => hjD (List.mem_cons_of_mem _ h)) ht hl
  · intro t ht
    rw [put_getD_ne _ (by rw [← hdst]; exact ht i (List.mem_cons_self ..))]
    exact hI.nowr t fun j hj => ht j (List.mem_cons_of_mem _ hj)
  · intro j hj hjS
    rcases List.mem_cons.1 hj with rfl | hj
    · exact absurd (.inl rfl) hjS
    · have hjS' : ¬ S j := fun h => hjS (.inr h)
      obtain ⟨y, tsj, u', g1, g2, g3, g4, g5, g6⟩ := hI.facts j hj hjS'
      have hqy : y.op.quiet = true := by
        cases hq : y.op.quiet with
        | true => rfl
        | false => exact absurd (hI.must j hj (by simp [quietAt, g1, hq])) hjS'
      refine ⟨y, tsj, u', g1, ?_, fun d hd hl => ?_, fun t ht k hk hkt hka => ?_, g5, g6⟩
      · obtain ⟨g0, g2⟩ := g2
        refine ⟨g0, ?_⟩
        rcases g2 with ⟨g7, g8⟩ | g7
        · refine .inl ⟨g7, ?_⟩
          cases hrd : y.op.looks tsj with
          | false => exact g8.pure hqy hrd
          | true =>
            rcases stabs_get hst (g6 hrd g7) with h | h
            · exact absurd (hr.closed hI.cl i hi hd j h) hjS'
            · rw [ask_inst tsj []] at h
              obtain ⟨u'', rfl, h'⟩ := quiet_split hqy h
              exact h'
        · exact .inr g7
      · rw [put_length] at hl
        rw [put_getD_ne _ (other j (hI.dcl j hj).1 (hneD j hj) d (by simp [dstOf, g1, hd]))]
        exact g3 d hd hl
      · have hkD : k ∈ D := hr.closed' (S := (· ∈ D)) hI.dcl hj k hka
        rw [put_getD_ne _ (other k (hI.dcl k hkD).1 (hneD k hkD) t hkt)]
        exact g4 t ht k hk hkt hka

end Go.Ab
