/- The abstract layer, part 10: append does in the model what part 3 says of it. -/
import Derived.Test.YtookmilggbnoiaaGreatAbSound4
set_option linter.unusedSimpArgs false
set_option linter.unusedVariables false
namespace Go.Ab

variable {P : Program} {φ φ' : Emb} {A A' : Heap} {w w' : World} {ts : List AVal} {a : Act} {K : AVal → Heap → Prop}

/-- What 'append' comes to, once it is known how many elements there are and what they are. -/
theorem append_core {e : TypeId} {s b : Nat} {z : List Value} (hzs : z.length = s) (hs0 : 0 < s)
    {sv : AVal} {v : Value} (hv : V φ A w sv v) (hR : R φ A w) {n : Nat} {cs : List AVal} {xs : List Value} (hcs : Vcs φ A w cs xs) (hcl : cs.length = n * s)
    (h : aappend req False A s b sv n cs K) {F : Value → Nat → World → Result Value}
    (hfit : ∀ base len cap w2, v = .slice base len cap → len + n ≤ cap → w2.heap = w.heap → F v n w2 = (match base with | some ad => (storeCells (ad.add (len * s)) xs).run P w2 | none => .ok () w2).andThen fun _ w3 => .ok (.slice base (len + n) cap) w3)
    (hgrow : ∀ base len cap old, v = .slice base len cap → ¬ len + n ≤ cap → (len + n) * b ≤ 2 ^ 46 → (∀ w2 : World, w2.heap = w.heap → (Builtin.firstCells s len v).run P w2 = .ok (List.toArray old) w2) →
      ∃ c, len + n ≤ c ∧ F v n w = .ok (.slice (some ⟨w.heap.size, 0, none⟩) (len + n) c) { w with drawn := w.drawn + 1, heap := w.heap.push (.cells (old ++ xs ++ (List.replicate (c - (len + n)) z).flatten).toArray e) }) :
    Res P φ A w K ((F v n w).andThen fun r w' => .ok (.value r) w') := by
  have hxl := hcs.length
  unfold aappend at h
  by_cases hn : n = 0
  · rw [if_pos hn] at h
    subst hn
    have hcs0 : cs = [] := List.length_eq_zero_iff.1 (by omega)
    subst hcs0
    have hx0 : xs = [] := List.length_eq_zero_iff.1 (by simpa using hxl.symm)
    subst hx0
    have done : ∀ base len cap, v = .slice base len cap → len ≤ cap → K sv A → Res P φ A w K ((F v 0 w).andThen fun r w' => .ok (.value r) w') := by
      intro base len cap he hl hk
      rw [hfit base len cap w he (by omega) rfl]
      have hk' : K sv A ∧ V φ A w sv (.slice base (len + 0) cap) := ⟨hk, by rw [Nat.add_zero, ← he]; exact hv⟩
      cases base with
      | none => exact .same hR hk'.2 hk
      | some ad => simp only [storeCells, Sem.run_pure, Result.andThen_ok]; exact .same hR hk'.2 hk
    cases sv with
    | raw r =>
      have hv' := hv
      simp only [V] at hv'
      split at h
      · rename_i heq; cases heq; exact done none 0 0 hv' (Nat.le_refl _) h
      · rename_i heq; cases heq
      · rename_i heq; cases heq
      · exact h.elim
    | sl i off len cap e =>
      have hv' := hv
      simp only [V] at hv'
      obtain ⟨ad, c, hv', _, hl, _⟩ := hv'
      exact done _ _ _ hv' hl h
    | fsl ds len cap =>
      have hv' := hv
      simp only [V] at hv'
      obtain ⟨ad, c, hv', hl, _⟩ := hv'
      exact done _ _ _ hv' hl h
    | _ => exact h.elim
  · rw [if_neg hn] at h
    have grow : ∀ (K : AVal → Heap → Prop) (base : Option Addr) (len cap : Nat) (os : List AVal) (old : List Value), v = .slice base len cap → ¬ len + n ≤ cap → (len + n) * b ≤ 2 ^ 46 → os.length = len * s → Vcs φ A w os old →
        (∀ w2 : World, w2.heap = w.heap → (Builtin.firstCells s len v).run P w2 = .ok (List.toArray old) w2) → K (.sl A.top 0 (len + n) none s) (A.push (.cells (os ++ cs))) →
        Res P φ A w K ((F v n w).andThen fun r w' => .ok (.value r) w') := by
      intro K base len cap os old he hl hbound hol hos hf hk
      obtain ⟨c, h1, h2⟩ := hgrow base len cap old he hl hbound hf
      rw [h2]
      have h3 := hos.length
      have h4 := newSlice (w' := { w with drawn := w.drawn + 1 }) (t := e) (ys := (List.replicate (c - (len + n)) z).flatten) (c := c) hR rfl (hos.append hcs) h1 (by
        simp only [List.length_append, List.length_flatten, List.map_replicate, List.sum_replicate_nat, hzs]
        rw [← h3, ← hxl, hol, hcl, ← Nat.add_mul, ← Nat.add_mul]
        exact Nat.mul_le_mul_right _ (by omega)) (fun k hk => by cases hk) (fun _ => by
        simp only [List.length_append, List.length_flatten, List.map_replicate, List.sum_replicate_nat, hzs]
        rw [← h3, ← hxl, hol, hcl, ← Nat.add_mul, ← Nat.add_mul]
        congr 1
        omega) hk
      simpa only [Result.andThen_ok, Res, List.append_assoc] using h4
    cases sv with
    | raw r =>
      have hv' := hv
      simp only [V] at hv'
      cases r with
      | slice base l c =>
        cases base with
        | some _ => exact h.elim
        | none =>
          obtain ⟨⟨rfl, rfl, h1⟩, h⟩ := h
          exact grow K none 0 0 [] [] hv' (by omega) (by simpa using h1) (by simp) (by simp [Vcs]) (fun w2 _ => by rw [hv']; rfl) (by simpa using h)
      | _ => exact h.elim
    | fsl ds len cap =>
      have hv' := hv
      simp only [V] at hv'
      obtain ⟨base, c, hv', hl, hcap, hbase⟩ := hv'
      cases cap with
      | none => exact h.elim
      | some k =>
        obtain ⟨⟨h1, h2, h3⟩, h⟩ := h
        have hck := hcap k rfl
        rcases hbase with hbase | ⟨bb, off, hbb, g1, g2⟩
        · subst hbase
          have hlen0 : len = 0 := by
            have h5 : len * s = 0 := by simpa using h2.symm
            rcases Nat.mul_eq_zero.1 h5 with h6 | h6
            · exact h6
            · omega
          subst hlen0
          exact grow K base 0 c [] [] hv' (by omega) h3 (by simp) (by simp [Vcs]) (fun w2 _ => by
            rw [hv']; cases base with
            | none => rfl
            | some ad => simp only [Builtin.firstCells, Nat.zero_mul]; rfl) h
        · obtain ⟨old, g3, g4⟩ := g2.list
          refine grow K base len c ds old hv' (by omega) h3 h2 g3 (fun w2 hw2 => ?_) h
          have h7 := g3.length
          rw [hv', hbb]
          simp only [Builtin.firstCells]
          rw [← h2, h7]
          exact run_loadCells_list w2 _ old fun j v hj => by
            rw [add_none, cell_of_block (w' := w2) (w := w) (by rw [hw2])]; exact g4 j v hj
    | sl i off len cap e' =>
      simp only [] at h
      have hv' := hv
      simp only [V] at hv'
      obtain ⟨ad, c, hv', hlt, hlc, hcap, hbase⟩ := hv'
      cases ho : A.get i with
      | none => rw [ho] at h; exact h.elim
      | some o =>
        cases o with
        | map => rw [ho] at h; exact h.elim
        | loop => rw [ho] at h; exact h.elim
        | cells vs =>
          rw [ho] at h
          obtain ⟨had, sh, hsh, hshl, hshe⟩ := hbase (by simp [Heap.live, ho])
          have hread : off + len * s ≤ vs.length → ∃ old : List Value, Vcs φ A w ((vs.drop off).take (len * s)) old ∧ ∀ w2 : World, w2.heap = w.heap → (Builtin.firstCells s len v).run P w2 = .ok (List.toArray old) w2 := by
            intro hl
            obtain ⟨old, g3, g4⟩ := ((hR.vrow (off := off) ho).take (len * s)).list
            refine ⟨old, g3, fun w2 hw2 => ?_⟩
            have h7 := g3.length
            rw [List.length_take, List.length_drop, Nat.min_eq_left (by omega)] at h7
            rw [hv', had]
            simp only [Builtin.firstCells]
            rw [h7]
            exact run_loadCells_list w2 _ old fun j v hj => by
              rw [add_none, cell_of_block (w' := w2) (w := w) (by rw [hw2])]; exact g4 j v hj
          cases cap with
          | some k =>
            have hck := hcap k rfl
            simp only [] at h
            by_cases hfits : len + n ≤ k
            · rw [if_pos hfits] at h
              obtain ⟨⟨rfl, h2⟩, h⟩ := h
              rw [hfit _ _ _ w hv' (by omega) rfl]
              have h5 : (len + n) * e' = len * e' + n * e' := Nat.add_mul _ _ _
              obtain ⟨w', g1, g2, g3⟩ := run_storeLive (P := P) (off + len * e') 0 hR ho hcs (by omega)
              simp only [Nat.add_zero] at g2 g3
              simp only [had, add_none, g1, Result.andThen_ok]
              refine ⟨φ, _, _, h, ?_, g2, g3⟩
              simp only [V]
              refine ⟨_, _, rfl, Nat.lt_of_lt_of_le hlt g3.top, by omega, fun k' hk' => by cases hk'; exact hck, fun _ => ⟨rfl, sh, ?_, hshl, fun hn => by cases hn⟩⟩
              rw [g3.shape _ (shape_lt hsh)]; exact hsh
            · rw [if_neg hfits] at h
              obtain ⟨⟨rfl, h2, h3⟩, h⟩ := h
              obtain ⟨old, g3, g4⟩ := hread h2
              exact grow K _ len c _ old hv' (by omega) h3 (by rw [List.length_take, List.length_drop]; omega) g3 g4 h
          | none =>
            simp only [] at h
            by_cases hin : off + len * e' < vs.length ∧ off + (len + n) * e' ≤ vs.length
            · rw [if_pos hin] at h
              obtain ⟨rfl, h⟩ := h
              have h2 := hin.2
              have hsz : vs.length ≤ sh.2 := by
                obtain ⟨ob, q1, c0, el, fz, rfl, q2, q3, q4⟩ := hR.rel i _ ho
                have hshc : sh.2 = c0.size := by
                  simp only [World.shape?, q1, Option.some.injEq] at hsh
                  rw [← hsh]
                omega
              have hfits : len + n ≤ c := by
                have h5 := hshe rfl
                have h6 : (len + n) * e' ≤ c * e' := by omega
                exact Nat.le_of_mul_le_mul_right h6 hs0
              rw [hfit _ _ _ w hv' hfits rfl]
              have h5 : (len + n) * e' = len * e' + n * e' := Nat.add_mul _ _ _
              obtain ⟨w', g1, g2, g3⟩ := run_storeLive (P := P) (off + len * e') 0 hR ho hcs (by omega)
              simp only [Nat.add_zero] at g2 g3
              simp only [had, add_none, g1, Result.andThen_ok]
              refine ⟨φ, _, _, h, ?_, g2, g3⟩
              simp only [V]
              refine ⟨_, _, rfl, Nat.lt_of_lt_of_le hlt g3.top, by omega, hcap, fun _ => ⟨rfl, sh, ?_, hshl, fun _ => hshe rfl⟩⟩
              rw [g3.shape _ (shape_lt hsh)]; exact hsh
            · rw [if_neg hin] at h
              obtain ⟨⟨rfl, rfl, h2, h3⟩, h⟩ := h
              obtain ⟨old, g3, g4⟩ := hread (by omega)
              rw [List.drop_zero] at g3
              by_cases hfits : len + n ≤ c
              · rw [hfit _ _ _ w hv' hfits rfl]
                obtain ⟨ob, q1, c0, el, fz, rfl, q2, q3, q4⟩ := hR.rel i _ ho
                have hshc : sh.2 = c0.size := by
                  simp only [World.shape?, q1, Option.some.injEq] at hsh
                  rw [← hsh]
                have h5 : (len + n) * e' = len * e' + n * e' := Nat.add_mul _ _ _
                have h6 : (len + n) * e' ≤ c * e' := Nat.mul_le_mul_right _ hfits
                obtain ⟨w', g5, g6, gio⟩ := run_storeBlock (P := P) (b := φ i) (c := c0.toList) (xs := xs) (len * e') 0 (by rw [q1]) (by simpa using q2) (by simp; omega) hcs.ones
                simp only [Nat.add_zero] at g6
                have hlen : (c0.toList.take (len * e') ++ (xs ++ c0.toList.drop (len * e' + xs.length))).length = c0.toList.length := by
                  simp; omega
                have hcl' : (vs.take (len * e') ++ cs).length = len * e' + xs.length := by simp; omega
                have hnew : Vcs φ A w (vs.take (len * e') ++ cs) ((c0.toList.take (len * e') ++ (xs ++ c0.toList.drop (len * e' + xs.length))).take (vs.take (len * e') ++ cs).length) := by
                  rw [hcl', ← List.append_assoc, List.take_left' (by simp; omega)]
                  refine Vcs.append ?_ hcs
                  have := q4.take (len * e')
                  rwa [List.take_take, Nat.min_eq_left h2] at this
                obtain ⟨g7, g8⟩ := hR.renew (w' := w') ho (c := c0.toList) (el := el) (fz := fz) (by rw [q1]) hlen (by simpa using q2) g6 hnew (by rw [hcl', hlen]; simp; omega) gio
                simp only [had, add_none, Nat.zero_add, g5, Result.andThen_ok]
                refine ⟨_, _, _, h, ?_, g7, g8⟩
                simp only [V]
                refine ⟨_, _, rfl, by rw [Heap.top_push, Heap.top_del]; omega, hfits, (fun k hk => by cases hk), fun _ => ⟨by simp, sh, ?_, by omega, fun _ => hshe rfl⟩⟩
                rw [Emb.put_eq, g8.shape _ (shape_lt hsh)]; exact hsh
              · have g5 := grow (fun a A1 => a = .sl A.top 0 (len + n) none e' ∧ A1 = A.push (.cells (vs.take (len * e') ++ cs))) _ len c _ old hv' hfits h3 (by rw [List.length_take]; omega) g3 g4 ⟨rfl, rfl⟩
                generalize (F v n w).andThen (fun r w' => Result.ok (Next.value r) w') = res at g5 ⊢
                have hsub : ((A.del i).push (.cells (vs.take (len * e') ++ cs))).Sub (A.push (.cells (vs.take (len * e') ++ cs))) := by
                  refine ⟨Nat.le_refl _, fun j o hj => ?_⟩
                  rw [Heap.get_push_if, Heap.top_del, Heap.get_del_if] at hj
                  rw [Heap.get_push_if]
                  by_cases h1 : j = A.top
                  · rw [if_pos h1] at hj ⊢; exact hj
                  · rw [if_neg h1] at hj ⊢
                    by_cases h2 : j = i
                    · rw [if_pos h2] at hj; cases hj
                    · rw [if_neg h2] at hj; exact hj
                have conv : ∀ {r : Value} {w' : World}, Got φ A w (fun a A1 => a = .sl A.top 0 (len + n) none e' ∧ A1 = A.push (.cells (vs.take (len * e') ++ cs))) r w' → Got φ A w K r w' := by
                  rintro r w' ⟨φ', a, A1, ⟨rfl, rfl⟩, q1, q2, q3⟩
                  have he := Ext.sub q2 hsub
                  exact ⟨φ', _, _, h, q1.ext he, q2.sub hsub, q3.trans he⟩
                cases res with
                | halt => exact g5.elim
                | ok nx w' =>
                  cases nx <;> first
                    | exact conv g5
                    | exact g5.elim
                    | (simp only [Res] at g5 ⊢; exact g5.mono fun _ _ ⟨v, he, hg⟩ => ⟨v, he, conv hg⟩)
    | _ => exact h.elim

end Go.Ab
