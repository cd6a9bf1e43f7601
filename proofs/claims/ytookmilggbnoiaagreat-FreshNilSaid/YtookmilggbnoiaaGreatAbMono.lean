/- The abstract layer, part 23: what is asked for less. -/
import Derived.Test.YtookmilggbnoiaaGreatAbWk
set_option linter.unusedSimpArgs false
set_option linter.unusedVariables false
namespace Go.Ab

variable {P : Program}

/-! ## What is asked for less -/

section
variable {K K' : AVal → Heap → Prop} {A : Heap}

theorem abound_monoP {ts : List AVal} {x : Option Arg} {d y : Nat} {C C' : Nat → Prop} (h : abound req False ts x d y C) (hk : ∀ n, C n → C' n) : abound req False ts x d y C' := by
  obtain ⟨n, h1, h2⟩ := abound_split h
  exact h2 _ (hk _ h1)

theorem srcCells_monoP {s : Nat} {v : AVal} {C C' : Nat → List AVal → Prop} (h : srcCells req False A s v C) (hk : ∀ n l, C n l → C' n l) : srcCells req False A s v C' := by
  cases v with
  | raw v =>
    cases v with
    | slice a n c =>
      cases a with
      | none => exact ⟨h.1, hk _ _ h.2⟩
      | some a => exact h.elim
    | string s => exact ⟨h.1, hk _ _ h.2⟩
    | _ => exact h.elim
  | fsl cs n cap => exact ⟨h.1, hk _ _ h.2⟩
  | sl i off n cap e =>
    simp only [srcCells] at h ⊢
    generalize A.get i = o at h ⊢
    cases o with
    | none => exact h.elim
    | some o =>
      cases o with
      | cells vs => exact ⟨h.1, hk _ _ h.2⟩
      | map es => exact h.elim
      | loop => exact h.elim
  | _ => exact h.elim

theorem aappend_monoP (hk : ∀ a A, K a A → K' a A) {s b n : Nat} {v : AVal} {xs : List AVal} (h : aappend req False A s b v n xs K) : aappend req False A s b v n xs K' := by
  simp only [aappend] at h ⊢
  by_cases hn : n = 0
  · rw [if_pos hn] at h ⊢
    split at h <;> first | exact hk _ _ h | exact h.elim
  · rw [if_neg hn] at h ⊢
    cases v with
    | raw v =>
      cases v with
      | slice a l c =>
        cases a with
        | none => exact ⟨h.1, hk _ _ h.2⟩
        | some a => exact h.elim
      | _ => exact h.elim
    | fsl cs len cap =>
      cases cap with
      | none => exact h.elim
      | some c => exact ⟨h.1, hk _ _ h.2⟩
    | sl i off len cap e =>
      simp only [] at h ⊢
      generalize A.get i = o at h ⊢
      cases o with
      | none => exact h.elim
      | some o =>
        cases o with
        | map es => exact h.elim
        | loop => exact h.elim
        | cells vs =>
          cases cap with
          | none =>
            simp only [] at h ⊢
            by_cases hc : off + len * e < vs.length ∧ off + (len + n) * e ≤ vs.length
            · rw [if_pos hc] at h ⊢; exact ⟨h.1, hk _ _ h.2⟩
            · rw [if_neg hc] at h ⊢; exact ⟨h.1, hk _ _ h.2⟩
          | some c =>
            simp only [] at h ⊢
            by_cases hc : len + n ≤ c
            · rw [if_pos hc] at h ⊢; exact ⟨h.1, hk _ _ h.2⟩
            · rw [if_neg hc] at h ⊢; exact ⟨h.1, hk _ _ h.2⟩
    | _ => exact h.elim

theorem ask_mono {x : XOp} {ts : List AVal} (hk : ∀ a A, K a A → K' a A) (h : ask P x ts A K) : ask P x ts A K' := by
  cases x <;> simp only [ask, astep] at h ⊢
  case call f as => exact h.mono hk
  case callv fv as =>
    split at h
    · exact h.mono hk
    · exact h.mono hk
    · exact h.elim
  case append s b x y => exact srcCells_monoP h fun n l h => aappend_monoP hk h
  case appendZ s b zs x n =>
    split at h
    · exact ⟨h.1, aappend_monoP hk h.2⟩
    · exact h.elim
  case copy s x y =>
    refine srcCells_monoP h fun n l h => ?_
    split at h
    · exact hk _ _ h
    · split at h
      · exact ⟨h.1, hk _ _ h.2⟩
      · exact h.elim
    · exact h.elim
  case slice s x lo hi mx =>
    split at h
    · exact abound_monoP h fun n h => abound_monoP h fun n h => abound_monoP h fun n h => hk _ _ h
    · split at h
      · exact abound_monoP h fun n h => ⟨h.1, abound_monoP h.2 fun n h => hk _ _ h⟩
      · exact abound_monoP h fun n h => abound_monoP h fun n h => abound_monoP h fun n h => hk _ _ h
    · split at h
      · refine abound_monoP h fun n h => abound_monoP h fun l h => ⟨h.1, ?_⟩
        have h := h.2
        split at h <;> rename_i hc
        · rw [if_pos hc]; exact hk _ _ h
        · rw [if_neg hc]; exact hk _ _ h
      · refine abound_monoP h fun m h => abound_monoP h fun n h => abound_monoP h fun l h => ⟨h.1, ?_⟩
        have h := h.2
        split at h <;> rename_i hc
        · rw [if_pos hc]; exact hk _ _ h
        · rw [if_neg hc]; exact hk _ _ h
    · exact h.elim
  case sliceArr n s x lo hi mx =>
    split at h
    · split at h
      · refine abound_monoP h fun m h => abound_monoP h fun n h => abound_monoP h fun l h => ⟨h.1, ?_⟩
        have h := h.2
        split at h <;> rename_i hc
        · rw [if_pos hc]; exact hk _ _ h
        · rw [if_neg hc]; exact hk _ _ h
      · exact h.elim
    · exact abound_monoP h fun m h => abound_monoP h fun n h => abound_monoP h fun l h => ⟨h.1, hk _ _ h.2⟩
    · exact h.elim
  all_goals
    repeat' (first
      | exact ⟨h.1, hk _ _ h.2⟩
      | exact hk _ _ h
      | exact fun b => hk _ _ (h b)
      | exact h.elim
      | (split at h <;> (try rename_i hh; first | rw [if_pos hh] | rw [if_neg hh])))

theorem runX_mono {x : XOper} {ts : List AVal} (hk : ∀ a A, K a A → K' a A) (h : runX P x ts A K) : runX P x ts A K' := by
  refine ⟨h.1, ?_⟩
  have h := h.2
  cases hw : wants x.guard ts with
  | true => rw [hw] at h; exact ask_mono hk h
  | false => rw [hw] at h; exact hk _ _ h
end

theorem awp_mono {A0 : Heap} : ∀ (c : XCode) {E E' : Posts} {ts : List AVal} {A : Heap}, (∀ ts A, E.n ts A → E'.n ts A) → (∀ ts A, E.r ts A → E'.r ts A) → (∀ i ts A, E.x i ts A → E'.x i ts A) → awp P A0 c E ts A → awp P A0 c E' ts A
  | .skip, _, _, _, _, hn, _, _, h => hn _ _ h
  | .ops xs, _, _, ts, A, hn, _, _, h => by
    have key : ∀ (xs : List XStep) (ts : List AVal) (A : Heap) {K K' : List AVal → Heap → Prop}, (∀ ts A, K ts A → K' ts A) → runs P xs ts A K → runs P xs ts A K' := by
      intro xs
      induction xs with
      | nil => intro ts A K K' hk h; exact hk _ _ h
      | cons x xs ih =>
        intro ts A K K' hk h
        cases x with
        | op x => exact runX_mono (fun v A' h => ih _ _ hk h) h
        | split s =>
          simp only [runs] at h ⊢
          split at h
          · exact ⟨fun hb => ih _ _ hk (h.1 hb), fun hb => ih _ _ hk (h.2 hb)⟩
          · exact ih _ _ hk h
    exact key xs ts A hn h
  | .draw xs anc sc, _, _, ts, A, hn, _, _, h => by
    have key : ∀ (rs : List DStep) (C : List (Nat × XOp × AVal)) (ts : List AVal) (A : Heap) {K K' : List AVal → Heap → Prop}, (∀ ts A, K ts A → K' ts A) → Dr P xs anc K rs C ts A → Dr P xs anc K' rs C ts A := by
      intro rs
      induction rs with
      | nil => intro C ts A K K' hk h; exact hk _ _ h
      | cons r rs ih =>
        intro C ts A K K' hk h
        cases r with
        | split s =>
          simp only [Dr] at h ⊢
          split at h
          · exact ⟨fun hb => ih _ _ _ hk (h.1 hb), fun hb => ih _ _ _ hk (h.2 hb)⟩
          · exact ih _ _ _ hk h
        | q i =>
          simp only [Dr] at h ⊢
          split at h
          · exact runX_mono (fun v A' h => ih _ _ _ hk h) h
          · exact h.elim
        | al i =>
          simp only [Dr] at h ⊢
          split at h
          · exact ih _ _ _ hk h
          · exact h.elim
        | eff i =>
          simp only [Dr] at h ⊢
          split at h
          · exact runX_mono (fun v A' h => ⟨h.1, ih _ _ _ hk h.2⟩) h
          · exact h.elim
    exact key sc [] ts A hn h
  | .seq a b, _, _, _, _, hn, hr, hx, h => by
    simp only [awp] at h ⊢
    refine awp_mono a ?_ ?_ ?_ h
    · exact fun _ _ h => awp_mono b hn hr hx h
    · exact hr
    · exact hx
  | .cond c x y, _, _, _, _, hn, hr, hx, h => by
    simp only [awp] at h ⊢
    split at h
    · exact ⟨fun hb => awp_mono x hn hr hx (h.1 hb), fun hb => awp_mono y hn hr hx (h.2 hb)⟩
    · exact h.elim
  | .block id c, _, _, _, _, hn, hr, hx, h => by
    simp only [awp] at h ⊢
    refine awp_mono c ?_ ?_ ?_ h
    · exact hn
    · exact hr
    intro i ts A h
    simp only [] at h ⊢
    cases hb : i == id with
    | true => rw [hb] at h; exact hn _ _ h
    | false => rw [hb] at h; exact hx _ _ _ h
  | .loop c, _, _, _, _, hn, hr, hx, h => by
    intro X hX hW
    refine h X (fun ts A h => hX ts A (awp_mono c ?_ ?_ ?_ h)) hW
    · exact fun _ _ h => h
    · exact hr
    · exact hx
  | .rangeFunc f ps x y, _, _, _, _, hn, hr, hx, h => by
    simp only [awp] at h ⊢
    split at h
    · exact fun a c ha hc => (h a c ha hc).mono fun _ _ h => ⟨h.1, hn _ _ h.2⟩
    · exact h.elim
  | .exit id, _, _, _, _, hn, hr, hx, h => hx _ _ _ h
  | .ret, _, _, _, _, hn, hr, hx, h => hr _ _ h
  | .die, _, _, _, _, _, _, _, h => h.elim

theorem awp_n {A0 A : Heap} {c : XCode} {N N' : List AVal → Heap → Prop} {r : List AVal → Heap → Prop} {x : Nat → List AVal → Heap → Prop} {ts : List AVal} (h : awp P A0 c ⟨N', r, x⟩ ts A) (hn : ∀ ts A, N' ts A → N ts A) : awp P A0 c ⟨N, r, x⟩ ts A := by
  refine awp_mono c ?_ ?_ ?_ h
  · exact hn
  · exact fun _ _ h => h
  · exact fun _ _ _ h => h

end Go.Ab
