/- The abstract layer, part 28: operations, run. -/
import Derived.Test.YtookmilggbnoiaaGreatAbExec
set_option linter.unusedSimpArgs false
set_option linter.unusedVariables false
namespace Go.Ab

variable {P : Program} {γ : Type} {g : γ}

def reqO (p : Prop) [Decidable p] (k : Option γ) : Option γ := if p then k else none
theorem reqO_some {p : Prop} [Decidable p] {k : Option γ} : reqO p k = some g ↔ p ∧ k = some g := by
  unfold reqO
  split <;> simp_all

theorem abound_mono {ts : List AVal} {x : Option Arg} {d y : Nat} {K : Nat → Option γ} (h : abound reqO none ts x d y K = some g) : abound req False ts x d y fun n => K n = some g := by
  cases x with
  | none => exact h
  | some x =>
    simp only [abound] at h ⊢
    generalize x.ev ts = v at h ⊢
    cases v with
    | raw v =>
      cases v with
      | int k n => exact reqO_some.1 h
      | _ => cases h
    | _ => cases h

theorem abound_mono' {ts : List AVal} {x : Option Arg} {d y : Nat} {K : Nat → Option γ} {C : Nat → Prop} (h : abound reqO none ts x d y K = some g) (hk : ∀ n, K n = some g → C n) : abound req False ts x d y C := by
  cases x with
  | none => exact hk _ h
  | some x =>
    simp only [abound] at h ⊢
    generalize x.ev ts = v at h ⊢
    cases v with
    | raw v =>
      cases v with
      | int k n => exact ⟨(reqO_some.1 h).1, hk _ (reqO_some.1 h).2⟩
      | _ => cases h
    | _ => cases h

theorem srcCells_mono {A : Heap} {s : Nat} {v : AVal} {K : Nat → List AVal → Option γ} {C : Nat → List AVal → Prop} (h : srcCells reqO none A s v K = some g) (hk : ∀ n l, K n l = some g → C n l) : srcCells req False A s v C := by
  cases v with
  | raw v =>
    cases v with
    | slice a n c =>
      cases a with
      | none => exact ⟨(reqO_some.1 h).1, hk _ _ (reqO_some.1 h).2⟩
      | some a => cases h
    | string s => exact ⟨(reqO_some.1 h).1, hk _ _ (reqO_some.1 h).2⟩
    | _ => cases h
  | fsl cs n cap => exact ⟨(reqO_some.1 h).1, hk _ _ (reqO_some.1 h).2⟩
  | sl i off n cap e =>
    simp only [srcCells] at h ⊢
    generalize A.get i = o at h ⊢
    cases o with
    | none => cases h
    | some o =>
      cases o with
      | cells vs => exact ⟨(reqO_some.1 h).1, hk _ _ (reqO_some.1 h).2⟩
      | map es => cases h
      | loop => cases h
  | _ => cases h

theorem aappend_mono {A : Heap} {s b n : Nat} {v : AVal} {xs : List AVal} {K : AVal → Heap → Option γ} (h : aappend reqO none A s b v n xs K = some g) : aappend req False A s b v n xs fun a A' => K a A' = some g := by
  simp only [aappend] at h ⊢
  by_cases hn : n = 0
  · rw [if_pos hn] at h ⊢
    split at h <;> first | exact h | cases h
  · rw [if_neg hn] at h ⊢
    cases v with
    | raw v =>
      cases v with
      | slice a l c =>
        cases a with
        | none => exact reqO_some.1 h
        | some a => cases h
      | _ => cases h
    | fsl cs len cap =>
      cases cap with
      | none => cases h
      | some c => exact reqO_some.1 h
    | sl i off len cap e =>
      simp only [] at h ⊢
      generalize A.get i = o at h ⊢
      cases o with
      | none => cases h
      | some o =>
        cases o with
        | map es => cases h
        | loop => cases h
        | cells vs =>
          cases cap with
          | none =>
            simp only [] at h ⊢
            by_cases hc : off + len * e < vs.length ∧ off + (len + n) * e ≤ vs.length
            · rw [if_pos hc] at h ⊢; exact reqO_some.1 h
            · rw [if_neg hc] at h ⊢; exact reqO_some.1 h
          | some c =>
            simp only [] at h ⊢
            by_cases hc : len + n ≤ c
            · rw [if_pos hc] at h ⊢; exact reqO_some.1 h
            · rw [if_neg hc] at h ⊢; exact reqO_some.1 h
    | _ => cases h

theorem astep_mono {call : Nat → List AVal → Heap → (AVal → Heap → Option γ) → Option γ} {x : XOp} {ts : List AVal} {A : Heap} {K : AVal → Heap → Option γ}
    (hc : ∀ f args A K, call f args A K = some g → J P f args A fun a A' => K a A' = some g) (h : astep reqO none call (fun _ _ _ _ => none) (fun _ => none) x ts A K = some g) : ask P x ts A fun a A' => K a A' = some g := by
  cases x <;> simp only [ask, astep] at h ⊢
  case call f as => exact hc _ _ _ _ h
  case callv fv as =>
    split at h
    · exact hc _ _ _ _ h
    · cases h
    · cases h
  case append s b x y => exact srcCells_mono h fun n l hk => aappend_mono hk
  case appendZ s b zs x n =>
    split at h
    · exact ⟨(reqO_some.1 h).1, aappend_mono (reqO_some.1 h).2⟩
    · cases h
  case copy s x y =>
    refine srcCells_mono h fun n l hk => ?_
    split at hk
    · exact hk
    · split at hk
      · exact reqO_some.1 hk
      · cases hk
    · cases hk
  case slice s x lo hi mx =>
    split at h
    · exact abound_mono' h fun n h => abound_mono' h fun n h => abound_mono' h fun n h => h
    · split at h
      · exact abound_mono' h fun n h => ⟨(reqO_some.1 h).1, abound_mono' (reqO_some.1 h).2 fun n h => h⟩
      · exact abound_mono' h fun n h => abound_mono' h fun n h => abound_mono' h fun n h => h
    · split at h
      · refine abound_mono' h fun n h => abound_mono' h fun l h => ⟨(reqO_some.1 h).1, ?_⟩
        have h := (reqO_some.1 h).2
        split at h <;> rename_i hc
        · rw [if_pos hc]; exact h
        · rw [if_neg hc]; exact h
      · refine abound_mono' h fun m h => abound_mono' h fun n h => abound_mono' h fun l h => ⟨(reqO_some.1 h).1, ?_⟩
        have h := (reqO_some.1 h).2
        split at h <;> rename_i hc
        · rw [if_pos hc]; exact h
        · rw [if_neg hc]; exact h
    · cases h
  case sliceArr n s x lo hi mx =>
    split at h
    · split at h
      · refine abound_mono' h fun m h => abound_mono' h fun n h => abound_mono' h fun l h => ⟨(reqO_some.1 h).1, ?_⟩
        have h := (reqO_some.1 h).2
        split at h <;> rename_i hc
        · rw [if_pos hc]; exact h
        · rw [if_neg hc]; exact h
      · cases h
    · exact abound_mono' h fun m h => abound_mono' h fun n h => abound_mono' h fun l h => reqO_some.1 h
    · cases h
  all_goals
    repeat' (first
      | exact reqO_some.1 h
      | exact h
      | cases h
      | (split at h <;> (try rename_i hh; first | rw [if_pos hh] | rw [if_neg hh])))

end Go.Ab
