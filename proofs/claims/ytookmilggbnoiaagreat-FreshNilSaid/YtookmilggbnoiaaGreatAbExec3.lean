/- The abstract layer, part 29: fast operations for the kernel. -/
import Derived.Test.YtookmilggbnoiaaGreatAbExec2
set_option linter.unusedSimpArgs false
set_option linter.unusedVariables false
namespace Go.Ab

variable {P : Program} {γ : Type} {g : γ}

/-! ## Frames: slots in a tree -/

inductive FT where
  | nil
  | node (v : AVal) (l r : FT)

noncomputable def FT.here (t : FT) : AVal := FT.rec AVal.undef (fun v _ _ _ _ => v) t
noncomputable def FT.left (t : FT) : FT := FT.rec .nil (fun _ l _ _ _ => l) t
noncomputable def FT.right (t : FT) : FT := FT.rec .nil (fun _ _ r _ _ => r) t

noncomputable def getP (p : Pth) : FT → AVal := Pth.rec FT.here (fun _ ih t => ih (FT.left t)) (fun _ ih t => ih (FT.right t)) p
noncomputable def setP (x : AVal) (p : Pth) : FT → (FT → Option γ) → Option γ :=
  Pth.rec (fun t K => FT.rec (K (.node x .nil .nil)) (fun _ l r _ _ => K (.node x l r)) t)
    (fun _ ih t K => FT.rec (ih .nil fun l => K (.node AVal.undef l .nil)) (fun v l r _ _ => ih l fun l => K (.node v l r)) t)
    (fun _ ih t K => FT.rec (ih .nil fun r => K (.node AVal.undef .nil r)) (fun v l r _ _ => ih r fun r => K (.node v l r)) t) p

theorem setP_some : ∀ (p : Pth) (t : FT) (x : AVal) (K : FT → Option γ), setP x p t K = some g → ∃ t', K t' = some g ∧ getP p t' = x ∧ ∀ q, q ≠ p → getP q t' = getP q t
  | .h, t, x, K, h => by
    cases t with
    | nil =>
      refine ⟨_, h, rfl, fun q hq => ?_⟩
      cases q with
      | h => exact absurd rfl hq
      | l q => rfl
      | r q => rfl
    | node v l r =>
      refine ⟨_, h, rfl, fun q hq => ?_⟩
      cases q with
      | h => exact absurd rfl hq
      | l q => rfl
      | r q => rfl
  | .l p, t, x, K, h => by
    cases t with
    | nil =>
      obtain ⟨t', h1, h2, h3⟩ := setP_some p .nil x _ h
      refine ⟨_, h1, h2, fun q hq => ?_⟩
      cases q with
      | h => rfl
      | l q => exact h3 q fun he => hq (by rw [he])
      | r q => rfl
    | node v l r =>
      obtain ⟨t', h1, h2, h3⟩ := setP_some p l x _ h
      refine ⟨_, h1, h2, fun q hq => ?_⟩
      cases q with
      | h => rfl
      | l q => exact h3 q fun he => hq (by rw [he])
      | r q => rfl
  | .r p, t, x, K, h => by
    cases t with
    | nil =>
      obtain ⟨t', h1, h2, h3⟩ := setP_some p .nil x _ h
      refine ⟨_, h1, h2, fun q hq => ?_⟩
      cases q with
      | h => rfl
      | r q => exact h3 q fun he => hq (by rw [he])
      | l q => rfl
    | node v l r =>
      obtain ⟨t', h1, h2, h3⟩ := setP_some p r x _ h
      refine ⟨_, h1, h2, fun q hq => ?_⟩
      cases q with
      | h => rfl
      | r q => exact h3 q fun he => hq (by rw [he])
      | l q => rfl

noncomputable def ftGet (t : FT) (i : Nat) : AVal := getP (path i) t
noncomputable def ftSetK (x : AVal) (t : FT) (i : Nat) (K : FT → Option γ) : Option γ := setP x (path i) t K
theorem ftGet_nil {i : Nat} : ftGet .nil i = AVal.undef := by
  have : ∀ p, getP p .nil = AVal.undef := by
    intro p
    induction p with
    | h => rfl
    | l p ih => exact ih
    | r p ih => exact ih
  exact this _
theorem ftSetK_some {i : Nat} {t : FT} {x : AVal} {K : FT → Option γ} (h : ftSetK x t i K = some g) : ∃ t', K t' = some g ∧ ∀ j, ftGet t' j = if j = i then x else ftGet t j := by
  obtain ⟨t', h1, h2, h3⟩ := setP_some _ _ _ _ h
  refine ⟨t', h1, fun j => ?_⟩
  by_cases hj : j = i
  · subst hj; rw [if_pos rfl]; exact h2
  · rw [if_neg hj]; exact h3 _ fun he => hj (path_inj he)

/-- A frame in a tree is that in a list. -/
def FR (n : Nat) (t : FT) (ts : List AVal) : Prop := ts.length = n ∧ ∀ i, ftGet t i = ts.getD i AVal.undef

noncomputable def putSome (n : Nat) (t : FT) (v : AVal) (K : FT → Option γ) (d : Nat) : Option γ := Bool.rec none (ftSetK v t d K) (Nat.ble (Nat.succ d) n)
noncomputable def putK (n : Nat) (t : FT) (dst : Option Nat) (v : AVal) (K : FT → Option γ) : Option γ := Option.rec (K t) (putSome n t v K) dst

theorem putK_some {n : Nat} {t : FT} {ts : List AVal} {dst : Option Nat} {v : AVal} {K : FT → Option γ} (hF : FR n t ts) (h : putK n t dst v K = some g) : ∃ t', K t' = some g ∧ FR n t' (put ts dst v) := by
  cases dst with
  | none => exact ⟨t, h, hF⟩
  | some d =>
    have h : (Bool.rec none (ftSetK v t d K) (Nat.ble (Nat.succ d) n) : Option γ) = some g := h
    cases hb : Nat.ble (Nat.succ d) n with
    | false => rw [hb] at h; cases h
    | true =>
      rw [hb] at h
      have hb : d < n := Nat.le_of_ble_eq_true hb
      obtain ⟨t', h1, h2⟩ := ftSetK_some h
      refine ⟨t', h1, by simp only [put, List.length_set]; exact hF.1, fun i => ?_⟩
      rw [h2, hF.2]
      simp only [put, List.getD_eq_getElem?_getD, List.getElem?_set]
      by_cases hi : i = d
      · subst hi
        rw [if_pos rfl, if_pos rfl, if_pos (by rw [hF.1]; exact hb)]
        rfl
      · rw [if_neg hi, if_neg (Ne.symm hi)]

noncomputable def evF (t : FT) (x : Arg) : AVal := Arg.rec (ftGet t) (fun a => a) x
theorem evF_eq {n : Nat} {t : FT} {ts : List AVal} (h : FR n t ts) (x : Arg) : evF t x = x.ev ts := by
  cases x with
  | t i => exact h.2 i
  | k a => rfl

def XOp.mapA (f : Arg → Arg) : XOp → XOp
  | .mv x => .mv (f x)
  | .pick c a b => .pick (f c) (f a) (f b)
  | .box x => .box (f x)
  | .alloc zs => .alloc zs
  | .build zs ps => .build zs (ps.map fun p => (p.1, p.2.1, f p.2.2))
  | .buildSlice l s zs ps => .buildSlice l s zs (ps.map fun p => (p.1, p.2.1, f p.2.2))
  | .buildF l zs ps => .buildF l zs (ps.map fun p => (p.1, p.2.1, f p.2.2))
  | .load n x => .load n (f x)
  | .store n x v => .store n (f x) (f v)
  | .nilCheck x => .nilCheck (f x)
  | .bin op x y => .bin op (f x) (f y)
  | .eq k n x y => .eq k n (f x) (f y)
  | .die => .die
  | .un op x => .un op (f x)
  | .conv k x => .conv k (f x)
  | .arrPtr n s x => .arrPtr n s (f x)
  | .mkFunc fn fs c => .mkFunc fn (fs.map f) (c.map f)
  | .mkSlice s b zs l c => .mkSlice s b zs (f l) (f c)
  | .slice s x lo hi mx => .slice s (f x) (lo.map f) (hi.map f) (mx.map f)
  | .sliceArr n s x lo hi mx => .sliceArr n s (f x) (lo.map f) (hi.map f) (mx.map f)
  | .fieldAddr o x => .fieldAddr o (f x)
  | .field o n x => .field o n (f x)
  | .idxAddr s x i => .idxAddr s (f x) (f i)
  | .idxAddrArr n s x i => .idxAddrArr n s (f x) (f i)
  | .idxArr n s z x i => .idxArr n s z (f x) (f i)
  | .extract x i => .extract (f x) i
  | .call g as => .call g (as.map f)
  | .callv g as => .callv (f g) (as.map f)
  | .append s b x y => .append s b (f x) (f y)
  | .appendZ s b zs x y => .appendZ s b zs (f x) (f y)
  | .copy s x y => .copy s (f x) (f y)
  | .clear zs x => .clear zs (f x)
  | .len x => .len (f x)
  | .lenStr x => .lenStr (f x)
  | .idxStr x i => .idxStr (f x) (f i)
  | .strBytes x => .strBytes (f x)
  | .isNil n x => .isNil n (f x)
  | .konst a => .konst a
  | .cap x => .cap (f x)
  | .minMax m x xs => .minMax m (f x) (xs.map f)

noncomputable def instF (t : FT) (x : XOp) : XOp := x.mapA fun a => .k (evF t a)
theorem instF_eq {n : Nat} {t : FT} {ts : List AVal} (h : FR n t ts) (x : XOp) : instF t x = x.inst ts := by
  have : (fun a => Arg.k (evF t a)) = Arg.inst ts := by
    funext a
    rw [evF_eq h]
    rfl
  unfold instF
  rw [this]
  cases x <;> rfl

end Go.Ab
