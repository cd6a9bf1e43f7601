/- Contracts of functions of the program: what each call returns, on plain lists. -/
import Derived.Test.YtookmilggbnoiaaGreatC6
set_option linter.unusedVariables false
set_option linter.unusedSimpArgs false
open Go.Proofs
namespace Go.Ab

def rowOf (A : Heap) : AVal → Option (List AVal)
  | .raw (.slice none 0 0) => some []
  | .fsl cs n _ => if cs.length = n then some cs else none
  | .sl i off n _ e => match A.get i with
    | some (.cells vs) => if off + n ≤ vs.length ∧ e = 1 then some ((vs.drop off).take n) else none
    | _ => none
  | _ => none

theorem rowOf_ok {A : Heap} {s : AVal} {cs : List AVal} (h : rowOf A s = some cs) : Row A 1 cs.length cs s := by
  unfold rowOf at h
  split at h
  · cases h; exact .nil rfl rfl
  · split at h
    · cases h
      rename_i hl
      subst hl
      exact .fsl _ (by omega)
    · cases h
  · split at h
    · split at h
      · rename_i ho hc
        cases h
        obtain ⟨h1, rfl⟩ := hc
        rename_i i off n cap _ vs
        have hl : ((vs.drop off).take n).length = n := by rw [List.length_take, List.length_drop]; omega
        rw [hl]
        exact .sl _ _ _ vs ho (by omega) (by rw [Nat.mul_one])
      · cases h
    · cases h
  · cases h

def isInt : AVal → Bool
  | .raw (.int _ _) => true
  | _ => false

/-- What 'slices.AppendSeq' over 'slices.Values' answers. -/
def mAppend (args : List AVal) (A : Heap) : Option (AVal × Heap) :=
  match args with
  | [.raw (.slice none 0 0), .func (.func g) [] [.ptr b 0]] =>
    match Nat.beq g f_slices_Values___int_int__1, A.get b with
    | true, some (.cells [s]) =>
      match rowOf A s with
      | some cs => if cs.all isInt = true ∧ cs.length < 2 ^ 40 then match cs with
        | [] => some (.raw (.slice none 0 0), A)
        | c :: cs => some (.sl A.top 0 (cs.length + 1) none 1, A.push (.cells (c :: cs))) else none
      | none => none
    | _, _ => none
  | _ => none

theorem mAppend_ok {args : List AVal} {A A' : Heap} {v : AVal} (h : mAppend args A = some (v, A')) : J Tryz.prog f_slices_AppendSeq___int_int_ args A fun a B => a = v ∧ B = A' := by
  unfold mAppend at h
  split at h
  · split at h
    · rename_i g b _ _ s hg hb
      have hg := Nat.eq_of_beq_eq_true hg
      subst hg
      split at h
      · rename_i cs hcs
        split at h
        · rename_i hc
          refine (j_appendSeq A b cs.length s cs hc.2 hb (rowOf_ok hcs) rfl ?_).mono ?_
          · intro c hm
            have := List.all_eq_true.1 hc.1 c hm
            unfold isInt at this
            split at this
            · exact ⟨_, _, rfl⟩
            · cases this
          · intro a B hq
            cases cs with
            | nil =>
              cases h
              rcases hq with ⟨_, rfl, rfl⟩ | ⟨h0, _⟩
              · exact ⟨rfl, rfl⟩
              · simp at h0
            | cons c cs =>
              cases h
              rcases hq with ⟨h0, _⟩ | ⟨_, rfl, rfl⟩
              · simp at h0
              · exact ⟨rfl, rfl⟩
        · cases h
      · cases h
    · cases h
  · cases h

def intsOf : List AVal → Option (List Int)
  | [] => some []
  | .raw (.int .i64 n) :: l => match intsOf l with
    | some l => some (n :: l)
    | none => none
  | _ => none
theorem intsOf_ok : ∀ {cs : List AVal} {l : List Int}, intsOf cs = some l → cs = ints l
  | [], l, h => by simp only [intsOf] at h; cases h; rfl
  | c :: cs, l, h => by
    unfold intsOf at h
    split at h
    · rename_i heq; cases heq
    · rename_i heq
      cases heq
      split at h
      · rename_i hl
        cases h
        rw [intsOf_ok hl]
        rfl
      · cases h
    · cases h

def logsOf : List AVal → Option (List (List Int))
  | [] => some []
  | .raw (.slice none 0 0) :: S => match logsOf S with
    | some L => some ([] :: L)
    | none => none
  | .fsl cs n _ :: S => match intsOf cs, logsOf S with
    | some l, some L => if l.length = n then some (l :: L) else none
    | _, _ => none
  | _ => none
theorem logsOf_ok : ∀ {S : List AVal} {L : List (List Int)}, logsOf S = some L → ISls L S
  | [], L, h => by simp only [logsOf] at h; cases h; exact .nil
  | c :: cs, l, h => by
    unfold logsOf at h
    split at h
    · rename_i heq; cases heq
    · rename_i heq
      cases heq
      split at h
      · rename_i hl
        cases h
        exact .cons (.nil rfl) (logsOf_ok hl)
      · cases h
    · rename_i heq
      cases heq
      split at h
      · split at h
        · rename_i h1 h2 h3
          cases h
          have := intsOf_ok h1
          subst this
          subst h3
          exact .cons (.fsl _) (logsOf_ok h2)
        · cases h
      · cases h
    · cases h

/-- What 'delta.Answer' answers. -/
def mAnswer (args : List AVal) (A : Heap) : Option (AVal × Heap) :=
  match args with
  | [.ptr si 0, .agg vs, .raw (.int .i64 room)] =>
    match A.get si with
    | some (.cells S) => match logsOf S, intsOf vs with
      | some L, some v => if L.length = 4 ∧ v.length = 4 ∧ vright v = true ∧ 16 ≤ room ∧ room < 2 ^ 40 ∧ (L.all fun l => decide (l.length < 2 ^ 40)) = true then
          some (.tup [.agg (ints (lowV v L) ++ (answerL room L (lowV v L)).map isl), .raw (.int .i64 0)], A) else none
      | _, _ => none
    | _ => none
  | _ => none

theorem ISls.up {φ : Emb} {A : Heap} {w : World} : ∀ {L : List (List Int)} {S : List AVal} {xs : List Value}, ISls L S → Vcs φ A w S xs → Vcs φ A w (L.map isl) xs
  | [], [], xs, _, h => h
  | l :: L, s :: S, [], _, h => by simp only [Vcs] at h
  | l :: L, s :: S, x :: xs, .cons h1 h2, h => by
    simp only [Vcs, List.map_cons] at h ⊢
    exact ⟨⟨h.1.1, h1.up h.1.2⟩, h2.up h.2⟩

theorem Vcs.app_up {φ : Emb} {A : Heap} {w : World} {S S' : List AVal} (hS : ∀ xs, Vcs φ A w S xs → Vcs φ A w S' xs) : ∀ {cs : List AVal} {xs : List Value}, Vcs φ A w (cs ++ S) xs → Vcs φ A w (cs ++ S') xs
  | [], _, h => hS _ h
  | c :: cs, [], h => by simp only [List.cons_append, Vcs] at h
  | c :: cs, x :: xs, h => by
    simp only [List.cons_append, Vcs] at h ⊢
    exact ⟨h.1, Vcs.app_up hS h.2⟩

theorem mAnswer_ok {args : List AVal} {A A' : Heap} {v : AVal} (h : mAnswer args A = some (v, A')) : J Tryz.prog f_vigil_delta_Answer args A fun a B => a = v ∧ B = A' := by
  unfold mAnswer at h
  split at h
  · split at h
    · split at h
      · split at h
        · rename_i si vs room _ S hS _ _ L v' h1 h2 hc
          cases h
          obtain ⟨c1, c2, c3, c4, c5, c6⟩ := hc
          have e := intsOf_ok h2
          subst e
          refine (j_answer A si L v' room ⟨⟨S, hS, logsOf_ok h1⟩, c1, fun l hl => by simpa using List.all_eq_true.1 c6 l hl⟩ c2 c3 c4 c5).up ?_
          rintro u B ⟨⟨S', rfl, hS'⟩, rfl⟩
          refine ⟨_, ⟨rfl, rfl⟩, fun φ w u hV => ?_⟩
          simp only [V, Vl] at hV ⊢
          obtain ⟨xs, rfl, hV⟩ := hV
          refine ⟨xs, rfl, ?_⟩
          match xs, hV with
          | x :: xs, hV =>
            simp only [Vl, V] at hV ⊢
            obtain ⟨⟨ys, rfl, h3⟩, h4⟩ := hV
            exact ⟨⟨ys, rfl, Vcs.app_up (fun xs hx => hS'.up hx) h3⟩, h4⟩
        · cases h
      · cases h
    · cases h
  · cases h

def M17 : Mods := fun f => match Nat.beq f f_slices_AppendSeq___int_int_ with
  | true => some mAppend
  | false => match Nat.beq f f_vigil_delta_Answer with
    | true => some mAnswer
    | false => none
theorem M17_ok : ModsOk Tryz.prog M17 := by
  intro f m args A v A' hm h
  unfold M17 at hm
  split at hm
  · rename_i hf
    cases hm
    rw [Nat.eq_of_beq_eq_true hf]
    exact mAppend_ok h
  · split at hm
    · rename_i hf
      cases hm
      rw [Nat.eq_of_beq_eq_true hf]
      exact mAnswer_ok h
    · cases hm

end Go.Ab
