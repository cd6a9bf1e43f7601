/- The abstract layer, part 31: one operation, fast. -/
import Derived.Test.YtookmilggbnoiaaGreatAbExec4
set_option linter.unusedVariables false
set_option linter.unusedSimpArgs false
namespace Go.Ab

variable {P : Program} {γ : Type} {g : γ}

def cellsOf (v : AVal) : Option (List AVal) :=
  match v with
  | .agg cs => some cs
  | .raw v => match v.oneCell' with | true => some [.raw v] | false => none
  | .tup _ => none
  | .any => none
  | v => some [v]
theorem cellsOf_eq (v : AVal) : cellsOf v = v.cells? := by
  cases v with
  | raw v => simp only [cellsOf, AVal.cells?, AVal.one]; cases v.oneCell' <;> rfl
  | _ => rfl

noncomputable def fillK (t : FT) (ps : List (Nat × Nat × Arg)) : List AVal → (List AVal → Option γ) → Option γ :=
  List.rec (fun vs K => K vs) (fun p _ ih vs K =>
    match p with
    | (off, size, x) => match cellsOf (evF t x) with
      | some cs => lLenK cs 0 fun n => match Nat.beq n size with
        | true => lLenK vs 0 fun m => match Nat.ble (Nat.add off size) m with
          | true => spliceK cs vs off fun vs => ih vs K
          | false => none
        | false => none
      | none => none) ps
theorem fillK_cons {t : FT} {off size : Nat} {x : Arg} {ps : List (Nat × Nat × Arg)} {vs : List AVal} {K : List AVal → Option γ} : fillK t ((off, size, x) :: ps) vs K = (match cellsOf (evF t x) with
      | some cs => lLenK cs 0 fun n => match Nat.beq n size with
        | true => lLenK vs 0 fun m => match Nat.ble (Nat.add off size) m with
          | true => spliceK cs vs off fun vs => fillK t ps vs K
          | false => none
        | false => none
      | none => none) := rfl
theorem fillK_some {n : Nat} {t : FT} {ts : List AVal} (hF : FR n t ts) : ∀ (ps : List (Nat × Nat × Arg)) (vs : List AVal) (K : List AVal → Option γ), fillK t ps vs K = some g → ∃ cs, afill ts vs ps = some cs ∧ K cs = some g
  | [], vs, K, h => ⟨vs, rfl, h⟩
  | (off, size, x) :: ps, vs, K, h => by
    rw [fillK_cons] at h
    simp only [afill]
    rw [cellsOf_eq, evF_eq hF] at h
    split at h
    · rename_i cs hc
      rw [hc, lLenK_eq] at *
      split at h
      · rename_i h1
        have h1 := Nat.eq_of_beq_eq_true h1
        rw [lLenK_eq] at h
        split at h
        · rename_i h2
          have h2 := Nat.le_of_ble_eq_true h2
          rw [spliceK_eq] at h
          simp only [Nat.zero_add] at h1 h2
          obtain ⟨ds, k1, k2⟩ := fillK_some hF ps _ _ h
          exact ⟨ds, by simp only []; rw [if_pos ⟨h1, h2⟩]; exact k1, k2⟩
        · cases h
      · cases h
    · cases h

noncomputable def rawsK {β : Type} (zs : List Value) : (List AVal → β) → β := List.rec (fun K => K []) (fun z _ ih K => fRaw z fun z => ih fun l => K (.raw z :: l)) zs
theorem rawsK_eq {β : Type} : ∀ (zs : List Value) (K : List AVal → β), rawsK zs K = K (zs.map .raw) := by
  intro zs
  induction zs with
  | nil => intro K; rfl
  | cons z zs ih =>
    intro K
    show fRaw z (fun z => rawsK zs fun l => K (.raw z :: l)) = _
    rw [fRaw_eq, ih]
    rfl

noncomputable def srcK' (A : Heap) (s : Nat) (v : AVal) (K : Nat → List AVal → Option γ) : Option γ :=
  match v with
  | .raw (.slice none n _) => match Nat.beq n 0 with | true => K 0 [] | false => none
  | .fsl cs n _ => lLenK cs 0 fun m => match Nat.beq m (Nat.mul n s) with | true => K n cs | false => none
  | .sl i off n _ e => match hGet A i with
    | some (.cells vs) => match Nat.beq e s with
      | true => lLenK vs 0 fun m => match Nat.ble (Nat.add off (Nat.mul n s)) m with
        | true => lTakeK (lDrop vs off) (Nat.mul n s) fun xs => K n xs
        | false => none
      | false => none
    | _ => none
  | v => srcCells reqO none A s v fun n xs => fList xs fun xs => K n xs
theorem srcK'_some {A : Heap} {s : Nat} {v : AVal} {K : Nat → List AVal → Option γ} (h : srcK' A s v K = some g) : srcCells reqO none A s v K = some g := by
  unfold srcK' at h
  split at h
  · split at h
    · rename_i hb
      exact reqO_some.2 ⟨Nat.eq_of_beq_eq_true hb, h⟩
    · cases h
  · rw [lLenK_eq] at h
    split at h
    · rename_i hb
      have hb := Nat.eq_of_beq_eq_true hb
      exact reqO_some.2 ⟨by simpa using hb, h⟩
    · cases h
  · rw [hGet_eq] at h
    split at h
    · rename_i hg
      split at h
      · rename_i he
        have he := Nat.eq_of_beq_eq_true he
        rw [lLenK_eq] at h
        split at h
        · rename_i hb
          have hb := Nat.le_of_ble_eq_true hb
          rw [lTakeK_eq, lDrop_eq] at h
          simp only [srcCells, hg]
          simp only [Nat.zero_add] at hb
          exact reqO_some.2 ⟨⟨he, hb⟩, h⟩
        · cases h
      · cases h
    · cases h
  · simp only [fList_eq] at h
    exact h

noncomputable def appSlow (A : Heap) (s b : Nat) (v : AVal) (n : Nat) (xs : List AVal) (K : AVal → Heap → Option γ) : Option γ := aappend reqO none A s b v n xs fun v A => fVal v fun v => K v A

noncomputable def appK' (A : Heap) (s b : Nat) (v : AVal) (n : Nat) (xs : List AVal) (K : AVal → Heap → Option γ) : Option γ :=
  match Nat.beq n 0 with
  | true => match v with
    | .raw (.slice none l c) => match Nat.beq l 0 with
      | true => match Nat.beq c 0 with
        | true => K (.raw (.slice none 0 0)) A
        | false => none
      | false => none
    | .sl i off len cap e => K (.sl i off len cap e) A
    | .fsl cs len cap => K (.fsl cs len cap) A
    | _ => none
  | false => match v with
    | .raw (.slice none l c) => match Nat.beq l 0 with
      | true => match Nat.beq c 0 with
        | true => match Nat.ble (Nat.mul n b) 70368744177664 with
          | true => hPush A (.cells xs) fun A' => K (.sl A.top 0 n none s) A'
          | false => none
        | false => none
      | false => none
    | .sl i off len none e => match Nat.beq off 0 with
      | true => match Nat.beq e s with
        | true => match hGet A i with
          | some (.cells vs) => lLenK vs 0 fun m => match Nat.beq (Nat.mul len s) m with
            | true => match Nat.ble (Nat.mul (Nat.add len n) b) 70368744177664 with
              | true => lOntoK vs xs (Nat.mul len s) fun cs => hDel A i fun A => fNat (Nat.add len n) fun ln => hPush A (.cells cs) fun A' => K (.sl A.top 0 ln none s) A'
              | false => none
            | false => appSlow A s b (.sl i off len none e) n xs K
          | _ => none
        | false => none
      | false => appSlow A s b (.sl i off len none e) n xs K
    | v => appSlow A s b v n xs K

theorem appK'_some {A : Heap} {s b n : Nat} {v : AVal} {xs : List AVal} {K : AVal → Heap → Option γ} (h : appK' A s b v n xs K = some g) : aappend reqO none A s b v n xs K = some g := by
  have slow : ∀ {v : AVal}, appSlow A s b v n xs K = some g → aappend reqO none A s b v n xs K = some g := by
    intro v h
    unfold appSlow at h
    simp only [fVal_eq] at h
    exact h
  unfold appK' at h
  split at h
  · rename_i hn
    have hn := Nat.eq_of_beq_eq_true hn
    simp only [aappend]
    rw [if_pos hn]
    split at h
    · split at h
      · rename_i h1
        have h1 := Nat.eq_of_beq_eq_true h1
        subst h1
        split at h
        · rename_i h2
          have h2 := Nat.eq_of_beq_eq_true h2
          subst h2
          exact h
        · cases h
      · cases h
    · exact h
    · exact h
    · cases h
  · rename_i hn
    have hn : n ≠ 0 := fun h0 => by subst h0; simp at hn
    split at h
    · simp only [aappend]
      rw [if_neg hn]
      split at h
      · rename_i h1
        have h1 := Nat.eq_of_beq_eq_true h1
        split at h
        · rename_i h2
          have h2 := Nat.eq_of_beq_eq_true h2
          split at h
          · rename_i h3
            exact reqO_some.2 ⟨⟨h1, h2, Nat.le_of_ble_eq_true h3⟩, by rw [hPush_eq] at h; exact h⟩
          · cases h
        · cases h
      · cases h
    · split at h
      · rename_i h1
        have h1 := Nat.eq_of_beq_eq_true h1
        split at h
        · rename_i h2
          have h2 := Nat.eq_of_beq_eq_true h2
          rw [hGet_eq] at h
          split at h
          · rename_i hg
            rw [lLenK_eq] at h
            split at h
            · rename_i h3
              have h3 := Nat.eq_of_beq_eq_true h3
              split at h
              · rename_i h4
                have h4 := Nat.le_of_ble_eq_true h4
                rw [lOntoK_eq, hDel_eq, fNat_eq, hPush_eq] at h
                simp only [Nat.zero_add] at h3
                have h3 : _ * s = _ := h3
                simp only [aappend]
                rw [if_neg hn]
                simp only [hg]
                rw [if_neg (by subst h2; omega)]
                exact reqO_some.2 ⟨⟨h1, h2, by omega, h4⟩, h⟩
              · cases h
            · exact slow h
          · cases h
        · cases h
      · exact slow h
    · exact slow h

noncomputable def argsK (t : FT) (as : List Arg) : (List AVal → Option γ) → Option γ := List.rec (fun K => K []) (fun a _ ih K => fVal (evF t a) fun v => ih fun l => K (v :: l)) as
theorem argsK_eq {n : Nat} {t : FT} {ts : List AVal} (hF : FR n t ts) : ∀ (as : List Arg) (K : List AVal → Option γ), argsK t as K = K (as.map (·.ev ts)) := by
  intro as
  induction as with
  | nil => intro K; rfl
  | cons a as ih =>
    intro K
    show fVal (evF t a) (fun v => argsK t as fun l => K (v :: l)) = _
    rw [fVal_eq, ih, evF_eq hF]
    rfl

/-! One operation. -/

section
variable (call : Nat → List AVal → Heap → (AVal → Heap → Option γ) → Option γ) (t : FT) (A : Heap) (K : AVal → Heap → Option γ)

noncomputable def s_mv (a : Arg) : Option γ := fVal (evF t a) fun v => K v A
noncomputable def s_konst (a : AVal) : Option γ := fVal a fun v => K v A
noncomputable def s_bin (op : BinOp) (a b : Arg) : Option γ := xbin op (evF t a) (evF t b) A K
noncomputable def s_conv (k : IntKind) (a : Arg) : Option γ :=
  match evF t a with
  | .raw (.int _ n) => wrapF k n fun n => K (.raw (.int k n)) A
  | _ => none
noncomputable def s_load1 (a : Arg) : Option γ :=
  match evF t a with
  | .ptr i off => match hGet A i with
    | some (.cells vs) => match lNth vs off with
      | some v => K v A
      | none => none
    | _ => none
  | .fptr vs => match lNth vs 0 with
    | some v => K v A
    | none => none
  | _ => none
noncomputable def s_loadN (m : Nat) (a : Arg) : Option γ :=
  match evF t a with
  | .ptr i off => match hGet A i with
    | some (.cells vs) => lLenK vs 0 fun l => match Nat.ble (Nat.add off m) l with
      | true => lTakeK (lDrop vs off) m fun cs => K (.agg cs) A
      | false => none
    | _ => none
  | .fptr vs => lLenK vs 0 fun l => match Nat.ble m l with
    | true => lTakeK vs m fun cs => K (.agg cs) A
    | false => none
  | _ => none
noncomputable def s_load (m : Option Nat) (a : Arg) : Option γ :=
  match m with
  | none => s_load1 t A K a
  | some m => s_loadN t A K m a
noncomputable def s_store (m : Nat) (a b : Arg) : Option γ :=
  match evF t a with
  | .ptr i off => match hGet A i with
    | some (.cells vs) => match cellsOf (evF t b) with
      | some cs => lLenK cs 0 fun n => match Nat.beq n m with
        | true => lLenK vs 0 fun l => match Nat.ble (Nat.add off m) l with
          | true => spliceK cs vs off fun vs => hSet A i (.cells vs) fun A => K AVal.undef A
          | false => none
        | false => none
      | none => none
    | _ => none
  | _ => none
noncomputable def s_fieldAddr (o : Nat) (a : Arg) : Option γ :=
  match evF t a with
  | .ptr i off => fNat (Nat.add off o) fun off => K (.ptr i off) A
  | .fptr cs => K (.fptr (lDrop cs o)) A
  | _ => none
noncomputable def s_field (o : Nat) (m : Option Nat) (a : Arg) : Option γ :=
  match evF t a with
  | .agg cs => match m with
    | none => match lNth cs o with
      | some v => K v A
      | none => none
    | some m => lTakeK (lDrop cs o) m fun cs => K (.agg cs) A
  | _ => none
noncomputable def s_extract (a : Arg) (i : Nat) : Option γ :=
  match evF t a with
  | .tup vs => match lNth vs i with
    | some v => K v A
    | none => none
  | _ => none
noncomputable def s_idxAddr (s : Nat) (a b : Arg) : Option γ :=
  match evF t b with
  | .raw (.int _ (.ofNat n)) => match evF t a with
    | .sl o off len _ e => match Nat.ble (Nat.succ n) len with
      | true => match Nat.beq e s with
        | true => fNat (Nat.add off (Nat.mul n s)) fun off => K (.ptr o off) A
        | false => none
      | false => none
    | .fsl cs len _ => match Nat.ble (Nat.succ n) len with
      | true => match cs with
        | [] => none
        | c :: cs => K (.fptr (lDrop (c :: cs) (Nat.mul n s))) A
      | false => none
    | _ => none
  | _ => none
noncomputable def s_idxAddrArr (m s : Nat) (a b : Arg) : Option γ :=
  match evF t b with
  | .raw (.int _ (.ofNat n)) => match evF t a with
    | .ptr o off => match Nat.ble (Nat.succ n) m with
      | true => fNat (Nat.add off (Nat.mul n s)) fun off => K (.ptr o off) A
      | false => none
    | .fptr cs => match Nat.ble (Nat.succ n) m with
      | true => K (.fptr (lDrop cs (Nat.mul n s))) A
      | false => none
    | _ => none
  | _ => none
noncomputable def s_idxArr1 (m s : Nat) (a b : Arg) : Option γ :=
  match evF t b with
  | .raw (.int _ (.ofNat n)) => match evF t a with
    | .agg cs => match lNth cs (Nat.mul n s) with
      | some v => match Nat.ble (Nat.succ n) m with
        | true => K v A
        | false => none
      | none => none
    | _ => none
  | _ => none
noncomputable def s_slow (x : XOp) : Option γ := astep reqO none call (fun _ _ _ _ => none) (fun _ => none) (instF t x) [] A fun v A' => fVal v fun v => K v A'
noncomputable def s_idxArr (m s : Nat) (z : Option Nat) (a b : Arg) : Option γ :=
  match z with
  | none => s_idxArr1 t A K m s a b
  | some z => s_slow call t A K (.idxArr m s (some z) a b)
noncomputable def s_call (f : Nat) (as : List Arg) : Option γ := argsK t as fun vs => call f vs A K
noncomputable def s_callv (fv : Arg) (as : List Arg) : Option γ :=
  match evF t fv with
  | .func (.func f) first captured => argsK t as fun vs => fList (first ++ vs ++ captured) fun vs => call f vs A K
  | _ => none
noncomputable def s_append (s b : Nat) (a c : Arg) : Option γ := srcK' A s (evF t c) fun n xs => appK' A s b (evF t a) n xs K
noncomputable def s_box (a : Arg) : Option γ :=
  match cellsOf (evF t a) with
  | some cs => hPush A (.cells cs) fun A' => K (.ptr A.top 0) A'
  | none => none
noncomputable def s_alloc (zs : List Value) : Option γ := rawsK zs fun cs => hPush A (.cells cs) fun A' => K (.ptr A.top 0) A'
noncomputable def s_build (zs : List Value) (ps : List (Nat × Nat × Arg)) : Option γ := rawsK zs fun vs => fillK t ps vs fun cs => fList cs fun cs => K (.agg cs) A
noncomputable def s_buildF (l : Nat) (zs : List Value) (ps : List (Nat × Nat × Arg)) : Option γ := rawsK zs fun vs => fillK t ps vs fun cs => fList cs fun cs => K (.fsl cs l (some l)) A
noncomputable def s_nilCheck (x : Arg) : Option γ :=
  match evF t x with
  | .ptr i off => K (.ptr i off) A
  | .fptr cs => K (.fptr cs) A
  | .func (.func f) first captured => K (.func (.func f) first captured) A
  | _ => none
noncomputable def s_len (x : Arg) : Option γ :=
  match evF t x with
  | .raw (.slice none n _) => K (.raw (.int .i64 (.ofNat n))) A
  | .sl _ _ n _ _ => K (.raw (.int .i64 (.ofNat n))) A
  | .fsl _ n _ => K (.raw (.int .i64 (.ofNat n))) A
  | _ => none
noncomputable def s_not (x : Arg) : Option γ :=
  match evF t x with
  | .raw (.bool b) => fBool (not b) fun b => K (.raw (.bool b)) A
  | _ => none
noncomputable def s_un (op : UnOp) (x : Arg) : Option γ :=
  match op with
  | .not => s_not t A K x
  | op => s_slow call t A K (.un op x)
end

noncomputable def fstep (x : XOp) : (Nat → List AVal → Heap → (AVal → Heap → Option γ) → Option γ) → FT → Heap → (AVal → Heap → Option γ) → Option γ :=
  match x with
  | .mv a => fun _ t A K => s_mv t A K a
  | .konst a => fun _ _ A K => s_konst A K a
  | .bin op a b => fun _ t A K => s_bin t A K op a b
  | .conv k a => fun _ t A K => s_conv t A K k a
  | .load m a => fun _ t A K => s_load t A K m a
  | .store m a b => fun _ t A K => s_store t A K m a b
  | .fieldAddr o a => fun _ t A K => s_fieldAddr t A K o a
  | .field o m a => fun _ t A K => s_field t A K o m a
  | .extract a i => fun _ t A K => s_extract t A K a i
  | .idxAddr s a b => fun _ t A K => s_idxAddr t A K s a b
  | .idxAddrArr m s a b => fun _ t A K => s_idxAddrArr t A K m s a b
  | .idxArr m s z a b => fun call t A K => s_idxArr call t A K m s z a b
  | .call f as => fun call t A K => s_call call t A K f as
  | .callv fv as => fun call t A K => s_callv call t A K fv as
  | .append s b a c => fun _ t A K => s_append t A K s b a c
  | .box a => fun _ t A K => s_box t A K a
  | .alloc zs => fun _ _ A K => s_alloc A K zs
  | .build zs ps => fun _ t A K => s_build t A K zs ps
  | .buildF l zs ps => fun _ t A K => s_buildF t A K l zs ps
  | .nilCheck x => fun _ t A K => s_nilCheck t A K x
  | .len x => fun _ t A K => s_len t A K x
  | .un op x => fun call t A K => s_un call t A K op x
  | .die => fun _ _ _ _ => none
  | x => fun call t A K => s_slow call t A K x

theorem fstep_some {call : Nat → List AVal → Heap → (AVal → Heap → Option γ) → Option γ} {n : Nat} {t : FT} {ts : List AVal} {x : XOp} {A : Heap} {K : AVal → Heap → Option γ} (hF : FR n t ts)
    (hc : ∀ f args A K, call f args A K = some g → J P f args A fun a A' => K a A' = some g) (h : fstep x call t A K = some g) : ask P x ts A fun a A' => K a A' = some g := by
  have slow : ∀ x : XOp, s_slow call t A K x = some g → ask P x ts A fun a A' => K a A' = some g := by
    intro x h
    unfold s_slow at h
    rw [← ask_inst ts [] x, ← instF_eq hF]
    have := astep_mono hc h
    simpa only [fVal_eq] using this
  have hev : ∀ a, evF t a = a.ev ts := evF_eq hF
  cases x
  case mv a =>
    simp only [fstep, s_mv, fVal_eq, hev] at h
    exact h
  case konst a =>
    simp only [fstep, s_konst, fVal_eq] at h
    exact h
  case bin op a b =>
    simp only [fstep, s_bin, hev] at h
    refine astep_mono hc ?_
    exact (astep_bin (call := call) (call' := call) (ts := ts) (x := a) (y := b) (ts' := []) (x' := .k (a.ev ts)) (y' := .k (b.ev ts)) rfl rfl).trans (xbin_some (call := call) h)
  case conv k a =>
    simp only [fstep, s_conv, hev] at h
    simp only [ask, astep]
    split at h
    · rename_i hv
      rw [hv]
      rw [wrapF_eq] at h
      exact h
    · cases h
  case load m a =>
    cases m with
    | none =>
      simp only [fstep, s_load, s_load1, s_loadN, hev] at h
      simp only [ask, astep]
      split at h
      · rename_i hv
        rw [hv]
        rw [hGet_eq] at h
        split at h
        · rename_i hg
          simp only [hg]
          rw [lNth_eq] at h
          split at h
          · rename_i hn
            simp only [hn]
            exact h
          · cases h
        · cases h
      · rename_i hv
        rw [hv]
        rw [lNth_eq] at h
        split at h
        · rename_i hn
          simp only [hn]
          exact h
        · cases h
      · cases h
    | some m =>
      simp only [fstep, s_load, s_load1, s_loadN, hev] at h
      simp only [ask, astep]
      split at h
      · rename_i hv
        rw [hv]
        rw [hGet_eq] at h
        split at h
        · rename_i hg
          simp only [hg]
          rw [lLenK_eq] at h
          split at h
          · rename_i hb
            rw [lTakeK_eq, lDrop_eq] at h
            have hb := Nat.le_of_ble_eq_true hb
            simp only [Nat.zero_add] at hb
            exact ⟨hb, h⟩
          · cases h
        · cases h
      · rename_i hv
        rw [hv]
        rw [lLenK_eq] at h
        split at h
        · rename_i hb
          rw [lTakeK_eq] at h
          have hb := Nat.le_of_ble_eq_true hb
          simp only [Nat.zero_add] at hb
          exact ⟨hb, h⟩
        · cases h
      · cases h
  case store m a b =>
    simp only [fstep, s_store, hev] at h
    simp only [ask, astep]
    split at h
    · rename_i hv
      rw [hv]
      rw [hGet_eq] at h
      split at h
      · rename_i hg
        rw [cellsOf_eq] at h
        split at h
        · rename_i hcs
          simp only [hg, hcs]
          rw [lLenK_eq] at h
          split at h
          · rename_i h1
            have h1 := Nat.eq_of_beq_eq_true h1
            rw [lLenK_eq] at h
            split at h
            · rename_i h2
              have h2 := Nat.le_of_ble_eq_true h2
              rw [spliceK_eq] at h
              simp only [Nat.zero_add] at h1 h2
              rw [hSet_eq] at h
              exact ⟨⟨h1, h2⟩, h⟩
            · cases h
          · cases h
        · cases h
      · cases h
    · cases h
  case fieldAddr o a =>
    simp only [fstep, s_fieldAddr, hev] at h
    simp only [ask, astep]
    split at h
    · rename_i hv
      rw [hv]
      rw [fNat_eq] at h
      exact h
    · rename_i hv
      rw [hv]
      rw [lDrop_eq] at h
      exact h
    · cases h
  case field o m a =>
    cases m with
    | none =>
      simp only [fstep, s_field, hev] at h
      simp only [ask, astep]
      split at h
      · rename_i hv
        rw [hv]
        rw [lNth_eq] at h
        split at h
        · rename_i hn
          simp only [hn]
          exact h
        · cases h
      · cases h
    | some m =>
      simp only [fstep, s_field, hev] at h
      simp only [ask, astep]
      split at h
      · rename_i hv
        rw [hv]
        rw [lTakeK_eq, lDrop_eq] at h
        exact h
      · cases h
  case extract a i =>
    simp only [fstep, s_extract, hev] at h
    simp only [ask, astep]
    split at h
    · rename_i hv
      rw [hv]
      rw [lNth_eq] at h
      split at h
      · rename_i hn
        simp only [hn]
        exact h
      · cases h
    · cases h
  case idxAddr s a b =>
    simp only [fstep, s_idxAddr, hev] at h
    simp only [ask, astep]
    split at h
    · rename_i hi
      rw [hi]
      split at h
      · rename_i hv
        rw [hv]
        split at h
        · rename_i h1
          split at h
          · rename_i h2
            rw [fNat_eq] at h
            exact ⟨⟨Int.natCast_nonneg _, Int.ofNat_lt.2 (Nat.le_of_ble_eq_true h1), Nat.eq_of_beq_eq_true h2⟩, h⟩
          · cases h
        · cases h
      · rename_i hv
        rw [hv]
        split at h
        · rename_i h1
          split at h
          · cases h
          · rw [lDrop_eq] at h
            exact ⟨⟨Int.natCast_nonneg _, Int.ofNat_lt.2 (Nat.le_of_ble_eq_true h1), by simp⟩, h⟩
        · cases h
      · cases h
    · cases h
  case idxAddrArr m s a b =>
    simp only [fstep, s_idxAddrArr, hev] at h
    simp only [ask, astep]
    split at h
    · rename_i hi
      rw [hi]
      split at h
      · rename_i hv
        rw [hv]
        split at h
        · rename_i h1
          rw [fNat_eq] at h
          exact ⟨⟨Int.natCast_nonneg _, Int.ofNat_lt.2 (Nat.le_of_ble_eq_true h1)⟩, h⟩
        · cases h
      · rename_i hv
        rw [hv]
        split at h
        · rename_i h1
          rw [lDrop_eq] at h
          exact ⟨⟨Int.natCast_nonneg _, Int.ofNat_lt.2 (Nat.le_of_ble_eq_true h1)⟩, h⟩
        · cases h
      · cases h
    · cases h
  case idxArr m s z a b =>
    cases z with
    | none =>
      simp only [fstep, s_idxArr, s_idxArr1, hev] at h
      simp only [ask, astep]
      split at h
      · rename_i hi
        rw [hi]
        split at h
        · rename_i hv
          rw [hv]
          rw [lNth_eq] at h
          split at h
          · rename_i hn
            split at h
            · rename_i h1
              simp only []
              rw [show (Int.ofNat _).toNat * s = _ from rfl]
              simp only [Int.ofNat_eq_natCast, Int.toNat_natCast] at hn ⊢
              rw [show _ * s = Nat.mul _ s from rfl, hn]
              exact ⟨⟨Int.natCast_nonneg _, Int.ofNat_lt.2 (Nat.le_of_ble_eq_true h1)⟩, h⟩
            · cases h
          · cases h
        · cases h
      · cases h
    | some z => exact slow _ h
  case call f as =>
    simp only [fstep, s_call] at h
    rw [argsK_eq hF] at h
    exact hc _ _ _ _ h
  case callv fv as =>
    simp only [fstep, s_callv, hev] at h
    simp only [ask, astep]
    split at h
    · rename_i hv
      rw [hv]
      rw [argsK_eq hF, fList_eq] at h
      exact hc _ _ _ _ h
    · cases h
  case append s b a c =>
    simp only [fstep, s_append, hev] at h
    refine astep_mono hc ?_
    simp only [astep]
    have key : ∀ {A : Heap} {v : AVal} {K K' : Nat → List AVal → Option γ}, (∀ n xs, K n xs = some g → K' n xs = some g) → srcCells reqO none A s v K = some g → srcCells reqO none A s v K' = some g := by
      intro A v K K' hk h
      have := srcCells_mono (C := fun n l => K' n l = some g) h hk
      revert this
      unfold srcCells
      split
      all_goals first
        | exact fun h => reqO_some.2 h
        | (intro h; split at h <;> first | exact reqO_some.2 h | exact h.elim)
        | exact fun h => h.elim
    exact key (fun n xs hk => appK'_some hk) (srcK'_some h)
  case box a =>
    simp only [fstep, s_box, hev, cellsOf_eq] at h
    simp only [ask, astep]
    split at h
    · rename_i hv
      simp only [hv]
      rw [hPush_eq] at h
      exact h
    · cases h
  case alloc zs =>
    simp only [fstep, s_alloc, rawsK_eq, hPush_eq] at h
    exact h
  case build zs ps =>
    simp only [fstep, s_build, rawsK_eq, fList_eq] at h
    obtain ⟨cs, h1, h2⟩ := fillK_some hF _ _ _ h
    simp only [ask, astep, h1]
    exact h2
  case buildF l zs ps =>
    simp only [fstep, s_buildF, rawsK_eq, fList_eq] at h
    obtain ⟨cs, h1, h2⟩ := fillK_some hF _ _ _ h
    simp only [ask, astep, h1]
    exact h2
  case die => cases h
  case nilCheck x =>
    simp only [fstep, s_nilCheck, hev] at h
    simp only [ask, astep]
    split at h <;> first
      | (rename_i hv; rw [hv]; exact h)
      | cases h
  case len x =>
    simp only [fstep, s_len, hev] at h
    simp only [ask, astep]
    split at h <;> first
      | (rename_i hv; rw [hv]; exact h)
      | cases h
  case un op x =>
    cases op with
    | not =>
      simp only [fstep, s_un, s_not, hev] at h
      simp only [ask, astep]
      split at h
      · rename_i hv
        rw [hv]
        rw [fBool_eq] at h
        exact h
      · cases h
    | _ => exact slow _ h
  all_goals exact slow _ h

end Go.Ab
