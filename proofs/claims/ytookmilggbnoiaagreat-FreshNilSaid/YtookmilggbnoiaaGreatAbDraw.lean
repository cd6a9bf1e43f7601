/- The abstract layer, part 16: a statement whose order Go leaves open, done in whatever order, comes to what one order says. -/
import Derived.Test.YtookmilggbnoiaaGreatAbStepX
import Derived.OrdersIn
set_option linter.unusedSimpArgs false
set_option linter.unusedVariables false
namespace Go.Ab

variable {P : Program} {φ φ' : Emb} {A A' : Heap} {w w' : World} {ts : List AVal} {a : Act} {K : AVal → Heap → Prop}

/-- An operation of the model and what is made of it. -/
def OpOk (P : Program) (ops : Array Oper) (o : Oper) (x : XOper) : Prop :=
  x.dst = o.dst ∧ ∀ (φ : Emb) (A : Heap) (w : World) (ts : List AVal) (a : Act) (K : AVal → Heap → Prop), R φ A w → Vl φ A w ts a.tmps.toList → runX P x ts A K →
    (Region.wanted o (yielded ops a.tmps) = true ∧ Res P φ A w K ((execOp a.eval o).run P w)) ∨ (Region.wanted o (yielded ops a.tmps) = false ∧ K AVal.undef A)

/-- All functions; of a round (of a loop over a function), or of none. -/
def fenceR (ro : Option Nat) : Fence := { Fence.wide with round := ro }
theorem fenceR_none : fenceR none = Fence.wide := rfl
theorem fenceR_inRound (l : Nat) : (fenceR none).inRound l = fenceR (some l) := rfl
theorem fenceR_fn (ro : Option Nat) (f : FuncId) : (fenceR ro).fn f := trivial
theorem fenceR_depth (ro : Option Nat) {p : Prop} : (fenceR ro).depth.isSome = true → p := fun h => by cases h

theorem calls_fenceR {ro : Option Nat} {n : Nat} {f : FuncId} {args : Array Value} {R : Ending → World → Prop} (h : Calls P f args w R) : CallsIn (fenceR ro) n P f args w R := callsIn_wide (n := n).2 h

theorem Res.upon {ro : Option Nat} {n : Nat} {o : Oper} {next : Act → World → Prop} {Q : Exit → Act → World → Prop} {r : Result Next} (h : Res P φ A w K r) (hn : ∀ u w', Got φ A w K u w' → next (a.put o.dst u) w') : o.uponIn (fenceR ro) n P a next Q r := by
  cases r with
  | halt x w' => exact h.elim
  | ok x w' =>
    cases x with
    | value v => exact hn _ _ h
    | skip => exact hn _ _ h
    | enter f args =>
      simp only [Oper.uponIn]
      refine ⟨fenceR_depth ro, calls_fenceR (Calls.mono h ?_)⟩
      rintro e w'' ⟨v, rfl, hg⟩
      exact hn _ _ hg
    | round l f tmps asg body =>
      simp only [Oper.uponIn]
      refine ⟨fenceR_depth ro, RoundIn.mono (R := fun e w'' => ∃ v, e = .returned v ∧ Got φ A w K v w'') ?_ ?_⟩
      · obtain ⟨_, h2⟩ := (show RoundIn Fence.wide 0 P l f tmps asg body w' fun e w'' => ∃ v, e = .returned v ∧ Got φ A w K v w'' from h)
        exact ⟨trivial, fun c cs _ => h2 c cs (room_wide _)⟩
      · rintro e w'' ⟨v, rfl, hg⟩
        exact hn _ _ hg
    | _ => exact h.elim

theorem semAt_round {ro : Option Nat} {ρ : Operand → Value} {o : Oper} {w : World} (h : Res P φ A w K ((execOp ρ o).run P w)) : (o.semAt ro ρ).run P w = (execOp ρ o).run P w := by
  by_cases hd : ∃ c, o.op = .defer c
  · exfalso
    obtain ⟨c, hc⟩ := hd
    unfold execOp at h
    simp only [hc] at h
    simp only [Sem.run_bind] at h
    generalize (resolve ρ c o.type).run P w = r at h
    cases r with
    | ok d w' => exact h.elim
    | halt x w' => exact h.elim
  · rw [Oper.semAt_eq _ _ _ fun c hc => hd ⟨c, hc⟩]

theorem OpOk.wpOp {ro : Option Nat} {n : Nat} {ops : Array Oper} {i : Nat} {o : Oper} {x : XOper} (ho : ops[i]? = some o) (hok : OpOk P ops o x) {next : Act → World → Prop} {Q : Exit → Act → World → Prop}
    (hR : R φ A w) (hV : Vl φ A w ts a.tmps.toList) (h : runX P x ts A K) (hn : ∀ u w', Got φ A w K u w' → next (a.put o.dst u) w') : wpOpIn (fenceR ro) n P ops Q i next a w := by
  simp only [Go.wpOpIn, ho]
  rcases hok.2 φ A w ts a K hR hV h with ⟨h1, h2⟩ | ⟨h1, h2⟩
  · rw [if_pos h1]
    refine ⟨fun f _ => fenceR_fn ro f, ?_⟩
    rw [semAt_round h2]
    exact h2.upon hn
  · rw [if_neg (by rw [h1]; simp)]
    exact ⟨fun f _ => fenceR_fn ro f, hn _ _ (.same hR (.raw _) h2)⟩

/-! ## The marks of loops over functions among the deferred calls -/

/-- Each is a mark; its block holds no calls, is not ours, and lies at 'B' or behind. -/
def DefOk (B : Nat) (φ : Emb) (A : Heap) (w : World) (ds : List Deferred) : Prop :=
  (∀ d ∈ ds, ∃ D, d = { target := .collected D, args := #[] } ∧ B ≤ D ∧ w.heap[D]? = some (.deferred (some [])) ∧ ¬ Mg φ A D ∧ ¬ φ.frz D) ∧ ds.Nodup

theorem DefOk.nil {B : Nat} : DefOk B φ A w [] := ⟨fun d hd => (by cases hd), .nil⟩
theorem DefOk.ext {B : Nat} {ds : List Deferred} (h : DefOk B φ A w ds) (hE : Ext φ A w φ' A' w') : DefOk B φ' A' w' ds := by
  refine ⟨fun d hd => ?_, h.2⟩
  obtain ⟨D, h1, h2, h3, h4, h5⟩ := h.1 d hd
  have hlt : D < w.heap.size := by
    rcases Nat.lt_or_ge D w.heap.size with hlt | hge
    · exact hlt
    · simp [Array.getElem?_eq_none hge] at h3
  refine ⟨D, h1, h2, (hE.keep D hlt h4).trans h3, fun hm => ?_, fun hf => ?_⟩
  · rcases Mg.back hE hm with h | h
    · exact h4 h
    · omega
  · rcases hE.fnew D hf with h | h | h
    · exact h5 h
    · omega
    · exact h4 h

/-! ## The script -/

inductive DStep where
  | q (i : Nat)
  | al (i : Nat)
  | eff (i : Nat)
  | split (t : Nat)

def stabs (P : Program) (anc : List Nat) (A : Heap) : List (Nat × XOp × AVal) → Prop
  | [] => True
  | (i, x, v) :: C => (bif anc.contains i then True else ask P x [] A fun a _ => a = v) ∧ stabs P anc A C

/-- What a region asks, its operations in the script's order; what was read and may be read again behind a call must be as it was. -/
def Dr (P : Program) (xs : List XOper) (anc : List (List Nat)) (Q : List AVal → Heap → Prop) : List DStep → List (Nat × XOp × AVal) → List AVal → Heap → Prop
  | [], _, ts, A => Q ts A
  | .split t :: rs, C, ts, A =>
    match ts.getD t AVal.undef with
    | .raw (.bool b) => (b = true → Dr P xs anc Q rs C (ts.set t (.raw (.bool true))) A) ∧ (b = false → Dr P xs anc Q rs C (ts.set t (.raw (.bool false))) A)
    | _ => Dr P xs anc Q rs C ts A
  | .q i :: rs, C, ts, A =>
    match xs[i]? with
    | some x => runX P x ts A fun v A' => Dr P xs anc Q rs (bif x.op.looks ts && wants x.guard ts then (i, x.op.inst ts, v) :: C else C) (put ts x.dst v) A'
    | none => False
  | .al i :: rs, C, ts, A =>
    match xs[i]? with
    | some ⟨dst, .alloc zs, none⟩ => Dr P xs anc Q rs C (put ts dst (.ptr A.top 0)) (A.push (.cells (zs.map .raw)))
    | _ => False
  | .eff i :: rs, C, ts, A =>
    match xs[i]? with
    | some x => runX P x ts A fun v A' => stabs P (anc.getD i []) A' C ∧ Dr P xs anc Q rs C (put ts x.dst v) A'
    | none => False

/-- What an operation must wait for. -/
def deps (ops : Array Oper) (i : Nat) : List Nat := ((ops[i]?).map fun o => (o.after.toList.filter (Region.binds .any)).map (·.on)).getD []

def XOper.slots (x : XOper) : List Nat := x.op.slots ++ (x.guard.map (·.1)).toList

/-- Those behind a step: quiet ones and effects. -/
def DStep.waits (anc : List (List Nat)) (e : Nat) : DStep → Bool
  | .q i | .eff i => (anc.getD i []).contains e
  | _ => true

def XOp.isAlloc : XOp → Bool
  | .alloc _ => true
  | _ => false

/-- Is the script one? 'D': what is done; 'als': what was made since the last effect. -/
def scriptOk (ops : Array Oper) (xs : List XOper) (anc : List (List Nat)) : List DStep → List Nat → List Nat → Bool
  | [], D, _ => (List.range ops.size).all fun i => D.contains i
  | .split _ :: rs, D, als => als.isEmpty && scriptOk ops xs anc rs D als
  | .q i :: rs, D, als => als.isEmpty && decide (i < ops.size) && !D.contains i && (deps ops i).all (D.contains ·) && ((xs[i]?).map fun x => x.op.quiet).getD false && scriptOk ops xs anc rs (i :: D) als
  | .al i :: rs, D, als => decide (i < ops.size) && !D.contains i && (deps ops i).all (D.contains ·) && ((xs[i]?).map fun x => x.op.isAlloc && x.guard.isNone).getD false && scriptOk ops xs anc rs (i :: D) (i :: als)
  | .eff i :: rs, D, als => decide (i < ops.size) && !D.contains i && (deps ops i).all (D.contains ·) && als.all ((anc.getD i []).contains ·) && rs.all (DStep.waits anc i) &&
      ((xs[i]?).map fun x => !x.op.quiet && !x.op.isAlloc).getD false && scriptOk ops xs anc rs (i :: D) []

/-- The closed facts of a region. -/
def regionOk (ops : Array Oper) (xs : List XOper) (anc : List (List Nat)) (script : List DStep) : Bool :=
  xs.length == ops.size &&
  (List.range ops.size).all (fun i => (deps ops i).all fun e => decide (e < i)) &&
  (List.range ops.size).all (fun i => (anc.getD i []).all fun j => (deps ops i).any fun k => k == j || (anc.getD k []).contains j) &&
  (List.range ops.size).all (fun i => (List.range ops.size).all fun j => i == j || ((xs[i]?).bind (·.dst)).isNone || ((xs[i]?).bind (·.dst)) != ((xs[j]?).bind (·.dst))) &&
  (List.range ops.size).all (fun i => ((xs[i]?).map (·.slots)).getD [] |>.all fun t => (List.range ops.size).all fun j => j == i || ((xs[j]?).bind (·.dst)) != some t ||
    ((anc.getD i []).contains j && (!(((xs[j]?).map fun x => x.op.isAlloc).getD false) || !(((xs[i]?).map fun x => x.op.quiet).getD false))) || (anc.getD j []).contains i) &&
  scriptOk ops xs anc script [] []

end Go.Ab
