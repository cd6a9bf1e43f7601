/- The abstract layer, part 20: the theorem of open orders. -/
import Derived.Test.YtookmilggbnoiaaGreatAbDraw4
set_option linter.unusedSimpArgs false
set_option linter.unusedVariables false
namespace Go.Ab

variable {ro : Option Nat} {n : Nat} {ds : List Deferred} {P : Program} {ops : Array Oper} {xs : List XOper} {anc : List (List Nat)} {φ φ' φ0 : Emb} {A A' A0 : Heap} {w w' w0 : World} {ts ts0 : List AVal} {a : Act} {K : AVal → Heap → Prop}
  {D : List Nat} {C : List (Nat × XOp × AVal)} {S : Nat → Prop} {bl : Nat → Nat} {Q : List AVal → Heap → Prop}

/-- Behind a region, or in a body: 'w0' is where it began. -/
def Past (φ0 : Emb) (A0 : Heap) (w0 : World) (Q : List AVal → Heap → Prop) (a : Act) (w : World) : Prop :=
  ∃ φ ts A, Q ts A ∧ R φ A w ∧ Ext φ0 A0 w0 φ A w ∧ Vl φ A w ts a.tmps.toList ∧ DefOk w0.heap.size φ A w a.defers
/-- The same, the deferred calls told. -/
def PastD (ds : List Deferred) (φ0 : Emb) (A0 : Heap) (w0 : World) (Q : List AVal → Heap → Prop) (a : Act) (w : World) : Prop :=
  ∃ φ ts A, Q ts A ∧ R φ A w ∧ Ext φ0 A0 w0 φ A w ∧ Vl φ A w ts a.tmps.toList ∧ a.defers = ds

theorem DInv.congrS {S' : Nat → Prop} (h : ∀ i, S i ↔ S' i) (hI : DInv ds P ops xs anc φ0 A0 w0 ts0 D C ts A S bl a φ w) : DInv ds P ops xs anc φ0 A0 w0 ts0 D C ts A S' bl a φ w := by
  have : S = S' := funext fun i => propext (h i)
  rwa [← this]

/-- All is done. -/
theorem DInv.done (hr : Reg ops xs anc) {rs : List DStep} {als : List Nat} (hI : DInv ds P ops xs anc φ0 A0 w0 ts0 D C ts A S bl a φ w) (h : Dr P xs anc Q rs C ts A) (hs : scriptOk ops xs anc rs D als = true) (hn : Norm rs) (hall : ∀ i, i < ops.size → S i) : PastD ds φ0 A0 w0 Q a w := by
  have hf := (front_of rs D als hs (.inr hn)).1
  cases hf with
  | eff q1 q2 q3 q4 q5 q6 =>
    rcases hI.inD _ (hall _ q1) with h' | h'
    · exact absurd h' q2
    · rw [q4] at h'; cases h'
  | @fin l D =>
    obtain ⟨D', als', ts', A', φ', hI', h', hs'⟩ := DInv.adopts hr l [] D als ts A φ hI (by simpa using h) (by simpa using hs) (fun i hi => hall i (script_al _ _ _ hs i (by simpa using hi)).1)
    simp only [scriptOk, List.all_eq_true, List.mem_range, List.contains_iff_mem] at hs'
    simp only [Dr] at h'
    obtain ⟨tsS, h1, h2, h3, h4, h5⟩ := hI'.tmps
    have he : tsS = ts' := by
      refine List.ext_getElem h2 fun t ht ht' => ?_
      have hg : tsS.getD t AVal.undef = ts'.getD t AVal.undef := by
        by_cases hex : ∃ j, j < ops.size ∧ dstOf xs j = some t
        · obtain ⟨j, hj, hjt⟩ := hex
          exact h3 t j (hall j hj) (hs' j hj) hjt
        · rw [h4 t fun j hj hjt => hex ⟨j, (hI'.cl j hj).1, hjt⟩, hI'.nowr t fun j hj hjt => hex ⟨j, (hI'.dcl j hj).1, hjt⟩]
      simpa [List.getD, ht, ht'] using hg
    subst he
    exact ⟨φ', tsS, A', h', hI'.hR, hI'.ext, h1, hI'.dfr⟩

theorem mem_ready {listed : Array Bool} (hsz : listed.size = ops.size) {i : Nat} : i ∈ Region.ready .any ops listed ↔ i < ops.size ∧ listed.getD i false = false ∧ ∀ e ∈ deps ops i, listed.getD e false = true := by
  simp only [Region.ready, List.mem_filter, List.mem_range, Bool.and_eq_true, Bool.not_eq_true']
  constructor
  · rintro ⟨h1, h2, h3⟩
    refine ⟨h1, ?_, ?_⟩
    · simpa [Array.getD, hsz, h1] using h2
    · simp only [deps]
      cases ho : ops[i]? with
      | none => simp
      | some o =>
        rw [ho] at h3
        simp only [Option.map_some, Option.getD_some, Array.all_eq_true', Bool.or_eq_true, Bool.not_eq_true'] at h3
        simp only [Option.map_some, Option.getD_some, List.mem_map, List.mem_filter, Array.mem_toList_iff]
        rintro e ⟨x, ⟨h4, h5⟩, rfl⟩
        rcases h3 x h4 with h | h
        · rw [h] at h5; cases h5
        · exact h
  · rintro ⟨h1, h2, h3⟩
    refine ⟨h1, ?_, ?_⟩
    · simpa [Array.getD, hsz, h1] using h2
    · simp only [deps] at h3
      cases ho : ops[i]? with
      | none => rw [Array.getElem?_eq_getElem h1] at ho; cases ho
      | some o =>
        rw [ho] at h3
        simp only [Option.map_some, Option.getD_some, List.mem_map, List.mem_filter, Array.mem_toList_iff] at h3
        simp only [Option.map_some, Option.getD_some, Array.all_eq_true', Bool.or_eq_true, Bool.not_eq_true']
        intro x hx
        cases hb : Region.binds .any x with
        | false => exact .inl rfl
        | true => exact .inr (h3 _ ⟨x, ⟨hx, hb⟩, rfl⟩)

def left (l : Array Bool) : Nat := (l.toList.filter (!·)).length

theorem left_set {l : Array Bool} {i : Nat} (hi : i < l.size) (h : l.getD i false = false) : left (l.setIfInBounds i true) + 1 = left l := by
  obtain ⟨l⟩ := l
  simp only [left, List.setIfInBounds_toArray]
  simp only [List.size_toArray] at hi
  have h : l[i] = false := by simpa [Array.getD, hi] using h
  have key : ∀ (l : List Bool) (i : Nat) (hi : i < l.length), l[i] = false → ((l.set i true).filter (!·)).length + 1 = (l.filter (!·)).length := by
    intro l
    induction l with
    | nil => intro i hi; simp at hi
    | cons b l ih =>
      intro i hi h
      cases i with
      | zero => simp at h; subst h; simp
      | succ i =>
        simp at h hi
        have := ih i hi h
        cases b <;> simp <;> omega
  exact key l i hi h

theorem getD_setb {l : Array Bool} {i j : Nat} (hi : i < l.size) : (l.setIfInBounds i true).getD j false = if j = i then true else l.getD j false := by
  simp only [Array.getD_eq_getD_getElem?, Array.getElem?_setIfInBounds]
  by_cases hj : j = i
  · subst hj; simp [hi]
  · rw [if_neg (fun h => hj h.symm), if_neg hj]

theorem DInv.walk (hr : Reg ops xs anc) (hops : ∀ (i : Nat) (o : Oper) (x : XOper), ops[i]? = some o → xs[i]? = some x → OpOk P ops o x ∧ AlOk P o x) {Q' : Exit → Act → World → Prop} (hQ : ∀ a w, PastD ds φ0 A0 w0 Q a w → Q' .normal a w) :
    ∀ (fuel : Nat) (listed : Array Bool) (a : Act) (w : World) (rs : List DStep) (D : List Nat) (C : List (Nat × XOp × AVal)) (ts : List AVal) (A : Heap) (S : Nat → Prop) (bl : Nat → Nat) (φ : Emb),
      listed.size = ops.size → left listed ≤ fuel → (∀ i, S i ↔ listed.getD i false = true) → DInv ds P ops xs anc φ0 A0 w0 ts0 D C ts A S bl a φ w → Dr P xs anc Q rs C ts A → scriptOk ops xs anc rs D [] = true → Norm rs →
      wpAnyIn (fenceR ro) n P .any ops Q' fuel listed a w := by
  intro fuel
  induction fuel with
  | zero =>
    intro listed a w rs D C ts A S bl φ hsz hf hS hI h hs hn
    have hall : ∀ i, i < ops.size → listed.getD i false = true := by
      intro i hi
      cases hl : listed.getD i false with
      | true => rfl
      | false => have := left_set (hsz ▸ hi) hl; omega
    refine ⟨List.eq_nil_iff_forall_not_mem.2 fun i hi => ?_, hQ _ _ (hI.done hr h hs hn fun i hi => (hS i).2 (hall i hi))⟩
    rw [mem_ready hsz] at hi
    rw [hall i hi.1] at hi
    exact absurd hi.2.1 (by simp)
  | succ fuel ih =>
    intro listed a w rs D C ts A S bl φ hsz hf hS hI h hs hn
    refine ⟨fun hr0 => ?_, fun i hi => ?_⟩
    · refine hQ _ _ (hI.done hr h hs hn fun i => ?_)
      induction i using Nat.strongRecOn with
      | _ i ih2 =>
        intro hi
        rw [hS]
        cases hl : listed.getD i false with
        | true => rfl
        | false =>
          have : i ∈ Region.ready .any ops listed := (mem_ready hsz).2 ⟨hi, hl, fun e he => (hS e).1 (ih2 e (hr.back i hi e he) (Nat.lt_trans (hr.back i hi e he) hi))⟩
          rw [hr0] at this
          cases this
    · rw [mem_ready hsz] at hi
      obtain ⟨hi, hl, hd⟩ := hi
      have hiS : ¬ S i := by rw [hS, hl]; simp
      have hd' : ∀ e ∈ deps ops i, S e := fun e he => (hS e).2 (hd e he)
      have hleft := left_set (hsz ▸ hi) hl
      have hS' : ∀ j, (j = i ∨ S j) ↔ (listed.setIfInBounds i true).getD j false = true := by
        intro j
        rw [getD_setb (hsz ▸ hi), hS]
        by_cases hj : j = i <;> simp [hj]
      have hsz' : (listed.setIfInBounds i true).size = ops.size := by simpa using hsz
      obtain ⟨o, ho⟩ : ∃ o, ops[i]? = some o := ⟨ops[i], Array.getElem?_eq_getElem hi⟩
      obtain ⟨x, hx⟩ : ∃ x, xs[i]? = some x := ⟨xs[i]'(by rw [hr.len]; exact hi), List.getElem?_eq_getElem _⟩
      obtain ⟨hok, hal⟩ := hops i o x ho hx
      by_cases hiD : i ∈ D
      · exact hI.late hr hiD hiS hd' ho hx hok fun a' φ' w' hI' => ih _ _ _ rs D C ts A _ bl φ' hsz' (by omega) hS' hI' h hs hn
      · by_cases hia : .al i ∈ rs
        · obtain ⟨_, _, dst, zs, g3⟩ := script_al rs D [] hs i hia
          rw [hx] at g3
          cases g3
          exact hI.early hr hi hiD hiS hd' ho hx hal fun a' w' bl' hI' => ih _ _ _ rs D C ts A _ bl' φ hsz' (by omega) hS' hI' h hs hn
        · have hf := (front_of rs D [] hs (.inr hn)).1
          cases hf with
          | @fin l _ =>
            exfalso
            rcases script_cover _ _ _ hs i hi with h' | h' | h' | h'
            · exact hiD h'
            · simp at h'
            · exact hia h'
            · simp at h'
          | @eff l e rs _ q1 q2 q3 q4 q5 q6 =>
            have hnot : e ∈ ancs anc i → False := fun he => by
              rcases hI.inD e (hr.closed hI.cl i hi hd' e he) with h' | h'
              · exact q2 h'
              · rw [q4] at h'; cases h'
            have hie : i = e := by
              rcases script_cover _ _ _ hs i hi with h' | h' | h' | h'
              · exact absurd h' hiD
              · exfalso
                rw [List.mem_append] at h'
                rcases h' with h' | h'
                · simp at h'
                · rcases List.mem_cons.1 h' with h' | h'
                  · cases h'
                  · have := q6 _ h'
                    simp only [DStep.waits, List.contains_iff_mem] at this
                    exact hnot this
              · exact absurd h' hia
              · rw [List.mem_append] at h'
                rcases h' with h' | h'
                · simp at h'
                · rcases List.mem_cons.1 h' with h' | h'
                  · cases h'; rfl
                  · exfalso
                    have := q6 _ h'
                    simp only [DStep.waits, List.contains_iff_mem] at this
                    exact hnot this
            subst hie
            obtain ⟨D', als', ts', A', φ', hI', h', hs'⟩ := DInv.adopts hr l (.eff i :: rs) D [] ts A φ hI h hs fun j hj => hr.closed hI.cl i hi hd' j (q5 j hj)
            simp only [Dr, hx] at h'
            simp only [scriptOk, Bool.and_eq_true, decide_eq_true_eq, Bool.not_eq_true', List.contains_eq_mem, decide_eq_false_iff_not, List.all_eq_true] at hs'
            obtain ⟨⟨⟨⟨⟨⟨_, k2⟩, k3⟩, _⟩, _⟩, _⟩, k7⟩ := hs'
            refine hI'.effect hr hi k2 hiS hd' k3 ho hx hok h' fun a' φ'' w' v A'' hk hI'' => ?_
            obtain ⟨rs2, D2, C2, ts2, m1, m2, m3, m4⟩ := DInv.norm hr rs _ _ _ hI'' hk k7
            exact ih _ _ _ rs2 D2 C2 ts2 A'' _ bl φ'' hsz' (by omega) hS' m1 m2 m3 m4

/-- A region of open order. -/
theorem wp_draw {script : List DStep} (hm : P.follows .mixedOrders = true) (hok : regionOk ops xs anc script = true) (hops : ∀ (i : Nat) (o : Oper) (x : XOper), ops[i]? = some o → xs[i]? = some x → OpOk P ops o x ∧ AlOk P o x)
    (hR : R φ A w) (hV : Vl φ A w ts a.tmps.toList) (hdf : a.defers = ds) (h : Dr P xs anc Q script [] ts A) {id : Nat} {Q' : Exit → Act → World → Prop} (hQ : ∀ a w', PastD ds φ A w Q a w' → Q' .normal a w') :
    (Code.region id ops true).wpIn (fenceR ro) n P Q' a w := by
  obtain ⟨hr, hs⟩ := reg_of hok
  have hE : Ext φ A w φ A { w with drawn := w.drawn + 1 } := .of_heap hR rfl
  have hI : DInv ds P ops xs anc φ A w ts [] [] ts A (fun _ => False) (fun _ => 0) a φ { w with drawn := w.drawn + 1 } := by
    refine ⟨hR.of_heap rfl, hE, hdf, fun _ h => h.elim, fun _ h => (by cases h), fun _ h => h.elim, fun _ h => (by cases h), fun _ h => h.elim, fun _ _ h => h.elim,
      ⟨ts, hV.ext hE, rfl, fun _ _ h => h.elim, fun _ _ => rfl, fun _ _ h => h.elim⟩, rfl, fun _ _ => rfl, fun _ h => (by cases h)⟩
  obtain ⟨rs, D, C, ts', m1, m2, m3, m4⟩ := DInv.norm hr script [] [] ts hI h hs
  refine wpIn_region_any hm (DInv.walk hr hops hQ _ _ _ _ rs D C ts' A _ _ φ (by simp) ?_ (fun i => ?_) m1 m2 m3 m4)
  · simp only [left]
    refine Nat.le_trans (List.length_filter_le _ _) (by simp)
  · simp [Array.getD]

end Go.Ab
