/-
  A second rule for a region that draws its order: what the world keeps may hang on which operations were carried out (a reader that is advanced, a cell that is written).
-/
import Derived.Test.YthbanhedjfpmaaaRegion
namespace Go.Proofs.Ythbanhedjfpmaaa
set_option linter.unusedSimpArgs false
set_option linter.unusedVariables false
open Go

section
variable {P : Program} {Q : Exit → Act → World → Prop}

theorem wp_region_st0 {id : Nat} {l : List Oper} {a : Act} {w : World} (hm : P.follows .mixedOrders = true) (honce : onceB l = true) (hlow : lowerB l = true)
    (S : (Nat → Bool) → World → Prop) (Grow : World → World → Prop) (R : Nat → Value → World → Prop)
    (hR : ∀ i x w w', Grow w w' → R i x w → R i x w')
    (h0 : S (fun _ => false) w.drew)
    (hstep : ∀ i o, l[i]? = some o → ∀ D v w', S D w' → D i = false →
      (∀ e ∈ o.after, Region.binds .any e = true → D e.on = true ∧ R e.on (v e.on) w') →
      (∀ j o', l[j]? = some o' → D j = true → ∀ e ∈ o'.after, Region.binds .any e = true → D e.on = true) →
      opDoes P l o Q (regFrame l v a) w' fun x w'' => Grow w' w'' ∧ R i x w'' ∧ S (fun j => if j = i then true else D j) w'')
    (hend : ∀ D v w', S D w' → (∀ i, i < l.length → D i = true) → (∀ i, i < l.length → R i (v i) w') → Q .normal (regFrame l v a) w') :
    (Code.region id l.toArray true).wp P Q a w := by
  refine wp_region_any hm ?_
  have hlt : ∀ j o, l[j]? = some o → ∀ e ∈ o.after, Region.binds .any e = true → e.on < j := by
    intro j o hj e he hb
    have h1 : (o, j) ∈ l.zipIdx := by
      rw [List.mem_zipIdx_iff_getElem?]; exact hj
    have h2 := List.all_eq_true.1 hlow (o, j) h1
    have h3 := Array.all_eq_true_iff_forall_mem.1 h2 e he
    simpa [hb] using h3
  -- the state between two operations
  have key : ∀ (fuel : Nat) (listed : Array Bool) (v : Nat → Value) (w' : World), listed.size = l.length → S (fun i => listed.getD i false) w' →
      (∀ i, listed.getD i false = true → R i (v i) w') → (∀ i o, l[i]? = some o → listed.getD i false = false → v i = slotOf a o.dst) →
      (∀ j o, l[j]? = some o → listed.getD j false = true → ∀ e ∈ o.after, Region.binds .any e = true → listed.getD e.on false = true) →
      (listed.toList.filter (· == false)).length ≤ fuel →
      wpAny P .any l.toArray Q fuel listed (regFrame l v a) w' := by
    have hdone : ∀ (listed : Array Bool), listed.size = l.length → Region.ready .any l.toArray listed = [] → ∀ i, i < l.length → listed.getD i false = true := by
      intro listed hs hr i
      induction i using Nat.strongRecOn with
      | _ i ih =>
        intro hi
        have hs' : i < listed.size := by omega
        cases hg : listed.getD i false with
        | true => rfl
        | false =>
          exfalso
          have : i ∈ Region.ready .any l.toArray listed := by
            rw [mem_ready]
            refine ⟨?_, l[i], by simp [hi], fun e he hb => ?_⟩
            · simp only [Array.getD_eq_getD_getElem?, Array.getElem?_eq_getElem hs'] at hg ⊢
              simpa using hg
            · have h1 := hlt i l[i] (List.getElem?_eq_getElem hi) e he hb
              exact ih e.on h1 (by omega)
          rw [hr] at this
          cases this
    intro fuel
    induction fuel with
    | zero =>
      intro listed v w' hs hI hR1 hV hC hf
      have hall : ∀ i, i < l.length → listed.getD i false = true := by
        intro i hi
        have hs' : i < listed.size := by omega
        cases hg : listed.getD i false with
        | true => rfl
        | false =>
          exfalso
          have h1 : listed[i] = false := by simpa [Array.getD_eq_getD_getElem?, Array.getElem?_eq_getElem hs'] using hg
          have h2 : false ∈ listed.toList.filter (· == false) := by
            rw [List.mem_filter]
            exact ⟨by rw [← h1]; simp, rfl⟩
          have := List.length_pos_of_mem h2
          omega
      refine ⟨?_, hend _ v w' hI hall fun i hi => hR1 i (hall i hi)⟩
      have : ∀ j, j ∉ Region.ready .any l.toArray listed := by
        intro j hj
        rw [mem_ready] at hj
        obtain ⟨h1, o, ho, _⟩ := hj
        have hjl : j < l.length := by
          have := (Array.getElem?_eq_some_iff.1 ho).1
          simpa using this
        have h2 := hall j hjl
        have hs' : j < listed.size := by omega
        simp only [Array.getD_eq_getD_getElem?, Array.getElem?_eq_getElem hs', Option.getD_some] at h1 h2
        rw [h1] at h2
        cases h2
      exact List.eq_nil_iff_forall_not_mem.2 this
    | succ fuel ih =>
      intro listed v w' hs hI hR1 hV hC hf
      refine ⟨fun hr => hend _ v w' hI (hdone listed hs hr) fun i hi => hR1 i (hdone listed hs hr i hi), fun i hi => ?_⟩
      rw [mem_ready] at hi
      obtain ⟨h1, o, ho, hall⟩ := hi
      have hil : i < l.length := by
        have := (Array.getElem?_eq_some_iff.1 ho).1
        simpa using this
      have hol : l[i]? = some o := by simpa using ho
      have hs' : i < listed.size := by omega
      have hif : listed.getD i false = false := by
        simp only [Array.getD_eq_getD_getElem?, Array.getElem?_eq_getElem hs', Option.getD_some] at h1 ⊢
        exact h1
      have hst := hstep i o hol _ v w' hI hif (fun e he hb => ⟨hall e he hb, hR1 e.on (hall e he hb)⟩) hC
      have hK : ∀ x w'', (Grow w' w'' ∧ R i x w'' ∧ S (fun j => if j = i then true else listed.getD j false) w'') → wpAny P .any l.toArray Q fuel (listed.setIfInBounds i true) ((regFrame l v a).put o.dst x) w'' := by
        rintro x w'' ⟨hg, hr, hS⟩
        rw [← regFrame_upd l v a i o x honce hol]
        have hgd : ∀ j, (listed.setIfInBounds i true).getD j false = if j = i then true else listed.getD j false := by
          intro j
          by_cases hji : j = i
          · subst hji; simp [Array.getD_eq_getD_getElem?, hs']
          · rw [if_neg hji]; simp [Array.getD_eq_getD_getElem?, Array.getElem?_setIfInBounds_ne (Ne.symm hji)]
        refine ih _ _ w'' (by simpa using hs) (by simpa only [hgd] using hS) ?_ ?_ ?_ ?_
        · intro j hj
          rw [hgd] at hj
          by_cases hji : j = i
          · subst hji; simpa using hr
          · simp only [if_neg hji] at hj ⊢
            exact hR j _ _ _ hg (hR1 j hj)
        · intro j o' hj hjf
          rw [hgd] at hjf
          by_cases hji : j = i
          · simp [hji] at hjf
          · simp only [if_neg hji] at hjf ⊢
            exact hV j o' hj hjf
        · intro j o' hj hjt e he hb
          rw [hgd] at hjt ⊢
          by_cases hei : e.on = i
          · simp [hei]
          · rw [if_neg hei]
            by_cases hji : j = i
            · subst hji
              have : o' = o := by rw [hj] at hol; exact Option.some.inj hol
              subst this
              exact hall e he hb
            · rw [if_neg hji] at hjt
              exact hC j o' hj hjt e he hb
        · have hlen : ((listed.setIfInBounds i true).toList.filter (· == false)).length + 1 ≤ (listed.toList.filter (· == false)).length := by
            rw [Array.toList_setIfInBounds]
            have hx : listed.toList[i]? = some false := by
              have := h1
              simp only [Array.getD_eq_getD_getElem?, Array.getElem?_eq_getElem hs', Option.getD_some] at this
              simp [hs', this]
            exact filter_set _ i hx
          omega
      unfold wpOp
      rw [ho]
      have h2 := hst _ hK
      simp only
      split
      · rename_i hw
        rw [if_pos hw] at h2
        exact .inl h2
      · rename_i hw
        rw [if_neg hw] at h2
        exact h2
  have hst : regFrame l (fun i => slotOf a ((l[i]?).bind (·.dst))) a = a := by
    unfold regFrame
    refine regFrame_start l 0 a (fun i => slotOf a ((l[i]?).bind (·.dst))) honce fun i o hi => ?_
    simp [hi]
  have := key l.length (Array.replicate l.length false) (fun i => slotOf a ((l[i]?).bind (·.dst))) w.drew (by simp) (by
    have e : (fun i => (Array.replicate l.length false).getD i false) = fun _ => false := by
      funext i
      simp only [Array.getD_eq_getD_getElem?, Array.getElem?_replicate]
      split <;> rfl
    rw [e]
    exact h0) (by
    intro i hi
    simp [Array.getD_eq_getD_getElem?, Array.getElem?_replicate] at hi
    split at hi <;> simp at hi) (by
    intro i o hi _
    simp [hi]) (by
    intro j o _ hj
    simp [Array.getD_eq_getD_getElem?, Array.getElem?_replicate] at hj
    split at hj <;> simp at hj) (by simp)
  rw [hst] at this
  simpa using this


/-- The same, the frame written out by the prover's own hand: G. What is kept (S) may hang on which operations were carried out (D). -/
theorem wp_region_st {id : Nat} {l : List Oper} {a : Act} {w : World} (S : (Nat → Bool) → World → Prop) (Grow : World → World → Prop) (R : Nat → Value → World → Prop)
    (G : (Nat → Value) → Act) (hG : ∀ v, regFrame l v a = G v) (hm : P.follows .mixedOrders = true) (honce : onceB l = true) (hlow : lowerB l = true)
    (hR : ∀ i x w w', Grow w w' → R i x w → R i x w')
    (h0 : S (fun _ => false) w.drew)
    (hstep : AllOps (fun i o => ∀ D v w', S D w' → D i = false → Deps (fun j => D j = true ∧ R j (v j) w') o.after.toList →
      (∀ j o', l[j]? = some o' → D j = true → Deps (fun j => D j = true) o'.after.toList) →
      opDoes P l o Q (G v) w' fun x w'' => Grow w' w'' ∧ R i x w'' ∧ S (fun j => if j = i then true else D j) w'') l 0)
    (hend : ∀ D v w', S D w' → AllOps (fun i _ => D i = true ∧ R i (v i) w') l 0 → Q .normal (G v) w') :
    (Code.region id l.toArray true).wp P Q a w :=
  wp_region_st0 hm honce hlow S Grow R hR h0 (fun i o hi D v w' hI hf hd hc => by
    rw [hG]
    have := hstep.get i o hi
    simp only [Nat.zero_add] at this
    exact this D v w' hI hf (Deps.of fun e he hb => hd e (by simpa using he) hb) (fun j o' hj hd => Deps.of fun e he hb => hc j o' hj hd e (by simpa using he) hb)) (fun D v w' hI hd h => by rw [hG]; exact hend D v w' hI (AllOps.of (l := l) (F := fun i _ => D i = true ∧ R i (v i) w') 0 fun i _ hi => by simpa using ⟨hd i hi, h i hi⟩))

/-- Operation j waits for operation i, through others. -/
def waitsB (l : List Oper) : Nat → Nat → Nat → Bool
  | 0, j, i => j == i
  | f + 1, j, i => j == i || (match l[j]? with | some o => o.after.toList.any fun e => Region.binds .any e && waitsB l f e.on i | none => false)
theorem Deps.get {F : Nat → Prop} : ∀ {l : List Edge}, Deps F l → ∀ e ∈ l, Region.binds .any e = true → F e.on
  | [], _, e, he, _ => by cases he
  | e :: l, h, e', he, hb => by
    cases he with
    | head => have := h.1; rwa [if_pos hb] at this
    | tail _ he => exact Deps.get h.2 e' he hb
theorem done_of {l : List Oper} {D : Nat → Bool} (hc : ∀ j o', l[j]? = some o' → D j = true → Deps (fun j => D j = true) o'.after.toList) : ∀ (f : Nat) {j : Nat} (i : Nat), D j = true → waitsB l f j i = true → D i = true
  | 0, j, i, hj, h => by
    have : j = i := by simpa [waitsB] using h
    exact this ▸ hj
  | f + 1, j, i, hj, h => by
    unfold waitsB at h
    rw [Bool.or_eq_true] at h
    rcases h with h | h
    · have : j = i := by simpa using h
      exact this ▸ hj
    · split at h
      · rename_i o ho
        obtain ⟨e, he, hb⟩ := List.any_eq_true.1 h
        rw [Bool.and_eq_true] at hb
        exact done_of hc f i (Deps.get (hc j o ho hj) e he hb.1) hb.2
      · cases h
end
section
variable {P : Program} {Q : Exit → Act → World → Prop} {l : List Oper} {o : Oper} {a : Act} {w : World} {T : Value → World → Prop}
theorem opDoes_gcall (f : FuncId) (xs : Array Operand) (ats : Array TypeId) (args : Array Value) (hw : Region.wanted o (yielded l.toArray a.tmps) = true) (ho : o.op = .call { callee := .value (.func f), args := xs, argTypes := ats })
    (ha : xs.map a.eval = args) (hf : (callFunc f args).run P w = .ok (.enter f args) w) (h : Calls P f args w fun e w' => ∃ x, e = .returned x ∧ T x w') : opDoes P l o Q a w T :=
  opDoes_want hw fun K hK => by
    obtain ⟨dst, op, type, pos, after, guard⟩ := o
    simp only at ho
    subst ho
    unfold Oper.wp
    rw [execOp_call_go]
    simp only [Array.empty_append, Array.append_empty, ha, hf, Oper.upon_enter]
    refine h.mono fun e w' hx => ?_
    obtain ⟨x, rfl, hT⟩ := hx
    exact hK _ _ hT
end
end Go.Proofs.Ythbanhedjfpmaaa
