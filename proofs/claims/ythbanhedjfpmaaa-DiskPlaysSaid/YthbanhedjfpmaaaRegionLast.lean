/-
  A rule for a region that draws its order, of calls and operations that only make memory, and one store behind all of them.
-/
import Derived.Test.YthbanhedjfpmaaaRegionSv
namespace Go.Proofs.Ythbanhedjfpmaaa
set_option linter.unusedSimpArgs false
set_option linter.unusedVariables false
open Go

/-- The last operation waits for all others. -/
def allWaitB (l : List Oper) : Bool := (List.range (l.length - 1)).all fun i => waitsB l l.length (l.length - 1) i

section
variable {P : Program} {Q : Exit → Act → World → Prop}

theorem AllOps.of' {F : Nat → Oper → Prop} : ∀ {l : List Oper} (k : Nat), (∀ i o, l[i]? = some o → F (k + i) o) → AllOps F l k
  | [], _, _ => trivial
  | o :: l, k, h => ⟨h 0 o (by simp), AllOps.of' (k + 1) fun i p hi => by
      have := h (i + 1) p (by simpa using hi)
      rwa [show k + (i + 1) = k + 1 + i from by omega] at this⟩

theorem wp_region_last {id : Nat} {l : List Oper} {a : Act} {w : World} (R : Nat → Value → World → Prop) (W : World → Prop) (Gr : World → World → Prop) (n : Nat) (o : Oper)
    (G : (Nat → Value) → Act) (hG : ∀ v, regFrame l v a = G v) (hm : P.follows .mixedOrders = true) (honce : onceB l = true) (hlow : lowerB l = true) (hall : allWaitB l = true)
    (hn : l.length = n + 1) (ho : l[n]? = some o) (hog : o.guard = none) (hod : o.dst = none)
    (hR : ∀ i x w w', Gr w w' → R i x w → R i x w')
    (hW : ∀ w w', W w → Gr w w' → W w')
    (h0 : W w.drew)
    (hstep : AllOps (fun i o => ∀ v w', W w' → Deps (fun j => R j (v j) w') o.after.toList →
      opDoes P l o Q (G v) w' fun x w'' => Gr w' w'' ∧ R i x w'') (l.take n) 0)
    (hend : ∀ v w', W w' → AllOps (fun i _ => R i (v i) w') (l.take n) 0 →
      ∃ w'', (execOp (G v).eval o).run P w' = .ok .skip w'' ∧ Q .normal (G v) w'') :
    (Code.region id l.toArray true).wp P Q a w := by
  have hwait : ∀ i, i < n → waitsB l (n + 1) n i = true := by
    intro i hi
    have h1 : ∀ i ∈ List.range (l.length - 1), waitsB l l.length (l.length - 1) i = true := List.all_eq_true.1 hall
    have := h1 i (by rw [List.mem_range]; omega)
    rwa [hn] at this
  refine wp_region_sv0 hm honce hlow (fun D v w' => (D n = false → W w' ∧ ∀ i, D i = true → R i (v i) w') ∧ (D n = true → Q .normal (regFrame l v a) w')) (fun _ _ => True) (fun _ _ _ => True) (fun _ _ _ _ _ _ => trivial)
    (fun v => ⟨fun _ => ⟨h0, fun i h => by simp at h⟩, fun h => by simp at h⟩) (fun i p hi D v w' hS hf hd hc => ?_) (fun D v w' hS hD _ => hS.2 (hD n (by omega)))
  have hc' : ∀ j o', l[j]? = some o' → D j = true → Deps (fun j => D j = true) o'.after.toList := fun j o' h1 h2 => Deps.of fun e he hb => hc j o' h1 h2 e (by simpa using he) hb
  have hil : i < l.length := (List.getElem?_eq_some_iff.1 hi).1
  by_cases hin : i = n
  · subst hin
    obtain rfl : p = o := by rw [hi] at ho; exact Option.some.inj ho
    obtain ⟨hW1, hR1⟩ := hS.1 hf
    have hdone : ∀ j, j < i → D j = true := by
      intro j hj
      have h1 := hwait j hj
      unfold waitsB at h1
      rw [Bool.or_eq_true] at h1
      rcases h1 with h1 | h1
      · have : i = j := by simpa using h1
        omega
      · rw [hi] at h1
        obtain ⟨e, he, hb⟩ := List.any_eq_true.1 h1
        rw [Bool.and_eq_true] at hb
        exact done_of hc' i j (hd e (by simpa using he) hb.1).1 hb.2
    obtain ⟨w'', hrun, hq⟩ := hend v w' hW1 (AllOps.of' 0 fun j q hj => by
      have hjn : j < i := by
        have := (List.getElem?_eq_some_iff.1 hj).1
        rw [List.length_take] at this
        omega
      simpa using hR1 j (hdone j hjn))
    intro K hK
    rw [if_pos (by simp [Region.wanted, hog])]
    unfold Oper.wp
    rw [hG, hrun]
    have := hK undef w'' ⟨trivial, trivial, fun h => by simp at h, fun _ => ?_⟩
    · rwa [hG] at this
    · rw [regFrame_upd l v a i p undef honce hi, hod]
      show Q .normal (regFrame l v a) w''
      rw [hG]
      exact hq
  · have hfn : D n = false := by
      cases h : D n with
      | false => rfl
      | true =>
        have := done_of hc' (n + 1) i h (hwait i (by omega))
        rw [hf] at this
        cases this
    obtain ⟨hW1, hR1⟩ := hS.1 hfn
    have hst := hstep.get i p (by rw [List.getElem?_take_of_lt (by omega)]; exact hi)
    simp only [Nat.zero_add] at hst
    rw [hG]
    refine fun K hK => hst v w' hW1 (Deps.of fun e he hb => hR1 _ (hd e (by simpa using he) hb).1) K fun x w'' ⟨hg, hr⟩ => hK x w'' ⟨trivial, trivial, fun _ => ⟨hW _ _ hW1 hg, fun j hj => ?_⟩, fun h => ?_⟩
    · by_cases hji : j = i
      · subst hji; simpa using hr
      · simp only [if_neg hji] at hj ⊢
        exact hR j _ _ _ hg (hR1 j hj)
    · have h' : (if n = i then true else D n) = true := h
      rw [if_neg (fun e => hin e.symm), hfn] at h'
      cases h'
/-- The same, of a last operation that has a value. -/
theorem wp_region_lastv {id : Nat} {l : List Oper} {a : Act} {w : World} (R : Nat → Value → World → Prop) (W : World → Prop) (Gr : World → World → Prop) (n : Nat) (o : Oper)
    (G : (Nat → Value) → Act) (hG : ∀ v, regFrame l v a = G v) (hm : P.follows .mixedOrders = true) (honce : onceB l = true) (hlow : lowerB l = true) (hall : allWaitB l = true)
    (hn : l.length = n + 1) (ho : l[n]? = some o) (hog : o.guard = none)
    (hR : ∀ i x w w', Gr w w' → R i x w → R i x w')
    (hW : ∀ w w', W w → Gr w w' → W w')
    (h0 : W w.drew)
    (hstep : AllOps (fun i o => ∀ v w', W w' → Deps (fun j => R j (v j) w') o.after.toList →
      opDoes P l o Q (G v) w' fun x w'' => Gr w' w'' ∧ R i x w'') (l.take n) 0)
    (hend : ∀ v w', W w' → AllOps (fun i _ => R i (v i) w') (l.take n) 0 →
      ∃ x w'', (execOp (G v).eval o).run P w' = .ok (.value x) w'' ∧ Q .normal ((G v).put o.dst x) w'') :
    (Code.region id l.toArray true).wp P Q a w := by
  have hwait : ∀ i, i < n → waitsB l (n + 1) n i = true := by
    intro i hi
    have h1 : ∀ i ∈ List.range (l.length - 1), waitsB l l.length (l.length - 1) i = true := List.all_eq_true.1 hall
    have := h1 i (by rw [List.mem_range]; omega)
    rwa [hn] at this
  refine wp_region_sv0 hm honce hlow (fun D v w' => (D n = false → W w' ∧ ∀ i, D i = true → R i (v i) w') ∧ (D n = true → Q .normal (regFrame l v a) w')) (fun _ _ => True) (fun _ _ _ => True) (fun _ _ _ _ _ _ => trivial)
    (fun v => ⟨fun _ => ⟨h0, fun i h => by simp at h⟩, fun h => by simp at h⟩) (fun i p hi D v w' hS hf hd hc => ?_) (fun D v w' hS hD _ => hS.2 (hD n (by omega)))
  have hc' : ∀ j o', l[j]? = some o' → D j = true → Deps (fun j => D j = true) o'.after.toList := fun j o' h1 h2 => Deps.of fun e he hb => hc j o' h1 h2 e (by simpa using he) hb
  have hil : i < l.length := (List.getElem?_eq_some_iff.1 hi).1
  by_cases hin : i = n
  · subst hin
    obtain rfl : p = o := by rw [hi] at ho; exact Option.some.inj ho
    obtain ⟨hW1, hR1⟩ := hS.1 hf
    have hdone : ∀ j, j < i → D j = true := by
      intro j hj
      have h1 := hwait j hj
      unfold waitsB at h1
      rw [Bool.or_eq_true] at h1
      rcases h1 with h1 | h1
      · have : i = j := by simpa using h1
        omega
      · rw [hi] at h1
        obtain ⟨e, he, hb⟩ := List.any_eq_true.1 h1
        rw [Bool.and_eq_true] at hb
        exact done_of hc' i j (hd e (by simpa using he) hb.1).1 hb.2
    obtain ⟨x, w'', hrun, hq⟩ := hend v w' hW1 (AllOps.of' 0 fun j q hj => by
      have hjn : j < i := by
        have := (List.getElem?_eq_some_iff.1 hj).1
        rw [List.length_take] at this
        omega
      simpa using hR1 j (hdone j hjn))
    intro K hK
    rw [if_pos (by simp [Region.wanted, hog])]
    unfold Oper.wp
    rw [hG, hrun]
    have := hK x w'' ⟨trivial, trivial, fun h => by simp at h, fun _ => ?_⟩
    · rwa [hG] at this
    · rw [regFrame_upd l v a i p x honce hi, hG]
      exact hq
  · have hfn : D n = false := by
      cases h : D n with
      | false => rfl
      | true =>
        have := done_of hc' (n + 1) i h (hwait i (by omega))
        rw [hf] at this
        cases this
    obtain ⟨hW1, hR1⟩ := hS.1 hfn
    have hst := hstep.get i p (by rw [List.getElem?_take_of_lt (by omega)]; exact hi)
    simp only [Nat.zero_add] at hst
    rw [hG]
    refine fun K hK => hst v w' hW1 (Deps.of fun e he hb => hR1 _ (hd e (by simpa using he) hb).1) K fun x w'' ⟨hg, hr⟩ => hK x w'' ⟨trivial, trivial, fun _ => ⟨hW _ _ hW1 hg, fun j hj => ?_⟩, fun h => ?_⟩
    · by_cases hji : j = i
      · subst hji; simpa using hr
      · simp only [if_neg hji] at hj ⊢
        exact hR j _ _ _ hg (hR1 j hj)
    · have h' : (if n = i then true else D n) = true := h
      rw [if_neg (fun e => hin e.symm), hfn] at h'
      cases h'
end
end Go.Proofs.Ythbanhedjfpmaaa
