/-
  A rule for a region that draws its order, with any number of stores: what the world keeps hangs on which operations were carried out and on their values.
-/
import Derived.Test.YthbanhedjfpmaaaRegionBlk
namespace Go.Proofs.Ythbanhedjfpmaaa
set_option linter.unusedSimpArgs false
set_option linter.unusedVariables false
open Go Go.RowKit

section
variable {P : Program} {Q : Exit → Act → World → Prop}
theorem wp_region_many {id : Nat} {l : List Oper} {a : Act} {w : World} (S : (Nat → Bool) → (Nat → Value) → World → Prop) (R : Nat → Value → World → Prop) (Gr : World → World → Prop)
    (G : (Nat → Value) → Act) (hG : ∀ v, regFrame l v a = G v) (hm : P.follows .mixedOrders = true) (honce : onceB l = true) (hlow : lowerB l = true)
    (hR : ∀ i x w w', Gr w w' → R i x w → R i x w')
    (h0 : ∀ v, S (fun _ => false) v w.drew)
    (hstep : AllOps (fun i o => ∀ D v w', S D v w' → (∀ j, waitsB l l.length j i = true → D j = false) → Deps (fun j => D j = true ∧ R j (v j) w') o.after.toList →
      opDoes P l o Q (G v) w' fun x w'' => Gr w' w'' ∧ R i x w'' ∧ S (fun j => if j = i then true else D j) (fun j => if j = i then x else v j) w'') l 0)
    (hend : ∀ D v w', S D v w' → (∀ i, i < l.length → D i = true) → AllOps (fun i _ => R i (v i) w') l 0 → Q .normal (G v) w') :
    (Code.region id l.toArray true).wp P Q a w := by
  refine wp_region_sv0 hm honce hlow (fun D v w' => S D v w' ∧ ∀ i, D i = true → R i (v i) w') (fun _ _ => True) (fun _ _ _ => True) (fun _ _ _ _ _ _ => trivial)
    (fun v => ⟨h0 v, fun i h => by simp at h⟩) (fun i p hi D v w' hS hf hd hc => ?_) (fun D v w' hS hD _ => by
      rw [hG]
      exact hend D v w' hS.1 hD (AllOps.of' 0 fun i q hi => by simpa using hS.2 i (hD i (List.getElem?_eq_some_iff.1 hi).1)))
  obtain ⟨hS, hRs⟩ := hS
  have hc' : ∀ j o', l[j]? = some o' → D j = true → Deps (fun j => D j = true) o'.after.toList := fun j o' h1 h2 => Deps.of fun e he hb => hc j o' h1 h2 e (by simpa using he) hb
  have hdep : Deps (fun j => D j = true ∧ R j (v j) w') p.after.toList := Deps.of fun e he hb => ⟨(hd e (by simpa using he) hb).1, hRs _ (hd e (by simpa using he) hb).1⟩
  rw [hG]
  have hst := hstep.get i p hi
  simp only [Nat.zero_add] at hst
  refine fun K hK => hst D v w' hS (fun j hj => ?_) hdep K fun x w'' ⟨hg, hr, hs⟩ => hK x w'' ⟨trivial, trivial, hs, fun j hj => ?_⟩
  · cases hDj : D j with
    | false => rfl
    | true =>
      have := done_of hc' l.length i hDj hj
      rw [hf] at this
      cases this
  · by_cases hji : j = i
    · subst hji; simpa using hr
    · simp only [if_neg hji] at hj ⊢
      exact hR j _ _ _ hg (hRs j hj)
end
end Go.Proofs.Ythbanhedjfpmaaa
