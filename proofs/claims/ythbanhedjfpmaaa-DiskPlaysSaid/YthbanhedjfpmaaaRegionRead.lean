/-
  A rule for a region that draws its order and only reads.
-/
import Derived.Test.YthbanhedjfpmaaaRegionBlk
namespace Go.Proofs.Ythbanhedjfpmaaa
set_option linter.unusedSimpArgs false
set_option linter.unusedVariables false
open Go Go.RowKit

section
variable {P : Program} {Q : Exit → Act → World → Prop}
theorem wp_region_read {id : Nat} {l : List Oper} {a : Act} {w : World} (R : Nat → Value → Prop)
    (G : (Nat → Value) → Act) (hG : ∀ v, regFrame l v a = G v) (hm : P.follows .mixedOrders = true) (honce : onceB l = true) (hlow : lowerB l = true)
    (hstep : AllOps (fun i o => ∀ v, Deps (fun j => R j (v j)) o.after.toList → opDoes P l o Q (G v) w.drew fun x w'' => w'' = w.drew ∧ R i x) l 0)
    (hend : ∀ v, AllOps (fun i _ => R i (v i)) l 0 → Q .normal (G v) w.drew) : (Code.region id l.toArray true).wp P Q a w := by
  refine wp_region_rel (Inv := fun w' => w' = w.drew) (Grow := fun w1 w2 => w2 = w1) (R := fun i x _ => R i x) G hG hm honce hlow (fun w1 w2 h e => e.trans h) (fun _ _ _ _ _ _ h => h) rfl ?_ (fun v w' e h => by subst e; exact hend v h)
  refine AllOps.of' 0 fun i o hi => ?_
  intro v w' e hd _
  subst e
  have := hstep.get i o hi
  simp only [Nat.zero_add] at this ⊢
  exact this v hd
end
theorem below_drew (w : World) : Below w.heap.size w w.drew := ⟨rfl, rfl, rfl, Nat.le_refl _, fun _ _ => rfl⟩
end Go.Proofs.Ythbanhedjfpmaaa
