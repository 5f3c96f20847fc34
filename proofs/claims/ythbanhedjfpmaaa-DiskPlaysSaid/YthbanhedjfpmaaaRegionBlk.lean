/-
  A rule for a region that draws its order, of calls and operations that only make memory, and one store that fills a block anew.
-/
import Derived.Test.YthbanhedjfpmaaaRegionLast
import Derived.Test.YthbanhedjfpmaaaBlocks
namespace Go.Proofs.Ythbanhedjfpmaaa
set_option linter.unusedSimpArgs false
set_option linter.unusedVariables false
open Go Go.RowKit

theorem grown_of_below {w w' : World} (h : Below w.heap.size w w') (r : Option Nat) : w.grownBy w' r := ⟨h.os, h.tape, h.output, h.size, fun k hk _ => h.block k hk⟩
theorem grown_then {a b c : World} {r : Option Nat} (h : a.grownBy b r) (k : b.grownBy c r) : a.grownBy c r :=
  ⟨k.os.trans h.os, k.tape.trans h.tape, k.output.trans h.output, Nat.le_trans h.size k.size, fun i hi hn => (k.block i (Nat.lt_of_lt_of_le hi h.size) hn).trans (h.block i hi hn)⟩
theorem _root_.Go.World.grownBy.trans' {a b c : World} {r : Option Nat} (h : a.grownBy b r) (k : b.grownBy c r) : a.grownBy c r := grown_then h k
theorem grown_store (w : World) (g i : Nat) (u : Value) : w.grownBy (w.setCell ⟨g, i, none⟩ u) (some g) :=
  ⟨rfl, rfl, rfl, by simp, fun k _ hn => heap_setCell_other w ⟨g, i, none⟩ k u (fun e => hn (by rw [e]))⟩
theorem _root_.Go.World.grownBy.set_ {w w' : World} {g : Nat} (h : w.grownBy w' (some g)) (p : Addr) (hp : p.block = g) (u : Value) : w.grownBy (w'.setCell p u) (some g) :=
  ⟨h.os, h.tape, h.output, by simpa using h.size, fun k hk hn => (heap_setCell_other w' p k u (fun e => hn (by rw [e, hp]))).trans (h.block k hk hn)⟩

section
variable {P : Program} {Q : Exit → Act → World → Prop}
theorem wp_region_blk {id : Nat} {l : List Oper} {a : Act} {w : World} (g : Nat) (T : TypeId) (pre : List Value) (post : Value → List Value) (s c : Nat) (o : Oper) (R : Nat → Value → World → Prop)
    (G : (Nat → Value) → Act) (hG : ∀ v, regFrame l v a = G v) (hm : P.follows .mixedOrders = true) (honce : onceB l = true) (hlow : lowerB l = true)
    (hs : s < l.length) (ho : l[s]? = some o) (hog : o.guard = none) (hod : o.dst = none) (hsc : waitsB l l.length s c = true) (hne : c ≠ s)
    (hR : ∀ i x w w', w.grownBy w' (some g) → R i x w → R i x w')
    (h0 : Blk w g T pre)
    (hstep : AllOps (fun i o => i ≠ s → ∀ v w', w.grownBy w' (some g) → Deps (fun j => R j (v j) w') o.after.toList →
      opDoes P l o Q (G v) w' fun x w'' => Below w'.heap.size w' w'' ∧ R i x w'') l 0)
    (hstore : ∀ v w', w.grownBy w' (some g) → Blk w' g T pre → R c (v c) w' → Deps (fun j => R j (v j) w') o.after.toList →
      ∃ w'', (execOp (G v).eval o).run P w' = .ok .skip w'' ∧ w'.grownBy w'' (some g) ∧ Blk w'' g T (post (v c)) ∧ R s undef w'')
    (hend : ∀ v w', w.grownBy w' (some g) → Blk w' g T (post (v c)) → AllOps (fun i _ => R i (v i) w') l 0 → Q .normal (G v) w') :
    (Code.region id l.toArray true).wp P Q a w := by
  refine wp_region_sv0 hm honce hlow (fun D v w' => w.grownBy w' (some g) ∧ (D s = false → Blk w' g T pre) ∧ (D s = true → Blk w' g T (post (v c))) ∧ ∀ i, D i = true → R i (v i) w') (fun w w' => True) (fun _ _ _ => True) (fun _ _ _ _ _ _ => trivial)
    (fun v => ⟨⟨rfl, rfl, rfl, Nat.le_refl _, fun _ _ _ => rfl⟩, fun _ => h0, fun h => by simp at h, fun i h => by simp at h⟩) (fun i p hi D v w' hS hf hd hc => ?_) (fun D v w' hS hD _ => by
      rw [hG]
      exact hend v w' hS.1 (hS.2.2.1 (hD s hs)) (AllOps.of' 0 fun i q hi => by simpa using hS.2.2.2 i (hD i (List.getElem?_eq_some_iff.1 hi).1)))
  obtain ⟨hg, hpre, hpost, hRs⟩ := hS
  have hc' : ∀ j o', l[j]? = some o' → D j = true → Deps (fun j => D j = true) o'.after.toList := fun j o' h1 h2 => Deps.of fun e he hb => hc j o' h1 h2 e (by simpa using he) hb
  have hdep : Deps (fun j => R j (v j) w') p.after.toList := Deps.of fun e he hb => hRs _ (hd e (by simpa using he) hb).1
  rw [hG]
  by_cases his : i = s
  · subst his
    obtain rfl : p = o := by rw [hi] at ho; exact Option.some.inj ho
    have hcd : D c = true := by
      obtain ⟨n, hn⟩ : ∃ n, l.length = n + 1 := ⟨l.length - 1, by omega⟩
      have h1 := hsc
      rw [hn] at h1
      unfold waitsB at h1
      rw [Bool.or_eq_true] at h1
      rcases h1 with h1 | h1
      · have : i = c := by simpa using h1
        exact absurd this.symm hne
      · rw [hi] at h1
        obtain ⟨e, he, hb⟩ := List.any_eq_true.1 h1
        rw [Bool.and_eq_true] at hb
        exact done_of hc' n c (hd e (by simpa using he) hb.1).1 hb.2
    obtain ⟨w'', hrun, hgw, hbl, hru⟩ := hstore v w' hg (hpre hf) (hRs c hcd) hdep
    intro K hK
    rw [if_pos (by simp [Region.wanted, hog])]
    unfold Oper.wp
    rw [hrun]
    refine hK undef w'' ⟨trivial, trivial, grown_then hg hgw, fun h => by simp at h, fun _ => ?_, fun j hj => ?_⟩
    · simp only [if_neg hne]
      exact hbl
    · by_cases hji : j = i
      · subst hji; simpa using hru
      · simp only [if_neg hji] at hj ⊢
        exact hR j _ _ _ hgw (hRs j hj)
  · have hst := hstep.get i p hi
    simp only [Nat.zero_add] at hst
    refine fun K hK => hst his v w' hg hdep K fun x w'' ⟨hb, hr⟩ => hK x w'' ⟨trivial, trivial, grown_then hg (grown_of_below hb _), fun h => ?_, fun h => ?_, fun j hj => ?_⟩
    · have h' : (if s = i then true else D s) = false := h
      rw [if_neg (fun e => his e.symm)] at h'
      exact (hpre h').below hb
    · have h' : (if s = i then true else D s) = true := h
      rw [if_neg (fun e => his e.symm)] at h'
      have hci : c ≠ i := by
        rintro rfl
        have hd' := done_of hc' l.length c h' hsc
        rw [hf] at hd'
        cases hd'
      simp only [if_neg hci]
      exact (hpost h').below hb
    · by_cases hji : j = i
      · subst hji; simpa using hr
      · simp only [if_neg hji] at hj ⊢
        exact hR j _ _ _ (grown_of_below hb _) (hRs j hj)
end
end Go.Proofs.Ythbanhedjfpmaaa
