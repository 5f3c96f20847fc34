/-
  Stores to the pool's frames; the hand's way around them.
-/
import Derived.Test.YtjaopecjmmnbiaaPoolAt
namespace Go.Proofs.Ytjaopecjmmnbiaa
open Go.RowKit Go.Maps

theorem frCells_set : ∀ (L : List Fr) (j : Nat) (_ : j < L.length) (f : Fr), frCells (L.set j f) = (((frCells L).set (j * 3) (.int .i64 f.page)).set (j * 3 + 1) (.bool f.mark)).set (j * 3 + 2) (.slice f.A f.s.length f.c)
  | [], j, h, f => by simp at h
  | g :: L, 0, h, f => by simp [frCells, Fr.cells]
  | g :: L, j + 1, h, f => by
    have ih := frCells_set L j (by simpa using h) f
    have e : ∀ L, frCells (g :: L) = Value.int .i64 g.page :: Value.bool g.mark :: Value.slice g.A g.s.length g.c :: frCells L := fun _ => rfl
    rw [List.set_cons_succ, e, e, ih]
    rw [show (j + 1) * 3 = j * 3 + 1 + 1 + 1 from by omega, show j * 3 + 1 + 1 + 1 + 1 = (j * 3 + 1) + 1 + 1 + 1 from by omega, show j * 3 + 1 + 1 + 1 + 2 = (j * 3 + 2) + 1 + 1 + 1 from by omega]
    simp only [List.set_cons_succ]
theorem frCells_mark : ∀ (L : List Fr) (j : Nat) (h : j < L.length) (x : Bool), frCells (L.set j { L[j] with mark := x }) = (frCells L).set (j * 3 + 1) (.bool x)
  | [], j, h, x => by simp at h
  | g :: L, 0, h, x => by simp [frCells, Fr.cells]
  | g :: L, j + 1, h, x => by
    have ih := frCells_mark L j (by simpa using h) x
    have e : ∀ L, frCells (g :: L) = Value.int .i64 g.page :: Value.bool g.mark :: Value.slice g.A g.s.length g.c :: frCells L := fun _ => rfl
    simp only [List.getElem_cons_succ, List.set_cons_succ]
    rw [e, e, ih, show (j + 1) * 3 + 1 = (j * 3 + 1) + 1 + 1 + 1 from by omega]
    simp only [List.set_cons_succ]

section
variable {w : World} {B c gf : Nat} {L : List Fr}
theorem FOwn.cell (h : FOwn w B (some ⟨gf, 0, none⟩) c L) {j : Nat} (hj : j < L.length) :
    w.cell? ⟨gf, j * 3, none⟩ = some (.int .i64 L[j].page) ∧ w.cell? ⟨gf, j * 3 + 1, none⟩ = some (.bool L[j].mark) ∧ w.cell? ⟨gf, j * 3 + 2, none⟩ = some (.slice L[j].A L[j].s.length L[j].c) := by
  obtain ⟨g0, g1, g2⟩ := frCells_get L j hj
  exact ⟨(World.ownsRow.cellAt h _ (by omega)).trans g0, (World.ownsRow.cellAt h _ (by omega)).trans g1, (World.ownsRow.cellAt h _ (by omega)).trans g2⟩
theorem FOwn.free (h : FOwn w B (some ⟨gf, 0, none⟩) c L) (j : Nat) : w.frozen? ⟨gf, j, none⟩ = false := World.ownsRow.frozenAt h j
theorem FOwn.storeMark (h : FOwn w B (some ⟨gf, 0, none⟩) c L) {j : Nat} (hj : j < L.length) (x : Bool) : FOwn (w.setCell ⟨gf, j * 3 + 1, none⟩ (.bool x)) B (some ⟨gf, 0, none⟩) c (L.set j { L[j] with mark := x }) := by
  have := (World.ownsRow.stored h (j * 3 + 1) (.bool x)).1
  unfold FOwn
  rw [frCells_mark L j hj, List.length_set]
  exact this
theorem FOwn.storeAll (h : FOwn w B (some ⟨gf, 0, none⟩) c L) {j : Nat} (hj : j < L.length) (f : Fr) :
    FOwn (((w.setCell ⟨gf, j * 3, none⟩ (.int .i64 f.page)).setCell ⟨gf, j * 3 + 1, none⟩ (.bool f.mark)).setCell ⟨gf, j * 3 + 2, none⟩ (.slice f.A f.s.length f.c)) B (some ⟨gf, 0, none⟩) c (L.set j f) := by
  have h1 := (World.ownsRow.stored h (j * 3) (.int .i64 f.page)).1
  have h2 := (World.ownsRow.stored h1 (j * 3 + 1) (.bool f.mark)).1
  have h3 := (World.ownsRow.stored h2 (j * 3 + 2) (.slice f.A f.s.length f.c)).1
  unfold FOwn
  rw [frCells_set L j hj, List.length_set]
  exact h3
end

/-! The hand's way -/
def marked (L : List Fr) : Nat := (L.filter (·.mark)).length
def sweep : Nat → List Fr → Nat → Nat × List Fr × Nat
  | 0, L, h => (h, L, h)
  | f + 1, L, h => if hh : h < L.length then (if L[h].mark then sweep f (L.set h { L[h] with mark := false }) ((h + 1) % L.length) else (h, L, (h + 1) % L.length)) else (h, L, h)
theorem marked_set : ∀ (L : List Fr) (h : Nat) (hh : h < L.length), L[h].mark = true → marked (L.set h { L[h] with mark := false }) + 1 = marked L
  | [], h, hh, _ => by simp at hh
  | g :: L, 0, hh, hm => by
    simp only [List.getElem_cons_zero] at hm
    simp [marked, hm]
  | g :: L, h + 1, hh, hm => by
    have ih := marked_set L h (by simpa using hh) (by simpa using hm)
    unfold marked at ih ⊢
    simp only [List.getElem_cons_succ, List.set_cons_succ, List.filter_cons]
    by_cases hg : g.mark = true
    · rw [if_pos hg, if_pos hg, List.length_cons, List.length_cons]
      exact congrArg (· + 1) ih
    · rw [if_neg hg, if_neg hg]; exact ih
def PS.place (p : PS) : Nat × PS :=
  if 0 ≤ firstEmpty p.L 0 then ((firstEmpty p.L 0).toNat, p)
  else ((sweep (marked p.L + 1) p.L p.hand).1, { p with L := (sweep (marked p.L + 1) p.L p.hand).2.1, hand := (sweep (marked p.L + 1) p.L p.hand).2.2 })

theorem whereOf_mark (L : List Fr) (h : Nat) (hh : h < L.length) (x : Bool) : whereOf (L.set h { L[h] with mark := x }) = whereOf L := by
  funext k
  unfold whereOf
  split
  · have e : ∀ M : List Fr, M.findIdx? (fun f => f.page == k) = (M.map (·.page)).findIdx? (· == k) := fun M => by rw [List.findIdx?_map]; rfl
    rw [e, e, List.map_set]
    congr 1
    apply List.ext_getElem (by simp)
    intro i h1 h2
    rw [List.getElem_set]
    split
    · rename_i hi; subst hi; simp
    · rfl
  · rfl
end Go.Proofs.Ytjaopecjmmnbiaa
