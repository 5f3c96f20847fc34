/-
  Blocks of known cells: what is known of new ones, of one cell, of a store.
-/
import Derived.Test.YthbanhedjfpmaaaElems
import Derived.Laws.ResultCell
namespace Go.Proofs.Ythbanhedjfpmaaa
set_option linter.unusedSimpArgs false
set_option linter.unusedVariables false
open Go.RowKit

/-- Block g has just these cells, none frozen. -/
def Blk (w : World) (g : Nat) (t : TypeId) (cs : List Value) : Prop := w.heap[g]? = some (.cells cs.toArray t (0, 0))
section
variable {w w' : World} {g : Nat} {t : TypeId} {cs : List Value}
theorem Blk.lt (h : Blk w g t cs) : g < w.heap.size := (Array.getElem?_eq_some_iff.1 h).1
theorem Blk.below (h : Blk w g t cs) (hb : Below w.heap.size w w') : Blk w' g t cs := (hb.block _ h.lt).trans h
theorem Blk.grown {row : Option Nat} (h : Blk w g t cs) (hb : w.grownBy w' row) (hne : some g ≠ row) : Blk w' g t cs := (hb.block _ h.lt hne).trans h
theorem Blk.cell (h : Blk w g t cs) (i : Nat) : w.cell? ⟨g, i, none⟩ = cs[i]? := by
  have := cell_of_row w g i _ _ _ h
  simpa using this
theorem Blk.free (h : Blk w g t cs) (i : Nat) : w.frozen? ⟨g, i, none⟩ = false := frozen_of_row w _ i _ _ h
theorem Blk.set (h : Blk w g t cs) (i : Nat) (u : Value) : Blk (w.setCell ⟨g, i, none⟩ u) g t (cs.set i u) := by
  have := heap_setCell_same w g i cs.toArray t u h
  simpa [Blk] using this
theorem Blk.other (h : Blk w g t cs) (p : Addr) (hne : g ≠ p.block) (u : Value) : Blk (w.setCell p u) g t cs := (heap_setCell_other w p g u hne).trans h
theorem Blk.alloc (h : Blk w g t cs) (o : Obj) : Blk (w.alloc o) g t cs := h.below ((Below.refl _ _).alloc (Nat.le_refl _) o)
theorem Blk.new (w : World) (cs : Array Value) (t : TypeId) : Blk (w.alloc (.cells cs t)) w.heap.size t cs.toList := by
  show (w.heap.push _)[w.heap.size]? = _
  rw [Array.getElem?_push_size]
theorem Blk.drew (h : Blk w g t cs) : Blk w.drew g t cs := h
/-- One block of one, two .. cells: all that a walk asks of it. -/
theorem Blk.c1 {a : Value} (h : Blk w g t [a]) : w.cell? ⟨g, 0, none⟩ = some a ∧ w.frozen? ⟨g, 0, none⟩ = false ∧ g < w.heap.size := ⟨h.cell 0, h.free 0, h.lt⟩
theorem Blk.c2 {a b : Value} (h : Blk w g t [a, b]) : w.cell? ⟨g, 0, none⟩ = some a ∧ w.cell? ⟨g, 1, none⟩ = some b ∧ w.frozen? ⟨g, 0, none⟩ = false ∧ w.frozen? ⟨g, 1, none⟩ = false ∧ g < w.heap.size :=
  ⟨h.cell 0, h.cell 1, h.free 0, h.free 1, h.lt⟩
theorem Blk.c3 {a b c : Value} (h : Blk w g t [a, b, c]) : w.cell? ⟨g, 0, none⟩ = some a ∧ w.cell? ⟨g, 1, none⟩ = some b ∧ w.cell? ⟨g, 2, none⟩ = some c ∧ w.frozen? ⟨g, 0, none⟩ = false ∧ w.frozen? ⟨g, 1, none⟩ = false ∧ w.frozen? ⟨g, 2, none⟩ = false ∧ g < w.heap.size :=
  ⟨h.cell 0, h.cell 1, h.cell 2, h.free 0, h.free 1, h.free 2, h.lt⟩
theorem Blk.c4 {a b c d : Value} (h : Blk w g t [a, b, c, d]) : w.cell? ⟨g, 0, none⟩ = some a ∧ w.cell? ⟨g, 1, none⟩ = some b ∧ w.cell? ⟨g, 2, none⟩ = some c ∧ w.cell? ⟨g, 3, none⟩ = some d ∧
    w.frozen? ⟨g, 0, none⟩ = false ∧ w.frozen? ⟨g, 1, none⟩ = false ∧ w.frozen? ⟨g, 2, none⟩ = false ∧ w.frozen? ⟨g, 3, none⟩ = false ∧ g < w.heap.size :=
  ⟨h.cell 0, h.cell 1, h.cell 2, h.cell 3, h.free 0, h.free 1, h.free 2, h.free 3, h.lt⟩
theorem Blk.c5 {a b c d e : Value} (h : Blk w g t [a, b, c, d, e]) : w.cell? ⟨g, 0, none⟩ = some a ∧ w.cell? ⟨g, 1, none⟩ = some b ∧ w.cell? ⟨g, 2, none⟩ = some c ∧ w.cell? ⟨g, 3, none⟩ = some d ∧ w.cell? ⟨g, 4, none⟩ = some e ∧
    w.frozen? ⟨g, 0, none⟩ = false ∧ w.frozen? ⟨g, 1, none⟩ = false ∧ w.frozen? ⟨g, 2, none⟩ = false ∧ w.frozen? ⟨g, 3, none⟩ = false ∧ w.frozen? ⟨g, 4, none⟩ = false ∧ g < w.heap.size :=
  ⟨h.cell 0, h.cell 1, h.cell 2, h.cell 3, h.cell 4, h.free 0, h.free 1, h.free 2, h.free 3, h.free 4, h.lt⟩

theorem Blk.set0 {a u : Value} {r : List Value} (h : Blk w g t (a :: r)) : Blk (w.setCell ⟨g, 0, none⟩ u) g t (u :: r) := h.set 0 u
theorem Blk.set1 {a b u : Value} {r : List Value} (h : Blk w g t (a :: b :: r)) : Blk (w.setCell ⟨g, 1, none⟩ u) g t (a :: u :: r) := h.set 1 u
theorem Blk.set2 {a b c u : Value} {r : List Value} (h : Blk w g t (a :: b :: c :: r)) : Blk (w.setCell ⟨g, 2, none⟩ u) g t (a :: b :: u :: r) := h.set 2 u
theorem Blk.set3 {a b c d u : Value} {r : List Value} (h : Blk w g t (a :: b :: c :: d :: r)) : Blk (w.setCell ⟨g, 3, none⟩ u) g t (a :: b :: c :: u :: r) := h.set 3 u
theorem Blk.all2 {a b u v : Value} (h : Blk w g t [a, b]) : Blk ((w.setCell ⟨g, 0, none⟩ u).setCell ⟨g, 1, none⟩ v) g t [u, v] := h.set0.set1
theorem Blk.all3 {a b c u v x : Value} (h : Blk w g t [a, b, c]) : Blk (((w.setCell ⟨g, 0, none⟩ u).setCell ⟨g, 1, none⟩ v).setCell ⟨g, 2, none⟩ x) g t [u, v, x] := h.set0.set1.set2
theorem Blk.all4 {a b c d u v x y : Value} (h : Blk w g t [a, b, c, d]) : Blk ((((w.setCell ⟨g, 0, none⟩ u).setCell ⟨g, 1, none⟩ v).setCell ⟨g, 2, none⟩ x).setCell ⟨g, 3, none⟩ y) g t [u, v, x, y] := h.set0.set1.set2.set3
end

/-- Returns of functions whose first result lies in memory. -/
theorem ret_mem1 {P : Program} {fn : Func} {R : Ending → World → Prop} {a : Act} {w : World} {p : Tmp} {T : TypeId} {x : Addr} {v : Value} (h : fn.results = #[.cell p T]) (hd : a.defers = [])
    (hp : a.tmps.getD p undef = .pointer (some x)) (hv : (loadVar T x).run P w = .ok v w) (hR : R (.returned v) w) : bodyPost P fn R .ret a w := by
  refine bodyPost_ret (v := v) ?_ hd hR
  have e : (results fn a.tmps).run P w = ((asAddr (a.tmps.getD p undef)).run P w).andThen fun b w1 => (loadVar T b).run P w1 := by
    simp only [results, h]
    simp [Sem.run_bind]
  rw [e, hp]
  show ((loadVar T x).run P w) = _
  exact hv
theorem ret_mem2 {P : Program} {fn : Func} {R : Ending → World → Prop} {a : Act} {w : World} {p u : Tmp} {T : TypeId} {x : Addr} {v y : Value} (h : fn.results = #[.cell p T, .tmp u]) (hd : a.defers = [])
    (hp : a.tmps.getD p undef = .pointer (some x)) (hu : a.tmps.getD u undef = y) (hv : (loadVar T x).run P w = .ok v w) (hR : R (.returned (.tuple #[v, y])) w) : bodyPost P fn R .ret a w := by
  refine bodyPost_ret (v := .tuple #[v, y]) ?_ hd hR
  have e : (results fn a.tmps).run P w = ((asAddr (a.tmps.getD p undef)).run P w).andThen fun b w1 => ((loadVar T b).run P w1).andThen fun v w2 => .ok (.tuple #[v, a.tmps.getD u undef]) w2 := by
    simp only [results, h]
    simp [Sem.run_bind, Result.andThen]
  rw [e, hp, hu]
  show (((loadVar T x).run P w).andThen _) = _
  rw [hv]
  rfl
theorem ret_mem3 {P : Program} {fn : Func} {R : Ending → World → Prop} {a : Act} {w : World} {p u u' : Tmp} {T : TypeId} {x : Addr} {v y y' : Value} (h : fn.results = #[.cell p T, .tmp u, .tmp u']) (hd : a.defers = [])
    (hp : a.tmps.getD p undef = .pointer (some x)) (hu : a.tmps.getD u undef = y) (hu' : a.tmps.getD u' undef = y') (hv : (loadVar T x).run P w = .ok v w) (hR : R (.returned (.tuple #[v, y, y'])) w) : bodyPost P fn R .ret a w := by
  refine bodyPost_ret (v := .tuple #[v, y, y']) ?_ hd hR
  have e : (results fn a.tmps).run P w = ((asAddr (a.tmps.getD p undef)).run P w).andThen fun b w1 => ((loadVar T b).run P w1).andThen fun v w2 => .ok (.tuple #[v, a.tmps.getD u undef, a.tmps.getD u' undef]) w2 := by
    simp only [results, h]
    simp [Sem.run_bind, Result.andThen]
  rw [e, hp, hu, hu']
  show (((loadVar T x).run P w).andThen _) = _
  rw [hv]
  rfl

/-- New blocks, behind each other. -/
theorem fresh1 {w W : World} {a : List Value} {t : TypeId} (h : w.alloc (.cells a.toArray t) = W) : Blk W w.heap.size t a ∧ w.heap.size + 1 ≤ W.heap.size ∧ Below w.heap.size w W := by
  subst h
  exact ⟨Blk.new _ _ _, by simp, (Below.refl _ _).alloc (Nat.le_refl _) _⟩
theorem fresh2 {w W : World} {a b : List Value} {t u : TypeId} (h : (w.alloc (.cells a.toArray t)).alloc (.cells b.toArray u) = W) : Blk W w.heap.size t a ∧ Blk W (w.heap.size + 1) u b ∧ w.heap.size + 2 ≤ W.heap.size ∧ Below w.heap.size w W := by
  have h2 : (w.alloc (.cells a.toArray t)).heap.size = w.heap.size + 1 := by simp
  obtain ⟨h1, _, h3⟩ := fresh1 (rfl : w.alloc (.cells a.toArray t) = _)
  obtain ⟨k1, k2, k3⟩ := fresh1 h
  rw [h2] at k1
  exact ⟨h1.below k3, k1, by omega, h3.trans (k3.mono (by omega))⟩
theorem fresh3 {w W : World} {a b c : List Value} {t u v : TypeId} (h : ((w.alloc (.cells a.toArray t)).alloc (.cells b.toArray u)).alloc (.cells c.toArray v) = W) : Blk W w.heap.size t a ∧ Blk W (w.heap.size + 1) u b ∧ Blk W (w.heap.size + 1 + 1) v c ∧
    w.heap.size + 3 ≤ W.heap.size ∧ Below w.heap.size w W := by
  have h3 : ((w.alloc (.cells a.toArray t)).alloc (.cells b.toArray u)).heap.size = w.heap.size + 1 + 1 := by simp
  obtain ⟨h1, h2, _, h4⟩ := fresh2 (rfl : (w.alloc (.cells a.toArray t)).alloc (.cells b.toArray u) = _)
  obtain ⟨k1, k2, k3⟩ := fresh1 h
  rw [h3] at k1
  exact ⟨h1.below k3, h2.below k3, k1, by omega, h4.trans (k3.mono (by omega))⟩
theorem fresh4 {w W : World} {a b c d : List Value} {t u v x : TypeId} (h : (((w.alloc (.cells a.toArray t)).alloc (.cells b.toArray u)).alloc (.cells c.toArray v)).alloc (.cells d.toArray x) = W) : Blk W w.heap.size t a ∧ Blk W (w.heap.size + 1) u b ∧ Blk W (w.heap.size + 1 + 1) v c ∧ Blk W (w.heap.size + 1 + 1 + 1) x d ∧
    w.heap.size + 4 ≤ W.heap.size ∧ Below w.heap.size w W := by
  have h4 : (((w.alloc (.cells a.toArray t)).alloc (.cells b.toArray u)).alloc (.cells c.toArray v)).heap.size = w.heap.size + 1 + 1 + 1 := by simp
  obtain ⟨h1, h2, h3, _, h5⟩ := fresh3 (rfl : ((w.alloc (.cells a.toArray t)).alloc (.cells b.toArray u)).alloc (.cells c.toArray v) = _)
  obtain ⟨k1, k2, k3⟩ := fresh1 h
  rw [h4] at k1
  exact ⟨h1.below k3, h2.below k3, h3.below k3, k1, by omega, h5.trans (k3.mono (by omega))⟩
/-- An owned row in a literal's block. -/
theorem Blk.own {α : Type} (E : Elem α) {w : World} {g B : Nat} {cs : List Value} (h : Blk w g E.e cs) (L : List α) (hcs : cs = E.cells L) (hL : L.length ≤ maxLen) (hB : B ≤ g) : EOwn E w B (some ⟨g, 0, none⟩) L.length L := by
  subst hcs
  have hl := E.cells_length L
  exact ⟨hl, .inr ⟨g, L.length, _, rfl, hB, h, Nat.le_refl _, hL, by simpa using hl, by rw [List.take_of_length_le (by simp [hl])]⟩⟩
theorem Blk.row {α : Type} (E : Elem α) {w : World} {g : Nat} {cs : List Value} (h : Blk w g E.e cs) (L : List α) (hcs : cs = E.cells L) (hL : L.length ≤ maxLen) : ERow E w (some ⟨g, 0, none⟩) L := (h.own E (B := 0) L hcs hL (Nat.zero_le _)).row
end Go.Proofs.Ythbanhedjfpmaaa
