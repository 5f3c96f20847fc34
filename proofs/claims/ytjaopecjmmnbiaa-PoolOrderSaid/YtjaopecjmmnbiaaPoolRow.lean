/-
  Rows of the pool's frames (three cells each), of the call's own; append to them; slices.Grow and slices.Concat of them.
-/
import Derived.Test.YtjaopecjmmnbiaaPoolFns
import Derived.Lib.AppendZeros
namespace Go.Proofs.Ytjaopecjmmnbiaa
open Go.RowKit

theorem infoFr : (Try.prog.info? 65).map (fun i => (i.zero, i.size, i.bytes)) = some (some (.agg #[.int .i64 0, .bool false, .slice none 0 0]), 3, 40) := by kernel_rfl

/-- All frames' cells. -/
def frCells (L : List Fr) : List Value := L.flatMap Fr.cells
/-- The slice at A, of room c, owns the frames L, among the blocks from B on. -/
def FOwn (w : World) (B : Nat) (A : Option Addr) (c : Nat) (L : List Fr) : Prop := w.ownsRow B 65 3 (.slice A L.length c) L.length (frCells L)

theorem frCells_length (L : List Fr) : (frCells L).length = L.length * 3 := by
  induction L with
  | nil => rfl
  | cons f L ih =>
    show (Fr.cells f ++ frCells L).length = _
    rw [List.length_append, ih]
    simp [Fr.cells]
    omega
theorem frCells_append (L M : List Fr) : frCells (L ++ M) = frCells L ++ frCells M := by simp [frCells]
theorem frCells_one (L : List Fr) : ∀ u ∈ frCells L, u.oneCell' = true := by
  intro u hu
  obtain ⟨f, _, hf⟩ := List.mem_flatMap.1 hu
  simp [Fr.cells] at hf
  rcases hf with rfl | rfl | rfl <;> rfl
theorem frCells_get : ∀ (L : List Fr) (j : Nat) (h : j < L.length), (frCells L)[j * 3]? = some (.int .i64 L[j].page) ∧ (frCells L)[j * 3 + 1]? = some (.bool L[j].mark) ∧ (frCells L)[j * 3 + 2]? = some (.slice L[j].A L[j].s.length L[j].c)
  | [], j, h => by simp at h
  | f :: L, 0, h => by simp [frCells, Fr.cells]
  | f :: L, j + 1, h => by
    have ih := frCells_get L j (by simpa using h)
    have e : frCells (f :: L) = Fr.cells f ++ frCells L := rfl
    have e3 : (Fr.cells f).length = 3 := rfl
    rw [e, List.getElem?_append_right (by omega), List.getElem?_append_right (by omega), List.getElem?_append_right (by omega), e3]
    rw [show (j + 1) * 3 - 3 = j * 3 from by omega, show (j + 1) * 3 + 1 - 3 = j * 3 + 1 from by omega, show (j + 1) * 3 + 2 - 3 = j * 3 + 2 from by omega]
    simpa using ih

section
variable {w w' : World} {B c : Nat} {A : Option Addr} {L M : List Fr}
theorem FOwn.row (h : FOwn w B A c L) : FRow w A L := by
  intro hl
  rcases h.2 with ⟨hv, h0⟩ | ⟨g, cap, cur, hv, hb, hg, hn, hm, hx⟩
  · omega
  · simp only [Value.slice.injEq] at hv
    obtain ⟨rfl, _, rfl⟩ := hv
    refine ⟨g, 0, rfl, (Array.getElem?_eq_some_iff.1 hg).1, fun j hj => ?_⟩
    have hc := World.ownsRow.cells h (g := g) rfl
    obtain ⟨h0, h1, h2⟩ := frCells_get L j hj
    have e0 := hc _ _ h0
    have e1 := hc _ _ h1
    have e2 := hc _ _ h2
    rw [Addr.add_lit] at e0 e1 e2
    exact ⟨e0, e1, e2⟩
theorem FOwn.nil (w : World) (B : Nat) : FOwn w B none 0 [] := World.ownsRow_nil _ _ _ _
theorem FOwn.below (h : FOwn w B A c L) (hb : Below w.heap.size w w') : FOwn w' B A c L := by
  refine World.ownsRow.kept (row := none) h ⟨hb.os, hb.tape, hb.output, hb.size, fun k hk _ => hb.block k hk⟩ ?_
  cases h2 : Value.ownBlock (.slice A L.length c) <;> simp
theorem FOwn.alloc (h : FOwn w B A c L) (o : Obj) : FOwn (w.alloc o) B A c L := World.ownsRow.alloc h o
theorem FOwn.new (w : World) (L : List Fr) (hm : L.length ≤ maxLen) (hB : B ≤ w.heap.size) : FOwn (w.alloc (.cells (frCells L).toArray 65)) B (some ⟨w.heap.size, 0, none⟩) L.length L := by
  have := World.ownsRow_lit (e := 65) (size := 3) w (frCells L).toArray L.length hB hm (by simpa using frCells_length L)
  simpa [FOwn] using this
theorem FOwn.below_grown (h : FOwn w B A c L) (hg : w.grownBy w' (A.map (·.block))) (hB : B ≤ w.heap.size) : Below B w w' :=
  (Below.refl B w).grown hg hB fun k hk => by
    have := (World.ownsRow.lt h k (by rw [own_block]; exact hk)).1
    exact this

theorem wpList_append_frames {A' : Option Addr} {c' : Nat} {ops : Array Oper} {rest : List Oper} {o : Oper} {a : Act} {Q : Exit → Act → World → Prop} (hgd : o.guard = none) (s x : Operand)
    (hop : o.op = .call { callee := .builtin .append, args := #[s, x], argTypes := #[60, 60] })
    (n : Nat) (hs : a.eval s = .slice A n c) (ho : FOwn w B A c L) (hn : n = L.length) (k : Nat) (hx : a.eval x = .slice A' k c') (hr : FRow w A' M) (hk : k = M.length)
    (hb : L.length + M.length ≤ 1000000) (hB : B ≤ w.heap.size)
    (h : ∀ A1 c1 w1, FOwn w1 B A1 c1 (L ++ M) → Below B w w1 → wpList Try.prog ops Q rest (a.put o.dst (.slice A1 (L.length + M.length) c1)) w1) : wpList Try.prog ops Q (o :: rest) a w := by
  subst hn hk
  obtain ⟨i, hi, hz, hsi, hby⟩ := info_parts infoFr
  have key : ∃ A1 c1 w1, (Builtin.append_ #[60, 60] o.type #[.slice A L.length c, .slice A' M.length c']).run Try.prog w = .ok (.slice A1 (L.length + M.length) c1) w1 ∧ FOwn w1 B A1 c1 (L ++ M) ∧ w.grownBy w1 (A.map (·.block)) := by
    rcases A' with _ | ad
    · have hm : M = [] := by
        cases M with
        | nil => rfl
        | cons x M => obtain ⟨b, o, h, _⟩ := hr (by simp); cases h
      subst hm
      refine ⟨A, c, w, ?_, by simpa using ho, World.grownBy.refl w _⟩
      exact run_append_of_none (P := Try.prog) w B 60 o.type 65 i 3 Try.underlying60 hi _ _ _ ho c'
    · have hcells : ∀ j u, (frCells M)[j]? = some u → w.cell? (ad.add j) = some u := by
        intro j u hu
        have hj := (List.getElem?_eq_some_iff.1 hu).1
        rw [frCells_length] at hj
        obtain ⟨b, o, h, _, hc⟩ := hr (by omega)
        obtain rfl := Option.some.inj h
        rw [Addr.add_lit]
        have hd : j / 3 < M.length := by omega
        obtain ⟨g0, g1, g2⟩ := frCells_get M (j / 3) hd
        obtain ⟨k0, k1, k2⟩ := hc (j / 3) hd
        rcases (show j = j / 3 * 3 ∨ j = j / 3 * 3 + 1 ∨ j = j / 3 * 3 + 2 from by omega) with e | e | e
        · rw [e] at hu ⊢
          rw [g0] at hu
          rw [k0, hu]
        · rw [e] at hu ⊢
          rw [g1] at hu
          rw [← Nat.add_assoc, k1, hu]
        · rw [e] at hu ⊢
          rw [g2] at hu
          rw [← Nat.add_assoc, k2, hu]
      obtain ⟨v', w', hrun, h2, h3, _, _⟩ := run_append_own_at (P := Try.prog) w B 60 o.type 65 i _ 3 40 Try.underlying60 hi hz hsi hby rfl (by omega) _ _ _ ho ad M.length c' (frCells M)
        (frCells_length M) hcells (frCells_one M) (by simp [maxLen]; omega) (by omega) hB
      obtain ⟨A1, c1, rfl⟩ := own_slice h2
      refine ⟨A1, c1, w', hrun, ?_, by simpa [own_block] using h3⟩
      unfold FOwn
      rw [frCells_append, List.length_append]
      exact h2
  obtain ⟨A1, c1, w1, hrun, h2, h3⟩ := key
  refine Lib.wpList_append_run w hgd s x _ _ hop _ _ hs hx _ _ hrun ?_
  exact h A1 c1 w1 h2 (ho.below_grown h3 hB)
end
end Go.Proofs.Ytjaopecjmmnbiaa
