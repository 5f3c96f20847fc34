/-
  More on rows and blocks: what is never the same block; a row that is stored one cell at a time.
-/
import Derived.Test.YthbanhedjfpmaaaBuild
import Derived.Test.YthbanhedjfpmaaaPlan
namespace Go.Proofs.Ythbanhedjfpmaaa
set_option linter.unusedSimpArgs false
set_option linter.unusedVariables false
open Go.RowKit

theorem EOwn.ne_blk {α : Type} {E : Elem α} {w : World} {B c g : Nat} {A : Option Addr} {L : List α} {T : TypeId} {cs : List Value} (h : EOwn E w B A c L) (hb : Blk w g T cs) (hT : T ≠ E.e) : ∀ a, A = some a → a.block ≠ g := by
  rintro a ha rfl
  rcases h.form with ⟨rfl, _⟩ | ⟨g', rfl, _, _, _, _, cur, hg⟩
  · cases ha
  · obtain rfl := Option.some.inj ha
    rw [hb] at hg
    simp at hg
    exact hT hg.2
theorem map_block_ne {A : Option Addr} {g : Nat} (h : ∀ a, A = some a → a.block ≠ g) : some g ≠ A.map (·.block) := by
  cases A with
  | none => simp
  | some a => simpa using fun e => h a rfl e.symm
/-- A call that returns a new row. -/
def RetRow {α : Type} (E : Elem α) (w : World) (L : List α) (e : Ending) (w' : World) : Prop := ∃ A c, e = .returned (.slice A L.length c) ∧ EOwn E w' w.heap.size A c L ∧ Below w.heap.size w w'
theorem Below.alloc1 (w : World) (o : Obj) : Below w.heap.size w (w.alloc o) := (Below.refl _ _).alloc (Nat.le_refl _) o
theorem _root_.Go.RowKit.Below.drewR {B : Nat} {w W : World} (h : Below B w W) : Below B w W.drew := ⟨h.os, h.tape, h.output, h.size, h.block⟩
theorem _root_.Go.RowKit.Below.then {w w1 w2 : World} (h : Below w.heap.size w w1) (k : Below w1.heap.size w1 w2) : Below w.heap.size w w2 := h.trans (k.mono h.size)
/-- A result of five cells that was stored in memory. -/
theorem ret_set5 {P : Program} {fn : Func} {R : Ending → World → Prop} {a : Act} {w : World} {p : Tmp} {T : TypeId} {g : Nat} {old : List Value} {u v x y z : Value} (hb : Blk w g T old) (hl : old.length = 5) (h : fn.results = #[.cell p T]) (hd : a.defers = [])
    (hp : a.tmps.getD p undef = .pointer (some ⟨g, 0, none⟩)) (hload : ∀ W : World, Blk W g T [u, v, x, y, z] → (loadVar T ⟨g, 0, none⟩).run P W = .ok (.agg #[u, v, x, y, z]) W)
    (hR : ∀ W, Blk W g T [u, v, x, y, z] → w.grownBy W (some g) → R (.returned (.agg #[u, v, x, y, z])) W) :
    bodyPost P fn R .ret a (((((w.setCell ⟨g, 0, none⟩ u).setCell ⟨g, 1, none⟩ v).setCell ⟨g, 2, none⟩ x).setCell ⟨g, 3, none⟩ y).setCell ⟨g, 4, none⟩ z) := by
  have hW : Blk (((((w.setCell ⟨g, 0, none⟩ u).setCell ⟨g, 1, none⟩ v).setCell ⟨g, 2, none⟩ x).setCell ⟨g, 3, none⟩ y).setCell ⟨g, 4, none⟩ z) g T [u, v, x, y, z] := hb.setAll [u, v, x, y, z] (by rw [hl]; rfl)
  have hg : w.grownBy (((((w.setCell ⟨g, 0, none⟩ u).setCell ⟨g, 1, none⟩ v).setCell ⟨g, 2, none⟩ x).setCell ⟨g, 3, none⟩ y).setCell ⟨g, 4, none⟩ z) (some g) := grown_setCells w g 0 [u, v, x, y, z]
  exact ret_mem1 h hd hp (hload _ hW) (hR _ hW hg)
theorem ret_set5n {P : Program} {fn : Func} {R : Ending → World → Prop} {a : Act} {w : World} {p q : Tmp} {T : TypeId} {g : Nat} {old : List Value} {u v x y z r : Value} (hb : Blk w g T old) (hl : old.length = 5) (h : fn.results = #[.cell p T, .tmp q]) (hd : a.defers = [])
    (hp : a.tmps.getD p undef = .pointer (some ⟨g, 0, none⟩)) (hq : a.tmps.getD q undef = r) (hload : ∀ W : World, Blk W g T [u, v, x, y, z] → (loadVar T ⟨g, 0, none⟩).run P W = .ok (.agg #[u, v, x, y, z]) W)
    (hR : ∀ W, Blk W g T [u, v, x, y, z] → w.grownBy W (some g) → R (.returned (.tuple #[.agg #[u, v, x, y, z], r])) W) :
    bodyPost P fn R .ret a (((((w.setCell ⟨g, 0, none⟩ u).setCell ⟨g, 1, none⟩ v).setCell ⟨g, 2, none⟩ x).setCell ⟨g, 3, none⟩ y).setCell ⟨g, 4, none⟩ z) := by
  have hW : Blk (((((w.setCell ⟨g, 0, none⟩ u).setCell ⟨g, 1, none⟩ v).setCell ⟨g, 2, none⟩ x).setCell ⟨g, 3, none⟩ y).setCell ⟨g, 4, none⟩ z) g T [u, v, x, y, z] := hb.setAll [u, v, x, y, z] (by rw [hl]; rfl)
  have hg : w.grownBy (((((w.setCell ⟨g, 0, none⟩ u).setCell ⟨g, 1, none⟩ v).setCell ⟨g, 2, none⟩ x).setCell ⟨g, 3, none⟩ y).setCell ⟨g, 4, none⟩ z) (some g) := grown_setCells w g 0 [u, v, x, y, z]
  exact ret_mem2 h hd hp hq (hload _ hW) (hR _ hW hg)
theorem below_of_grown {B : Nat} {w0 w w' : World} {g : Nat} (h : Below B w0 w) (hg : w.grownBy w' (some g)) (hB : B ≤ g) (hs : B ≤ w.heap.size) : Below B w0 w' :=
  h.grown hg hs fun k hk => by obtain rfl := Option.some.inj hk; exact hB
theorem EOwn.keptG {α : Type} {E : Elem α} {w w' : World} {B c g : Nat} {A : Option Addr} {L : List α} {T : TypeId} {cs : List Value} (h : EOwn E w B A c L) (hb : Blk w g T cs) (hT : T ≠ E.e) (hg : w.grownBy w' (some g)) : EOwn E w' B A c L :=
  h.kept hg (.inr (fun e => map_block_ne (h.ne_blk hb hT) e.symm))
/-- A row that was there before block g. -/
theorem ERow.keptG {α : Type} {E : Elem α} {w0 w w' : World} {A : Option Addr} {L : List α} {g : Nat} (h : ERow E w0 A L) (hb : Below w0.heap.size w0 w) (hg : w.grownBy w' (some g)) (hlt : w0.heap.size ≤ g) : ERow E w' A L :=
  h.below (below_of_grown hb hg hlt hb.size)
/-! Texts that are cut and joined -/
theorem cut_head (l : List UInt8) (n : Nat) : (ByteArray.mk l.toArray).extract 0 n = ⟨(l.take n).toArray⟩ := by
  apply ByteArray.ext
  simp
theorem cut_end (l : List UInt8) (k : Nat) : (ByteArray.mk l.toArray).extract k l.length = ⟨(l.drop k).toArray⟩ := by
  apply ByteArray.ext
  simp
  exact List.take_of_length_le (by simp)
theorem cut_join (l m : List UInt8) : ByteArray.mk l.toArray ++ ByteArray.mk m.toArray = ⟨(l ++ m).toArray⟩ := by
  apply ByteArray.ext
  simp
/-- A row and a block of other values are apart. -/
theorem ERow.keptV {α : Type} {E : Elem α} {w w' : World} {A : Option Addr} {L : List α} {g : Nat} {T : TypeId} {cs : List Value} (h : ERow E w A L) (hb : Blk w g T cs) (k : Nat) (hv : ∀ x, ∃ v, (E.code x)[k]? = some v ∧ v ∉ cs) (hg : w.grownBy w' (some g)) : ERow E w' A L := by
  cases L with
  | nil => exact ERow.nil
  | cons y L =>
    refine h.keep hg.size fun a ha hlt => hg.block _ hlt ?_
    simp only [ne_eq, Option.some.injEq]
    intro e
    obtain ⟨b, o, e2, _, hc⟩ := h.at_ (j := 0) (by simp)
    rw [ha] at e2
    obtain rfl := Option.some.inj e2
    simp only at e
    subst e
    obtain ⟨v, hv1, hv2⟩ := hv y
    have h1 := hc k v hv1
    rw [hb.cell] at h1
    exact hv2 (List.mem_of_getElem? h1)
/-- A row that does not lie in a block of S. -/
def RowX {α : Type} (S : Nat → Prop) (E : Elem α) (w : World) (A : Option Addr) (L : List α) : Prop := ERow E w A L ∧ (L ≠ [] → ∀ a, A = some a → ¬ S a.block)
section
variable {α : Type} {S : Nat → Prop} {E : Elem α} {w w' w0 : World} {A : Option Addr} {L : List α} {g : Nat}
theorem RowX.nil : RowX S E w A ([] : List α) := ⟨ERow.nil, fun h => absurd rfl h⟩
theorem RowX.below (h : RowX S E w A L) (hb : Below w.heap.size w w') : RowX S E w' A L := ⟨h.1.below hb, h.2⟩
theorem RowX.own {B c : Nat} (h : EOwn E w B A c L) (hS : ∀ i, S i → i < B) : RowX S E w A L := ⟨h.row, fun _ a ha hs => by have := (h.block a ha).1; have := hS _ hs; omega⟩
theorem RowX.keptG (h : RowX S E w0 A L) (hb : Below w0.heap.size w0 w) (hg : w.grownBy w' (some g)) (hlt : w0.heap.size ≤ g) : RowX S E w' A L := ⟨h.1.keptG hb hg hlt, h.2⟩
theorem RowX.keptV {T : TypeId} {cs : List Value} (h : RowX S E w A L) (hb : Blk w g T cs) (k : Nat) (hv : ∀ x, ∃ v, (E.code x)[k]? = some v ∧ v ∉ cs) (hg : w.grownBy w' (some g)) : RowX S E w' A L := ⟨h.1.keptV hb k hv hg, h.2⟩
theorem RowX.kept (h : RowX S E w A L) (hk : Keeps w w' S) : RowX S E w' A L := ⟨h.1.kept hk h.2, h.2⟩
/-- A cell is stored that held no part of such an element. -/
theorem ERow.setCellV (h : ERow E w A L) {p : Addr} {v u : Value} (hc : w.cell? p = some v) (hv : ∀ x, v ∉ E.code x) : ERow E (w.setCell p u) A L := fun hl => by
  obtain ⟨b, o, e, hb, hcell⟩ := h hl
  refine ⟨b, o, e, by simpa using hb, fun j x hx => ?_⟩
  have h1 := hcell j x hx
  rw [World.cell?_setCell_other w p ⟨b, o + j, none⟩ u ?_]
  · exact h1
  · intro e2
    rw [← e2] at h1
    rw [hc] at h1
    obtain rfl := Option.some.inj h1
    have := List.mem_of_getElem? hx
    obtain ⟨y, -, hy⟩ := List.mem_flatMap.1 this
    exact hv y hy
theorem RowX.setCellV (h : RowX S E w A L) {p : Addr} {v u : Value} (hc : w.cell? p = some v) (hv : ∀ x, v ∉ E.code x) : RowX S E (w.setCell p u) A L := ⟨h.1.setCellV hc hv, h.2⟩
end
end Go.Proofs.Ythbanhedjfpmaaa
