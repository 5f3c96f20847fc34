/-
  The contracts of disk's Read, Up, Plan, and of the methods of a nil disk.
-/
import Derived.Test.YthbanhedjfpmaaaDisk0
import Derived.Test.YthbanhedjfpmaaaClone
namespace Go.Proofs.Ythbanhedjfpmaaa
set_option linter.unusedSimpArgs false
set_option linter.unusedVariables false
open Go.RowKit

section
variable {w w' : World} {B : Nat} {k : KB} {d : DS}
theorem DiskAt.row_now (h : DiskAt w B k d) {i : Nat} (hi : i < d.blocks.length) : BRow w (some ⟨k.gb, i * 1024, none⟩) d.blocks[i].now.l := by
  obtain ⟨⟨cb, np, cp, nf, cf, Ap, Af, _, _, _, _, _, _, h7, _⟩, lo⟩ := h
  intro hl
  refine ⟨k.gb, i * 1024, rfl, (h7.block _ rfl).2, fun j hj => ?_⟩
  have := h7.cell (j := i) (k := j) hi (v := (d.blocks[i].now.l.map bv)[j]) (by
    show (d.blocks[i].now.v ++ d.blocks[i].sure.v)[j]? = _
    rw [List.getElem?_append_left (by simpa [B512.v] using hj)]
    exact List.getElem?_eq_getElem hj)
  exact this
end
set_option maxRecDepth 20000 in
set_option maxHeartbeats 1000000 in
theorem read_bad (w : World) (B : Nat) (k : KB) (d : DS) (h : DiskAt w B k d) (i : Int) (hw : d.why i ≠ 0) :
    Calls Try.prog 21 #[.pointer (some ⟨k.gd, 0, none⟩), .int .i64 i] w fun e w' => e = .returned (.tuple #[.slice none 0 0, .int .i64 (d.why i)]) ∧ w = w' := by
  have HH := Lib.hid (has_any w B k d h i)
  have hb : (d.why i != 0) = true := by simpa using hw
  generalize d.why i = e at HH hb hw ⊢
  clear h hw
  go_enter Try.func21, Try.ntmps21
  go_wp2_with fail
  refine HH.out.mono ?_
  rintro e1 w1 ⟨rfl, rfl⟩
  go_wp2_with fail
  go_ret2
  exact ⟨rfl, rfl⟩
set_option maxRecDepth 20000 in
set_option maxHeartbeats 1000000 in
theorem read_ok (w : World) (B : Nat) (k : KB) (d : DS) (h : DiskAt w B k d) (i : Nat) (hi : i < d.blocks.length) (hd : d.down = false) :
    Calls Try.prog 21 #[.pointer (some ⟨k.gd, 0, none⟩), .int .i64 i] w fun e w' => ∃ A c, e = .returned (.tuple #[.slice A 512 c, .int .i64 0]) ∧ BOwn w' w.heap.size A c d.blocks[i].now.l ∧ Below w.heap.size w w' := by
  have hwhy : d.why i = 0 := by unfold DS.why; rw [if_neg (by simp [hd]), if_neg (by omega)]
  have HH := Lib.hid (has_any w B k d h i)
  rw [hwhy] at HH
  have HC := Lib.hid (clone_any w (some ⟨k.gb, i * 1024, none⟩) 512 d.blocks[i].now.l (h.row_now hi) (by rw [d.blocks[i].now.h]; decide))
  rw [d.blocks[i].now.h] at HC
  obtain ⟨cb, cp, cf, Ap, Af, hc⟩ := h.open_
  have hii : (i : Int) < (d.blocks.length : Int) := by omega
  clear h hwhy hd
  go_enter Try.func21, Try.ntmps21
  go_wp2_with fail
  refine HH.out.mono ?_
  rintro e1 w1 ⟨rfl, rfl⟩
  go_wp2_with fail
  refine HC.out.mono ?_
  rintro e w1 ⟨A1, c1, rfl, ho1, hb1⟩
  have HF := Lib.hid (And.intro ho1 hb1)
  clear ho1 hb1
  rw [d.blocks[i].now.h]
  go_wp2_with fail
  go_ret2
  exact ⟨A1, c1, rfl, HF.out⟩

/-- A disk's head is stored anew, but for its blocks' row. -/
theorem DiskAt.head {w : World} {B : Nat} {k : KB} {d : DS} (h : DiskAt w B k d) : k.gd ≠ k.gb ∧ k.gd < w.heap.size ∧ k.gb < w.heap.size ∧ B ≤ k.gb := by
  obtain ⟨⟨cb, np, cp, nf, cf, Ap, Af, _, _, _, _, _, h6, h7, _⟩, lo⟩ := h
  refine ⟨fun e => ?_, h6.lt, (h7.block _ rfl).2, (h7.block _ rfl).1⟩
  rcases h7.form with ⟨h, _⟩ | ⟨g, hg, _, _, _, _, cur, hh⟩
  · cases h
  · obtain rfl : k.gb = g := (Addr.mk.inj (Option.some.inj hg)).1
    rw [← e] at hh
    rw [h6] at hh
    simp at hh
    exact absurd hh.2 (by decide)
set_option maxRecDepth 20000 in
set_option maxHeartbeats 1000000 in
theorem up_any (w : World) (B : Nat) (k : KB) (d : DS) (h : DiskAt w B k d) :
    Calls Try.prog 20 #[.pointer (some ⟨k.gd, 0, none⟩)] w fun e w' => e = .returned (.bool d.down) ∧ DiskAt w' B k { d with down := false } ∧ w.grownBy w' (some k.gd) := by
  obtain ⟨hne, hlt, hlt2, hB⟩ := h.head
  cases hd : d.down with
  | false =>
    have HH := Lib.hid h
    obtain ⟨cb, cp, cf, Ap, Af, hc⟩ := h.open_
    rw [hd] at hc
    have HD := Lib.hid hd
    clear h hd
    go_enter Try.func20, Try.ntmps20
    go_wp2_with fail
    go_ret
    refine ⟨rfl, ?_, World.grownBy.refl _ _⟩
    have e : { d with down := false } = d := by cases d; simp only at HD; rw [HD.out]
    rw [e]; exact HH.out
  | true =>
    obtain ⟨⟨cb, np, cp, nf, cf, Ap, Af, rfl, rfl, h3, h4, h5, h6, h7, h8, h9, h10, h11⟩, lo⟩ := h
    rw [hd] at h6
    have hc := h6.c5
    have HS := Lib.hid (And.intro h6 (And.intro h7 (And.intro h8 h9)))
    clear hd h6 h7 h8 h9
    go_enter Try.func20, Try.ntmps20
    go_wp2_with fail
    go_ret
    obtain ⟨h6, h7, h8, h9⟩ := HS.out
    refine ⟨rfl, ⟨⟨cb, _, cp, _, cf, Ap, Af, rfl, rfl, h3, h4, h5, h6.set 4 (.bool false), ?_, ?_, ?_, h10, h11⟩, lo⟩, grown_store w k.gd 4 _⟩
    · exact h7.set _ (fun a ha => by obtain rfl := Option.some.inj ha; exact fun e => hne e.symm) _
    · exact h8.keep2 (by simp) (fun a ha _ => heap_setCell_other w ⟨k.gd, 4, none⟩ _ _ (fun e => h10 a ha (.inl e)))
    · exact h9.keep2 (by simp) (fun a ha _ => heap_setCell_other w ⟨k.gd, 4, none⟩ _ _ (fun e => h11 a ha (.inl e)))
end Go.Proofs.Ythbanhedjfpmaaa
