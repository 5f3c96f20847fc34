/-
  The contract of dowserlaw01.lives.
-/
import Derived.Test.YtgdlfihiheeniaaWireRead
import Derived.Test.YtgdlfihiheeniaaWireRef
namespace Go.Proofs.Ytgdlfihiheeniaa
open Go.RowKit

theorem brow_new (w : World) (l : List UInt8) (C : Array Value) (h : C = (l.map bv).toArray) : BRow (w.alloc (.cells C 5)) (some ⟨w.heap.size, 0, none⟩) l := by
  subst h
  exact Row.new w (l.map bv) 5

set_option maxRecDepth 20000 in
set_option maxHeartbeats 1000000 in
theorem wlives_any (w : World) : Calls Try.prog 22 #[] w fun e w' => e = .returned (.bool true) ∧ Below w.heap.size w w' := by
  have e1 : Wire.take ⟨[172, 2, 2, 97, 98], 0⟩ = (⟨[2, 97, 98], 0⟩, 300) := by rfl
  have e2 : Wire.takeText ⟨[2, 97, 98], 0⟩ 5 = (⟨[], 0⟩, [97, 98]) := by rfl
  have e3 : Wire.fin ⟨[], 0⟩ = ⟨[], 0⟩ := rfl
  have e4 : Wire.num 300 = [172, 2] := by rfl
  have E1 := Lib.hid e1
  have E2 := Lib.hid e2
  have E3 := Lib.hid e3
  have E4 := Lib.hid e4
  clear e1 e2 e3 e4
  go_enter Try.func22, Try.ntmps22
  go_wp2_with fail
  refine (wread_any _ _ 5 [172, 2, 2, 97, 98] (brow_new w _ _ rfl) (by simp)).mono ?_
  rintro e w1 ⟨g, rfl, ho, hb1⟩
  go_wp2_with fail
  refine (wnum_any w1 300 (by decide)).mono ?_
  rintro e w2 ⟨A2, c2, rfl, ho2, hb2⟩
  rw [E4.out] at ho2 ⊢
  have hcv := run_string_bytes w2 c2 ho2.row
  simp only [List.length_cons, List.length_nil, Nat.reduceAdd] at hcv ⊢
  have hrd2 := (ho.below hb2).rd
  have hg := ho.ge
  have hB : Below w.heap.size w w2 := by
    have h0 : Below w.heap.size w (w.alloc (Obj.cells (List.map bv [172, 2, 2, 97, 98]).toArray 5)) := (Below.refl _ _).alloc (Nat.le_refl _) _
    exact (h0.trans (hb1.mono h0.size)).trans (hb2.mono (Nat.le_trans h0.size hb1.size))
  have hgw : w.heap.size ≤ g := Nat.le_trans (by simp) hg
  have hz2 := hB.size
  have HB := Lib.hid hB
  have HR := Lib.hid hrd2
  clear hB hrd2 ho ho2 hb1 hb2 hg
  unfold txt at hcv
  go_wp2_with fail
  refine (rnum_any w2 g _ HR.out).mono ?_
  rw [E1.out]
  rintro e w3 hd3
  have HB3 := Lib.hid (Did.below hd3 HB.out hz2 hgw)
  obtain ⟨rfl, hrd3, hgr3⟩ := hd3
  have hz3 := Nat.le_trans hz2 hgr3.size
  have HR3 := Lib.hid hrd3
  clear hrd3 hgr3
  go_wp2_with fail
  refine (rtext_any w3 g _ 5 (by omega) HR3.out).mono ?_
  rw [E2.out]
  rintro e w4 hd4
  have HB4 := Lib.hid (Did.below hd4 HB3.out hz3 hgw)
  obtain ⟨rfl, hrd4, hgr4⟩ := hd4
  have hz4 := Nat.le_trans hz3 hgr4.size
  have HR4 := Lib.hid hrd4
  clear hrd4 hgr4
  unfold txt
  go_wp2_with fail
  refine (rleft_any w4 g _ HR4.out).mono ?_
  rintro e w5 ⟨rfl, rfl⟩
  simp only [List.length_nil]
  go_wp2_with fail
  refine (rend_any w4 g _ HR4.out).mono ?_
  rw [E3.out]
  rintro e w5 hd5
  have HB5 := Lib.hid (Did.below hd5 HB4.out hz4 hgw)
  obtain ⟨rfl, hrd5, hgr5⟩ := hd5
  clear hrd5 hgr5
  go_wp2_with fail
  go_ret
  exact ⟨rfl, HB5.out⟩
end Go.Proofs.Ytgdlfihiheeniaa
