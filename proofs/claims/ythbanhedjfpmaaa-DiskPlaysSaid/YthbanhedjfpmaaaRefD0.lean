/-
  The document's disk: what it is, plain and in memory; New, with, Why, Now.
-/
import Derived.Test.YthbanhedjfpmaaaDiskWhole2
import Derived.Test.YthbanhedjfpmaaaMore
namespace Go.Proofs.Ythbanhedjfpmaaa
set_option linter.unusedSimpArgs false
set_option linter.unusedVariables false
open Go.RowKit

def eStr : Elem (List UInt8) where
  e := 9
  t := 51
  sz := 1
  bytes := 16
  zero := .string ⟨#[]⟩
  code := fun s => [txt s]
  pos := by decide
  few := by decide
  len := fun _ => rfl
  one := by
    intro x u hu
    simp at hu
    subst hu
    rfl
  zsz := rfl
  info := by kernel_rfl
  under := Try.underlying51
def eRW : Elem (Int × List UInt8) where
  e := 109
  t := 52
  sz := 2
  bytes := 24
  zero := .agg #[.int .i64 0, .string ⟨#[]⟩]
  code := fun x => [.int .i64 x.1, txt x.2]
  pos := by decide
  few := by decide
  len := fun _ => rfl
  one := by
    intro x u hu
    simp at hu
    rcases hu with rfl | rfl <;> rfl
  zsz := rfl
  info := by kernel_rfl
  under := Try.underlying52
/-- The document's disk. -/
structure RX where
  sure : List (List UInt8)
  pend : List (Int × List UInt8)
  falls : List DF
  ch : Nat
  down : Bool
/-- It lies behind these five cells. -/
def RefX (S : Nat → Prop) (w : World) (c : List Value) (x : RX) : Prop := ∃ As cs Ap cp Af cf, c = [.slice As x.sure.length cs, .slice Ap x.pend.length cp, .slice Af x.falls.length cf, .int .i64 (x.ch : Nat), .bool x.down] ∧
  RowX S eStr w As x.sure ∧ RowX S eRW w Ap x.pend ∧ RowX S eDF w Af x.falls
theorem RefX.below {S : Nat → Prop} {w w' : World} {c : List Value} {x : RX} (h : RefX S w c x) (hb : Below w.heap.size w w') : RefX S w' c x := by
  obtain ⟨As, cs, Ap, cp, Af, cf, h1, h2, h3, h4⟩ := h
  exact ⟨As, cs, Ap, cp, Af, cf, h1, h2.below hb, h3.below hb, h4.below hb⟩
theorem RefX.keptG {S : Nat → Prop} {w w' : World} {c : List Value} {x : RX} {g : Nat} {T : TypeId} {a1 b1 c1 : Option Addr} {a2 a3 b2 b3 c2 c3 : Nat} {n : Int} {b : Bool} (h : RefX S w c x) (hb : Blk w g T [.slice a1 a2 a3, .slice b1 b2 b3, .slice c1 c2 c3, .int .i64 n, .bool b]) (hg : w.grownBy w' (some g)) : RefX S w' c x := by
  obtain ⟨As, cs, Ap, cp, Af, cf, h1, h2, h3, h4⟩ := h
  refine ⟨As, cs, Ap, cp, Af, cf, h1, h2.keptV hb 0 (fun x => ⟨txt x, rfl, by simp [txt]⟩) hg, h3.keptV hb 1 (fun x => ⟨txt x.2, rfl, by simp [txt]⟩) hg, h4.keptV hb 1 (fun x => ⟨.int .u64 (x.keep : Nat), rfl, by simp⟩) hg⟩
theorem txt_one (l : List UInt8) : (txt l).oneCell' = true := rfl
/-- A text of a row. -/
theorem str_at {w : World} {A : Option Addr} {L : List (List UInt8)} (h : ERow eStr w A L) {i : Nat} (hi : i < L.length) : ∃ b o, A = some ⟨b, o, none⟩ ∧ b < w.heap.size ∧ w.cell? ⟨b, o + i, none⟩ = some (.string ⟨L[i].toArray⟩) := by
  obtain ⟨b, o, e, hb, hc⟩ := h.at_ hi
  exact ⟨b, o, e, hb, by simpa [eStr, txt] using hc 0 _ rfl⟩
theorem rw_at {w : World} {A : Option Addr} {L : List (Int × List UInt8)} (h : ERow eRW w A L) {i : Nat} (hi : i < L.length) : ∃ b o, A = some ⟨b, o, none⟩ ∧ b < w.heap.size ∧ w.cell? ⟨b, o + i * 2, none⟩ = some (.int .i64 L[i].1) ∧ w.cell? ⟨b, o + i * 2 + 1, none⟩ = some (.string ⟨L[i].2.toArray⟩) := by
  obtain ⟨b, o, e, hb, hc⟩ := h.at_ hi
  exact ⟨b, o, e, hb, hc 0 _ rfl, by simpa [txt, Nat.add_assoc, eRW] using hc 1 (txt L[i].2) rfl⟩
theorem fall_at {w : World} {A : Option Addr} {L : List DF} (h : ERow eDF w A L) {i : Nat} (hi : i < L.length) : ∃ b o, A = some ⟨b, o, none⟩ ∧ b < w.heap.size ∧ w.cell? ⟨b, o + i * 3, none⟩ = some (.int .i64 L[i].at_) ∧
    w.cell? ⟨b, o + i * 3 + 1, none⟩ = some (.int .u64 (L[i].keep : Nat)) ∧ w.cell? ⟨b, o + i * 3 + 2, none⟩ = some (.int .i64 L[i].torn) := by
  obtain ⟨b, o, e, hb, hc⟩ := h.at_ hi
  exact ⟨b, o, e, hb, hc 0 _ rfl, hc 1 _ rfl, hc 2 _ rfl⟩

/-- A call that returns such a disk; and a number. -/
def RetX (S : Nat → Prop) (w : World) (x : RX) (e : Ending) (w' : World) : Prop := ∃ c, e = .returned (.agg c.toArray) ∧ RefX S w' c x ∧ Below w.heap.size w w'
def RetXN (S : Nat → Prop) (w : World) (r : RX × Int) (e : Ending) (w' : World) : Prop := ∃ c, e = .returned (.tuple #[.agg c.toArray, .int .i64 r.2]) ∧ RefX S w' c r.1 ∧ Below w.heap.size w w'

/-! with -/
set_option maxHeartbeats 1000000 in
theorem with_any (w : World) (A : Option Addr) (c : Nat) (L : List (List UInt8)) (i : Int) (s : List UInt8) (h : ERow eStr w A L) (hi0 : 0 ≤ i) (hi : i < L.length) (hL : L.length ≤ 5000) :
    Calls Try.prog 69 #[.slice A L.length c, .int .i64 i, .string ⟨s.toArray⟩] w (RetRow eStr w (L.set i.toNat s)) := by
  obtain ⟨m, rfl⟩ : ∃ m : Nat, i = (m : Int) := ⟨i.toNat, by omega⟩
  have hm : m < L.length := by omega
  have HR := Lib.hid h
  clear h
  go_enter Try.func69, Try.ntmps69
  go_upto_region 2 with (at_builtin; refine wpList_append_elems eStr rfl (.tmp 8) (.tmp 9) rfl 0 rfl ((fresh1 rfl).1.own eStr (B := w.heap.size) [] rfl (by simp) (Nat.le_refl _)) rfl _ rfl (HR.out.below (fresh1 rfl).2.2) rfl (by simp; omega) (by simp) ?_; intro A3 c3 w3 ho3 hb3 _ _)
  simp only [List.nil_append, List.length_nil, Nat.zero_add] at ho3 ⊢
  rcases ho3.form with ⟨_, _, e⟩ | ⟨g, rfl, hg, hlt, _⟩
  · rw [e] at hm; simp at hm
  have hc := ho3.cell (j := m) (k := 0) hm (v := txt L[m]) rfl
  have hfr := ho3.free m
  rw [show m * eStr.sz + 0 = m from by simp [eStr]] at hc
  have ho4 := ho3.store (j := m) (k := 0) hm (by decide) s (txt s) rfl
  rw [show m * eStr.sz + 0 = m from by simp [eStr]] at ho4
  have HF := Lib.hid (And.intro ho4 (((Below.alloc1 w _).trans hb3).setCell (p := ⟨g, m, none⟩) hg (txt s)))
  clear ho3 ho4 hb3
  unfold txt at HF
  go_wp2_with fail
  go_ret
  exact ⟨some ⟨g, 0, none⟩, c3, by rw [List.length_set]; rfl, HF.out⟩
theorem load_rx {w : World} {g : Nat} {a b c d e : Value} (h : Blk w g 54 [a, b, c, d, e]) : (loadVar 54 ⟨g, 0, none⟩).run Try.prog w = .ok (.agg #[a, b, c, d, e]) w := by
  obtain ⟨h0, h1, h2, h3, h4, -⟩ := h.c5
  clear h
  go_simp
def RX.fresh (n : Nat) : RX := ⟨List.replicate n Zt, [], [], 0, false⟩
set_option maxHeartbeats 1000000 in
theorem refnew_any (S : Nat → Prop) (w : World) (hS : ∀ i, S i → i < w.heap.size) (n : Nat) (hn : n ≤ 4096) :
    Calls Try.prog 28 #[.int .i64 n] w (RetX S w (RX.fresh n)) := by
  go_enter Try.func28, Try.ntmps28
  go_upto_region 1 with (fail)
  generalize hW0 : World.alloc w (.cells _ _) = W
  obtain ⟨ba0, hz0, hB0⟩ := fresh1 hW0
  clear hW0
  have HB0 := Lib.hid (And.intro ba0 hB0)
  clear ba0 hB0
  go_wp2_with (refine wpList_make_zeros rfl (.const (.int .i64 512)) (.const (.int .i64 512)) rfl _ _ _ _ 512 rfl rfl rfl rfl (by decide) (Nat.le_refl _) ?_; intro w6 ho hb; have hcv := run_string_zt w6 ho; unfold txt at hcv; have HI : Hid (Blk w6 w.heap.size 54 [.slice none 0 0, .slice none 0 0, .slice none 0 0, .int .i64 0, .bool false] ∧ Below w.heap.size w w6 ∧ EOwn eStr w6 (w.heap.size + 1) none 0 (List.replicate 0 Zt)) := ⟨HB0.out.1.below hb, HB0.out.2.trans (hb.mono HB0.out.2.size), EOwn.nil _ _⟩; clear ho hb)
  clear hcv
  go_loopw [4, 5] (fun lv iv wr => ∃ i : Nat, i ≤ n ∧ iv = .int .i64 i ∧ ∃ A c, lv = .slice A i c ∧ Hid (Blk wr w.heap.size 54 [.slice none 0 0, .slice none 0 0, .slice none 0 0, .int .i64 0, .bool false] ∧ Below w.heap.size w wr ∧ EOwn eStr wr (w.heap.size + 1) A c (List.replicate i Zt))) (fun _ iv _ => n - (intOf iv).toNat)
  case atStart => exact ⟨0, by omega, rfl, _, _, rfl, HI.out⟩
  case round =>
    obtain ⟨i, hi, rfl, A, c, rfl, HJ⟩ := hrel
    clear HI
    by_cases hlt : i < n
    · have hii : (i : Int) < (n : Int) := by omega
      have hbl := HJ.out.1.lt
      go_wp2_with (at_builtin; refine wpList_append_elems eStr rfl (.tmp 13) (.tmp 15) rfl i rfl (HJ.out.2.2.below (fresh1 rfl).2.2) (by simp) _ rfl ((fresh1 rfl).1.row eStr [Zt] rfl (by simp [maxLen])) rfl (by simp; omega) (by simp; omega) ?_; intro A3 c3 w3 ho3 hb3 hg3 _; have HN : Hid (Blk w3 w.heap.size 54 [.slice none 0 0, .slice none 0 0, .slice none 0 0, .int .i64 0, .bool false] ∧ Below w.heap.size w w3 ∧ EOwn eStr w3 (w.heap.size + 1) A3 c3 (List.replicate i Zt ++ [Zt])) := ⟨(HJ.out.1.below (fresh1 rfl).2.2).grown hg3 (map_block_ne (HJ.out.2.2.ne_blk HJ.out.1 (by decide))), HJ.out.2.1.trans (((fresh1 rfl).2.2.mono HJ.out.2.1.size).trans (hb3.mono (by omega))), ho3⟩; clear ho3 hb3 hg3)
      go_roundw
      case rel => exact ⟨i + 1, by omega, by go_num, A3, c3, rfl, by rw [List.replicate_succ']; exact HN.out⟩
      case measure => simp [intOf]; omega
    · obtain rfl : i = n := by omega
      have hii : ¬ (i : Int) < (i : Int) := by omega
      have hcc := HJ.out.1.c5
      go_wp2_with fail
      refine ret_set5 HJ.out.1 rfl rfl rfl rfl (fun W hW => load_rx hW) fun W hW hg => ?_
      have hr : RowX S eStr W A (List.replicate i Zt) := RowX.own (HJ.out.2.2.keptG HJ.out.1 (by decide) hg) (fun j hj => by have := hS j hj; omega)
      exact ⟨_, rfl, ⟨A, c, none, 0, none, 0, by simp [RX.fresh], hr, RowX.nil, RowX.nil⟩, below_of_grown HJ.out.2.1 hg (Nat.le_refl _) HJ.out.2.1.size⟩
end Go.Proofs.Ythbanhedjfpmaaa
