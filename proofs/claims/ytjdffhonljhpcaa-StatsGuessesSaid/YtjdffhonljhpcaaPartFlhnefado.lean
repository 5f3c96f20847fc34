/-
  Texts of a proof, one behind the other (each with its own head).
-/
import Derived.Test.YtjdffhonljhpcaaPartEbfimgbob
import Derived.Test.YtjdffhonljhpcaaProg
import Derived.Shelf.SlLaysF0
import Derived.Shelf.SlGeneric
import Derived.Shelf.SlSortCmp.WholeK
import Derived.Shelf.SlSortCmp.NoneTotal
section
/-
  Printed by gen/share.py: the contracts of stats.Share's closures.
-/
namespace Go.Proofs.Ytjdffhonljhpcaa
set_option linter.unusedSimpArgs false
set_option linter.unusedVariables false
open Go.RowKit

namespace Ev
/-- 0, or a number, or a most. -/
def near (n m : Int) : Int := if 0 < if m < n then m else n then if m < n then m else n else 0
theorem near_le {n m : Int} (h : 0 ≤ m) : 0 ≤ near n m ∧ near n m ≤ m := by unfold near; (repeat' split) <;> omega
/-- How many of b are guessed, by the bounds for which p holds. -/
def belowN (b : Int) (v : Va) (bs : List Int) (p : Int → Bool) : Int := if v.k ≠ 1 ∨ bs = [] then b / 3 else (b * (bs.countP p : Nat)) / bs.length
end Ev
theorem countI_take {p : Int → Bool} {S : List Int} {k : Nat} (h : k < S.length) : (S.take (k + 1)).countP p = (S.take k).countP p + if p S[k] then 1 else 0 := by
  rw [List.take_succ_eq_append_getElem h, List.countP_append]
  congr 1
  rw [List.countP_cons, List.countP_nil]
  simp
theorem part_div {b : Int} {n m : Nat} (hb0 : 0 ≤ b) (hb1 : b ≤ 1000) (hn : n ≤ 1000) (hm : 0 < m) (hm2 : m ≤ 1000) : wrap64 ((wrap64 (b * (n : Int))).tdiv (m : Int)) = b * (n : Int) / (m : Int) := by
  obtain ⟨c, rfl⟩ : ∃ c : Nat, b = (c : Int) := ⟨b.toNat, by omega⟩
  rw [show ((c : Int) * (n : Int)) = ((c * n : Nat) : Int) from rfl]
  have h1 : c * n ≤ 1000 * 1000 := Nat.mul_le_mul (by omega) hn
  generalize c * n = p at h1
  have e1 : wrap64 (p : Int) = (p : Int) := by unfold wrap64; omega
  rw [e1]
  have e2 : (p : Int).tdiv (m : Int) = ((p / m : Nat) : Int) := rfl
  have e3 : (p : Int) / (m : Int) = ((p / m : Nat) : Int) := rfl
  have h2 : p / m ≤ p := Nat.div_le_self p m
  rw [e2, e3]
  have h3 : p / m ≤ 1000000 := Nat.le_trans h2 (by omega)
  generalize p / m = q at h3
  unfold wrap64
  omega
theorem is2_any (w : World) (b : Int) (g : Nat) (T : TypeId) (v : Va) (hb : Blk w g T v.cells) : Calls Try.prog 36 #[.int .i64 b, .pointer (some ⟨g, 0, none⟩)] w fun e w' => e = .returned (.bool (decide (b < v.n))) ∧ w' = w := by
  have c1 := hb.cell 1
  simp only [Va.cells, List.getElem?_cons_zero, List.getElem?_cons_succ] at c1
  obtain ⟨n, hn⟩ : ∃ n, v.n = n := ⟨_, rfl⟩
  rw [hn] at c1
  have HN := Lib.hid hn
  clear hn
  go_enter Try.func36, Try.ntmps36
  go_wp2_with fail
  go_ret
  exact ⟨by rw [HN.out]; rfl, rfl⟩
set_option maxRecDepth 20000 in
set_option maxHeartbeats 4000000 in
theorem below2_any (w : World) (g7 g5 g9 : Nat) (T7 T5 T9 : TypeId) (v : Va) (c : Cs) (b : Int) (h7 : Blk w g7 T7 v.cells) (h5 : Blk w g5 T5 c.cells) (h9 : Blk w g9 T9 [.int .i64 b]) (hr : ERow eI64 w c.a c.b) (hl : c.b.length ≤ 1000) (hb0 : 0 ≤ b) (hb1 : b ≤ 1000) :
    Calls Try.prog 35 #[.func (.func 36) #[] #[.pointer (some ⟨g7, 0, none⟩)], .pointer (some ⟨g7, 0, none⟩), .pointer (some ⟨g5, 0, none⟩), .pointer (some ⟨g9, 0, none⟩)] w
      fun e w' => e = .returned (.int .i64 (Ev.belowN b v c.b (fun b => decide (b < v.n)))) ∧ w' = w := by
  have HIS := Lib.hid (fun x => is2_any w x g7 T7 v h7)
  have HR := Lib.hid hr
  have c0 := h7.cell 0
  have d2 := h5.cell 2
  have e0 := h9.cell 0
  simp only [Va.cells, Cs.cells, List.getElem?_cons_zero, List.getElem?_cons_succ] at c0 d2 e0
  clear h7 h5 h9 hr
  obtain ⟨p, hp⟩ : ∃ p : Int → Bool, (fun b => decide (b < v.n)) = p := ⟨_, rfl⟩
  have HIP : Hid (∀ x, Calls Try.prog 36 #[.int .i64 x, .pointer (some ⟨g7, 0, none⟩)] w fun e w' => e = .returned (.bool (p x)) ∧ w' = w) := fun x => by rw [← hp]; exact HIS.out x
  rw [hp]
  obtain ⟨D, hD⟩ : ∃ D, Ev.belowN b v c.b p = D := ⟨_, rfl⟩
  rw [hD]
  have HD := Lib.hid hD
  clear hD hp HIS
  go_enter Try.func35, Try.ntmps35
  by_cases hk : v.k = 1
  · rw [hk] at c0
    by_cases hb : c.b = []
    · have hlb : ((c.b.length : Int) == 0) = true := by simp [hb]
      have HF : Hid (D = b / 3) := by show _ = _; rw [← HD.out]; unfold Ev.belowN; rw [if_pos (.inr hb)]
      clear hb hk
      go_wp2_with fail
      go_ret
      exact ⟨by rw [HF.out]; rfl, rfl⟩
    · have hlb : ((c.b.length : Int) == 0) = false := by simpa using hb
      have hlp : 0 < c.b.length := List.length_pos_iff.2 hb
      have HF : Hid (D = (b * (c.b.countP p : Nat)) / c.b.length) := by show _ = _; rw [← HD.out]; unfold Ev.belowN; rw [if_neg (by rintro (h | h); exact h hk; exact hb h)]
      clear hb hk
      have HST : Hid ((0 : Nat) = (c.b.take 0).countP p) := by show _ = _; simp
      go_upto_region 5 with fail
      go_loopw [6, 23] (fun nv iv wr => ∃ (n i : Nat), i ≤ c.b.length ∧ n ≤ i ∧ nv = .int .i64 (n : Int) ∧ iv = .int .i64 (i : Int) ∧ Hid (n = (c.b.take i).countP p) ∧ wr = w) (fun _ iv _ => c.b.length - (intOf iv).toNat)
      case atStart => exact ⟨0, 0, Nat.zero_le _, Nat.le_refl _, by go_num, by go_num, HST.out, by first | rfl | trivial⟩
      case round =>
        obtain ⟨n, i, hi, hni, rfl, rfl, HJ, rfl⟩ := hrel
        clear HST
        by_cases hlt : i < c.b.length
        · have hii : (i : Int) < (c.b.length : Int) := by omega
          obtain ⟨ab, ao, hA, -, q0⟩ := i64_at HR.out hlt
          have HCT : Hid ((c.b.take (i + 1)).countP p = n + if p c.b[i] then 1 else 0) := by show _ = _; rw [countI_take hlt, ← HJ.out]
          generalize c.b[i] = x at q0 HCT
          rw [hA]
          clear hA
          go_wp2_with fail
          refine (HIP.out x).mono ?_
          rintro e w' ⟨rfl, rfl⟩
          clear q0
          cases hb : p x with
          | true =>
            have HR2 : Hid (n + 1 = (c.b.take (i + 1)).countP p) := by show _ = _; rw [HCT.out]; simp [hb]
            clear hb
            go_wp2_with fail
            go_roundw
            case rel => exact ⟨n + 1, i + 1, by omega, by omega, by go_num, by go_num, HR2.out, by first | rfl | trivial⟩
            case measure => simp [intOf]; omega
          | false =>
            have HR2 : Hid (n = (c.b.take (i + 1)).countP p) := by show _ = _; rw [HCT.out]; simp [hb]
            clear hb
            go_wp2_with fail
            go_roundw
            case rel => exact ⟨n, i + 1, by omega, by omega, by go_num, by go_num, HR2.out, by first | rfl | trivial⟩
            case measure => simp [intOf]; omega
        · have hii : ¬ (i : Int) < (c.b.length : Int) := by omega
          have HN : Hid (n = c.b.countP p) := by show _ = _; rw [HJ.out, List.take_of_length_le (by omega)]
          have hq := part_div (n := n) (m := c.b.length) hb0 hb1 (by omega) hlp hl
          have HQ := Lib.hid hq
          go_wp2_with fail
          go_ret
          exact ⟨by rw [HF.out, ← HN.out]; rfl, rfl⟩
  · have hkb : (v.k != 1) = true := by simpa using hk
    have HF : Hid (D = b / 3) := by show _ = _; rw [← HD.out]; unfold Ev.belowN; rw [if_pos (.inl hk)]
    clear hk
    go_wp2_with fail
    go_ret
    exact ⟨by rw [HF.out]; rfl, rfl⟩
theorem is3_any (w : World) (b : Int) (g : Nat) (T : TypeId) (v : Va) (hb : Blk w g T v.cells) : Calls Try.prog 37 #[.int .i64 b, .pointer (some ⟨g, 0, none⟩)] w fun e w' => e = .returned (.bool (decide (b ≤ v.n))) ∧ w' = w := by
  have c1 := hb.cell 1
  simp only [Va.cells, List.getElem?_cons_zero, List.getElem?_cons_succ] at c1
  obtain ⟨n, hn⟩ : ∃ n, v.n = n := ⟨_, rfl⟩
  rw [hn] at c1
  have HN := Lib.hid hn
  clear hn
  go_enter Try.func37, Try.ntmps37
  go_wp2_with fail
  go_ret
  exact ⟨by rw [HN.out]; rfl, rfl⟩
set_option maxRecDepth 20000 in
set_option maxHeartbeats 4000000 in
theorem below3_any (w : World) (g7 g5 g9 : Nat) (T7 T5 T9 : TypeId) (v : Va) (c : Cs) (b : Int) (h7 : Blk w g7 T7 v.cells) (h5 : Blk w g5 T5 c.cells) (h9 : Blk w g9 T9 [.int .i64 b]) (hr : ERow eI64 w c.a c.b) (hl : c.b.length ≤ 1000) (hb0 : 0 ≤ b) (hb1 : b ≤ 1000) :
    Calls Try.prog 35 #[.func (.func 37) #[] #[.pointer (some ⟨g7, 0, none⟩)], .pointer (some ⟨g7, 0, none⟩), .pointer (some ⟨g5, 0, none⟩), .pointer (some ⟨g9, 0, none⟩)] w
      fun e w' => e = .returned (.int .i64 (Ev.belowN b v c.b (fun b => decide (b ≤ v.n)))) ∧ w' = w := by
  have HIS := Lib.hid (fun x => is3_any w x g7 T7 v h7)
  have HR := Lib.hid hr
  have c0 := h7.cell 0
  have d2 := h5.cell 2
  have e0 := h9.cell 0
  simp only [Va.cells, Cs.cells, List.getElem?_cons_zero, List.getElem?_cons_succ] at c0 d2 e0
  clear h7 h5 h9 hr
  obtain ⟨p, hp⟩ : ∃ p : Int → Bool, (fun b => decide (b ≤ v.n)) = p := ⟨_, rfl⟩
  have HIP : Hid (∀ x, Calls Try.prog 37 #[.int .i64 x, .pointer (some ⟨g7, 0, none⟩)] w fun e w' => e = .returned (.bool (p x)) ∧ w' = w) := fun x => by rw [← hp]; exact HIS.out x
  rw [hp]
  obtain ⟨D, hD⟩ : ∃ D, Ev.belowN b v c.b p = D := ⟨_, rfl⟩
  rw [hD]
  have HD := Lib.hid hD
  clear hD hp HIS
  go_enter Try.func35, Try.ntmps35
  by_cases hk : v.k = 1
  · rw [hk] at c0
    by_cases hb : c.b = []
    · have hlb : ((c.b.length : Int) == 0) = true := by simp [hb]
      have HF : Hid (D = b / 3) := by show _ = _; rw [← HD.out]; unfold Ev.belowN; rw [if_pos (.inr hb)]
      clear hb hk
      go_wp2_with fail
      go_ret
      exact ⟨by rw [HF.out]; rfl, rfl⟩
    · have hlb : ((c.b.length : Int) == 0) = false := by simpa using hb
      have hlp : 0 < c.b.length := List.length_pos_iff.2 hb
      have HF : Hid (D = (b * (c.b.countP p : Nat)) / c.b.length) := by show _ = _; rw [← HD.out]; unfold Ev.belowN; rw [if_neg (by rintro (h | h); exact h hk; exact hb h)]
      clear hb hk
      have HST : Hid ((0 : Nat) = (c.b.take 0).countP p) := by show _ = _; simp
      go_upto_region 5 with fail
      go_loopw [6, 23] (fun nv iv wr => ∃ (n i : Nat), i ≤ c.b.length ∧ n ≤ i ∧ nv = .int .i64 (n : Int) ∧ iv = .int .i64 (i : Int) ∧ Hid (n = (c.b.take i).countP p) ∧ wr = w) (fun _ iv _ => c.b.length - (intOf iv).toNat)
      case atStart => exact ⟨0, 0, Nat.zero_le _, Nat.le_refl _, by go_num, by go_num, HST.out, by first | rfl | trivial⟩
      case round =>
        obtain ⟨n, i, hi, hni, rfl, rfl, HJ, rfl⟩ := hrel
        clear HST
        by_cases hlt : i < c.b.length
        · have hii : (i : Int) < (c.b.length : Int) := by omega
          obtain ⟨ab, ao, hA, -, q0⟩ := i64_at HR.out hlt
          have HCT : Hid ((c.b.take (i + 1)).countP p = n + if p c.b[i] then 1 else 0) := by show _ = _; rw [countI_take hlt, ← HJ.out]
          generalize c.b[i] = x at q0 HCT
          rw [hA]
          clear hA
          go_wp2_with fail
          refine (HIP.out x).mono ?_
          rintro e w' ⟨rfl, rfl⟩
          clear q0
          cases hb : p x with
          | true =>
            have HR2 : Hid (n + 1 = (c.b.take (i + 1)).countP p) := by show _ = _; rw [HCT.out]; simp [hb]
            clear hb
            go_wp2_with fail
            go_roundw
            case rel => exact ⟨n + 1, i + 1, by omega, by omega, by go_num, by go_num, HR2.out, by first | rfl | trivial⟩
            case measure => simp [intOf]; omega
          | false =>
            have HR2 : Hid (n = (c.b.take (i + 1)).countP p) := by show _ = _; rw [HCT.out]; simp [hb]
            clear hb
            go_wp2_with fail
            go_roundw
            case rel => exact ⟨n, i + 1, by omega, by omega, by go_num, by go_num, HR2.out, by first | rfl | trivial⟩
            case measure => simp [intOf]; omega
        · have hii : ¬ (i : Int) < (c.b.length : Int) := by omega
          have HN : Hid (n = c.b.countP p) := by show _ = _; rw [HJ.out, List.take_of_length_le (by omega)]
          have hq := part_div (n := n) (m := c.b.length) hb0 hb1 (by omega) hlp hl
          have HQ := Lib.hid hq
          go_wp2_with fail
          go_ret
          exact ⟨by rw [HF.out, ← HN.out]; rfl, rfl⟩
  · have hkb : (v.k != 1) = true := by simpa using hk
    have HF : Hid (D = b / 3) := by show _ = _; rw [← HD.out]; unfold Ev.belowN; rw [if_pos (.inl hk)]
    clear hk
    go_wp2_with fail
    go_ret
    exact ⟨by rw [HF.out]; rfl, rfl⟩
theorem is4_any (w : World) (b : Int) (g : Nat) (T : TypeId) (v : Va) (hb : Blk w g T v.cells) : Calls Try.prog 38 #[.int .i64 b, .pointer (some ⟨g, 0, none⟩)] w fun e w' => e = .returned (.bool (decide (v.n < b))) ∧ w' = w := by
  have c1 := hb.cell 1
  simp only [Va.cells, List.getElem?_cons_zero, List.getElem?_cons_succ] at c1
  obtain ⟨n, hn⟩ : ∃ n, v.n = n := ⟨_, rfl⟩
  rw [hn] at c1
  have HN := Lib.hid hn
  clear hn
  go_enter Try.func38, Try.ntmps38
  go_wp2_with fail
  go_ret
  exact ⟨by rw [HN.out]; rfl, rfl⟩
set_option maxRecDepth 20000 in
set_option maxHeartbeats 4000000 in
theorem below4_any (w : World) (g7 g5 g9 : Nat) (T7 T5 T9 : TypeId) (v : Va) (c : Cs) (b : Int) (h7 : Blk w g7 T7 v.cells) (h5 : Blk w g5 T5 c.cells) (h9 : Blk w g9 T9 [.int .i64 b]) (hr : ERow eI64 w c.a c.b) (hl : c.b.length ≤ 1000) (hb0 : 0 ≤ b) (hb1 : b ≤ 1000) :
    Calls Try.prog 35 #[.func (.func 38) #[] #[.pointer (some ⟨g7, 0, none⟩)], .pointer (some ⟨g7, 0, none⟩), .pointer (some ⟨g5, 0, none⟩), .pointer (some ⟨g9, 0, none⟩)] w
      fun e w' => e = .returned (.int .i64 (Ev.belowN b v c.b (fun b => decide (v.n < b)))) ∧ w' = w := by
  have HIS := Lib.hid (fun x => is4_any w x g7 T7 v h7)
  have HR := Lib.hid hr
  have c0 := h7.cell 0
  have d2 := h5.cell 2
  have e0 := h9.cell 0
  simp only [Va.cells, Cs.cells, List.getElem?_cons_zero, List.getElem?_cons_succ] at c0 d2 e0
  clear h7 h5 h9 hr
  obtain ⟨p, hp⟩ : ∃ p : Int → Bool, (fun b => decide (v.n < b)) = p := ⟨_, rfl⟩
  have HIP : Hid (∀ x, Calls Try.prog 38 #[.int .i64 x, .pointer (some ⟨g7, 0, none⟩)] w fun e w' => e = .returned (.bool (p x)) ∧ w' = w) := fun x => by rw [← hp]; exact HIS.out x
  rw [hp]
  obtain ⟨D, hD⟩ : ∃ D, Ev.belowN b v c.b p = D := ⟨_, rfl⟩
  rw [hD]
  have HD := Lib.hid hD
  clear hD hp HIS
  go_enter Try.func35, Try.ntmps35
  by_cases hk : v.k = 1
  · rw [hk] at c0
    by_cases hb : c.b = []
    · have hlb : ((c.b.length : Int) == 0) = true := by simp [hb]
      have HF : Hid (D = b / 3) := by show _ = _; rw [← HD.out]; unfold Ev.belowN; rw [if_pos (.inr hb)]
      clear hb hk
      go_wp2_with fail
      go_ret
      exact ⟨by rw [HF.out]; rfl, rfl⟩
    · have hlb : ((c.b.length : Int) == 0) = false := by simpa using hb
      have hlp : 0 < c.b.length := List.length_pos_iff.2 hb
      have HF : Hid (D = (b * (c.b.countP p : Nat)) / c.b.length) := by show _ = _; rw [← HD.out]; unfold Ev.belowN; rw [if_neg (by rintro (h | h); exact h hk; exact hb h)]
      clear hb hk
      have HST : Hid ((0 : Nat) = (c.b.take 0).countP p) := by show _ = _; simp
      go_upto_region 5 with fail
      go_loopw [6, 23] (fun nv iv wr => ∃ (n i : Nat), i ≤ c.b.length ∧ n ≤ i ∧ nv = .int .i64 (n : Int) ∧ iv = .int .i64 (i : Int) ∧ Hid (n = (c.b.take i).countP p) ∧ wr = w) (fun _ iv _ => c.b.length - (intOf iv).toNat)
      case atStart => exact ⟨0, 0, Nat.zero_le _, Nat.le_refl _, by go_num, by go_num, HST.out, by first | rfl | trivial⟩
      case round =>
        obtain ⟨n, i, hi, hni, rfl, rfl, HJ, rfl⟩ := hrel
        clear HST
        by_cases hlt : i < c.b.length
        · have hii : (i : Int) < (c.b.length : Int) := by omega
          obtain ⟨ab, ao, hA, -, q0⟩ := i64_at HR.out hlt
          have HCT : Hid ((c.b.take (i + 1)).countP p = n + if p c.b[i] then 1 else 0) := by show _ = _; rw [countI_take hlt, ← HJ.out]
          generalize c.b[i] = x at q0 HCT
          rw [hA]
          clear hA
          go_wp2_with fail
          refine (HIP.out x).mono ?_
          rintro e w' ⟨rfl, rfl⟩
          clear q0
          cases hb : p x with
          | true =>
            have HR2 : Hid (n + 1 = (c.b.take (i + 1)).countP p) := by show _ = _; rw [HCT.out]; simp [hb]
            clear hb
            go_wp2_with fail
            go_roundw
            case rel => exact ⟨n + 1, i + 1, by omega, by omega, by go_num, by go_num, HR2.out, by first | rfl | trivial⟩
            case measure => simp [intOf]; omega
          | false =>
            have HR2 : Hid (n = (c.b.take (i + 1)).countP p) := by show _ = _; rw [HCT.out]; simp [hb]
            clear hb
            go_wp2_with fail
            go_roundw
            case rel => exact ⟨n, i + 1, by omega, by omega, by go_num, by go_num, HR2.out, by first | rfl | trivial⟩
            case measure => simp [intOf]; omega
        · have hii : ¬ (i : Int) < (c.b.length : Int) := by omega
          have HN : Hid (n = c.b.countP p) := by show _ = _; rw [HJ.out, List.take_of_length_le (by omega)]
          have hq := part_div (n := n) (m := c.b.length) hb0 hb1 (by omega) hlp hl
          have HQ := Lib.hid hq
          go_wp2_with fail
          go_ret
          exact ⟨by rw [HF.out, ← HN.out]; rfl, rfl⟩
  · have hkb : (v.k != 1) = true := by simpa using hk
    have HF : Hid (D = b / 3) := by show _ = _; rw [← HD.out]; unfold Ev.belowN; rw [if_pos (.inl hk)]
    clear hk
    go_wp2_with fail
    go_ret
    exact ⟨by rw [HF.out]; rfl, rfl⟩
theorem is5_any (w : World) (b : Int) (g : Nat) (T : TypeId) (v : Va) (hb : Blk w g T v.cells) : Calls Try.prog 39 #[.int .i64 b, .pointer (some ⟨g, 0, none⟩)] w fun e w' => e = .returned (.bool (decide (v.n ≤ b))) ∧ w' = w := by
  have c1 := hb.cell 1
  simp only [Va.cells, List.getElem?_cons_zero, List.getElem?_cons_succ] at c1
  obtain ⟨n, hn⟩ : ∃ n, v.n = n := ⟨_, rfl⟩
  rw [hn] at c1
  have HN := Lib.hid hn
  clear hn
  go_enter Try.func39, Try.ntmps39
  go_wp2_with fail
  go_ret
  exact ⟨by rw [HN.out]; rfl, rfl⟩
set_option maxRecDepth 20000 in
set_option maxHeartbeats 4000000 in
theorem below5_any (w : World) (g7 g5 g9 : Nat) (T7 T5 T9 : TypeId) (v : Va) (c : Cs) (b : Int) (h7 : Blk w g7 T7 v.cells) (h5 : Blk w g5 T5 c.cells) (h9 : Blk w g9 T9 [.int .i64 b]) (hr : ERow eI64 w c.a c.b) (hl : c.b.length ≤ 1000) (hb0 : 0 ≤ b) (hb1 : b ≤ 1000) :
    Calls Try.prog 35 #[.func (.func 39) #[] #[.pointer (some ⟨g7, 0, none⟩)], .pointer (some ⟨g7, 0, none⟩), .pointer (some ⟨g5, 0, none⟩), .pointer (some ⟨g9, 0, none⟩)] w
      fun e w' => e = .returned (.int .i64 (Ev.belowN b v c.b (fun b => decide (v.n ≤ b)))) ∧ w' = w := by
  have HIS := Lib.hid (fun x => is5_any w x g7 T7 v h7)
  have HR := Lib.hid hr
  have c0 := h7.cell 0
  have d2 := h5.cell 2
  have e0 := h9.cell 0
  simp only [Va.cells, Cs.cells, List.getElem?_cons_zero, List.getElem?_cons_succ] at c0 d2 e0
  clear h7 h5 h9 hr
  obtain ⟨p, hp⟩ : ∃ p : Int → Bool, (fun b => decide (v.n ≤ b)) = p := ⟨_, rfl⟩
  have HIP : Hid (∀ x, Calls Try.prog 39 #[.int .i64 x, .pointer (some ⟨g7, 0, none⟩)] w fun e w' => e = .returned (.bool (p x)) ∧ w' = w) := fun x => by rw [← hp]; exact HIS.out x
  rw [hp]
  obtain ⟨D, hD⟩ : ∃ D, Ev.belowN b v c.b p = D := ⟨_, rfl⟩
  rw [hD]
  have HD := Lib.hid hD
  clear hD hp HIS
  go_enter Try.func35, Try.ntmps35
  by_cases hk : v.k = 1
  · rw [hk] at c0
    by_cases hb : c.b = []
    · have hlb : ((c.b.length : Int) == 0) = true := by simp [hb]
      have HF : Hid (D = b / 3) := by show _ = _; rw [← HD.out]; unfold Ev.belowN; rw [if_pos (.inr hb)]
      clear hb hk
      go_wp2_with fail
      go_ret
      exact ⟨by rw [HF.out]; rfl, rfl⟩
    · have hlb : ((c.b.length : Int) == 0) = false := by simpa using hb
      have hlp : 0 < c.b.length := List.length_pos_iff.2 hb
      have HF : Hid (D = (b * (c.b.countP p : Nat)) / c.b.length) := by show _ = _; rw [← HD.out]; unfold Ev.belowN; rw [if_neg (by rintro (h | h); exact h hk; exact hb h)]
      clear hb hk
      have HST : Hid ((0 : Nat) = (c.b.take 0).countP p) := by show _ = _; simp
      go_upto_region 5 with fail
      go_loopw [6, 23] (fun nv iv wr => ∃ (n i : Nat), i ≤ c.b.length ∧ n ≤ i ∧ nv = .int .i64 (n : Int) ∧ iv = .int .i64 (i : Int) ∧ Hid (n = (c.b.take i).countP p) ∧ wr = w) (fun _ iv _ => c.b.length - (intOf iv).toNat)
      case atStart => exact ⟨0, 0, Nat.zero_le _, Nat.le_refl _, by go_num, by go_num, HST.out, by first | rfl | trivial⟩
      case round =>
        obtain ⟨n, i, hi, hni, rfl, rfl, HJ, rfl⟩ := hrel
        clear HST
        by_cases hlt : i < c.b.length
        · have hii : (i : Int) < (c.b.length : Int) := by omega
          obtain ⟨ab, ao, hA, -, q0⟩ := i64_at HR.out hlt
          have HCT : Hid ((c.b.take (i + 1)).countP p = n + if p c.b[i] then 1 else 0) := by show _ = _; rw [countI_take hlt, ← HJ.out]
          generalize c.b[i] = x at q0 HCT
          rw [hA]
          clear hA
          go_wp2_with fail
          refine (HIP.out x).mono ?_
          rintro e w' ⟨rfl, rfl⟩
          clear q0
          cases hb : p x with
          | true =>
            have HR2 : Hid (n + 1 = (c.b.take (i + 1)).countP p) := by show _ = _; rw [HCT.out]; simp [hb]
            clear hb
            go_wp2_with fail
            go_roundw
            case rel => exact ⟨n + 1, i + 1, by omega, by omega, by go_num, by go_num, HR2.out, by first | rfl | trivial⟩
            case measure => simp [intOf]; omega
          | false =>
            have HR2 : Hid (n = (c.b.take (i + 1)).countP p) := by show _ = _; rw [HCT.out]; simp [hb]
            clear hb
            go_wp2_with fail
            go_roundw
            case rel => exact ⟨n, i + 1, by omega, by omega, by go_num, by go_num, HR2.out, by first | rfl | trivial⟩
            case measure => simp [intOf]; omega
        · have hii : ¬ (i : Int) < (c.b.length : Int) := by omega
          have HN : Hid (n = c.b.countP p) := by show _ = _; rw [HJ.out, List.take_of_length_le (by omega)]
          have hq := part_div (n := n) (m := c.b.length) hb0 hb1 (by omega) hlp hl
          have HQ := Lib.hid hq
          go_wp2_with fail
          go_ret
          exact ⟨by rw [HF.out, ← HN.out]; rfl, rfl⟩
  · have hkb : (v.k != 1) = true := by simpa using hk
    have HF : Hid (D = b / 3) := by show _ = _; rw [← HD.out]; unfold Ev.belowN; rw [if_pos (.inl hk)]
    clear hk
    go_wp2_with fail
    go_ret
    exact ⟨by rw [HF.out]; rfl, rfl⟩
end Go.Proofs.Ytjdffhonljhpcaa
end

section
/-
  Printed by mkup.py out of XVal and XValPOrd: the contracts of value.Clean and value.Order, with the count of draws.
-/
namespace Go.Proofs.Ytjdffhonljhpcaa
set_option linter.unusedSimpArgs false
set_option linter.unusedVariables false
open Go.RowKit

/-- 'Below', and no draw is taken back. -/
structure Up (B : Nat) (w w' : World) : Prop where
  b : Below B w w'
  d : w.drawn ≤ w'.drawn
/-- 'grownBy', and no draw is taken back. -/
structure GUp (w w' : World) (row : Option Nat) : Prop where
  g : w.grownBy w' row
  d : w.drawn ≤ w'.drawn
theorem Up.refl (B : Nat) (w : World) : Up B w w := ⟨Below.refl _ _, Nat.le_refl _⟩
theorem Up.trans {B : Nat} {a b c : World} (h : Up B a b) (k : Up B b c) : Up B a c := ⟨h.b.trans k.b, Nat.le_trans h.d k.d⟩
theorem Up.mono {B B' : Nat} {w w' : World} (h : Up B w w') (hB : B' ≤ B) : Up B' w w' := ⟨h.b.mono hB, h.d⟩
theorem Up.size {B : Nat} {w w' : World} (h : Up B w w') : w.heap.size ≤ w'.heap.size := h.b.size
theorem Up.drewR {B : Nat} {w w' : World} (h : Up B w w') : Up B w w'.drew := ⟨h.b.drewR, Nat.le_trans h.d (Nat.le_succ _)⟩
theorem Up.then {w w1 w2 : World} (h : Up w.heap.size w w1) (k : Up w1.heap.size w1 w2) : Up w.heap.size w w2 := h.trans (k.mono h.size)
theorem Up.setCell {B : Nat} {a w : World} (h : Up B a w) {p : Addr} (hp : B ≤ p.block) (u : Value) : Up B a (w.setCell p u) := ⟨h.b.setCell hp u, h.d⟩
theorem GUp.size {w w' : World} {row : Option Nat} (h : GUp w w' row) : w.heap.size ≤ w'.heap.size := h.g.size
theorem up_of_grown {B : Nat} {w0 w w' : World} {g : Nat} (h : Up B w0 w) (hg : GUp w w' (some g)) (hB : B ≤ g) (hs : B ≤ w.heap.size) : Up B w0 w' := ⟨below_of_grown h.b hg.g hB hs, Nat.le_trans h.d hg.d⟩
theorem drawn_setCells (g : Nat) : ∀ (cs : List Value) (i : Nat) (w : World), (w.setCells g i cs).drawn = w.drawn
  | [], _, _ => rfl
  | v :: r, i, w => drawn_setCells g r (i + 1) (w.setCell ⟨g, i, none⟩ v)
/-- What a call answers that leaves all that was there alone. -/
def RetU (w : World) (a : Va) (e : Ending) (w' : World) : Prop := e = .returned a.v ∧ Up w.heap.size w w'
section
variable {w : World} {ops : Array Oper} {rest : List Oper} {o : Oper} {a : Act} {Q : Exit → Act → World → Prop}
theorem wpList_alloc_vu (hgd : o.guard = none) (hop : o.op = .alloc 35)
    (h : ∀ W, Blk W w.heap.size 35 Key.nul.cells → w.heap.size + 1 ≤ W.heap.size → Up w.heap.size w W → wpList Try.prog ops Q rest (a.put o.dst (.pointer (some ⟨w.heap.size, 0, none⟩))) W) : wpList Try.prog ops Q (o :: rest) a w :=
  wpList_alloc_z hgd 35 hop (va_zero _) fun W hW => by
    obtain ⟨h1, h2, h3⟩ := fresh1 (a := Key.nul.cells) hW
    exact h W h1 h2 ⟨h3, by rw [← hW]; exact Nat.le_refl _⟩
theorem wpList_store_vu (hgd : o.guard = none) (hod : o.dst = none) (x y : Operand) (hop : o.op = .store 35 x y) (g : Nat) (hx : a.eval x = .pointer (some ⟨g, 0, none⟩)) (b : Va) (hy : a.eval y = b.v) {T0 : TypeId} {old : Va} (hb : Blk w g T0 old.cells)
    (h : ∀ W, Blk W g T0 b.cells → GUp w W (some g) → wpList Try.prog ops Q rest a W) : wpList Try.prog ops Q (o :: rest) a w := by
  have hput : a.put o.dst undef = a := by rw [hod]; rfl
  refine wpList_store_mid hgd 35 x y hop g 0 b.cells.toArray hx hy ?_ (va_info.trans (by rfl)) (all_oneCell_toArray b.cells_one) ?_
  · rw [List.size_toArray]
    exact hb.there 0 _ (Nat.le_refl _)
  · rw [hput]
    exact h _ (hb.setAll b.cells rfl) ⟨grown_setCells w g 0 b.cells, by rw [drawn_setCells]; exact Nat.le_refl _⟩
theorem wpList_box_vu (hgd : o.guard = none) (x : Operand) (hop : o.op = .box 35 x) (b : Va) (hx : a.eval x = b.v)
    (h : ∀ W, Blk W w.heap.size 35 b.cells → w.heap.size + 1 ≤ W.heap.size → Up w.heap.size w W → wpList Try.prog ops Q rest (a.put o.dst (.pointer (some ⟨w.heap.size, 0, none⟩))) W) : wpList Try.prog ops Q (o :: rest) a w :=
  wpList_plain hgd fun _ hK => by
    unfold Oper.wp execOp
    have e : (Instr.box 35 b.v).run Try.prog w = .ok (.pointer (some ⟨w.heap.size, 0, none⟩)) (w.alloc (.cells b.cells.toArray 35)) := by
      simp [Instr.box, Sem.run_bind, newVar, newRow]
      rfl
    simp only [hop, hx, Sem.run_bind, e, Result.andThen_ok, Sem.run_pure]
    obtain ⟨h1, h2, h3⟩ := fresh1 (w := w) (a := b.cells) (t := 35) rfl
    exact hK _ _ (h _ h1 h2 ⟨h3, Nat.le_refl _⟩)
end
set_option maxRecDepth 20000 in
set_option maxHeartbeats 1000000 in
theorem ofint_u (w : World) (n : Int) : Calls Try.prog 72 #[.int .i64 n] w (RetU w ⟨1, n, 0, []⟩) := by
  go_enter Try.func72, Try.ntmps72
  go_wp2_with (first | (refine wpList_alloc_vu rfl rfl ?_; intro W1 hb1 hz1 hB1) | (refine wpList_store_vu rfl rfl (.tmp 2) (.tmp 4) rfl w.heap.size rfl ⟨1, n, 0, []⟩ rfl hb1 ?_; intro W2 hb2 hg2))
  exact ret_va hb2 rfl rfl rfl ⟨rfl, up_of_grown hB1 hg2 (Nat.le_refl _) (by omega)⟩
set_option maxRecDepth 20000 in
set_option maxHeartbeats 1000000 in
theorem oftext_u (w : World) (s : List UInt8) : Calls Try.prog 74 #[txt s] w (RetU w ⟨3, 0, 0, s⟩) := by
  unfold txt
  go_enter Try.func74, Try.ntmps74
  go_wp2_with (first | (refine wpList_alloc_vu rfl rfl ?_; intro W1 hb1 hz1 hB1) | (refine wpList_store_vu rfl rfl (.tmp 2) (.tmp 4) rfl w.heap.size rfl ⟨3, 0, 0, s⟩ rfl hb1 ?_; intro W2 hb2 hg2))
  exact ret_va hb2 rfl rfl rfl ⟨rfl, up_of_grown hB1 hg2 (Nat.le_refl _) (by omega)⟩
set_option maxRecDepth 20000 in
set_option maxHeartbeats 1000000 in
theorem ofbool_u (w : World) (x : Bool) : Calls Try.prog 63 #[.bool x] w (RetU w ⟨4, if x then 1 else 0, 0, []⟩) := by
  go_enter Try.func63, Try.ntmps63
  go_upto_region 1 with (refine wpList_alloc_vu rfl rfl ?_; intro W1 hb1 hz1 hB1)
  go_upto_region 2 with (first | (refine wpList_alloc_vu rfl rfl ?_; intro W2 hb2 hz2 hB2) | (refine wpList_store_vu rfl rfl (.tmp 3) (.tmp 4) rfl W1.heap.size rfl ⟨4, 0, 0, []⟩ rfl hb2 ?_; intro W3 hb3 hg3))
  have hB3 : Up w.heap.size w W3 := up_of_grown (hB1.trans (hB2.mono hB1.size)) hg3 hB1.size (by omega)
  have h13 : Blk W3 w.heap.size 35 Key.nul.cells := (hb1.below hB2.b).grown hg3.g (by simp; omega)
  have hz3 := hg3.size
  have hz1' : w.heap.size + 2 ≤ W3.heap.size := by omega
  clear hb1 hB1 hB2 hg3 hb2 hz3 hz2
  cases x
  · go_wp2_with (first | (refine wpList_load_va rfl (.tmp 3) rfl W1.heap.size rfl hb3 ?_) | (refine wpList_store_vu rfl rfl (.tmp 2) (.tmp 7) rfl w.heap.size rfl ⟨4, 0, 0, []⟩ rfl h13 ?_; intro W4 hb4 hg4))
    exact ret_va hb4 rfl rfl rfl ⟨rfl, up_of_grown hB3 hg4 (Nat.le_refl _) (by omega)⟩
  · obtain ⟨-, e1, -, -, -, f1, -⟩ := Blk.c4 hb3
    go_upto_region 4 with fail
    have hb5 : Blk (W3.setCell ⟨W1.heap.size, 1, none⟩ (.int .i64 1)) W1.heap.size 35 (Va.cells ⟨4, 1, 0, []⟩) := hb3.set1
    have h15 := h13.other ⟨W1.heap.size, 1, none⟩ (by show w.heap.size ≠ W1.heap.size; omega) (.int .i64 1)
    have hB5 := hB3.setCell (p := ⟨W1.heap.size, 1, none⟩) (by show w.heap.size ≤ W1.heap.size; omega) (.int .i64 1)
    clear e1 f1 hb3 h13 hB3
    go_wp2_with (first | (refine wpList_load_va rfl (.tmp 3) rfl W1.heap.size rfl hb5 ?_) | (refine wpList_store_vu rfl rfl (.tmp 2) (.tmp 7) rfl w.heap.size rfl ⟨4, 1, 0, []⟩ rfl h15 ?_; intro W4 hb4 hg4))
    exact ret_va hb4 rfl rfl rfl ⟨rfl, up_of_grown hB5 hg4 (Nat.le_refl _) (by simp; omega)⟩
set_option maxRecDepth 20000 in
set_option maxHeartbeats 1000000 in
theorem ofreal_u (w : World) (f : Nat) (hf : f < two64) : Calls Try.prog 73 #[.float .f64 f] w (RetU w ⟨2, 0, Key.real1 f, []⟩) := by
  have HF := Lib.hid hf
  have HZ := Lib.hid (ford_zero hf)
  clear hf
  go_enter Try.func73, Try.ntmps73
  go_upto_region 1 with (refine wpList_alloc_vu rfl rfl ?_; intro W1 hb1 hz1 hB1)
  go_wp2_with fail
  refine (isnan_any _ f HF.out).mono ?_
  rintro e w1 ⟨rfl, rfl⟩
  by_cases hn : fnan f
  · have hr : Key.real1 f = 9221120237041090561 := by unfold Key.real1; rw [if_pos hn]
    have HR := Lib.hid hr
    have hd : decide (fnan f) = true := by simp [hn]
    rw [hd]
    clear hr hn
    go_wp2_with fail
    refine (nan_any _).mono ?_
    rintro e w1 ⟨rfl, rfl⟩
    go_wp2_with (refine wpList_store_vu rfl rfl (.tmp 2) (.tmp 11) rfl w.heap.size rfl ⟨2, 0, 9221120237041090561, []⟩ rfl hb1 ?_; intro W4 hb4 hg4)
    exact ret_va hb4 rfl rfl rfl ⟨by show Ending.returned (Va.v ⟨2, 0, _, []⟩) = .returned (Va.v ⟨2, 0, Key.real1 f, []⟩); rw [HR.out], up_of_grown hB1 hg4 (Nat.le_refl _) (by omega)⟩
  · have hd : decide (fnan f) = false := by simp [hn]
    rw [hd]
    by_cases hz : f % 9223372036854775808 = 0
    · have HR : Hid (Key.real1 f = 0) := by show _ = _; unfold Key.real1; rw [if_neg hn, if_pos hz]
      have ho : (FloatKind.f64.format.order f 0 == some Ordering.eq) = true := HZ.out.trans (decide_eq_true hz)
      clear hn hz HZ HF
      go_wp2_with (refine wpList_store_vu rfl rfl (.tmp 2) (.tmp 11) rfl w.heap.size rfl ⟨2, 0, 0, []⟩ rfl hb1 ?_; intro W4 hb4 hg4)
      exact ret_va hb4 rfl rfl rfl ⟨by show Ending.returned (Va.v ⟨2, 0, _, []⟩) = .returned (Va.v ⟨2, 0, Key.real1 f, []⟩); rw [HR.out], up_of_grown hB1 hg4 (Nat.le_refl _) (by omega)⟩
    · have HR : Hid (Key.real1 f = f) := by show _ = _; unfold Key.real1; rw [if_neg hn, if_neg hz]
      have ho : (FloatKind.f64.format.order f 0 == some Ordering.eq) = false := HZ.out.trans (decide_eq_false hz)
      clear hn hz HZ HF
      go_wp2_with (refine wpList_store_vu rfl rfl (.tmp 2) (.tmp 11) rfl w.heap.size rfl ⟨2, 0, f, []⟩ rfl hb1 ?_; intro W4 hb4 hg4)
      exact ret_va hb4 rfl rfl rfl ⟨by show Ending.returned (Va.v ⟨2, 0, _, []⟩) = .returned (Va.v ⟨2, 0, Key.real1 f, []⟩); rw [HR.out], up_of_grown hB1 hg4 (Nat.le_refl _) (by omega)⟩
set_option maxRecDepth 20000 in
set_option maxHeartbeats 1000000 in
theorem clean_u (w : World) (v : Va) (hv : v.ok) : Calls Try.prog 34 #[v.v] w (RetU w (Key.clean v)) := by
  have HF : Hid (v.f < two64) := hv.f1
  clear hv
  go_enter Try.func34, Try.ntmps34
  go_upto_region 1 with (first | (refine wpList_alloc_vu rfl rfl ?_; intro W2 hb2 hz2 hB2) | (refine wpList_box_vu rfl (.tmp 0) rfl v rfl ?_; intro W1 hb1 hz1 hB1))
  have h12 := hb1.below hB2.b
  have hB := hB1.trans (hB2.mono hB1.size)
  clear hb1 hB1 hB2
  obtain ⟨c0, c1, c2, c3, -⟩ := Blk.c4 h12
  go_upto_region 2 with fail
  by_cases k1 : v.k = 1
  · have HC := Lib.hid (Va.clean1 k1)
    go_wp2_with fail
    refine (ofint_u _ v.n).mono ?_
    rintro e W3 ⟨rfl, hB3⟩
    have hb3 := hb2.below hB3.b
    have hB3' := hB.trans (hB3.mono hB.size)
    clear c0 c1 c2 c3
    go_wp2_with (refine wpList_store_vu rfl rfl (.tmp 2) (.tmp 9) rfl W1.heap.size rfl ⟨1, v.n, 0, []⟩ rfl hb3 ?_; intro W4 hb4 hg4)
    exact ret_va hb4 rfl rfl rfl ⟨by show Ending.returned (Va.v _) = .returned (Va.v (Key.clean v)); rw [HC.out], up_of_grown hB3' hg4 (by omega) hB3'.size⟩
  by_cases k2 : v.k = 2
  · have HC := Lib.hid (Va.clean2 k2)
    go_wp2_with fail
    refine (ofreal_u _ v.f HF.out).mono ?_
    rintro e W3 ⟨rfl, hB3⟩
    have hb3 := hb2.below hB3.b
    have hB3' := hB.trans (hB3.mono hB.size)
    clear c0 c1 c2 c3
    go_wp2_with (refine wpList_store_vu rfl rfl (.tmp 2) (.tmp 14) rfl W1.heap.size rfl ⟨2, 0, Key.real1 v.f, []⟩ rfl hb3 ?_; intro W4 hb4 hg4)
    exact ret_va hb4 rfl rfl rfl ⟨by show Ending.returned (Va.v _) = .returned (Va.v (Key.clean v)); rw [HC.out], up_of_grown hB3' hg4 (by omega) hB3'.size⟩
  by_cases k3 : v.k = 3
  · have HC := Lib.hid (Va.clean3 k3)
    go_wp2_with fail
    refine (oftext_u _ v.s).mono ?_
    rintro e W3 ⟨rfl, hB3⟩
    have hb3 := hb2.below hB3.b
    have hB3' := hB.trans (hB3.mono hB.size)
    clear c0 c1 c2 c3
    go_wp2_with (refine wpList_store_vu rfl rfl (.tmp 2) (.tmp 19) rfl W1.heap.size rfl ⟨3, 0, 0, v.s⟩ rfl hb3 ?_; intro W4 hb4 hg4)
    exact ret_va hb4 rfl rfl rfl ⟨by show Ending.returned (Va.v _) = .returned (Va.v (Key.clean v)); rw [HC.out], up_of_grown hB3' hg4 (by omega) hB3'.size⟩
  by_cases k4 : v.k = 4
  · have HC : Hid (Key.clean v = ⟨4, if (v.n != 0) = true then 1 else 0, 0, []⟩) := by
      show _ = _
      rw [Va.clean4 k4]
      by_cases hn : v.n = 0 <;> simp [hn]
    go_wp2_with fail
    refine (ofbool_u _ _).mono ?_
    generalize (if (v.n != 0) = true then (1 : Int) else 0) = m at HC ⊢
    rintro e W3 ⟨rfl, hB3⟩
    have hb3 := hb2.below hB3.b
    have hB3' := hB.trans (hB3.mono hB.size)
    clear c0 c1 c2 c3
    go_wp2_with (refine wpList_store_vu rfl rfl (.tmp 2) (.tmp 25) rfl W1.heap.size rfl ⟨4, m, 0, []⟩ rfl hb3 ?_; intro W4 hb4 hg4)
    exact ret_va hb4 rfl rfl rfl ⟨by show Ending.returned (Va.v _) = .returned (Va.v (Key.clean v)); rw [HC.out], up_of_grown hB3' hg4 (by omega) hB3'.size⟩
  · have HC := Lib.hid (Va.clean0 k1 k2 k3 k4)
    have d1 : (v.k == 1) = false := by simpa using k1
    have d2 : (v.k == 2) = false := by simpa using k2
    have d3 : (v.k == 3) = false := by simpa using k3
    have d4 : (v.k == 4) = false := by simpa using k4
    go_wp2_with (refine wpList_store_vu rfl rfl (.tmp 2) (.tmp 26) rfl W1.heap.size rfl Key.nul rfl hb2 ?_; intro W4 hb4 hg4)
    exact ret_va hb4 rfl rfl rfl ⟨by show Ending.returned (Va.v _) = .returned (Va.v (Key.clean v)); rw [HC.out], up_of_grown hB hg4 (by omega) hB.size⟩
set_option maxRecDepth 20000 in
set_option maxHeartbeats 4000000 in
theorem pord_u (w : World) (a b : Va) (ha : a.ok) (hb : b.ok) : Calls Try.prog 31 #[a.v, b.v] w fun e w' => e = .returned (.int .i64 (Key.vord (Key.clean a) (Key.clean b))) ∧ Up w.heap.size w w' := by
  have HA := Lib.hid ha
  have HB := Lib.hid hb
  have HXO := Lib.hid (Ev.clean_ok ha)
  have HYO := Lib.hid (Ev.clean_ok hb)
  clear ha hb
  go_enter Try.func31, Try.ntmps31
  go_upto_region 1 with (first | (refine wpList_box_vu rfl (.tmp 0) rfl a rfl ?_; intro W1 hb1 hz1 hB1) | (refine wpList_box_vu rfl (.tmp 1) rfl b rfl ?_; intro W2 hb2 hz2 hB2))
  have h12 := hb1.below hB2.b
  have hB := hB1.trans (hB2.mono hB1.size)
  clear hb1 hB1 hB2
  have h1d := h12.drew
  have h2d := hb2.drew
  refine wp_region_plan (.take 0 (.take 2 (.run 1 [2] (.run 3 [] (.run 4 [] (.run 5 [] .fin)))))) (by kernel_rfl) (by kernel_rfl) (by kernel_rfl) (by kernel_rfl) ?_
  -- regions that clean two values: 2 3 their slots, 8 10 the calls' slots, $5 the function; leaves h16, hb6, HB6
  repeat' (first | (refine hZ _ _ ?_; clear hZ) | (refine hZ _ ?_; clear hZ) | (refine hZ ?_; clear hZ) | rw [again_nil] | rw [walk_fin] | ((first | rw [walk_take] | rw [walk_run] | rw [again_cons]); intro Z hZ; simp only [sel, List.getElem?_toArray, List.getElem?_cons_zero, List.getElem?_cons_succ]; go_wp2_with (first | (refine wpList_load_va rfl (.tmp 2) rfl w.heap.size rfl h1d ?_) | (refine wpList_load_va rfl (.tmp 3) rfl W1.heap.size rfl h2d ?_))))
  refine (clean_u _ a HA.out).mono ?_
  rintro e W3 ⟨rfl, hB3⟩
  have h1e := h1d.below hB3.b
  have h2e := h2d.below hB3.b
  have hBe := hB.drewR.trans (hB3.mono hB.size)
  have hze : W2.heap.size ≤ W3.heap.size := hB3.size
  clear h1d h2d hB3 h12 hb2 hB
  go_wp2_with fail
  repeat' (first | (refine hZ _ _ ?_; clear hZ) | (refine hZ _ ?_; clear hZ) | (refine hZ ?_; clear hZ) | rw [again_nil] | rw [walk_fin] | ((first | rw [walk_take] | rw [walk_run] | rw [again_cons]); intro Z hZ; simp only [sel, List.getElem?_toArray, List.getElem?_cons_zero, List.getElem?_cons_succ]; go_wp2_with (first | (refine wpList_load_va rfl (.tmp 3) rfl W1.heap.size rfl h2e ?_))))
  refine (clean_u _ b HB.out).mono ?_
  rintro e W4 ⟨rfl, hB4⟩
  have h1f := h1e.below hB4.b
  have h2f := h2e.below hB4.b
  have hBf := hBe.trans (hB4.mono hBe.size)
  have hzf : W3.heap.size ≤ W4.heap.size := hB4.size
  clear h1e h2e hB4 hBe
  go_wp2_with fail
  repeat' (first | (refine hZ _ _ ?_; clear hZ) | (refine hZ _ ?_; clear hZ) | (refine hZ ?_; clear hZ) | rw [again_nil] | rw [walk_fin] | ((first | rw [walk_take] | rw [walk_run] | rw [again_cons]); intro Z hZ; simp only [sel, List.getElem?_toArray, List.getElem?_cons_zero, List.getElem?_cons_succ]; go_wp2_with (first | (refine wpList_store_vu rfl rfl (.tmp 2) (.tmp 8) rfl w.heap.size rfl (Key.clean a) rfl h1f ?_; intro W5 hb5 hg5; have h25 := h2f.grown hg5.g (by simp; omega)) | (refine wpList_store_vu rfl rfl (.tmp 3) (.tmp 10) rfl W1.heap.size rfl (Key.clean b) rfl h25 ?_; intro W6 hb6 hg6))))
  have h16 : Blk W6 w.heap.size 35 (Key.clean a).cells := hb5.grown hg6.g (by simp; omega)
  have hB5 : Up w.heap.size w W5 := up_of_grown hBf hg5 (Nat.le_refl _) (by omega)
  have HB6 : Hid (Up w.heap.size w W6) := up_of_grown hB5 hg6 (by omega) hB5.size
  clear h1f h2f hBf hb5 hg5 h25 hg6 hB5 HA HB
  generalize hX : Key.clean a = x at HXO h16 ⊢
  generalize hY : Key.clean b = y at HYO hb6 ⊢
  have HX := Lib.hid hX
  have HY := Lib.hid hY
  clear hX hY
  clear hze hzf hz1 hz2
  obtain ⟨c0, c1, c2, c3, -⟩ := Blk.c4 h16
  obtain ⟨d0, d1, d2, d3, -⟩ := Blk.c4 hb6
  clear h16 hb6
  by_cases hk : x.k = y.k
  · have hkb : (x.k != y.k) = false := by simp [hk]
    go_upto_region 4 with fail
    have HKK := Lib.hid hk
    clear hk hkb
    by_cases k2 : y.k = 2
    · have HVL := Lib.hid (Key.vless_real HKK.out (by rw [HKK.out]; exact k2))
      have HVG := Lib.hid (Key.vless_real HKK.out.symm k2)
      have k2' : x.k = 2 := HKK.out.trans k2
      rw [k2'] at c0
      clear k2 k2'
      go_upto_region 6 with fail
      by_cases nx : fnan x.f
      · have hdx : decide (fnan x.f) = true := by simp [nx]
        by_cases ny : fnan y.f
        · have hdy : decide (fnan y.f) = true := by simp [ny]
          have HV := Lib.hid (Key.vord_eq (a := x) (b := y) (fun h => by rcases HVL.out.1 h with h | h <;> exact h.1 nx) (fun h => by rcases HVG.out.1 h with h | h <;> exact h.1 ny))
          clear nx ny
          refine wp_region_plan (.take 0 (.take 1 (.take 3 (.take 4 (.run 2 [3, 4] (.run 5 [] (.take 6 (.take 7 .fin)))))))) (by kernel_rfl) (by kernel_rfl) (by kernel_rfl) (by kernel_rfl) ?_
          repeat' (first | (refine hZ _ _ ?_; clear hZ) | (refine hZ _ ?_; clear hZ) | (refine hZ ?_; clear hZ) | rw [again_nil] | rw [walk_fin] | ((first | rw [walk_take] | rw [walk_run] | rw [again_cons]); intro Z hZ; simp only [sel, List.getElem?_toArray, List.getElem?_cons_zero, List.getElem?_cons_succ]; go_wp2_with (fail)))
          refine (isnan_any _ _ HXO.out.f1).mono ?_
          rintro e wq ⟨rfl, hwq⟩
          rw [hwq, hdx]
          clear hwq wq
          go_wp2_with fail
          repeat' (first | (refine hZ _ _ ?_; clear hZ) | (refine hZ _ ?_; clear hZ) | (refine hZ ?_; clear hZ) | rw [again_nil] | rw [walk_fin] | ((first | rw [walk_take] | rw [walk_run] | rw [again_cons]); intro Z hZ; simp only [sel, List.getElem?_toArray, List.getElem?_cons_zero, List.getElem?_cons_succ]; go_wp2_with (fail)))
          refine (isnan_any _ _ HYO.out.f1).mono ?_
          rintro e wq ⟨rfl, hwq⟩
          rw [hwq, hdy]
          clear hwq wq
          go_wp2_with fail
          repeat' (first | (refine hZ _ _ ?_; clear hZ) | (refine hZ _ ?_; clear hZ) | (refine hZ ?_; clear hZ) | rw [again_nil] | rw [walk_fin] | ((first | rw [walk_take] | rw [walk_run] | rw [again_cons]); intro Z hZ; simp only [sel, List.getElem?_toArray, List.getElem?_cons_zero, List.getElem?_cons_succ]; go_wp2_with (fail)))
          go_wp2_with fail
          go_ret
          exact ⟨by rw [HX.out, HY.out, HV.out]; rfl, HB6.out.drewR⟩
        · have hdy : decide (fnan y.f) = false := by simp [ny]
          have HV := Lib.hid (Key.vord_gt (a := x) (b := y) (fun h => by rcases HVL.out.1 h with h | h <;> exact h.1 nx) (HVG.out.2 (.inl ⟨ny, nx⟩)))
          clear nx ny
          refine wp_region_plan (.take 0 (.take 1 (.take 3 (.take 4 (.run 2 [3, 4] (.run 5 [] (.take 6 (.take 7 .fin)))))))) (by kernel_rfl) (by kernel_rfl) (by kernel_rfl) (by kernel_rfl) ?_
          repeat' (first | (refine hZ _ _ ?_; clear hZ) | (refine hZ _ ?_; clear hZ) | (refine hZ ?_; clear hZ) | rw [again_nil] | rw [walk_fin] | ((first | rw [walk_take] | rw [walk_run] | rw [again_cons]); intro Z hZ; simp only [sel, List.getElem?_toArray, List.getElem?_cons_zero, List.getElem?_cons_succ]; go_wp2_with (fail)))
          refine (isnan_any _ _ HXO.out.f1).mono ?_
          rintro e wq ⟨rfl, hwq⟩
          rw [hwq, hdx]
          clear hwq wq
          go_wp2_with fail
          repeat' (first | (refine hZ _ _ ?_; clear hZ) | (refine hZ _ ?_; clear hZ) | (refine hZ ?_; clear hZ) | rw [again_nil] | rw [walk_fin] | ((first | rw [walk_take] | rw [walk_run] | rw [again_cons]); intro Z hZ; simp only [sel, List.getElem?_toArray, List.getElem?_cons_zero, List.getElem?_cons_succ]; go_wp2_with (fail)))
          refine (isnan_any _ _ HYO.out.f1).mono ?_
          rintro e wq ⟨rfl, hwq⟩
          rw [hwq, hdy]
          clear hwq wq
          go_wp2_with fail
          repeat' (first | (refine hZ _ _ ?_; clear hZ) | (refine hZ _ ?_; clear hZ) | (refine hZ ?_; clear hZ) | rw [again_nil] | rw [walk_fin] | ((first | rw [walk_take] | rw [walk_run] | rw [again_cons]); intro Z hZ; simp only [sel, List.getElem?_toArray, List.getElem?_cons_zero, List.getElem?_cons_succ]; go_wp2_with (fail)))
          go_wp2_with fail
          go_ret
          exact ⟨by rw [HX.out, HY.out, HV.out]; rfl, HB6.out.drewR⟩
      · have hdx : decide (fnan x.f) = false := by simp [nx]
        by_cases ny : fnan y.f
        · have hdy : decide (fnan y.f) = true := by simp [ny]
          have HV := Lib.hid (Key.vord_lt (a := x) (b := y) (HVL.out.2 (.inl ⟨nx, ny⟩)))
          clear nx ny
          refine wp_region_plan (.take 0 (.take 1 (.take 3 (.take 4 (.run 2 [3, 4] (.run 5 [] (.take 6 (.take 7 .fin)))))))) (by kernel_rfl) (by kernel_rfl) (by kernel_rfl) (by kernel_rfl) ?_
          repeat' (first | (refine hZ _ _ ?_; clear hZ) | (refine hZ _ ?_; clear hZ) | (refine hZ ?_; clear hZ) | rw [again_nil] | rw [walk_fin] | ((first | rw [walk_take] | rw [walk_run] | rw [again_cons]); intro Z hZ; simp only [sel, List.getElem?_toArray, List.getElem?_cons_zero, List.getElem?_cons_succ]; go_wp2_with (fail)))
          refine (isnan_any _ _ HXO.out.f1).mono ?_
          rintro e wq ⟨rfl, hwq⟩
          rw [hwq, hdx]
          clear hwq wq
          go_wp2_with fail
          repeat' (first | (refine hZ _ _ ?_; clear hZ) | (refine hZ _ ?_; clear hZ) | (refine hZ ?_; clear hZ) | rw [again_nil] | rw [walk_fin] | ((first | rw [walk_take] | rw [walk_run] | rw [again_cons]); intro Z hZ; simp only [sel, List.getElem?_toArray, List.getElem?_cons_zero, List.getElem?_cons_succ]; go_wp2_with (fail)))
          refine (isnan_any _ _ HYO.out.f1).mono ?_
          rintro e wq ⟨rfl, hwq⟩
          rw [hwq, hdy]
          clear hwq wq
          go_wp2_with fail
          repeat' (first | (refine hZ _ _ ?_; clear hZ) | (refine hZ _ ?_; clear hZ) | (refine hZ ?_; clear hZ) | rw [again_nil] | rw [walk_fin] | ((first | rw [walk_take] | rw [walk_run] | rw [again_cons]); intro Z hZ; simp only [sel, List.getElem?_toArray, List.getElem?_cons_zero, List.getElem?_cons_succ]; go_wp2_with (fail)))
          go_wp2_with fail
          go_ret
          exact ⟨by rw [HX.out, HY.out, HV.out]; rfl, HB6.out.drewR⟩
        · have hdy : decide (fnan y.f) = false := by simp [ny]
          have HV : Hid (Key.vord x y = Ev.cmpI (fsg x.f) (fsg y.f)) := by
            show _ = _
            unfold Ev.cmpI
            rcases Int.lt_trichotomy (fsg x.f) (fsg y.f) with h | h | h
            · rw [if_pos h]; exact Key.vord_lt (HVL.out.2 (.inr ⟨nx, ny, h⟩))
            · rw [if_neg (by omega), if_neg (by omega)]
              exact Key.vord_eq (fun h' => (HVL.out.1 h').elim (fun h' => ny h'.2) (fun h' => absurd h'.2.2 (by omega))) (fun h' => (HVG.out.1 h').elim (fun h' => nx h'.2) (fun h' => absurd h'.2.2 (by omega)))
            · rw [if_neg (by omega), if_pos h]
              exact Key.vord_gt (fun h' => (HVL.out.1 h').elim (fun h' => ny h'.2) (fun h' => absurd h'.2.2 (by omega))) (HVG.out.2 (.inr ⟨ny, nx, h⟩))
          have HCF := Lib.hid (fun w => cmpfloat_any w x.f y.f HXO.out.f1 HYO.out.f1 nx ny)
          clear nx ny
          refine wp_region_plan (.take 0 (.take 1 (.take 3 (.take 4 (.run 2 [3, 4] (.run 5 [] (.take 6 (.take 7 .fin)))))))) (by kernel_rfl) (by kernel_rfl) (by kernel_rfl) (by kernel_rfl) ?_
          repeat' (first | (refine hZ _ _ ?_; clear hZ) | (refine hZ _ ?_; clear hZ) | (refine hZ ?_; clear hZ) | rw [again_nil] | rw [walk_fin] | ((first | rw [walk_take] | rw [walk_run] | rw [again_cons]); intro Z hZ; simp only [sel, List.getElem?_toArray, List.getElem?_cons_zero, List.getElem?_cons_succ]; go_wp2_with (fail)))
          refine (isnan_any _ _ HXO.out.f1).mono ?_
          rintro e wq ⟨rfl, hwq⟩
          rw [hwq, hdx]
          clear hwq wq
          go_wp2_with fail
          repeat' (first | (refine hZ _ _ ?_; clear hZ) | (refine hZ _ ?_; clear hZ) | (refine hZ ?_; clear hZ) | rw [again_nil] | rw [walk_fin] | ((first | rw [walk_take] | rw [walk_run] | rw [again_cons]); intro Z hZ; simp only [sel, List.getElem?_toArray, List.getElem?_cons_zero, List.getElem?_cons_succ]; go_wp2_with (fail)))
          refine (isnan_any _ _ HYO.out.f1).mono ?_
          rintro e wq ⟨rfl, hwq⟩
          rw [hwq, hdy]
          clear hwq wq
          go_wp2_with fail
          repeat' (first | (refine hZ _ _ ?_; clear hZ) | (refine hZ _ ?_; clear hZ) | (refine hZ ?_; clear hZ) | rw [again_nil] | rw [walk_fin] | ((first | rw [walk_take] | rw [walk_run] | rw [again_cons]); intro Z hZ; simp only [sel, List.getElem?_toArray, List.getElem?_cons_zero, List.getElem?_cons_succ]; go_wp2_with (fail)))
          go_wp2_with fail
          refine (HCF.out _).mono ?_
          rintro e wq ⟨rfl, rfl⟩
          go_wp2_with fail
          go_ret
          exact ⟨by rw [HX.out, HY.out, HV.out]; rfl, HB6.out.drewR⟩
    by_cases k3 : y.k = 3
    · have HVL := Lib.hid (Key.vless_text HKK.out (by rw [HKK.out]; exact k3))
      have HVG := Lib.hid (Key.vless_text HKK.out.symm k3)
      have k3' : x.k = 3 := HKK.out.trans k3
      rw [k3'] at c0
      clear k2 k3 k3'
      have HV : Hid (Key.vord x y = Lib.compareBytes x.s y.s) := by
        show _ = _
        rw [Ev.cmpB]
        unfold Key.vord
        simp only [HVL.out, HVG.out]
      go_wp2_with fail
      refine (cmpstr_any _ x.s y.s).mono ?_
      rintro e wq ⟨rfl, rfl⟩
      go_wp2_with fail
      go_ret
      exact ⟨by rw [HX.out, HY.out, HV.out]; rfl, HB6.out⟩
    · have HV : Hid (Key.vord x y = Ev.cmpI x.n y.n) := by
        show _ = _
        unfold Key.vord Ev.cmpI
        simp only [Key.vless_num HKK.out (by rw [HKK.out]; exact k2) (by rw [HKK.out]; exact k3), Key.vless_num HKK.out.symm k2 k3]
      have k2' : (x.k == 2) = false := by rw [HKK.out]; simp [k2]
      have k3' : (x.k == 3) = false := by rw [HKK.out]; simp [k3]
      clear k2 k3
      go_wp2_with fail
      refine (cmpint64_any _ x.n y.n).mono ?_
      rintro e wq ⟨rfl, rfl⟩
      go_wp2_with fail
      go_ret
      exact ⟨by rw [HX.out, HY.out, HV.out]; rfl, HB6.out⟩
  · have HV : Hid (Key.vord x y = Ev.cmpI x.k y.k) := by
      show _ = _
      unfold Key.vord Ev.cmpI
      simp only [Key.vless_kind hk, Key.vless_kind (Ne.symm hk)]
    have hkb : (x.k != y.k) = true := by simp [hk]
    clear hk
    go_wp2_with fail
    refine (cmpint_any _ x.k y.k).mono ?_
    rintro e wq ⟨rfl, rfl⟩
    go_wp2_with fail
    go_ret
    exact ⟨by rw [HX.out, HY.out, HV.out]; rfl, HB6.out⟩
end Go.Proofs.Ytjdffhonljhpcaa
end

section
/-
  Values that are alike by their order are one (printed from TurnM, EvalNodes, AnsW, SortIns for seats that lack those).
-/
namespace Go.Proofs.Ytjdffhonljhpcaa
set_option linter.unusedSimpArgs false
set_option linter.unusedVariables false
open Go.RowKit
section
variable {α : Type} {E : Elem α} {w : World} {B c g : Nat} {L : List α}
theorem EOwn.toBlk (h : EOwn E w B (some ⟨g, 0, none⟩) c L) : ∃ sp, Blk w g E.e (E.cells L ++ sp) ∧ (E.cells L ++ sp).length = c * E.sz ∧ B ≤ g ∧ L.length ≤ c ∧ c ≤ maxLen := by
  obtain ⟨hl, h | ⟨g', cap, cur, hv, hB, hg, h1, h2, h3, h4⟩⟩ := h
  · exact absurd h.1 (by simp)
  · obtain ⟨rfl, rfl⟩ : g = g' ∧ c = cap := by simpa using hv
    refine ⟨cur.toList.drop (L.length * E.sz), ?_, ?_, hB, h1, h2⟩
    · rw [← h4, List.take_append_drop]
      show _ = some _
      rw [hg]
    · rw [← h4, List.take_append_drop]
      simpa using h3
theorem EOwn.ofBlk {sp : List Value} (hb : Blk w g E.e (E.cells L ++ sp)) (hl : (E.cells L ++ sp).length = c * E.sz) (h1 : L.length ≤ c) (h2 : c ≤ maxLen) (hB : B ≤ g) : EOwn E w B (some ⟨g, 0, none⟩) c L := by
  refine ⟨E.cells_length L, .inr ⟨g, c, (E.cells L ++ sp).toArray, rfl, hB, hb, h1, h2, by simpa using hl, ?_⟩⟩
  show (E.cells L ++ sp).take _ = _
  rw [← E.cells_length L, List.take_left]
end
theorem grown_refl (w : World) (r : Option Nat) : w.grownBy w r := ⟨rfl, rfl, rfl, Nat.le_refl _, fun _ _ _ => rfl⟩
theorem grown_trans {w W W' : World} {r : Option Nat} (h : w.grownBy W r) (k : W.grownBy W' r) : w.grownBy W' r :=
  ⟨k.os.trans h.os, k.tape.trans h.tape, k.output.trans h.output, Nat.le_trans h.size k.size, fun b hb hne => (k.block b (Nat.lt_of_lt_of_le hb h.size) hne).trans (h.block b hb hne)⟩
theorem grown_drew {w W : World} {r : Option Nat} (h : w.grownBy W r) : w.grownBy W.drew r := ⟨h.os, h.tape, h.output, h.size, h.block⟩
theorem grown_belowR {w W W' : World} {row : Option Nat} (h : w.grownBy W row) (hb : Below W.heap.size W W') : w.grownBy W' row :=
  ⟨hb.os.trans h.os, hb.tape.trans h.tape, hb.output.trans h.output, Nat.le_trans h.size hb.size, fun k hk hne => (hb.block k (Nat.lt_of_lt_of_le hk h.size)).trans (h.block k hk hne)⟩
theorem grown_set {w W : World} {g : Nat} (h : w.grownBy W (some g)) (i : Nat) (u : Value) : w.grownBy (W.setCell ⟨g, i, none⟩ u) (some g) :=
  ⟨h.os, h.tape, h.output, by simpa using h.size, fun b hb hne => (heap_setCell_other W ⟨g, i, none⟩ b u (fun e => hne (by simpa using e))).trans (h.block b hb hne)⟩
namespace Key
theorem vord_eqW {x y : Va} (hx : x.ok) (hy : y.ok) (cx : Clean x) (cy : Clean y) (hk : x.k = y.k) : vord x y = 0 ↔ (x.k = y.k ∧ x.n = y.n ∧ x.s = y.s ∧ (fnan x.f ↔ fnan y.f) ∧ (fnan x.f ∨ x.f = y.f)) := by
  have hv : vord x y = 0 ↔ ¬ vless x y ∧ ¬ vless y x := by
    unfold vord
    by_cases h1 : vless x y
    · rw [if_pos h1]; simp [h1]
    · rw [if_neg h1]
      by_cases h2 : vless y x
      · rw [if_pos h2]; simp [h2]
      · rw [if_neg h2]; simp [h1, h2]
  rw [hv]
  have hn : x.k ≠ 1 → x.k ≠ 4 → x.n = y.n := fun h1 h2 => by rw [cx.nn h1 h2, cy.nn (by omega) (by omega)]
  have hf : x.k ≠ 2 → x.f = y.f := fun h1 => by rw [cx.ff h1, cy.ff (by omega)]
  have hs : x.k ≠ 3 → x.s = y.s := fun h1 => by rw [cx.ss h1, cy.ss (by omega)]
  by_cases k2 : x.k = 2
  · rw [vless_real hk k2, vless_real hk.symm (by omega)]
    constructor
    · rintro ⟨h1, h2⟩
      refine ⟨hk, hn (by omega) (by omega), hs (by omega), ?_⟩
      by_cases nx : fnan x.f <;> by_cases ny : fnan y.f
      · exact ⟨⟨fun _ => ny, fun _ => nx⟩, .inl nx⟩
      · exact absurd (.inl ⟨ny, nx⟩) h2
      · exact absurd (.inl ⟨nx, ny⟩) h1
      · refine ⟨⟨fun h => absurd h nx, fun h => absurd h ny⟩, .inr (fsg_inj hx.f1 hy.f1 cx.zz cy.zz ?_)⟩
        have a1 : ¬ fsg x.f < fsg y.f := fun h => h1 (.inr ⟨nx, ny, h⟩)
        have a2 : ¬ fsg y.f < fsg x.f := fun h => h2 (.inr ⟨ny, nx, h⟩)
        exact Int.le_antisymm (Int.not_lt.1 a2) (Int.not_lt.1 a1)
    · rintro ⟨-, -, -, h1, h2⟩
      constructor
      · rintro (⟨a, b⟩ | ⟨a, b, c⟩)
        · exact a (h1.2 b)
        · rcases h2 with h2 | h2
          · exact a h2
          · rw [h2] at c; omega
      · rintro (⟨a, b⟩ | ⟨a, b, c⟩)
        · exact a (h1.1 b)
        · rcases h2 with h2 | h2
          · exact b h2
          · rw [h2] at c; omega
  by_cases k3 : x.k = 3
  · rw [vless_text hk k3, vless_text hk.symm (by omega)]
    have hff := hf (by omega)
    constructor
    · rintro ⟨h1, h2⟩
      exact ⟨hk, hn (by omega) (by omega), less_total _ _ (by simpa using h1) (by simpa using h2), by rw [hff], .inr hff⟩
    · rintro ⟨-, -, h, -⟩
      rw [h, less_irrefl]; simp
  · rw [vless_num hk k2 k3, vless_num hk.symm (by omega) (by omega)]
    have hff := hf (by omega)
    constructor
    · rintro ⟨h1, h2⟩
      exact ⟨hk, by omega, hs k3, by rw [hff], .inr hff⟩
    · rintro ⟨-, h, -⟩
      omega
end Key
namespace Ev
open Key
theorem clean_is (v : Va) : Key.Clean (Key.clean v) := by
  unfold Key.clean Key.cleanF
  by_cases h1 : v.k = 1
  · rw [if_pos h1]; constructor <;> simp
  rw [if_neg h1]
  by_cases h2 : v.k = 2
  · rw [if_pos h2]; constructor <;> simp
    unfold Key.real1
    split
    · intro h; omega
    · split <;> omega
  rw [if_neg h2]
  by_cases h3 : v.k = 3
  · rw [if_pos h3]; constructor <;> simp
  rw [if_neg h3]
  by_cases h4 : v.k = 4
  · rw [if_pos h4]; constructor <;> simp
    exact Decidable.em _
  rw [if_neg h4]; constructor <;> simp [Key.nul]
theorem eq_of_vord {x y : Va} (hx : x.ok) (hy : y.ok) (cx : clean x = x) (cy : clean y = y) (h : vord x y = 0) : x = y := by
  have kx : Key.Clean x := by rw [← cx]; exact clean_is x
  have ky : Key.Clean y := by rw [← cy]; exact clean_is y
  have hv : ¬ vless x y ∧ ¬ vless y x := by
    unfold vord at h
    by_cases h1 : vless x y
    · rw [if_pos h1] at h; omega
    · rw [if_neg h1] at h
      by_cases h2 : vless y x
      · rw [if_pos h2] at h; omega
      · exact ⟨h1, h2⟩
  have hk : x.k = y.k := by
    have a : ¬ (x.k < y.k) := fun e => hv.1 (.inl e)
    have b : ¬ (y.k < x.k) := fun e => hv.2 (.inl e)
    omega
  obtain ⟨-, hn, hs, hf, hg⟩ := (vord_eqW hx hy kx ky hk).1 h
  have hff : x.f = y.f := by
    rcases hg with hg | hg
    · have hg2 := hf.1 hg
      have r : ∀ {z : Va}, clean z = z → fnan z.f → z.f = 9221120237041090561 := fun {z} cz hz => by
        by_cases k2 : z.k = 2
        · have e : clean z = ⟨2, 0, real1 z.f, []⟩ := by unfold clean cleanF; simp [k2]
          have e2 : z.f = real1 z.f := by
            have := congrArg Va.f e
            rw [cz] at this
            exact this
          rw [e2]
          unfold real1
          rw [if_pos hz]
        · exfalso
          have := (show Key.Clean z by rw [← cz]; exact clean_is z).ff k2
          rw [this] at hz
          revert hz
          decide
      rw [r cx hg, r cy hg2]
    · exact hg
  obtain ⟨a, b, c, d⟩ := x
  obtain ⟨a', b', c', d'⟩ := y
  simp only at hk hn hs hff
  subst hk hn hs hff
  rfl
end Ev
end Go.Proofs.Ytjdffhonljhpcaa
end

section
/-
  The kit's laying of slices.SortFunc at values, in plain words (printed by tools/laytext.py for the seat of round r15).
-/
namespace Go.Proofs.Ytjdffhonljhpcaa
set_option linter.unusedSimpArgs false
set_option linter.unusedVariables false
open Go.Shelf
def laySortVa_ren : Go.Shelf.Ren := ⟨fun | 6 => 30 | 15 => 65 | 14 => 64 | 28 => 108 | 29 => 109 | 20 => 100 | 21 => 101 | 22 => 102 | 23 => 103 | 24 => 104 | 25 => 105 | 26 => 106 | 27 => 107 | 46 => 138 | 47 => 139 | 48 => 140 | 49 => 141 | 50 => 142 | 57 => 158 | n => n, fun | 22 => 32 | 24 => 35 | 25 => 74 | 3 => 3 | 39 => 37 | 0 => 0 | 53 => 147 | 55 => 133 | 4 => 4 | 46 => 141 | 45 => 140 | 50 => 125 | 5 => 5 | 9 => 9 | 66 => 165 | 70 => 169 | 76 => 180 | 77 => 181 | n => n, fun | n => n⟩
theorem laySortVa : Go.Proofs.SlLaysF0.n6 Try.prog laySortVa_ren := {
  mixed := by kernel_rfl
  f6 := ⟨Try.f30.name, by decide, Try.func30.trans (congrArg some (by kernel_rfl))⟩
  f14 := ⟨Try.f64.name, by decide, Try.func64.trans (congrArg some (by kernel_rfl))⟩
  f15 := Try.func65.trans (congrArg some (by kernel_rfl))
  f20 := ⟨Try.f100.name, by decide, Try.func100.trans (congrArg some (by kernel_rfl))⟩
  f21 := ⟨Try.f101.name, by decide, Try.func101.trans (congrArg some (by kernel_rfl))⟩
  f22 := ⟨Try.f102.name, by decide, Try.func102.trans (congrArg some (by kernel_rfl))⟩
  f23 := ⟨Try.f103.name, by decide, Try.func103.trans (congrArg some (by kernel_rfl))⟩
  f24 := ⟨Try.f104.name, by decide, Try.func104.trans (congrArg some (by kernel_rfl))⟩
  f25 := ⟨Try.f105.name, by decide, Try.func105.trans (congrArg some (by kernel_rfl))⟩
  f26 := ⟨Try.f106.name, by decide, Try.func106.trans (congrArg some (by kernel_rfl))⟩
  f27 := ⟨Try.f107.name, by decide, Try.func107.trans (congrArg some (by kernel_rfl))⟩
  f28 := Try.func108.trans (congrArg some (by kernel_rfl))
  f29 := Try.func109.trans (congrArg some (by kernel_rfl))
  f46 := ⟨Try.f138.name, by decide, Try.func138.trans (congrArg some (by kernel_rfl))⟩
  f47 := Try.func139.trans (congrArg some (by kernel_rfl))
  f48 := Try.func140.trans (congrArg some (by kernel_rfl))
  f49 := ⟨Try.f141.name, by decide, Try.func141.trans (congrArg some (by kernel_rfl))⟩
  f50 := ⟨Try.f142.name, by decide, Try.func142.trans (congrArg some (by kernel_rfl))⟩
  f57 := ⟨Try.f158.name, by decide, Try.func158.trans (congrArg some (by kernel_rfl))⟩
  t0 := Try.underlying0
  a0 := Try.isAgg0
  z0 := Try.sizeOf0
  v0 := Try.zeroValue0
  t3 := Try.underlying3
  a3 := Try.isAgg3
  z3 := Try.sizeOf3
  v3 := Try.zeroValue3
  t4 := Try.underlying4
  a4 := Try.isAgg4
  z4 := Try.sizeOf4
  v4 := Try.zeroValue4
  t5 := Try.underlying5
  a5 := Try.isAgg5
  z5 := Try.sizeOf5
  v5 := Try.zeroValue5
  t9 := Try.underlying9
  a9 := Try.isAgg9
  z9 := Try.sizeOf9
  v9 := Try.zeroValue9
  t22 := Try.underlying32
  a22 := Try.isAgg32
  z22 := Try.sizeOf32
  v22 := Try.zeroValue32
  t25 := Try.underlying74
  a25 := Try.isAgg74
  z25 := Try.sizeOf74
  v25 := Try.zeroValue74
  t39 := Try.underlying37
  a39 := Try.isAgg37
  z39 := Try.sizeOf37
  v39 := Try.zeroValue37
  t45 := Try.underlying140
  a45 := Try.isAgg140
  z45 := Try.sizeOf140
  v45 := Try.zeroValue140
  t46 := Try.underlying141
  a46 := Try.isAgg141
  z46 := Try.sizeOf141
  v46 := Try.zeroValue141
  t50 := Try.underlying125
  a50 := Try.isAgg125
  z50 := Try.sizeOf125
  v50 := Try.zeroValue125
  t53 := Try.underlying147
  a53 := Try.isAgg147
  z53 := Try.sizeOf147
  v53 := Try.zeroValue147
  t55 := Try.underlying133
  a55 := Try.isAgg133
  z55 := Try.sizeOf133
  v55 := Try.zeroValue133
  t66 := Try.underlying165
  a66 := Try.isAgg165
  z66 := Try.sizeOf165
  v66 := Try.zeroValue165
  t70 := Try.underlying169
  a70 := Try.isAgg169
  z70 := Try.sizeOf169
  v70 := Try.zeroValue169
  t76 := Try.underlying180
  a76 := Try.isAgg180
  z76 := Try.sizeOf180
  v76 := Try.zeroValue180
  t77 := Try.underlying181
  a77 := Try.isAgg181
  z77 := Try.sizeOf181
  v77 := Try.zeroValue181 }
end Go.Proofs.Ytjdffhonljhpcaa
end

section
/-
  The contract of slices.SortFunc at values, by the kit's own.
-/
namespace Go.Proofs.Ytjdffhonljhpcaa
set_option linter.unusedSimpArgs false
set_option linter.unusedVariables false
open Go.RowKit Go.Shelf Go.Sort

namespace Srt
theorem sorted_unique {α : Type} {cmp : α → α → Int} (ho : Ord cmp) : ∀ (X Y : List α), Sorted cmp X → Sorted cmp Y → X.Perm Y → (∀ x ∈ X, ∀ y ∈ X, cmp x y = 0 → x = y) → X = Y
  | [], Y, _, _, hp, _ => hp.symm.eq_nil.symm
  | x :: X, [], _, _, hp, _ => by cases hp.eq_nil
  | x :: X, y :: Y, hX, hY, hp, he => by
    obtain ⟨h1, h2⟩ := List.pairwise_cons.1 hX
    obtain ⟨k1, k2⟩ := List.pairwise_cons.1 hY
    have hy : y ∈ x :: X := hp.mem_iff.2 (by simp)
    have hx : x ∈ y :: Y := hp.mem_iff.1 (by simp)
    have e : x = y := by
      refine he x (by simp) y hy ?_
      have a : ¬ cmp y x < 0 := by
        rcases List.mem_cons.1 hy with e | hy
        · rw [e, ho.self]; omega
        · exact h1 y hy
      have b : ¬ cmp x y < 0 := by
        rcases List.mem_cons.1 hx with e | hx
        · rw [e, ho.self]; omega
        · exact k1 x hx
      have := ho.anti x y
      omega
    subst e
    rw [sorted_unique ho X Y h2 k2 ((List.perm_cons x).1 hp) (fun a ha b hb => he a (by simp [ha]) b (by simp [hb]))]
end Srt
/-- A value that may be. -/
structure OkV where
  v : Va
  ok : v.ok
instance : Inhabited OkV := ⟨⟨Key.nul, Ev.nul_ok⟩⟩
def OkV.cmp (x y : OkV) : Int := Key.vord (Key.clean x.1) (Key.clean y.1)
theorem okv_ord : Srt.Ord OkV.cmp := Key.vord_ord.on fun x : OkV => Key.clean x.1
theorem okv_swo : Go.Sort.SWO (ltOf OkV.cmp) where
  irrefl x := by unfold ltOf; rw [okv_ord.self]; rfl
  trans x y z h1 h2 := by
    unfold ltOf at *
    rw [decide_eq_true_iff] at *
    exact okv_ord.lt_trans h1 h2
  ntrans x y z h1 h2 := by
    unfold ltOf at *
    rw [decide_eq_false_iff_not] at *
    exact okv_ord.le_trans h2 h1

theorem grow_of_up {W w' : World} (h : Up W.heap.size W w') : ∃ q os', w' = Go.Sort.grow (W.drewN q) os' := by
  refine ⟨w'.drawn - W.drawn, w'.heap.extract W.heap.size w'.heap.size, ?_⟩
  have hs := h.b.size
  have hd := h.d
  have hh : w'.heap = W.heap ++ w'.heap.extract W.heap.size w'.heap.size := by
    apply Array.ext_getElem?
    intro k
    rw [Array.getElem?_append]
    split
    · next hk => exact h.b.block k hk
    · next hk =>
      rw [Array.getElem?_extract]
      by_cases hk2 : k < w'.heap.size
      · rw [if_pos (by omega)]
        congr 1
        omega
      · rw [if_neg (by omega), Array.getElem?_eq_none (by omega)]
  have h1 := h.b.os
  have h2 := h.b.tape
  have h3 := h.b.output
  have h4 : w'.drawn = W.drawn + (w'.drawn - W.drawn) := by omega
  generalize w'.heap.extract W.heap.size w'.heap.size = os' at hh
  generalize w'.drawn - W.drawn = q at h4
  obtain ⟨a, b, c, d, e⟩ := w'
  obtain ⟨a', b', c', d', e'⟩ := W
  simp only at h1 h2 h3 h4 hh
  subst h1 h2 h3 h4 hh
  rfl
def OkV.enc (x : OkV) : List Value := x.1.cells
theorem cmp_lays (blk off size : Nat) (w : World) : CmpLays Try.prog 31 #[] OkV.enc 4 OkV.cmp blk off size w := by
  intro m os dk _ x y
  refine (show Calls Try.prog 31 #[x.1.v, y.1.v] _ _ from pord_u _ x.1 y.1 x.2 y.2).mono ?_
  rintro e w' ⟨rfl, hu⟩
  exact ⟨rfl, grow_of_up hu⟩
theorem okv_flat (d : Array OkV) (k : Nat) (h : k < d.size * 4) : ∃ hk : k / 4 < d.size, (flatK OkV.enc 4 d)[k]! = (d[k / 4].1.cells)[k % 4]! := by
  have hk : k / 4 < d.size := by omega
  refine ⟨hk, ?_⟩
  rw [get_flatK OkV.enc 4 d k h]
  unfold OkV.enc
  rw [getElem!_pos d (k / 4) hk]
theorem va_cells_get (L : List Va) {k : Nat} (h : k < L.length * 4) : (eVa.cells L)[k]? = (L[k / 4]'(by omega)).cells[k % 4]? := by
  have := eVa.cells_get L (k / 4) (k % 4) (by omega) (by show k % 4 < 4; omega)
  rw [show k / 4 * eVa.sz + k % 4 = k by show k / 4 * 4 + k % 4 = k; omega] at this
  exact this
theorem va_four (v : Va) {j : Nat} (h : j < 4) : v.cells[j]? = some v.cells[j]! := by
  have hl : v.cells.length = 4 := rfl
  rw [getElem!_pos v.cells j (by omega), List.getElem?_eq_getElem (by omega)]
set_option maxHeartbeats 2000000 in
theorem sortv_any (w : World) (B : Nat) (A : Option Addr) (c : Nat) (L : List Va) (ho : EOwn eVa w B A c L) (hok : ∀ v ∈ L, v.ok) (hcl : ∀ v ∈ L, Key.clean v = v) (hlen : L.length ≤ 1000000) :
    Calls Try.prog 30 #[.slice A L.length c, .func (.func 31) #[] #[]] w fun e w' => e = .returned (.tuple #[]) ∧ EOwn eVa w' B A c (Srt.ssort Key.vord L) ∧ w.grownBy w' (A.map (·.block)) := by
  rcases ho.form with ⟨rfl, rfl, rfl⟩ | ⟨g, rfl, hBg, hgl, -, -, -⟩
  · refine (AnyF.slices_SortFunc_none laySortVa none 0 (.func (.func 31) #[] #[]) w).mono ?_
    rintro e w' ⟨rfl, hw⟩
    subst hw
    exact ⟨rfl, ho, grown_refl _ _⟩
  · obtain ⟨sp, hb, hsl, -, hlc, hcm⟩ := ho.toBlk
    obtain ⟨d, hd⟩ : ∃ d : Array OkV, d = (L.pmap OkV.mk hok).toArray := ⟨_, rfl⟩
    have hds : d.size = L.length := by rw [hd]; simp
    have hdm : d.toList.map (·.1) = L := by rw [hd]; simp [List.map_pmap]
    have hdg : ∀ (i : Nat) (h : i < d.size), d[i].1 = L[i]'(by omega) := fun i h => by
      have e : (d.toList.map (·.1))[i]? = L[i]? := by rw [hdm]
      simpa [h, show i < L.length by omega] using e
    have hH : HoldsK OkV.enc 4 w g 0 d := by
      intro j hj
      rw [size_flatK] at hj
      refine ⟨?_, hb.free _⟩
      obtain ⟨hk, e⟩ := okv_flat d j hj
      rw [hb.cell, Nat.zero_add, List.getElem?_append_left (by rw [Elem.cells_length]; show j < L.length * 4; omega), va_cells_get L (by omega), e, hdg]
      exact va_four _ (by omega)
    have eg : ∀ args w, (callFunc 31 args).run Try.prog w = .ok (.enter 31 args) w := enters_of Try.func31 (by kernel_rfl) rfl
    have hcon := AnyQ.slices_SortFunc laySortVa 4 Try.isAgg35 Try.sizeOf35 OkV.enc (fun _ => rfl) (fun x v hv => x.1.cells_one v hv) OkV.cmp okv_swo 31 #[] g 0 c d w eg (cmp_lays g 0 d.size w) hH hgl (by omega)
    rw [hds] at hcon
    refine (show Calls Try.prog 30 _ _ _ from hcon).mono ?_
    rintro e w' ⟨rfl, d', n, os, hp, hs, rfl⟩
    have hd's : d'.size = L.length := hp.1.trans hds
    have hperm : (d'.toList.map (·.1)).Perm L := by
      have h := hp.2.2
      rw [show d'.extract 0 L.length = d' by rw [← hd's]; simp, show d.extract 0 L.length = d by rw [← hds]; simp] at h
      rw [← hdm]
      exact h.map _
    have hmem : ∀ (i : Nat) (h : i < d'.size), d'[i].1 ∈ L := fun i h => hperm.mem_iff.1 (List.mem_map.2 ⟨d'[i], by simp, rfl⟩)
    have hsort : Srt.Sorted Key.vord (d'.toList.map (·.1)) := by
      refine List.pairwise_iff_getElem.2 fun i j hi hj hij => ?_
      rw [List.length_map, Array.length_toList] at hi hj
      have h := hs i j (Nat.zero_le _) hij (by omega)
      rw [getElem!_pos d' i hi, getElem!_pos d' j hj] at h
      unfold ltOf OkV.cmp at h
      rw [decide_eq_false_iff_not, hcl _ (hmem i hi), hcl _ (hmem j hj)] at h
      simpa using h
    have hL' : d'.toList.map (·.1) = Srt.ssort Key.vord L := by
      refine Srt.sorted_unique Key.vord_ord _ _ hsort (Srt.ssort_sorted Key.vord_ord L) (hperm.trans (Srt.ssort_perm _ L).symm) fun x hx y hy h0 => ?_
      have hx := hperm.mem_iff.1 hx
      have hy := hperm.mem_iff.1 hy
      exact Ev.eq_of_vord (hok x hx) (hok y hy) (hcl x hx) (hcl y hy) h0
    rw [← hL']
    have hdg' : ∀ (i : Nat) (h : i < d'.size), d'[i].1 = (d'.toList.map (·.1))[i]'(by simpa using h) := fun i h => by simp
    have hheap : ∀ k, k < w.heap.size → (sortWorldK OkV.enc 4 w g 0 n d' os).heap[k]? = if g = k then (w.heap[k]?).map (Go.Sort.onCells (Go.Sort.putCells id 0 (flatK OkV.enc 4 d'))) else w.heap[k]? := fun k hk => by
      unfold sortWorldK putRowK Go.Sort.putRow Go.Sort.mapBlock Go.Sort.grow
      show ((w.heap.modify g _) ++ os)[k]? = _
      rw [Array.getElem?_append_left (by simpa using hk), Array.getElem?_modify]
    have hsz : w.heap.size ≤ (sortWorldK OkV.enc 4 w g 0 n d' os).heap.size := by
      unfold sortWorldK putRowK Go.Sort.putRow Go.Sort.mapBlock Go.Sort.grow
      show _ ≤ ((w.heap.modify g _) ++ os).size
      simp
    have hl4 : (d'.toList.map (·.1)).length = L.length := by simpa using hd's
    refine ⟨rfl, ?_, ⟨rfl, rfl, rfl, hsz, fun k hk hne => ?_⟩⟩
    · rw [← hl4] at hlc
      refine EOwn.ofBlk (sp := sp) ?_ ?_ hlc hcm hBg
      · show (sortWorldK OkV.enc 4 w g 0 n d' os).heap[g]? = _
        rw [hheap g hgl, if_pos rfl, show w.heap[g]? = _ from hb]
        show some (Go.Obj.cells _ _ _) = _
        congr 2
        apply Array.ext_getElem?
        intro k
        unfold Go.Sort.putCells
        rw [Array.getElem?_mapIdx, List.getElem?_toArray, List.getElem?_toArray]
        by_cases hk : k < L.length * 4
        · obtain ⟨hkd, e⟩ := okv_flat d' k (by omega)
          rw [List.getElem?_append_left (by rw [Elem.cells_length]; exact hk), List.getElem?_append_left (by rw [Elem.cells_length, hl4]; exact hk), va_cells_get _ hk, va_cells_get _ (by rw [hl4]; exact hk), va_four _ (by omega), va_four _ (by omega), Option.map_some, if_pos ⟨Nat.zero_le _, by rw [size_flatK]; omega⟩]
          congr 1
          show (flatK OkV.enc 4 d')[k - 0]! = _
          rw [Nat.sub_zero, e, hdg' _ hkd]
        · rw [List.getElem?_append_right (by rw [Elem.cells_length]; show L.length * 4 ≤ k; omega), List.getElem?_append_right (by rw [Elem.cells_length, hl4]; show L.length * 4 ≤ k; omega), Elem.cells_length, Elem.cells_length, hl4]
          cases sp[k - L.length * eVa.sz]? with
          | none => rfl
          | some x => rw [Option.map_some, if_neg (by rw [size_flatK]; omega)]
      · have : (eVa.cells (d'.toList.map (·.1)) ++ sp).length = (eVa.cells L ++ sp).length := by rw [List.length_append, List.length_append, Elem.cells_length, Elem.cells_length, hl4]
        rw [this]; exact hsl
    · rw [hheap k hk, if_neg]
      intro e
      subst e
      exact hne rfl
end Go.Proofs.Ytjdffhonljhpcaa
end

section
/-
  The contracts of stats.clean and stats.Share.
-/
namespace Go.Proofs.Ytjdffhonljhpcaa
set_option linter.unusedSimpArgs false
set_option linter.unusedVariables false
open Go.RowKit

namespace Ev
def rowsN (r : Int) : Int := near r 1099511627776
def clnC (r : Int) (c : Cs) : Cs := ⟨near c.d (rowsN r), near c.n (rowsN r), c.a, c.b, c.c⟩
def sameN (b d : Int) : Int := if 0 < d then max 1 (b / d) else 0
theorem sameN_le {b d : Int} (h0 : 0 ≤ b) (h1 : b ≤ 1000) : 0 ≤ sameN b d ∧ sameN b d ≤ 1000 := by
  unfold sameN
  split
  · next h =>
    have h2 : b / d ≤ 1000 := Int.ediv_le_of_le_mul h (by have : 1000 * 1 ≤ 1000 * d := Int.mul_le_mul_of_nonneg_left (by omega) (by omega); omega)
    omega
  · omega
/-- How many of a thousand rows are guessed, of clean r, c and v. -/
def share (r : Int) (c : Cs) (op : List UInt8) (v : Va) : Int :=
  if r = 0 ∨ v.k = 0 then 0 else
  if op = [61] then sameN (1000 * (r - c.n) / r) c.d else
  if op = [60, 62] then max 0 (1000 * (r - c.n) / r - sameN (1000 * (r - c.n) / r) c.d) else
  if op = [60] then belowN (1000 * (r - c.n) / r) v c.b (fun b => decide (b < v.n)) else
  if op = [60, 61] then belowN (1000 * (r - c.n) / r) v c.b (fun b => decide (b ≤ v.n)) else
  if op = [62] then belowN (1000 * (r - c.n) / r) v c.b (fun b => decide (v.n < b)) else
  if op = [62, 61] then belowN (1000 * (r - c.n) / r) v c.b (fun b => decide (v.n ≤ b)) else (1000 * (r - c.n) / r) / 3
def shareN (r : Int) (c : Cs) (op : List UInt8) (v : Va) : Int := share (rowsN r) (clnC r c) op (Key.clean v)
theorem near_mm (n m : Int) : max 0 (min n m) = near n m := by unfold near; (repeat' split) <;> omega
theorem rowsN_le (r : Int) : 0 ≤ rowsN r ∧ rowsN r ≤ 1099511627776 := near_le (by omega)
end Ev
theorem ret_mem2r {P : Program} {fn : Func} {R : Ending → World → Prop} {a : Act} {w : World} {p u : Tmp} {T : TypeId} {x : Addr} {v y : Value} (h : fn.results = #[.tmp u, .cell p T]) (hd : a.defers = [])
    (hp : a.tmps.getD p undef = .pointer (some x)) (hu : a.tmps.getD u undef = y) (hv : (loadVar T x).run P w = .ok v w) (hR : R (.returned (.tuple #[y, v])) w) : bodyPost P fn R .ret a w := by
  refine bodyPost_ret (v := .tuple #[y, v]) ?_ hd hR
  have e : (results fn a.tmps).run P w = ((asAddr (a.tmps.getD p undef)).run P w).andThen fun b w1 => ((loadVar T b).run P w1).andThen fun v w2 => .ok (.tuple #[a.tmps.getD u undef, v]) w2 := by
    simp only [results, h]
    simp [Sem.run_bind, Result.andThen]
  rw [e, hp, hu]
  show (((loadVar T x).run P w).andThen _) = _
  rw [hv]
  rfl
set_option maxRecDepth 20000 in
set_option maxHeartbeats 4000000 in
theorem stclean_any (w : World) (r : Int) (c : Cs) : Calls Try.prog 33 #[.int .i64 r, c.v] w fun e w' => e = .returned (.tuple #[.int .i64 (Ev.rowsN r), (Ev.clnC r c).v]) ∧ Below w.heap.size w w' := by
  go_enter Try.func33, Try.ntmps33
  go_upto_region 1 with (first | (refine wpList_box_cs rfl (.tmp 1) rfl c rfl ?_; intro W1 hb1 hz1 hB1) | (refine wpList_alloc_cs rfl rfl ?_; intro W2 hb2 hz2 hB2))
  have h12 := hb1.below hB2
  have HB2 := Lib.hid (hB1.then hB2)
  have h13 : w.heap.size < W1.heap.size := by omega
  clear hb1 hB1 hB2 hz1
  generalize hg5 : W1.heap.size = g5 at hb2 h13 ⊢
  have hgw : w.heap.size ≤ g5 := by omega
  generalize hg3 : w.heap.size = g3 at h12 h13 ⊢
  have HG := Lib.hid (And.intro hg3 hg5)
  clear hg3 hg5 hz2
  obtain ⟨c0, c1, c2, f0, f1, f2, -⟩ := Blk.c3 h12
  go_upto_region 2 with fail
  obtain ⟨R, hR⟩ : ∃ R, Ev.rowsN r = R := ⟨_, rfl⟩
  have hR' : max 0 (min r 1099511627776) = R := (Ev.near_mm r 1099511627776).trans hR
  rw [hR']
  have HR := Lib.hid hR
  clear hR hR'
  go_upto_region 3 with fail
  obtain ⟨N, hN⟩ : ∃ N, Ev.near c.n R = N := ⟨_, rfl⟩
  have hN' : max 0 (min c.n R) = N := (Ev.near_mm c.n R).trans hN
  rw [hN']
  have HN := Lib.hid hN
  have h15 : Blk (W2.setCell ⟨g3, 1, none⟩ (.int .i64 N)) g3 31 (Cs.cells { c with n := N }) := h12.set 1 _
  have hb5 : Blk (W2.setCell ⟨g3, 1, none⟩ (.int .i64 N)) g5 31 Cs.nul.cells := hb2.other ⟨g3, 1, none⟩ (by show g5 ≠ g3; omega) _
  have HB5 : Hid (Below w.heap.size w (W2.setCell ⟨g3, 1, none⟩ (.int .i64 N))) := HB2.out.setCell (by show w.heap.size ≤ g3; have := HG.out.1; omega) _
  clear hN hN' h12 hb2 c0 c1 c2 f0 f1 f2
  generalize W2.setCell ⟨g3, 1, none⟩ (.int .i64 N) = W5 at h15 hb5 HB5 ⊢
  obtain ⟨c0, c1, c2, f0, f1, f2, -⟩ := Blk.c3 h15
  go_upto_region 4 with fail
  obtain ⟨D, hD⟩ : ∃ D, Ev.near c.d R = D := ⟨_, rfl⟩
  have hD' : max 0 (min c.d R) = D := (Ev.near_mm c.d R).trans hD
  rw [hD']
  have HD := Lib.hid hD
  have h16 : Blk (W5.setCell ⟨g3, 0, none⟩ (.int .i64 D)) g3 31 (Cs.cells ⟨D, N, c.a, c.b, c.c⟩) := h15.set 0 _
  have hb6 : Blk (W5.setCell ⟨g3, 0, none⟩ (.int .i64 D)) g5 31 Cs.nul.cells := hb5.other ⟨g3, 0, none⟩ (by show g5 ≠ g3; omega) _
  have HB6 : Hid (Below w.heap.size w (W5.setCell ⟨g3, 0, none⟩ (.int .i64 D)).drew) := (HB5.out.setCell (by show w.heap.size ≤ g3; have := HG.out.1; omega) _).drewR
  clear hD hD' h15 hb5 c0 c1 c2 f0 f1 f2
  generalize W5.setCell ⟨g3, 0, none⟩ (.int .i64 D) = W6 at h16 hb6 HB6 ⊢
  have h16d := h16.drew
  have hb6d := hb6.drew
  refine wp_region_plan (.take 0 (.take 1 (.take 2 (.run 3 [] .fin)))) (by kernel_rfl) (by kernel_rfl) (by kernel_rfl) (by kernel_rfl) ?_
  repeat' (first | (refine hZ _ _ ?_; clear hZ) | (refine hZ _ ?_; clear hZ) | (refine hZ ?_; clear hZ) | rw [again_nil] | rw [walk_fin] | ((first | rw [walk_take] | rw [walk_run] | rw [again_cons]); intro Z hZ; simp only [sel, List.getElem?_toArray, List.getElem?_cons_zero, List.getElem?_cons_succ]; go_wp2_with (first | (refine wpList_load_cs rfl (.tmp 3) rfl g3 rfl h16d ?_) | (refine wpList_store_cs rfl rfl (.tmp 5) (.tmp 22) rfl g5 rfl ⟨D, N, c.a, c.b, c.c⟩ rfl hb6d ?_; intro W7 hb7 hg7))))
  all_goals
    go_wp2_with fail
    refine ret_mem2r rfl rfl rfl rfl hb7.cs ⟨?_, below_of_grown HB6.out hg7 (by have := HG.out.1; omega) HB6.out.size⟩
    unfold Ev.clnC
    rw [HR.out, HN.out, HD.out]
    rfl
set_option maxRecDepth 100000 in
set_option maxHeartbeats 8000000 in
theorem share_any (w : World) (r : Int) (c : Cs) (op : List UInt8) (v : Va) (hv : v.ok) (hr : ERow eI64 w c.a c.b) (hl : c.b.length ≤ 1000) :
    Calls Try.prog 13 #[.int .i64 r, c.v, txt op, v.v] w fun e w' => e = .returned (.int .i64 (Ev.shareN r c op v)) ∧ Below w.heap.size w w' := by
  have HV := Lib.hid hv
  have HRW := Lib.hid hr
  clear hv hr
  have hmf : ∀ (fn : Fn) (first cap : Array Value) (w : World), (Instr.makeFunc fn first cap).run Try.prog w = .ok (.func fn first cap) w := fun _ _ _ _ => rfl
  obtain ⟨D, hDD⟩ : ∃ D, Ev.shareN r c op v = D := ⟨_, rfl⟩
  rw [hDD]
  have HDD : Hid (Ev.share (Ev.rowsN r) (Ev.clnC r c) op (Key.clean v) = D) := hDD
  clear hDD
  go_enter Try.func13, Try.ntmps13
  go_upto_region 1 with (first | (refine wpList_box_cs rfl (.tmp 1) rfl c rfl ?_; intro W1 hb1 hz1 hB1) | (refine wpList_box_va rfl (.tmp 3) rfl v rfl ?_; intro W2 hb2 hz2 hB2))
  have h12 := hb1.below hB2
  have HB2 := Lib.hid (hB1.then hB2)
  have h57 : w.heap.size < W1.heap.size := by omega
  clear hb1 hB1 hB2 hz1
  obtain ⟨g7, hg7⟩ : ∃ g, W1.heap.size = g := ⟨_, rfl⟩
  obtain ⟨g5, hg5⟩ : ∃ g, w.heap.size = g := ⟨_, rfl⟩
  rw [hg7] at hb2 h57
  rw [hg5] at h12 h57
  rw [hg7, hg5]
  have HG5 := Lib.hid hg5
  clear hg7 hg5 hz2
  go_wp2_with (refine wpList_load_cs rfl (.tmp 5) rfl g5 rfl h12 ?_)
  refine (stclean_any W2 r c).mono ?_
  rintro e W3 ⟨rfl, hB3⟩
  have h13 := h12.below hB3
  have hb3 := hb2.below hB3
  have HB3 := Lib.hid (HB2.out.then hB3)
  clear hB3 h12 hb2
  have hR := Ev.rowsN_le r
  have hN := Ev.near_le (n := c.n) hR.1
  have hD := Ev.near_le (n := c.d) hR.1
  have hcb : (Ev.clnC r c).b = c.b ∧ (Ev.clnC r c).a = c.a := ⟨rfl, rfl⟩
  have hcd : 0 ≤ (Ev.clnC r c).d ∧ (Ev.clnC r c).d ≤ Ev.rowsN r := hD
  have hcn : 0 ≤ (Ev.clnC r c).n ∧ (Ev.clnC r c).n ≤ Ev.rowsN r := hN
  have HCL : Hid ((Ev.clnC r c).b.length ≤ 1000) := hl
  have HRC : Hid (ERow eI64 w (Ev.clnC r c).a (Ev.clnC r c).b) := HRW.out
  generalize Ev.clnC r c = c' at hcb hcd hcn HCL HRC HDD ⊢
  generalize Ev.rowsN r = R at hR hcd hcn HDD ⊢
  clear hN hD hcb
  go_upto_region 2 with (refine wpList_store_cs rfl rfl (.tmp 5) (.tmp 17) rfl g5 rfl c' rfl h13 ?_; intro W4 hb4 hg4)
  have h74 := hb3.grown hg4 (by simp; omega)
  have HB4 : Hid (Below w.heap.size w W4) := below_of_grown HB3.out hg4 (by have := HG5.out; omega) HB3.out.size
  clear h13 hb3 hg4
  go_wp2_with (refine wpList_load_va rfl (.tmp 7) rfl g7 rfl h74 ?_)
  refine (clean_any W4 v HV.out).mono ?_
  rintro e W5 ⟨rfl, hB5⟩
  have hb5 := hb4.below hB5
  have h75 := h74.below hB5
  have HB5 := Lib.hid (HB4.out.then hB5)
  clear hB5 hb4 h74
  generalize Key.clean v = u at HDD ⊢
  go_upto_region 3 with (refine wpList_store_va rfl rfl (.tmp 7) (.tmp 19) rfl g7 rfl u rfl h75 ?_; intro W6 hb7 hg7)
  have hb56 := hb5.grown hg7 (by simp; omega)
  have HB6 : Hid (Below w.heap.size w W6) := below_of_grown HB5.out hg7 (by have := HG5.out; omega) HB5.out.size
  clear hb5 h75 hg7
  obtain ⟨c0, -⟩ := Blk.c4 hb7
  by_cases hz : R = 0
  · have HF : Hid (D = 0) := by show _ = _; rw [← HDD.out]; unfold Ev.share; rw [if_pos (.inl hz)]
    have hzb : (R == 0) = true := by simp [hz]
    clear hz
    go_wp2_with fail
    go_ret
    exact ⟨by rw [HF.out]; rfl, HB6.out⟩
  have hzb : (R == 0) = false := by simpa using hz
  by_cases hk : u.k = 0
  · have HF : Hid (D = 0) := by show _ = _; rw [← HDD.out]; unfold Ev.share; rw [if_pos (.inr hk)]
    rw [hk] at c0
    clear hz hk
    go_wp2_with fail
    go_ret
    exact ⟨by rw [HF.out]; rfl, HB6.out⟩
  have hkb : (u.k == 0) = false := by simpa using hk
  have HNZ : Hid (¬ (R = 0 ∨ u.k = 0)) := by rintro (h | h); exact hz h; exact hk h
  obtain ⟨e0, e1, -⟩ := Blk.c3 hb56
  have hRp : 0 < R := by omega
  clear hz hk
  go_upto_region 6 with fail
  generalize hW9 : World.alloc W6 (.cells _ _) = W7
  obtain ⟨ba9, hz9, hB9⟩ := fresh1 hW9
  clear hW9
  have hb57 := hb56.below hB9
  have hb77 := hb7.below hB9
  have HB7 := Lib.hid (HB6.out.then hB9)
  have HRR : Hid (ERow eI64 W7 c'.a c'.b) := HRC.out.below HB7.out
  obtain ⟨b, hbd⟩ : ∃ b, 1000 * (R - c'.n) / R = b := ⟨_, rfl⟩
  have hb0 : 0 ≤ b := by rw [← hbd]; exact Int.ediv_nonneg (by omega) (by omega)
  have hb1 : b ≤ 1000 := by rw [← hbd]; exact Int.ediv_le_of_le_mul hRp (by omega)
  rw [hbd] at ba9
  rw [hbd]
  have HBD := Lib.hid hbd
  clear hb56 hb7 hB9 hz9 hbd c0 e0 e1 hkb hzb
  obtain ⟨g9, hg9⟩ : ∃ g, W6.heap.size = g := ⟨_, rfl⟩
  rw [hg9] at ba9
  rw [hg9]
  clear hg9
  obtain ⟨e0, -⟩ := Blk.c3 hb57
  have f0 := ba9.cell 0
  simp only [List.getElem?_cons_zero] at f0
  go_upto_if 36 with fail
  go_cut [10] from 36 to 41 (fun v wx => Hid (v = .int .i64 (Ev.sameN b c'.d) ∧ wx = W7))
  case first =>
    by_cases hd : 0 < c'.d
    · have HS : Hid (Ev.sameN b c'.d = max 1 (b / c'.d)) := by show _ = _; unfold Ev.sameN; rw [if_pos hd]
      go_wp2_with fail
      go_meet
      case rel => exact ⟨by rw [HS.out], rfl⟩
    · have HS : Hid (Ev.sameN b c'.d = 0) := by show _ = _; unfold Ev.sameN; rw [if_neg hd]
      go_wp2_with fail
      go_meet
      case rel => exact ⟨by rw [HS.out], rfl⟩
  case rest =>
    obtain ⟨hv, rfl⟩ := hcut.out
    subst hv
    clear hcut e0 f0
    have hgs := guard_str_is
    have HDV : Hid (D = if op = [61] then Ev.sameN b c'.d else if op = [60, 62] then max 0 (b - Ev.sameN b c'.d) else if op = [60] then Ev.belowN b u c'.b (fun b => decide (b < u.n)) else if op = [60, 61] then Ev.belowN b u c'.b (fun b => decide (b ≤ u.n)) else if op = [62] then Ev.belowN b u c'.b (fun b => decide (u.n < b)) else if op = [62, 61] then Ev.belowN b u c'.b (fun b => decide (u.n ≤ b)) else b / 3) := by
      show _ = _
      rw [← HDD.out]
      unfold Ev.share
      rw [if_neg HNZ.out, HBD.out]
    have HSB := Ev.sameN_le hb0 hb1 (d := c'.d)
    have f0 := ba9.cell 0
    simp only [List.getElem?_cons_zero] at f0
    go_upto_region 11 with fail
    by_cases hop : op = [61]
    · have HF : Hid (D = Ev.sameN b c'.d) := by show _ = _; rw [HDV.out, if_pos hop]
      subst hop
      unfold txt
      go_wp2_with fail
      go_ret
      exact ⟨by rw [HF.out]; rfl, HB7.out⟩
    have n1 := run_str_is op [61] hop
    by_cases hop2 : op = [60, 62]
    · have HF : Hid (D = max 0 (b - Ev.sameN b c'.d)) := by show _ = _; rw [HDV.out, if_neg hop, if_pos hop2]
      subst hop2
      clear n1
      unfold txt
      generalize Ev.sameN b c'.d = s at HSB HF ⊢
      go_wp2_with fail
      go_ret
      exact ⟨by rw [HF.out]; rfl, HB7.out⟩
    have n2 := run_str_is op [60, 62] hop2
    by_cases hop3 : op = [60]
    · have HDX : Hid (Ev.belowN b u c'.b (fun b => decide (b < u.n)) = D) := by show _ = _; rw [HDV.out, if_neg hop, if_neg hop2, if_pos hop3]
      subst hop3
      clear n1 n2
      have HCB := Lib.hid (below2_any wc g7 g5 g9 _ _ _ u c' b hb77 hb57 ba9 HRR.out HCL.out hb0 hb1)
      have HF : Hid (D = Ev.belowN b u c'.b (fun b => decide (b < u.n))) := HDX.out.symm
      clear hb77 hb57 ba9
      unfold txt
      go_wp2_with fail
      refine (show Calls _ _ _ _ _ from HCB.out).mono ?_
      rintro e w5 ⟨rfl, rfl⟩
      go_wp2_with fail
      go_ret
      exact ⟨by rw [HF.out]; rfl, HB7.out⟩
    have n3 := run_str_is op [60] hop3
    by_cases hop4 : op = [60, 61]
    · have HDX : Hid (Ev.belowN b u c'.b (fun b => decide (b ≤ u.n)) = D) := by show _ = _; rw [HDV.out, if_neg hop, if_neg hop2, if_neg hop3, if_pos hop4]
      subst hop4
      clear n1 n2 n3
      have HCB := Lib.hid (below3_any wc g7 g5 g9 _ _ _ u c' b hb77 hb57 ba9 HRR.out HCL.out hb0 hb1)
      have HF : Hid (D = Ev.belowN b u c'.b (fun b => decide (b ≤ u.n))) := HDX.out.symm
      clear hb77 hb57 ba9
      unfold txt
      go_wp2_with fail
      refine (show Calls _ _ _ _ _ from HCB.out).mono ?_
      rintro e w5 ⟨rfl, rfl⟩
      go_wp2_with fail
      go_ret
      exact ⟨by rw [HF.out]; rfl, HB7.out⟩
    have n4 := run_str_is op [60, 61] hop4
    by_cases hop5 : op = [62]
    · have HDX : Hid (Ev.belowN b u c'.b (fun b => decide (u.n < b)) = D) := by show _ = _; rw [HDV.out, if_neg hop, if_neg hop2, if_neg hop3, if_neg hop4, if_pos hop5]
      subst hop5
      clear n1 n2 n3 n4
      have HCB := Lib.hid (below4_any wc g7 g5 g9 _ _ _ u c' b hb77 hb57 ba9 HRR.out HCL.out hb0 hb1)
      have HF : Hid (D = Ev.belowN b u c'.b (fun b => decide (u.n < b))) := HDX.out.symm
      clear hb77 hb57 ba9
      unfold txt
      go_wp2_with fail
      refine (show Calls _ _ _ _ _ from HCB.out).mono ?_
      rintro e w5 ⟨rfl, rfl⟩
      go_wp2_with fail
      go_ret
      exact ⟨by rw [HF.out]; rfl, HB7.out⟩
    have n5 := run_str_is op [62] hop5
    by_cases hop6 : op = [62, 61]
    · have HDX : Hid (Ev.belowN b u c'.b (fun b => decide (u.n ≤ b)) = D) := by show _ = _; rw [HDV.out, if_neg hop, if_neg hop2, if_neg hop3, if_neg hop4, if_neg hop5, if_pos hop6]
      subst hop6
      clear n1 n2 n3 n4 n5
      have HCB := Lib.hid (below5_any wc g7 g5 g9 _ _ _ u c' b hb77 hb57 ba9 HRR.out HCL.out hb0 hb1)
      have HF : Hid (D = Ev.belowN b u c'.b (fun b => decide (u.n ≤ b))) := HDX.out.symm
      clear hb77 hb57 ba9
      unfold txt
      go_wp2_with fail
      refine (show Calls _ _ _ _ _ from HCB.out).mono ?_
      rintro e w5 ⟨rfl, rfl⟩
      go_wp2_with fail
      go_ret
      exact ⟨by rw [HF.out]; rfl, HB7.out⟩
    have n6 := run_str_is op [62, 61] hop6
    have HF : Hid (D = b / 3) := by show _ = _; rw [HDV.out, if_neg hop, if_neg hop2, if_neg hop3, if_neg hop4, if_neg hop5, if_neg hop6]
    clear hop hop2 hop3 hop4 hop5 hop6
    go_wp2_with fail
    go_ret
    exact ⟨by rw [HF.out]; rfl, HB7.out⟩
end Go.Proofs.Ytjdffhonljhpcaa
end

section
/-
  A row that grows, of elements whose own rows lie each in a block of its own.
-/
namespace Go.Proofs.Ytjdffhonljhpcaa
set_option linter.unusedSimpArgs false
set_option linter.unusedVariables false
open Go.RowKit

/-- Elements of the call's own, in a row of the call's own; the row of each lies elsewhere. -/
structure NLoop {ρ β : Type} (E : Elem ρ) (F : Elem β) (pa : ρ → Option Addr) (pl : ρ → List β) (pc : ρ → Nat) (B : Nat) (W : World) (A : Option Addr) (c : Nat) (R : List ρ) : Prop where
  own : EOwn E W B A c R
  rows : ∀ r ∈ R, ERow F W (pa r) (pl r)
  cap : ∀ r ∈ R, (pl r).length ≤ pc r ∧ pc r ≤ maxLen
  ne : ∀ r ∈ R, pl r ≠ [] → ∀ a, pa r = some a → ∀ x, A = some x → a.block ≠ x.block
  lo : ∀ r ∈ R, ∀ a, pa r = some a → B ≤ a.block
  size : B ≤ W.heap.size
variable {ρ β : Type} {E : Elem ρ} {F : Elem β} {pa : ρ → Option Addr} {pl : ρ → List β} {pc : ρ → Nat} {B c : Nat} {W W' : World} {A : Option Addr} {R : List ρ}
theorem erow_ltE {w : World} {A : Option Addr} {L : List β} (h : ERow F w A L) (hl : L ≠ []) : ∀ a, A = some a → a.block < w.heap.size := by
  intro a ha
  obtain ⟨b, o, e, hb, -⟩ := h (List.length_pos_iff.2 hl)
  rw [ha] at e
  cases e
  exact hb
theorem NLoop.start (hB : B ≤ W.heap.size) : NLoop E F pa pl pc B W none 0 ([] : List ρ) :=
  ⟨EOwn.nil _ _, (by intro r hr; cases hr), (by intro r hr; cases hr), (by intro r hr; cases hr), (by intro r hr; cases hr), hB⟩
theorem NLoop.below (h : NLoop E F pa pl pc B W A c R) (hB : Below W.heap.size W W') : NLoop E F pa pl pc B W' A c R :=
  ⟨h.own.below hB, fun r hr => (h.rows r hr).below hB, h.cap, h.ne, h.lo, Nat.le_trans h.size hB.size⟩
/-- Behind an element whose row came since. -/
theorem NLoop.one (h : NLoop E F pa pl pc B W A c R) {w1 w2 w3 : World} (hB1 : Below W.heap.size W w1) {r : ρ} (hr : EOwn F w1 W.heap.size (pa r) (pc r) (pl r)) (hB2 : Below w1.heap.size w1 w2) {A3 : Option Addr} {c3 : Nat}
    (ho3 : EOwn E w3 B A3 c3 (R ++ [r])) (hg3 : w2.grownBy w3 (A.map (·.block))) (ha3 : A3.map (·.block) = A.map (·.block) ∨ A3.map (·.block) = some w2.heap.size) :
    NLoop E F pa pl pc B w3 A3 c3 (R ++ [r]) := by
  have hz1 := hB1.size
  have hz2 := hB2.size
  have hAb : ∀ a, A = some a → a.block < W.heap.size := fun a ha => (h.own.block a ha).2
  have keep : ∀ (P : Option Addr) (l : List β), ERow F w2 P l → (l ≠ [] → ∀ a, P = some a → ∀ y, A = some y → a.block ≠ y.block) → ERow F w3 P l := fun P l hr hn hl => by
    refine hr.keep hg3.size (fun a ha hlt => hg3.block _ hlt ?_) hl
    intro e
    cases hA : A with
    | none => rw [hA] at e; simp at e
    | some y => rw [hA] at e; exact hn (List.length_pos_iff.1 hl) a ha y hA (by simpa using e)
  refine ⟨ho3, ?_, ?_, ?_, ?_, by have := h.size; have := hg3.size; omega⟩
  · intro s hs
    rcases List.mem_append.1 hs with hs | hs
    · exact keep _ _ ((h.rows s hs).below (hB1.trans (hB2.mono hz1))) (h.ne s hs)
    · rw [List.mem_singleton.1 hs]
      refine keep _ _ (hr.row.below hB2) fun _ a ha y hy => ?_
      have := hAb y hy
      have := (hr.block a ha).1
      omega
  · intro s hs
    rcases List.mem_append.1 hs with hs | hs
    · exact h.cap s hs
    · rw [List.mem_singleton.1 hs]; exact ⟨hr.cap, hr.capMax⟩
  · intro s hs hne a ha y hy
    have hy3 : some y.block = A.map (·.block) ∨ y.block = w2.heap.size := by
      rw [hy] at ha3
      rcases ha3 with e | e
      · exact .inl e
      · exact .inr (Option.some.inj e)
    rcases List.mem_append.1 hs with hs | hs
    · have hlt := erow_ltE (h.rows s hs) hne a ha
      rcases hy3 with e | e
      · cases hA : A with
        | none => rw [hA] at e; simp at e
        | some z =>
          rw [hA] at e
          have := h.ne s hs hne a ha z hA
          simp at e
          omega
      · omega
    · rw [List.mem_singleton.1 hs] at ha
      have hb := hr.block a ha
      rcases hy3 with e | e
      · cases hA : A with
        | none => rw [hA] at e; simp at e
        | some z =>
          rw [hA] at e
          have := hAb z hA
          simp at e
          omega
      · omega
  · intro s hs a ha
    rcases List.mem_append.1 hs with hs | hs
    · exact h.lo s hs a ha
    · rw [List.mem_singleton.1 hs] at ha
      have hb := hr.block a ha
      have := h.size
      omega
/-- A store below all of it. -/
theorem NLoop.setLow (h : NLoop E F pa pl pc B W A c R) (p : Addr) (hp : p.block < B) (u : Value) : NLoop E F pa pl pc B (W.setCell p u) A c R := by
  refine ⟨h.own.set p (fun a ha => by have := (h.own.block a ha).1; omega) u, fun r hr => ?_, h.cap, h.ne, h.lo, by simpa using h.size⟩
  exact (h.rows r hr).keep (by simp) (fun a ha _ => heap_setCell_other W p a.block u (by have := h.lo r hr a ha; omega))
end Go.Proofs.Ytjdffhonljhpcaa
end

section
/-
  The contract of stats.Of.
-/
namespace Go.Proofs.Ytjdffhonljhpcaa
set_option linter.unusedSimpArgs false
set_option linter.unusedVariables false
open Go.RowKit

def Cs.k (x : Cs) : Int × Int × List Int := (x.d, x.n, x.b)
namespace Ev
/-- A column's values that are not Null, in their order. -/
def colS (L : List Rw) (c : Nat) : List Va := (L.map fun r => atV r.l (c : Int)).filter fun v => v.k != 0
def sortC (L : List Rw) (c : Nat) : List Va := Srt.ssort Key.vord (colS L c)
/-- What is known of a column of rows. -/
def csOf (L : List Rw) (c : Nat) : Int × Int × List Int := (((distN (sortC L c) (sortC L c).length : Nat) : Int), (L.length : Int) - ((sortC L c).length : Int), boundsC (wholeN (sortC L c)))
def colN (c : Nat) : Nd := .mk 2 [] Key.nul (c : Int) false 0 none [] 0
theorem eval_colN (row : List Va) (c : Nat) : eval row (colN c) = atV row (c : Int) := rfl
theorem colS_snoc (L : List Rw) (r : Rw) (c : Nat) : colS (L ++ [r]) c = colS L c ++ if (atV r.l (c : Int)).k = 0 then [] else [atV r.l (c : Int)] := by
  unfold colS
  rw [List.map_append, List.filter_append]
  congr 1
  by_cases h : (atV r.l (c : Int)).k = 0 <;> simp [h]
theorem colS_len (L : List Rw) (c : Nat) : (colS L c).length ≤ L.length := by
  unfold colS
  exact Nat.le_trans (List.length_filter_le _ _) (by simp)
theorem sortC_len (L : List Rw) (c : Nat) : (sortC L c).length ≤ L.length := by unfold sortC; rw [Srt.ssort_length]; exact colS_len L c
theorem colS_at {L : List Rw} {c : Nat} {v : Va} (h : v ∈ colS L c) : ∃ r ∈ L, v = atV r.l (c : Int) ∧ v.k ≠ 0 := by
  unfold colS at h
  obtain ⟨h1, h2⟩ := List.mem_filter.1 h
  obtain ⟨r, hr, rfl⟩ := List.mem_map.1 h1
  exact ⟨r, hr, rfl, by simpa using h2⟩
end Ev
/-- Rows that may be read. -/
structure RwsIn (w : World) (A : Option Addr) (L : List Rw) : Prop where
  r : ERow eRw w A L
  in_ : ∀ x ∈ L, RowOk w x.a x.l
  len : L.length ≤ 1000
theorem RwsIn.below {w W : World} {A : Option Addr} {L : List Rw} (h : RwsIn w A L) (hB : Below w.heap.size w W) : RwsIn W A L := ⟨h.r.below hB, fun x hx => (h.in_ x hx).below hB, h.len⟩
theorem rwS_at {w : World} {A : Option Addr} {L : List Rw} (h : ERow eRw w A L) {j : Nat} (hj : j < L.length) : ∃ b o, A = some ⟨b, o, none⟩ ∧ b < w.heap.size ∧ w.cell? ⟨b, o + j, none⟩ = some L[j].v := by
  obtain ⟨b, o, e, hb, hc⟩ := h.at_ hj
  refine ⟨b, o, e, hb, ?_⟩
  have := hc 0 _ rfl
  rwa [show o + (j * eRw.sz + 0) = o + j by show o + (j * 1 + 0) = _; omega] at this
/-- What is known of columns, in a row of one's own. -/
abbrev CLoop := NLoop eCs eI64 Cs.a Cs.b Cs.c
/-- What Of answers. -/
def RetSt (w : World) (L : List Rw) (m : Nat) (e : Ending) (w' : World) : Prop := ∃ A c R, e = .returned (.agg #[.int .i64 L.length, .slice A m c]) ∧ CLoop w.heap.size w' A c R ∧ R.map Cs.k = (List.range m).map (Ev.csOf L) ∧ Below w.heap.size w w'
theorem load_st {w : World} {g : Nat} {n : Int} {A : Option Addr} {k c : Nat} {T : TypeId} (h : Blk w g T [.int .i64 n, .slice A k c]) : (loadVar 27 ⟨g, 0, none⟩).run Try.prog w = .ok (.agg #[.int .i64 n, .slice A k c]) w := by
  have h0 := h.cell 0
  have h1 := h.cell 1
  simp only [List.getElem?_cons_zero, List.getElem?_cons_succ] at h0 h1
  go_simp
/-- Where Of stands behind i columns. -/
structure OfAt (w W : World) (g4 g5 : Nat) (L : List Rw) (i : Nat) (A : Option Addr) (c : Nat) (R : List Cs) : Prop where
  b4 : Blk W g4 27 [.int .i64 0, .slice none 0 0]
  b5 : Blk W g5 27 [.int .i64 L.length, .slice A i c]
  lp : CLoop (g5 + 1) W A c R
  ks : R.map Cs.k = (List.range i).map (Ev.csOf L)
  below : Below w.heap.size w W
theorem OfAt.len {w W : World} {g4 g5 : Nat} {L : List Rw} {i : Nat} {A : Option Addr} {c : Nat} {R : List Cs} (h : OfAt w W g4 g5 L i A c R) : R.length = i := by
  have := congrArg List.length h.ks
  simpa using this
theorem OfAt.go {w W W' : World} {g4 g5 : Nat} {L : List Rw} {i : Nat} {A : Option Addr} {c : Nat} {R : List Cs} (h : OfAt w W g4 g5 L i A c R) (hB : Below W.heap.size W W') : OfAt w W' g4 g5 L i A c R :=
  ⟨h.b4.below hB, h.b5.below hB, h.lp.below hB, h.ks, h.below.then hB⟩
set_option maxRecDepth 100000 in
set_option maxHeartbeats 8000000 in
theorem of_any (w : World) (A : Option Addr) (c : Nat) (L : List Rw) (m : Nat) (hL : RwsIn w A L) (hm : m ≤ 6) :
    Calls Try.prog 10 #[.int .i64 (m : Int), .slice A L.length c] w (RetSt w L m) := by
  have HL := Lib.hid hL
  have hlen := hL.len
  clear hL
  go_enter Try.func10, Try.ntmps10
  go_upto_region 2 with fail
  generalize hW2 : ((World.alloc w (.cells _ _)).alloc (.cells _ _)) = W2
  obtain ⟨ba2, bb2, hz2, hB2⟩ := fresh2 hW2
  clear hW2
  have HB2 := Lib.hid hB2
  have hw2 : w.heap.size ≤ W2.heap.size := hB2.size
  have HST : Hid (OfAt w W2 w.heap.size (w.heap.size + 1) L 0 none 0 []) := ⟨ba2, bb2, NLoop.start (by omega), rfl, hB2⟩
  clear ba2 bb2 hB2 hz2
  obtain ⟨g4, hg4⟩ : ∃ g, w.heap.size = g := ⟨_, rfl⟩
  rw [hg4] at HST
  rw [hg4]
  have HG4 := Lib.hid hg4
  clear hg4
  have hmi : (m : Int) ≤ 6 := by omega
  go_upto_region 3 with fail
  rw [show max 0 (min (m : Int) 6) = (m : Int) by omega]
  go_loopw [17] (fun iv wr => ∃ (i : Nat) (A5 : Option Addr) (c5 : Nat) (R : List Cs), i ≤ m ∧ iv = .int .i64 (i : Int) ∧ Hid (OfAt w wr g4 (g4 + 1) L i A5 c5 R)) (fun iv _ => m - (intOf iv).toNat)
  case atStart => exact ⟨0, none, 0, [], Nat.zero_le _, by go_num, HST.out⟩
  case round =>
    obtain ⟨i, A5, c5, R, him, rfl, HJ⟩ := hrel
    obtain ⟨wo, rfl⟩ : ∃ wo, wo = wr := ⟨_, rfl⟩
    clear HST
    by_cases hlt : i < m
    · have hii : (i : Int) < (m : Int) := by omega
      have HS2 : Hid (EOwn eVa wo wo.heap.size none 0 (Ev.colS (L.take 0) i) ∧ Below wo.heap.size wo wo) := ⟨EOwn.nil _ _, Below.refl _ _⟩
      go_upto_region 7 with fail
      go_loopw [7, 22] (fun v7 kv wr => ∃ (k : Nat) (A7 : Option Addr) (c7 : Nat), k ≤ L.length ∧ kv = .int .i64 (k : Int) ∧ v7 = .slice A7 (Ev.colS (L.take k) i).length c7 ∧ Hid (EOwn eVa wr wo.heap.size A7 c7 (Ev.colS (L.take k) i) ∧ Below wo.heap.size wo wr)) (fun _ kv _ => L.length - (intOf kv).toNat)
      case atStart => exact ⟨0, none, 0, Nat.zero_le _, by go_num, rfl, HS2.out⟩
      case round =>
        obtain ⟨k, A7, c7, hk, rfl, rfl, HK⟩ := hrel
        obtain ⟨wq, rfl⟩ : ∃ wq, wq = wr := ⟨_, rfl⟩
        clear HS2
        by_cases hkl : k < L.length
        · have hki : (k : Int) < (L.length : Int) := by omega
          have HLW : Hid (RwsIn wq A L) := HL.out.below (HJ.out.below.then HK.out.2)
          obtain ⟨ab, ao, rfl, -, q0⟩ := rwS_at HLW.out.r hkl
          obtain ⟨r, hr⟩ : ∃ r, L[k] = r := ⟨_, rfl⟩
          have HRI : Hid (RowOk wq r.a r.l) := HLW.out.in_ r (by rw [← hr]; exact List.getElem_mem hkl)
          have HTK : Hid (Ev.colS (L.take (k + 1)) i = Ev.colS (L.take k) i ++ if (Ev.atV r.l (i : Int)).k = 0 then [] else [Ev.atV r.l (i : Int)]) := by
            show _ = _
            rw [List.take_succ_eq_append_getElem hkl, hr, Ev.colS_snoc]
          have hcl : (Ev.colS (L.take k) i).length ≤ 1000 := by
            have := Ev.colS_len (L.take k) i
            rw [List.length_take] at this
            omega
          rw [hr] at q0
          clear hr
          unfold Rw.v at q0
          go_wp2_with fail
          have HNI : Hid (NodeIn wq (Ev.colN i)) := NodeIn.mk ERow.nil (by intro m hm; cases hm) Ev.nul_ok (by simp [Ev.colN, Nd.lit, Key.nul]) (by show Ev.inB 2; unfold Ev.inB; omega) (by show Ev.inB (i : Int); unfold Ev.inB; omega) (Nat.le_refl _) (by show 0 ≤ maxLen; omega)
          refine (show Calls _ _ #[(Ev.colN i).v, .slice r.a r.l.length r.c] _ _ from eval_any wq r.a r.c r.l HRI.out.r HRI.out.ok (by have := HRI.out.len; omega) (Ev.colN i) HNI.out wq (Below.refl _ _)).mono ?_
          rintro e W3 ⟨rfl, hB3⟩
          rw [Ev.eval_colN]
          have HB3 := Lib.hid hB3
          clear hB3 q0
          obtain ⟨v, hv⟩ : ∃ v, Ev.atV r.l (i : Int) = v := ⟨_, rfl⟩
          rw [hv] at HTK
          rw [hv]
          clear hv
          go_upto_region 10 with (first | (refine wpList_alloc_va rfl rfl ?_; intro W4 hb4 hz4 hB4) | (refine wpList_store_va rfl rfl (.tmp 10) (.tmp 29) rfl W3.heap.size rfl v rfl hb4 ?_; intro W5 hb5 hg5))
          have HB5 : Hid (Below wq.heap.size wq W5) := HB3.out.then (below_of_grown hB4 hg5 (Nat.le_refl _) hB4.size)
          clear hb4 hz4 hB4 hg5
          generalize W3.heap.size = g10 at hb5 ⊢
          obtain ⟨c0, -⟩ := Blk.c4 hb5
          by_cases hv0 : v.k = 0
          · have HT2 : Hid (Ev.colS (L.take (k + 1)) i = Ev.colS (L.take k) i) := by show _ = _; rw [HTK.out, if_pos hv0, List.append_nil]
            have HR : Hid (EOwn eVa W5 wo.heap.size A7 c7 (Ev.colS (L.take (k + 1)) i) ∧ Below wo.heap.size wo W5) := ⟨by rw [HT2.out]; exact HK.out.1.below HB5.out, HK.out.2.then HB5.out⟩
            have hvb : (v.k != 0) = false := by simp [hv0]
            clear hv0 hb5
            go_wp2_with fail
            go_roundw
            case rel => exact ⟨k + 1, A7, c7, by omega, by go_num, by rw [HT2.out], HR.out⟩
            case measure => simp [intOf]; omega
          · have HT2 : Hid (Ev.colS (L.take (k + 1)) i = Ev.colS (L.take k) i ++ [v]) := by show _ = _; rw [HTK.out, if_neg hv0]
            have hvb : (v.k != 0) = true := by simp [hv0]
            have hoA := (HK.out.1.below HB5.out).alloc (.cells #[.int .i64 v.k, .int .i64 v.n, .float .f64 v.f, txt v.s] 35)
            have hrA := ERow.lit eVa W5 v #[.int .i64 v.k, .int .i64 v.n, .float .f64 v.f, txt v.s] rfl W5.heap.size rfl
            have HBA : Hid (Below wo.heap.size wo (W5.alloc (.cells #[.int .i64 v.k, .int .i64 v.n, .float .f64 v.f, txt v.s] 35))) := (HK.out.2.then HB5.out).then ((Below.refl W5.heap.size W5).alloc (Nat.le_refl _) _)
            have hzA := HBA.out.size
            clear hv0
            obtain ⟨l, hl⟩ : ∃ l, Ev.colS (L.take k) i = l := ⟨_, rfl⟩
            rw [hl] at hoA hcl HT2
            rw [hl]
            clear hl
            go_wp2_with (first | (refine wpList_load_va rfl (.tmp 10) rfl g10 rfl hb5 ?_; unfold Va.v) | (at_builtin; refine wpList_append_elems eVa rfl (.tmp 33) (.tmp 35) rfl l.length rfl hoA rfl 1 rfl hrA rfl (by simp; omega) hzA ?_; intro A3 c3 w3 ho3 hb3 hg3 ha3))
            have HR : Hid (EOwn eVa w3 wo.heap.size A3 c3 (Ev.colS (L.take (k + 1)) i) ∧ Below wo.heap.size wo w3) := ⟨by rw [HT2.out]; exact ho3, HBA.out.trans hb3⟩
            clear hoA hrA ho3 hb3 hg3 ha3 c0 hb5
            go_roundw
            case rel => exact ⟨k + 1, A3, c3, by omega, by go_num, by rw [HT2.out, List.length_append]; rfl, HR.out⟩
            case measure => simp [intOf]; omega
        · have hki : ¬ (k : Int) < (L.length : Int) := by omega
          obtain rfl : k = L.length := by omega
          rw [List.take_length] at HK
          rw [List.take_length]
          have HCP : Hid (∀ v ∈ Ev.colS L i, v.ok ∧ Key.clean v = v) := fun v hv => by
            obtain ⟨r, hr, rfl, -⟩ := Ev.colS_at hv
            exact ⟨Ev.at_ok (HL.out.in_ r hr).ok _, Ev.clean_at _ _⟩
          have hcl := Ev.colS_len L i
          have HSO := Lib.hid (sortv_any wq wo.heap.size A7 c7 (Ev.colS L i) HK.out.1 (fun v hv => (HCP.out v hv).1) (fun v hv => (HCP.out v hv).2) (by omega))
          have hsl : (Ev.sortC L i).length = (Ev.colS L i).length := by unfold Ev.sortC; rw [Srt.ssort_length]
          have HSL := Lib.hid hsl
          clear hsl
          go_wp2_with fail
          refine (show Calls _ _ _ _ _ from HSO.out).mono ?_
          rintro e W3 ⟨rfl, ho3, hg3⟩
          have ho3 : EOwn eVa W3 wo.heap.size A7 c7 (Ev.sortC L i) := ho3
          have HO3 := Lib.hid ho3
          have HB3 : Hid (Below wo.heap.size wo W3) := HK.out.2.grown hg3 HK.out.2.size (fun k hk => by
            cases hA : A7 with
            | none => rw [hA] at hk; simp at hk
            | some a => rw [hA] at hk; have := (HK.out.1.block a hA).1; simp at hk; omega)
          rw [← HSL.out]
          clear ho3 hg3 HSO HK hki hkl hk
          have HJ3 : Hid (OfAt w W3.drew g4 (g4 + 1) L i A5 c5 R) := HJ.out.go HB3.out.drewR
          have HSP : Hid (∀ v ∈ Ev.sortC L i, v.ok ∧ Key.clean v = v) := fun v hv => HCP.out v ((Srt.ssort_perm _ _).mem_iff.1 hv)
          have HCO := Lib.hid (column_any W3.drew A7 c7 (Ev.sortC L i) (L.length : Int) (HO3.out.below (Below.refl _ _).drewR).row (fun v hv => (HSP.out v hv).1) (fun v hv => (HSP.out v hv).2) (by have := HSL.out; omega) (by omega) (by omega))
          have HRI := Lib.hid HJ3.out.len
          obtain ⟨e0, e1, -, f1, -⟩ := Blk.c2 HJ3.out.b5
          have hzg : g4 + 2 ≤ W3.heap.size := by have := HJ3.out.lp.size; exact this
          go_upto_region 14 with fail
          refine wp_region_plan (.take 0 (.take 1 (.take 2 (.take 3 (.take 4 (.run 5 [0, 1] (.run 6 [0, 1] (.run 7 [] (.take 8 (.run 9 [] .fin)))))))))) (by kernel_rfl) (by kernel_rfl) (by kernel_rfl) (by kernel_rfl) ?_
          repeat' (first | (refine hZ _ _ ?_; clear hZ) | (refine hZ _ ?_; clear hZ) | (refine hZ ?_; clear hZ) | rw [again_nil] | rw [walk_fin] | ((first | rw [walk_take] | rw [walk_run] | rw [again_cons]); intro Z hZ; simp only [sel, List.getElem?_toArray, List.getElem?_cons_zero, List.getElem?_cons_succ]; go_wp2_with (fail)))
          refine (show Calls _ _ _ _ _ from HCO.out).mono ?_
          rintro e W4 ⟨A8, c8, rfl, ho8, hB4⟩
          obtain ⟨x, hx⟩ : ∃ x : Cs, (⟨(Ev.distN (Ev.sortC L i) (Ev.sortC L i).length : Nat), (L.length : Int) - ((Ev.sortC L i).length : Int), A8, Ev.boundsC (Ev.wholeN (Ev.sortC L i)), c8⟩ : Cs) = x := ⟨_, rfl⟩
          have HXO : Hid (EOwn eI64 W4 W3.drew.heap.size x.a x.c x.b ∧ x.k = Ev.csOf L i) := by rw [← hx]; exact ⟨ho8, rfl⟩
          rw [hx]
          clear hx ho8 HCO
          have HB4 := Lib.hid hB4
          have hoA : EOwn eCs (W4.alloc (.cells #[.int .i64 x.d, .int .i64 x.n, .slice x.a x.b.length x.c] 31)) (g4 + 1 + 1) A5 c5 R := (HJ3.out.lp.own.below hB4).alloc _
          have hrA := ERow.lit eCs W4 x #[.int .i64 x.d, .int .i64 x.n, .slice x.a x.b.length x.c] rfl W4.heap.size rfl
          have HBA : Hid (Below W4.heap.size W4 (W4.alloc (.cells #[.int .i64 x.d, .int .i64 x.n, .slice x.a x.b.length x.c] 31))) := (Below.refl _ _).alloc (Nat.le_refl _) _
          have hz4 : W3.heap.size ≤ W4.heap.size := hB4.size
          have e1 := cell_later hB4 e1
          have e1A := cell_later HBA.out e1
          have f1A : (W4.alloc (.cells #[.int .i64 x.d, .int .i64 x.n, .slice x.a x.b.length x.c] 31)).frozen? ⟨g4 + 1, 1, none⟩ = false := by
            rw [HBA.out.frozen (p := ⟨g4 + 1, 1, none⟩) (by show g4 + 1 < W4.heap.size; omega), hB4.frozen (p := ⟨g4 + 1, 1, none⟩) (by show g4 + 1 < W3.heap.size; omega)]
            exact f1
          have hzA : g4 + 1 + 1 ≤ (W4.alloc (.cells #[.int .i64 x.d, .int .i64 x.n, .slice x.a x.b.length x.c] 31)).heap.size := by have := HBA.out.size; omega
          clear hB4 e0 f1
          unfold Cs.v Cs.cells
          go_wp2_with fail
          repeat' (first | (refine hZ _ _ ?_; clear hZ) | (refine hZ _ ?_; clear hZ) | (refine hZ ?_; clear hZ) | rw [again_nil] | rw [walk_fin] | ((first | rw [walk_take] | rw [walk_run] | rw [again_cons]); intro Z hZ; simp only [sel, List.getElem?_toArray, List.getElem?_cons_zero, List.getElem?_cons_succ]; go_wp2_with (at_builtin; refine wpList_append_elems eCs rfl (.tmp 41) (.tmp 46) rfl i rfl hoA HRI.out.symm 1 rfl hrA rfl (by have := HRI.out; simp; omega) hzA ?_; intro A3 c3 w3 ho3 hb3 hg3 ha3; have e1b := (hb3.cell (p := ⟨g4 + 1, 1, none⟩) (Nat.lt_succ_self _)).trans e1A; have f1b := (hb3.frozen (p := ⟨g4 + 1, 1, none⟩) (Nat.lt_succ_self _)).trans f1A)))
          have HR : Hid (OfAt w (w3.setCell ⟨g4 + 1, 1, none⟩ (.slice A3 (R.length + 1) c3)) g4 (g4 + 1) L (i + 1) A3 c3 (R ++ [x])) := by
            have hlp := (HJ3.out.lp.one HB4.out HXO.out.1 HBA.out ho3 hg3 ha3).setLow ⟨g4 + 1, 1, none⟩ (by show g4 + 1 < g4 + 1 + 1; omega) (.slice A3 (R.length + 1) c3)
            have hb4 : Blk w3 g4 27 [.int .i64 0, .slice none 0 0] := (hb3.block g4 (by omega)).trans ((HJ3.out.b4.below HB4.out).below HBA.out)
            have hb5 : Blk w3 (g4 + 1) 27 [.int .i64 L.length, .slice A5 i c5] := (hb3.block (g4 + 1) (Nat.lt_succ_self _)).trans ((HJ3.out.b5.below HB4.out).below HBA.out)
            have hgw : w.heap.size ≤ g4 + 1 := by have := HG4.out; omega
            refine ⟨hb4.other ⟨g4 + 1, 1, none⟩ (by show g4 ≠ g4 + 1; omega) _, ?_, hlp, ?_, ?_⟩
            · have := hb5.set 1 (.slice A3 (R.length + 1) c3)
              rw [HRI.out] at this ⊢
              exact this
            · rw [List.map_append, HJ3.out.ks, List.range_succ, List.map_append, List.map_cons, List.map_nil, List.map_cons, List.map_nil, HXO.out.2]
            · exact (((HJ3.out.below.then HB4.out).then HBA.out).trans (hb3.mono (by omega))).setCell hgw _
          clear hoA hrA ho3 hb3 hg3 ha3 e1 e1A e1b f1A f1b
          go_wp2_with fail
          go_roundw
          case rel => exact ⟨i + 1, A3, c3, _, by omega, by go_num, HR.out⟩
          case measure => simp [intOf]; omega
    · have hii : ¬ (i : Int) < (m : Int) := by omega
      obtain rfl : i = m := by omega
      obtain ⟨e0, e1, -⟩ := Blk.c2 HJ.out.b5
      obtain ⟨d0, d1, k0, k1, -⟩ := Blk.c2 HJ.out.b4
      have HLP := Lib.hid HJ.out.lp
      have HKS := Lib.hid HJ.out.ks
      have HBW := Lib.hid HJ.out.below
      have HB4 := Lib.hid HJ.out.b4
      clear HJ
      go_wp2_with fail
      have hgw : w.heap.size ≤ g4 := by have := HG4.out; omega
      refine ret_mem1 rfl rfl rfl (load_st (n := L.length) (A := A5) (k := i) (c := c5) (T := 27) ?_) ?_
      · exact (HB4.out.set 0 _).set 1 _
      · refine ⟨A5, c5, R, rfl, ?_, HKS.out, (HBW.out.setCell (p := ⟨g4, 0, none⟩) hgw _).setCell (p := ⟨g4, 1, none⟩) hgw _⟩
        have h := (HLP.out.setLow ⟨g4, 0, none⟩ (by show g4 < g4 + 1 + 1; omega) (.int .i64 L.length)).setLow ⟨g4, 1, none⟩ (by show g4 < g4 + 1 + 1; omega) (.slice A5 i c5)
        have hs := HG4.out
        exact ⟨h.own.mono (by omega), h.rows, h.cap, h.ne, fun r hr a ha => by have := h.lo r hr a ha; omega, by have := h.size; omega⟩
end Go.Proofs.Ytjdffhonljhpcaa
end

section
/-
  The contract of the law's lives.
-/
namespace Go.Proofs.Ytjdffhonljhpcaa
set_option linter.unusedSimpArgs false
set_option linter.unusedVariables false
open Go.RowKit

namespace Ev
def iV (n : Int) : Va := ⟨1, n, 0, []⟩
theorem iV_ok {n : Int} (h : -9223372036854775808 ≤ n ∧ n ≤ 9223372036854775807) : (iV n).ok := ⟨by show (-9223372036854775808 : Int) ≤ 1; decide, by show (1 : Int) ≤ 9223372036854775807; decide, h.1, h.2, by show 0 < 18446744073709551616; decide⟩
theorem vord_iV (a b : Int) : Key.vord (iV a) (iV b) = if a < b then -1 else if b < a then 1 else 0 := by
  unfold Key.vord
  simp only [Key.vless_num (a := iV a) (b := iV b) rfl (by show (1 : Int) ≠ 2; decide) (by show (1 : Int) ≠ 3; decide), Key.vless_num (a := iV b) (b := iV a) rfl (by show (1 : Int) ≠ 2; decide) (by show (1 : Int) ≠ 3; decide)]
  rfl
theorem ssort_sorted_self {L : List Va} (h : Srt.Sorted Key.vord L) (hok : ∀ v ∈ L, v.ok) (hcl : ∀ v ∈ L, Key.clean v = v) : Srt.ssort Key.vord L = L :=
  Srt.sorted_unique Key.vord_ord _ _ (Srt.ssort_sorted Key.vord_ord L) h (Srt.ssort_perm _ L) fun x hx y hy h0 =>
    eq_of_vord (hok x ((Srt.ssort_perm _ L).mem_iff.1 hx)) (hok y ((Srt.ssort_perm _ L).mem_iff.1 hy)) (hcl x ((Srt.ssort_perm _ L).mem_iff.1 hx)) (hcl y ((Srt.ssort_perm _ L).mem_iff.1 hy)) h0
theorem sort_three : Srt.ssort Key.vord [iV 1, iV 2, iV 2] = [iV 1, iV 2, iV 2] := by
  refine ssort_sorted_self ?_ ?_ ?_
  · unfold Srt.Sorted
    simp [vord_iV]
  · intro v hv
    simp at hv
    rcases hv with rfl | rfl <;> exact iV_ok (by omega)
  · intro v hv
    simp at hv
    rcases hv with rfl | rfl <;> rfl
theorem dist_three : distN [iV 1, iV 2, iV 2] 3 = 2 := by
  simp [distN, nth, vord_iV]
/-- What is known of four rows. -/
theorem csOf_four (a b c d : Rw) (ha : a.l = [iV 1]) (hb : b.l = [iV 2]) (hc : c.l = [iV 2]) (hd : d.l = []) : (csOf [a, b, c, d] 0).1 = 2 ∧ (csOf [a, b, c, d] 0).2.1 = 1 ∧ (csOf [a, b, c, d] 0).2.2.length = 9 := by
  have hS : sortC [a, b, c, d] 0 = [iV 1, iV 2, iV 2] := by
    unfold sortC
    have : colS [a, b, c, d] 0 = [iV 1, iV 2, iV 2] := by
      unfold colS
      simp only [List.map_cons, List.map_nil, ha, hb, hc, hd]
      rfl
    rw [this, sort_three]
  unfold csOf
  rw [hS]
  refine ⟨?_, rfl, ?_⟩
  · show ((distN [iV 1, iV 2, iV 2] 3 : Nat) : Int) = 2
    rw [dist_three]
    rfl
  · show (boundsC (wholeN [iV 1, iV 2, iV 2])).length = 9
    unfold boundsC
    rw [if_neg (by decide), boundsN_len]
end Ev
set_option maxRecDepth 20000 in
theorem stone_any (w : World) (n : Int) : Calls Try.prog 28 #[.int .i64 n] w fun e w' => e = .returned (.slice (some ⟨w.heap.size, 0, none⟩) 1 1) ∧ Blk w' w.heap.size 35 (Ev.iV n).cells ∧ w.heap.size < w'.heap.size ∧ Below w.heap.size w w' := by
  go_enter Try.func28, Try.ntmps28
  go_wp2_with fail
  generalize hW1 : World.alloc w (.cells _ _) = W1
  obtain ⟨ba1, hz1, hB1⟩ := fresh1 hW1
  clear hW1
  go_ret
  exact ⟨rfl, ba1, by omega, hB1⟩
set_option maxRecDepth 100000 in
set_option maxHeartbeats 8000000 in
theorem stlives_any (w : World) : Calls Try.prog 8 #[] w fun e w' => e = .returned (.bool true) ∧ Below w.heap.size w w' := by
  go_enter Try.func8, Try.ntmps8
  go_wp2_with fail
  refine (stone_any w 1).mono ?_
  rintro e W1 ⟨rfl, hb1, hz1, hB1⟩
  have HB1 := Lib.hid hB1
  clear hB1
  go_wp2_with fail
  refine (stone_any W1 2).mono ?_
  rintro e W2 ⟨rfl, hb2, hz2, hB2⟩
  have hb12 := hb1.below hB2
  have HB2 := Lib.hid (HB1.out.then hB2)
  clear hB2 hb1
  go_wp2_with fail
  refine (stone_any W2 2).mono ?_
  rintro e W3 ⟨rfl, hb3, hz3, hB3⟩
  have hb13 := hb12.below hB3
  have hb23 := hb2.below hB3
  have HB3 := Lib.hid (HB2.out.then hB3)
  clear hB3 hb2 hb12
  go_wp2_with fail
  generalize hW4 : ((World.alloc W3 (.cells _ _)).alloc (.cells _ _)) = W4
  obtain ⟨ba4, bb4, hz4, hB4⟩ := fresh2 hW4
  clear hW4
  have h14 := hb13.below hB4
  have h24 := hb23.below hB4
  have h34 := hb3.below hB4
  have HB4 := Lib.hid (HB3.out.then hB4)
  clear hb13 hb23 hb3 hB4 hz4 ba4
  obtain ⟨L, hL⟩ : ∃ L : List Rw, L = [⟨some ⟨w.heap.size, 0, none⟩, [Ev.iV 1], 1⟩, ⟨some ⟨W1.heap.size, 0, none⟩, [Ev.iV 2], 1⟩, ⟨some ⟨W2.heap.size, 0, none⟩, [Ev.iV 2], 1⟩, ⟨some ⟨W3.heap.size, 0, none⟩, [], 0⟩] := ⟨_, rfl⟩
  have HLI : Hid (RwsIn W4 (some ⟨W3.heap.size + 1, 0, none⟩) L) := by
    subst hL
    refine ⟨Blk.row eRw bb4 _ rfl (by simp [maxLen]), fun x hx => ?_, by simp⟩
    have h1 : ∀ v ∈ [Ev.iV 1], v.ok := fun v hv => by rw [List.mem_singleton.1 hv]; exact Ev.iV_ok (by omega)
    have h2 : ∀ v ∈ [Ev.iV 2], v.ok := fun v hv => by rw [List.mem_singleton.1 hv]; exact Ev.iV_ok (by omega)
    simp at hx
    rcases hx with rfl | rfl | rfl | rfl
    · exact ⟨Blk.row eVa h14 _ rfl (by simp [maxLen]), h1, by simp⟩
    · exact ⟨Blk.row eVa h24 _ rfl (by simp [maxLen]), h2, by simp⟩
    · exact ⟨Blk.row eVa h34 _ rfl (by simp [maxLen]), h2, by simp⟩
    · exact ⟨ERow.nil, (by intro v hv; cases hv), by simp⟩
  have HLL : Hid (L.length = 4) := by rw [hL]; rfl
  have HC : Hid ((Ev.csOf L 0).1 = 2 ∧ (Ev.csOf L 0).2.1 = 1 ∧ (Ev.csOf L 0).2.2.length = 9) := by
    rw [hL]
    exact Ev.csOf_four _ _ _ _ rfl rfl rfl rfl
  have HO := Lib.hid (of_any W4 (some ⟨W3.heap.size + 1, 0, none⟩) 4 L 1 HLI.out (by omega))
  rw [HLL.out] at HO
  clear h14 h24 h34 bb4 hL
  refine (show Calls _ _ #[.int .i64 1, .slice (some ⟨W3.heap.size + 1, 0, none⟩) 4 4] _ _ from HO.out).mono ?_
  rintro e W5 ⟨A5, c5, R, rfl, hlp, hks, hB5⟩
  have HB5 := Lib.hid (HB4.out.then hB5)
  rw [HLL.out]
  obtain ⟨x, rfl⟩ : ∃ x, R = [x] := by
    match R, hks with
    | [x], _ => exact ⟨x, rfl⟩
    | [], h => simp at h
    | _ :: _ :: _, h => simp at h
  have hxk : x.k = Ev.csOf L 0 := by simpa using hks
  have hx1 : x.d = 2 := by have := HC.out.1; rw [← hxk] at this; exact this
  have hx2 : x.n = 1 := by have := HC.out.2.1; rw [← hxk] at this; exact this
  have hx3 : x.b.length = 9 := by have := HC.out.2.2; rw [← hxk] at this; exact this
  have hxr := hlp.rows x (by simp)
  obtain ⟨gx, rfl⟩ : ∃ g, A5 = some ⟨g, 0, none⟩ := by
    rcases hlp.own.form with ⟨-, -, h⟩ | ⟨g, h, -⟩
    · cases h
    · exact ⟨g, h⟩
  have q0 : W5.cell? ⟨gx, 0, none⟩ = some (.int .i64 x.d) := hlp.own.cell (j := 0) (k := 0) (v := .int .i64 x.d) (by simp) rfl
  have q1 : W5.cell? ⟨gx, 1, none⟩ = some (.int .i64 x.n) := hlp.own.cell (j := 0) (k := 1) (v := .int .i64 x.n) (by simp) rfl
  have q2 : W5.cell? ⟨gx, 2, none⟩ = some (.slice x.a x.b.length x.c) := hlp.own.cell (j := 0) (k := 2) (v := .slice x.a x.b.length x.c) (by simp) rfl
  clear HO hlp hks hB5
  go_upto_region 3 with fail
  generalize hW6 : World.alloc W5 (.cells _ _) = W6
  obtain ⟨ba6, hz6, hB6⟩ := fresh1 hW6
  clear hW6
  have q0 := cell_later hB6 q0
  have q1 := cell_later hB6 q1
  have q2 := cell_later hB6 q2
  have HXR : Hid (ERow eI64 W6 x.a x.b) := hxr.below hB6
  have HB6 := Lib.hid (HB5.out.then hB6)
  clear hxr hB6
  obtain ⟨e0, e1, -⟩ := Blk.c2 ba6
  have k1 : (x.d == 2) = true := by simp [hx1]
  have k2 : (x.n == 1) = true := by simp [hx2]
  have k3 : ((x.b.length : Int) == 9) = true := by simp [hx3]
  have HSH := Lib.hid (share_any W6 4 x [61] (Ev.iV 2) (Ev.iV_ok (by omega)) HXR.out (by omega))
  have HVAL : Hid (Ev.shareN 4 x [61] (Ev.iV 2) = 375) := by
    show _ = _
    unfold Ev.shareN Ev.clnC
    rw [hx1, hx2]
    rfl
  rw [HVAL.out] at HSH
  have HX := Lib.hid (And.intro hx1 (And.intro hx2 hx3))
  clear hx1 hx2 hx3 hxk ba6
  generalize W5.heap.size = g2 at e0 e1 ⊢
  go_wp2_with fail
  refine (show Calls _ _ #[.int .i64 4, x.v, txt [61], (Ev.iV 2).v] _ _ from HSH.out).mono ?_
  rintro e W7 ⟨rfl, hB7⟩
  have HB7 := Lib.hid (HB6.out.then hB7)
  clear hB7 HSH
  go_wp2_with fail
  go_ret
  exact ⟨rfl, HB7.out⟩
end Go.Proofs.Ytjdffhonljhpcaa
end

section
/-
  The contract of the document's Same.
-/
namespace Go.Proofs.Ytjdffhonljhpcaa
set_option linter.unusedSimpArgs false
set_option linter.unusedVariables false
open Go.RowKit

theorem wpList_load_cs_is {w : World} {ops : Array Oper} {rest : List Oper} {o : Oper} {a : Act} {Q : Exit → Act → World → Prop} (hgd : o.guard = none) (x : Operand) (hop : o.op = .load 31 x) {b off : Nat} {L : List Cs} (hr : ERow eCs w (some ⟨b, off, none⟩) L) {j : Nat} (hj : j < L.length) (p : Cs) (hp : L[j] = p) (hx : a.eval x = .pointer (some ⟨b, off + j * 3, none⟩))
    (h : wpList Try.prog ops Q rest (a.put o.dst p.v) w) : wpList Try.prog ops Q (o :: rest) a w := by
  subst hp
  exact wpList_load_cs_at hgd x hop hr hj hx h
theorem wpList_box_st {w : World} {ops : Array Oper} {rest : List Oper} {o : Oper} {a : Act} {Q : Exit → Act → World → Prop} (hgd : o.guard = none) (x : Operand) (hop : o.op = .box 27 x) (n : Int) (A : Option Addr) (k c : Nat) (hx : a.eval x = .agg #[.int .i64 n, .slice A k c])
    (h : ∀ W, Blk W w.heap.size 27 [.int .i64 n, .slice A k c] → w.heap.size + 1 ≤ W.heap.size → Below w.heap.size w W → wpList Try.prog ops Q rest (a.put o.dst (.pointer (some ⟨w.heap.size, 0, none⟩))) W) : wpList Try.prog ops Q (o :: rest) a w :=
  wpList_plain hgd fun _ hK => by
    unfold Oper.wp execOp
    have e : (Instr.box 27 (.agg #[.int .i64 n, .slice A k c])).run Try.prog w = .ok (.pointer (some ⟨w.heap.size, 0, none⟩)) (w.alloc (.cells #[.int .i64 n, .slice A k c] 27)) := by
      simp [Instr.box, Sem.run_bind, newVar, newRow]
      rfl
    simp only [hop, hx, Sem.run_bind, e, Result.andThen_ok, Sem.run_pure]
    obtain ⟨h1, h2, h3⟩ := fresh1 (w := w) (a := [.int .i64 n, .slice A k c]) (t := 27) rfl
    exact hK _ _ (h _ h1 h2 h3)
theorem cell_kept {w W : World} {g b i : Nat} {v : Value} (hg : w.grownBy W (some g)) (hb : b < w.heap.size) (hne : b ≠ g) (h : w.cell? ⟨b, i, none⟩ = some v) : W.cell? ⟨b, i, none⟩ = some v :=
  (World.cell?_of_block (w := w) (hg.block b hb (fun e => hne (Option.some.inj e)))).trans h
/-- What is known of columns, that may be read. -/
structure CsIn (w : World) (A : Option Addr) (R : List Cs) : Prop where
  r : ERow eCs w A R
  rr : ∀ x ∈ R, ERow eI64 w x.a x.b
  len : R.length ≤ 100
  lens : ∀ x ∈ R, x.b.length ≤ 1000
theorem CsIn.below {w W : World} {A : Option Addr} {R : List Cs} (h : CsIn w A R) (hB : Below w.heap.size w W) : CsIn W A R := ⟨h.r.below hB, fun x hx => (h.rr x hx).below hB, h.len, h.lens⟩
set_option maxRecDepth 100000 in
set_option maxHeartbeats 8000000 in
theorem same15_any (w : World) (n : Int) (A B : Option Addr) (c d : Nat) (R S : List Cs) (hA : CsIn w A R) (hB : CsIn w B S) (hk : R.map Cs.k = S.map Cs.k) (m : Nat) (hm : R.length = m) :
    Calls Try.prog 12 #[.agg #[.int .i64 n, .slice A m c], .agg #[.int .i64 n, .slice B m d]] w fun e w' => e = .returned (.bool true) ∧ Below w.heap.size w w' := by
  have HA := Lib.hid hA
  have HB := Lib.hid hB
  have HK := Lib.hid hk
  have hlen := hA.len
  have hml : m ≤ 100 := by omega
  have HSL : Hid (R.length = m ∧ S.length = m) := ⟨hm, by have := congrArg List.length hk; simp at this; omega⟩
  clear hA hB hk hm hlen
  go_enter Try.func12, Try.ntmps12
  go_upto_region 1 with (first | (refine wpList_box_st rfl (.tmp 0) rfl n A m c rfl ?_; intro W1 hb1 hz1 hB1) | (refine wpList_box_st rfl (.tmp 1) rfl n B m d rfl ?_; intro W2 hb2 hz2 hB2))
  have h12 := hb1.below hB2
  have HB2 := Lib.hid (hB1.then hB2)
  clear hb1 hB1 hB2 hz1 hz2
  obtain ⟨g3, hg3⟩ : ∃ g, W1.heap.size = g := ⟨_, rfl⟩
  obtain ⟨g2, hg2⟩ : ∃ g, w.heap.size = g := ⟨_, rfl⟩
  rw [hg3] at hb2
  rw [hg2] at h12
  rw [hg3, hg2]
  clear hg3 hg2
  have H12 := Lib.hid (And.intro h12 hb2)
  obtain ⟨e0, e1, -⟩ := Blk.c2 h12
  obtain ⟨f0, f1, -⟩ := Blk.c2 hb2
  clear h12 hb2
  go_upto_region 4 with fail
  clear e0 e1 f0 f1
  go_loopw [5] (fun iv wr => ∃ i : Nat, i ≤ m ∧ iv = .int .i64 (i : Int) ∧ Hid (Below W2.heap.size W2 wr)) (fun iv _ => m - (intOf iv).toNat)
  case atStart => exact ⟨0, Nat.zero_le _, by go_num, Below.refl _ _⟩
  case round =>
    obtain ⟨i, hi, rfl, HJ⟩ := hrel
    obtain ⟨-, e1, -⟩ := Blk.c2 (H12.out.1.below HJ.out)
    obtain ⟨-, f1, -⟩ := Blk.c2 (H12.out.2.below HJ.out)
    by_cases hlt : i < m
    · have hii : (i : Int) < (m : Int) := by omega
      have hiR : i < R.length := by have := HSL.out.1; omega
      have hiS : i < S.length := by have := HSL.out.2; omega
      obtain ⟨ba, oa, rfl, -, -⟩ := HA.out.r.at_ hiR
      obtain ⟨bb, ob, rfl, -, -⟩ := HB.out.r.at_ hiS
      obtain ⟨p, hp⟩ : ∃ p, R[i] = p := ⟨_, rfl⟩
      obtain ⟨q, hq⟩ : ∃ q, S[i] = q := ⟨_, rfl⟩
      have HP := Lib.hid hp
      have HQ := Lib.hid hq
      have hpq : p.k = q.k := by
        have e : (R.map Cs.k)[i]? = (S.map Cs.k)[i]? := by rw [HK.out]
        rw [← hp, ← hq]
        simpa [hiR, hiS] using e
      have HPM : Hid (p ∈ R ∧ q ∈ S) := ⟨by rw [← hp]; exact List.getElem_mem hiR, by rw [← hq]; exact List.getElem_mem hiS⟩
      have HPQ : Hid (q.d = p.d ∧ q.n = p.n ∧ q.b = p.b) := by
        unfold Cs.k at hpq
        simp only [Prod.mk.injEq] at hpq
        exact ⟨hpq.1.symm, hpq.2.1.symm, hpq.2.2.symm⟩
      clear hp hq hpq
      go_upto_region 6 with fail
      go_cut [6, 7] (fun v6 v7 wx => ∃ g6 g7 : Nat, v6 = .pointer (some ⟨g6, 0, none⟩) ∧ v7 = .pointer (some ⟨g7, 0, none⟩) ∧ Hid (Blk wx g6 31 p.cells ∧ Blk wx g7 31 q.cells ∧ Below w.heap.size w wx ∧ Below W2.heap.size W2 wx))
      case first =>
        have HAX : Hid (∀ W, Below w.heap.size w W → ERow eCs W (some ⟨ba, oa, none⟩) R) := fun W h => HA.out.r.below h
        have HBX : Hid (∀ W, Below w.heap.size w W → ERow eCs W (some ⟨bb, ob, none⟩) S) := fun W h => HB.out.r.below h
        have hB : Below w.heap.size w wr.drew := (HB2.out.then HJ.out).drewR
        have hB' : Below W2.heap.size W2 wr.drew := HJ.out.drewR
        have hwz := HJ.out.size
        have hwd : wr.drew.heap.size = wr.heap.size := rfl
        have hw2 := HB2.out.size
        have e1 : wr.drew.cell? _ = _ := e1
        have f1 : wr.drew.cell? _ = _ := f1
        have h3lt : g3 < W2.heap.size := H12.out.2.lt
        clear HA HB HK HJ H12 HB2
        refine wp_region_plan (.take 0 (.take 1 (.take 2 (.take 3 (.take 4 (.take 5 (.take 6 (.take 7 (.take 8 (.take 9 (.fork (.run 10 [0, 1, 2, 3, 4, 5, 6, 7, 8, 9] (.run 11 [0, 1, 2, 3, 4, 5, 6, 7, 8, 9] (.run 12 [5, 6, 7, 8, 9] (.run 13 [] .fin)))) (.run 11 [0, 1, 2, 3, 4, 5, 6, 7, 8, 9] (.run 10 [0, 1, 2, 3, 4, 5, 6, 7, 8, 9] (.run 12 [5, 6, 7, 8, 9] (.run 13 [] .fin))))))))))))))) (by kernel_rfl) (by kernel_rfl) (by kernel_rfl) (by kernel_rfl) ?_
        repeat' (first | (refine hZ _ _ ?_; clear hZ) | (refine hZ _ ?_; clear hZ) | (refine hZ ?_; clear hZ) | rw [again_nil] | (rw [walk_fin]; go_wp2_with fail; go_meet; (case rel => exact ⟨_, _, rfl, rfl, h7, h8, hB, hB'⟩)) | (rw [walk_fork]; refine ⟨?_, ?_⟩) | ((first | rw [walk_take] | rw [walk_run] | rw [again_cons]); intro Z hZ; simp only [sel, List.getElem?_toArray, List.getElem?_cons_zero, List.getElem?_cons_succ]; go_wp2_with (first | (refine wpList_load_cs_is rfl (.tmp 33) rfl (HAX.out _ hB) hiR p HP.out rfl ?_) | (refine wpList_load_cs_is rfl (.tmp 38) rfl (HBX.out _ hB) hiS q HQ.out rfl ?_) | (refine wpList_alloc_cs (o := ⟨some 6, _, _, _, _, _⟩) rfl rfl ?_; intro W h7 hz7 hn; (try replace h8 := h8.below hn); replace e1 := cell_later hn e1; replace f1 := cell_later hn f1; replace hB := hB.then hn; replace hB' := hB'.then hn) | (refine wpList_alloc_cs (o := ⟨some 7, _, _, _, _, _⟩) rfl rfl ?_; intro W h8 hz8 hn; (try replace h7 := h7.below hn); replace e1 := cell_later hn e1; replace f1 := cell_later hn f1; replace hB := hB.then hn; replace hB' := hB'.then hn) | (refine wpList_store_cs rfl rfl (.tmp 6) (.tmp 34) rfl _ rfl p rfl h7 ?_; intro W h7 hg; replace h8 := h8.grown hg (by simp only [ne_eq, Option.some.injEq]; omega); have hnz2 := hg.size; have hs' := hB'.size; replace f1 := cell_kept hg (by omega) (by omega) f1; replace hB := below_of_grown hB hg (by omega) hB.size; replace hB' := below_of_grown hB' hg (by omega) hB'.size) | (refine wpList_store_cs rfl rfl (.tmp 7) (.tmp 39) rfl _ rfl q rfl h8 ?_; intro W h8 hg; replace h7 := h7.grown hg (by simp only [ne_eq, Option.some.injEq]; omega); replace hB := below_of_grown hB hg (by omega) hB.size; replace hB' := below_of_grown hB' hg (by omega) hB'.size))))
      case rest =>
        obtain ⟨g6, g7, rfl, rfl, HX⟩ := hcut
        have h6 := HX.out.1
        have h7 : Blk wc g7 31 [.int .i64 p.d, .int .i64 p.n, .slice q.a p.b.length q.c] := by
          have := HX.out.2.1
          unfold Cs.cells at this
          rw [HPQ.out.1, HPQ.out.2.1, HPQ.out.2.2] at this
          exact this
        have HPR : Hid (ERow eI64 wc p.a p.b) := (HA.out.rr p HPM.out.1).below HX.out.2.2.1
        have HQR : Hid (ERow eI64 wc q.a p.b) := by
          have := (HB.out.rr q HPM.out.2).below HX.out.2.2.1
          rw [HPQ.out.2.2] at this
          exact this
        have hbl := HA.out.lens p HPM.out.1
        obtain ⟨a0, a1, a2, -⟩ := Blk.c3 h6
        obtain ⟨b0, b1, b2, -⟩ := Blk.c3 h7
        clear e1 f1
        go_upto_region 10 with fail
        clear a0 a1 a2 b0 b1 b2
        obtain ⟨wd, rfl⟩ : ∃ wd, wd = wc := ⟨_, rfl⟩
        go_loopw [8] (fun kv wq => ∃ k : Nat, k ≤ p.b.length ∧ kv = .int .i64 (k : Int) ∧ Hid (Below wd.heap.size wd wq)) (fun kv _ => p.b.length - (intOf kv).toNat)
        case atStart => exact ⟨0, Nat.zero_le _, by go_num, Below.refl _ _⟩
        case round =>
          obtain ⟨k, hk, rfl, HK2⟩ := hrel
          obtain ⟨-, -, a2, -⟩ := Blk.c3 (h6.below HK2.out)
          obtain ⟨-, -, b2, -⟩ := Blk.c3 (h7.below HK2.out)
          by_cases hkl : k < p.b.length
          · have hki : (k : Int) < (p.b.length : Int) := by omega
            obtain ⟨x1, o1, hx1, -, q0⟩ := i64_at (HPR.out.below HK2.out.drewR) hkl
            obtain ⟨x2, o2, hx2, -, q1⟩ := i64_at (HQR.out.below HK2.out.drewR) hkl
            have a3 : wr.drew.cell? _ = _ := a2
            have b3 : wr.drew.cell? _ = _ := b2
            rw [hx1] at a2 a3
            rw [hx2] at b2 b3
            generalize p.b[k] = y at q0 q1
            have hyy : (y != y) = false := by simp
            clear hx1 hx2
            go_upto_region 12 with fail
            refine wp_region_plan (.take 0 (.take 1 (.take 2 (.take 3 (.take 4 (.take 5 (.take 6 (.take 7 (.take 8 (.take 9 (.take 10 .fin))))))))))) (by kernel_rfl) (by kernel_rfl) (by kernel_rfl) (by kernel_rfl) ?_
            repeat' (first | (refine hZ _ _ ?_; clear hZ) | (refine hZ _ ?_; clear hZ) | (refine hZ ?_; clear hZ) | rw [again_nil] | rw [walk_fin] | ((first | rw [walk_take] | rw [walk_run] | rw [again_cons]); intro Z hZ; simp only [sel, List.getElem?_toArray, List.getElem?_cons_zero, List.getElem?_cons_succ]; go_wp2_with (fail)))
            go_wp2_with fail
            go_roundw
            case rel => exact ⟨k + 1, by omega, by go_num, HK2.out.drewR⟩
            case measure => simp [intOf]; omega
          · have hki : ¬ (k : Int) < (p.b.length : Int) := by omega
            have HR : Hid (Below W2.heap.size W2 wr) := HX.out.2.2.2.then HK2.out
            go_wp2_with fail
            go_roundw
            case rel => exact ⟨i + 1, by omega, by go_num, HR.out⟩
            case measure => simp [intOf]; omega
    · have hii : ¬ (i : Int) < (m : Int) := by omega
      have HF : Hid (Below w.heap.size w wr) := HB2.out.then HJ.out
      go_wp2_with fail
      go_ret
      exact ⟨rfl, HF.out⟩
end Go.Proofs.Ytjdffhonljhpcaa
end

section
/-
  The contracts of dowserref15.near, stats.Turn and dowserref15.Turn.
-/
namespace Go.Proofs.Ytjdffhonljhpcaa
set_option linter.unusedSimpArgs false
set_option linter.unusedVariables false
open Go.RowKit

namespace Ev
/-- A sign turned round. -/
def turnS (op : List UInt8) : List UInt8 := if op = [60] then [62] else if op = [60, 61] then [62, 61] else if op = [62] then [60] else if op = [62, 61] then [60, 61] else op
theorem turnS_turnS (op : List UInt8) : turnS (turnS op) = op := by
  unfold turnS
  by_cases h1 : op = [60]
  · subst h1; rfl
  by_cases h2 : op = [60, 61]
  · subst h2; rfl
  by_cases h3 : op = [62]
  · subst h3; rfl
  by_cases h4 : op = [62, 61]
  · subst h4; rfl
  simp only [if_neg h1, if_neg h2, if_neg h3, if_neg h4]
end Ev
theorem rnear_any (w : World) (n m : Int) : Calls Try.prog 40 #[.int .i64 n, .int .i64 m] w fun e w' => e = .returned (.int .i64 (Ev.near n m)) ∧ w' = w := by
  go_enter Try.func40, Try.ntmps40
  have HF := Lib.hid (Ev.near_mm n m)
  go_wp2_with fail
  go_ret
  exact ⟨by rw [← HF.out]; rfl, rfl⟩
set_option maxRecDepth 20000 in
set_option maxHeartbeats 4000000 in
theorem turn_any (w : World) (op : List UInt8) : Calls Try.prog 15 #[txt op] w fun e w' => e = .returned (txt (Ev.turnS op)) ∧ w' = w := by
  have hgs := guard_str_is
  have HF : Hid (Ev.turnS op = if op = [60] then [62] else if op = [60, 61] then [62, 61] else if op = [62] then [60] else if op = [62, 61] then [60, 61] else op) := rfl
  generalize Ev.turnS op = D at HF ⊢
  go_enter Try.func15, Try.ntmps15
  by_cases h1 : op = [60]
  · have HF : Hid (D = [62]) := by show _ = _; rw [HF.out, if_pos h1]
    subst h1
    unfold txt
    go_wp2_with fail
    go_ret
    exact ⟨by rw [HF.out]; rfl, rfl⟩
  have n1 := run_str_is op [60] h1
  by_cases h2 : op = [60, 61]
  · have HF : Hid (D = [62, 61]) := by show _ = _; rw [HF.out, if_neg h1, if_pos h2]
    clear n1
    subst h2
    unfold txt
    go_wp2_with fail
    go_ret
    exact ⟨by rw [HF.out]; rfl, rfl⟩
  have n2 := run_str_is op [60, 61] h2
  by_cases h3 : op = [62]
  · have HF : Hid (D = [60]) := by show _ = _; rw [HF.out, if_neg h1, if_neg h2, if_pos h3]
    clear n1 n2
    subst h3
    unfold txt
    go_wp2_with fail
    go_ret
    exact ⟨by rw [HF.out]; rfl, rfl⟩
  have n3 := run_str_is op [62] h3
  by_cases h4 : op = [62, 61]
  · have HF : Hid (D = [60, 61]) := by show _ = _; rw [HF.out, if_neg h1, if_neg h2, if_neg h3, if_pos h4]
    clear n1 n2 n3
    subst h4
    unfold txt
    go_wp2_with fail
    go_ret
    exact ⟨by rw [HF.out]; rfl, rfl⟩
  have n4 := run_str_is op [62, 61] h4
  have HF : Hid (D = op) := by show _ = _; rw [HF.out, if_neg h1, if_neg h2, if_neg h3, if_neg h4]
  clear h1 h2 h3 h4
  go_wp2_with fail
  go_ret
  exact ⟨by rw [HF.out]; rfl, rfl⟩
theorem guard_str_si (t : TypeId) (x y : Operand) (l : List UInt8) (m : ByteArray) : eqGuard .eql t x y (.string m) (txt l) = pure () := rfl
theorem run_str_si (op m : List UInt8) (h : op ≠ m) (w : World) : (binOp .eql 9 (.string ⟨m.toArray⟩) (txt op)).run Try.prog w = .ok (.bool false) w := by
  have := run_str_eq m op w
  have e : (m == op) = false := by simp; exact fun e => h e.symm
  rw [e] at this
  exact this
set_option maxRecDepth 20000 in
set_option maxHeartbeats 4000000 in
theorem rturn_any (w : World) (op : List UInt8) : Calls Try.prog 16 #[txt op] w fun e w' => e = .returned (txt (Ev.turnS op)) ∧ Below w.heap.size w w' := by
  have HF : Hid (Ev.turnS op = if op = [60] then [62] else if op = [60, 61] then [62, 61] else if op = [62] then [60] else if op = [62, 61] then [60, 61] else op) := rfl
  generalize Ev.turnS op = D at HF ⊢
  have hgs := guard_str_si
  go_enter Try.func16, Try.ntmps16
  go_upto_region 3 with fail
  generalize hW1 : ((World.alloc w (.cells _ _)).alloc (.cells _ _)) = W1
  obtain ⟨ba1, bb1, hz1, hB1⟩ := fresh2 hW1
  clear hW1
  have HBA := Lib.hid ba1
  have HBB := Lib.hid bb1
  have HB1 := Lib.hid hB1
  clear ba1 bb1 hB1 hz1
  go_loopw [5] (fun iv wr => ∃ i : Nat, i ≤ 4 ∧ iv = .int .i64 (i : Int) ∧ Hid (∀ j, j < i → ([[60], [60, 61], [62], [62, 61]] : List (List UInt8))[j]? ≠ some op) ∧ Hid (Below W1.heap.size W1 wr)) (fun iv _ => 4 - (intOf iv).toNat)
  case atStart => exact ⟨0, Nat.zero_le _, by go_num, fun j hj => by omega, Below.refl _ _⟩
  case round =>
    obtain ⟨i, hi, rfl, HI, HJ⟩ := hrel
    have hA := HBA.out.below HJ.out
    have hB := HBB.out.below HJ.out
    have p0 := hA.cell 0
    have p1 := hA.cell 1
    have p2 := hA.cell 2
    have p3 := hA.cell 3
    have q0 := hB.cell 0
    have q1 := hB.cell 1
    have q2 := hB.cell 2
    have q3 := hB.cell 3
    simp only [List.getElem?_cons_zero, List.getElem?_cons_succ] at p0 p1 p2 p3 q0 q1 q2 q3
    clear hA hB
    have HR : Hid (Below w.heap.size w wr) := HB1.out.then HJ.out
    match i, hi with
    | 0, _ =>
      by_cases hop : op = [60]
      · have HF2 : Hid (D = [62]) := by show _ = _; rw [HF.out, hop]; rfl
        subst hop
        unfold txt
        go_wp2_with fail
        go_ret
        exact ⟨by rw [HF2.out]; rfl, HR.out⟩
      have n1 := run_str_si op [60] hop
      have HI2 : Hid (∀ j, j < 1 → ([[60], [60, 61], [62], [62, 61]] : List (List UInt8))[j]? ≠ some op) := by
        intro j hj e
        by_cases hj2 : j < 0
        · exact HI.out j hj2 e
        · obtain rfl : j = 0 := by omega
          simp at e
          exact hop e.symm
      clear hop
      go_wp2_with fail
      go_roundw
      case rel => exact ⟨1, by omega, by go_num, HI2.out, HJ.out⟩
      case measure => simp [intOf]
    | 1, _ =>
      by_cases hop : op = [60, 61]
      · have HF2 : Hid (D = [62, 61]) := by show _ = _; rw [HF.out, hop]; rfl
        subst hop
        unfold txt
        go_wp2_with fail
        go_ret
        exact ⟨by rw [HF2.out]; rfl, HR.out⟩
      have n1 := run_str_si op [60, 61] hop
      have HI2 : Hid (∀ j, j < 2 → ([[60], [60, 61], [62], [62, 61]] : List (List UInt8))[j]? ≠ some op) := by
        intro j hj e
        by_cases hj2 : j < 1
        · exact HI.out j hj2 e
        · obtain rfl : j = 1 := by omega
          simp at e
          exact hop e.symm
      clear hop
      go_wp2_with fail
      go_roundw
      case rel => exact ⟨2, by omega, by go_num, HI2.out, HJ.out⟩
      case measure => simp [intOf]
    | 2, _ =>
      by_cases hop : op = [62]
      · have HF2 : Hid (D = [60]) := by show _ = _; rw [HF.out, hop]; rfl
        subst hop
        unfold txt
        go_wp2_with fail
        go_ret
        exact ⟨by rw [HF2.out]; rfl, HR.out⟩
      have n1 := run_str_si op [62] hop
      have HI2 : Hid (∀ j, j < 3 → ([[60], [60, 61], [62], [62, 61]] : List (List UInt8))[j]? ≠ some op) := by
        intro j hj e
        by_cases hj2 : j < 2
        · exact HI.out j hj2 e
        · obtain rfl : j = 2 := by omega
          simp at e
          exact hop e.symm
      clear hop
      go_wp2_with fail
      go_roundw
      case rel => exact ⟨3, by omega, by go_num, HI2.out, HJ.out⟩
      case measure => simp [intOf]
    | 3, _ =>
      by_cases hop : op = [62, 61]
      · have HF2 : Hid (D = [60, 61]) := by show _ = _; rw [HF.out, hop]; rfl
        subst hop
        unfold txt
        go_wp2_with fail
        go_ret
        exact ⟨by rw [HF2.out]; rfl, HR.out⟩
      have n1 := run_str_si op [62, 61] hop
      have HI2 : Hid (∀ j, j < 4 → ([[60], [60, 61], [62], [62, 61]] : List (List UInt8))[j]? ≠ some op) := by
        intro j hj e
        by_cases hj2 : j < 3
        · exact HI.out j hj2 e
        · obtain rfl : j = 3 := by omega
          simp at e
          exact hop e.symm
      clear hop
      go_wp2_with fail
      go_roundw
      case rel => exact ⟨4, by omega, by go_num, HI2.out, HJ.out⟩
      case measure => simp [intOf]
    | 4, _ =>
      have HF2 : Hid (D = op) := by
        show _ = _
        have h0 := HI.out 0 (by omega)
        have h1 := HI.out 1 (by omega)
        have h2 := HI.out 2 (by omega)
        have h3 := HI.out 3 (by omega)
        simp at h0 h1 h2 h3
        rw [HF.out, if_neg (fun e => h0 e.symm), if_neg (fun e => h1 e.symm), if_neg (fun e => h2 e.symm), if_neg (fun e => h3 e.symm)]
      go_wp2_with fail
      go_ret
      exact ⟨by rw [HF2.out]; rfl, HR.out⟩
end Go.Proofs.Ytjdffhonljhpcaa
end

section
/-
  The contract of the document's Share.
-/
namespace Go.Proofs.Ytjdffhonljhpcaa
set_option linter.unusedSimpArgs false
set_option linter.unusedVariables false
open Go.RowKit

namespace Ev
theorem share_clean (r : Int) (c : Cs) (op : List UInt8) (v : Va) : share r c op (Key.clean v) = share r c op (Key.dclean v) := by
  have hk := clean_dk v
  by_cases k1 : v.k = 1
  · have e : Key.clean v = Key.dclean v := by unfold Key.clean Key.dclean Key.cleanF; rw [if_pos k1, if_pos k1]
    rw [e]
  · have n1 : (Key.dclean v).k ≠ 1 := by unfold Key.dclean Key.cleanF; rw [if_neg k1]; (repeat' split) <;> simp [Key.nul]
    have n2 : (Key.clean v).k ≠ 1 := by rw [hk]; exact n1
    have e1 : ∀ b bs p, belowN b (Key.clean v) bs p = b / 3 := fun b bs p => by unfold belowN; rw [if_pos (.inl n2)]
    have e2 : ∀ b bs p, belowN b (Key.dclean v) bs p = b / 3 := fun b bs p => by unfold belowN; rw [if_pos (.inl n1)]
    unfold share
    simp only [e1, e2, hk]
/-- What the document counts. -/
def cntP (op : List UInt8) (n x : Int) : Bool := decide ((cmpV op (iV x) (iV n)).n = 1)
theorem cmp_n (op : List UInt8) (a b : Va) : (cmpV op a b).n = if decide ((cmpV op a b).n = 1) then 1 else 0 := by
  have h : (cmpV op a b).n = 0 ∨ (cmpV op a b).n = 1 := by
    unfold cmpV
    split
    · exact .inl rfl
    · cases sign op (Key.vord (Key.clean a) (Key.clean b)) with
      | none => exact .inl rfl
      | some x => cases x <;> simp [optB, boolV]
  rcases h with h | h <;> rw [h] <;> rfl
theorem cnt_sign {op : List UInt8} {n x : Int} : cntP op n x = decide ((optB (sign op (if x < n then -1 else if n < x then 1 else 0))).n = 1) := by
  unfold cntP cmpV
  have h1 : Key.clean (iV x) = iV x := rfl
  have h2 : Key.clean (iV n) = iV n := rfl
  rw [h1, h2, if_neg (by rintro (h | h); exact absurd h (by show ¬ (1 : Int) = 0; decide); exact h rfl), vord_iV]
theorem cnt_lt (n x : Int) : cntP [60] n x = decide (x < n) := by
  rw [cnt_sign]
  by_cases h : x < n
  · simp [h, sign, optB, boolV]
  · by_cases h2 : n < x <;> simp [h, h2, sign, optB, boolV]
theorem cnt_le (n x : Int) : cntP [60, 61] n x = decide (x ≤ n) := by
  rw [cnt_sign]
  by_cases h : x < n
  · simp [h, sign, optB, boolV]; omega
  · by_cases h2 : n < x <;> simp [h, h2, sign, optB, boolV] <;> omega
theorem cnt_gt (n x : Int) : cntP [62] n x = decide (n < x) := by
  rw [cnt_sign]
  by_cases h : x < n
  · simp [h, sign, optB, boolV]; omega
  · by_cases h2 : n < x <;> simp [h, h2, sign, optB, boolV]
theorem cnt_ge (n x : Int) : cntP [62, 61] n x = decide (n ≤ x) := by
  rw [cnt_sign]
  by_cases h : x < n
  · simp [h, sign, optB, boolV]
  · by_cases h2 : n < x <;> simp [h, h2, sign, optB, boolV] <;> omega
theorem share_third {r : Int} {c : Cs} {op : List UInt8} {v : Va} (h0 : ¬ (r = 0 ∨ v.k = 0)) (h1 : op ≠ [61]) (h2 : op ≠ [60, 62]) (h : v.k ≠ 1 ∨ c.b = []) : share r c op v = (1000 * (r - c.n) / r) / 3 := by
  have e : ∀ b p, belowN b v c.b p = b / 3 := fun b p => by unfold belowN; rw [if_pos h]
  unfold share
  rw [if_neg h0, if_neg h1, if_neg h2]
  simp only [e]
  (repeat' split) <;> rfl
theorem share_sign {r : Int} {c : Cs} {op : List UInt8} {v : Va} (h0 : ¬ (r = 0 ∨ v.k = 0)) (h1 : op = [60] ∨ op = [60, 61] ∨ op = [62] ∨ op = [62, 61]) (hk : v.k = 1) (hb : c.b ≠ []) :
    share r c op v = (1000 * (r - c.n) / r * (c.b.countP (cntP op v.n) : Nat)) / c.b.length := by
  have e : ∀ b p, belowN b v c.b p = (b * (c.b.countP p : Nat)) / c.b.length := fun b p => by unfold belowN; rw [if_neg (by rintro (h | h); exact h hk; exact hb h)]
  unfold share
  rw [if_neg h0]
  simp only [e]
  rcases h1 with rfl | rfl | rfl | rfl
  · rw [if_neg (by decide), if_neg (by decide), if_pos rfl, funext (cnt_lt v.n)]
  · rw [if_neg (by decide), if_neg (by decide), if_neg (by decide), if_pos rfl, funext (cnt_le v.n)]
  · rw [if_neg (by decide), if_neg (by decide), if_neg (by decide), if_neg (by decide), if_pos rfl, funext (cnt_gt v.n)]
  · rw [if_neg (by decide), if_neg (by decide), if_neg (by decide), if_neg (by decide), if_neg (by decide), if_pos rfl, funext (cnt_ge v.n)]
end Ev
theorem guard_str_nis (t : TypeId) (x y : Operand) (l : List UInt8) (m : ByteArray) : eqGuard .neq t x y (txt l) (.string m) = pure () := rfl
theorem run_str_nis (op m : List UInt8) (h : op ≠ m) (w : World) : (binOp .neq 9 (txt op) (.string ⟨m.toArray⟩)).run Try.prog w = .ok (.bool true) w := by
  have := run_str_ne op m w
  have e : (op == m) = false := by simp [h]
  rw [e] at this
  exact this
set_option maxRecDepth 100000 in
set_option maxHeartbeats 8000000 in
theorem rshare_any (w : World) (r : Int) (c : Cs) (op : List UInt8) (v : Va) (hv : v.ok) (hr : ERow eI64 w c.a c.b) (hl : c.b.length ≤ 1000) (hbw : ∀ x ∈ c.b, -9223372036854775808 ≤ x ∧ x ≤ 9223372036854775807) :
    Calls Try.prog 14 #[.int .i64 r, c.v, txt op, v.v] w fun e w' => e = .returned (.int .i64 (Ev.shareN r c op v)) ∧ Below w.heap.size w w' := by
  have HV := Lib.hid hv
  have HRW := Lib.hid hr
  have HBW := Lib.hid hbw
  have hgs := guard_str_is
  have hgn := guard_str_nis
  clear hv hr hbw
  obtain ⟨D, hDD⟩ : ∃ D, Ev.shareN r c op v = D := ⟨_, rfl⟩
  rw [hDD]
  have HDD : Hid (Ev.share (Ev.rowsN r) (Ev.clnC r c) op (Key.dclean v) = D) := by show _ = _; rw [← hDD, ← Ev.share_clean]; rfl
  clear hDD
  go_enter Try.func14, Try.ntmps14
  go_upto_region 1 with (first | (refine wpList_box_cs rfl (.tmp 1) rfl c rfl ?_; intro W1 hb1 hz1 hB1) | (refine wpList_box_va rfl (.tmp 3) rfl v rfl ?_; intro W2 hb2 hz2 hB2))
  have h12 := hb1.below hB2
  have HB2 := Lib.hid (hB1.then hB2)
  have h57 : w.heap.size < W1.heap.size := by omega
  clear hb1 hB1 hB2 hz1
  obtain ⟨g7, hg7⟩ : ∃ g, W1.heap.size = g := ⟨_, rfl⟩
  obtain ⟨g5, hg5⟩ : ∃ g, w.heap.size = g := ⟨_, rfl⟩
  rw [hg7] at hb2 h57
  rw [hg5] at h12 h57
  rw [hg7, hg5]
  have HG5 := Lib.hid hg5
  clear hg7 hg5 hz2
  go_wp2_with fail
  refine (rnear_any W2 r 1099511627776).mono ?_
  rintro e W3 ⟨rfl, rfl⟩
  have hR := Ev.rowsN_le r
  have hcn := Ev.near_le (n := c.n) hR.1
  have hcd := Ev.near_le (n := c.d) hR.1
  obtain ⟨N, hN⟩ : ∃ N, Ev.near c.n (Ev.rowsN r) = N := ⟨_, rfl⟩
  obtain ⟨D0, hD0⟩ : ∃ N, Ev.near c.d (Ev.rowsN r) = N := ⟨_, rfl⟩
  rw [hN] at hcn
  rw [hD0] at hcd
  have HDD : Hid (Ev.share (Ev.rowsN r) ⟨D0, N, c.a, c.b, c.c⟩ op (Key.dclean v) = D) := by rw [← hN, ← hD0]; exact HDD.out
  have hRR : Ev.near r 1099511627776 = Ev.rowsN r := rfl
  rw [hRR]
  clear hRR
  generalize Ev.rowsN r = R at hR hcd hcn HDD hN hD0 ⊢
  have HN := Lib.hid hN
  have HD0 := Lib.hid hD0
  clear hN hD0
  go_upto_region 2 with fail
  go_wp2_with (refine wpList_load_va rfl (.tmp 7) rfl g7 rfl hb2 ?_)
  refine (dclean_any W3 v HV.out).mono ?_
  rintro e W5 ⟨rfl, hB5⟩
  have hb5 := hb2.below hB5
  have h55 := h12.below hB5
  have HB5 := Lib.hid (HB2.out.then hB5)
  have HUO := Lib.hid (Key.dclean_ok HV.out)
  have HU1 : Hid ((Key.dclean v).k = 1 → Key.dclean v = Ev.iV (Key.dclean v).n) := fun h => by
    by_cases k1 : v.k = 1
    · rw [Va.dclean1 k1]; rfl
    · exfalso
      have n1 : (Key.dclean v).k ≠ 1 := by unfold Key.dclean Key.cleanF; rw [if_neg k1]; (repeat' split) <;> simp [Key.nul]
      exact n1 h
  clear hB5 hb2 h12
  generalize Key.dclean v = u at HDD HUO HU1 ⊢
  go_upto_region 3 with (refine wpList_store_va rfl rfl (.tmp 7) (.tmp 19) rfl g7 rfl u rfl hb5 ?_; intro W6 hb7 hg7)
  have h5 := h55.grown hg7 (by simp; omega)
  have HB6 : Hid (Below w.heap.size w W6) := below_of_grown HB5.out hg7 (by have := HG5.out; omega) HB5.out.size
  clear hb5 h55 hg7
  obtain ⟨c0, -⟩ := Blk.c4 hb7
  by_cases hz : R = 0
  · have HF : Hid (D = 0) := by show _ = _; rw [← HDD.out]; unfold Ev.share; rw [if_pos (.inl hz)]
    have hzb : (R == 0) = true := by simp [hz]
    clear hz
    go_wp2_with fail
    go_ret
    exact ⟨by rw [HF.out]; rfl, HB6.out⟩
  have hzb : (R == 0) = false := by simpa using hz
  by_cases hk : u.k = 0
  · have HF : Hid (D = 0) := by show _ = _; rw [← HDD.out]; unfold Ev.share; rw [if_pos (.inr hk)]
    rw [hk] at c0
    clear hz hk
    go_wp2_with fail
    go_ret
    exact ⟨by rw [HF.out]; rfl, HB6.out⟩
  have hkb : (u.k == 0) = false := by simpa using hk
  have HNZ : Hid (¬ (R = 0 ∨ u.k = 0)) := by rintro (h | h); exact hz h; exact hk h
  obtain ⟨e0, e1, e2, -⟩ := Blk.c3 h5
  have hRp : 0 < R := by omega
  clear hz hk
  go_upto_region 5 with fail
  have e0 : W6.drew.cell? _ = _ := e0
  have e1 : W6.drew.cell? _ = _ := e1
  refine wp_region_plan (.take 0 (.take 1 (.take 2 (.take 4 (.take 5 (.take 6 (.run 3 [4, 5, 6] (.run 7 [] (.take 8 (.take 9 .fin)))))))))) (by kernel_rfl) (by kernel_rfl) (by kernel_rfl) (by kernel_rfl) ?_
  repeat' (first | (refine hZ _ _ ?_; clear hZ) | (refine hZ _ ?_; clear hZ) | (refine hZ ?_; clear hZ) | rw [again_nil] | rw [walk_fin] | ((first | rw [walk_take] | rw [walk_run] | rw [again_cons]); intro Z hZ; simp only [sel, List.getElem?_toArray, List.getElem?_cons_zero, List.getElem?_cons_succ]; go_wp2_with (fail)))
  refine (rnear_any _ _ _).mono ?_
  rintro e W7 ⟨rfl, rfl⟩
  rw [HN.out]
  go_wp2_with fail
  repeat' (first | (refine hZ _ _ ?_; clear hZ) | (refine hZ _ ?_; clear hZ) | (refine hZ ?_; clear hZ) | rw [again_nil] | rw [walk_fin] | ((first | rw [walk_take] | rw [walk_run] | rw [again_cons]); intro Z hZ; simp only [sel, List.getElem?_toArray, List.getElem?_cons_zero, List.getElem?_cons_succ]; go_wp2_with (fail)))
  refine (rnear_any _ _ _).mono ?_
  rintro e W7 ⟨rfl, rfl⟩
  rw [HD0.out]
  go_wp2_with fail
  repeat' (first | (refine hZ _ _ ?_; clear hZ) | (refine hZ _ ?_; clear hZ) | (refine hZ ?_; clear hZ) | rw [again_nil] | rw [walk_fin] | ((first | rw [walk_take] | rw [walk_run] | rw [again_cons]); intro Z hZ; simp only [sel, List.getElem?_toArray, List.getElem?_cons_zero, List.getElem?_cons_succ]; go_wp2_with (fail)))
  have h5 := h5.drew
  have hb7 := hb7.drew
  have HB7 : Hid (Below w.heap.size w W6.drew) := HB6.out.drewR
  clear e0 e1 e2 c0
  generalize W6.drew = W7 at h5 hb7 HB7 ⊢
  obtain ⟨b, hbd⟩ : ∃ b, 1000 * (R - N) / R = b := ⟨_, rfl⟩
  have hb0 : 0 ≤ b := by rw [← hbd]; exact Int.ediv_nonneg (by omega) (by omega)
  have hb1 : b ≤ 1000 := by rw [← hbd]; exact Int.ediv_le_of_le_mul hRp (by omega)
  have HBD := Lib.hid hbd
  have HRR : Hid (ERow eI64 W7 c.a c.b) := HRW.out.below HB7.out
  go_upto_region 7 with fail
  rw [hbd]
  clear hbd
  obtain ⟨c0, -⟩ := Blk.c4 hb7
  obtain ⟨-, -, e2, -⟩ := Blk.c3 h5
  go_upto_if 42 with fail
  go_cut [12] from 42 to 46 (fun v wx => Hid (v = .int .i64 (Ev.sameN b D0) ∧ wx = W7))
  case first =>
    by_cases hd : 0 < D0
    · have hq0 : 0 ≤ b / D0 := Int.ediv_nonneg hb0 (by omega)
      have HS : Hid (Ev.sameN b D0 = max 1 (b / D0)) := by show _ = _; unfold Ev.sameN; rw [if_pos hd]
      go_wp2_with fail
      go_meet
      case rel => exact ⟨by rw [HS.out], rfl⟩
    · have HS : Hid (Ev.sameN b D0 = 0) := by show _ = _; unfold Ev.sameN; rw [if_neg hd]
      go_wp2_with fail
      go_meet
      case rel => exact ⟨by rw [HS.out], rfl⟩
  case rest =>
    obtain ⟨hv, rfl⟩ := hcut.out
    subst hv
    clear hcut
    have HSB := Ev.sameN_le hb0 hb1 (d := D0)
    by_cases hop : op = [61]
    · have HF : Hid (D = Ev.sameN b D0) := by show _ = _; rw [← HDD.out]; unfold Ev.share; rw [if_neg HNZ.out, HBD.out, if_pos hop]
      subst hop
      unfold txt
      go_wp2_with fail
      go_ret
      exact ⟨by rw [HF.out]; rfl, HB7.out⟩
    have n1 := run_str_is op [61] hop
    by_cases hop2 : op = [60, 62]
    · have HF : Hid (D = max 0 (b - Ev.sameN b D0)) := by show _ = _; rw [← HDD.out]; unfold Ev.share; rw [if_neg HNZ.out, HBD.out, if_neg hop, if_pos hop2]
      subst hop2
      clear n1
      unfold txt
      generalize Ev.sameN b D0 = s at HSB HF ⊢
      go_wp2_with fail
      go_ret
      exact ⟨by rw [HF.out]; rfl, HB7.out⟩
    have n2 := run_str_is op [60, 62] hop2
    by_cases hu1 : u.k = 1
    · by_cases hcb : c.b = []
      · have HF : Hid (D = b / 3) := by show _ = _; rw [← HDD.out, Ev.share_third (c := ⟨D0, N, c.a, c.b, c.c⟩) HNZ.out hop hop2 (.inr hcb), HBD.out]
        have hlb : ((c.b.length : Int) == 0) = true := by simp [hcb]
        rw [hu1] at c0
        clear hop hop2 hcb
        go_wp2_with fail
        go_ret
        exact ⟨by rw [HF.out]; rfl, HB7.out⟩
      · have hlb : ((c.b.length : Int) == 0) = false := by simpa using hcb
        have hlp : 0 < c.b.length := List.length_pos_iff.2 hcb
        have HUI := Lib.hid (HU1.out hu1)
        have HSG := Lib.hid fun h => Ev.share_sign (r := R) (c := ⟨D0, N, c.a, c.b, c.c⟩) (op := op) (v := u) HNZ.out h hu1 hcb
        have HTH := Lib.hid fun (h : op ≠ [60]) (h2 : op ≠ [60, 61]) (h3 : op ≠ [62]) (h4 : op ≠ [62, 61]) => show Ev.share R ⟨D0, N, c.a, c.b, c.c⟩ op u = b / 3 by
          unfold Ev.share
          rw [if_neg HNZ.out, HBD.out, if_neg hop, if_neg hop2, if_neg h, if_neg h2, if_neg h3, if_neg h4]
        rw [hu1] at c0
        clear hu1 hcb
        by_cases hop3 : op = [60]
        · have HF : Hid (D = (b * (c.b.countP (Ev.cntP [60] u.n) : Nat)) / c.b.length) := by show _ = _; rw [← HDD.out, HSG.out (by simp [hop3]), ← HBD.out, hop3]
          subst hop3
          clear n1 n2 HSG HTH HDD
          unfold txt
          go_upto_region 16 with fail
          have HH := Lib.hid (And.intro hb7 (And.intro h5 HRR.out))
          have HLB := Lib.hid (And.intro hlb hlp)
          clear c0 e2 hb7 h5 hlb
          obtain ⟨wd, rfl⟩ : ∃ wd, wd = wc := ⟨_, rfl⟩
          go_wp2_with fail
          go_loopw [13, 14] (fun nv iv wr => ∃ (n i : Nat), i ≤ c.b.length ∧ n ≤ i ∧ nv = .int .i64 (n : Int) ∧ iv = .int .i64 (i : Int) ∧ Hid (n = (c.b.take i).countP (Ev.cntP [60] u.n) ∧ Below wd.heap.size wd wr)) (fun _ iv _ => c.b.length - (intOf iv).toNat)
          case atStart => exact ⟨0, 0, Nat.zero_le _, Nat.le_refl _, by go_num, by go_num, by simp, Below.refl _ _⟩
          case round =>
            obtain ⟨n, i, hi, hni, rfl, rfl, HJ⟩ := hrel
            have h5 := HH.out.2.1.below HJ.out.2
            obtain ⟨-, -, e2, -⟩ := Blk.c3 h5
            by_cases hlt : i < c.b.length
            · have hii : (i : Int) < (c.b.length : Int) := by omega
              obtain ⟨ab, ao, hA, -, q0⟩ := i64_at (HH.out.2.2.below HJ.out.2.drewR) hlt
              have HCT : Hid ((c.b.take (i + 1)).countP (Ev.cntP [60] u.n) = n + if Ev.cntP [60] u.n c.b[i] then 1 else 0) := by show _ = _; rw [countI_take hlt, ← HJ.out.1]
              have HXO := Lib.hid (Ev.iV_ok (HBW.out c.b[i] (List.getElem_mem hlt)))
              generalize c.b[i] = x at q0 HCT HXO
              have e2' : wr.drew.cell? _ = _ := e2
              rw [hA] at e2 e2'
              have h7 := (HH.out.1.below HJ.out.2).drew
              clear hA h5
              go_upto_region 19 with fail
              go_cut [15] from 90 to 98 (fun v15 wx => ∃ g, v15 = .pointer (some ⟨g, 0, none⟩) ∧ Hid (Blk wx g 35 (Ev.cmpV [60] (Ev.iV x) u).cells ∧ Below wr.heap.size wr wx))
              case first =>
                refine wp_region_plan (.take 0 (.take 1 (.take 2 (.take 3 (.take 4 (.take 5 (.take 6 (.take 7 (.fork (.run 8 [] (.run 9 [] (.run 10 [] .fin))) (.run 9 [0, 1, 2, 3, 4, 5, 6, 7] (.run 8 [] (.run 10 [] .fin)))))))))))) (by kernel_rfl) (by kernel_rfl) (by kernel_rfl) (by kernel_rfl) ?_
                repeat' (first | (refine hZ _ _ ?_; clear hZ) | (refine hZ _ ?_; clear hZ) | (refine hZ ?_; clear hZ) | rw [again_nil] | rw [walk_fin] | ((first | rw [walk_take] | rw [walk_run] | rw [again_cons]); intro Z hZ; simp only [sel, List.getElem?_toArray, List.getElem?_cons_zero, List.getElem?_cons_succ]; go_wp2_with (refine wpList_load_va rfl (.tmp 7) rfl g7 rfl h7 ?_)))
                rw [walk_fork]
                refine ⟨?_, ?_⟩
                · repeat' (first | (refine hZ _ _ ?_; clear hZ) | (refine hZ _ ?_; clear hZ) | (refine hZ ?_; clear hZ) | rw [again_nil] | rw [walk_fin] | ((first | rw [walk_take] | rw [walk_run] | rw [again_cons]); intro Z hZ; simp only [sel, List.getElem?_toArray, List.getElem?_cons_zero, List.getElem?_cons_succ]; go_wp2_with (fail)))
                  refine (show Calls _ _ _ _ _ from rcmp_any wr.drew [60] (Ev.iV x) u HXO.out HUO.out).mono ?_
                  rintro e W8 ⟨rfl, hB8⟩
                  have HB8 : Hid (Below wr.heap.size wr W8) := (Below.refl wr.heap.size wr).drewR.trans hB8
                  clear hB8 h7 q0 e2 e2'
                  generalize hde : Ev.cmpV [60] (Ev.iV x) u = d
                  have HDE := Lib.hid hde
                  clear hde
                  go_wp2_with fail
                  repeat' (first | (refine hZ _ _ ?_; clear hZ) | (refine hZ _ ?_; clear hZ) | (refine hZ ?_; clear hZ) | rw [again_nil] | rw [walk_fin] | ((first | rw [walk_take] | rw [walk_run] | rw [again_cons]); intro Z hZ; simp only [sel, List.getElem?_toArray, List.getElem?_cons_zero, List.getElem?_cons_succ]; go_wp2_with (first | (refine wpList_alloc_va rfl rfl ?_; intro W9 b9 hz9 hB9) | (refine wpList_store_va rfl rfl (.tmp 15) (.tmp 98) rfl W8.heap.size rfl d rfl b9 ?_; intro Wa hba hga))))
                  have HR : Hid (Blk Wa W8.heap.size 35 d.cells ∧ Below wr.heap.size wr Wa) := ⟨hba, below_of_grown (HB8.out.then hB9) hga HB8.out.size (Nat.le_trans HB8.out.size hB9.size)⟩
                  clear b9 hz9 hB9 hba hga
                  go_wp2_with fail
                  go_meet
                  case rel => exact ⟨_, rfl, by rw [HDE.out]; exact HR⟩
                · repeat' (first | (refine hZ _ _ ?_; clear hZ) | (refine hZ _ ?_; clear hZ) | (refine hZ ?_; clear hZ) | rw [again_nil] | rw [walk_fin] | ((first | rw [walk_take] | rw [walk_run] | rw [again_cons]); intro Z hZ; simp only [sel, List.getElem?_toArray, List.getElem?_cons_zero, List.getElem?_cons_succ]; go_wp2_with (first | (refine wpList_alloc_va rfl rfl ?_; intro W9 b9 hz9 hB9; have h7' := h7.below hB9; have q0' := cell_later hB9 q0; have e3 := cell_later hB9 e2') | (refine wpList_load_va rfl (.tmp 7) rfl g7 rfl h7' ?_))))
                  refine (show Calls _ _ _ _ _ from rcmp_any W9 [60] (Ev.iV x) u HXO.out HUO.out).mono ?_
                  rintro e W8 ⟨rfl, hB8⟩
                  have b8 := b9.below hB8
                  have HB8 : Hid (Below wr.heap.size wr W8) := ((Below.refl wr.heap.size wr).drewR.trans (hB9.mono (Nat.le_refl _))).then hB8
                  clear hB8 h7 q0 e2 e2' h7' q0' e3 b9 hz9 hB9
                  generalize hde : Ev.cmpV [60] (Ev.iV x) u = d
                  have HDE := Lib.hid hde
                  clear hde
                  go_wp2_with fail
                  repeat' (first | (refine hZ _ _ ?_; clear hZ) | (refine hZ _ ?_; clear hZ) | (refine hZ ?_; clear hZ) | rw [again_nil] | rw [walk_fin] | ((first | rw [walk_take] | rw [walk_run] | rw [again_cons]); intro Z hZ; simp only [sel, List.getElem?_toArray, List.getElem?_cons_zero, List.getElem?_cons_succ]; go_wp2_with (refine wpList_store_va rfl rfl (.tmp 15) (.tmp 98) rfl wr.heap.size rfl d rfl b8 ?_; intro Wa hba hga)))
                  have HR : Hid (Blk Wa wr.heap.size 35 d.cells ∧ Below wr.heap.size wr Wa) := ⟨hba, below_of_grown HB8.out hga (Nat.le_refl _) HB8.out.size⟩
                  clear b8 hba hga
                  go_wp2_with fail
                  go_meet
                  case rel => exact ⟨_, rfl, by rw [HDE.out]; exact HR⟩
              case rest =>
                obtain ⟨g, rfl, HC⟩ := hcut
                have c1 := HC.out.1.cell 1
                simp only [Va.cells, List.getElem?_cons_zero, List.getElem?_cons_succ] at c1
                have hdn := Ev.cmp_n [60] (Ev.iV x) u
                rw [hdn] at c1
                have HUC : Hid (decide ((Ev.cmpV [60] (Ev.iV x) u).n = 1) = Ev.cntP [60] u.n x) := by show _ = _; unfold Ev.cntP; rw [← HUI.out]
                rw [HUC.out] at c1
                have HBN : Hid (Below wd.heap.size wd wc) := HJ.out.2.then HC.out.2
                clear hdn q0 e2 e2' h7
                cases hb : Ev.cntP [60] u.n x with
                | true =>
                  have HR2 : Hid (n + 1 = (c.b.take (i + 1)).countP (Ev.cntP [60] u.n)) := by show _ = _; rw [HCT.out]; simp [hb]
                  rw [hb] at c1
                  simp only [if_true] at c1
                  clear hb
                  go_wp2_with fail
                  go_roundw
                  case rel => exact ⟨n + 1, i + 1, by omega, by omega, by go_num, by go_num, HR2.out, HBN.out⟩
                  case measure => simp [intOf]; omega
                | false =>
                  have HR2 : Hid (n = (c.b.take (i + 1)).countP (Ev.cntP [60] u.n)) := by show _ = _; rw [HCT.out]; simp [hb]
                  rw [hb] at c1
                  simp only [Bool.false_eq_true, if_false] at c1
                  clear hb
                  go_wp2_with fail
                  go_roundw
                  case rel => exact ⟨n, i + 1, by omega, by omega, by go_num, by go_num, HR2.out, HBN.out⟩
                  case measure => simp [intOf]; omega
            · have hii : ¬ (i : Int) < (c.b.length : Int) := by omega
              have HN2 : Hid (n = c.b.countP (Ev.cntP [60] u.n)) := by show _ = _; rw [HJ.out.1, List.take_of_length_le (by omega)]
              have hq := part_div (n := n) (m := c.b.length) hb0 hb1 (by omega) HLB.out.2 hl
              go_wp2_with fail
              go_ret
              exact ⟨by rw [HF.out, ← HN2.out]; rfl, HB7.out.then HJ.out.2⟩
        by_cases hop4 : op = [60, 61]
        · have HF : Hid (D = (b * (c.b.countP (Ev.cntP [60, 61] u.n) : Nat)) / c.b.length) := by show _ = _; rw [← HDD.out, HSG.out (by simp [hop4]), ← HBD.out, hop4]
          subst hop4
          clear n1 n2 HSG HTH HDD
          unfold txt
          go_upto_region 16 with fail
          have HH := Lib.hid (And.intro hb7 (And.intro h5 HRR.out))
          have HLB := Lib.hid (And.intro hlb hlp)
          clear c0 e2 hb7 h5 hlb
          obtain ⟨wd, rfl⟩ : ∃ wd, wd = wc := ⟨_, rfl⟩
          go_wp2_with fail
          go_loopw [13, 14] (fun nv iv wr => ∃ (n i : Nat), i ≤ c.b.length ∧ n ≤ i ∧ nv = .int .i64 (n : Int) ∧ iv = .int .i64 (i : Int) ∧ Hid (n = (c.b.take i).countP (Ev.cntP [60, 61] u.n) ∧ Below wd.heap.size wd wr)) (fun _ iv _ => c.b.length - (intOf iv).toNat)
          case atStart => exact ⟨0, 0, Nat.zero_le _, Nat.le_refl _, by go_num, by go_num, by simp, Below.refl _ _⟩
          case round =>
            obtain ⟨n, i, hi, hni, rfl, rfl, HJ⟩ := hrel
            have h5 := HH.out.2.1.below HJ.out.2
            obtain ⟨-, -, e2, -⟩ := Blk.c3 h5
            by_cases hlt : i < c.b.length
            · have hii : (i : Int) < (c.b.length : Int) := by omega
              obtain ⟨ab, ao, hA, -, q0⟩ := i64_at (HH.out.2.2.below HJ.out.2.drewR) hlt
              have HCT : Hid ((c.b.take (i + 1)).countP (Ev.cntP [60, 61] u.n) = n + if Ev.cntP [60, 61] u.n c.b[i] then 1 else 0) := by show _ = _; rw [countI_take hlt, ← HJ.out.1]
              have HXO := Lib.hid (Ev.iV_ok (HBW.out c.b[i] (List.getElem_mem hlt)))
              generalize c.b[i] = x at q0 HCT HXO
              have e2' : wr.drew.cell? _ = _ := e2
              rw [hA] at e2 e2'
              have h7 := (HH.out.1.below HJ.out.2).drew
              clear hA h5
              go_upto_region 19 with fail
              go_cut [15] from 90 to 98 (fun v15 wx => ∃ g, v15 = .pointer (some ⟨g, 0, none⟩) ∧ Hid (Blk wx g 35 (Ev.cmpV [60, 61] (Ev.iV x) u).cells ∧ Below wr.heap.size wr wx))
              case first =>
                refine wp_region_plan (.take 0 (.take 1 (.take 2 (.take 3 (.take 4 (.take 5 (.take 6 (.take 7 (.fork (.run 8 [] (.run 9 [] (.run 10 [] .fin))) (.run 9 [0, 1, 2, 3, 4, 5, 6, 7] (.run 8 [] (.run 10 [] .fin)))))))))))) (by kernel_rfl) (by kernel_rfl) (by kernel_rfl) (by kernel_rfl) ?_
                repeat' (first | (refine hZ _ _ ?_; clear hZ) | (refine hZ _ ?_; clear hZ) | (refine hZ ?_; clear hZ) | rw [again_nil] | rw [walk_fin] | ((first | rw [walk_take] | rw [walk_run] | rw [again_cons]); intro Z hZ; simp only [sel, List.getElem?_toArray, List.getElem?_cons_zero, List.getElem?_cons_succ]; go_wp2_with (refine wpList_load_va rfl (.tmp 7) rfl g7 rfl h7 ?_)))
                rw [walk_fork]
                refine ⟨?_, ?_⟩
                · repeat' (first | (refine hZ _ _ ?_; clear hZ) | (refine hZ _ ?_; clear hZ) | (refine hZ ?_; clear hZ) | rw [again_nil] | rw [walk_fin] | ((first | rw [walk_take] | rw [walk_run] | rw [again_cons]); intro Z hZ; simp only [sel, List.getElem?_toArray, List.getElem?_cons_zero, List.getElem?_cons_succ]; go_wp2_with (fail)))
                  refine (show Calls _ _ _ _ _ from rcmp_any wr.drew [60, 61] (Ev.iV x) u HXO.out HUO.out).mono ?_
                  rintro e W8 ⟨rfl, hB8⟩
                  have HB8 : Hid (Below wr.heap.size wr W8) := (Below.refl wr.heap.size wr).drewR.trans hB8
                  clear hB8 h7 q0 e2 e2'
                  generalize hde : Ev.cmpV [60, 61] (Ev.iV x) u = d
                  have HDE := Lib.hid hde
                  clear hde
                  go_wp2_with fail
                  repeat' (first | (refine hZ _ _ ?_; clear hZ) | (refine hZ _ ?_; clear hZ) | (refine hZ ?_; clear hZ) | rw [again_nil] | rw [walk_fin] | ((first | rw [walk_take] | rw [walk_run] | rw [again_cons]); intro Z hZ; simp only [sel, List.getElem?_toArray, List.getElem?_cons_zero, List.getElem?_cons_succ]; go_wp2_with (first | (refine wpList_alloc_va rfl rfl ?_; intro W9 b9 hz9 hB9) | (refine wpList_store_va rfl rfl (.tmp 15) (.tmp 98) rfl W8.heap.size rfl d rfl b9 ?_; intro Wa hba hga))))
                  have HR : Hid (Blk Wa W8.heap.size 35 d.cells ∧ Below wr.heap.size wr Wa) := ⟨hba, below_of_grown (HB8.out.then hB9) hga HB8.out.size (Nat.le_trans HB8.out.size hB9.size)⟩
                  clear b9 hz9 hB9 hba hga
                  go_wp2_with fail
                  go_meet
                  case rel => exact ⟨_, rfl, by rw [HDE.out]; exact HR⟩
                · repeat' (first | (refine hZ _ _ ?_; clear hZ) | (refine hZ _ ?_; clear hZ) | (refine hZ ?_; clear hZ) | rw [again_nil] | rw [walk_fin] | ((first | rw [walk_take] | rw [walk_run] | rw [again_cons]); intro Z hZ; simp only [sel, List.getElem?_toArray, List.getElem?_cons_zero, List.getElem?_cons_succ]; go_wp2_with (first | (refine wpList_alloc_va rfl rfl ?_; intro W9 b9 hz9 hB9; have h7' := h7.below hB9; have q0' := cell_later hB9 q0; have e3 := cell_later hB9 e2') | (refine wpList_load_va rfl (.tmp 7) rfl g7 rfl h7' ?_))))
                  refine (show Calls _ _ _ _ _ from rcmp_any W9 [60, 61] (Ev.iV x) u HXO.out HUO.out).mono ?_
                  rintro e W8 ⟨rfl, hB8⟩
                  have b8 := b9.below hB8
                  have HB8 : Hid (Below wr.heap.size wr W8) := ((Below.refl wr.heap.size wr).drewR.trans (hB9.mono (Nat.le_refl _))).then hB8
                  clear hB8 h7 q0 e2 e2' h7' q0' e3 b9 hz9 hB9
                  generalize hde : Ev.cmpV [60, 61] (Ev.iV x) u = d
                  have HDE := Lib.hid hde
                  clear hde
                  go_wp2_with fail
                  repeat' (first | (refine hZ _ _ ?_; clear hZ) | (refine hZ _ ?_; clear hZ) | (refine hZ ?_; clear hZ) | rw [again_nil] | rw [walk_fin] | ((first | rw [walk_take] | rw [walk_run] | rw [again_cons]); intro Z hZ; simp only [sel, List.getElem?_toArray, List.getElem?_cons_zero, List.getElem?_cons_succ]; go_wp2_with (refine wpList_store_va rfl rfl (.tmp 15) (.tmp 98) rfl wr.heap.size rfl d rfl b8 ?_; intro Wa hba hga)))
                  have HR : Hid (Blk Wa wr.heap.size 35 d.cells ∧ Below wr.heap.size wr Wa) := ⟨hba, below_of_grown HB8.out hga (Nat.le_refl _) HB8.out.size⟩
                  clear b8 hba hga
                  go_wp2_with fail
                  go_meet
                  case rel => exact ⟨_, rfl, by rw [HDE.out]; exact HR⟩
              case rest =>
                obtain ⟨g, rfl, HC⟩ := hcut
                have c1 := HC.out.1.cell 1
                simp only [Va.cells, List.getElem?_cons_zero, List.getElem?_cons_succ] at c1
                have hdn := Ev.cmp_n [60, 61] (Ev.iV x) u
                rw [hdn] at c1
                have HUC : Hid (decide ((Ev.cmpV [60, 61] (Ev.iV x) u).n = 1) = Ev.cntP [60, 61] u.n x) := by show _ = _; unfold Ev.cntP; rw [← HUI.out]
                rw [HUC.out] at c1
                have HBN : Hid (Below wd.heap.size wd wc) := HJ.out.2.then HC.out.2
                clear hdn q0 e2 e2' h7
                cases hb : Ev.cntP [60, 61] u.n x with
                | true =>
                  have HR2 : Hid (n + 1 = (c.b.take (i + 1)).countP (Ev.cntP [60, 61] u.n)) := by show _ = _; rw [HCT.out]; simp [hb]
                  rw [hb] at c1
                  simp only [if_true] at c1
                  clear hb
                  go_wp2_with fail
                  go_roundw
                  case rel => exact ⟨n + 1, i + 1, by omega, by omega, by go_num, by go_num, HR2.out, HBN.out⟩
                  case measure => simp [intOf]; omega
                | false =>
                  have HR2 : Hid (n = (c.b.take (i + 1)).countP (Ev.cntP [60, 61] u.n)) := by show _ = _; rw [HCT.out]; simp [hb]
                  rw [hb] at c1
                  simp only [Bool.false_eq_true, if_false] at c1
                  clear hb
                  go_wp2_with fail
                  go_roundw
                  case rel => exact ⟨n, i + 1, by omega, by omega, by go_num, by go_num, HR2.out, HBN.out⟩
                  case measure => simp [intOf]; omega
            · have hii : ¬ (i : Int) < (c.b.length : Int) := by omega
              have HN2 : Hid (n = c.b.countP (Ev.cntP [60, 61] u.n)) := by show _ = _; rw [HJ.out.1, List.take_of_length_le (by omega)]
              have hq := part_div (n := n) (m := c.b.length) hb0 hb1 (by omega) HLB.out.2 hl
              go_wp2_with fail
              go_ret
              exact ⟨by rw [HF.out, ← HN2.out]; rfl, HB7.out.then HJ.out.2⟩
        by_cases hop5 : op = [62]
        · have HF : Hid (D = (b * (c.b.countP (Ev.cntP [62] u.n) : Nat)) / c.b.length) := by show _ = _; rw [← HDD.out, HSG.out (by simp [hop5]), ← HBD.out, hop5]
          subst hop5
          clear n1 n2 HSG HTH HDD
          unfold txt
          go_upto_region 16 with fail
          have HH := Lib.hid (And.intro hb7 (And.intro h5 HRR.out))
          have HLB := Lib.hid (And.intro hlb hlp)
          clear c0 e2 hb7 h5 hlb
          obtain ⟨wd, rfl⟩ : ∃ wd, wd = wc := ⟨_, rfl⟩
          go_wp2_with fail
          go_loopw [13, 14] (fun nv iv wr => ∃ (n i : Nat), i ≤ c.b.length ∧ n ≤ i ∧ nv = .int .i64 (n : Int) ∧ iv = .int .i64 (i : Int) ∧ Hid (n = (c.b.take i).countP (Ev.cntP [62] u.n) ∧ Below wd.heap.size wd wr)) (fun _ iv _ => c.b.length - (intOf iv).toNat)
          case atStart => exact ⟨0, 0, Nat.zero_le _, Nat.le_refl _, by go_num, by go_num, by simp, Below.refl _ _⟩
          case round =>
            obtain ⟨n, i, hi, hni, rfl, rfl, HJ⟩ := hrel
            have h5 := HH.out.2.1.below HJ.out.2
            obtain ⟨-, -, e2, -⟩ := Blk.c3 h5
            by_cases hlt : i < c.b.length
            · have hii : (i : Int) < (c.b.length : Int) := by omega
              obtain ⟨ab, ao, hA, -, q0⟩ := i64_at (HH.out.2.2.below HJ.out.2.drewR) hlt
              have HCT : Hid ((c.b.take (i + 1)).countP (Ev.cntP [62] u.n) = n + if Ev.cntP [62] u.n c.b[i] then 1 else 0) := by show _ = _; rw [countI_take hlt, ← HJ.out.1]
              have HXO := Lib.hid (Ev.iV_ok (HBW.out c.b[i] (List.getElem_mem hlt)))
              generalize c.b[i] = x at q0 HCT HXO
              have e2' : wr.drew.cell? _ = _ := e2
              rw [hA] at e2 e2'
              have h7 := (HH.out.1.below HJ.out.2).drew
              clear hA h5
              go_upto_region 19 with fail
              go_cut [15] from 90 to 98 (fun v15 wx => ∃ g, v15 = .pointer (some ⟨g, 0, none⟩) ∧ Hid (Blk wx g 35 (Ev.cmpV [62] (Ev.iV x) u).cells ∧ Below wr.heap.size wr wx))
              case first =>
                refine wp_region_plan (.take 0 (.take 1 (.take 2 (.take 3 (.take 4 (.take 5 (.take 6 (.take 7 (.fork (.run 8 [] (.run 9 [] (.run 10 [] .fin))) (.run 9 [0, 1, 2, 3, 4, 5, 6, 7] (.run 8 [] (.run 10 [] .fin)))))))))))) (by kernel_rfl) (by kernel_rfl) (by kernel_rfl) (by kernel_rfl) ?_
                repeat' (first | (refine hZ _ _ ?_; clear hZ) | (refine hZ _ ?_; clear hZ) | (refine hZ ?_; clear hZ) | rw [again_nil] | rw [walk_fin] | ((first | rw [walk_take] | rw [walk_run] | rw [again_cons]); intro Z hZ; simp only [sel, List.getElem?_toArray, List.getElem?_cons_zero, List.getElem?_cons_succ]; go_wp2_with (refine wpList_load_va rfl (.tmp 7) rfl g7 rfl h7 ?_)))
                rw [walk_fork]
                refine ⟨?_, ?_⟩
                · repeat' (first | (refine hZ _ _ ?_; clear hZ) | (refine hZ _ ?_; clear hZ) | (refine hZ ?_; clear hZ) | rw [again_nil] | rw [walk_fin] | ((first | rw [walk_take] | rw [walk_run] | rw [again_cons]); intro Z hZ; simp only [sel, List.getElem?_toArray, List.getElem?_cons_zero, List.getElem?_cons_succ]; go_wp2_with (fail)))
                  refine (show Calls _ _ _ _ _ from rcmp_any wr.drew [62] (Ev.iV x) u HXO.out HUO.out).mono ?_
                  rintro e W8 ⟨rfl, hB8⟩
                  have HB8 : Hid (Below wr.heap.size wr W8) := (Below.refl wr.heap.size wr).drewR.trans hB8
                  clear hB8 h7 q0 e2 e2'
                  generalize hde : Ev.cmpV [62] (Ev.iV x) u = d
                  have HDE := Lib.hid hde
                  clear hde
                  go_wp2_with fail
                  repeat' (first | (refine hZ _ _ ?_; clear hZ) | (refine hZ _ ?_; clear hZ) | (refine hZ ?_; clear hZ) | rw [again_nil] | rw [walk_fin] | ((first | rw [walk_take] | rw [walk_run] | rw [again_cons]); intro Z hZ; simp only [sel, List.getElem?_toArray, List.getElem?_cons_zero, List.getElem?_cons_succ]; go_wp2_with (first | (refine wpList_alloc_va rfl rfl ?_; intro W9 b9 hz9 hB9) | (refine wpList_store_va rfl rfl (.tmp 15) (.tmp 98) rfl W8.heap.size rfl d rfl b9 ?_; intro Wa hba hga))))
                  have HR : Hid (Blk Wa W8.heap.size 35 d.cells ∧ Below wr.heap.size wr Wa) := ⟨hba, below_of_grown (HB8.out.then hB9) hga HB8.out.size (Nat.le_trans HB8.out.size hB9.size)⟩
                  clear b9 hz9 hB9 hba hga
                  go_wp2_with fail
                  go_meet
                  case rel => exact ⟨_, rfl, by rw [HDE.out]; exact HR⟩
                · repeat' (first | (refine hZ _ _ ?_; clear hZ) | (refine hZ _ ?_; clear hZ) | (refine hZ ?_; clear hZ) | rw [again_nil] | rw [walk_fin] | ((first | rw [walk_take] | rw [walk_run] | rw [again_cons]); intro Z hZ; simp only [sel, List.getElem?_toArray, List.getElem?_cons_zero, List.getElem?_cons_succ]; go_wp2_with (first | (refine wpList_alloc_va rfl rfl ?_; intro W9 b9 hz9 hB9; have h7' := h7.below hB9; have q0' := cell_later hB9 q0; have e3 := cell_later hB9 e2') | (refine wpList_load_va rfl (.tmp 7) rfl g7 rfl h7' ?_))))
                  refine (show Calls _ _ _ _ _ from rcmp_any W9 [62] (Ev.iV x) u HXO.out HUO.out).mono ?_
                  rintro e W8 ⟨rfl, hB8⟩
                  have b8 := b9.below hB8
                  have HB8 : Hid (Below wr.heap.size wr W8) := ((Below.refl wr.heap.size wr).drewR.trans (hB9.mono (Nat.le_refl _))).then hB8
                  clear hB8 h7 q0 e2 e2' h7' q0' e3 b9 hz9 hB9
                  generalize hde : Ev.cmpV [62] (Ev.iV x) u = d
                  have HDE := Lib.hid hde
                  clear hde
                  go_wp2_with fail
                  repeat' (first | (refine hZ _ _ ?_; clear hZ) | (refine hZ _ ?_; clear hZ) | (refine hZ ?_; clear hZ) | rw [again_nil] | rw [walk_fin] | ((first | rw [walk_take] | rw [walk_run] | rw [again_cons]); intro Z hZ; simp only [sel, List.getElem?_toArray, List.getElem?_cons_zero, List.getElem?_cons_succ]; go_wp2_with (refine wpList_store_va rfl rfl (.tmp 15) (.tmp 98) rfl wr.heap.size rfl d rfl b8 ?_; intro Wa hba hga)))
                  have HR : Hid (Blk Wa wr.heap.size 35 d.cells ∧ Below wr.heap.size wr Wa) := ⟨hba, below_of_grown HB8.out hga (Nat.le_refl _) HB8.out.size⟩
                  clear b8 hba hga
                  go_wp2_with fail
                  go_meet
                  case rel => exact ⟨_, rfl, by rw [HDE.out]; exact HR⟩
              case rest =>
                obtain ⟨g, rfl, HC⟩ := hcut
                have c1 := HC.out.1.cell 1
                simp only [Va.cells, List.getElem?_cons_zero, List.getElem?_cons_succ] at c1
                have hdn := Ev.cmp_n [62] (Ev.iV x) u
                rw [hdn] at c1
                have HUC : Hid (decide ((Ev.cmpV [62] (Ev.iV x) u).n = 1) = Ev.cntP [62] u.n x) := by show _ = _; unfold Ev.cntP; rw [← HUI.out]
                rw [HUC.out] at c1
                have HBN : Hid (Below wd.heap.size wd wc) := HJ.out.2.then HC.out.2
                clear hdn q0 e2 e2' h7
                cases hb : Ev.cntP [62] u.n x with
                | true =>
                  have HR2 : Hid (n + 1 = (c.b.take (i + 1)).countP (Ev.cntP [62] u.n)) := by show _ = _; rw [HCT.out]; simp [hb]
                  rw [hb] at c1
                  simp only [if_true] at c1
                  clear hb
                  go_wp2_with fail
                  go_roundw
                  case rel => exact ⟨n + 1, i + 1, by omega, by omega, by go_num, by go_num, HR2.out, HBN.out⟩
                  case measure => simp [intOf]; omega
                | false =>
                  have HR2 : Hid (n = (c.b.take (i + 1)).countP (Ev.cntP [62] u.n)) := by show _ = _; rw [HCT.out]; simp [hb]
                  rw [hb] at c1
                  simp only [Bool.false_eq_true, if_false] at c1
                  clear hb
                  go_wp2_with fail
                  go_roundw
                  case rel => exact ⟨n, i + 1, by omega, by omega, by go_num, by go_num, HR2.out, HBN.out⟩
                  case measure => simp [intOf]; omega
            · have hii : ¬ (i : Int) < (c.b.length : Int) := by omega
              have HN2 : Hid (n = c.b.countP (Ev.cntP [62] u.n)) := by show _ = _; rw [HJ.out.1, List.take_of_length_le (by omega)]
              have hq := part_div (n := n) (m := c.b.length) hb0 hb1 (by omega) HLB.out.2 hl
              go_wp2_with fail
              go_ret
              exact ⟨by rw [HF.out, ← HN2.out]; rfl, HB7.out.then HJ.out.2⟩
        by_cases hop6 : op = [62, 61]
        · have HF : Hid (D = (b * (c.b.countP (Ev.cntP [62, 61] u.n) : Nat)) / c.b.length) := by show _ = _; rw [← HDD.out, HSG.out (by simp [hop6]), ← HBD.out, hop6]
          subst hop6
          clear n1 n2 HSG HTH HDD
          unfold txt
          go_upto_region 16 with fail
          have HH := Lib.hid (And.intro hb7 (And.intro h5 HRR.out))
          have HLB := Lib.hid (And.intro hlb hlp)
          clear c0 e2 hb7 h5 hlb
          obtain ⟨wd, rfl⟩ : ∃ wd, wd = wc := ⟨_, rfl⟩
          go_wp2_with fail
          go_loopw [13, 14] (fun nv iv wr => ∃ (n i : Nat), i ≤ c.b.length ∧ n ≤ i ∧ nv = .int .i64 (n : Int) ∧ iv = .int .i64 (i : Int) ∧ Hid (n = (c.b.take i).countP (Ev.cntP [62, 61] u.n) ∧ Below wd.heap.size wd wr)) (fun _ iv _ => c.b.length - (intOf iv).toNat)
          case atStart => exact ⟨0, 0, Nat.zero_le _, Nat.le_refl _, by go_num, by go_num, by simp, Below.refl _ _⟩
          case round =>
            obtain ⟨n, i, hi, hni, rfl, rfl, HJ⟩ := hrel
            have h5 := HH.out.2.1.below HJ.out.2
            obtain ⟨-, -, e2, -⟩ := Blk.c3 h5
            by_cases hlt : i < c.b.length
            · have hii : (i : Int) < (c.b.length : Int) := by omega
              obtain ⟨ab, ao, hA, -, q0⟩ := i64_at (HH.out.2.2.below HJ.out.2.drewR) hlt
              have HCT : Hid ((c.b.take (i + 1)).countP (Ev.cntP [62, 61] u.n) = n + if Ev.cntP [62, 61] u.n c.b[i] then 1 else 0) := by show _ = _; rw [countI_take hlt, ← HJ.out.1]
              have HXO := Lib.hid (Ev.iV_ok (HBW.out c.b[i] (List.getElem_mem hlt)))
              generalize c.b[i] = x at q0 HCT HXO
              have e2' : wr.drew.cell? _ = _ := e2
              rw [hA] at e2 e2'
              have h7 := (HH.out.1.below HJ.out.2).drew
              clear hA h5
              go_upto_region 19 with fail
              go_cut [15] from 90 to 98 (fun v15 wx => ∃ g, v15 = .pointer (some ⟨g, 0, none⟩) ∧ Hid (Blk wx g 35 (Ev.cmpV [62, 61] (Ev.iV x) u).cells ∧ Below wr.heap.size wr wx))
              case first =>
                refine wp_region_plan (.take 0 (.take 1 (.take 2 (.take 3 (.take 4 (.take 5 (.take 6 (.take 7 (.fork (.run 8 [] (.run 9 [] (.run 10 [] .fin))) (.run 9 [0, 1, 2, 3, 4, 5, 6, 7] (.run 8 [] (.run 10 [] .fin)))))))))))) (by kernel_rfl) (by kernel_rfl) (by kernel_rfl) (by kernel_rfl) ?_
                repeat' (first | (refine hZ _ _ ?_; clear hZ) | (refine hZ _ ?_; clear hZ) | (refine hZ ?_; clear hZ) | rw [again_nil] | rw [walk_fin] | ((first | rw [walk_take] | rw [walk_run] | rw [again_cons]); intro Z hZ; simp only [sel, List.getElem?_toArray, List.getElem?_cons_zero, List.getElem?_cons_succ]; go_wp2_with (refine wpList_load_va rfl (.tmp 7) rfl g7 rfl h7 ?_)))
                rw [walk_fork]
                refine ⟨?_, ?_⟩
                · repeat' (first | (refine hZ _ _ ?_; clear hZ) | (refine hZ _ ?_; clear hZ) | (refine hZ ?_; clear hZ) | rw [again_nil] | rw [walk_fin] | ((first | rw [walk_take] | rw [walk_run] | rw [again_cons]); intro Z hZ; simp only [sel, List.getElem?_toArray, List.getElem?_cons_zero, List.getElem?_cons_succ]; go_wp2_with (fail)))
                  refine (show Calls _ _ _ _ _ from rcmp_any wr.drew [62, 61] (Ev.iV x) u HXO.out HUO.out).mono ?_
                  rintro e W8 ⟨rfl, hB8⟩
                  have HB8 : Hid (Below wr.heap.size wr W8) := (Below.refl wr.heap.size wr).drewR.trans hB8
                  clear hB8 h7 q0 e2 e2'
                  generalize hde : Ev.cmpV [62, 61] (Ev.iV x) u = d
                  have HDE := Lib.hid hde
                  clear hde
                  go_wp2_with fail
                  repeat' (first | (refine hZ _ _ ?_; clear hZ) | (refine hZ _ ?_; clear hZ) | (refine hZ ?_; clear hZ) | rw [again_nil] | rw [walk_fin] | ((first | rw [walk_take] | rw [walk_run] | rw [again_cons]); intro Z hZ; simp only [sel, List.getElem?_toArray, List.getElem?_cons_zero, List.getElem?_cons_succ]; go_wp2_with (first | (refine wpList_alloc_va rfl rfl ?_; intro W9 b9 hz9 hB9) | (refine wpList_store_va rfl rfl (.tmp 15) (.tmp 98) rfl W8.heap.size rfl d rfl b9 ?_; intro Wa hba hga))))
                  have HR : Hid (Blk Wa W8.heap.size 35 d.cells ∧ Below wr.heap.size wr Wa) := ⟨hba, below_of_grown (HB8.out.then hB9) hga HB8.out.size (Nat.le_trans HB8.out.size hB9.size)⟩
                  clear b9 hz9 hB9 hba hga
                  go_wp2_with fail
                  go_meet
                  case rel => exact ⟨_, rfl, by rw [HDE.out]; exact HR⟩
                · repeat' (first | (refine hZ _ _ ?_; clear hZ) | (refine hZ _ ?_; clear hZ) | (refine hZ ?_; clear hZ) | rw [again_nil] | rw [walk_fin] | ((first | rw [walk_take] | rw [walk_run] | rw [again_cons]); intro Z hZ; simp only [sel, List.getElem?_toArray, List.getElem?_cons_zero, List.getElem?_cons_succ]; go_wp2_with (first | (refine wpList_alloc_va rfl rfl ?_; intro W9 b9 hz9 hB9; have h7' := h7.below hB9; have q0' := cell_later hB9 q0; have e3 := cell_later hB9 e2') | (refine wpList_load_va rfl (.tmp 7) rfl g7 rfl h7' ?_))))
                  refine (show Calls _ _ _ _ _ from rcmp_any W9 [62, 61] (Ev.iV x) u HXO.out HUO.out).mono ?_
                  rintro e W8 ⟨rfl, hB8⟩
                  have b8 := b9.below hB8
                  have HB8 : Hid (Below wr.heap.size wr W8) := ((Below.refl wr.heap.size wr).drewR.trans (hB9.mono (Nat.le_refl _))).then hB8
                  clear hB8 h7 q0 e2 e2' h7' q0' e3 b9 hz9 hB9
                  generalize hde : Ev.cmpV [62, 61] (Ev.iV x) u = d
                  have HDE := Lib.hid hde
                  clear hde
                  go_wp2_with fail
                  repeat' (first | (refine hZ _ _ ?_; clear hZ) | (refine hZ _ ?_; clear hZ) | (refine hZ ?_; clear hZ) | rw [again_nil] | rw [walk_fin] | ((first | rw [walk_take] | rw [walk_run] | rw [again_cons]); intro Z hZ; simp only [sel, List.getElem?_toArray, List.getElem?_cons_zero, List.getElem?_cons_succ]; go_wp2_with (refine wpList_store_va rfl rfl (.tmp 15) (.tmp 98) rfl wr.heap.size rfl d rfl b8 ?_; intro Wa hba hga)))
                  have HR : Hid (Blk Wa wr.heap.size 35 d.cells ∧ Below wr.heap.size wr Wa) := ⟨hba, below_of_grown HB8.out hga (Nat.le_refl _) HB8.out.size⟩
                  clear b8 hba hga
                  go_wp2_with fail
                  go_meet
                  case rel => exact ⟨_, rfl, by rw [HDE.out]; exact HR⟩
              case rest =>
                obtain ⟨g, rfl, HC⟩ := hcut
                have c1 := HC.out.1.cell 1
                simp only [Va.cells, List.getElem?_cons_zero, List.getElem?_cons_succ] at c1
                have hdn := Ev.cmp_n [62, 61] (Ev.iV x) u
                rw [hdn] at c1
                have HUC : Hid (decide ((Ev.cmpV [62, 61] (Ev.iV x) u).n = 1) = Ev.cntP [62, 61] u.n x) := by show _ = _; unfold Ev.cntP; rw [← HUI.out]
                rw [HUC.out] at c1
                have HBN : Hid (Below wd.heap.size wd wc) := HJ.out.2.then HC.out.2
                clear hdn q0 e2 e2' h7
                cases hb : Ev.cntP [62, 61] u.n x with
                | true =>
                  have HR2 : Hid (n + 1 = (c.b.take (i + 1)).countP (Ev.cntP [62, 61] u.n)) := by show _ = _; rw [HCT.out]; simp [hb]
                  rw [hb] at c1
                  simp only [if_true] at c1
                  clear hb
                  go_wp2_with fail
                  go_roundw
                  case rel => exact ⟨n + 1, i + 1, by omega, by omega, by go_num, by go_num, HR2.out, HBN.out⟩
                  case measure => simp [intOf]; omega
                | false =>
                  have HR2 : Hid (n = (c.b.take (i + 1)).countP (Ev.cntP [62, 61] u.n)) := by show _ = _; rw [HCT.out]; simp [hb]
                  rw [hb] at c1
                  simp only [Bool.false_eq_true, if_false] at c1
                  clear hb
                  go_wp2_with fail
                  go_roundw
                  case rel => exact ⟨n, i + 1, by omega, by omega, by go_num, by go_num, HR2.out, HBN.out⟩
                  case measure => simp [intOf]; omega
            · have hii : ¬ (i : Int) < (c.b.length : Int) := by omega
              have HN2 : Hid (n = c.b.countP (Ev.cntP [62, 61] u.n)) := by show _ = _; rw [HJ.out.1, List.take_of_length_le (by omega)]
              have hq := part_div (n := n) (m := c.b.length) hb0 hb1 (by omega) HLB.out.2 hl
              go_wp2_with fail
              go_ret
              exact ⟨by rw [HF.out, ← HN2.out]; rfl, HB7.out.then HJ.out.2⟩
        have HF : Hid (D = b / 3) := by show _ = _; rw [← HDD.out]; exact HTH.out hop3 hop4 hop5 hop6
        have n3 := run_str_nis op [60] hop3
        have n4 := run_str_nis op [60, 61] hop4
        have n5 := run_str_nis op [62] hop5
        have n6 := run_str_nis op [62, 61] hop6
        clear hop hop2 hop3 hop4 hop5 hop6
        go_wp2_with fail
        go_ret
        exact ⟨by rw [HF.out]; rfl, HB7.out⟩
    · have HF : Hid (D = b / 3) := by show _ = _; rw [← HDD.out, Ev.share_third (c := ⟨D0, N, c.a, c.b, c.c⟩) HNZ.out hop hop2 (.inl hu1), HBD.out]
      have hlb : (u.k != 1) = true := by simpa using hu1
      clear hop hop2 hu1
      go_wp2_with fail
      go_ret
      exact ⟨by rw [HF.out]; rfl, HB7.out⟩
end Go.Proofs.Ytjdffhonljhpcaa
end

