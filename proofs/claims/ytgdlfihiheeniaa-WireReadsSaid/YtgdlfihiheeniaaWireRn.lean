/-
  The contract of wire.Reader.Num.
-/
import Derived.Test.YtgdlfihiheeniaaWireRd
namespace Go.Proofs.Ytgdlfihiheeniaa
open Go.RowKit

theorem tk_cons (i a : Nat) (l : List UInt8) (h : i < l.length) : Wire.tk i a (l.drop i) =
    if i = 9 ∧ 1 < l[i].toNat then (7, 0, 0) else if 128 ≤ l[i].toNat then Wire.tk (i + 1) (a + l[i].toNat % 128 * 128 ^ i) (l.drop (i + 1))
    else if l[i].toNat = 0 ∧ 0 < i then (7, 0, 0) else (0, i + 1, a + l[i].toNat % 128 * 128 ^ i) := by
  rw [List.drop_eq_getElem_cons h, Wire.tk]
/-- What n |= uint64(c%128) << shift comes to. -/
theorem or_shift (a c i : Nat) (ha : a < 128 ^ i) (hi : i ≤ 9) (hc : c < 256) (h9 : i = 9 → c ≤ 1) :
    Go.bits .or .u64 (a : Int) (IntKind.u64.wrap ((c : Int) % 128 * 2 ^ (7 * i))) = ((a + c % 128 * 128 ^ i : Nat) : Int) := by
  have hp : (128 : Nat) ^ i = 2 ^ (7 * i) := by rw [show (128 : Nat) = 2 ^ 7 from rfl, ← Nat.pow_mul]
  have hlt : c % 128 * 2 ^ (7 * i) < 18446744073709551616 := by
    have h1 : c % 128 < 128 := Nat.mod_lt _ (by omega)
    rcases Nat.lt_or_ge i 9 with h | h
    · have h2 : 2 ^ (7 * i) ≤ 2 ^ 56 := Nat.pow_le_pow_right (by omega) (by omega)
      have h3 : c % 128 * 2 ^ (7 * i) ≤ 127 * 2 ^ 56 := Nat.mul_le_mul (by omega) h2
      omega
    · obtain rfl : i = 9 := by omega
      have := h9 rfl
      have h3 : c % 128 * 2 ^ (7 * 9) ≤ 1 * 2 ^ 63 := Nat.mul_le_mul (by omega) (Nat.le_refl _)
      omega
  have e : IntKind.u64.wrap ((c : Int) % 128 * 2 ^ (7 * i)) = ((c % 128 * 2 ^ (7 * i) : Nat) : Int) := by
    have e1 : ((c : Int) % 128) * 2 ^ (7 * i) = ((c % 128 * 2 ^ (7 * i) : Nat) : Int) := by simp
    rw [e1]
    generalize c % 128 * 2 ^ (7 * i) = q at hlt
    exact IntWalk.u64_in _ (by omega)
  have ha2 : a < 18446744073709551616 := by
    rw [hp] at ha
    have : 2 ^ (7 * i) ≤ 2 ^ 63 := Nat.pow_le_pow_right (by omega) (by omega)
    omega
  have key := Nat.two_pow_add_eq_or_of_lt (show a < 2 ^ (7 * i) by rw [← hp]; exact ha) (c % 128)
  rw [e, u64_or_nat _ _ ha2 hlt, hp, Nat.mul_comm (c % 128), Nat.or_comm, ← key, Nat.add_comm]

theorem did_take {w w' : World} {g er : Nat} {l : List UInt8} (h : (Wire.tk 0 0 l).1 = er) (h0 : er ≠ 0) (hrd : RD w' g ⟨l, (er : Int)⟩) (hg : w.grownBy w' (some g)) :
    Did w g (.int .u64 ((Wire.take ⟨l, 0⟩).2 : Nat)) (Wire.take ⟨l, 0⟩).1 (.returned (.int .u64 0)) w' := by
  have e : Wire.take ⟨l, 0⟩ = (⟨l, (er : Int)⟩, 0) := by
    unfold Wire.take
    rw [if_neg (by simp), if_pos (by rw [h]; exact h0), h]
  rw [e]
  exact ⟨rfl, hrd, hg⟩
theorem did_took {w w' : World} {g u v : Nat} {l : List UInt8} (h : Wire.tk 0 0 l = (0, u, v)) (hrd : RD w' g ⟨l.drop u, 0⟩) (hg : w.grownBy w' (some g)) :
    Did w g (.int .u64 ((Wire.take ⟨l, 0⟩).2 : Nat)) (Wire.take ⟨l, 0⟩).1 (.returned (.int .u64 (v : Nat))) w' := by
  have e : Wire.take ⟨l, 0⟩ = (⟨l.drop u, 0⟩, v) := by
    unfold Wire.take
    rw [if_neg (by simp), if_neg (by rw [h]; simp), h]
  rw [e]
  exact ⟨rfl, hrd, hg⟩

structure Acc (a i : Nat) : Prop where
  lt : a < 128 ^ i

set_option maxRecDepth 20000 in
set_option maxHeartbeats 1000000 in
theorem rnum_any (w : World) (g : Nat) (r : Wire.RS) (h : RD w g r) : Calls Try.prog 26 #[.pointer (some ⟨g, 0, none⟩)] w (Did w g (.int .u64 ((Wire.take r).2 : Nat)) (Wire.take r).1) := by
  obtain ⟨l, e⟩ := r
  have HRD := Lib.hid h
  obtain ⟨A, c, hg, hr, h1, h2⟩ := h
  simp only at hg hr h1
  by_cases he : e = 0
  · subst he
    have c0 : w.cell? ⟨g, 0, none⟩ = some (.slice A l.length c) := by rw [cell_of_row w g 0 _ _ _ hg]; rfl
    have f0 : w.frozen? ⟨g, 0, none⟩ = false := frozen_of_row w g 0 _ _ hg
    have HG := Lib.hid hg
    clear hg
    go_enter Try.func26, Try.ntmps26
    go_wp2_with fail
    refine (rerr_any w g _ HRD.out).mono ?_
    rintro e w' ⟨rfl, rfl⟩
    go_wp2_with fail
    go_loop [3, 4, 10] (fun nv sv iv => ∃ i a : Nat, i ≤ 9 ∧ iv = .int .i64 i ∧ nv = .int .u64 (a : Nat) ∧ sv = .int .i64 (7 * i : Nat) ∧ Acc a i ∧ i ≤ l.length ∧ Hid (Wire.tk 0 0 l = Wire.tk i a (l.drop i))) (fun _ _ iv => 10 - (intOf iv).toNat)
    case atStart => exact ⟨0, 0, by omega, rfl, rfl, rfl, ⟨by simp⟩, Nat.zero_le _, rfl⟩
    case round =>
      obtain ⟨i, a, hi, rfl, rfl, rfl, HA, hil, HT⟩ := hrel
      by_cases hlt : i < l.length
      · have HC := Lib.hid (tk_cons i a l hlt)
        obtain ⟨b, o, rfl, _, hc⟩ := hr.at_ hlt
        have hcl := l[i].toNat_lt
        generalize l[i].toNat = x at hc hcl HC
        have HO := Lib.hid (or_shift a x i HA.lt hi hcl)
        by_cases hi9 : i = 9
        · have hi9b : ((i : Int) == 9) = true := by simp; omega
          have hi9l : 9 ≤ i := by omega
          clear hi9
          by_cases hx1 : 1 < x
          · go_wp2_with fail
            refine (rfail_any w g _ c l 0 7 HG.out hr h1 h2).mono ?_
            rintro e w' ⟨rfl, hrd, hgr⟩
            go_wp2_with fail
            go_ret
            refine did_take (er := 7) ?_ (by omega) hrd hgr
            rw [HT.out, HC.out]
            rw [if_pos ⟨by omega, hx1⟩]
          · have HO := Lib.hid (HO.out (by omega))
            by_cases hx0 : x = 0
            · have hx0b : ((x : Int) == 0) = true := by simp; omega
              have hx0l : x ≤ 0 := by omega
              clear hx0
              go_wp2_with fail
              refine (rfail_any w g _ c l 0 7 HG.out hr h1 h2).mono ?_
              rintro e w' ⟨rfl, hrd, hgr⟩
              go_wp2_with fail
              go_ret
              refine did_take (er := 7) ?_ (by omega) hrd hgr
              rw [HT.out, HC.out]
              rw [if_neg (by omega), if_neg (by omega), if_pos ⟨by omega, by omega⟩]
            · have hx0b : ((x : Int) == 0) = false := by simp; omega
              go_wp2_with fail
              all_goals
                go_ret
                rw [HO.out]
                refine did_took (u := i + 1) ?_ ?_ (set_grown _ _ _ _)
                · rw [HT.out, HC.out, if_neg (by omega), if_neg (by omega), if_neg (by omega)]
                · refine RD.cut HG.out ?_ (by omega) (by omega)
                  first | exact row_cut hr | exact row_end (by omega)
        · have HO := Lib.hid (HO.out (by omega))
          have hi9b : ((i : Int) == 9) = false := by simp; omega
          by_cases hx : 128 ≤ x
          · go_wp2_with fail
            go_round
            case rel =>
              refine ⟨i + 1, a + x % 128 * 128 ^ i, by omega, by go_num, by rw [HO.out], by go_num, ⟨?_⟩, by omega, ?_⟩
              · have h3 := HA.lt
                have h4 : x % 128 * 128 ^ i ≤ 127 * 128 ^ i := Nat.mul_le_mul (by omega) (Nat.le_refl _)
                rw [Nat.pow_succ]
                omega
              · show _ = _
                rw [HT.out, HC.out, if_neg (by omega), if_pos hx]
            case measure => simp [intOf]; omega
          · by_cases hx0 : x = 0
            · have hx0b : ((x : Int) == 0) = true := by simp; omega
              have hx0l : x ≤ 0 := by omega
              clear hx0
              by_cases hi0 : i ≤ 0
              · go_wp2_with fail
                all_goals
                  go_ret
                  rw [HO.out]
                  refine did_took (u := i + 1) ?_ ?_ (set_grown _ _ _ _)
                  · rw [HT.out, HC.out, if_neg (by omega), if_neg (by omega), if_neg (by omega)]
                  · refine RD.cut HG.out ?_ (by omega) (by omega)
                    first | exact row_cut hr | exact row_end (by omega)
              · go_wp2_with fail
                refine (rfail_any w g _ c l 0 7 HG.out hr h1 h2).mono ?_
                rintro e w' ⟨rfl, hrd, hgr⟩
                go_wp2_with fail
                go_ret
                refine did_take (er := 7) ?_ (by omega) hrd hgr
                rw [HT.out, HC.out]
                rw [if_neg (by omega), if_neg (by omega), if_pos ⟨by omega, by omega⟩]
            · have hx0b : ((x : Int) == 0) = false := by simp; omega
              go_wp2_with fail
              all_goals
                go_ret
                rw [HO.out]
                refine did_took (u := i + 1) ?_ ?_ (set_grown _ _ _ _)
                · rw [HT.out, HC.out, if_neg (by omega), if_neg (by omega), if_neg (by omega)]
                · refine RD.cut HG.out ?_ (by omega) (by omega)
                  first | exact row_cut hr | exact row_end (by omega)
      · obtain rfl : i = l.length := by omega
        go_wp2_with fail
        refine (rfail_any w g A c l 0 10 HG.out hr h1 h2).mono ?_
        rintro e w' ⟨rfl, hrd, hgr⟩
        go_wp2_with fail
        go_ret
        refine did_take (er := 10) ?_ (by omega) hrd hgr
        rw [HT.out, List.drop_length]
        rfl
  · have heb : (e != 0) = true := by simpa using he
    have HE := Lib.hid he
    clear he hg
    go_enter Try.func26, Try.ntmps26
    go_wp2_with fail
    refine (rerr_any w g _ HRD.out).mono ?_
    rintro e' w' ⟨rfl, rfl⟩
    go_wp2_with fail
    go_ret
    have : Wire.take ⟨l, e⟩ = (⟨l, e⟩, 0) := by unfold Wire.take; rw [if_pos HE.out]
    rw [this]
    exact ⟨rfl, HRD.out, World.grownBy.refl _ _⟩
end Go.Proofs.Ytgdlfihiheeniaa
