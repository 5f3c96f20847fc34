/-
  The contracts of slices.Grow (of nil) and slices.Concat (of two), of the pool's frames.
-/
import Derived.Test.YtjaopecjmmnbiaaPoolRow
namespace Go.Proofs.Ytjaopecjmmnbiaa
open Go.RowKit

set_option maxHeartbeats 1000000 in
theorem grow_any (w : World) (n : Nat) (h0 : 0 < n) (hn : n ≤ 1000) :
    Calls Try.prog 25 #[.slice none 0 0, .int .i64 n] w fun e w' => ∃ g c, e = .returned (.slice (some ⟨g, 0, none⟩) 0 c) ∧ FOwn w' w.heap.size (some ⟨g, 0, none⟩) c [] ∧ Below w.heap.size w w' := by
  obtain ⟨i, hi, hz, hsi, hby⟩ := info_parts infoFr
  have hrun := Lib.run_append_nil_zeros (P := Try.prog) w 60 3 60 65 i _ .i64 .i64 Try.underlying60 Try.underlying3 hi hz n h0 (by omega) (by omega) (by rw [hby]; omega)
  have hni : ¬ (n : Int) < 0 := by omega
  have hpos : (0 : Int) < (n : Int) := by omega
  have hc1 := grownCap_ge w n 0 65
  have hc2 := grownCap_le_maxLen w n 0 65 (by simp [maxLen]; omega)
  generalize grownCap w n 0 65 = c at hrun hc1 hc2
  go_enter Try.func25, Try.ntmps25
  go_wp2_with (at_builtin; refine Lib.wpList_append_run w rfl (.tmp 20) (.tmp 21) 60 3 rfl _ _ rfl rfl _ _ hrun ?_)
  go_ret
  refine ⟨w.heap.size, c, rfl, ?_, ((Below.refl _ _).drew).alloc (Nat.le_refl _) _⟩
  exact World.ownsRow_made w.drew _ c (Nat.le_refl _) hc2 (by simp [Builtin.zeroCells]; omega)

/-- A slice of frames that is a part of what is put together. -/
structure FPart where
  A : Option Addr
  c : Nat
  L : List Fr
def FPart.v (p : FPart) : Value := .slice p.A p.L.length p.c
def lens (ps : List FPart) : Nat := (ps.map fun p => p.L.length).sum
theorem lens_take (ps : List FPart) (i : Nat) (h : i < ps.length) : lens (ps.take (i + 1)) = lens (ps.take i) + ps[i].L.length := by
  unfold lens
  rw [List.take_succ_eq_append_getElem h, List.map_append, List.sum_append]
  simp
theorem lens_le (ps : List FPart) (i : Nat) : lens (ps.take i) ≤ lens ps := by
  have e : lens ps = lens (ps.take i) + lens (ps.drop i) := by
    unfold lens
    rw [← List.sum_append, ← List.map_append, List.take_append_drop]
  omega
theorem flat_take (ps : List FPart) (i : Nat) (h : i < ps.length) : (ps.take (i + 1)).flatMap (·.L) = (ps.take i).flatMap (·.L) ++ ps[i].L := by
  rw [List.take_succ_eq_append_getElem h, List.flatMap_append]
  simp
theorem flat_length (ps : List FPart) : (ps.flatMap (·.L)).length = lens ps := by simp [lens, List.length_flatMap]

set_option maxHeartbeats 1000000 in
theorem concat_any (w : World) (A : Option Addr) (c : Nat) (ps : List FPart) (hr : Row w A (ps.map FPart.v)) (hp : ∀ p ∈ ps, FRow w p.A p.L) (hn : ps.length ≤ 1000) (h0 : 0 < lens ps) (h1 : lens ps ≤ 1000) :
    Calls Try.prog 20 #[.slice A ps.length c] w fun e w' => ∃ A' c', e = .returned (.slice A' (ps.flatMap (·.L)).length c') ∧ FOwn w' w.heap.size A' c' (ps.flatMap (·.L)) ∧ Below w.heap.size w w' := by
  have HP := Lib.hid hp
  clear hp
  go_enter Try.func20, Try.ntmps20
  go_wp2_with fail
  go_loop [3, 11] (fun sv iv => ∃ i n : Nat, i ≤ ps.length ∧ iv = .int .i64 i ∧ sv = .int .i64 n ∧ Hid (n = lens (ps.take i))) (fun _ iv => ps.length - (intOf iv).toNat)
  case atStart => exact ⟨0, 0, by omega, rfl, rfl, rfl⟩
  case round =>
    obtain ⟨i, n, hi, rfl, rfl, HN⟩ := hrel
    have hnle : n ≤ 1000 := by rw [HN.out]; exact Nat.le_trans (lens_le ps i) h1
    by_cases hlt : i < ps.length
    · obtain ⟨b, o, rfl, hb, hc⟩ := Row.at_ (k := i) hr (by simpa using hlt)
      rw [List.getElem_map] at hc
      have hl := Lib.hid (lens_take ps i hlt)
      have hn2 : n + ps[i].L.length ≤ 1000 := by rw [HN.out, ← hl.out]; exact Nat.le_trans (lens_le ps (i + 1)) h1
      generalize ps[i] = q at hc hl hn2
      obtain ⟨qA, qc, qL⟩ := q
      simp only [FPart.v] at hc hl hn2
      have hneg : ¬ ((n : Int) + (qL.length : Int)) < 0 := by omega
      have hlti : (i : Int) < (ps.length : Int) := by omega
      have hw : IntKind.i64.wrap ((n : Int) + (qL.length : Int)) = (n : Int) + (qL.length : Int) := by rw [IntWalk.i64_in _ (by omega)]
      clear hr
      go_wp2_with fail
      go_round
      case rel => exact ⟨i + 1, n + qL.length, by omega, by go_num, by go_num, by show _ = _; rw [hl.out, HN.out]⟩
      case measure => simp [intOf]; omega
    · obtain rfl : i = ps.length := by omega
      have hnn : n = lens ps := by rw [HN.out, List.take_length]
      have hnpos : 0 < n := by omega
      clear hnn
      go_wp2_with fail
      refine (grow_any w n hnpos hnle).mono ?_
      rintro e w1 ⟨g, c1, rfl, ho1, hb1⟩
      go_wp2_with fail
      go_loopw [6, 27] (fun nv iv wr => ∃ (i : Nat) (A1 : Option Addr) (c1 : Nat) (L : List Fr), i ≤ ps.length ∧ iv = .int .i64 i ∧ nv = .slice A1 L.length c1 ∧ Hid (L = (ps.take i).flatMap (·.L)) ∧ FOwn wr w.heap.size A1 c1 L ∧ Below w.heap.size w wr) (fun _ iv _ => ps.length - (intOf iv).toNat)
      case atStart => exact ⟨0, _, c1, [], by omega, rfl, rfl, rfl, ho1, hb1⟩
      case round =>
        obtain ⟨i, A1, c1, L, hi, rfl, rfl, HL, ho, hB⟩ := hrel
        by_cases hlt : i < ps.length
        · have hrx : Row wr A (ps.map FPart.v) := Row.below hr hB
          obtain ⟨b, o, rfl, hb, hc⟩ := Row.at_ (k := i) hrx (by simpa using hlt)
          rw [List.getElem_map] at hc
          have hl := Lib.hid (flat_take ps i hlt)
          have hfr := (HP.out ps[i] (List.getElem_mem hlt)).below hB
          have hn2 : L.length + ps[i].L.length ≤ 1000 := by
            have := lens_le ps (i + 1)
            rw [← flat_length, flat_take ps i hlt, ← HL.out, List.length_append] at this
            omega
          generalize ps[i] = q at hc hl hn2 hfr
          obtain ⟨qA, qc, qL⟩ := q
          simp only [FPart.v] at hc hl hn2 hfr
          have hz := hB.size
          go_wp2_with (at_builtin; refine wpList_append_frames rfl (.tmp 31) (.tmp 32) rfl _ rfl ho rfl _ rfl hfr rfl (by omega) hz ?_; intro A3 c3 w3 ho3 hb3)
          go_roundw
          case rel => exact ⟨i + 1, A3, c3, L ++ qL, by omega, by go_num, by rw [List.length_append], by show _ = _; rw [hl.out, HL.out], ho3, hB.trans hb3⟩
          case measure => simp [intOf]; omega
        · obtain rfl : i = ps.length := by omega
          go_wp2_with fail
          go_ret
          have e := HL.out
          rw [List.take_length] at e
          rw [← e]
          exact ⟨A1, c1, rfl, ho, hB⟩
end Go.Proofs.Ytjaopecjmmnbiaa
