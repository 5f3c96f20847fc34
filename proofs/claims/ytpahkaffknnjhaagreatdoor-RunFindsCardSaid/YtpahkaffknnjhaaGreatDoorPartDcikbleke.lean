/-
  Texts of a proof, one behind the other (each with its own head).
-/
import Derived.Test.YtpahkaffknnjhaaGreatDoorPartCgfgmfjfh
import Derived.Defers
import Derived.Laws.Externs
section
namespace Go.Proofs.YtpahkaffknnjhaaGreatDoor
set_option linter.unusedSimpArgs false
set_option linter.unusedVariables false
open Go.RowKit
theorem u64w (n : Int) : IntKind.u64.wrap n = n % 18446744073709551616 := by rw [IntKind.wrap_u64]
set_option maxRecDepth 100000 in
theorem rsize_any (w : World) (n : Int) (h : Ev.inR n) : Calls Tryz.prog 129 #[.int .i64 n] w fun e w' => e = .returned (.int .u64 (n.natAbs : Nat)) ∧ w = w' := by
  have HN := Lib.hid h
  clear h
  by_cases h0 : n < 0
  · have HV : Hid (IntKind.u64.wrap (IntKind.u64.wrap (wrap64 (-wrap64 (n + 1))) + 1) = (n.natAbs : Nat)) := by
      show _ = _
      have := HN.out
      rw [u64w, u64w]
      unfold Ev.inR wrap64 at *
      omega
    go_enter Tryz.func129, Tryz.ntmps129
    go_wp2_with fail
    go_ret
    exact ⟨by rw [← HV.out]; rfl, rfl⟩
  · have HV : Hid (IntKind.u64.wrap n = (n.natAbs : Nat)) := by
      show _ = _
      have := HN.out
      rw [u64w]
      unfold Ev.inR at *
      omega
    go_enter Tryz.func129, Tryz.ntmps129
    go_wp2_with fail
    go_ret
    exact ⟨by rw [← HV.out]; rfl, rfl⟩
set_option maxRecDepth 100000 in
theorem rwhole_any (w : World) (x : Bool) (n : Nat) (h : n < two64) : Calls Tryz.prog 130 #[.bool x, .int .u64 (n : Int)] w (RetW w (Ev.fit (if x then -(n : Int) else n))) := by
  have HN : Hid (n < 18446744073709551616) := by show _ < _; rw [← two64_eq]; exact h
  clear h
  cases x
  · rw [if_neg (by decide)]
    go_enter Tryz.func130, Tryz.ntmps130
    go_wp2_with fail
    refine bodyPost_ret (v := .tuple #[.int .i64 (wrap64 n), .bool (decide ((n : Int) < 9223372036854775808))]) (by simp [results, Tryz.results130, go_sem]) rfl ?_
    refine retW_of rfl ?_ (fun h => Ev.wrap_in h)
    simp only [decide_eq_true_eq]
    unfold Ev.inR
    omega
  · rw [if_pos rfl]
    by_cases h0 : n = 0
    · subst h0
      go_enter Tryz.func130, Tryz.ntmps130
      go_wp2_with fail
      refine bodyPost_ret (v := .tuple #[.int .i64 0, .bool true]) (by simp [results, Tryz.results130, go_sem]) rfl ?_
      exact retW_of rfl ⟨fun _ => by decide, fun _ => rfl⟩ (fun _ => rfl)
    have hp : 0 < (n : Int) := by omega
    have HV : Hid (n ≤ 9223372036854775808 → wrap64 (wrap64 (-wrap64 (IntKind.u64.wrap ((n : Int) - 1))) - 1) = -(n : Int)) := by
      intro hh
      rw [u64w]
      unfold wrap64
      omega
    go_enter Tryz.func130, Tryz.ntmps130
    go_wp2_with fail
    refine bodyPost_ret (v := .tuple #[.int .i64 (wrap64 (wrap64 (-wrap64 (IntKind.u64.wrap ((n : Int) - 1))) - 1)), .bool (decide ((n : Int) ≤ 9223372036854775808))]) (by simp [results, Tryz.results130, go_sem]) rfl ?_
    refine retW_of rfl ?_ (fun h => HV.out (by unfold Ev.inR at h; omega))
    simp only [decide_eq_true_eq]
    unfold Ev.inR
    omega
theorem rwhole_true (w : World) (n : Nat) (v : Int) (h : n < two64) (hv : v = -(n : Int)) : Calls Tryz.prog 130 #[.bool true, .int .u64 (n : Int)] w (RetW w (Ev.fit v)) := by
  have := rwhole_any w true n h
  rw [if_pos rfl] at this
  rw [hv]; exact this
theorem rwhole_false (w : World) (n : Nat) (v : Int) (h : n < two64) (hv : v = (n : Int)) : Calls Tryz.prog 130 #[.bool false, .int .u64 (n : Int)] w (RetW w (Ev.fit v)) := by
  have := rwhole_any w false n h
  rw [if_neg (by decide)] at this
  rw [hv]; exact this
set_option maxRecDepth 100000 in
set_option maxHeartbeats 4000000 in
theorem radd_any (w : World) (a b : Int) (ha : Ev.inR a) (hb : Ev.inR b) : Calls Tryz.prog 94 #[.int .i64 a, .int .i64 b] w (RetW w (Ev.fit (a + b))) := by
  have HA := Lib.hid ha
  have HB := Lib.hid hb
  have hx : a.natAbs ≤ 9223372036854775808 := by unfold Ev.inR at ha; omega
  have hy : b.natAbs ≤ 9223372036854775808 := by unfold Ev.inR at hb; omega
  clear ha hb
  go_enter Tryz.func94, Tryz.ntmps94
  go_wp2_with fail
  refine (rsize_any _ a HA.out).mono ?_
  rintro e wq ⟨rfl, rfl⟩
  go_wp2_with fail
  refine (rsize_any _ b HB.out).mono ?_
  rintro e wq ⟨rfl, rfl⟩
  obtain ⟨x, hxe⟩ : ∃ x, a.natAbs = x := ⟨_, rfl⟩
  obtain ⟨y, hye⟩ : ∃ y, b.natAbs = y := ⟨_, rfl⟩
  have HX : Hid (a = x ∨ a = -x) := by show _ ∨ _; omega
  have HY : Hid (b = y ∨ b = -y) := by show _ ∨ _; omega
  have HXE := Lib.hid hxe
  have HYE := Lib.hid hye
  rw [hxe] at hx ⊢
  rw [hye] at hy ⊢
  by_cases hs : a < 0 ↔ b < 0
  · have hw : IntKind.u64.wrap (9223372036854775808 - (y : Int)) = 9223372036854775808 - y := by rw [u64w]; omega
    clear hxe hye
    by_cases hg : 9223372036854775808 < x + y
    · have hgt : (9223372036854775808 : Int) - y < x := by omega
      have HNO : Hid (¬ Ev.inR (a + b)) := by
        show ¬ _
        have h1 := HX.out; have h2 := HY.out; have h3 := HXE.out; have h4 := HYE.out
        unfold Ev.inR
        omega
      by_cases ha : a < 0
      · have hb : b < 0 := hs.1 ha
        clear hs hg hx hy
        go_wp2_with fail
        refine bodyPost_ret (v := .tuple #[.int .i64 0, .bool false]) (by simp [results, Tryz.results94, go_sem]) rfl ?_
        rw [Ev.fit_out HNO.out]
        exact ⟨0, rfl, (by intro z hz; cases hz), rfl⟩
      · have hb : ¬ b < 0 := fun h => ha (hs.2 h)
        clear hs hg hx hy
        go_wp2_with fail
        refine bodyPost_ret (v := .tuple #[.int .i64 0, .bool false]) (by simp [results, Tryz.results94, go_sem]) rfl ?_
        rw [Ev.fit_out HNO.out]
        exact ⟨0, rfl, (by intro z hz; cases hz), rfl⟩
    · have hgt : ¬ (9223372036854775808 : Int) - y < x := by omega
      obtain ⟨z, hz⟩ : ∃ z : Nat, IntKind.u64.wrap ((x : Int) + y) = (z : Int) := ⟨x + y, by rw [u64w]; omega⟩
      have hzz : z = x + y := by rw [u64w] at hz; omega
      by_cases ha : a < 0
      · have hb : b < 0 := hs.1 ha
        have HWL : Hid (z < two64) := by show _ < _; rw [two64_eq]; omega
        have HEQ : Hid (a + b = -(z : Int)) := by show _ = _; have := HXE.out; have := HYE.out; omega
        clear hs hg hx hy hzz
        go_wp2_with fail
        try rw [show decide (a < 0) = true by simp; omega]
        try rw [show decide (b < 0) = true by simp; omega]
        ((with_reducible refine (rwhole_true _ z (a + b) HWL.out HEQ.out).mono ?_); rintro e wq ⟨n, rfl, hn, rfl⟩)
        clear hz
        generalize hr : Ev.fit (a + b) = r at hn ⊢
        have HR := Lib.hid hr
        have HN := Lib.hid hn
        clear hn hr
        go_wp2_with fail
        refine bodyPost_ret (v := .tuple #[.int .i64 n, .bool r.isSome]) (by simp [results, Tryz.results94, go_sem]) rfl ?_
        rw [HR.out]
        exact ⟨n, rfl, HN.out, rfl⟩
      · have hb : ¬ b < 0 := fun h => ha (hs.2 h)
        have HWL : Hid (z < two64) := by show _ < _; rw [two64_eq]; omega
        have HEQ : Hid (a + b = (z : Int)) := by show _ = _; have := HXE.out; have := HYE.out; omega
        clear hs hg hx hy hzz
        go_wp2_with fail
        try rw [show decide (a < 0) = false by simp; omega]
        try rw [show decide (b < 0) = false by simp; omega]
        ((with_reducible refine (rwhole_false _ z (a + b) HWL.out HEQ.out).mono ?_); rintro e wq ⟨n, rfl, hn, rfl⟩)
        clear hz
        generalize hr : Ev.fit (a + b) = r at hn ⊢
        have HR := Lib.hid hr
        have HN := Lib.hid hn
        clear hn hr
        go_wp2_with fail
        refine bodyPost_ret (v := .tuple #[.int .i64 n, .bool r.isSome]) (by simp [results, Tryz.results94, go_sem]) rfl ?_
        rw [HR.out]
        exact ⟨n, rfl, HN.out, rfl⟩
  · clear hxe hye
    have hg := ()
    by_cases hxy : y ≤ x
    · have hxi : (y : Int) ≤ (x : Int) := by omega
      have hxd : decide (y ≤ x) = true := by simp [hxy]
      obtain ⟨z, hz⟩ : ∃ z : Nat, IntKind.u64.wrap ((x : Int) - y) = (z : Int) := ⟨x - y, by rw [u64w]; omega⟩
      have hzz : z = x - y := by rw [u64w] at hz; omega
      by_cases ha : a < 0
      · have hb : ¬ b < 0 := fun h => hs ⟨fun _ => h, fun _ => ha⟩
        have HWL : Hid (z < two64) := by show _ < _; rw [two64_eq]; omega
        have HEQ : Hid (a + b = -(z : Int)) := by show _ = _; have := HXE.out; have := HYE.out; omega
        clear hs hg hx hy hzz
        go_wp2_with fail
        try rw [show decide (a < 0) = true by simp; omega]
        try rw [show decide (b < 0) = true by simp; omega]
        ((with_reducible refine (rwhole_true _ z (a + b) HWL.out HEQ.out).mono ?_); rintro e wq ⟨n, rfl, hn, rfl⟩)
        clear hz
        generalize hr : Ev.fit (a + b) = r at hn ⊢
        have HR := Lib.hid hr
        have HN := Lib.hid hn
        clear hn hr
        go_wp2_with fail
        refine bodyPost_ret (v := .tuple #[.int .i64 n, .bool r.isSome]) (by simp [results, Tryz.results94, go_sem]) rfl ?_
        rw [HR.out]
        exact ⟨n, rfl, HN.out, rfl⟩
      · have hb : b < 0 := by by_cases h : b < 0; exact h; exact absurd ⟨fun h' => absurd h' ha, fun h' => absurd h' h⟩ hs
        have HWL : Hid (z < two64) := by show _ < _; rw [two64_eq]; omega
        have HEQ : Hid (a + b = (z : Int)) := by show _ = _; have := HXE.out; have := HYE.out; omega
        clear hs hg hx hy hzz
        go_wp2_with fail
        try rw [show decide (a < 0) = false by simp; omega]
        try rw [show decide (b < 0) = false by simp; omega]
        ((with_reducible refine (rwhole_false _ z (a + b) HWL.out HEQ.out).mono ?_); rintro e wq ⟨n, rfl, hn, rfl⟩)
        clear hz
        generalize hr : Ev.fit (a + b) = r at hn ⊢
        have HR := Lib.hid hr
        have HN := Lib.hid hn
        clear hn hr
        go_wp2_with fail
        refine bodyPost_ret (v := .tuple #[.int .i64 n, .bool r.isSome]) (by simp [results, Tryz.results94, go_sem]) rfl ?_
        rw [HR.out]
        exact ⟨n, rfl, HN.out, rfl⟩
    · have hxi : ¬ (y : Int) ≤ (x : Int) := by omega
      have hxd : decide (y ≤ x) = false := by simp; omega
      obtain ⟨z, hz⟩ : ∃ z : Nat, IntKind.u64.wrap ((y : Int) - x) = (z : Int) := ⟨y - x, by rw [u64w]; omega⟩
      have hzz : z = y - x := by rw [u64w] at hz; omega
      by_cases ha : a < 0
      · have hb : ¬ b < 0 := fun h => hs ⟨fun _ => h, fun _ => ha⟩
        have HWL : Hid (z < two64) := by show _ < _; rw [two64_eq]; omega
        have HEQ : Hid (a + b = (z : Int)) := by show _ = _; have := HXE.out; have := HYE.out; omega
        clear hs hg hx hy hzz
        go_wp2_with fail
        try rw [show decide (a < 0) = false by simp; omega]
        try rw [show decide (b < 0) = false by simp; omega]
        ((with_reducible refine (rwhole_false _ z (a + b) HWL.out HEQ.out).mono ?_); rintro e wq ⟨n, rfl, hn, rfl⟩)
        clear hz
        generalize hr : Ev.fit (a + b) = r at hn ⊢
        have HR := Lib.hid hr
        have HN := Lib.hid hn
        clear hn hr
        go_wp2_with fail
        refine bodyPost_ret (v := .tuple #[.int .i64 n, .bool r.isSome]) (by simp [results, Tryz.results94, go_sem]) rfl ?_
        rw [HR.out]
        exact ⟨n, rfl, HN.out, rfl⟩
      · have hb : b < 0 := by by_cases h : b < 0; exact h; exact absurd ⟨fun h' => absurd h' ha, fun h' => absurd h' h⟩ hs
        have HWL : Hid (z < two64) := by show _ < _; rw [two64_eq]; omega
        have HEQ : Hid (a + b = -(z : Int)) := by show _ = _; have := HXE.out; have := HYE.out; omega
        clear hs hg hx hy hzz
        go_wp2_with fail
        try rw [show decide (a < 0) = true by simp; omega]
        try rw [show decide (b < 0) = true by simp; omega]
        ((with_reducible refine (rwhole_true _ z (a + b) HWL.out HEQ.out).mono ?_); rintro e wq ⟨n, rfl, hn, rfl⟩)
        clear hz
        generalize hr : Ev.fit (a + b) = r at hn ⊢
        have HR := Lib.hid hr
        have HN := Lib.hid hn
        clear hn hr
        go_wp2_with fail
        refine bodyPost_ret (v := .tuple #[.int .i64 n, .bool r.isSome]) (by simp [results, Tryz.results94, go_sem]) rfl ?_
        rw [HR.out]
        exact ⟨n, rfl, HN.out, rfl⟩
theorem mul_step {n x y p : Nat} (h : n + x * y = p) : (y % 2 = 1 → (n + x) + (x * 2) * (y / 2) = p) ∧ (y % 2 = 0 → n + (x * 2) * (y / 2) = p) := by
  have e : y = 2 * (y / 2) + y % 2 := (Nat.div_add_mod y 2).symm
  constructor
  · intro h1
    have : x * y = (x * 2) * (y / 2) + x := by
      conv => lhs; rw [e, h1]
      rw [Nat.mul_add, Nat.mul_one, Nat.mul_assoc]
    omega
  · intro h1
    have : x * y = (x * 2) * (y / 2) := by
      conv => lhs; rw [e, h1]
      rw [Nat.add_zero, Nat.mul_assoc]
    omega
theorem mul_big {n x y p : Nat} (h : n + x * y = p) (h1 : 1 < y) (h2 : 4611686018427387904 < x) : 9223372036854775808 < p := by
  have : x * 2 ≤ x * y := Nat.mul_le_mul_left x h1
  omega
theorem signs_mul (a b : Int) : ((decide (a < 0) != decide (b < 0)) = true → a * b = -((a.natAbs * b.natAbs : Nat) : Int)) ∧ ((decide (a < 0) != decide (b < 0)) = false → a * b = ((a.natAbs * b.natAbs : Nat) : Int)) := by
  have ha : a = (a.natAbs : Int) ∨ a = -(a.natAbs : Int) := by omega
  by_cases h1 : a < 0 <;> by_cases h2 : b < 0
  · refine ⟨by simp [h1, h2], fun _ => ?_⟩
    have e1 : a = -(a.natAbs : Int) := by omega
    have e2 : b = -(b.natAbs : Int) := by omega
    rw [Int.natCast_mul]
    conv => lhs; rw [e1, e2]
    rw [Int.neg_mul_neg]
  · refine ⟨fun _ => ?_, by simp [h1, h2]⟩
    have e1 : a = -(a.natAbs : Int) := by omega
    have e2 : b = (b.natAbs : Int) := by omega
    rw [Int.natCast_mul]
    conv => lhs; rw [e1, e2]
    rw [Int.neg_mul]
  · refine ⟨fun _ => ?_, by simp [h1, h2]⟩
    have e1 : a = (a.natAbs : Int) := by omega
    have e2 : b = -(b.natAbs : Int) := by omega
    rw [Int.natCast_mul]
    conv => lhs; rw [e1, e2]
    rw [Int.mul_neg]
  · refine ⟨by simp [h1, h2], fun _ => ?_⟩
    have e1 : a = (a.natAbs : Int) := by omega
    have e2 : b = (b.natAbs : Int) := by omega
    rw [Int.natCast_mul]
    conv => lhs; rw [e1, e2]
set_option maxRecDepth 100000 in
set_option maxHeartbeats 4000000 in
theorem rmul_any (w : World) (a b : Int) (ha : Ev.inR a) (hb : Ev.inR b) : Calls Tryz.prog 95 #[.int .i64 a, .int .i64 b] w (RetW w (Ev.fit (a * b))) := by
  have HA := Lib.hid ha
  have HB := Lib.hid hb
  have hx : a.natAbs ≤ 9223372036854775808 := by unfold Ev.inR at ha; omega
  have hy : b.natAbs ≤ 9223372036854775808 := by unfold Ev.inR at hb; omega
  have HS := Lib.hid (signs_mul a b)
  clear ha hb
  go_enter Tryz.func95, Tryz.ntmps95
  go_wp2_with fail
  refine (rsize_any _ a HA.out).mono ?_
  rintro e wq ⟨rfl, rfl⟩
  go_wp2_with fail
  refine (rsize_any _ b HB.out).mono ?_
  rintro e wq ⟨rfl, rfl⟩
  go_wp2_with fail
  generalize a.natAbs = x0 at HS hx ⊢
  generalize b.natAbs = y0 at HS hy ⊢
  obtain ⟨p, hp⟩ : ∃ p, x0 * y0 = p := ⟨_, rfl⟩
  rw [hp] at HS
  have HP : Hid (0 + x0 * y0 = p) := by show _ = _; omega
  clear hp
  go_loop [6, 7, 8] (fun xv yv nv => ∃ x y n : Nat, xv = .int .u64 (x : Int) ∧ yv = .int .u64 (y : Int) ∧ nv = .int .u64 (n : Int) ∧ y ≤ 9223372036854775808 ∧ n ≤ 9223372036854775808 ∧ (0 < y → x ≤ 9223372036854775808 ∧ (n < x ∨ x = 0)) ∧ Hid (n + x * y = p)) (fun _ yv _ => (intOf yv).toNat)
  case atStart => exact ⟨x0, y0, 0, rfl, rfl, rfl, hy, Nat.zero_le _, fun _ => ⟨hx, by omega⟩, HP.out⟩
  case round =>
    obtain ⟨x, y, n, rfl, rfl, rfl, hy64, hn64, hxy, HJ⟩ := hrel
    clear hx hy
    by_cases h0 : 0 < y
    · have h0i : (0 : Int) < (y : Int) := by omega
      obtain ⟨hx64, hnx⟩ := hxy h0
      have hms := mul_step HJ.out
      have hmb := mul_big HJ.out
      by_cases h1 : y % 2 = 1
      · have hm := hms.1 h1
        have h1i : ((y : Int) % 2 == 1) = true := by simp; omega
        have hw : IntKind.u64.wrap ((n : Int) + x) = (n : Int) + x := by rw [u64w]; omega
        clear hms h1
        have hge : (n + x) ≤ p := by rw [← hm]; exact Nat.le_add_right _ _
        have hno : 9223372036854775808 < p → ¬ Ev.inR (a * b) := by
          intro hp
          have h1 := HS.out
          cases hsg : (decide (a < 0) != decide (b < 0)) with
          | true => rw [h1.1 hsg]; unfold Ev.inR; omega
          | false => rw [h1.2 hsg]; unfold Ev.inR; omega
        by_cases hbig : 9223372036854775808 < (n + x)
        · have HNO : Hid (¬ Ev.inR (a * b)) := hno (by omega)
          have hbi : (9223372036854775808 : Int) < ((n : Int) + x) := by omega
          clear hno hge hm hbig hmb hxy hnx hy64 hn64 hx64
          go_wp2_with fail
          refine bodyPost_ret (v := .tuple #[.int .i64 0, .bool false]) (by simp [results, Tryz.results95, go_sem]) rfl ?_
          rw [Ev.fit_out HNO.out]
          exact ⟨0, rfl, (by intro z hz; cases hz), rfl⟩
        have hbi : ¬ (9223372036854775808 : Int) < ((n : Int) + x) := by omega
        by_cases hy1 : y = 1
        · subst hy1
          obtain ⟨q, hw2⟩ : ∃ q : Nat, IntKind.u64.wrap ((x : Int) * 2) = (q : Int) := ⟨(x * 2) % 18446744073709551616, by rw [u64w]; omega⟩
          have HM : Hid ((n + x) + q * 0 = p) := by show _ = _; simp at hm; omega
          have hbl : (n + x) ≤ 9223372036854775808 := by omega
          clear hno hge hm hbig hmb hxy hnx hy64 hn64 h0i h0 hx64
          go_wp2_with fail
          all_goals
            go_round
            case rel => exact ⟨q, 0, (n + x), by go_num, by go_num, by go_num, Nat.zero_le _, hbl, fun h => absurd h (by decide), HM.out⟩
            case measure => simp [intOf]
        have hy2 : 1 < y := by omega
        have hy2i : (1 : Int) < (y : Int) := by omega
        by_cases hx62 : 4611686018427387904 < x
        · have HNO : Hid (¬ Ev.inR (a * b)) := hno (hmb hy2 hx62)
          have hxi : (4611686018427387904 : Int) < (x : Int) := by omega
          clear hno hge hm hbig hmb hxy hnx hy64 hn64 hx64 hx62 hy1 hy2
          go_wp2_with fail
          refine bodyPost_ret (v := .tuple #[.int .i64 0, .bool false]) (by simp [results, Tryz.results95, go_sem]) rfl ?_
          rw [Ev.fit_out HNO.out]
          exact ⟨0, rfl, (by intro z hz; cases hz), rfl⟩
        have hxi : ¬ (4611686018427387904 : Int) < (x : Int) := by omega
        have hw2 : IntKind.u64.wrap ((x : Int) * 2) = (x : Int) * 2 := by rw [u64w]; omega
        have HM := Lib.hid hm
        have hbl : (n + x) ≤ 9223372036854775808 := by omega
        clear hno hge hm hmb hy1 hbig
        go_wp2_with fail
        go_round
        case rel => exact ⟨x * 2, y / 2, (n + x), by go_num, by go_num, by go_num, by omega, hbl, fun _ => by omega, HM.out⟩
        case measure => (simp [intOf]; try omega)
      · have hm := hms.2 (by omega)
        have h1i : ((y : Int) % 2 == 1) = false := by simp; omega
        clear hms h1
        have hge : n ≤ p := by rw [← hm]; exact Nat.le_add_right _ _
        have hno : 9223372036854775808 < p → ¬ Ev.inR (a * b) := by
          intro hp
          have h1 := HS.out
          cases hsg : (decide (a < 0) != decide (b < 0)) with
          | true => rw [h1.1 hsg]; unfold Ev.inR; omega
          | false => rw [h1.2 hsg]; unfold Ev.inR; omega
        by_cases hbig : 9223372036854775808 < n
        · have HNO : Hid (¬ Ev.inR (a * b)) := hno (by omega)
          have hbi : (9223372036854775808 : Int) < (n : Int) := by omega
          clear hno hge hm hbig hmb hxy hnx hy64 hn64 hx64
          go_wp2_with fail
          refine bodyPost_ret (v := .tuple #[.int .i64 0, .bool false]) (by simp [results, Tryz.results95, go_sem]) rfl ?_
          rw [Ev.fit_out HNO.out]
          exact ⟨0, rfl, (by intro z hz; cases hz), rfl⟩
        have hbi : ¬ (9223372036854775808 : Int) < (n : Int) := by omega
        by_cases hy1 : y = 1
        · subst hy1
          obtain ⟨q, hw2⟩ : ∃ q : Nat, IntKind.u64.wrap ((x : Int) * 2) = (q : Int) := ⟨(x * 2) % 18446744073709551616, by rw [u64w]; omega⟩
          have HM : Hid (n + q * 0 = p) := by show _ = _; simp at hm; omega
          have hbl : n ≤ 9223372036854775808 := by omega
          clear hno hge hm hbig hmb hxy hnx hy64 hn64 h0i h0 hx64
          go_wp2_with fail
          all_goals
            go_round
            case rel => exact ⟨q, 0, n, by go_num, by go_num, by go_num, Nat.zero_le _, hbl, fun h => absurd h (by decide), HM.out⟩
            case measure => simp [intOf]
        have hy2 : 1 < y := by omega
        have hy2i : (1 : Int) < (y : Int) := by omega
        by_cases hx62 : 4611686018427387904 < x
        · have HNO : Hid (¬ Ev.inR (a * b)) := hno (hmb hy2 hx62)
          have hxi : (4611686018427387904 : Int) < (x : Int) := by omega
          clear hno hge hm hbig hmb hxy hnx hy64 hn64 hx64 hx62 hy1 hy2
          go_wp2_with fail
          refine bodyPost_ret (v := .tuple #[.int .i64 0, .bool false]) (by simp [results, Tryz.results95, go_sem]) rfl ?_
          rw [Ev.fit_out HNO.out]
          exact ⟨0, rfl, (by intro z hz; cases hz), rfl⟩
        have hxi : ¬ (4611686018427387904 : Int) < (x : Int) := by omega
        have hw2 : IntKind.u64.wrap ((x : Int) * 2) = (x : Int) * 2 := by rw [u64w]; omega
        have HM := Lib.hid hm
        have hbl : n ≤ 9223372036854775808 := by omega
        clear hno hge hm hmb hy1 hbig
        go_wp2_with fail
        go_round
        case rel => exact ⟨x * 2, y / 2, n, by go_num, by go_num, by go_num, by omega, hbl, fun _ => by omega, HM.out⟩
        case measure => (simp [intOf]; try omega)
    · obtain rfl : y = 0 := by omega
      have HN : Hid (n = p) := by have := HJ.out; show _ = _; omega
      have hnl : n < two64 := by rw [two64_eq]; omega
      have HNL := Lib.hid hnl
      clear hnl hxy h0 hy64 hn64
      obtain ⟨sg, hsg⟩ : ∃ sg, (decide (a < 0) != decide (b < 0)) = sg := ⟨_, rfl⟩
      cases sg with
      | true =>
        have HSG : Hid (a * b = -(n : Int)) := by show _ = _; rw [HN.out]; exact HS.out.1 hsg
        go_wp2_with fail
        rw [show (!(decide (a < 0) == decide (b < 0))) = true from hsg]
        clear hsg
        ((with_reducible refine (rwhole_true _ n (a * b) HNL.out HSG.out).mono ?_); rintro e wq ⟨m, rfl, hm, rfl⟩)
        generalize hr : Ev.fit (a * b) = r at hm ⊢
        have HR := Lib.hid hr
        have HM := Lib.hid hm
        clear hm hr
        go_wp2_with fail
        refine bodyPost_ret (v := .tuple #[.int .i64 m, .bool r.isSome]) (by simp [results, Tryz.results95, go_sem]) rfl ?_
        rw [HR.out]
        exact ⟨m, rfl, HM.out, rfl⟩
      | false =>
        have HSG : Hid (a * b = (n : Int)) := by show _ = _; rw [HN.out]; exact HS.out.2 hsg
        go_wp2_with fail
        rw [show (!(decide (a < 0) == decide (b < 0))) = false from hsg]
        clear hsg
        ((with_reducible refine (rwhole_false _ n (a * b) HNL.out HSG.out).mono ?_); rintro e wq ⟨m, rfl, hm, rfl⟩)
        generalize hr : Ev.fit (a * b) = r at hm ⊢
        have HR := Lib.hid hr
        have HM := Lib.hid hm
        clear hm hr
        go_wp2_with fail
        refine bodyPost_ret (v := .tuple #[.int .i64 m, .bool r.isSome]) (by simp [results, Tryz.results95, go_sem]) rfl ?_
        rw [HR.out]
        exact ⟨m, rfl, HM.out, rfl⟩
end Go.Proofs.YtpahkaffknnjhaaGreatDoor
end

section
namespace Go.Proofs.YtpahkaffknnjhaaGreatDoor
set_option linter.unusedSimpArgs false
set_option linter.unusedVariables false
open Go.RowKit
namespace Ev
structure Dv (s v : Va) : Prop where
  ok : v.ok
  cl : Key.Clean v
  eq : Key.clean v = s
theorem dv_clean {v : Va} (h : v.ok) : Dv (Key.clean v) (Key.dclean v) := ⟨Key.dclean_ok h, Key.clean_of v, clean_dclean v⟩
theorem nul_ok : Va.ok Key.nul := ⟨by decide, by decide, by decide, by decide, by decide⟩
theorem dv_nul : Dv Key.nul Key.nul := dv_clean nul_ok
theorem bool_ok (b : Bool) : Va.ok (boolV b) := by cases b <;> exact ⟨by decide, by decide, by decide, by decide, by decide⟩
theorem dv_of {v : Va} (h : v.ok) (hd : Key.dclean v = v) (hc : Key.clean v = v) : Dv v v := by
  have := dv_clean h
  rw [hd, hc] at this
  exact this
theorem dv_bool (b : Bool) : Dv (boolV b) (boolV b) := dv_of (bool_ok b) (by cases b <;> rfl) (by cases b <;> rfl)
theorem dv_optB (o : Option Bool) : Dv (optB o) (optB o) := by cases o with | none => exact dv_nul | some b => exact dv_bool b
theorem dv_ofT (t : Int) : Dv (ofT t) (ofT t) := by unfold ofT; split; exact dv_nul; exact dv_bool _
theorem dv_and (a b : Va) : Dv (andV a b) (andV a b) := by unfold andV; (repeat' split) <;> exact dv_ofT _
theorem dv_not (a : Va) : Dv (notV a) (notV a) := by unfold notV; split <;> exact dv_ofT _
theorem dv_or (a b : Va) : Dv (orV a b) (orV a b) := dv_not _
theorem dv_cmp (op : List UInt8) (a b : Va) : Dv (cmpV op a b) (cmpV op a b) := by unfold cmpV; split; exact dv_nul; exact dv_optB _
theorem int_ok {n : Int} (h : inR n) : Va.ok ⟨1, n, 0, []⟩ := ⟨by show (-9223372036854775808 : Int) ≤ 1; decide, by show (1 : Int) ≤ 9223372036854775807; decide, h.1, h.2, by show 0 < 18446744073709551616; decide⟩
theorem dv_int {n : Int} (h : inR n) : Dv ⟨1, n, 0, []⟩ ⟨1, n, 0, []⟩ := dv_of (int_ok h) rfl rfl
theorem real_ok {f : Nat} (h : f < 18446744073709551616) : Va.ok ⟨2, 0, f, []⟩ := ⟨by show (-9223372036854775808 : Int) ≤ 2; decide, by show (2 : Int) ≤ 9223372036854775807; decide, by show (-9223372036854775808 : Int) ≤ 0; decide, by show (0 : Int) ≤ 9223372036854775807; decide, h⟩
theorem dv_real {f : Nat} {s : Nat} (h : f < 18446744073709551616) (hs : Key.real1 f = s) : Dv ⟨2, 0, s, []⟩ (Key.dclean ⟨2, 0, f, []⟩) := by
  have := dv_clean (real_ok h)
  rw [show Key.clean ⟨2, 0, f, []⟩ = ⟨2, 0, Key.real1 f, []⟩ from rfl, hs] at this
  exact this
theorem fit_range {x y : Int} (h : fit x = some y) : inR y ∧ y = x := by
  unfold fit at h
  split at h
  · next hr => cases h; exact ⟨hr, rfl⟩
  · cases h
theorem dclean_fields (v : Va) : (Key.clean v).k = (Key.dclean v).k ∧ (Key.clean v).n = (Key.dclean v).n ∧ (fnan (Key.clean v).f ↔ fnan (Key.dclean v).f) ∧ (¬ fnan (Key.dclean v).f → (Key.clean v).f = (Key.dclean v).f) := by
  refine ⟨clean_dk v, ?_⟩
  by_cases k2 : v.k = 2
  · have h1 : Key.clean v = ⟨2, 0, Key.real1 v.f, []⟩ := by unfold Key.clean Key.cleanF; simp [k2]
    have h2 : Key.dclean v = ⟨2, 0, Key.real0 v.f, []⟩ := by unfold Key.dclean Key.cleanF; simp [k2]
    rw [h1, h2]
    refine ⟨rfl, ?_, ?_⟩
    · show fnan (Key.real1 v.f) ↔ fnan (Key.real0 v.f); rw [Key.real1_nan, Key.real0_nan]
    · show ¬ fnan (Key.real0 v.f) → Key.real1 v.f = Key.real0 v.f
      intro h
      have h' : ¬ fnan v.f := fun h3 => h (Key.real0_nan.2 h3)
      unfold Key.real1 Key.real0
      rw [if_neg h']
  · have : Key.clean v = Key.dclean v := by unfold Key.clean Key.dclean Key.cleanF; simp [k2]
    rw [this]
    exact ⟨rfl, Iff.rfl, fun _ => rfl⟩
theorem fop_same {F : Nat → Nat → Option Nat} (hF : ∀ x y, fnan x ∨ fnan y → F x y = none) {a b a' b' : Nat} (ha : fnan a' ↔ fnan a) (hb : fnan b' ↔ fnan b) (ea : ¬ fnan a → a' = a) (eb : ¬ fnan b → b' = b) : F a b = F a' b' := by
  by_cases h : fnan a ∨ fnan b
  · rw [hF a b h, hF a' b' (h.imp ha.2 hb.2)]
  · have h1 : ¬ fnan a := fun h' => h (.inl h')
    have h2 : ¬ fnan b := fun h' => h (.inr h')
    rw [ea h1, eb h2]
theorem neg_same {a a' : Nat} (h1 : fnan a' ↔ fnan a) (h2 : ¬ fnan a → a' = a) : Key.real1 (fneg a) = Key.real1 (fneg a') := by
  have key : ∀ x : Nat, fnan x ↔ fnan (fneg x) := by
    intro x
    unfold fnan fneg
    split <;> omega
  by_cases h : fnan a
  · rw [real1_of_nan ((key a).1 h), real1_of_nan ((key a').1 (h1.2 h))]
  · rw [h2 h]
end Ev
def RetD (w : World) (s : Va) (e : Ending) (w' : World) : Prop := ∃ v, e = .returned v.v ∧ Ev.Dv s v ∧ Below w.heap.size w w'
theorem RetV.d {w : World} {s : Va} {e : Ending} {w' : World} (h : Ev.Dv s s) (hr : RetV w s e w') : RetD w s e w' := ⟨s, hr.1, h, hr.2⟩
set_option maxRecDepth 100000 in
set_option maxHeartbeats 8000000 in
theorem rarith_any (w : World) (op : List UInt8) (a b : Va) (ha : a.ok) (hb : b.ok) : Calls Tryz.prog 52 #[txt op, a.v, b.v] w (RetD w (Ev.arithV op a b)) := by
  have HA := Lib.hid ha
  have HB := Lib.hid hb
  have HXO := Lib.hid (Key.dclean_ok ha)
  have HYO := Lib.hid (Key.dclean_ok hb)
  have hgs := guard_str_is
  clear ha hb
  go_enter Tryz.func52, Tryz.ntmps52
  go_upto_region 1 with (first | (refine wpList_box_va rfl (.tmp 1) rfl a rfl ?_; intro W1 hb1 hz1 hB1) | (refine wpList_box_va rfl (.tmp 2) rfl b rfl ?_; intro W2 hb2 hz2 hB2) | (refine wpList_alloc_va rfl rfl ?_; intro W3 hb3 hz3 hB3))
  have h1 := ((hb1.below hB2).below hB3).drew
  have h2 := (hb2.below hB3).drew
  have h4 := hb3.drew
  have HB3 := Lib.hid ((hB1.then hB2).then hB3).drewR
  have hw1 : w.heap.size < W1.heap.size ∧ W1.heap.size < W2.heap.size := by have := hB1.size; have := hB2.size; omega
  clear hb1 hb2 hb3 hB1 hB2 hB3 hz1 hz2 hz3
  generalize W2.heap.size = g at h4 hw1 ⊢
  generalize W1.heap.size = gb at h2 hw1 ⊢
  refine wp_region_plan (.take 0 (.take 2 (.run 1 [2] (.run 3 [] (.run 4 [] (.run 5 [] .fin)))))) (by kernel_rfl) (by kernel_rfl) (by kernel_rfl) (by kernel_rfl) ?_
  repeat' (first | (refine hZ _ _ ?_; clear hZ) | (refine hZ _ ?_; clear hZ) | (refine hZ ?_; clear hZ) | rw [again_nil] | rw [walk_fin] | ((first | rw [walk_take] | rw [walk_run] | rw [again_cons]); intro Z hZ; simp only [sel, List.getElem?_toArray, List.getElem?_cons_zero, List.getElem?_cons_succ]; go_wp2_with (first | (refine wpList_load_va rfl (.tmp 4) rfl w.heap.size rfl h1 ?_) | (refine wpList_load_va rfl (.tmp 5) rfl gb rfl h2 ?_))))
  refine (dclean_any _ a HA.out).mono ?_
  rintro e W4 ⟨rfl, hB4⟩
  have h1 := h1.below hB4
  have h2 := h2.below hB4
  have h4 := h4.below hB4
  have HB4 := Lib.hid (HB3.out.trans (hB4.mono HB3.out.size))
  clear hB4 HB3
  go_wp2_with fail
  repeat' (first | (refine hZ _ _ ?_; clear hZ) | (refine hZ _ ?_; clear hZ) | (refine hZ ?_; clear hZ) | rw [again_nil] | rw [walk_fin] | ((first | rw [walk_take] | rw [walk_run] | rw [again_cons]); intro Z hZ; simp only [sel, List.getElem?_toArray, List.getElem?_cons_zero, List.getElem?_cons_succ]; go_wp2_with (first | (refine wpList_load_va rfl (.tmp 4) rfl w.heap.size rfl h1 ?_) | (refine wpList_load_va rfl (.tmp 5) rfl gb rfl h2 ?_))))
  refine (dclean_any _ b HB.out).mono ?_
  rintro e W5 ⟨rfl, hB5⟩
  have h1 := h1.below hB5
  have h2 := h2.below hB5
  have h4 := h4.below hB5
  have HB5 := Lib.hid (HB4.out.then hB5)
  clear hB5 HB4
  generalize hX : Key.dclean a = x at HXO ⊢
  generalize hY : Key.dclean b = y at HYO ⊢
  have HX := Lib.hid hX
  have HY := Lib.hid hY
  clear hX hY
  go_wp2_with fail
  repeat' (first | (refine hZ _ _ ?_; clear hZ) | (refine hZ _ ?_; clear hZ) | (refine hZ ?_; clear hZ) | rw [again_nil] | rw [walk_fin] | ((first | rw [walk_take] | rw [walk_run] | rw [again_cons]); intro Z hZ; simp only [sel, List.getElem?_toArray, List.getElem?_cons_zero, List.getElem?_cons_succ]; go_wp2_with (first | (refine wpList_store_va rfl rfl (.tmp 4) (.tmp 10) rfl w.heap.size rfl x rfl h1 ?_; intro W6 hb6 hg6; have h26 := h2.grown hg6 (by simp; omega); have h46 := h4.grown hg6 (by simp; omega)) | (refine wpList_store_va rfl rfl (.tmp 5) (.tmp 12) rfl gb rfl y rfl h26 ?_; intro W7 hb7 hg7))))
  have h1 := hb6.grown hg7 (by simp; omega)
  have h4 := h46.grown hg7 (by simp; omega)
  have HB7 := Lib.hid (below_of_grown (below_of_grown HB5.out hg6 (Nat.le_refl _) HB5.out.size) hg7 (by omega) (Nat.le_trans HB5.out.size hg6.size))
  clear hg6 hg7 hb6 h26 h46 HB5
  have hfa := Ev.dclean_fields a
  have hfb := Ev.dclean_fields b
  rw [HX.out] at hfa
  rw [HY.out] at hfb
  have HVC : Hid (Ev.arithV op a b = if x.k = 1 ∧ y.k = 1 then Ev.intV (Ev.whole op x.n y.n) else if x.k = 2 ∧ y.k = 2 then Ev.realV (Ev.fop op x.f y.f) else Key.nul) := by
    show _ = _
    unfold Ev.arithV
    rw [hfa.1, hfa.2.1, hfb.1, hfb.2.1]
    have e : Ev.fop op (Key.clean a).f (Key.clean b).f = Ev.fop op x.f y.f := by
      unfold Ev.fop
      rw [← Ev.fop_same (fun _ _ => Ev.add_nan) hfa.2.2.1 hfb.2.2.1 hfa.2.2.2 hfb.2.2.2, ← Ev.fop_same (fun _ _ => Ev.sub_nan) hfa.2.2.1 hfb.2.2.1 hfa.2.2.2 hfb.2.2.2, ← Ev.fop_same (fun _ _ => Ev.mul_nan) hfa.2.2.1 hfb.2.2.1 hfa.2.2.2 hfb.2.2.2]
    rw [e]
  clear HX HY HA HB hfa hfb
  obtain ⟨c0, c1, c2, c3, -⟩ := Blk.c4 h1
  obtain ⟨d0, d1, d2, d3, -⟩ := Blk.c4 hb7
  clear c3 d3 h1 hb7
  by_cases hi : x.k = 1 ∧ y.k = 1
  · have HV1 : Hid (Ev.arithV op a b = Ev.intV (Ev.whole op x.n y.n)) := by show _ = _; rw [HVC.out, if_pos hi]
    rw [hi.1] at c0
    rw [hi.2] at d0
    clear hi HVC c2 d2
    have HIX : Hid (Ev.inR x.n) := ⟨HXO.out.n1, HXO.out.n2⟩
    have HIY : Hid (Ev.inR y.n) := ⟨HYO.out.n1, HYO.out.n2⟩
    generalize x.n = m1 at c1 HIX HV1
    generalize y.n = m2 at d1 HIY HV1
    by_cases hop : op = [43]
    · subst hop
      unfold txt
      go_wp2_with fail
      refine (radd_any _ m1 m2 HIX.out HIY.out).mono ?_
      rintro e wq ⟨n, rfl, hn, rfl⟩
      have HVR : Hid (Ev.arithV [43] a b = Ev.intV (Ev.fit (m1 + m2))) := HV1.out
      have HRG : Hid (∀ z, Ev.fit (m1 + m2) = some z → Ev.inR z) := fun z h => (Ev.fit_range h).1
      have HN := Lib.hid hn
      clear hn HV1
      generalize Ev.fit (m1 + m2) = r at HVR HRG HN ⊢
      cases r with
      | none =>
        have HV : Hid (Ev.arithV _ a b = Key.nul) := HVR.out
        clear HVR
        go_wp2_with (refine wpList_store_va rfl rfl (.tmp 6) (.tmp 73) rfl g rfl Key.nul rfl h4 ?_; intro Wa hba hga)
        exact ret_va hba rfl rfl rfl ⟨Key.nul, rfl, by rw [HV.out]; exact Ev.dv_nul, below_of_grown HB7.out hga (by omega) HB7.out.size⟩
      | some z =>
        obtain rfl : n = z := HN.out z rfl
        have HV : Hid (Ev.arithV _ a b = ⟨1, n, 0, []⟩) := HVR.out
        have HIN : Hid (Ev.inR n) := HRG.out n rfl
        clear HVR
        go_wp2_with (refine wpList_store_va rfl rfl (.tmp 6) (.tmp 75) rfl g rfl ⟨1, n, 0, []⟩ rfl h4 ?_; intro Wa hba hga)
        exact ret_va hba rfl rfl rfl ⟨⟨1, n, 0, []⟩, rfl, by rw [HV.out]; exact Ev.dv_int HIN.out, below_of_grown HB7.out hga (by omega) HB7.out.size⟩
    have n1 := run_str_is op [43] hop
    by_cases hop2 : op = [45]
    · subst hop2
      unfold txt
      clear n1
      have HV2 : Hid (Ev.arithV [45] a b = Ev.intV (Ev.fit (m1 - m2))) := HV1.out
      clear HV1
      by_cases hmin : m2 = -9223372036854775808
      · subst hmin
        go_wp2_with fail
        refine (radd_any _ m1 9223372036854775807 HIX.out (by decide)).mono ?_
        rintro e wq ⟨n, rfl, hn, rfl⟩
        by_cases hin : Ev.inR (m1 + 9223372036854775807)
        · have hf := Ev.fit_in hin
          have hn2 : n = m1 + 9223372036854775807 := hn _ hf
          rw [hf]
          have HIN : Hid (Ev.inR n) := by show Ev.inR _; rw [hn2]; exact hin
          have HVR : Hid (Ev.arithV [45] a b = Ev.intV (Ev.fit (n + 1))) := by show _ = _; rw [HV2.out, hn2]; congr 2; omega
          clear hf hn hn2 hin HV2
          go_wp2_with fail
          refine (radd_any _ n 1 HIN.out (by decide)).mono ?_
          rintro e wq ⟨n9, rfl, hn, rfl⟩
          have HRG : Hid (∀ z, Ev.fit (n + 1) = some z → Ev.inR z) := fun z h => (Ev.fit_range h).1
          have HN := Lib.hid hn
          clear hn HIN
          generalize Ev.fit (n + 1) = r at HVR HRG HN ⊢
          clear HIX HIY
          cases r with
          | none =>
            have HV : Hid (Ev.arithV _ a b = Key.nul) := HVR.out
            clear HVR
            go_wp2_with (refine wpList_store_va rfl rfl (.tmp 6) (.tmp 73) rfl g rfl Key.nul rfl h4 ?_; intro Wa hba hga)
            exact ret_va hba rfl rfl rfl ⟨Key.nul, rfl, by rw [HV.out]; exact Ev.dv_nul, below_of_grown HB7.out hga (by omega) HB7.out.size⟩
          | some z =>
            obtain rfl : n9 = z := HN.out z rfl
            have HV : Hid (Ev.arithV _ a b = ⟨1, n9, 0, []⟩) := HVR.out
            have HIN : Hid (Ev.inR n9) := HRG.out n9 rfl
            clear HVR
            go_wp2_with (refine wpList_store_va rfl rfl (.tmp 6) (.tmp 75) rfl g rfl ⟨1, n9, 0, []⟩ rfl h4 ?_; intro Wa hba hga)
            exact ret_va hba rfl rfl rfl ⟨⟨1, n9, 0, []⟩, rfl, by rw [HV.out]; exact Ev.dv_int HIN.out, below_of_grown HB7.out hga (by omega) HB7.out.size⟩
        · have hf := Ev.fit_out hin
          rw [hf]
          have HVR : Hid (Ev.arithV [45] a b = Key.nul) := by
            show _ = _
            rw [HV2.out, Ev.fit_out]
            · rfl
            · have := HIX.out; unfold Ev.inR at *; omega
          clear hf hn hin HV2
          by_cases hneg : m1 < 0
          · go_wp2_with (refine wpList_store_va rfl rfl (.tmp 6) (.tmp 73) rfl g rfl Key.nul rfl h4 ?_; intro Wa hba hga)
            exact ret_va hba rfl rfl rfl ⟨Key.nul, rfl, by rw [HVR.out]; exact Ev.dv_nul, below_of_grown HB7.out hga (by omega) HB7.out.size⟩
          · go_wp2_with (refine wpList_store_va rfl rfl (.tmp 6) (.tmp 73) rfl g rfl Key.nul rfl h4 ?_; intro Wa hba hga)
            exact ret_va hba rfl rfl rfl ⟨Key.nul, rfl, by rw [HVR.out]; exact Ev.dv_nul, below_of_grown HB7.out hga (by omega) HB7.out.size⟩
      · have hmb : (m2 == -9223372036854775808) = false := by simp [hmin]
        obtain ⟨k, hk⟩ : ∃ k, wrap64 (-m2) = k := ⟨_, rfl⟩
        have hkk : k = -m2 := by
          have := HIY.out
          rw [← hk, IntWalk.wrap64_in _ (by unfold Ev.inR at this; omega)]
        have HIK : Hid (Ev.inR k) := by show Ev.inR _; have := HIY.out; unfold Ev.inR at *; omega
        have HVR : Hid (Ev.arithV [45] a b = Ev.intV (Ev.fit (m1 + k))) := by show _ = _; rw [HV2.out, hkk]; congr 2
        clear hmin hkk HV2
        go_wp2_with fail
        refine (radd_any _ m1 k HIX.out HIK.out).mono ?_
        rintro e wq ⟨n, rfl, hn, rfl⟩
        have HRG : Hid (∀ z, Ev.fit (m1 + k) = some z → Ev.inR z) := fun z h => (Ev.fit_range h).1
        have HN := Lib.hid hn
        clear hn
        generalize Ev.fit (m1 + k) = r at HVR HRG HN ⊢
        cases r with
        | none =>
          have HV : Hid (Ev.arithV _ a b = Key.nul) := HVR.out
          clear HVR
          go_wp2_with (refine wpList_store_va rfl rfl (.tmp 6) (.tmp 73) rfl g rfl Key.nul rfl h4 ?_; intro Wa hba hga)
          exact ret_va hba rfl rfl rfl ⟨Key.nul, rfl, by rw [HV.out]; exact Ev.dv_nul, below_of_grown HB7.out hga (by omega) HB7.out.size⟩
        | some z =>
          obtain rfl : n = z := HN.out z rfl
          have HV : Hid (Ev.arithV _ a b = ⟨1, n, 0, []⟩) := HVR.out
          have HIN : Hid (Ev.inR n) := HRG.out n rfl
          clear HVR
          go_wp2_with (refine wpList_store_va rfl rfl (.tmp 6) (.tmp 75) rfl g rfl ⟨1, n, 0, []⟩ rfl h4 ?_; intro Wa hba hga)
          exact ret_va hba rfl rfl rfl ⟨⟨1, n, 0, []⟩, rfl, by rw [HV.out]; exact Ev.dv_int HIN.out, below_of_grown HB7.out hga (by omega) HB7.out.size⟩
    have n2 := run_str_is op [45] hop2
    by_cases hop3 : op = [42]
    · subst hop3
      unfold txt
      clear n1 n2
      go_wp2_with fail
      refine (rmul_any _ m1 m2 HIX.out HIY.out).mono ?_
      rintro e wq ⟨n, rfl, hn, rfl⟩
      have HVR : Hid (Ev.arithV [42] a b = Ev.intV (Ev.fit (m1 * m2))) := HV1.out
      have HRG : Hid (∀ z, Ev.fit (m1 * m2) = some z → Ev.inR z) := fun z h => (Ev.fit_range h).1
      have HN := Lib.hid hn
      clear hn HV1
      generalize Ev.fit (m1 * m2) = r at HVR HRG HN ⊢
      cases r with
      | none =>
        have HV : Hid (Ev.arithV _ a b = Key.nul) := HVR.out
        clear HVR
        go_wp2_with (refine wpList_store_va rfl rfl (.tmp 6) (.tmp 73) rfl g rfl Key.nul rfl h4 ?_; intro Wa hba hga)
        exact ret_va hba rfl rfl rfl ⟨Key.nul, rfl, by rw [HV.out]; exact Ev.dv_nul, below_of_grown HB7.out hga (by omega) HB7.out.size⟩
      | some z =>
        obtain rfl : n = z := HN.out z rfl
        have HV : Hid (Ev.arithV _ a b = ⟨1, n, 0, []⟩) := HVR.out
        have HIN : Hid (Ev.inR n) := HRG.out n rfl
        clear HVR
        go_wp2_with (refine wpList_store_va rfl rfl (.tmp 6) (.tmp 75) rfl g rfl ⟨1, n, 0, []⟩ rfl h4 ?_; intro Wa hba hga)
        exact ret_va hba rfl rfl rfl ⟨⟨1, n, 0, []⟩, rfl, by rw [HV.out]; exact Ev.dv_int HIN.out, below_of_grown HB7.out hga (by omega) HB7.out.size⟩
    have n3 := run_str_is op [42] hop3
    have HV : Hid (Ev.arithV op a b = Key.nul) := by show _ = _; rw [HV1.out]; unfold Ev.whole; rw [if_neg hop, if_neg hop2, if_neg hop3]; rfl
    clear hop hop2 hop3 HV1
    go_wp2_with (refine wpList_store_va rfl rfl (.tmp 6) (.tmp 73) rfl g rfl Key.nul rfl h4 ?_; intro Wa hba hga)
    exact ret_va hba rfl rfl rfl ⟨Key.nul, rfl, by rw [HV.out]; exact Ev.dv_nul, below_of_grown HB7.out hga (by omega) HB7.out.size⟩
  have HVD : Hid (Ev.arithV op a b = if x.k = 2 ∧ y.k = 2 then Ev.realV (Ev.fop op x.f y.f) else Key.nul) := by show _ = _; rw [HVC.out, if_neg hi]
  clear HVC
  by_cases hr : x.k = 2 ∧ y.k = 2
  · have HVE : Hid (Ev.arithV op a b = Ev.realV (Ev.fop op x.f y.f)) := by show _ = _; rw [HVD.out, if_pos hr]
    rw [hr.1] at c0
    rw [hr.2] at d0
    clear hi hr HVD
    by_cases hop : op = [43]
    · subst hop
      unfold txt
      obtain ⟨r, Wf, hadd, hrl, hre, hBf⟩ := (run_fadd W7 x.f y.f).out
      have HV : Hid (Ev.arithV [43] a b = ⟨2, 0, Key.real1 r, []⟩) := by show _ = _; rw [HVE.out, hre]; rfl
      have HRL : Hid (r < 18446744073709551616) := by show _ < _; rw [← two64_eq]; exact hrl
      have HBF := Lib.hid (HB7.out.then hBf)
      have h4 := h4.below hBf
      clear hrl hre HVE hBf
      go_wp2_with fail
      refine (dclean_any _ ⟨2, 0, r, []⟩ (Ev.real_ok HRL.out)).mono ?_
      rintro e W9 ⟨rfl, hB9⟩
      have h4 := h4.below hB9
      have HB9 := Lib.hid (HBF.out.then hB9)
      have HDV := Lib.hid (Ev.dv_real HRL.out rfl)
      clear hB9 hadd c0 c1 c2 d0 d1 d2
      generalize Key.dclean ⟨2, 0, r, []⟩ = q at HDV ⊢
      go_wp2_with (refine wpList_store_va rfl rfl (.tmp 6) (.tmp 93) rfl g rfl q rfl h4 ?_; intro Wa hba hga)
      exact ret_va hba rfl rfl rfl ⟨q, rfl, by rw [HV.out]; exact HDV.out, below_of_grown HB9.out hga (by omega) HB9.out.size⟩
    have n1 := run_str_is op [43] hop
    by_cases hop2 : op = [45]
    · subst hop2
      unfold txt
      obtain ⟨r, Wf, hadd, hrl, hre, hBf⟩ := (run_fsub W7 x.f y.f).out
      have HV : Hid (Ev.arithV [45] a b = ⟨2, 0, Key.real1 r, []⟩) := by show _ = _; rw [HVE.out, hre]; rfl
      clear n1
      have HRL : Hid (r < 18446744073709551616) := by show _ < _; rw [← two64_eq]; exact hrl
      have HBF := Lib.hid (HB7.out.then hBf)
      have h4 := h4.below hBf
      clear hrl hre HVE hBf
      go_wp2_with fail
      refine (dclean_any _ ⟨2, 0, r, []⟩ (Ev.real_ok HRL.out)).mono ?_
      rintro e W9 ⟨rfl, hB9⟩
      have h4 := h4.below hB9
      have HB9 := Lib.hid (HBF.out.then hB9)
      have HDV := Lib.hid (Ev.dv_real HRL.out rfl)
      clear hB9 hadd c0 c1 c2 d0 d1 d2
      generalize Key.dclean ⟨2, 0, r, []⟩ = q at HDV ⊢
      go_wp2_with (refine wpList_store_va rfl rfl (.tmp 6) (.tmp 102) rfl g rfl q rfl h4 ?_; intro Wa hba hga)
      exact ret_va hba rfl rfl rfl ⟨q, rfl, by rw [HV.out]; exact HDV.out, below_of_grown HB9.out hga (by omega) HB9.out.size⟩
    have n2 := run_str_is op [45] hop2
    by_cases hop3 : op = [42]
    · subst hop3
      unfold txt
      obtain ⟨r, Wf, hadd, hrl, hre, hBf⟩ := (run_fmul W7 x.f y.f).out
      have HV : Hid (Ev.arithV [42] a b = ⟨2, 0, Key.real1 r, []⟩) := by show _ = _; rw [HVE.out, hre]; rfl
      clear n1 n2
      have HRL : Hid (r < 18446744073709551616) := by show _ < _; rw [← two64_eq]; exact hrl
      have HBF := Lib.hid (HB7.out.then hBf)
      have h4 := h4.below hBf
      clear hrl hre HVE hBf
      go_wp2_with fail
      refine (dclean_any _ ⟨2, 0, r, []⟩ (Ev.real_ok HRL.out)).mono ?_
      rintro e W9 ⟨rfl, hB9⟩
      have h4 := h4.below hB9
      have HB9 := Lib.hid (HBF.out.then hB9)
      have HDV := Lib.hid (Ev.dv_real HRL.out rfl)
      clear hB9 hadd c0 c1 c2 d0 d1 d2
      generalize Key.dclean ⟨2, 0, r, []⟩ = q at HDV ⊢
      go_wp2_with (refine wpList_store_va rfl rfl (.tmp 6) (.tmp 111) rfl g rfl q rfl h4 ?_; intro Wa hba hga)
      exact ret_va hba rfl rfl rfl ⟨q, rfl, by rw [HV.out]; exact HDV.out, below_of_grown HB9.out hga (by omega) HB9.out.size⟩
    have n3 := run_str_is op [42] hop3
    have HV : Hid (Ev.arithV op a b = Key.nul) := by show _ = _; rw [HVE.out]; unfold Ev.fop; rw [if_neg hop, if_neg hop2, if_neg hop3]; rfl
    clear hop hop2 hop3 HVE
    go_wp2_with (refine wpList_store_va rfl rfl (.tmp 6) (.tmp 112) rfl g rfl Key.nul rfl h4 ?_; intro Wa hba hga)
    exact ret_va hba rfl rfl rfl ⟨Key.nul, rfl, by rw [HV.out]; exact Ev.dv_nul, below_of_grown HB7.out hga (by omega) HB7.out.size⟩
  · have HV : Hid (Ev.arithV op a b = Key.nul) := by show _ = _; rw [HVD.out, if_neg hr]
    clear HVD
    by_cases hx1 : x.k = 1
    · have hy1 : (y.k == 1) = false := by simp; exact fun e => hi ⟨hx1, e⟩
      rw [hx1] at c0
      clear hi hr hx1
      go_wp2_with (refine wpList_store_va rfl rfl (.tmp 6) (.tmp 112) rfl g rfl Key.nul rfl h4 ?_; intro Wa hba hga)
      exact ret_va hba rfl rfl rfl ⟨Key.nul, rfl, by rw [HV.out]; exact Ev.dv_nul, below_of_grown HB7.out hga (by omega) HB7.out.size⟩
    · have hx1b : (x.k == 1) = false := by simp [hx1]
      by_cases hx2 : x.k = 2
      · have hy2 : (y.k == 2) = false := by simp; exact fun e => hr ⟨hx2, e⟩
        rw [hx2] at c0
        clear hi hr hx1 hx2 hx1b
        go_wp2_with (refine wpList_store_va rfl rfl (.tmp 6) (.tmp 112) rfl g rfl Key.nul rfl h4 ?_; intro Wa hba hga)
        exact ret_va hba rfl rfl rfl ⟨Key.nul, rfl, by rw [HV.out]; exact Ev.dv_nul, below_of_grown HB7.out hga (by omega) HB7.out.size⟩
      · have hx2b : (x.k == 2) = false := by simp [hx2]
        clear hi hr hx1 hx2
        go_wp2_with (refine wpList_store_va rfl rfl (.tmp 6) (.tmp 112) rfl g rfl Key.nul rfl h4 ?_; intro Wa hba hga)
        exact ret_va hba rfl rfl rfl ⟨Key.nul, rfl, by rw [HV.out]; exact Ev.dv_nul, below_of_grown HB7.out hga (by omega) HB7.out.size⟩
set_option maxRecDepth 100000 in
set_option maxHeartbeats 4000000 in
theorem rneg_any (w : World) (a : Va) (ha : a.ok) : Calls Tryz.prog 46 #[a.v] w (RetD w (Ev.negV a)) := by
  have HA := Lib.hid ha
  have HXO := Lib.hid (Key.dclean_ok ha)
  have hfa := Ev.dclean_fields a
  clear ha
  go_enter Tryz.func46, Tryz.ntmps46
  go_upto_region 1 with (first | (refine wpList_box_va rfl (.tmp 0) rfl a rfl ?_; intro W1 hb1 hz1 hB1) | (refine wpList_alloc_va rfl rfl ?_; intro W2 hb2 hz2 hB2))
  have h1 := hb1.below hB2
  have h4 := hb2
  have HB2 := Lib.hid (hB1.then hB2)
  have hw1 : w.heap.size < W1.heap.size := by omega
  clear hb1 hb2 hB1 hB2 hz1 hz2
  generalize W1.heap.size = g at h4 hw1 ⊢
  have HFA := Lib.hid hfa
  clear hfa
  go_wp2_with (refine wpList_load_va rfl (.tmp 1) rfl w.heap.size rfl h1 ?_)
  refine (dclean_any _ a HA.out).mono ?_
  rintro e W3 ⟨rfl, hB3⟩
  have h1 := h1.below hB3
  have h4 := h4.below hB3
  have HB3 := Lib.hid (HB2.out.then hB3)
  clear hB3 HB2 HA
  have HVV : Hid (Ev.negV a = if (Key.dclean a).k = 2 then ⟨2, 0, Key.real1 (Ev.fneg (Key.dclean a).f), []⟩ else if (Key.dclean a).k = 1 then Ev.intV (Ev.fit (0 - (Key.dclean a).n)) else Key.nul) := by
    show _ = _
    unfold Ev.negV
    rw [HFA.out.1, HFA.out.2.1, ← Ev.neg_same HFA.out.2.2.1 HFA.out.2.2.2]
  clear HFA
  generalize Key.dclean a = x at HXO HVV ⊢
  go_upto_region 2 with (refine wpList_store_va rfl rfl (.tmp 1) (.tmp 4) rfl w.heap.size rfl x rfl h1 ?_; intro W4 hb4 hg4)
  have h4 := h4.grown hg4 (by simp; omega)
  have HB4 := Lib.hid (below_of_grown HB3.out hg4 (Nat.le_refl _) HB3.out.size)
  clear hg4 HB3
  obtain ⟨c0, c1, c2, c3, -⟩ := Blk.c4 hb4
  clear c3
  by_cases k2 : x.k = 2
  · have HV1 : Hid (Ev.negV a = ⟨2, 0, Key.real1 (Ev.fneg x.f), []⟩) := by show _ = _; rw [HVV.out, if_pos k2]
    have hneg := fun w => run_fneg w x.f (by rw [two64_eq]; exact HXO.out.f1)
    have hnl : Ev.fneg x.f < 18446744073709551616 := by have := HXO.out.f1; unfold Ev.fneg; split <;> omega
    rw [k2] at c0
    clear k2 HVV c1
    have HNL := Lib.hid hnl
    clear hnl
    generalize Ev.fneg x.f = r at HV1 hneg HNL
    go_wp2_with fail
    refine (dclean_any _ ⟨2, 0, r, []⟩ (Ev.real_ok HNL.out)).mono ?_
    rintro e W6 ⟨rfl, hB6⟩
    have h4 := h4.below hB6
    have HB6 := Lib.hid (HB4.out.then hB6)
    have HDV := Lib.hid (Ev.dv_real HNL.out rfl)
    clear hB6 c0 c2 hneg hb4
    generalize Key.dclean ⟨2, 0, r, []⟩ = q at HDV ⊢
    go_wp2_with (refine wpList_store_va rfl rfl (.tmp 2) (.tmp 12) rfl g rfl q rfl h4 ?_; intro Wa hba hga)
    exact ret_va hba rfl rfl rfl ⟨q, rfl, by rw [HV1.out]; exact HDV.out, below_of_grown HB6.out hga (by omega) HB6.out.size⟩
  · have k2b : (x.k == 2) = false := by simp [k2]
    by_cases k1 : x.k = 1
    · have HV1 : Hid (Ev.negV a = Ev.intV (Ev.fit (0 - x.n))) := by show _ = _; rw [HVV.out, if_neg k2, if_pos k1]
      rw [k1] at c0
      clear k2 k2b k1 HVV c2
      have HIX : Hid (Ev.inR x.n) := ⟨HXO.out.n1, HXO.out.n2⟩
      generalize x.n = m at c1 HV1 HIX
      by_cases hmin : m = -9223372036854775808
      · subst hmin
        have HV : Hid (Ev.negV a = Key.nul) := HV1.out
        go_wp2_with (refine wpList_store_va rfl rfl (.tmp 2) (.tmp 21) rfl g rfl Key.nul rfl h4 ?_; intro Wa hba hga)
        exact ret_va hba rfl rfl rfl ⟨Key.nul, rfl, by rw [HV.out]; exact Ev.dv_nul, below_of_grown HB4.out hga (by omega) HB4.out.size⟩
      · have hmb : (m == -9223372036854775808) = false := by simp [hmin]
        obtain ⟨k, hk⟩ : ∃ k, wrap64 (-m) = k := ⟨_, rfl⟩
        have hkk : k = -m := by
          have := HIX.out
          rw [← hk, IntWalk.wrap64_in _ (by unfold Ev.inR at this; omega)]
        have HIK : Hid (Ev.inR k) := by show Ev.inR _; have := HIX.out; unfold Ev.inR at *; omega
        have HV : Hid (Ev.negV a = ⟨1, k, 0, []⟩) := by
          show _ = _
          rw [HV1.out, show 0 - m = k by omega, Ev.fit_in HIK.out]; rfl
        clear hmin hkk HV1
        go_wp2_with (refine wpList_store_va rfl rfl (.tmp 2) (.tmp 25) rfl g rfl ⟨1, k, 0, []⟩ rfl h4 ?_; intro Wa hba hga)
        exact ret_va hba rfl rfl rfl ⟨⟨1, k, 0, []⟩, rfl, by rw [HV.out]; exact Ev.dv_int HIK.out, below_of_grown HB4.out hga (by omega) HB4.out.size⟩
    · have HV : Hid (Ev.negV a = Key.nul) := by show _ = _; rw [HVV.out, if_neg k2, if_neg k1]
      have k1b : (x.k != 1) = true := by simp [k1]
      clear k1 k2 HVV c1 c2
      go_wp2_with (refine wpList_store_va rfl rfl (.tmp 2) (.tmp 21) rfl g rfl Key.nul rfl h4 ?_; intro Wa hba hga)
      exact ret_va hba rfl rfl rfl ⟨Key.nul, rfl, by rw [HV.out]; exact Ev.dv_nul, below_of_grown HB4.out hga (by omega) HB4.out.size⟩
end Go.Proofs.YtpahkaffknnjhaaGreatDoor
end

section
namespace Go.Proofs.YtpahkaffknnjhaaGreatDoor
set_option linter.unusedSimpArgs false
set_option linter.unusedVariables false
open Go.RowKit
namespace Ev
theorem optB_ok (o : Option Bool) : (optB o).ok := by cases o with | none => exact nul_ok | some b => exact bool_ok b
theorem ofT_ok (t : Int) : (ofT t).ok := by unfold ofT; split; exact nul_ok; exact bool_ok _
theorem and_ok (a b : Va) : (andV a b).ok := by unfold andV; (repeat' split) <;> exact ofT_ok _
theorem not_ok (a : Va) : (notV a).ok := by unfold notV; split <;> exact ofT_ok _
theorem or_ok (a b : Va) : (orV a b).ok := not_ok _
theorem cmp_ok (op : List UInt8) (a b : Va) : (cmpV op a b).ok := by unfold cmpV; split; exact nul_ok; exact optB_ok _
theorem intV_ok {x : Int} : (intV (fit x)).ok := by
  by_cases h : inR x
  · rw [fit_in h]; exact int_ok h
  · rw [fit_out h]; exact nul_ok
theorem whole_ok (op : List UInt8) (a b : Int) : (intV (whole op a b)).ok := by unfold whole; (repeat' split) <;> first | exact intV_ok | exact nul_ok
theorem fnum_lt {o : Option Nat} (h : ∀ r, o = some r → r < 18446744073709551616) : fnum o < 18446744073709551616 := by
  cases o with
  | none => show 9221120237041090561 < 18446744073709551616; decide
  | some r => exact h r rfl
theorem fop_ok (op : List UInt8) (x y : Nat) : (realV (fop op x y)).ok := by
  unfold fop
  (repeat' split)
  · exact real_ok (Key.real1_lt (fnum_lt fun _ h => add_lt h))
  · exact real_ok (Key.real1_lt (fnum_lt fun _ h => sub_lt h))
  · exact real_ok (Key.real1_lt (fnum_lt fun _ h => mul_lt h))
  · exact nul_ok
theorem arith_ok (op : List UInt8) (a b : Va) : (arithV op a b).ok := by
  unfold arithV
  split
  · exact whole_ok _ _ _
  · split
    · exact fop_ok _ _ _
    · exact nul_ok
theorem neg_ok {a : Va} (h : a.ok) : (negV a).ok := by
  have hc := clean_ok h
  unfold negV
  split
  · refine real_ok (Key.real1_lt ?_)
    have := hc.f1
    unfold fneg
    split <;> omega
  · split
    · exact intV_ok
    · exact nul_ok
theorem nth_ok {l : List Va} (h : ∀ v ∈ l, v.ok) (i : Nat) : (nth l i).ok := by
  unfold nth
  by_cases hi : i < l.length
  · simp only [List.getD, List.getElem?_eq_getElem hi, Option.getD_some]; exact h _ (List.getElem_mem hi)
  · simp only [List.getD, List.getElem?_eq_none (Nat.le_of_not_lt hi), Option.getD_none]; exact nul_ok
theorem evalK_ok {row : List Va} {n : Nd} {vs : List Va} (hr : ∀ v ∈ row, v.ok) (hl : n.lit.ok) (hv : ∀ v ∈ vs, v.ok) : (evalK row n vs).ok := by
  unfold evalK
  (repeat' split) <;> first | exact nul_ok | exact bool_ok _ | exact clean_ok hl | exact clean_ok (nth_ok hr _) | exact neg_ok (nth_ok hv _) | exact not_ok _ | exact and_ok _ _ | exact or_ok _ _ | exact cmp_ok _ _ _ | exact arith_ok _ _ _
theorem eval_ok {w : World} {row : List Va} (hr : ∀ v ∈ row, v.ok) {n : Nd} (hn : NodeIn w n) : (eval row n).ok := by
  induction hn with
  | @mk n h1 h2 h3 h4 h5 h6 h7 h8 ih =>
    rw [eval_eq]
    refine evalK_ok hr h3 fun v hv => ?_
    rw [evalL_map] at hv
    obtain ⟨m, hm, rfl⟩ := List.mem_map.1 hv
    exact ih m hm
theorem evalL_ok {w : World} {row : List Va} (hr : ∀ v ∈ row, v.ok) {n : Nd} (hn : NodeIn w n) : ∀ v ∈ evalL row n.args, v.ok := by
  cases hn with
  | mk h1 h2 h3 h4 h5 h6 h7 h8 =>
    intro v hv
    rw [evalL_map] at hv
    obtain ⟨m, hm, rfl⟩ := List.mem_map.1 hv
    exact eval_ok hr (h2 m hm)
end Ev
end Go.Proofs.YtpahkaffknnjhaaGreatDoor
end

section
namespace Go.Proofs.YtpahkaffknnjhaaGreatDoor
set_option linter.unusedSimpArgs false
set_option linter.unusedVariables false
open Go.RowKit
section
theorem nd_one (n : Nd) : ∀ u ∈ n.cells, u.oneCell' = true := eNd.one n
theorem nd_zero (W : World) : (zeroValue 66).run Tryz.prog W = .ok Nd.nil.v W := (zero_of_info (P := Tryz.prog) (t := 66) (v := Nd.nil.v) (n := 10) (by kernel_rfl)).1 W
theorem nd_info : (Tryz.prog.info? 66).map (·.size) = some 10 := by kernel_rfl
variable {w : World} {ops : Array Oper} {rest : List Oper} {o : Oper} {a : Act} {Q : Exit → Act → World → Prop}
theorem wpList_alloc_nd (hgd : o.guard = none) (hop : o.op = .alloc 66)
    (h : ∀ W, Blk W w.heap.size 66 Nd.nil.cells → w.heap.size + 1 ≤ W.heap.size → Below w.heap.size w W → wpList Tryz.prog ops Q rest (a.put o.dst (.pointer (some ⟨w.heap.size, 0, none⟩))) W) : wpList Tryz.prog ops Q (o :: rest) a w :=
  wpList_alloc_z hgd 66 hop (nd_zero _) fun W hW => by
    obtain ⟨h1, h2, h3⟩ := fresh1 (a := Nd.nil.cells) hW
    exact h W h1 h2 h3
theorem wpList_store_nd (hgd : o.guard = none) (hod : o.dst = none) (x y : Operand) (hop : o.op = .store 66 x y) (g : Nat) (hx : a.eval x = .pointer (some ⟨g, 0, none⟩)) (b : Nd) (hy : a.eval y = b.v) {T0 : TypeId} {old : Nd} (hb : Blk w g T0 old.cells)
    (h : ∀ W, Blk W g T0 b.cells → w.grownBy W (some g) → wpList Tryz.prog ops Q rest a W) : wpList Tryz.prog ops Q (o :: rest) a w :=
  wpList_store_blk hgd hod 66 x y hop g hx b.cells hy hb rfl nd_info (nd_one b) h
theorem wpList_load_nd (hgd : o.guard = none) (x : Operand) (hop : o.op = .load 66 x) (g : Nat) (hx : a.eval x = .pointer (some ⟨g, 0, none⟩)) {T0 : TypeId} {b : Nd} (hb : Blk w g T0 b.cells)
    (h : wpList Tryz.prog ops Q rest (a.put o.dst b.v) w) : wpList Tryz.prog ops Q (o :: rest) a w :=
  wpList_load_mid hgd 66 x hop g 0 hx b.cells _ (hb.range 0 b.cells fun j _ => by rw [Nat.zero_add]) Tryz.underlying66 rfl nd_info h
theorem wpList_load_nd_at (hgd : o.guard = none) (x : Operand) (hop : o.op = .load 66 x) {b off : Nat} {L : List Nd} (hr : ERow eNd w (some ⟨b, off, none⟩) L) {j : Nat} (hj : j < L.length) (hx : a.eval x = .pointer (some ⟨b, off + j * 10, none⟩))
    (h : wpList Tryz.prog ops Q rest (a.put o.dst L[j].v) w) : wpList Tryz.prog ops Q (o :: rest) a w := by
  obtain ⟨b', off', e, hb, hrg⟩ := hr.range hj
  cases e
  exact wpList_load_mid hgd 66 x hop b (off + j * 10) hx L[j].cells _ hrg Tryz.underlying66 rfl nd_info h
theorem wpList_box_nd (hgd : o.guard = none) (x : Operand) (hop : o.op = .box 66 x) (b : Nd) (hx : a.eval x = b.v)
    (h : ∀ W, Blk W w.heap.size 66 b.cells → w.heap.size + 1 ≤ W.heap.size → Below w.heap.size w W → wpList Tryz.prog ops Q rest (a.put o.dst (.pointer (some ⟨w.heap.size, 0, none⟩))) W) : wpList Tryz.prog ops Q (o :: rest) a w :=
  wpList_plain hgd fun _ hK => by
    unfold Oper.wp execOp
    have e : (Instr.box 66 b.v).run Tryz.prog w = .ok (.pointer (some ⟨w.heap.size, 0, none⟩)) (w.alloc (.cells b.cells.toArray 66)) := by
      simp [Instr.box, Sem.run_bind, newVar, newRow]
      rfl
    simp only [hop, hx, Sem.run_bind, e, Result.andThen_ok, Sem.run_pure]
    obtain ⟨h1, h2, h3⟩ := fresh1 (w := w) (a := b.cells) (t := 66) rfl
    exact hK _ _ (h _ h1 h2 h3)
theorem Blk.c10 {w : World} {g : Nat} {t : TypeId} {a b c d e f i j k l : Value} (h : Blk w g t [a, b, c, d, e, f, i, j, k, l]) :
    w.cell? ⟨g, 0, none⟩ = some a ∧ w.cell? ⟨g, 1, none⟩ = some b ∧ w.cell? ⟨g, 2, none⟩ = some c ∧ w.cell? ⟨g, 3, none⟩ = some d ∧ w.cell? ⟨g, 4, none⟩ = some e ∧ w.cell? ⟨g, 5, none⟩ = some f ∧ w.cell? ⟨g, 6, none⟩ = some i ∧ w.cell? ⟨g, 7, none⟩ = some j ∧ w.cell? ⟨g, 8, none⟩ = some k ∧ w.cell? ⟨g, 9, none⟩ = some l ∧ g < w.heap.size :=
  ⟨h.cell 0, h.cell 1, h.cell 2, h.cell 3, h.cell 4, h.cell 5, h.cell 6, h.cell 7, h.cell 8, h.cell 9, h.lt⟩
end
theorem wpList_load_lit {w : World} {ops : Array Oper} {rest : List Oper} {o : Oper} {a : Act} {Q : Exit → Act → World → Prop} (hgd : o.guard = none) (x : Operand) (hop : o.op = .load 64 x) (g : Nat) (hx : a.eval x = .pointer (some ⟨g, 2, none⟩)) {T0 : TypeId} {b : Nd} (hb : Blk w g T0 b.cells)
    (h : wpList Tryz.prog ops Q rest (a.put o.dst b.lit.v) w) : wpList Tryz.prog ops Q (o :: rest) a w :=
  wpList_load_mid hgd 64 x hop g 2 hx b.lit.cells _ (hb.range 2 b.lit.cells fun j hj => by
    have : j < 4 := hj
    rcases (show j = 0 ∨ j = 1 ∨ j = 2 ∨ j = 3 by omega) with rfl | rfl | rfl | rfl <;> rfl) Tryz.underlying64 rfl va_info h
theorem va_field0 (v : Va) (w : World) : (Instr.field 64 v.v 0).run Tryz.prog w = .ok (.int .i64 v.k) w := by kernel_rfl
def EvalsTo (w : World) (R : Option Addr) (rc : Nat) (row : List Va) (n : Nd) : Prop :=
  ∀ W, Below w.heap.size w W → Calls Tryz.prog 32 #[n.v, .slice R row.length rc] W (RetV W (Ev.eval row n))
set_option maxRecDepth 20000 in
set_option maxHeartbeats 4000000 in
theorem earg_any (w : World) (R : Option Addr) (rc : Nat) (row : List Va) (n : Nd) (hr : ERow eNd w n.a n.args) (hc : n.args.length ≤ n.c) (hm : n.c ≤ maxLen) (ih : ∀ m ∈ n.args, EvalsTo w R rc row m)
    (W : World) (hB : Below w.heap.size w W) (gn gr : Nat) (T : TypeId) (hn : Blk W gn T n.cells) (hrr : Blk W gr 37 [.slice R row.length rc]) (i : Nat) (hi : i < 2) :
    Calls Tryz.prog 60 #[.int .i64 i, .pointer (some ⟨gn, 0, none⟩), .pointer (some ⟨gr, 0, none⟩)] W (RetV W (Ev.nth (Ev.evalL row n.args) i)) := by
  have HV := Lib.hid (Ev.evalL_get row n.args i)
  have HR := Lib.hid (hr.below hB)
  have HIH := Lib.hid ih
  have HBW := Lib.hid hB
  clear hr ih hB
  have hcm : n.args.length ≤ 9223372036854775807 := by unfold maxLen at hm; omega
  go_enter Tryz.func60, Tryz.ntmps60
  go_upto_region 1 with (refine wpList_alloc_va rfl rfl ?_; intro W1 hb1 hz1 hB1)
  have hn1 := hn.below hB1
  have hr1 := hrr.below hB1
  have HB1 := Lib.hid hB1
  have HR1 := Lib.hid (HR.out.below hB1)
  clear hn hrr hB1 HR
  obtain ⟨-, -, -, -, -, -, -, -, -, c9, -⟩ := Blk.c10 hn1
  have d0 := hr1.cell 0
  simp only [List.getElem?_cons_zero] at d0
  by_cases hlt : i < n.args.length
  · have hii : (i : Int) < (n.args.length : Int) := by omega
    have HV2 : Hid (Ev.nth (Ev.evalL row n.args) i = Ev.eval row n.args[i]) := by show _ = _; rw [HV.out, dif_pos hlt]
    have HE := Lib.hid (HIH.out n.args[i] (List.getElem_mem hlt))
    go_upto_region 2 with fail
    obtain ⟨bb, oo, ha, hbl, -⟩ := HR1.out.at_ hlt
    have HR2 : Hid (ERow eNd W1.drew (some ⟨bb, oo, none⟩) n.args) := by show ERow _ _ _ _; rw [← ha]; exact HR1.out.below (Below.refl W1.heap.size W1).drewR
    rw [ha] at c9 ⊢
    clear ha hbl
    have hb1d := hb1.drew
    have HBD := Lib.hid (HBW.out.then (HB1.out.drewR))
    refine wp_region_plan (.take 0 (.take 1 (.take 2 (.take 3 (.take 4 (.take 5 (.run 6 [] (.run 7 [] .fin)))))))) (by kernel_rfl) (by kernel_rfl) (by kernel_rfl) (by kernel_rfl) ?_
    repeat' (first | (refine hZ _ _ ?_; clear hZ) | (refine hZ _ ?_; clear hZ) | (refine hZ ?_; clear hZ) | rw [again_nil] | rw [walk_fin] | ((first | rw [walk_take] | rw [walk_run] | rw [again_cons]); intro Z hZ; simp only [sel, List.getElem?_toArray, List.getElem?_cons_zero, List.getElem?_cons_succ]; go_wp2_with (refine wpList_load_nd_at rfl (.tmp 13) rfl HR2.out hlt rfl ?_)))
    refine (HE.out _ HBD.out).mono ?_
    rintro e W2 ⟨rfl, hB2⟩
    have hb2 := hb1d.below hB2
    have HB2 := Lib.hid (HB1.out.drewR.trans (hB2.mono HB1.out.size))
    clear hB2 hb1d hb1
    generalize Ev.eval row n.args[i] = d at HV2 ⊢
    go_wp2_with fail
    repeat' (first | (refine hZ _ _ ?_; clear hZ) | (refine hZ _ ?_; clear hZ) | (refine hZ ?_; clear hZ) | rw [again_nil] | rw [walk_fin] | ((first | rw [walk_take] | rw [walk_run] | rw [again_cons]); intro Z hZ; simp only [sel, List.getElem?_toArray, List.getElem?_cons_zero, List.getElem?_cons_succ]; go_wp2_with (refine wpList_store_va rfl rfl (.tmp 4) (.tmp 16) rfl W.heap.size rfl d rfl hb2 ?_; intro W4 hb4 hg4)))
    go_wp2_with fail
    exact ret_va hb4 rfl rfl rfl ⟨by rw [HV2.out], below_of_grown HB2.out hg4 (Nat.le_refl _) HB2.out.size⟩
  · have hii : ¬ (i : Int) < (n.args.length : Int) := by omega
    have HV2 : Hid (Ev.nth (Ev.evalL row n.args) i = Key.nul) := by show _ = _; rw [HV.out, dif_neg hlt]
    go_wp2_with (refine wpList_store_va rfl rfl (.tmp 4) (.tmp 17) rfl W.heap.size rfl Key.nul rfl hb1 ?_; intro W4 hb4 hg4)
    exact ret_va hb4 rfl rfl rfl ⟨by rw [HV2.out], below_of_grown HB1.out hg4 (Nat.le_refl _) HB1.out.size⟩
set_option maxRecDepth 100000 in
set_option maxHeartbeats 16000000 in
theorem eval_any (w : World) (R : Option Addr) (rc : Nat) (row : List Va) (hrow : ERow eVa w R row) (hok : ∀ v ∈ row, v.ok) (hlen : row.length ≤ 9223372036854775807) (n : Nd) (hn : NodeIn w n) : EvalsTo w R rc row n := by
  have HROW := Lib.hid hrow
  have HOK := Lib.hid hok
  have HLEN := Lib.hid hlen
  clear hrow hok hlen
  induction hn with
  | @mk n hr hin hlit hls hk hat hc hm ih =>
  have HVO := Lib.hid (Ev.evalL_ok HOK.out (NodeIn.mk hr hin hlit hls hk hat hc hm))
  have HARG := Lib.hid (fun W hB gn gr T hn hrr i hi => earg_any w R rc row n hr hc hm ih W hB gn gr T hn hrr i hi)
  have HLIT := Lib.hid hlit
  have HVE := Lib.hid (Ev.eval_eq row n)
  clear hr hin hlit hls hk hat hc hm ih
  intro W hB
  have HB := Lib.hid hB
  clear hB
  have hmf : ∀ (fn : Fn) (first cap : Array Value) (w : World), (Instr.makeFunc fn first cap).run Tryz.prog w = .ok (.func fn first cap) w := fun _ _ _ _ => rfl
  generalize Ev.evalL row n.args = vs at HVO HARG HVE
  go_enter Tryz.func32, Tryz.ntmps32
  go_upto_region 1 with (first | (refine wpList_box_nd rfl (.tmp 0) rfl n rfl ?_; intro W1 hb1 hz1 hB1) | (refine wpList_alloc_va rfl rfl ?_; intro W3 hb3 hz3 hB3))
  obtain ⟨ba, hz2, hB2⟩ := fresh1 (w := W1) (a := [.slice R row.length rc]) (t := 37) rfl
  have h1 := (hb1.below hB2).below hB3
  have h2 := ba.below hB3
  have h4 := hb3
  have HB3 := Lib.hid ((hB1.then hB2).then hB3)
  have hg1 : W.heap.size < W1.heap.size := by omega
  have hg2 : W1.heap.size < (W1.alloc (.cells #[.slice R row.length rc] 37)).heap.size := by simp
  clear hb1 hB1 ba hB2 hz2 hb3 hB3 hz3 hz1
  generalize (World.alloc W1 _).heap.size = g at h4 hg2 ⊢
  generalize W1.heap.size = gr at h2 hg1 hg2 ⊢
  have hgw : W.heap.size ≤ W.heap.size := Nat.le_refl _
  clear W1
  obtain ⟨c0, c1, -, -, -, -, c6, c7, -, -, -⟩ := Blk.c10 h1
  have d0 := h2.cell 0
  simp only [List.getElem?_cons_zero] at d0
  have HBW := Lib.hid (HB.out.then HB3.out)
  clear HB
  by_cases k1 : n.k = 1
  · have HV : Hid (Ev.eval row n = Key.clean n.lit) := by show _ = _; rw [HVE.out]; unfold Ev.evalK; rw [if_pos k1]
    rw [k1] at c0
    clear k1 HVE
    go_wp2_with (refine wpList_load_lit rfl (.tmp 11) rfl W.heap.size rfl h1 ?_)
    refine (clean_any _ n.lit HLIT.out).mono ?_
    rintro e W5 ⟨rfl, hB5⟩
    have h4 := h4.below hB5
    have HB5 := Lib.hid (HB3.out.then hB5)
    clear hB5 HB3
    generalize Key.clean n.lit = d at HV ⊢
    go_wp2_with (refine wpList_store_va rfl rfl (.tmp 4) (.tmp 13) rfl g rfl d rfl h4 ?_; intro Wa hba hga)
    exact ret_va hba rfl rfl rfl ⟨by rw [HV.out], below_of_grown HB5.out hga (by omega) HB5.out.size⟩
  by_cases k2 : n.k = 2
  · have HVC : Hid (Ev.eval row n = if 0 ≤ n.at_ ∧ n.at_ < (row.length : Int) then Key.clean (Ev.nth row n.at_.toNat) else Key.nul) := by show _ = _; rw [HVE.out]; unfold Ev.evalK; rw [if_neg k1, if_pos k2]
    rw [k2] at c0
    clear k1 k2 HVE
    by_cases ha0 : 0 ≤ n.at_
    · by_cases hal : n.at_ < (row.length : Int)
      · obtain ⟨j, hj⟩ := Int.eq_ofNat_of_zero_le ha0
        have hjl : j < row.length := by omega
        have HV : Hid (Ev.eval row n = Key.clean row[j]) := by
          show _ = _
          rw [HVC.out, if_pos ⟨ha0, hal⟩, hj]
          unfold Ev.nth
          simp [List.getD, hjl]
        rw [hj] at c6
        have hji : (j : Int) < (row.length : Int) := by omega
        have HRW := Lib.hid (HROW.out.below HBW.out)
        have HOJ := Lib.hid (HOK.out row[j] (List.getElem_mem hjl))
        obtain ⟨bb, oo, rfl, hbl, -⟩ := HRW.out.at_ hjl
        clear hj hal ha0 HVC hbl
        have hlen := HLEN.out
        go_wp2_with (refine wpList_load_va_at rfl (.tmp 29) rfl HRW.out hjl rfl ?_)
        refine (clean_any _ row[j] HOJ.out).mono ?_
        rintro e W5 ⟨rfl, hB5⟩
        have h4 := h4.below hB5
        have HB5 := Lib.hid (HB3.out.then hB5)
        clear hB5 HB3
        generalize Key.clean row[j] = d at HV ⊢
        go_wp2_with (refine wpList_store_va rfl rfl (.tmp 4) (.tmp 31) rfl g rfl d rfl h4 ?_; intro Wa hba hga)
        exact ret_va hba rfl rfl rfl ⟨by rw [HV.out], below_of_grown HB5.out hga (by omega) HB5.out.size⟩
      · have HV : Hid (Ev.eval row n = Key.nul) := by show _ = _; rw [HVC.out, if_neg (fun h => hal h.2)]
        clear HVC
        go_wp2_with (refine wpList_store_va rfl rfl (.tmp 4) (.tmp 84) rfl g rfl Key.nul rfl h4 ?_; intro Wa hba hga)
        exact ret_va hba rfl rfl rfl ⟨by rw [HV.out], below_of_grown HB3.out hga (by omega) HB3.out.size⟩
    · have HV : Hid (Ev.eval row n = Key.nul) := by show _ = _; rw [HVC.out, if_neg (fun h => ha0 h.1)]
      clear HVC
      go_wp2_with (refine wpList_store_va rfl rfl (.tmp 4) (.tmp 84) rfl g rfl Key.nul rfl h4 ?_; intro Wa hba hga)
      exact ret_va hba rfl rfl rfl ⟨by rw [HV.out], below_of_grown HB3.out hga (by omega) HB3.out.size⟩
  by_cases k3 : n.k = 3
  · have HV : Hid (Ev.eval row n = Ev.negV (Ev.nth vs 0)) := by show _ = _; rw [HVE.out]; unfold Ev.evalK; rw [if_neg k1, if_neg k2, if_pos k3]
    rw [k3] at c0
    clear k1 k2 k3 HVE c6 c1 c7
    go_wp2_with fail
    refine (HARG.out _ HBW.out W.heap.size gr _ h1 h2 0 (by decide)).mono ?_
    rintro e W4 ⟨rfl, hB4⟩
    have h1 := h1.below hB4
    have h2 := h2.below hB4
    have h4 := h4.below hB4
    have HB3 := Lib.hid (HB3.out.then hB4)
    have HBW := Lib.hid (HBW.out.then hB4)
    clear hB4
    have HO0 := Lib.hid (Ev.nth_ok HVO.out 0)
    generalize Ev.nth vs 0 = x0 at HV HO0 ⊢
    go_wp2_with fail
    refine (vneg_any _ x0 HO0.out).mono ?_
    rintro e W5 ⟨rfl, hB5⟩
    have h4 := h4.below hB5
    have HB5 := Lib.hid (HB3.out.then hB5)
    clear hB5 HB3
    generalize Ev.negV x0 = d at HV ⊢
    go_wp2_with (refine wpList_store_va rfl rfl (.tmp 4) (.tmp 36) rfl g rfl d rfl h4 ?_; intro Wa hba hga)
    exact ret_va hba rfl rfl rfl ⟨by rw [HV.out], below_of_grown HB5.out hga (by omega) HB5.out.size⟩
  by_cases k4 : n.k = 4
  · have HV : Hid (Ev.eval row n = Ev.notV (Ev.nth vs 0)) := by show _ = _; rw [HVE.out]; unfold Ev.evalK; rw [if_neg k1, if_neg k2, if_neg k3, if_pos k4]
    rw [k4] at c0
    clear k1 k2 k3 k4 HVE c6 c1 c7
    go_wp2_with fail
    refine (HARG.out _ HBW.out W.heap.size gr _ h1 h2 0 (by decide)).mono ?_
    rintro e W4 ⟨rfl, hB4⟩
    have h1 := h1.below hB4
    have h2 := h2.below hB4
    have h4 := h4.below hB4
    have HB3 := Lib.hid (HB3.out.then hB4)
    have HBW := Lib.hid (HBW.out.then hB4)
    clear hB4
    have HO0 := Lib.hid (Ev.nth_ok HVO.out 0)
    generalize Ev.nth vs 0 = x0 at HV HO0 ⊢
    go_wp2_with fail
    refine (vnot_any _ x0).mono ?_
    rintro e W5 ⟨rfl, hB5⟩
    have h4 := h4.below hB5
    have HB5 := Lib.hid (HB3.out.then hB5)
    clear hB5 HB3
    generalize Ev.notV x0 = d at HV ⊢
    go_wp2_with (refine wpList_store_va rfl rfl (.tmp 4) (.tmp 41) rfl g rfl d rfl h4 ?_; intro Wa hba hga)
    exact ret_va hba rfl rfl rfl ⟨by rw [HV.out], below_of_grown HB5.out hga (by omega) HB5.out.size⟩
  by_cases k5 : n.k = 5
  · have HV : Hid (Ev.eval row n = Ev.andV (Ev.nth vs 0) (Ev.nth vs 1)) := by show _ = _; rw [HVE.out]; unfold Ev.evalK; rw [if_neg k1, if_neg k2, if_neg k3, if_neg k4, if_pos k5]
    rw [k5] at c0
    clear k1 k2 k3 k4 k5 HVE c6 c1 c7
    go_wp2_with fail
    refine (HARG.out _ HBW.out W.heap.size gr _ h1 h2 0 (by decide)).mono ?_
    rintro e W4 ⟨rfl, hB4⟩
    have h1 := h1.below hB4
    have h2 := h2.below hB4
    have h4 := h4.below hB4
    have HB3 := Lib.hid (HB3.out.then hB4)
    have HBW := Lib.hid (HBW.out.then hB4)
    clear hB4
    have HO0 := Lib.hid (Ev.nth_ok HVO.out 0)
    generalize Ev.nth vs 0 = x0 at HV HO0 ⊢
    go_wp2_with fail
    refine (HARG.out _ HBW.out W.heap.size gr _ h1 h2 1 (by decide)).mono ?_
    rintro e W6 ⟨rfl, hB4⟩
    have h1 := h1.below hB4
    have h2 := h2.below hB4
    have h4 := h4.below hB4
    have HB3 := Lib.hid (HB3.out.then hB4)
    have HBW := Lib.hid (HBW.out.then hB4)
    clear hB4
    have HO1 := Lib.hid (Ev.nth_ok HVO.out 1)
    generalize Ev.nth vs 1 = x1 at HV HO1 ⊢
    go_wp2_with fail
    refine (vand_any _ x0 x1).mono ?_
    rintro e W5 ⟨rfl, hB5⟩
    have h4 := h4.below hB5
    have HB5 := Lib.hid (HB3.out.then hB5)
    clear hB5 HB3
    generalize Ev.andV x0 x1 = d at HV ⊢
    go_wp2_with (refine wpList_store_va rfl rfl (.tmp 4) (.tmp 48) rfl g rfl d rfl h4 ?_; intro Wa hba hga)
    exact ret_va hba rfl rfl rfl ⟨by rw [HV.out], below_of_grown HB5.out hga (by omega) HB5.out.size⟩
  by_cases k6 : n.k = 6
  · have HV : Hid (Ev.eval row n = Ev.orV (Ev.nth vs 0) (Ev.nth vs 1)) := by show _ = _; rw [HVE.out]; unfold Ev.evalK; rw [if_neg k1, if_neg k2, if_neg k3, if_neg k4, if_neg k5, if_pos k6]
    rw [k6] at c0
    clear k1 k2 k3 k4 k5 k6 HVE c6 c1 c7
    go_wp2_with fail
    refine (HARG.out _ HBW.out W.heap.size gr _ h1 h2 0 (by decide)).mono ?_
    rintro e W4 ⟨rfl, hB4⟩
    have h1 := h1.below hB4
    have h2 := h2.below hB4
    have h4 := h4.below hB4
    have HB3 := Lib.hid (HB3.out.then hB4)
    have HBW := Lib.hid (HBW.out.then hB4)
    clear hB4
    have HO0 := Lib.hid (Ev.nth_ok HVO.out 0)
    generalize Ev.nth vs 0 = x0 at HV HO0 ⊢
    go_wp2_with fail
    refine (HARG.out _ HBW.out W.heap.size gr _ h1 h2 1 (by decide)).mono ?_
    rintro e W6 ⟨rfl, hB4⟩
    have h1 := h1.below hB4
    have h2 := h2.below hB4
    have h4 := h4.below hB4
    have HB3 := Lib.hid (HB3.out.then hB4)
    have HBW := Lib.hid (HBW.out.then hB4)
    clear hB4
    have HO1 := Lib.hid (Ev.nth_ok HVO.out 1)
    generalize Ev.nth vs 1 = x1 at HV HO1 ⊢
    go_wp2_with fail
    refine (vor_any _ x0 x1).mono ?_
    rintro e W5 ⟨rfl, hB5⟩
    have h4 := h4.below hB5
    have HB5 := Lib.hid (HB3.out.then hB5)
    clear hB5 HB3
    generalize Ev.orV x0 x1 = d at HV ⊢
    go_wp2_with (refine wpList_store_va rfl rfl (.tmp 4) (.tmp 55) rfl g rfl d rfl h4 ?_; intro Wa hba hga)
    exact ret_va hba rfl rfl rfl ⟨by rw [HV.out], below_of_grown HB5.out hga (by omega) HB5.out.size⟩
  by_cases k7 : n.k = 7
  · have HV : Hid (Ev.eval row n = Ev.cmpV n.op (Ev.nth vs 0) (Ev.nth vs 1)) := by show _ = _; rw [HVE.out]; unfold Ev.evalK; rw [if_neg k1, if_neg k2, if_neg k3, if_neg k4, if_neg k5, if_neg k6, if_pos k7]
    rw [k7] at c0
    clear k1 k2 k3 k4 k5 k6 k7 HVE c6 c7
    go_upto_region 17 with fail
    clear c0 c1
    have h1 := h1.drew
    have h2 := h2.drew
    have h4 := h4.drew
    have HB3 := Lib.hid (HB3.out.drewR)
    have HBW := Lib.hid (HBW.out.drewR)
    clear d0
    obtain ⟨-, e1, -, -, -, -, -, e7, -, -, -⟩ := Blk.c10 h1
    refine wp_region_plan (.take 0 (.take 1 (.take 2 (.take 4 (.run 3 [0, 1, 4] (.run 5 [0, 1] (.run 6 [] (.run 7 [] .fin)))))))) (by kernel_rfl) (by kernel_rfl) (by kernel_rfl) (by kernel_rfl) ?_
    clear e7
    repeat' (first | (refine hZ _ _ ?_; clear hZ) | (refine hZ _ ?_; clear hZ) | (refine hZ ?_; clear hZ) | rw [again_nil] | rw [walk_fin] | ((first | rw [walk_take] | rw [walk_run] | rw [again_cons]); intro Z hZ; simp only [sel, List.getElem?_toArray, List.getElem?_cons_zero, List.getElem?_cons_succ]; go_wp2_with (fail)))
    refine (HARG.out _ HBW.out W.heap.size gr _ h1 h2 0 (by decide)).mono ?_
    rintro e W4 ⟨rfl, hB4⟩
    have h1 := h1.below hB4
    have h2 := h2.below hB4
    have h4 := h4.below hB4
    have HB3 := Lib.hid (HB3.out.trans (hB4.mono HB3.out.size))
    have HBW := Lib.hid (HBW.out.trans (hB4.mono HBW.out.size))
    clear hB4 e1
    obtain ⟨-, e1, -, -, -, -, -, -, -, -, -⟩ := Blk.c10 h1
    have HO0 := Lib.hid (Ev.nth_ok HVO.out 0)
    generalize Ev.nth vs 0 = x0 at HV HO0 ⊢
    go_wp2_with fail
    repeat' (first | (refine hZ _ _ ?_; clear hZ) | (refine hZ _ ?_; clear hZ) | (refine hZ ?_; clear hZ) | rw [again_nil] | rw [walk_fin] | ((first | rw [walk_take] | rw [walk_run] | rw [again_cons]); intro Z hZ; simp only [sel, List.getElem?_toArray, List.getElem?_cons_zero, List.getElem?_cons_succ]; go_wp2_with (fail)))
    refine (HARG.out _ HBW.out W.heap.size gr _ h1 h2 1 (by decide)).mono ?_
    rintro e W6 ⟨rfl, hB4⟩
    have h1 := h1.below hB4
    have h4 := h4.below hB4
    have HB3 := Lib.hid (HB3.out.trans (hB4.mono HB3.out.size))
    clear hB4 e1
    obtain ⟨-, e1, -, -, -, -, -, -, -, -, -⟩ := Blk.c10 h1
    have HO1 := Lib.hid (Ev.nth_ok HVO.out 1)
    generalize Ev.nth vs 1 = x1 at HV HO1 ⊢
    go_wp2_with fail
    repeat' (first | (refine hZ _ _ ?_; clear hZ) | (refine hZ _ ?_; clear hZ) | (refine hZ ?_; clear hZ) | rw [again_nil] | rw [walk_fin] | ((first | rw [walk_take] | rw [walk_run] | rw [again_cons]); intro Z hZ; simp only [sel, List.getElem?_toArray, List.getElem?_cons_zero, List.getElem?_cons_succ]; go_wp2_with (fail)))
    refine (vcmp_any _ n.op x0 x1 HO0.out HO1.out).mono ?_
    rintro e W7 ⟨rfl, hB4⟩
    have h1 := h1.below hB4
    have h4 := h4.below hB4
    have HB3 := Lib.hid (HB3.out.trans (hB4.mono HB3.out.size))
    clear hB4 e1
    obtain ⟨-, e1, -, -, -, -, -, -, -, -, -⟩ := Blk.c10 h1
    generalize Ev.cmpV n.op x0 x1 = d at HV ⊢
    go_wp2_with fail
    repeat' (first | (refine hZ _ _ ?_; clear hZ) | (refine hZ _ ?_; clear hZ) | (refine hZ ?_; clear hZ) | rw [again_nil] | rw [walk_fin] | ((first | rw [walk_take] | rw [walk_run] | rw [again_cons]); intro Z hZ; simp only [sel, List.getElem?_toArray, List.getElem?_cons_zero, List.getElem?_cons_succ]; go_wp2_with (refine wpList_store_va rfl rfl (.tmp 4) (.tmp 64) rfl g rfl d rfl h4 ?_; intro Wa hba hga)))
    go_wp2_with fail
    exact ret_va hba rfl rfl rfl ⟨by rw [HV.out], below_of_grown HB3.out hga (by omega) HB3.out.size⟩
  by_cases k8 : n.k = 8
  · have HV : Hid (Ev.eval row n = Ev.arithV n.op (Ev.nth vs 0) (Ev.nth vs 1)) := by show _ = _; rw [HVE.out]; unfold Ev.evalK; rw [if_neg k1, if_neg k2, if_neg k3, if_neg k4, if_neg k5, if_neg k6, if_neg k7, if_pos k8]
    rw [k8] at c0
    clear k1 k2 k3 k4 k5 k6 k7 k8 HVE c6 c7
    go_upto_region 19 with fail
    clear c0 c1
    have h1 := h1.drew
    have h2 := h2.drew
    have h4 := h4.drew
    have HB3 := Lib.hid (HB3.out.drewR)
    have HBW := Lib.hid (HBW.out.drewR)
    clear d0
    obtain ⟨-, e1, -, -, -, -, -, e7, -, -, -⟩ := Blk.c10 h1
    refine wp_region_plan (.take 0 (.take 1 (.take 2 (.take 4 (.run 3 [0, 1, 4] (.run 5 [0, 1] (.run 6 [] (.run 7 [] .fin)))))))) (by kernel_rfl) (by kernel_rfl) (by kernel_rfl) (by kernel_rfl) ?_
    clear e7
    repeat' (first | (refine hZ _ _ ?_; clear hZ) | (refine hZ _ ?_; clear hZ) | (refine hZ ?_; clear hZ) | rw [again_nil] | rw [walk_fin] | ((first | rw [walk_take] | rw [walk_run] | rw [again_cons]); intro Z hZ; simp only [sel, List.getElem?_toArray, List.getElem?_cons_zero, List.getElem?_cons_succ]; go_wp2_with (fail)))
    refine (HARG.out _ HBW.out W.heap.size gr _ h1 h2 0 (by decide)).mono ?_
    rintro e W4 ⟨rfl, hB4⟩
    have h1 := h1.below hB4
    have h2 := h2.below hB4
    have h4 := h4.below hB4
    have HB3 := Lib.hid (HB3.out.trans (hB4.mono HB3.out.size))
    have HBW := Lib.hid (HBW.out.trans (hB4.mono HBW.out.size))
    clear hB4 e1
    obtain ⟨-, e1, -, -, -, -, -, -, -, -, -⟩ := Blk.c10 h1
    have HO0 := Lib.hid (Ev.nth_ok HVO.out 0)
    generalize Ev.nth vs 0 = x0 at HV HO0 ⊢
    go_wp2_with fail
    repeat' (first | (refine hZ _ _ ?_; clear hZ) | (refine hZ _ ?_; clear hZ) | (refine hZ ?_; clear hZ) | rw [again_nil] | rw [walk_fin] | ((first | rw [walk_take] | rw [walk_run] | rw [again_cons]); intro Z hZ; simp only [sel, List.getElem?_toArray, List.getElem?_cons_zero, List.getElem?_cons_succ]; go_wp2_with (fail)))
    refine (HARG.out _ HBW.out W.heap.size gr _ h1 h2 1 (by decide)).mono ?_
    rintro e W6 ⟨rfl, hB4⟩
    have h1 := h1.below hB4
    have h4 := h4.below hB4
    have HB3 := Lib.hid (HB3.out.trans (hB4.mono HB3.out.size))
    clear hB4 e1
    obtain ⟨-, e1, -, -, -, -, -, -, -, -, -⟩ := Blk.c10 h1
    have HO1 := Lib.hid (Ev.nth_ok HVO.out 1)
    generalize Ev.nth vs 1 = x1 at HV HO1 ⊢
    go_wp2_with fail
    repeat' (first | (refine hZ _ _ ?_; clear hZ) | (refine hZ _ ?_; clear hZ) | (refine hZ ?_; clear hZ) | rw [again_nil] | rw [walk_fin] | ((first | rw [walk_take] | rw [walk_run] | rw [again_cons]); intro Z hZ; simp only [sel, List.getElem?_toArray, List.getElem?_cons_zero, List.getElem?_cons_succ]; go_wp2_with (fail)))
    refine (varith_any _ n.op x0 x1 HO0.out HO1.out).mono ?_
    rintro e W7 ⟨rfl, hB4⟩
    have h1 := h1.below hB4
    have h4 := h4.below hB4
    have HB3 := Lib.hid (HB3.out.trans (hB4.mono HB3.out.size))
    clear hB4 e1
    obtain ⟨-, e1, -, -, -, -, -, -, -, -, -⟩ := Blk.c10 h1
    generalize Ev.arithV n.op x0 x1 = d at HV ⊢
    go_wp2_with fail
    repeat' (first | (refine hZ _ _ ?_; clear hZ) | (refine hZ _ ?_; clear hZ) | (refine hZ ?_; clear hZ) | rw [again_nil] | rw [walk_fin] | ((first | rw [walk_take] | rw [walk_run] | rw [again_cons]); intro Z hZ; simp only [sel, List.getElem?_toArray, List.getElem?_cons_zero, List.getElem?_cons_succ]; go_wp2_with (refine wpList_store_va rfl rfl (.tmp 4) (.tmp 73) rfl g rfl d rfl h4 ?_; intro Wa hba hga)))
    go_wp2_with fail
    exact ret_va hba rfl rfl rfl ⟨by rw [HV.out], below_of_grown HB3.out hga (by omega) HB3.out.size⟩
  by_cases k9 : n.k = 9
  · have HV : Hid (Ev.eval row n = Ev.boolV (((Ev.nth vs 0).k == 0) != n.no)) := by show _ = _; rw [HVE.out]; unfold Ev.evalK; rw [if_neg k1, if_neg k2, if_neg k3, if_neg k4, if_neg k5, if_neg k6, if_neg k7, if_neg k8, if_pos k9]
    rw [k9] at c0
    clear k1 k2 k3 k4 k5 k6 k7 k8 k9 HVE c6 c1
    go_upto_region 21 with fail
    clear c0 c7
    have h1 := h1.drew
    have h2 := h2.drew
    have h4 := h4.drew
    have HB3 := Lib.hid (HB3.out.drewR)
    have HBW := Lib.hid (HBW.out.drewR)
    clear d0
    obtain ⟨-, e1, -, -, -, -, -, e7, -, -, -⟩ := Blk.c10 h1
    refine wp_region_plan (.take 0 (.take 4 (.take 5 (.run 1 [4, 5] (.take 2 (.take 3 (.take 6 (.run 7 [] (.run 8 [] .fin))))))))) (by kernel_rfl) (by kernel_rfl) (by kernel_rfl) (by kernel_rfl) ?_
    clear e1
    repeat' (first | (refine hZ _ _ ?_; clear hZ) | (refine hZ _ ?_; clear hZ) | (refine hZ ?_; clear hZ) | rw [again_nil] | rw [walk_fin] | ((first | rw [walk_take] | rw [walk_run] | rw [again_cons]); intro Z hZ; simp only [sel, List.getElem?_toArray, List.getElem?_cons_zero, List.getElem?_cons_succ]; go_wp2_with (fail)))
    refine (HARG.out _ HBW.out W.heap.size gr _ h1 h2 0 (by decide)).mono ?_
    rintro e W4 ⟨rfl, hB4⟩
    have h1 := h1.below hB4
    have h4 := h4.below hB4
    have HB3 := Lib.hid (HB3.out.trans (hB4.mono HB3.out.size))
    clear hB4 e7
    obtain ⟨-, -, -, -, -, -, -, e7, -, -, -⟩ := Blk.c10 h1
    generalize Ev.nth vs 0 = x0 at HV ⊢
    have hfd := va_field0 x0
    obtain ⟨kb, hkb⟩ : ∃ kb, (x0.k == 0) = kb := ⟨_, rfl⟩
    rw [hkb] at HV
    go_wp2_with fail
    repeat' (first | (refine hZ _ _ ?_; clear hZ) | (refine hZ _ ?_; clear hZ) | (refine hZ ?_; clear hZ) | rw [again_nil] | rw [walk_fin] | ((first | rw [walk_take] | rw [walk_run] | rw [again_cons]); intro Z hZ; simp only [sel, List.getElem?_toArray, List.getElem?_cons_zero, List.getElem?_cons_succ]; go_wp2_with (fail)))
    refine (ofbool_any _ _).mono ?_
    rintro e W7 ⟨rfl, hB4⟩
    have h1 := h1.below hB4
    have h4 := h4.below hB4
    have HB3 := Lib.hid (HB3.out.trans (hB4.mono HB3.out.size))
    clear hB4 e7
    obtain ⟨-, -, -, -, -, -, -, e7, -, -, -⟩ := Blk.c10 h1
    rw [boolV_v]
    generalize hd : Ev.boolV _ = d
    have HD : Hid (Ev.eval row n = d) := by show _ = _; rw [HV.out, ← hd]; rfl
    clear hd
    go_wp2_with fail
    repeat' (first | (refine hZ _ _ ?_; clear hZ) | (refine hZ _ ?_; clear hZ) | (refine hZ ?_; clear hZ) | rw [again_nil] | rw [walk_fin] | ((first | rw [walk_take] | rw [walk_run] | rw [again_cons]); intro Z hZ; simp only [sel, List.getElem?_toArray, List.getElem?_cons_zero, List.getElem?_cons_succ]; go_wp2_with (refine wpList_store_va rfl rfl (.tmp 4) (.tmp 83) rfl g rfl d rfl h4 ?_; intro Wa hba hga)))
    go_wp2_with fail
    exact ret_va hba rfl rfl rfl ⟨by rw [HD.out], below_of_grown HB3.out hga (by omega) HB3.out.size⟩
  · have HV : Hid (Ev.eval row n = Key.nul) := by show _ = _; rw [HVE.out]; unfold Ev.evalK; rw [if_neg k1, if_neg k2, if_neg k3, if_neg k4, if_neg k5, if_neg k6, if_neg k7, if_neg k8, if_neg k9]
    have b1 : (n.k == 1) = false := by simp [k1]
    have b2 : (n.k == 2) = false := by simp [k2]
    have b3 : (n.k == 3) = false := by simp [k3]
    have b4 : (n.k == 4) = false := by simp [k4]
    have b5 : (n.k == 5) = false := by simp [k5]
    have b6 : (n.k == 6) = false := by simp [k6]
    have b7 : (n.k == 7) = false := by simp [k7]
    have b8 : (n.k == 8) = false := by simp [k8]
    have b9 : (n.k == 9) = false := by simp [k9]
    clear k1 k2 k3 k4 k5 k6 k7 k8 k9 HVE c6 c7 c1
    go_wp2_with (refine wpList_store_va rfl rfl (.tmp 4) (.tmp 84) rfl g rfl Key.nul rfl h4 ?_; intro Wa hba hga)
    exact ret_va hba rfl rfl rfl ⟨by rw [HV.out], below_of_grown HB3.out hga (by omega) HB3.out.size⟩
end Go.Proofs.YtpahkaffknnjhaaGreatDoor
end

section
namespace Go.Proofs.YtpahkaffknnjhaaGreatDoor
set_option linter.unusedSimpArgs false
set_option linter.unusedVariables false
open Go.RowKit
namespace Ev
theorem Dv.cc {s v : Va} (h : Dv s v) : Key.clean v = Key.clean s := by rw [← h.eq, clean_clean]
theorem Dv.k {s v : Va} (h : Dv s v) : v.k = s.k := by
  rw [← h.eq]
  unfold Key.clean Key.cleanF
  rcases h.cl.kind with e | e | e | e | e <;> simp [e, Key.nul]
def atV (row : List Va) (i : Int) : Va := if 0 ≤ i ∧ i < (row.length : Int) then Key.clean (nth row i.toNat) else Key.nul
end Ev
theorem RetD.of {w : World} {s s' : Va} {e : Ending} {w' : World} (h : RetD w s e w') (hs : s = s') : RetD w s' e w' := hs ▸ h
set_option maxRecDepth 20000 in
set_option maxHeartbeats 4000000 in
theorem rat_any (w : World) (R : Option Addr) (rc : Nat) (row : List Va) (i : Int) (hrow : ERow eVa w R row) (hok : ∀ v ∈ row, v.ok) (hlen : row.length ≤ 9223372036854775807) :
    Calls Tryz.prog 35 #[.slice R row.length rc, .int .i64 i] w (RetD w (Ev.atV row i)) := by
  have HROW := Lib.hid hrow
  have HOK := Lib.hid hok
  clear hrow hok
  have HV := Lib.hid (show Ev.atV row i = _ from rfl)
  by_cases h0 : 0 ≤ i
  · obtain ⟨j, rfl⟩ := Int.eq_ofNat_of_zero_le h0
    clear h0
    by_cases hlt : j < row.length
    · have hji : (j : Int) < (row.length : Int) := by omega
      have HVJ : Hid (Ev.atV row (j : Int) = Key.clean row[j]) := by
        show _ = _
        unfold Ev.atV Ev.nth
        rw [if_pos ⟨by omega, hji⟩]
        simp [List.getD, hlt]
      clear HV
      have HOJ := Lib.hid (HOK.out row[j] (List.getElem_mem hlt))
      go_enter Tryz.func35, Tryz.ntmps35
      go_upto_region 1 with (refine wpList_alloc_va rfl rfl ?_; intro W1 hb1 hz1 hB1)
      have HRW := Lib.hid (HROW.out.below hB1)
      have HB1 := Lib.hid hB1
      clear hB1
      obtain ⟨bb, oo, rfl, hbl, -⟩ := HRW.out.at_ hlt
      clear hbl
      go_wp2_with (refine wpList_load_va_at rfl (.tmp 16) rfl HRW.out hlt rfl ?_)
      refine (dclean_any _ row[j] HOJ.out).mono ?_
      rintro e W2 ⟨rfl, hB2⟩
      have hb2 := hb1.below hB2
      have HB2 := Lib.hid (HB1.out.then hB2)
      have HDV := Lib.hid (Ev.dv_clean HOJ.out)
      clear hB2 hb1
      generalize Key.dclean row[j] = d at HDV ⊢
      go_wp2_with (refine wpList_store_va rfl rfl (.tmp 4) (.tmp 18) rfl w.heap.size rfl d rfl hb2 ?_; intro W4 hb4 hg4)
      exact ret_va hb4 rfl rfl rfl ⟨d, rfl, by rw [HVJ.out]; exact HDV.out, below_of_grown HB2.out hg4 (Nat.le_refl _) HB2.out.size⟩
    · have hji : ¬ (j : Int) < (row.length : Int) := by omega
      have HVJ : Hid (Ev.atV row (j : Int) = Key.nul) := by show _ = _; unfold Ev.atV; rw [if_neg (fun h => hji h.2)]
      clear HV
      go_enter Tryz.func35, Tryz.ntmps35
      go_wp2_with (first | (refine wpList_alloc_va rfl rfl ?_; intro W1 hb1 hz1 hB1) | (refine wpList_store_va rfl rfl (.tmp 4) (.tmp 13) rfl w.heap.size rfl Key.nul rfl hb1 ?_; intro W4 hb4 hg4))
      exact ret_va hb4 rfl rfl rfl ⟨Key.nul, rfl, by rw [HVJ.out]; exact Ev.dv_nul, below_of_grown hB1 hg4 (Nat.le_refl _) (by omega)⟩
  · have hneg : i < 0 := by omega
    have HVJ : Hid (Ev.atV row i = Key.nul) := by show _ = _; unfold Ev.atV; rw [if_neg (fun h => h0 h.1)]
    clear HV h0
    go_enter Tryz.func35, Tryz.ntmps35
    go_wp2_with (first | (refine wpList_alloc_va rfl rfl ?_; intro W1 hb1 hz1 hB1) | (refine wpList_store_va rfl rfl (.tmp 4) (.tmp 13) rfl w.heap.size rfl Key.nul rfl hb1 ?_; intro W4 hb4 hg4))
    exact ret_va hb4 rfl rfl rfl ⟨Key.nul, rfl, by rw [HVJ.out]; exact Ev.dv_nul, below_of_grown hB1 hg4 (Nat.le_refl _) (by omega)⟩
def DEvalsTo (w : World) (R : Option Addr) (rc : Nat) (row : List Va) (n : Nd) : Prop :=
  ∀ W, Below w.heap.size w W → Calls Tryz.prog 30 #[n.v, .slice R row.length rc] W (RetD W (Ev.eval row n))
set_option maxRecDepth 20000 in
set_option maxHeartbeats 4000000 in
theorem rarg_any (w : World) (R : Option Addr) (rc : Nat) (row : List Va) (n : Nd) (hr : ERow eNd w n.a n.args) (hc : n.args.length ≤ n.c) (hm : n.c ≤ maxLen) (ih : ∀ m ∈ n.args, DEvalsTo w R rc row m)
    (W : World) (hB : Below w.heap.size w W) (i : Nat) (hi : i < 2) :
    Calls Tryz.prog 47 #[n.v, .int .i64 i, .slice R row.length rc] W (RetD W (Ev.nth (Ev.evalL row n.args) i)) := by
  have HV := Lib.hid (Ev.evalL_get row n.args i)
  have HR := Lib.hid (hr.below hB)
  have HIH := Lib.hid ih
  have HBW := Lib.hid hB
  clear hr ih hB
  have hcm : n.args.length ≤ 9223372036854775807 := by unfold maxLen at hm; omega
  go_enter Tryz.func47, Tryz.ntmps47
  go_upto_region 1 with (first | (refine wpList_box_nd rfl (.tmp 0) rfl n rfl ?_; intro W0 hb0 hz0 hB0) | (refine wpList_alloc_va rfl rfl ?_; intro W1 hb1 hz1 hB1))
  have hn1 := hb0.below hB1
  have HB1 := Lib.hid (hB0.then hB1)
  have HR1 := Lib.hid (HR.out.below HB1.out)
  have hg : W.heap.size < W0.heap.size := by omega
  clear hb0 hB0 hB1 HR hz0 hz1
  generalize W0.heap.size = g at hb1 hg ⊢
  obtain ⟨-, -, -, -, -, -, -, -, -, c9, -⟩ := Blk.c10 hn1
  by_cases hlt : i < n.args.length
  · have hii : ¬ (n.args.length : Int) ≤ (i : Int) := by omega
    have hij : (i : Int) < (n.args.length : Int) := by omega
    have hid : decide (n.args.length ≤ i) = false := by simp [hlt]
    have HV2 : Hid (Ev.nth (Ev.evalL row n.args) i = Ev.eval row n.args[i]) := by show _ = _; rw [HV.out, dif_pos hlt]
    have HE := Lib.hid (HIH.out n.args[i] (List.getElem_mem hlt))
    obtain ⟨bb, oo, ha, hbl, -⟩ := HR1.out.at_ hlt
    have HR2 : Hid (ERow eNd W1 (some ⟨bb, oo, none⟩) n.args) := by show ERow _ _ _ _; rw [← ha]; exact HR1.out
    rw [ha] at c9
    clear ha hbl
    go_wp2_with (refine wpList_load_nd_at rfl (.tmp 16) rfl HR2.out hlt rfl ?_)
    refine (HE.out _ (HBW.out.then HB1.out)).mono ?_
    rintro e W2 ⟨v, rfl, hdv, hB2⟩
    have hb2 := hb1.below hB2
    have HB2 := Lib.hid (HB1.out.then hB2)
    have HDV := Lib.hid hdv
    clear hB2 hb1 hdv c9 hn1
    go_wp2_with (refine wpList_store_va rfl rfl (.tmp 6) (.tmp 19) rfl g rfl v rfl hb2 ?_; intro W4 hb4 hg4)
    exact ret_va hb4 rfl rfl rfl ⟨v, rfl, by rw [HV2.out]; exact HDV.out, below_of_grown HB2.out hg4 (by omega) HB2.out.size⟩
  · have hii : (n.args.length : Int) ≤ (i : Int) := by omega
    have hid : decide (n.args.length ≤ i) = true := by simp; omega
    have HV2 : Hid (Ev.nth (Ev.evalL row n.args) i = Key.nul) := by show _ = _; rw [HV.out, dif_neg hlt]
    go_wp2_with (refine wpList_store_va rfl rfl (.tmp 6) (.tmp 12) rfl g rfl Key.nul rfl hb1 ?_; intro W4 hb4 hg4)
    exact ret_va hb4 rfl rfl rfl ⟨Key.nul, rfl, by rw [HV2.out]; exact Ev.dv_nul, below_of_grown HB1.out hg4 (by omega) HB1.out.size⟩
set_option maxRecDepth 100000 in
set_option maxHeartbeats 16000000 in
theorem reval_any (w : World) (R : Option Addr) (rc : Nat) (row : List Va) (hrow : ERow eVa w R row) (hok : ∀ v ∈ row, v.ok) (hlen : row.length ≤ 9223372036854775807) (n : Nd) (hn : NodeIn w n) : DEvalsTo w R rc row n := by
  have HROW := Lib.hid hrow
  have HOK := Lib.hid hok
  have HLEN := Lib.hid hlen
  clear hrow hok hlen
  induction hn with
  | @mk n hr hin hlit hls hk hat hc hm ih =>
  have HARG := Lib.hid (fun W hB i hi => rarg_any w R rc row n hr hc hm ih W hB i hi)
  have HLIT := Lib.hid hlit
  have HVE := Lib.hid (Ev.eval_eq row n)
  clear hr hin hlit hls hk hat hc hm ih
  intro W hB
  have HB := Lib.hid hB
  clear hB
  generalize Ev.evalL row n.args = vs at HARG HVE
  go_enter Tryz.func30, Tryz.ntmps30
  go_upto_region 1 with (first | (refine wpList_box_nd rfl (.tmp 0) rfl n rfl ?_; intro W1 hb1 hz1 hB1) | (refine wpList_alloc_va rfl rfl ?_; intro W3 hb3 hz3 hB3))
  have h1 := hb1.below hB3
  have h4 := hb3
  have HB3 := Lib.hid (hB1.then hB3)
  have hg1 : W.heap.size < W1.heap.size := by omega
  clear hb1 hB1 hb3 hB3 hz3 hz1
  generalize W1.heap.size = g at h4 hg1 ⊢
  clear W1
  obtain ⟨c0, -, -, -, -, -, c6, c7, -, -, -⟩ := Blk.c10 h1
  have HBW := Lib.hid (HB.out.then HB3.out)
  clear HB
  by_cases k1 : n.k = 1
  · have HV : Hid (Ev.eval row n = Key.clean n.lit) := by show _ = _; rw [HVE.out]; unfold Ev.evalK; rw [if_pos k1]
    rw [k1] at c0
    clear k1 HVE
    go_wp2_with (refine wpList_load_lit rfl (.tmp 10) rfl W.heap.size rfl h1 ?_)
    refine (dclean_any _ n.lit HLIT.out).mono ?_
    rintro e W5 ⟨rfl, hB5⟩
    have HDV := Lib.hid (Ev.dv_clean HLIT.out)
    generalize Key.dclean n.lit = d at HDV ⊢
    have h4 := h4.below hB5
    have HB5 := Lib.hid (HB3.out.then hB5)
    clear hB5 HB3
    go_wp2_with (refine wpList_store_va rfl rfl (.tmp 4) (.tmp 12) rfl g rfl d rfl h4 ?_; intro Wa hba hga)
    exact ret_va hba rfl rfl rfl ⟨d, rfl, by rw [HV.out]; exact HDV.out, below_of_grown HB5.out hga (by omega) HB5.out.size⟩
  by_cases k2 : n.k = 2
  · have HV : Hid (Ev.eval row n = Ev.atV row n.at_) := by show _ = _; rw [HVE.out]; unfold Ev.evalK; rw [if_neg k1, if_pos k2]; rfl
    rw [k2] at c0
    clear k1 k2 HVE
    go_wp2_with fail
    refine (rat_any _ R rc row n.at_ (HROW.out.below HBW.out) HOK.out HLEN.out).mono ?_
    rintro e W5 ⟨d, rfl, hdv, hB5⟩
    have HDV := Lib.hid hdv
    clear hdv
    have h4 := h4.below hB5
    have HB5 := Lib.hid (HB3.out.then hB5)
    clear hB5 HB3
    go_wp2_with (refine wpList_store_va rfl rfl (.tmp 4) (.tmp 18) rfl g rfl d rfl h4 ?_; intro Wa hba hga)
    exact ret_va hba rfl rfl rfl ⟨d, rfl, by rw [HV.out]; exact HDV.out, below_of_grown HB5.out hga (by omega) HB5.out.size⟩
  by_cases k3 : n.k = 3
  · have HV : Hid (Ev.eval row n = Ev.negV (Ev.nth vs 0)) := by show _ = _; rw [HVE.out]; unfold Ev.evalK; rw [if_neg k1, if_neg k2, if_pos k3]
    rw [k3] at c0
    clear k1 k2 k3 HVE c6 c7
    go_wp2_with (refine wpList_load_nd rfl (.tmp 2) rfl W.heap.size rfl h1 ?_)
    refine (HARG.out _ HBW.out 0 (by decide)).mono ?_
    rintro e W4 ⟨a0, rfl, hd0, hB4⟩
    have h1 := h1.below hB4
    have h4 := h4.below hB4
    have HB3 := Lib.hid (HB3.out.trans (hB4.mono HB3.out.size))
    have HBW := Lib.hid (HBW.out.trans (hB4.mono HBW.out.size))
    have HD0 := Lib.hid hd0
    clear hB4 hd0
    go_wp2_with fail
    refine (rneg_any _ a0 HD0.out.ok).mono ?_
    rintro e W5 ⟨d, rfl, hdv, hB5⟩
    have HDV := Lib.hid hdv
    rw [Ev.neg_of HD0.out.cc] at HDV
    clear hdv
    have h4 := h4.below hB5
    have HB5 := Lib.hid (HB3.out.then hB5)
    clear hB5 HB3
    go_wp2_with (refine wpList_store_va rfl rfl (.tmp 4) (.tmp 24) rfl g rfl d rfl h4 ?_; intro Wa hba hga)
    exact ret_va hba rfl rfl rfl ⟨d, rfl, by rw [HV.out]; exact HDV.out, below_of_grown HB5.out hga (by omega) HB5.out.size⟩
  by_cases k4 : n.k = 4
  · have HV : Hid (Ev.eval row n = Ev.notV (Ev.nth vs 0)) := by show _ = _; rw [HVE.out]; unfold Ev.evalK; rw [if_neg k1, if_neg k2, if_neg k3, if_pos k4]
    rw [k4] at c0
    clear k1 k2 k3 k4 HVE c6 c7
    go_wp2_with (refine wpList_load_nd rfl (.tmp 2) rfl W.heap.size rfl h1 ?_)
    refine (HARG.out _ HBW.out 0 (by decide)).mono ?_
    rintro e W4 ⟨a0, rfl, hd0, hB4⟩
    have h1 := h1.below hB4
    have h4 := h4.below hB4
    have HB3 := Lib.hid (HB3.out.trans (hB4.mono HB3.out.size))
    have HBW := Lib.hid (HBW.out.trans (hB4.mono HBW.out.size))
    have HD0 := Lib.hid hd0
    clear hB4 hd0
    go_wp2_with fail
    refine (rnot_any _ a0).mono ?_
    rintro e W5 ⟨rfl, hB5⟩
    have HDV := Lib.hid (Ev.dv_not a0)
    rw [Ev.not_of HD0.out.cc] at HDV ⊢
    generalize hd : Ev.notV (Ev.nth vs 0) = d at HDV HV ⊢
    clear hd
    have h4 := h4.below hB5
    have HB5 := Lib.hid (HB3.out.then hB5)
    clear hB5 HB3
    go_wp2_with (refine wpList_store_va rfl rfl (.tmp 4) (.tmp 30) rfl g rfl d rfl h4 ?_; intro Wa hba hga)
    exact ret_va hba rfl rfl rfl ⟨d, rfl, by rw [HV.out]; exact HDV.out, below_of_grown HB5.out hga (by omega) HB5.out.size⟩
  by_cases k5 : n.k = 5
  · have HV : Hid (Ev.eval row n = Ev.andV (Ev.nth vs 0) (Ev.nth vs 1)) := by show _ = _; rw [HVE.out]; unfold Ev.evalK; rw [if_neg k1, if_neg k2, if_neg k3, if_neg k4, if_pos k5]
    rw [k5] at c0
    clear k1 k2 k3 k4 k5 HVE c6 c7
    go_upto_region 11 with fail
    clear c0
    have h1 := h1.drew
    have h4 := h4.drew
    have HB3 := Lib.hid (HB3.out.drewR)
    have HBW := Lib.hid (HBW.out.drewR)
    refine wp_region_plan (.take 0 (.take 1 (.take 3 (.take 4 (.run 2 [3, 4] (.run 5 [] (.run 6 [] (.run 7 [] .fin)))))))) (by kernel_rfl) (by kernel_rfl) (by kernel_rfl) (by kernel_rfl) ?_
    repeat' (first | (refine hZ _ _ ?_; clear hZ) | (refine hZ _ ?_; clear hZ) | (refine hZ ?_; clear hZ) | rw [again_nil] | rw [walk_fin] | ((first | rw [walk_take] | rw [walk_run] | rw [again_cons]); intro Z hZ; simp only [sel, List.getElem?_toArray, List.getElem?_cons_zero, List.getElem?_cons_succ]; go_wp2_with (refine wpList_load_nd rfl (.tmp 2) rfl W.heap.size rfl h1 ?_)))
    refine (HARG.out _ HBW.out 0 (by decide)).mono ?_
    rintro e W4 ⟨a0, rfl, hd0, hB4⟩
    have h1 := h1.below hB4
    have h4 := h4.below hB4
    have HB3 := Lib.hid (HB3.out.trans (hB4.mono HB3.out.size))
    have HBW := Lib.hid (HBW.out.trans (hB4.mono HBW.out.size))
    have HD0 := Lib.hid hd0
    clear hB4 hd0
    go_wp2_with fail
    repeat' (first | (refine hZ _ _ ?_; clear hZ) | (refine hZ _ ?_; clear hZ) | (refine hZ ?_; clear hZ) | rw [again_nil] | rw [walk_fin] | ((first | rw [walk_take] | rw [walk_run] | rw [again_cons]); intro Z hZ; simp only [sel, List.getElem?_toArray, List.getElem?_cons_zero, List.getElem?_cons_succ]; go_wp2_with (refine wpList_load_nd rfl (.tmp 2) rfl W.heap.size rfl h1 ?_)))
    refine (HARG.out _ HBW.out 1 (by decide)).mono ?_
    rintro e W6 ⟨a1, rfl, hd1, hB4⟩
    have h1 := h1.below hB4
    have h4 := h4.below hB4
    have HB3 := Lib.hid (HB3.out.trans (hB4.mono HB3.out.size))
    have HD1 := Lib.hid hd1
    clear hB4 hd1
    go_wp2_with fail
    repeat' (first | (refine hZ _ _ ?_; clear hZ) | (refine hZ _ ?_; clear hZ) | (refine hZ ?_; clear hZ) | rw [again_nil] | rw [walk_fin] | ((first | rw [walk_take] | rw [walk_run] | rw [again_cons]); intro Z hZ; simp only [sel, List.getElem?_toArray, List.getElem?_cons_zero, List.getElem?_cons_succ]; go_wp2_with (refine wpList_load_nd rfl (.tmp 2) rfl W.heap.size rfl h1 ?_)))
    refine (rand_any _ a0 a1).mono ?_
    rintro e W5 ⟨rfl, hB5⟩
    have HDV := Lib.hid (Ev.dv_and a0 a1)
    rw [Ev.and_of HD0.out.cc HD1.out.cc] at HDV ⊢
    generalize hd : Ev.andV (Ev.nth vs 0) (Ev.nth vs 1) = d at HDV HV ⊢
    clear hd
    have h1 := h1.below hB5
    have h4 := h4.below hB5
    have HB5 := Lib.hid (HB3.out.trans (hB5.mono HB3.out.size))
    clear hB5 HB3
    go_wp2_with fail
    repeat' (first | (refine hZ _ _ ?_; clear hZ) | (refine hZ _ ?_; clear hZ) | (refine hZ ?_; clear hZ) | rw [again_nil] | rw [walk_fin] | ((first | rw [walk_take] | rw [walk_run] | rw [again_cons]); intro Z hZ; simp only [sel, List.getElem?_toArray, List.getElem?_cons_zero, List.getElem?_cons_succ]; go_wp2_with (first | (refine wpList_load_nd rfl (.tmp 2) rfl W.heap.size rfl h1 ?_) | (refine wpList_store_va rfl rfl (.tmp 4) (.tmp 39) rfl g rfl d rfl h4 ?_; intro Wa hba hga))))
    go_wp2_with fail
    exact ret_va hba rfl rfl rfl ⟨d, rfl, by rw [HV.out]; exact HDV.out, below_of_grown HB5.out hga (by omega) HB5.out.size⟩
  by_cases k6 : n.k = 6
  · have HV : Hid (Ev.eval row n = Ev.orV (Ev.nth vs 0) (Ev.nth vs 1)) := by show _ = _; rw [HVE.out]; unfold Ev.evalK; rw [if_neg k1, if_neg k2, if_neg k3, if_neg k4, if_neg k5, if_pos k6]
    rw [k6] at c0
    clear k1 k2 k3 k4 k5 k6 HVE c6 c7
    go_upto_region 13 with fail
    clear c0
    have h1 := h1.drew
    have h4 := h4.drew
    have HB3 := Lib.hid (HB3.out.drewR)
    have HBW := Lib.hid (HBW.out.drewR)
    refine wp_region_plan (.take 0 (.take 1 (.take 3 (.take 4 (.run 2 [3, 4] (.run 5 [] (.run 6 [] (.run 7 [] .fin)))))))) (by kernel_rfl) (by kernel_rfl) (by kernel_rfl) (by kernel_rfl) ?_
    repeat' (first | (refine hZ _ _ ?_; clear hZ) | (refine hZ _ ?_; clear hZ) | (refine hZ ?_; clear hZ) | rw [again_nil] | rw [walk_fin] | ((first | rw [walk_take] | rw [walk_run] | rw [again_cons]); intro Z hZ; simp only [sel, List.getElem?_toArray, List.getElem?_cons_zero, List.getElem?_cons_succ]; go_wp2_with (refine wpList_load_nd rfl (.tmp 2) rfl W.heap.size rfl h1 ?_)))
    refine (HARG.out _ HBW.out 0 (by decide)).mono ?_
    rintro e W4 ⟨a0, rfl, hd0, hB4⟩
    have h1 := h1.below hB4
    have h4 := h4.below hB4
    have HB3 := Lib.hid (HB3.out.trans (hB4.mono HB3.out.size))
    have HBW := Lib.hid (HBW.out.trans (hB4.mono HBW.out.size))
    have HD0 := Lib.hid hd0
    clear hB4 hd0
    go_wp2_with fail
    repeat' (first | (refine hZ _ _ ?_; clear hZ) | (refine hZ _ ?_; clear hZ) | (refine hZ ?_; clear hZ) | rw [again_nil] | rw [walk_fin] | ((first | rw [walk_take] | rw [walk_run] | rw [again_cons]); intro Z hZ; simp only [sel, List.getElem?_toArray, List.getElem?_cons_zero, List.getElem?_cons_succ]; go_wp2_with (refine wpList_load_nd rfl (.tmp 2) rfl W.heap.size rfl h1 ?_)))
    refine (HARG.out _ HBW.out 1 (by decide)).mono ?_
    rintro e W6 ⟨a1, rfl, hd1, hB4⟩
    have h1 := h1.below hB4
    have h4 := h4.below hB4
    have HB3 := Lib.hid (HB3.out.trans (hB4.mono HB3.out.size))
    have HD1 := Lib.hid hd1
    clear hB4 hd1
    go_wp2_with fail
    repeat' (first | (refine hZ _ _ ?_; clear hZ) | (refine hZ _ ?_; clear hZ) | (refine hZ ?_; clear hZ) | rw [again_nil] | rw [walk_fin] | ((first | rw [walk_take] | rw [walk_run] | rw [again_cons]); intro Z hZ; simp only [sel, List.getElem?_toArray, List.getElem?_cons_zero, List.getElem?_cons_succ]; go_wp2_with (refine wpList_load_nd rfl (.tmp 2) rfl W.heap.size rfl h1 ?_)))
    refine (ror_any _ a0 a1).mono ?_
    rintro e W5 ⟨rfl, hB5⟩
    have HDV := Lib.hid (Ev.dv_or a0 a1)
    rw [Ev.or_of HD0.out.cc HD1.out.cc] at HDV ⊢
    generalize hd : Ev.orV (Ev.nth vs 0) (Ev.nth vs 1) = d at HDV HV ⊢
    clear hd
    have h1 := h1.below hB5
    have h4 := h4.below hB5
    have HB5 := Lib.hid (HB3.out.trans (hB5.mono HB3.out.size))
    clear hB5 HB3
    go_wp2_with fail
    repeat' (first | (refine hZ _ _ ?_; clear hZ) | (refine hZ _ ?_; clear hZ) | (refine hZ ?_; clear hZ) | rw [again_nil] | rw [walk_fin] | ((first | rw [walk_take] | rw [walk_run] | rw [again_cons]); intro Z hZ; simp only [sel, List.getElem?_toArray, List.getElem?_cons_zero, List.getElem?_cons_succ]; go_wp2_with (first | (refine wpList_load_nd rfl (.tmp 2) rfl W.heap.size rfl h1 ?_) | (refine wpList_store_va rfl rfl (.tmp 4) (.tmp 48) rfl g rfl d rfl h4 ?_; intro Wa hba hga))))
    go_wp2_with fail
    exact ret_va hba rfl rfl rfl ⟨d, rfl, by rw [HV.out]; exact HDV.out, below_of_grown HB5.out hga (by omega) HB5.out.size⟩
  by_cases k7 : n.k = 7
  · have HV : Hid (Ev.eval row n = Ev.cmpV n.op (Ev.nth vs 0) (Ev.nth vs 1)) := by show _ = _; rw [HVE.out]; unfold Ev.evalK; rw [if_neg k1, if_neg k2, if_neg k3, if_neg k4, if_neg k5, if_neg k6, if_pos k7]
    rw [k7] at c0
    clear k1 k2 k3 k4 k5 k6 k7 HVE c6 c7
    go_upto_region 15 with fail
    clear c0
    have h1 := h1.drew
    have h4 := h4.drew
    have HB3 := Lib.hid (HB3.out.drewR)
    have HBW := Lib.hid (HBW.out.drewR)
    obtain ⟨-, e1, -, -, -, -, -, -, -, -, -⟩ := Blk.c10 h1
    refine wp_region_plan (.take 0 (.take 1 (.take 2 (.take 3 (.take 5 (.take 6 (.run 4 [0, 1, 5, 6] (.run 7 [0, 1] (.run 8 [] (.run 9 [] .fin)))))))))) (by kernel_rfl) (by kernel_rfl) (by kernel_rfl) (by kernel_rfl) ?_
    repeat' (first | (refine hZ _ _ ?_; clear hZ) | (refine hZ _ ?_; clear hZ) | (refine hZ ?_; clear hZ) | rw [again_nil] | rw [walk_fin] | ((first | rw [walk_take] | rw [walk_run] | rw [again_cons]); intro Z hZ; simp only [sel, List.getElem?_toArray, List.getElem?_cons_zero, List.getElem?_cons_succ]; go_wp2_with (refine wpList_load_nd rfl (.tmp 2) rfl W.heap.size rfl h1 ?_)))
    refine (HARG.out _ HBW.out 0 (by decide)).mono ?_
    rintro e W4 ⟨a0, rfl, hd0, hB4⟩
    have h1 := h1.below hB4
    have h4 := h4.below hB4
    have HB3 := Lib.hid (HB3.out.trans (hB4.mono HB3.out.size))
    have HBW := Lib.hid (HBW.out.trans (hB4.mono HBW.out.size))
    have HD0 := Lib.hid hd0
    clear hB4 hd0
    clear e1
    obtain ⟨-, e1, -, -, -, -, -, -, -, -, -⟩ := Blk.c10 h1
    go_wp2_with fail
    repeat' (first | (refine hZ _ _ ?_; clear hZ) | (refine hZ _ ?_; clear hZ) | (refine hZ ?_; clear hZ) | rw [again_nil] | rw [walk_fin] | ((first | rw [walk_take] | rw [walk_run] | rw [again_cons]); intro Z hZ; simp only [sel, List.getElem?_toArray, List.getElem?_cons_zero, List.getElem?_cons_succ]; go_wp2_with (refine wpList_load_nd rfl (.tmp 2) rfl W.heap.size rfl h1 ?_)))
    refine (HARG.out _ HBW.out 1 (by decide)).mono ?_
    rintro e W6 ⟨a1, rfl, hd1, hB4⟩
    have h1 := h1.below hB4
    have h4 := h4.below hB4
    have HB3 := Lib.hid (HB3.out.trans (hB4.mono HB3.out.size))
    have HD1 := Lib.hid hd1
    clear hB4 hd1
    clear e1
    obtain ⟨-, e1, -, -, -, -, -, -, -, -, -⟩ := Blk.c10 h1
    go_wp2_with fail
    repeat' (first | (refine hZ _ _ ?_; clear hZ) | (refine hZ _ ?_; clear hZ) | (refine hZ ?_; clear hZ) | rw [again_nil] | rw [walk_fin] | ((first | rw [walk_take] | rw [walk_run] | rw [again_cons]); intro Z hZ; simp only [sel, List.getElem?_toArray, List.getElem?_cons_zero, List.getElem?_cons_succ]; go_wp2_with (refine wpList_load_nd rfl (.tmp 2) rfl W.heap.size rfl h1 ?_)))
    refine (rcmp_any _ n.op a0 a1 HD0.out.ok HD1.out.ok).mono ?_
    rintro e W5 ⟨rfl, hB5⟩
    have HDV := Lib.hid (Ev.dv_cmp n.op a0 a1)
    rw [Ev.cmp_of HD0.out.cc HD1.out.cc] at HDV ⊢
    generalize hd : Ev.cmpV n.op (Ev.nth vs 0) (Ev.nth vs 1) = d at HDV HV ⊢
    clear hd e1
    obtain ⟨-, e1, -, -, -, -, -, -, -, -, -⟩ := Blk.c10 (h1.below hB5)
    have h1 := h1.below hB5
    have h4 := h4.below hB5
    have HB5 := Lib.hid (HB3.out.trans (hB5.mono HB3.out.size))
    clear hB5 HB3
    go_wp2_with fail
    repeat' (first | (refine hZ _ _ ?_; clear hZ) | (refine hZ _ ?_; clear hZ) | (refine hZ ?_; clear hZ) | rw [again_nil] | rw [walk_fin] | ((first | rw [walk_take] | rw [walk_run] | rw [again_cons]); intro Z hZ; simp only [sel, List.getElem?_toArray, List.getElem?_cons_zero, List.getElem?_cons_succ]; go_wp2_with (first | (refine wpList_load_nd rfl (.tmp 2) rfl W.heap.size rfl h1 ?_) | (refine wpList_store_va rfl rfl (.tmp 4) (.tmp 59) rfl g rfl d rfl h4 ?_; intro Wa hba hga))))
    go_wp2_with fail
    exact ret_va hba rfl rfl rfl ⟨d, rfl, by rw [HV.out]; exact HDV.out, below_of_grown HB5.out hga (by omega) HB5.out.size⟩
  by_cases k8 : n.k = 8
  · have HV : Hid (Ev.eval row n = Ev.arithV n.op (Ev.nth vs 0) (Ev.nth vs 1)) := by show _ = _; rw [HVE.out]; unfold Ev.evalK; rw [if_neg k1, if_neg k2, if_neg k3, if_neg k4, if_neg k5, if_neg k6, if_neg k7, if_pos k8]
    rw [k8] at c0
    clear k1 k2 k3 k4 k5 k6 k7 k8 HVE c6 c7
    go_upto_region 17 with fail
    clear c0
    have h1 := h1.drew
    have h4 := h4.drew
    have HB3 := Lib.hid (HB3.out.drewR)
    have HBW := Lib.hid (HBW.out.drewR)
    obtain ⟨-, e1, -, -, -, -, -, -, -, -, -⟩ := Blk.c10 h1
    refine wp_region_plan (.take 0 (.take 1 (.take 2 (.take 3 (.take 5 (.take 6 (.run 4 [0, 1, 5, 6] (.run 7 [0, 1] (.run 8 [] (.run 9 [] .fin)))))))))) (by kernel_rfl) (by kernel_rfl) (by kernel_rfl) (by kernel_rfl) ?_
    repeat' (first | (refine hZ _ _ ?_; clear hZ) | (refine hZ _ ?_; clear hZ) | (refine hZ ?_; clear hZ) | rw [again_nil] | rw [walk_fin] | ((first | rw [walk_take] | rw [walk_run] | rw [again_cons]); intro Z hZ; simp only [sel, List.getElem?_toArray, List.getElem?_cons_zero, List.getElem?_cons_succ]; go_wp2_with (refine wpList_load_nd rfl (.tmp 2) rfl W.heap.size rfl h1 ?_)))
    refine (HARG.out _ HBW.out 0 (by decide)).mono ?_
    rintro e W4 ⟨a0, rfl, hd0, hB4⟩
    have h1 := h1.below hB4
    have h4 := h4.below hB4
    have HB3 := Lib.hid (HB3.out.trans (hB4.mono HB3.out.size))
    have HBW := Lib.hid (HBW.out.trans (hB4.mono HBW.out.size))
    have HD0 := Lib.hid hd0
    clear hB4 hd0
    clear e1
    obtain ⟨-, e1, -, -, -, -, -, -, -, -, -⟩ := Blk.c10 h1
    go_wp2_with fail
    repeat' (first | (refine hZ _ _ ?_; clear hZ) | (refine hZ _ ?_; clear hZ) | (refine hZ ?_; clear hZ) | rw [again_nil] | rw [walk_fin] | ((first | rw [walk_take] | rw [walk_run] | rw [again_cons]); intro Z hZ; simp only [sel, List.getElem?_toArray, List.getElem?_cons_zero, List.getElem?_cons_succ]; go_wp2_with (refine wpList_load_nd rfl (.tmp 2) rfl W.heap.size rfl h1 ?_)))
    refine (HARG.out _ HBW.out 1 (by decide)).mono ?_
    rintro e W6 ⟨a1, rfl, hd1, hB4⟩
    have h1 := h1.below hB4
    have h4 := h4.below hB4
    have HB3 := Lib.hid (HB3.out.trans (hB4.mono HB3.out.size))
    have HD1 := Lib.hid hd1
    clear hB4 hd1
    clear e1
    obtain ⟨-, e1, -, -, -, -, -, -, -, -, -⟩ := Blk.c10 h1
    go_wp2_with fail
    repeat' (first | (refine hZ _ _ ?_; clear hZ) | (refine hZ _ ?_; clear hZ) | (refine hZ ?_; clear hZ) | rw [again_nil] | rw [walk_fin] | ((first | rw [walk_take] | rw [walk_run] | rw [again_cons]); intro Z hZ; simp only [sel, List.getElem?_toArray, List.getElem?_cons_zero, List.getElem?_cons_succ]; go_wp2_with (refine wpList_load_nd rfl (.tmp 2) rfl W.heap.size rfl h1 ?_)))
    refine (rarith_any _ n.op a0 a1 HD0.out.ok HD1.out.ok).mono ?_
    rintro e W5 ⟨d, rfl, hdv, hB5⟩
    have HDV := Lib.hid hdv
    rw [Ev.arith_of HD0.out.cc HD1.out.cc] at HDV
    clear hdv e1
    obtain ⟨-, e1, -, -, -, -, -, -, -, -, -⟩ := Blk.c10 (h1.below hB5)
    have h1 := h1.below hB5
    have h4 := h4.below hB5
    have HB5 := Lib.hid (HB3.out.trans (hB5.mono HB3.out.size))
    clear hB5 HB3
    go_wp2_with fail
    repeat' (first | (refine hZ _ _ ?_; clear hZ) | (refine hZ _ ?_; clear hZ) | (refine hZ ?_; clear hZ) | rw [again_nil] | rw [walk_fin] | ((first | rw [walk_take] | rw [walk_run] | rw [again_cons]); intro Z hZ; simp only [sel, List.getElem?_toArray, List.getElem?_cons_zero, List.getElem?_cons_succ]; go_wp2_with (first | (refine wpList_load_nd rfl (.tmp 2) rfl W.heap.size rfl h1 ?_) | (refine wpList_store_va rfl rfl (.tmp 4) (.tmp 70) rfl g rfl d rfl h4 ?_; intro Wa hba hga))))
    go_wp2_with fail
    exact ret_va hba rfl rfl rfl ⟨d, rfl, by rw [HV.out]; exact HDV.out, below_of_grown HB5.out hga (by omega) HB5.out.size⟩
  by_cases k9 : n.k = 9
  · have HV : Hid (Ev.eval row n = Ev.boolV (((Ev.nth vs 0).k == 0) != n.no)) := by show _ = _; rw [HVE.out]; unfold Ev.evalK; rw [if_neg k1, if_neg k2, if_neg k3, if_neg k4, if_neg k5, if_neg k6, if_neg k7, if_neg k8, if_pos k9]
    rw [k9] at c0
    clear k1 k2 k3 k4 k5 k6 k7 k8 k9 HVE c6
    go_upto_region 19 with fail
    clear c0 c7
    go_wp2_with (refine wpList_load_nd rfl (.tmp 2) rfl W.heap.size rfl h1 ?_)
    refine (HARG.out _ HBW.out 0 (by decide)).mono ?_
    rintro e W4 ⟨a0, rfl, hd0, hB4⟩
    have h1 := h1.below hB4
    have h4 := h4.below hB4
    have HB3 := Lib.hid (HB3.out.trans (hB4.mono HB3.out.size))
    have HBW := Lib.hid (HBW.out.trans (hB4.mono HBW.out.size))
    have HD0 := Lib.hid hd0
    clear hB4 hd0
    rw [← HD0.out.k] at HV
    have hvl : W.heap.size < W4.heap.size := h1.lt
    have hgl : g < W4.heap.size := h4.lt
    go_upto_region 20 with (first | (refine wpList_alloc_va rfl rfl ?_; intro W7 hb7 hz7 hB7) | (refine wpList_store_va rfl rfl (.tmp 5) (.tmp 75) rfl W4.heap.size rfl a0 rfl hb7 ?_; intro W8 hb8 hg8))
    have h4 := (h4.below hB7).grown hg8 (by simp; omega)
    have h1 := (h1.below hB7).grown hg8 (by simp; omega)
    have HB3 := Lib.hid (below_of_grown (HB3.out.then hB7) hg8 (by omega) (Nat.le_trans HB3.out.size hB7.size))
    clear hB7 hg8 hb7 hz7
    generalize W4.heap.size = gx at hb8 hvl hgl ⊢
    obtain ⟨-, -, -, -, -, -, -, e7, -, -, -⟩ := Blk.c10 h1
    obtain ⟨u0, -⟩ := Blk.c4 hb8
    cases hno : n.no with
    | true =>
      rw [hno] at HV e7
      have HV : Hid (Ev.eval row n = Ev.boolV (a0.k != 0)) := by show _ = _; rw [HV.out]; congr 1; cases h : a0.k == 0 <;> simp [bne, h]
      go_wp2_with fail
      refine (refbool_any _ _).mono ?_
      rintro e W9 ⟨rfl, hB5⟩
      rw [boolV_v]
      have HDV := Lib.hid (Ev.dv_bool (a0.k != 0))
      generalize hd : Ev.boolV (a0.k != 0) = d at HDV HV ⊢
      clear hd
      have h4 := h4.below hB5
      have HB5 := Lib.hid (HB3.out.then hB5)
      clear hB5 HB3
      go_wp2_with (refine wpList_store_va rfl rfl (.tmp 4) (.tmp 81) rfl g rfl d rfl h4 ?_; intro Wa hba hga)
      exact ret_va hba rfl rfl rfl ⟨d, rfl, by rw [HV.out]; exact HDV.out, below_of_grown HB5.out hga (by omega) HB5.out.size⟩
    | false =>
      rw [hno] at HV e7
      have HV : Hid (Ev.eval row n = Ev.boolV (a0.k == 0)) := by show _ = _; rw [HV.out]; congr 1; cases a0.k == 0 <;> rfl
      go_wp2_with fail
      refine (refbool_any _ _).mono ?_
      rintro e W9 ⟨rfl, hB5⟩
      rw [boolV_v]
      have HDV := Lib.hid (Ev.dv_bool (a0.k == 0))
      generalize hd : Ev.boolV (a0.k == 0) = d at HDV HV ⊢
      clear hd
      have h4 := h4.below hB5
      have HB5 := Lib.hid (HB3.out.then hB5)
      clear hB5 HB3
      go_wp2_with (refine wpList_store_va rfl rfl (.tmp 4) (.tmp 85) rfl g rfl d rfl h4 ?_; intro Wa hba hga)
      exact ret_va hba rfl rfl rfl ⟨d, rfl, by rw [HV.out]; exact HDV.out, below_of_grown HB5.out hga (by omega) HB5.out.size⟩
  · have HV : Hid (Ev.eval row n = Key.nul) := by show _ = _; rw [HVE.out]; unfold Ev.evalK; rw [if_neg k1, if_neg k2, if_neg k3, if_neg k4, if_neg k5, if_neg k6, if_neg k7, if_neg k8, if_neg k9]
    have b1 : (n.k == 1) = false := by simp [k1]
    have b2 : (n.k == 2) = false := by simp [k2]
    have b3 : (n.k == 3) = false := by simp [k3]
    have b4 : (n.k == 4) = false := by simp [k4]
    have b5 : (n.k == 5) = false := by simp [k5]
    have b6 : (n.k == 6) = false := by simp [k6]
    have b7 : (n.k == 7) = false := by simp [k7]
    have b8 : (n.k == 8) = false := by simp [k8]
    have b9 : (n.k == 9) = false := by simp [k9]
    clear k1 k2 k3 k4 k5 k6 k7 k8 k9 HVE c6 c7
    go_wp2_with (refine wpList_store_va rfl rfl (.tmp 4) (.tmp 86) rfl g rfl Key.nul rfl h4 ?_; intro Wa hba hga)
    exact ret_va hba rfl rfl rfl ⟨Key.nul, rfl, by rw [HV.out]; exact Ev.dv_nul, below_of_grown HB3.out hga (by omega) HB3.out.size⟩
end Go.Proofs.YtpahkaffknnjhaaGreatDoor
end

section
namespace Go.Proofs.YtpahkaffknnjhaaGreatDoor
set_option linter.unusedSimpArgs false
set_option linter.unusedVariables false
open Go.RowKit
namespace Ev
theorem clean_at (row : List Va) (i : Int) : Key.clean (atV row i) = atV row i := by unfold atV; split; exact clean_clean _; rfl
theorem at_ok {row : List Va} (h : ∀ v ∈ row, v.ok) (i : Int) : (atV row i).ok := by unfold atV; split; exact clean_ok (nth_ok h _); exact nul_ok
def ordR : List So → List Va → List Va → Int
  | [], _, _ => 0
  | s :: l, a, b => if Key.vord (atV a s.at_) (atV b s.at_) = 0 then ordR l a b else if s.desc then -Key.vord (atV a s.at_) (atV b s.at_) else Key.vord (atV a s.at_) (atV b s.at_)
def holds (row : List Va) (l : List Nd) : Bool := l.all fun n => tru (eval row n) == 1
end Ev
structure RowOk (w : World) (R : Option Addr) (row : List Va) : Prop where
  r : ERow eVa w R row
  ok : ∀ v ∈ row, v.ok
  len : row.length ≤ 9223372036854775807
theorem RowOk.below {w W : World} {R : Option Addr} {row : List Va} (h : RowOk w R row) (hB : Below w.heap.size w W) : RowOk W R row := ⟨h.r.below hB, h.ok, h.len⟩
set_option maxRecDepth 20000 in
set_option maxHeartbeats 4000000 in
theorem pat_any (w : World) (R : Option Addr) (rc : Nat) (row : List Va) (i : Int) (h : RowOk w R row) (hi : Ev.inB i) : Calls Tryz.prog 120 #[.slice R row.length rc, .int .i64 i] w (RetV w (Ev.atV row i)) := by
  have HR := Lib.hid h
  have HI := Lib.hid hi
  clear h hi
  go_enter Tryz.func120, Tryz.ntmps120
  go_upto_region 1 with (refine wpList_alloc_va rfl rfl ?_; intro W1 hb1 hz1 hB1)
  have HB1 := Lib.hid hB1
  have HR1 := Lib.hid (HR.out.below hB1)
  clear hB1
  have HN : Hid (NodeIn W1 (.mk 2 [] Key.nul i false 0 none [] 0)) := NodeIn.mk ERow.nil (by intro m hm; simp [Nd.args] at hm) Ev.nul_ok (Nat.zero_le _) (by show Ev.inB 2; exact ⟨by decide, by decide⟩) HI.out (Nat.le_refl _) (Nat.zero_le _)
  have HE := Lib.hid (eval_any W1 R rc row HR1.out.r HR1.out.ok HR1.out.len _ HN.out W1 (Below.refl _ _))
  have HV : Hid (Ev.eval row (.mk 2 [] Key.nul i false 0 none [] 0) = Ev.atV row i) := rfl
  go_wp2_with fail
  refine (show Calls _ _ _ _ _ from HE.out).mono ?_
  rintro e W2 ⟨rfl, hB2⟩
  rw [HV.out]
  have hb2 := hb1.below hB2
  have HB2 := Lib.hid (HB1.out.then hB2)
  clear hB2 hb1 HE HV
  generalize hd : Ev.atV row i = d
  have HD := Lib.hid hd
  clear hd
  go_wp2_with (refine wpList_store_va rfl rfl (.tmp 4) (.tmp 8) rfl w.heap.size rfl d rfl hb2 ?_; intro W4 hb4 hg4)
  exact ret_va hb4 rfl rfl rfl ⟨by rw [HD.out], below_of_grown HB2.out hg4 (Nat.le_refl _) HB2.out.size⟩
theorem so_at {w : World} {A : Option Addr} {L : List So} (h : ERow eSo w A L) {j : Nat} (hj : j < L.length) : ∃ b o, A = some ⟨b, o, none⟩ ∧ b < w.heap.size ∧ w.cell? ⟨b, o + j * 2, none⟩ = some (.int .i64 L[j].at_) ∧ w.cell? ⟨b, o + j * 2 + 1, none⟩ = some (.bool L[j].desc) := by
  obtain ⟨b, o, e, hb, hc⟩ := h.at_ hj
  exact ⟨b, o, e, hb, hc 0 _ rfl, hc 1 _ rfl⟩
theorem Ev.ordR_drop {l : List So} {k : Nat} (hk : k < l.length) (a b : List Va) : Ev.ordR (l.drop k) a b = if Key.vord (Ev.atV a l[k].at_) (Ev.atV b l[k].at_) = 0 then Ev.ordR (l.drop (k + 1)) a b else if l[k].desc then -Key.vord (Ev.atV a l[k].at_) (Ev.atV b l[k].at_) else Key.vord (Ev.atV a l[k].at_) (Ev.atV b l[k].at_) := by
  have : l.drop k = l[k] :: l.drop (k + 1) := (List.getElem_cons_drop hk).symm
  rw [this]; rfl
set_option maxRecDepth 20000 in
set_option maxHeartbeats 8000000 in
theorem pordr_any (w : World) (A R S : Option Addr) (c rc sc : Nat) (L : List So) (a b : List Va) (hl : ERow eSo w A L) (hin : ∀ s ∈ L, Ev.inB s.at_) (hll : L.length ≤ 9223372036854775807) (ha : RowOk w R a) (hb : RowOk w S b) :
    Calls Tryz.prog 77 #[.slice A L.length c, .slice R a.length rc, .slice S b.length sc] w fun e w' => e = .returned (.int .i64 (Ev.ordR L a b)) ∧ Below w.heap.size w w' := by
  have HL := Lib.hid hl
  have HIN := Lib.hid hin
  have HA := Lib.hid ha
  have HB := Lib.hid hb
  clear hl hin ha hb
  go_enter Tryz.func77, Tryz.ntmps77
  go_wp2_with fail
  go_loopw [12] (fun iv wr => ∃ k : Nat, k ≤ L.length ∧ iv = .int .i64 (k : Int) ∧ Hid (Ev.ordR L a b = Ev.ordR (L.drop k) a b ∧ Below w.heap.size w wr)) (fun iv _ => L.length - (intOf iv).toNat)
  case atStart => exact ⟨0, Nat.zero_le _, rfl, rfl, Below.refl _ _⟩
  case round =>
    obtain ⟨k, hk, rfl, HJ⟩ := hrel
    by_cases hlt : k < L.length
    · have hii : (k : Int) < (L.length : Int) := by omega
      obtain ⟨bb, oo, rfl, hbl, e0, e1⟩ := so_at (HL.out.below HJ.out.2) hlt
      have HI := Lib.hid (HIN.out L[k] (List.getElem_mem hlt))
      have HS := Lib.hid (HJ.out.1.trans (Ev.ordR_drop hlt a b))
      go_upto_region 4 with fail
      clear e0 e1 hbl
      generalize hW1 : World.alloc wr (.cells _ _) = W1
      obtain ⟨ba1, hz1, hB1⟩ := fresh1 hW1
      clear hW1
      have HB1 := Lib.hid ((HJ.out.2.then hB1).drewR)
      have hk1 := ba1.drew
      have HKEEP := Lib.hid (hB1.drewR)
      clear ba1 hB1
      obtain ⟨q0, -, -⟩ := Blk.c2 hk1
      generalize wr.heap.size = g at hk1 q0 hz1 ⊢
      generalize L[k] = sk at HS HI hk1 q0 ⊢
      refine wp_region_plan (.take 0 (.take 1 (.take 2 (.take 4 (.take 5 (.take 6 (.run 3 [4, 5, 6] (.run 7 [] (.run 8 [] (.take 9 .fin)))))))))) (by kernel_rfl) (by kernel_rfl) (by kernel_rfl) (by kernel_rfl) ?_
      repeat' (first | (refine hZ _ _ ?_; clear hZ) | (refine hZ _ ?_; clear hZ) | (refine hZ ?_; clear hZ) | rw [again_nil] | rw [walk_fin] | ((first | rw [walk_take] | rw [walk_run] | rw [again_cons]); intro Z hZ; simp only [sel, List.getElem?_toArray, List.getElem?_cons_zero, List.getElem?_cons_succ]; go_wp2_with (fail)))
      refine (pat_any _ R rc a sk.at_ (HA.out.below HB1.out) HI.out).mono ?_
      rintro e W2 ⟨rfl, hB2⟩
      have hk1 := hk1.below hB2
      have HB2 := Lib.hid (HB1.out.trans (hB2.mono HB1.out.size))
      have hz2 := hB2.size
      clear hB2 q0
      obtain ⟨q0, -, -⟩ := Blk.c2 hk1
      go_wp2_with fail
      repeat' (first | (refine hZ _ _ ?_; clear hZ) | (refine hZ _ ?_; clear hZ) | (refine hZ ?_; clear hZ) | rw [again_nil] | rw [walk_fin] | ((first | rw [walk_take] | rw [walk_run] | rw [again_cons]); intro Z hZ; simp only [sel, List.getElem?_toArray, List.getElem?_cons_zero, List.getElem?_cons_succ]; go_wp2_with (fail)))
      refine (pat_any _ S sc b sk.at_ (HB.out.below HB2.out) HI.out).mono ?_
      rintro e W3 ⟨rfl, hB3⟩
      have hk1 := hk1.below hB3
      have HB3 := Lib.hid (HB2.out.then hB3)
      clear hB3 q0
      obtain ⟨q0, -, -⟩ := Blk.c2 hk1
      have HXO := Lib.hid (Ev.at_ok HA.out.ok sk.at_)
      have HYO := Lib.hid (Ev.at_ok HB.out.ok sk.at_)
      have HCX := Lib.hid (Ev.clean_at a sk.at_)
      have HCY := Lib.hid (Ev.clean_at b sk.at_)
      have hvr := Key.vord_range (Ev.atV a sk.at_) (Ev.atV b sk.at_)
      generalize Ev.atV a sk.at_ = x at HS HXO HCX hvr ⊢
      generalize Ev.atV b sk.at_ = y at HS HYO HCY hvr ⊢
      go_wp2_with fail
      repeat' (first | (refine hZ _ _ ?_; clear hZ) | (refine hZ _ ?_; clear hZ) | (refine hZ ?_; clear hZ) | rw [again_nil] | rw [walk_fin] | ((first | rw [walk_take] | rw [walk_run] | rw [again_cons]); intro Z hZ; simp only [sel, List.getElem?_toArray, List.getElem?_cons_zero, List.getElem?_cons_succ]; go_wp2_with (fail)))
      refine (pord_any _ x y HXO.out HYO.out).mono ?_
      rintro e W4 ⟨rfl, hB4⟩
      rw [HCX.out, HCY.out]
      have hk1 := hk1.below hB4
      have HB4 := Lib.hid (HB3.out.then hB4)
      clear hB4 q0
      obtain ⟨q0, q1, -⟩ := Blk.c2 hk1
      generalize Key.vord x y = c0 at HS hvr ⊢
      clear HCX HCY HXO HYO
      go_wp2_with fail
      repeat' (first | (refine hZ _ _ ?_; clear hZ) | (refine hZ _ ?_; clear hZ) | (refine hZ ?_; clear hZ) | rw [again_nil] | rw [walk_fin] | ((first | rw [walk_take] | rw [walk_run] | rw [again_cons]); intro Z hZ; simp only [sel, List.getElem?_toArray, List.getElem?_cons_zero, List.getElem?_cons_succ]; go_wp2_with (fail)))
      rcases hvr with rfl | rfl | rfl
      · cases hd : sk.desc with
        | true =>
          rw [hd] at q1
          have HV : Hid (Ev.ordR L a b = 1) := by show _ = _; rw [HS.out, hd]; rfl
          clear hd
          go_wp2_with fail
          go_ret
          exact ⟨by rw [HV.out]; rfl, HB4.out⟩
        | false =>
          rw [hd] at q1
          have HV : Hid (Ev.ordR L a b = -1) := by show _ = _; rw [HS.out, hd]; rfl
          clear hd
          go_wp2_with fail
          go_ret
          exact ⟨by rw [HV.out]; rfl, HB4.out⟩
      · have HV : Hid (Ev.ordR L a b = Ev.ordR (L.drop (k + 1)) a b) := by show _ = _; rw [HS.out, if_pos rfl]
        cases hd : sk.desc with
        | true =>
          rw [hd] at q1
          clear hd
          go_wp2_with fail
          go_roundw
          case rel => exact ⟨k + 1, by omega, by go_num, HV.out, HB4.out⟩
          case measure => simp [intOf]; omega
        | false =>
          rw [hd] at q1
          clear hd
          go_wp2_with fail
          go_roundw
          case rel => exact ⟨k + 1, by omega, by go_num, HV.out, HB4.out⟩
          case measure => simp [intOf]; omega
      · cases hd : sk.desc with
        | true =>
          rw [hd] at q1
          have HV : Hid (Ev.ordR L a b = -1) := by show _ = _; rw [HS.out, hd]; rfl
          clear hd
          go_wp2_with fail
          go_ret
          exact ⟨by rw [HV.out]; rfl, HB4.out⟩
        | false =>
          rw [hd] at q1
          have HV : Hid (Ev.ordR L a b = 1) := by show _ = _; rw [HS.out, hd]; rfl
          clear hd
          go_wp2_with fail
          go_ret
          exact ⟨by rw [HV.out]; rfl, HB4.out⟩
    · obtain rfl : k = L.length := by omega
      have HD : Hid (Ev.ordR L a b = 0) := by show _ = _; rw [HJ.out.1, List.drop_length]; rfl
      go_wp2_with fail
      go_ret
      exact ⟨by rw [HD.out]; rfl, HJ.out.2⟩
theorem Ev.Dv.ord {s t u v : Va} (h : Ev.Dv s u) (k : Ev.Dv t v) (hs : Key.clean s = s) (ht : Key.clean t = t) : Key.vord (Key.dclean u) (Key.dclean v) = Key.vord s t := by
  rw [← Ev.vord_clean, h.cc, k.cc, hs, ht]
theorem Ev.holds_no {row : List Va} {L : List Nd} {k : Nat} (hk : k < L.length) (h : Ev.tru (Ev.eval row L[k]) ≠ 1) : Ev.holds row L = false := by
  unfold Ev.holds
  rw [List.all_eq_false]
  exact ⟨L[k], List.getElem_mem hk, by simpa using h⟩
theorem Ev.holds_yes {row : List Va} {L : List Nd} (h : ∀ k (hk : k < L.length), Ev.tru (Ev.eval row L[k]) = 1) : Ev.holds row L = true := by
  unfold Ev.holds
  rw [List.all_eq_true]
  intro n hn
  obtain ⟨k, hk, rfl⟩ := List.getElem_of_mem hn
  simpa using h k hk
theorem nd_at {w : World} {A : Option Addr} {L : List Nd} (h : ERow eNd w A L) {j : Nat} (hj : j < L.length) : ∃ b o, A = some ⟨b, o, none⟩ ∧ ERow eNd w (some ⟨b, o, none⟩) L := by
  obtain ⟨b, o, e, hb, hc⟩ := h.at_ hj
  subst e
  exact ⟨b, o, rfl, h⟩
theorem Ev.tru3_two (v : Va) : (Ev.tru3 v = 2) ↔ Ev.tru v = 1 := by unfold Ev.tru3 Ev.tru; (repeat' split) <;> simp_all
set_option maxRecDepth 20000 in
set_option maxHeartbeats 8000000 in
theorem pholds_any (w : World) (A R : Option Addr) (c rc : Nat) (L : List Nd) (row : List Va) (hl : ERow eNd w A L) (hin : ∀ n ∈ L, NodeIn w n) (hll : L.length ≤ 9223372036854775807) (hr : RowOk w R row) :
    Calls Tryz.prog 28 #[.slice A L.length c, .slice R row.length rc] w fun e w' => e = .returned (.bool (Ev.holds row L)) ∧ Below w.heap.size w w' := by
  have HL := Lib.hid hl
  have HIN := Lib.hid hin
  have HR := Lib.hid hr
  clear hl hin hr
  go_enter Tryz.func28, Tryz.ntmps28
  go_wp2_with fail
  go_loopw [9] (fun iv wr => ∃ k : Nat, k ≤ L.length ∧ iv = .int .i64 (k : Int) ∧ Hid ((∀ j (hj : j < L.length), j < k → Ev.tru (Ev.eval row L[j]) = 1) ∧ Below w.heap.size w wr)) (fun iv _ => L.length - (intOf iv).toNat)
  case atStart => exact ⟨0, Nat.zero_le _, rfl, by intro j _ h; omega, Below.refl _ _⟩
  case round =>
    obtain ⟨k, hk, rfl, HJ⟩ := hrel
    by_cases hlt : k < L.length
    · have hii : (k : Int) < (L.length : Int) := by omega
      obtain ⟨bb, oo, rfl, -⟩ := nd_at HL.out hlt
      have HLW := Lib.hid (HL.out.below HJ.out.2)
      have HE := Lib.hid (eval_any w R rc row HR.out.r HR.out.ok HR.out.len L[k] (HIN.out _ (List.getElem_mem hlt)))
      go_upto_region 4 with (first | (refine wpList_load_nd_at rfl (.tmp 11) rfl HLW.out hlt rfl ?_) | (refine wpList_alloc_nd rfl rfl ?_; intro W2 hb2 hz2 hB2) | (refine wpList_store_nd rfl rfl (.tmp 6) (.tmp 12) rfl wr.heap.size rfl L[k] rfl hb2 ?_; intro W3 hb3 hg3))
      have HB3 := Lib.hid (below_of_grown (HJ.out.2.then hB2) hg3 HJ.out.2.size (Nat.le_trans HJ.out.2.size hB2.size))
      clear hb2 hz2 hB2 hg3 HLW
      generalize wr.heap.size = g at hb3 ⊢
      go_wp2_with (refine wpList_load_nd rfl (.tmp 6) rfl g rfl hb3 ?_)
      refine (HE.out _ HB3.out).mono ?_
      rintro e W4 ⟨rfl, hB4⟩
      have HB4 := Lib.hid (HB3.out.then hB4)
      clear hB4 hb3
      go_wp2_with fail
      refine (vtrue_any _ (Ev.eval row L[k])).mono ?_
      rintro e W5 ⟨rfl, hB5⟩
      have HB5 := Lib.hid (HB4.out.then hB5)
      clear hB5
      by_cases ht : Ev.tru (Ev.eval row L[k]) = 1
      · have HT := Lib.hid ht
        rw [ht]
        clear ht
        go_wp2_with fail
        go_roundw
        case rel =>
          refine ⟨k + 1, by omega, by go_num, ?_, HB5.out⟩
          intro j hj h
          by_cases h' : j < k
          · exact HJ.out.1 j hj h'
          · obtain rfl : j = k := by omega
            exact HT.out
        case measure => simp [intOf]; omega
      · have HV := Lib.hid (Ev.holds_no hlt ht)
        rw [show (Ev.tru (Ev.eval row L[k]) == 1) = false by simp [ht]]
        clear ht
        go_wp2_with fail
        go_ret
        exact ⟨by rw [HV.out]; rfl, HB5.out⟩
    · obtain rfl : k = L.length := by omega
      have HD := Lib.hid (Ev.holds_yes fun j hj => HJ.out.1 j hj hj)
      go_wp2_with fail
      go_ret
      exact ⟨by rw [HD.out]; rfl, HJ.out.2⟩
set_option maxRecDepth 20000 in
set_option maxHeartbeats 8000000 in
theorem rholds_any (w : World) (A R : Option Addr) (c rc : Nat) (L : List Nd) (row : List Va) (hl : ERow eNd w A L) (hin : ∀ n ∈ L, NodeIn w n) (hll : L.length ≤ 9223372036854775807) (hr : RowOk w R row) :
    Calls Tryz.prog 15 #[.slice A L.length c, .slice R row.length rc] w fun e w' => e = .returned (.bool (Ev.holds row L)) ∧ Below w.heap.size w w' := by
  have HL := Lib.hid hl
  have HIN := Lib.hid hin
  have HR := Lib.hid hr
  clear hl hin hr
  go_enter Tryz.func15, Tryz.ntmps15
  go_wp2_with fail
  go_loopw [5] (fun iv wr => ∃ k : Nat, k ≤ L.length ∧ iv = .int .i64 (k : Int) ∧ Hid ((∀ j (hj : j < L.length), j < k → Ev.tru (Ev.eval row L[j]) = 1) ∧ Below w.heap.size w wr)) (fun iv _ => L.length - (intOf iv).toNat)
  case atStart => exact ⟨0, Nat.zero_le _, rfl, by intro j _ h; omega, Below.refl _ _⟩
  case round =>
    obtain ⟨k, hk, rfl, HJ⟩ := hrel
    by_cases hlt : k < L.length
    · have hii : (k : Int) < (L.length : Int) := by omega
      obtain ⟨bb, oo, rfl, -⟩ := nd_at HL.out hlt
      have HLW := Lib.hid (HL.out.below HJ.out.2)
      have HE := Lib.hid (reval_any w R rc row HR.out.r HR.out.ok HR.out.len L[k] (HIN.out _ (List.getElem_mem hlt)))
      go_wp2_with (first | (refine wpList_load_nd_at rfl (.tmp 14) rfl HLW.out hlt rfl ?_))
      refine (HE.out _ HJ.out.2).mono ?_
      rintro e W4 ⟨d, rfl, hd, hB4⟩
      have HB4 := Lib.hid (HJ.out.2.then hB4)
      have HTE : Hid (Ev.tru d = Ev.tru (Ev.eval row L[k])) := Ev.tru_of hd.cc
      clear hB4 hd HLW
      go_wp2_with fail
      refine (rtruth_any _ d).mono ?_
      rintro e W5 ⟨rfl, hB5⟩
      have HB5 := Lib.hid (HB4.out.then hB5)
      clear hB5
      by_cases ht : Ev.tru3 d = 2
      · have HT : Hid (Ev.tru (Ev.eval row L[k]) = 1) := by show _ = _; rw [← HTE.out]; exact (Ev.tru3_two d).1 ht
        rw [ht]
        clear ht
        go_wp2_with fail
        go_roundw
        case rel =>
          refine ⟨k + 1, by omega, by go_num, ?_, HB5.out⟩
          intro j hj h
          by_cases h' : j < k
          · exact HJ.out.1 j hj h'
          · obtain rfl : j = k := by omega
            exact HT.out
        case measure => simp [intOf]; omega
      · have HV := Lib.hid (Ev.holds_no hlt (fun h => ht ((Ev.tru3_two d).2 (by rw [HTE.out]; exact h))))
        have hb : (Ev.tru3 d != 2) = true := by simp [ht]
        clear ht
        go_wp2_with fail
        go_ret
        exact ⟨by rw [HV.out]; rfl, HB5.out⟩
    · obtain rfl : k = L.length := by omega
      have HD := Lib.hid (Ev.holds_yes fun j hj => HJ.out.1 j hj hj)
      go_wp2_with fail
      go_ret
      exact ⟨by rw [HD.out]; rfl, HJ.out.2⟩
end Go.Proofs.YtpahkaffknnjhaaGreatDoor
end

section
namespace Go.Proofs.YtpahkaffknnjhaaGreatDoor
set_option linter.unusedSimpArgs false
set_option linter.unusedVariables false
namespace Srt
variable {α : Type}
structure Ord (cmp : α → α → Int) : Prop where
  anti : ∀ x y, cmp y x = -cmp x y
  trans : ∀ x y z, cmp x y ≤ 0 → cmp y z ≤ 0 → cmp x z ≤ 0
variable (cmp : α → α → Int)
def mg : List α → List α → List α
  | [], Y => Y
  | x :: X, [] => x :: X
  | x :: X, y :: Y => if cmp y x < 0 then y :: mg (x :: X) Y else x :: mg X (y :: Y)
termination_by X Y => X.length + Y.length
def ssort (L : List α) : List α := L.foldl (fun acc z => mg cmp acc [z]) []
def Sorted (L : List α) : Prop := L.Pairwise fun s t => ¬ cmp t s < 0
theorem mg_nil_left (Y : List α) : mg cmp [] Y = Y := by unfold mg; rfl
theorem mg_nil_right (X : List α) : mg cmp X [] = X := by cases X <;> (unfold mg; rfl)
theorem mg_cons (x y : α) (X Y : List α) : mg cmp (x :: X) (y :: Y) = if cmp y x < 0 then y :: mg cmp (x :: X) Y else x :: mg cmp X (y :: Y) := by
  conv => lhs; unfold mg
theorem mg_perm : ∀ (X Y : List α), (mg cmp X Y).Perm (X ++ Y)
  | [], Y => by rw [mg_nil_left]; exact List.Perm.refl _
  | x :: X, [] => by rw [mg_nil_right, List.append_nil]
  | x :: X, y :: Y => by
    rw [mg_cons]
    split
    · exact ((mg_perm (x :: X) Y).cons y).trans (List.perm_middle.symm)
    · exact (mg_perm X (y :: Y)).cons x
termination_by X Y => X.length + Y.length
theorem mg_length (X Y : List α) : (mg cmp X Y).length = X.length + Y.length := by rw [(mg_perm cmp X Y).length_eq, List.length_append]
theorem ssort_nil : ssort cmp [] = [] := rfl
theorem ssort_snoc (L : List α) (z : α) : ssort cmp (L ++ [z]) = mg cmp (ssort cmp L) [z] := by unfold ssort; rw [List.foldl_append]; rfl
theorem list_snoc {P : List α → Prop} (h0 : P []) (h1 : ∀ L z, P L → P (L ++ [z])) (L : List α) : P L := by
  have : ∀ n (L : List α), L.length = n → P L := by
    intro n
    induction n with
    | zero => intro L h; rw [List.eq_nil_of_length_eq_zero h]; exact h0
    | succ n ih =>
      intro L h
      have hne : L ≠ [] := by intro e; subst e; simp at h
      rw [← List.dropLast_concat_getLast hne]
      exact h1 _ _ (ih _ (by rw [List.length_dropLast]; omega))
  exact this _ L rfl
theorem ssort_perm (L : List α) : (ssort cmp L).Perm L := by
  induction L using list_snoc with
  | h0 => exact List.Perm.refl _
  | h1 L z ih => rw [ssort_snoc]; exact (mg_perm cmp _ _).trans (ih.append_right _)
theorem ssort_length (L : List α) : (ssort cmp L).length = L.length := (ssort_perm cmp L).length_eq
variable {cmp}
theorem Ord.lt_trans (h : Ord cmp) {x y z : α} (h1 : cmp x y < 0) (h2 : cmp y z < 0) : cmp x z < 0 := by
  have h3 := h.trans x y z (by omega) (by omega)
  rcases Int.lt_or_eq_of_le h3 with h4 | h4
  · exact h4
  · -- z comes at most with x, x ahead of y: z ahead of y or with it, against h2
    have h5 := h.trans z x y (by rw [h.anti]; omega) (by omega)
    have h6 := h.anti y z
    omega
theorem Ord.lt_of_lt_of_le (h : Ord cmp) {x y z : α} (h1 : cmp x y < 0) (h2 : ¬ cmp z y < 0) : cmp x z < 0 := by
  have h3 : cmp y z ≤ 0 := by have := h.anti z y; omega
  have h4 := h.trans x y z (by omega) h3
  rcases Int.lt_or_eq_of_le h4 with h5 | h5
  · exact h5
  · have h6 := h.trans y z x h3 (by rw [h.anti]; omega)
    have h7 := h.anti x y
    omega
theorem Ord.le_trans (h : Ord cmp) {x y z : α} (h1 : ¬ cmp y x < 0) (h2 : ¬ cmp z y < 0) : ¬ cmp z x < 0 := by
  have e1 := h.anti x y
  have e2 := h.anti y z
  have e3 := h.anti x z
  have h3 := h.trans x y z (by omega) (by omega)
  omega
theorem mg_assoc (h : Ord cmp) : ∀ (A B C : List α), mg cmp (mg cmp A B) C = mg cmp A (mg cmp B C)
  | [], B, C => by rw [mg_nil_left, mg_nil_left]
  | a :: A, [], C => by rw [mg_nil_right, mg_nil_left]
  | a :: A, b :: B, [] => by rw [mg_nil_right, mg_nil_right]
  | a :: A, b :: B, c :: C => by
    by_cases hba : cmp b a < 0
    · rw [mg_cons, if_pos hba]
      by_cases hcb : cmp c b < 0
      · have hca := h.lt_trans hcb hba
        have ih := mg_assoc h (a :: A) (b :: B) C
        rw [mg_cons cmp a b, if_pos hba] at ih
        rw [mg_cons cmp b c _ C, if_pos hcb, mg_cons cmp b c B C, if_pos hcb, mg_cons cmp a c, if_pos hca, ih]
      · have ih := mg_assoc h (a :: A) B (c :: C)
        rw [mg_cons cmp b c _ C, if_neg hcb, mg_cons cmp b c B C, if_neg hcb, mg_cons cmp a b, if_pos hba, ih]
    · rw [mg_cons, if_neg hba]
      by_cases hca : cmp c a < 0
      · have hcb := h.lt_of_lt_of_le hca hba
        have ih := mg_assoc h (a :: A) (b :: B) C
        rw [mg_cons cmp a b, if_neg hba] at ih
        rw [mg_cons cmp a c _ C, if_pos hca, mg_cons cmp b c B C, if_pos hcb, mg_cons cmp a c, if_pos hca, ih]
      · have ih := mg_assoc h A (b :: B) (c :: C)
        rw [mg_cons cmp a c _ C, if_neg hca, ih]
        by_cases hcb : cmp c b < 0
        · rw [mg_cons cmp b c B C, if_pos hcb, mg_cons cmp a c, if_neg hca]
        · rw [mg_cons cmp b c B C, if_neg hcb, mg_cons cmp a b, if_neg hba]
termination_by A B C => A.length + B.length + C.length
theorem ssort_append (h : Ord cmp) (X Y : List α) : ssort cmp (X ++ Y) = mg cmp (ssort cmp X) (ssort cmp Y) := by
  induction Y using list_snoc with
  | h0 => rw [List.append_nil, ssort_nil, mg_nil_right]
  | h1 Y z ih => rw [← List.append_assoc, ssort_snoc, ssort_snoc, ih, mg_assoc h]
theorem mem_mg {X Y : List α} {z : α} (hz : z ∈ mg cmp X Y) : z ∈ X ∨ z ∈ Y := List.mem_append.1 ((mg_perm cmp X Y).mem_iff.1 hz)
theorem mg_sorted (h : Ord cmp) : ∀ {X Y : List α}, Sorted cmp X → Sorted cmp Y → Sorted cmp (mg cmp X Y)
  | [], Y, _, hy => by rw [mg_nil_left]; exact hy
  | x :: X, [], hx, _ => by rw [mg_nil_right]; exact hx
  | x :: X, y :: Y, hx, hy => by
    obtain ⟨hx1, hx2⟩ := List.pairwise_cons.1 hx
    obtain ⟨hy1, hy2⟩ := List.pairwise_cons.1 hy
    rw [mg_cons]
    split
    · next hlt =>
      refine List.pairwise_cons.2 ⟨fun z hz => ?_, mg_sorted h hx hy2⟩
      rcases mem_mg hz with hz | hz
      · have hyx : ¬ cmp x y < 0 := by have := h.anti x y; omega
        rcases List.mem_cons.1 hz with rfl | hz
        · exact hyx
        · exact h.le_trans hyx (hx1 z hz)
      · exact hy1 z hz
    · next hlt =>
      refine List.pairwise_cons.2 ⟨fun z hz => ?_, mg_sorted h hx2 hy⟩
      rcases mem_mg hz with hz | hz
      · exact hx1 z hz
      · rcases List.mem_cons.1 hz with rfl | hz
        · exact hlt
        · exact h.le_trans hlt (hy1 z hz)
termination_by X Y => X.length + Y.length
theorem ssort_sorted (h : Ord cmp) (L : List α) : Sorted cmp (ssort cmp L) := by
  induction L using list_snoc with
  | h0 => exact List.Pairwise.nil
  | h1 L z ih => rw [ssort_snoc]; exact mg_sorted h ih (List.pairwise_singleton _ _)
theorem mg_parts : ∀ (X1 X2 Y1 Y2 : List α), (∀ y ∈ Y1, ∀ x ∈ X2, cmp y x < 0) → (∀ x ∈ X1, ∀ y ∈ Y2, ¬ cmp y x < 0) → mg cmp (X1 ++ X2) (Y1 ++ Y2) = mg cmp X1 Y1 ++ mg cmp X2 Y2
  | [], X2, [], Y2, _, _ => by rw [mg_nil_left]; rfl
  | [], X2, y :: Y1, Y2, h1, h2 => by
    have ih := mg_parts [] X2 Y1 Y2 (fun y hy => h1 y (by simp [hy])) h2
    rw [mg_nil_left] at ih ⊢
    cases X2 with
    | nil => simp only [List.nil_append, mg_nil_left, List.cons_append]
    | cons x X2 =>
      simp only [List.nil_append, List.cons_append] at ih ⊢
      rw [mg_cons, if_pos (h1 y (by simp) x (by simp)), ih]
  | x :: X1, X2, [], Y2, h1, h2 => by
    have ih := mg_parts X1 X2 [] Y2 h1 (fun x hx => h2 x (by simp [hx]))
    rw [mg_nil_right] at ih ⊢
    cases Y2 with
    | nil => simp only [List.append_nil, mg_nil_right]
    | cons y Y2 =>
      simp only [List.nil_append, List.cons_append] at ih ⊢
      rw [mg_cons, if_neg (h2 x (by simp) y (by simp)), ih]
  | x :: X1, X2, y :: Y1, Y2, h1, h2 => by
    simp only [List.cons_append]
    rw [mg_cons, mg_cons]
    split
    · have ih := mg_parts (x :: X1) X2 Y1 Y2 (fun y hy => h1 y (by simp [hy])) h2
      simp only [List.cons_append] at ih ⊢
      rw [ih]
    · have ih := mg_parts X1 X2 (y :: Y1) Y2 h1 (fun x hx => h2 x (by simp [hx]))
      simp only [List.cons_append] at ih ⊢
      rw [ih]
termination_by X1 X2 Y1 Y2 => X1.length + Y1.length
theorem mg_one (S1 S2 : List α) (x : α) (h1 : ∀ s ∈ S1, ¬ cmp x s < 0) (h2 : ∀ s ∈ S2, cmp x s < 0) : mg cmp (S1 ++ S2) [x] = S1 ++ x :: S2 := by
  have := mg_parts S1 S2 [] [x] (by intro y hy; cases hy) (by intro s hs y hy; rw [List.mem_singleton.1 hy]; exact h1 s hs)
  simp only [List.nil_append, mg_nil_right] at this
  rw [this]
  cases S2 with
  | nil => rw [mg_nil_left]
  | cons s S2 => rw [mg_cons, if_pos (h2 s (by simp)), mg_nil_right]
end Srt
end Go.Proofs.YtpahkaffknnjhaaGreatDoor
end

section
namespace Go.Proofs.YtpahkaffknnjhaaGreatDoor
set_option linter.unusedSimpArgs false
set_option linter.unusedVariables false
namespace Srt
variable {α : Type} {cmp : α → α → Int}
theorem Ord.self (h : Ord cmp) (x : α) : cmp x x = 0 := by have := h.anti x x; omega
theorem Ord.lt_of_le_of_lt (h : Ord cmp) {x y z : α} (h1 : ¬ cmp y x < 0) (h2 : cmp y z < 0) : cmp x z < 0 := by
  have e1 := h.anti x y
  have h3 := h.trans x y z (by omega) (by omega)
  rcases Int.lt_or_eq_of_le h3 with h5 | h5
  · exact h5
  · have e2 := h.anti x z
    have h6 := h.trans z x y (by omega) (by omega)
    have e3 := h.anti y z
    omega
theorem sorted_le (ho : Ord cmp) {L : List α} (h : Sorted cmp L) {i j : Nat} (hij : i ≤ j) (hj : j < L.length) : ¬ cmp L[j] (L[i]'(by omega)) < 0 := by
  by_cases e : i = j
  · subst e; rw [ho.self]; omega
  · exact (List.pairwise_iff_getElem.1 h) i j (by omega) hj (by omega)
theorem sorted_part {L M N : List α} (h : Sorted cmp L) (e : L = M ++ N) : Sorted cmp M ∧ Sorted cmp N := by
  subst e
  exact ⟨(List.pairwise_append.1 h).1, (List.pairwise_append.1 h).2.1⟩
theorem sym_cut (ho : Ord cmp) {X Y : List α} (hX : Sorted cmp X) (hY : Sorted cmp Y) (s t : Nat)
    (h1 : ∀ (h : 0 < t) (h' : s < X.length) (h'' : t ≤ Y.length), cmp (Y[t - 1]'(by omega)) X[s] < 0)
    (h2 : ∀ (h : 0 < s) (h' : t < Y.length) (h'' : s ≤ X.length), ¬ cmp Y[t] (X[s - 1]'(by omega)) < 0) (hs : s ≤ X.length) (ht : t ≤ Y.length) :
    mg cmp X Y = mg cmp (X.take s) (Y.take t) ++ mg cmp (X.drop s) (Y.drop t) := by
  have := mg_parts (cmp := cmp) (X.take s) (X.drop s) (Y.take t) (Y.drop t) ?_ ?_
  · rwa [List.take_append_drop, List.take_append_drop] at this
  · intro y hy x hx
    obtain ⟨i, hi, rfl⟩ := List.getElem_of_mem hy
    obtain ⟨j, hj, rfl⟩ := List.getElem_of_mem hx
    rw [List.length_take] at hi
    rw [List.length_drop] at hj
    rw [List.getElem_take, List.getElem_drop]
    have k1 := h1 (by omega) (by omega) ht
    have k2 := sorted_le ho hX (i := s) (j := s + j) (by omega) (by omega)
    have k3 := sorted_le ho hY (i := i) (j := t - 1) (by omega) (by omega)
    exact ho.lt_of_le_of_lt k3 (ho.lt_of_lt_of_le k1 k2)
  · intro x hx y hy
    obtain ⟨i, hi, rfl⟩ := List.getElem_of_mem hx
    obtain ⟨j, hj, rfl⟩ := List.getElem_of_mem hy
    rw [List.length_take] at hi
    rw [List.length_drop] at hj
    rw [List.getElem_take, List.getElem_drop]
    have k1 := h2 (by omega) (by omega) hs
    have k2 := sorted_le ho hX (i := i) (j := s - 1) (by omega) (by omega)
    have k3 := sorted_le ho hY (i := t) (j := t + j) (by omega) (by omega)
    exact ho.le_trans k2 (ho.le_trans k1 k3)
def nth [Inhabited α] (L : List α) (i : Nat) : α := L.getD i default
variable [Inhabited α]
theorem nth_in {L : List α} {i : Nat} (h : i < L.length) : nth L i = L[i] := by unfold nth; simp [List.getD, h]
theorem nth_mem {L : List α} {i : Nat} (h : i < L.length) : nth L i ∈ L := by rw [nth_in h]; exact List.getElem_mem h
theorem nth_fst {P X Y Q : List α} {k : Nat} (h1 : P.length ≤ k) (h2 : k < P.length + X.length) : nth (P ++ X ++ Y ++ Q) k = X[k - P.length]'(by omega) := by
  rw [nth_in (by simp; omega)]
  simp only [List.append_assoc]
  rw [List.getElem_append_right h1, List.getElem_append_left (by omega)]
theorem nth_snd {P X Y Q : List α} {k : Nat} (h1 : P.length + X.length ≤ k) (h2 : k < P.length + X.length + Y.length) : nth (P ++ X ++ Y ++ Q) k = Y[k - (P.length + X.length)]'(by omega) := by
  rw [nth_in (by simp; omega)]
  simp only [List.append_assoc]
  rw [List.getElem_append_right (by omega), List.getElem_append_right (by omega), List.getElem_append_left (by omega)]
  congr 1
  omega
theorem sym_fin (ho : Ord cmp) (P X Y Q : List α) (hX : Sorted cmp X) (hY : Sorted cmp Y) {a m b s e : Nat} (ha : P.length = a) (hm : a + X.length = m) (hb : m + Y.length = b)
    (has : a ≤ s) (hsm : s ≤ m) (hme : m ≤ e) (heb : e ≤ b)
    (h1 : s = m ∨ e = m ∨ cmp (nth (P ++ X ++ Y ++ Q) (e - 1)) (nth (P ++ X ++ Y ++ Q) s) < 0)
    (h2 : s = a ∨ e = b ∨ ¬ cmp (nth (P ++ X ++ Y ++ Q) e) (nth (P ++ X ++ Y ++ Q) (s - 1)) < 0) :
    ∃ X1 X2 Y1 Y2, X = X1 ++ X2 ∧ Y = Y1 ++ Y2 ∧ X1.length = s - a ∧ X2.length = m - s ∧ Y1.length = e - m ∧ Y2.length = b - e ∧ mg cmp X Y = mg cmp X1 Y1 ++ mg cmp X2 Y2 := by
  subst ha hm hb
  refine ⟨X.take (s - P.length), X.drop (s - P.length), Y.take (e - (P.length + X.length)), Y.drop (e - (P.length + X.length)), (List.take_append_drop _ _).symm, (List.take_append_drop _ _).symm, by rw [List.length_take]; omega, by rw [List.length_drop]; omega, by rw [List.length_take]; omega, by rw [List.length_drop]; omega, ?_⟩
  refine sym_cut ho hX hY _ _ ?_ ?_ (by omega) (by omega)
  · intro h h' h''
    rcases h1 with h1 | h1 | h1
    · omega
    · omega
    · rw [nth_fst (k := s) (by omega) (by omega), nth_snd (k := e - 1) (by omega) (by omega)] at h1
      have e1 : e - 1 - (P.length + X.length) = e - (P.length + X.length) - 1 := by omega
      simp only [e1] at h1
      exact h1
  · intro h h' h''
    rcases h2 with h2 | h2 | h2
    · omega
    · omega
    · rw [nth_fst (k := s - 1) (by omega) (by omega), nth_snd (k := e) (by omega) (by omega)] at h2
      have e1 : s - 1 - P.length = s - P.length - 1 := by omega
      simp only [e1] at h2
      exact h2
theorem one_fin (ho : Ord cmp) (P Y Q : List α) (x : α) (hY : Sorted cmp Y) {m b e : Nat} (hm : P.length + 1 = m) (hb : m + Y.length = b) (hme : m ≤ e) (heb : e ≤ b)
    (h1 : e = m ∨ cmp (nth (P ++ [x] ++ Y ++ Q) (e - 1)) x < 0) (h2 : e = b ∨ ¬ cmp (nth (P ++ [x] ++ Y ++ Q) e) x < 0) :
    ∃ Y1 Y2, Y = Y1 ++ Y2 ∧ Y1.length = e - m ∧ mg cmp [x] Y = Y1 ++ x :: Y2 := by
  have hx : nth (P ++ [x] ++ Y ++ Q) P.length = x := by rw [nth_fst (by omega) (by simp)]; simp
  obtain ⟨X1, X2, Y1, Y2, e1, e2, e3, e4, e5, e6, e7⟩ := sym_fin ho P [x] Y Q (List.pairwise_singleton _ _) hY (a := P.length) (m := m) (b := b) (s := P.length) (e := e) rfl hm hb (Nat.le_refl _) (by omega) hme heb (by rw [hx]; omega) (.inl rfl)
  obtain rfl : X1 = [] := List.eq_nil_of_length_eq_zero (by omega)
  rw [List.nil_append] at e1
  subst e1
  refine ⟨Y1, Y2, e2, e5, ?_⟩
  rw [e7, mg_nil_left]
  cases Y2 with
  | nil => rw [mg_nil_right]
  | cons y Y2 =>
    simp only [List.length_cons] at e6
    rw [mg_cons, if_neg, mg_nil_left]
    rcases h2 with h2 | h2
    · omega
    · rw [nth_snd (k := e) (by simp; omega) (by simp; omega)] at h2
      subst e2
      rw [List.getElem_append_right (by simp; omega)] at h2
      have e8 : e - (P.length + [x].length) - Y1.length = 0 := by simp; omega
      simp only [e8] at h2
      exact h2
theorem fin_one (ho : Ord cmp) (P X Q : List α) (y : α) (hX : Sorted cmp X) {a m s : Nat} (ha : P.length = a) (hm : a + X.length = m) (has : a ≤ s) (hsm : s ≤ m)
    (h1 : s = m ∨ cmp y (nth (P ++ X ++ [y] ++ Q) s) < 0) (h2 : s = a ∨ ¬ cmp y (nth (P ++ X ++ [y] ++ Q) (s - 1)) < 0) :
    ∃ X1 X2, X = X1 ++ X2 ∧ X1.length = s - a ∧ mg cmp X [y] = X1 ++ y :: X2 := by
  have hy : nth (P ++ X ++ [y] ++ Q) m = y := by rw [nth_snd (by omega) (by simp; omega)]; simp
  obtain ⟨X1, X2, Y1, Y2, e1, e2, e3, e4, e5, e6, e7⟩ := sym_fin ho P X [y] Q hX (List.pairwise_singleton _ _) (a := a) (m := m) (b := m + 1) (s := s) (e := m) ha hm rfl has hsm (Nat.le_refl _) (by omega) (.inr (.inl rfl)) (by rw [hy]; omega)
  obtain rfl : Y1 = [] := List.eq_nil_of_length_eq_zero (by omega)
  rw [List.nil_append] at e2
  subst e2
  refine ⟨X1, X2, e1, e3, ?_⟩
  rw [e7, mg_nil_right]
  cases X2 with
  | nil => rw [mg_nil_left]
  | cons x X2 =>
    simp only [List.length_cons] at e4
    rw [mg_cons, if_pos, mg_nil_right]
    rcases h1 with h1 | h1
    · omega
    · rw [nth_fst (k := s) (by omega) (by omega)] at h1
      subst e1
      rw [List.getElem_append_right (by omega)] at h1
      have e8 : s - P.length - X1.length = 0 := by omega
      simp only [e8] at h1
      exact h1
end Srt
end Go.Proofs.YtpahkaffknnjhaaGreatDoor
end

section
namespace Go.Proofs.YtpahkaffknnjhaaGreatDoor
set_option linter.unusedSimpArgs false
set_option linter.unusedVariables false
namespace Srt
variable {α : Type}
inductive Chk (cmp : α → α → Int) (bs : Nat) : List α → List α → Prop
  | last (L : List α) : L.length ≤ bs → Chk cmp bs (ssort cmp L) L
  | more (B S L : List α) : B.length = bs → Chk cmp bs S L → Chk cmp bs (ssort cmp B ++ S) (B ++ L)
variable {cmp : α → α → Int} {bs : Nat}
theorem Chk.perm {S L : List α} (h : Chk cmp bs S L) : S.Perm L := by
  induction h with
  | last L _ => exact ssort_perm cmp L
  | more B S L _ _ ih => exact (ssort_perm cmp B).append ih
theorem Chk.small {S L : List α} (h : Chk cmp bs S L) (hl : L.length ≤ bs) : S = ssort cmp L := by
  cases h with
  | last L _ => rfl
  | more B S L hB h =>
    rw [List.length_append] at hl
    obtain rfl : L = [] := List.eq_nil_of_length_eq_zero (by omega)
    obtain rfl : S = [] := List.eq_nil_of_length_eq_zero (by rw [h.perm.length_eq]; rfl)
    rw [List.append_nil, List.append_nil]
theorem Chk.cut {S L : List α} (h : Chk cmp bs S L) (hl : bs ≤ L.length) : ∃ B S' L', B.length = bs ∧ L = B ++ L' ∧ S = ssort cmp B ++ S' ∧ Chk cmp bs S' L' := by
  cases h with
  | last L h => exact ⟨L, [], [], by omega, (List.append_nil _).symm, (List.append_nil _).symm, .last [] (Nat.zero_le _)⟩
  | more B S L hB h => exact ⟨B, S, L, hB, rfl, rfl, h⟩
def Done (cmp : α → α → Int) (bs : Nat) (SD LD : List α) : Prop := SD.Perm LD ∧ ∀ S L, Chk cmp bs S L → Chk cmp bs (SD ++ S) (LD ++ L)
theorem Done.nil : Done cmp bs ([] : List α) [] := ⟨List.Perm.refl _, fun _ _ h => h⟩
theorem Done.more {SD LD : List α} (h : Done cmp bs SD LD) (B : List α) (hB : B.length = bs) : Done cmp bs (SD ++ ssort cmp B) (LD ++ B) :=
  ⟨h.1.append (ssort_perm cmp B), fun S L k => by rw [List.append_assoc, List.append_assoc]; exact h.2 _ _ (.more B S L hB k)⟩
theorem Done.len {SD LD : List α} (h : Done cmp bs SD LD) : SD.length = LD.length := h.1.length_eq
end Srt
end Go.Proofs.YtpahkaffknnjhaaGreatDoor
end

section
namespace Go.Proofs.YtpahkaffknnjhaaGreatDoor
set_option linter.unusedSimpArgs false
set_option linter.unusedVariables false
namespace Key
open Go.Op
theorem less_trans : ∀ a b c : List UInt8, bytesLess a b = true → bytesLess b c = true → bytesLess a c = true
  | [], [], _, h, _ => by simp [bytesLess] at h
  | [], _ :: _, [], _, h => by simp [bytesLess] at h
  | [], _ :: _, _ :: _, _, _ => by simp [bytesLess]
  | _ :: _, [], _, h, _ => by simp [bytesLess] at h
  | _ :: _, _ :: _, [], _, h => by simp [bytesLess] at h
  | x :: a, y :: b, z :: c, h1, h2 => by
    simp only [bytesLess, Bool.or_eq_true, Bool.and_eq_true, decide_eq_true_eq, beq_iff_eq] at h1 h2 ⊢
    rcases h1 with h1 | ⟨rfl, h1⟩
    · rcases h2 with h2 | ⟨rfl, h2⟩
      · left; rw [UInt8.lt_iff_toNat_lt] at *; omega
      · exact .inl h1
    · rcases h2 with h2 | ⟨rfl, h2⟩
      · exact .inl h2
      · exact .inr ⟨rfl, less_trans a b c h1 h2⟩
theorem less_asymm {a b : List UInt8} (h : bytesLess a b = true) : bytesLess b a = false := by
  cases h2 : bytesLess b a with
  | false => rfl
  | true => have := less_trans a b a h h2; rw [less_irrefl] at this; cases this
theorem less_neg {a b c : List UInt8} (h1 : bytesLess b a = false) (h2 : bytesLess c b = false) : bytesLess c a = false := by
  cases h3 : bytesLess c a with
  | false => rfl
  | true =>
    cases h4 : bytesLess a b with
    | true => rw [less_trans c a b h3 h4] at h2; cases h2
    | false => rw [less_total a b h4 h1] at h3; rw [h3] at h2; cases h2
theorem vless_asymm {a b : Va} (h : vless a b) : ¬ vless b a := by
  unfold vless at *
  rcases h with h | ⟨e, h⟩
  · rintro (h2 | ⟨e2, -⟩) <;> omega
  · rintro (h2 | ⟨e2, h2⟩)
    · omega
    · by_cases k2 : a.k = 2
      · rw [if_pos k2] at h
        rw [if_pos (by omega)] at h2
        rcases h with h | h <;> rcases h2 with h2 | h2
        · exact h.1 h2.2
        · exact h2.1 h.2
        · exact h.1 h2.2
        · omega
      · rw [if_neg k2] at h
        rw [if_neg (by omega)] at h2
        by_cases k3 : a.k = 3
        · rw [if_pos k3] at h
          rw [if_pos (by omega)] at h2
          rw [less_asymm h] at h2; cases h2
        · rw [if_neg k3] at h
          rw [if_neg (by omega)] at h2
          omega
theorem vless_neg {a b c : Va} (h1 : ¬ vless b a) (h2 : ¬ vless c b) : ¬ vless c a := by
  unfold vless at *
  rintro (h3 | ⟨e, h3⟩)
  · have := fun h => h1 (.inl h)
    have := fun h => h2 (.inl h)
    omega
  · have ha := fun h => h1 (.inl h)
    have hb := fun h => h2 (.inl h)
    have e1 : b.k = a.k := by omega
    have e2 : c.k = b.k := by omega
    have h1 : ¬ _ := fun h => h1 (.inr ⟨e1, h⟩)
    have h2 : ¬ _ := fun h => h2 (.inr ⟨e2, h⟩)
    by_cases k2 : a.k = 2
    · rw [if_pos (by omega)] at h1 h2 h3
      by_cases na : fnan a.f <;> by_cases nb : fnan b.f <;> by_cases nc : fnan c.f <;> simp [na, nb, nc] at h1 h2 h3
      omega
    · rw [if_neg (by omega)] at h1 h2 h3
      by_cases k3 : a.k = 3
      · rw [if_pos (by omega)] at h1 h2 h3
        have := less_neg (by simpa using h1) (by simpa using h2)
        rw [this] at h3; cases h3
      · rw [if_neg (by omega)] at h1 h2 h3
        omega
theorem vord_le {a b : Va} : vord a b ≤ 0 ↔ ¬ vless b a := by
  unfold vord
  by_cases h : vless a b
  · rw [if_pos h]; have := vless_asymm h; simp [this]
  · rw [if_neg h]
    by_cases h2 : vless b a
    · rw [if_pos h2]; simp [h2]
    · rw [if_neg h2]; simp [h2]
theorem vord_ord : Srt.Ord vord where
  anti a b := by
    unfold vord
    by_cases h : vless a b
    · simp [h, vless_asymm h]
    · by_cases h2 : vless b a
      · simp [h, h2]
      · simp [h, h2]
  trans a b c h1 h2 := vord_le.2 (vless_neg (vord_le.1 h1) (vord_le.1 h2))
end Key
namespace Srt
theorem Ord.on {α β : Type} {cmp : α → α → Int} (h : Ord cmp) (f : β → α) : Ord fun x y => cmp (f x) (f y) := ⟨fun x y => h.anti _ _, fun x y z => h.trans _ _ _⟩
theorem Ord.eq_trans {α : Type} {cmp : α → α → Int} (h : Ord cmp) {x y z : α} (h1 : cmp x y = 0) (h2 : cmp y z = 0) : cmp x z = 0 := by
  have a1 := h.trans x y z (by omega) (by omega)
  have a2 := h.trans z y x (by rw [h.anti]; omega) (by rw [h.anti]; omega)
  have a3 := h.anti x z
  omega
theorem Ord.eq_left {α : Type} {cmp : α → α → Int} (h : Ord cmp) {x y : α} (z : α) (h1 : cmp x y = 0) : (cmp x z < 0 ↔ cmp y z < 0) ∧ (cmp x z = 0 ↔ cmp y z = 0) := by
  have e := h.anti x y
  have k1 : ∀ {x y : α}, cmp x y = 0 → cmp x z < 0 → cmp y z < 0 := fun {x y} h1 h2 => by
    have e := h.anti x y
    exact h.lt_of_le_of_lt (by omega) h2
  have k2 : ∀ {x y : α}, cmp x y = 0 → cmp x z = 0 → cmp y z = 0 := fun {x y} h1 h2 => h.eq_trans (by have := h.anti x y; omega) h2
  exact ⟨⟨k1 h1, k1 (by omega)⟩, ⟨k2 h1, k2 (by omega)⟩⟩
end Srt
namespace Ev
open Key
theorem ordR_ord : ∀ l : List So, Srt.Ord (ordR l)
  | [] => ⟨fun _ _ => rfl, fun _ _ _ _ _ => Int.le_refl 0⟩
  | s :: l => by
    have ih := ordR_ord l
    have hv := vord_ord
    refine ⟨fun a b => ?_, fun a b c => ?_⟩
    · unfold ordR
      have e := hv.anti (atV a s.at_) (atV b s.at_)
      rw [e]
      by_cases h : vord (atV a s.at_) (atV b s.at_) = 0
      · rw [if_pos h, if_pos (by omega), ih.anti]
      · rw [if_neg h, if_neg (by omega)]
        split <;> omega
    · unfold ordR
      generalize atV a s.at_ = x
      generalize atV b s.at_ = y
      generalize atV c s.at_ = z
      have exy := hv.anti x y
      have eyz := hv.anti y z
      have exz := hv.anti x z
      have hlx := hv.eq_left (x := x) (y := y) z
      by_cases h1 : vord x y = 0
      · rw [if_pos h1]
        have hl := hlx h1
        by_cases h2 : vord y z = 0
        · rw [if_pos h2, if_pos (hl.2.2 h2)]
          exact ih.trans a b c
        · rw [if_neg h2, if_neg (fun h => h2 (hl.2.1 h))]
          have hr1 := vord_range x z
          have hr2 := vord_range y z
          have hr3 := hl.1
          have hr4 := hl.2
          split <;> intro _ _ <;> omega
      · rw [if_neg h1]
        have hr1 := vord_range x y
        by_cases h2 : vord y z = 0
        · rw [if_pos h2]
          have hl := hv.eq_left (x := y) (y := z) x h2
          have ezx := hv.anti z x
          have hr3 := hl.1
          have hr4 := hl.2
          have h3 : ¬ vord x z = 0 := by omega
          rw [if_neg h3]
          have hr2 := vord_range x z
          split <;> intro _ _ <;> omega
        · rw [if_neg h2]
          have hr2 := vord_range y z
          have hr3 := vord_range x z
          have t1 := hv.lt_trans (x := x) (y := y) (z := z)
          have t2 := hv.lt_trans (x := z) (y := y) (z := x)
          have e1 := hv.anti z x
          have e2 := hv.anti z y
          have e3 := hv.anti y x
          split
          · intro k1 k2
            have := t2 (by omega) (by omega)
            rw [if_neg (by omega)]; omega
          · intro k1 k2
            have := t1 (by omega) (by omega)
            rw [if_neg (by omega)]; omega
end Ev
end Go.Proofs.YtpahkaffknnjhaaGreatDoor
end

section
namespace Go.Proofs.YtpahkaffknnjhaaGreatDoor
set_option linter.unusedSimpArgs false
set_option linter.unusedVariables false
open Go.Op
namespace Run
abbrev Bs := List UInt8
def cmp (a b : Bs) : Int := Lib.compareBytes a b
theorem cmp_lt {a b : Bs} : cmp a b < 0 ↔ bytesLess a b = true := by
  unfold cmp
  rw [Ev.cmpB]
  split
  · next h => simp [h]
  · next h =>
    have : bytesLess a b = false := by simpa using h
    rw [this]
    split <;> simp
theorem cmp_ord : Srt.Ord cmp where
  anti x y := by
    unfold cmp
    rw [Ev.cmpB x y, Ev.cmpB y x]
    cases h1 : bytesLess x y <;> cases h2 : bytesLess y x <;> simp
    have := Key.less_asymm h1
    rw [h2] at this
    cases this
  trans x y z h1 h2 := by
    have k1 : bytesLess y x = false := by
      cases h : bytesLess y x with
      | false => rfl
      | true =>
        exfalso
        have h' := Key.less_asymm h
        unfold cmp at h1
        rw [Ev.cmpB, h', h] at h1
        simp at h1
    have k2 : bytesLess z y = false := by
      cases h : bytesLess z y with
      | false => rfl
      | true =>
        exfalso
        have h' := Key.less_asymm h
        unfold cmp at h2
        rw [Ev.cmpB, h', h] at h2
        simp at h2
    have k3 := Key.less_neg k1 k2
    unfold cmp
    rw [Ev.cmpB, k3]
    split <;> simp
theorem cmp_eq : ∀ {a b : Bs}, cmp a b = 0 → a = b
  | [], [], _ => rfl
  | [], _ :: _, h => by simp [cmp, Lib.compareBytes] at h
  | _ :: _, [], h => by simp [cmp, Lib.compareBytes] at h
  | x :: a, y :: b, h => by
    unfold cmp Lib.compareBytes at h
    split at h
    · simp at h
    · next h1 =>
      split at h
      · simp at h
      · next h2 =>
        have e : x = y := UInt8.toNat_inj.1 (by have k1 : ¬ x.toNat < y.toNat := fun k => h1 (UInt8.lt_iff_toNat_lt.2 k); have k2 : ¬ y.toNat < x.toNat := fun k => h2 (UInt8.lt_iff_toNat_lt.2 k); omega)
        rw [e, cmp_eq (a := a) (b := b) h]
def parts (cols : List Int) (row : List Va) : Bs := cols.flatMap fun c => Key.part (Ev.atV row c)
def key (cols : List Int) (row : List Va) (id : Int) : Bs := parts cols row ++ Key.id id
def keysU (cols : List Int) (i : Nat) : List (List Va) → List Bs
  | [] => []
  | r :: l => key cols r (i + 1 : Nat) :: keysU cols (i + 1) l
def keys (cols : List Int) (rows : List (List Va)) : List Bs := Srt.ssort cmp (keysU cols 0 rows)
theorem keysU_len (cols : List Int) : ∀ (l : List (List Va)) (i : Nat), (keysU cols i l).length = l.length
  | [], _ => rfl
  | _ :: l, i => by show (keysU cols (i + 1) l).length + 1 = _; rw [keysU_len cols l]; rfl
theorem keysU_snoc (cols : List Int) : ∀ (l : List (List Va)) (r : List Va) (i : Nat), keysU cols i (l ++ [r]) = keysU cols i l ++ [key cols r (i + l.length + 1 : Nat)]
  | [], r, i => by simp [keysU]
  | x :: l, r, i => by
    show key cols x _ :: keysU cols (i + 1) (l ++ [r]) = key cols x _ :: (keysU cols (i + 1) l ++ _)
    rw [keysU_snoc cols l r (i + 1), show i + 1 + l.length + 1 = i + (x :: l).length + 1 by simp; omega]
theorem keysU_take (cols : List Int) (l : List (List Va)) (k : Nat) (hk : k < l.length) : keysU cols 0 (l.take (k + 1)) = keysU cols 0 (l.take k) ++ [key cols l[k] (k + 1 : Nat)] := by
  rw [List.take_succ_eq_append_getElem hk, keysU_snoc, List.length_take, Nat.min_eq_left (Nat.le_of_lt hk), Nat.zero_add]
theorem parts_take (cols : List Int) (row : List Va) (k : Nat) (hk : k < cols.length) : parts (cols.take (k + 1)) row = parts (cols.take k) row ++ Key.part (Ev.atV row cols[k]) := by
  unfold parts
  rw [List.take_succ_eq_append_getElem hk, List.flatMap_append]
  simp
theorem clean_small {v : Va} {n : Nat} (h : v.s.length ≤ n) : (Key.clean v).s.length ≤ n := by
  unfold Key.clean Key.cleanF
  (repeat' split) <;> first | exact h | exact Nat.zero_le _
theorem at_small {row : List Va} {n : Nat} (h : ∀ v ∈ row, v.s.length ≤ n) (i : Int) : (Ev.atV row i).s.length ≤ n := by
  unfold Ev.atV
  split
  · refine clean_small ?_
    unfold Ev.nth
    rw [List.getD_eq_getElem?_getD]
    cases hx : row[i.toNat]? with
    | none => exact Nat.zero_le _
    | some v => exact h v (List.mem_of_getElem? hx)
  · exact Nat.zero_le _
theorem dv_small {s v : Va} (h : Ev.Dv s v) {n : Nat} (hs : s.s.length ≤ n) : v.s.length ≤ n ∧ Key.part (Key.dclean v) = Key.part s := by
  refine ⟨?_, ?_⟩
  · rw [← h.eq] at hs
    by_cases k3 : v.k = 3
    · rw [Va.clean3 k3] at hs; exact hs
    · rw [h.cl.ss k3]; exact Nat.zero_le _
  · rw [← Key.part_clean, h.eq]
end Run
end Go.Proofs.YtpahkaffknnjhaaGreatDoor
end

section
namespace Go.Proofs.YtpahkaffknnjhaaGreatDoor
set_option linter.unusedSimpArgs false
set_option linter.unusedVariables false
namespace Ev
open Key
def intsOf (vs : List Va) : List Int := (vs.filter fun v => v.k == 1).map (·.n)
def sumV (vs : List Va) : Va := if intsOf vs = [] then nul else intV (fit (intsOf vs).sum)
def bestStep (k : Int) (b v : Va) : Va := if v.k ≠ 0 ∧ (b.k = 0 ∨ k = 12 ∧ vord v b < 0 ∨ k = 13 ∧ 0 < vord v b) then v else b
def bestV (k : Int) (vs : List Va) : Va := vs.foldl (bestStep k) nul
def argV (n : Nd) (row : List Va) : Va := nth (evalL row n.args) 0
def argsV (n : Nd) (rows : List Rw) : List Va := rows.map fun r => argV n r.l
def foldV (n : Nd) (rows : List Rw) : Va :=
  if n.k = 10 then ⟨1, ((min rows.length 2147483647 : Nat) : Int), 0, []⟩ else if n.k = 11 then sumV (argsV n rows) else bestV n.k (argsV n rows)
def firstR (g : List Rw) : Rw := g.headD default
def itemV (n : Nd) (g : List Rw) : Va := if 10 ≤ n.k ∧ n.k ≤ 13 then foldV n g else eval (firstR g).l n
def rowV (items : List Nd) (g : List Rw) : List Va := items.map fun n => itemV n g
def rcmp (l : List So) (x y : Rw) : Int := ordR l x.l y.l
def gcmp (l : List So) (x y : List Rw) : Int := ordR l (firstR x).l (firstR y).l
theorem rcmp_ord (l : List So) : Srt.Ord (rcmp l) := (ordR_ord l).on Rw.l
theorem gcmp_ord (l : List So) : Srt.Ord (gcmp l) := (ordR_ord l).on fun g => (firstR g).l
def consG (cmp : Rw → Rw → Int) (x : Rw) : List (List Rw) → List (List Rw)
  | [] => [[x]]
  | g :: G => if cmp x (firstR g) = 0 then (x :: g) :: G else [x] :: g :: G
def runs (cmp : Rw → Rw → Int) : List Rw → List (List Rw)
  | [] => []
  | x :: S => consG cmp x (runs cmp S)
def snocG (cmp : Rw → Rw → Int) (G : List (List Rw)) (p : Option Rw) (z : Rw) : List (List Rw) :=
  match p with
  | none => G ++ [[z]]
  | some p => if cmp p z = 0 then G.dropLast ++ [(G.getLastD []) ++ [z]] else G ++ [[z]]
theorem runs_ne (cmp : Rw → Rw → Int) {S : List Rw} (h : S ≠ []) : runs cmp S ≠ [] := by
  cases S with
  | nil => exact absurd rfl h
  | cons x S =>
    show consG cmp x _ ≠ []
    unfold consG
    cases runs cmp S with
    | nil => simp
    | cons g G => dsimp only; split <;> simp
theorem runs_first (cmp : Rw → Rw → Int) (x : Rw) (S : List Rw) : ∃ g G, runs cmp (x :: S) = (x :: g) :: G := by
  show ∃ g G, consG cmp x _ = _
  unfold consG
  cases runs cmp S with
  | nil => exact ⟨[], [], rfl⟩
  | cons g G =>
    dsimp only
    split
    · exact ⟨g, G, rfl⟩
    · exact ⟨[], g :: G, rfl⟩
theorem runs_snoc {cmp : Rw → Rw → Int} : ∀ (S : List Rw) (p z : Rw), runs cmp (S ++ [p, z]) = snocG cmp (runs cmp (S ++ [p])) (some p) z
  | [], p, z => by
    show consG cmp p (consG cmp z []) = snocG cmp (consG cmp p []) (some p) z
    show consG cmp p [[z]] = snocG cmp [[p]] (some p) z
    by_cases h : cmp p z = 0 <;> simp [consG, snocG, firstR, h]
  | x :: S, p, z => by
    have ih := runs_snoc (cmp := cmp) S p z
    show consG cmp x (runs cmp (S ++ [p, z])) = snocG cmp (consG cmp x (runs cmp (S ++ [p]))) (some p) z
    rw [ih]
    obtain ⟨y, T, hy⟩ : ∃ y T, S ++ [p] = y :: T := by cases S with
      | nil => exact ⟨p, [], rfl⟩
      | cons y S => exact ⟨y, S ++ [p], rfl⟩
    rw [hy]
    obtain ⟨g, G, hg⟩ := runs_first cmp y T
    rw [hg]
    unfold snocG
    dsimp only
    by_cases h : cmp p z = 0
    · rw [if_pos h, if_pos h]
      cases G with
      | nil =>
        show consG cmp x [(y :: g) ++ [z]] = _
        by_cases h2 : cmp x y = 0 <;> simp [consG, firstR, h2]
      | cons g2 G =>
        show consG cmp x ((y :: g) :: ((g2 :: G).dropLast ++ [_])) = _
        by_cases h2 : cmp x y = 0 <;> simp [consG, firstR, h2, List.dropLast, List.getLastD]
    · rw [if_neg h, if_neg h]
      by_cases h2 : cmp x y = 0 <;> simp [consG, firstR, h2]
def byOf (group : List Int) : List So := group.map fun i => ⟨i, false⟩
def baseG (grouped : Bool) (group : List Int) (rows : List Rw) : List (List Rw) :=
  if grouped then (if group = [] then [rows] else runs (rcmp (byOf group)) (Srt.ssort (rcmp (byOf group)) rows)) else rows.map fun r => [r]
def groupsV (grouped : Bool) (group : List Int) (order : List So) (rows : List Rw) : List (List Rw) := Srt.ssort (gcmp order) (baseG grouped group rows)
def limit {α : Type} (n : Int) (l : List α) : List α := if 0 ≤ n ∧ n < (l.length : Int) then l.take n.toNat else l
def answerV (grouped : Bool) (group : List Int) (items : List Nd) (order : List So) (lim : Int) (rows : List Rw) : List (List Va) := (limit lim (groupsV grouped group order rows)).map (rowV items)
end Ev
end Go.Proofs.YtpahkaffknnjhaaGreatDoor
end

section
namespace Go.Proofs.YtpahkaffknnjhaaGreatDoor
set_option linter.unusedSimpArgs false
set_option linter.unusedVariables false
open Go.RowKit
set_option maxRecDepth 20000 in
set_option maxHeartbeats 4000000 in
theorem totadd_any (w : World) (g : Nat) (h l n : Int) (s : Bool) (hl0 : 0 ≤ l) (hl1 : l < 18446744073709551616) (hh0 : -4611686018427387904 ≤ h) (hh1 : h ≤ 4611686018427387904) (hn : Ev.inR n) (hb : Blk w g 171 [.int .i64 h, .int .u64 l, .bool s]) :
    Calls Tryz.prog 122 #[.pointer (some ⟨g, 0, none⟩), .int .i64 n] w fun e w' => e = .returned (.tuple #[]) ∧ w.grownBy w' (some g) ∧ ∃ h' l' : Int, 0 ≤ l' ∧ l' < 18446744073709551616 ∧ h - 1 ≤ h' ∧ h' ≤ h + 1 ∧ h' * 18446744073709551616 + l' = h * 18446744073709551616 + l + n ∧ Blk w' g 171 [.int .i64 h', .int .u64 l', .bool true] := by
  have hadd : ∀ (x y : Int) (w : World), 0 ≤ x → 0 ≤ y → (callFunc 152 #[.int .u64 x, .int .u64 y, .int .u64 0]).run Tryz.prog w = .ok (.value (.tuple #[.int .u64 ((x + y) % 18446744073709551616), .int .u64 ((x + y) / 18446744073709551616)])) w := by
    intro x y w hx hy
    rw [run_callFunc_extern Tryz.func152 (by kernel_rfl) (by kernel_rfl) (by kernel_rfl) (e := add64Entry) (by kernel_rfl), run_add64 x y 0 hx hy (by omega) (by omega)]
    simp only [Result.andThen, Int.add_zero]
  obtain ⟨q0, q1, q2, f0, f1, f2, -⟩ := Blk.c3 hb
  have HB := Lib.hid hb
  unfold Ev.inR at hn
  clear hb
  go_enter Tryz.func122, Tryz.ntmps122
  go_wp2_with fail
  have e1 : IntKind.u64.wrap n = if n < 0 then n + 18446744073709551616 else n := by
    show n % 18446744073709551616 = _
    split <;> omega
  have e2 : n / 9223372036854775808 = if n < 0 then -1 else 0 := by split <;> omega
  rw [e1, e2]
  obtain ⟨u, hu⟩ : ∃ u, (if n < 0 then n + 18446744073709551616 else n) = u := ⟨_, rfl⟩
  obtain ⟨b, hb⟩ : ∃ b : Int, (if n < 0 then -1 else 0) = b := ⟨_, rfl⟩
  have hub : u = n - b * 18446744073709551616 ∧ (b = 0 ∨ b = -1) ∧ 0 ≤ u ∧ u < 18446744073709551616 := by
    rw [← hu, ← hb]
    split <;> refine ⟨by omega, by omega, by omega, by omega⟩
  rw [hu, hb]
  have hw1 : wrap64 ((l + u) / 18446744073709551616) = (l + u) / 18446744073709551616 := Ev.wrap_in ⟨by omega, by omega⟩
  have hw2 : wrap64 (b + (l + u) / 18446744073709551616) = b + (l + u) / 18446744073709551616 := Ev.wrap_in ⟨by omega, by omega⟩
  have hw3 : wrap64 (h + (b + (l + u) / 18446744073709551616)) = h + (b + (l + u) / 18446744073709551616) := Ev.wrap_in ⟨by omega, by omega⟩
  rw [hw1, hw2, hw3]
  go_end0
  exact ⟨rfl, ((grown_store w g 1 _).set_ ⟨g, 2, none⟩ rfl _).set_ ⟨g, 0, none⟩ rfl _, h + (b + (l + u) / 18446744073709551616), (l + u) % 18446744073709551616, by omega, by omega, by omega, by omega, by omega, HB.out.set1.set2.set0⟩
set_option maxRecDepth 20000 in
set_option maxHeartbeats 4000000 in
theorem totval_any (w : World) (g : Nat) (h l : Int) (s : Bool) (hl0 : 0 ≤ l) (hl1 : l < 18446744073709551616) (hh0 : -4611686018427387904 ≤ h) (hh1 : h ≤ 4611686018427387904) (hb : Blk w g 171 [.int .i64 h, .int .u64 l, .bool s]) :
    Calls Tryz.prog 123 #[.pointer (some ⟨g, 0, none⟩)] w (RetV w (if s then Ev.intV (Ev.fit (h * 18446744073709551616 + l)) else Key.nul)) := by
  have HB := Lib.hid hb
  obtain ⟨d, hd⟩ : ∃ d, (if s then Ev.intV (Ev.fit (h * 18446744073709551616 + l)) else Key.nul) = d := ⟨_, rfl⟩
  rw [hd]
  obtain ⟨m, hm⟩ : ∃ m, wrap64 l = m := ⟨_, rfl⟩
  obtain ⟨k, hk⟩ : ∃ k, m / 9223372036854775808 = k := ⟨_, rfl⟩
  have hmw : (m = l ∧ l < 9223372036854775808) ∨ (m = l - 18446744073709551616 ∧ 9223372036854775808 ≤ l) := by rw [← hm]; unfold wrap64; omega
  have HF : Hid (h = k → Ev.intV (Ev.fit (h * 18446744073709551616 + l)) = ⟨1, m, 0, []⟩) := fun e => by
    rw [Ev.fit_in (by unfold Ev.inR; omega)]
    show (⟨1, _, 0, []⟩ : Va) = _
    congr 1
    omega
  have HG : Hid (h ≠ k → Ev.intV (Ev.fit (h * 18446744073709551616 + l)) = Key.nul) := fun e => by
    rw [Ev.fit_out (by unfold Ev.inR; omega)]
    rfl
  have HD := Lib.hid hd
  clear hb hd hmw
  go_enter Tryz.func123, Tryz.ntmps123
  go_upto_region 1 with (refine wpList_alloc_va rfl rfl ?_; intro W1 hb1 hz1 hB1)
  have HB1 := Lib.hid hB1
  obtain ⟨q0, q1, q2, f0, f1, f2, hgl⟩ := Blk.c3 (HB.out.below hB1)
  clear hB1 hz1
  cases s with
  | false =>
    have HD2 : Hid (d = Key.nul) := by show _ = _; rw [← HD.out]; rfl
    go_wp2_with (first | (refine wpList_store_va rfl rfl (.tmp 2) (.tmp 23) rfl w.heap.size rfl Key.nul rfl hb1 ?_; intro W4 hb4 hg4))
    exact ret_va hb4 rfl rfl rfl ⟨by rw [HD2.out], below_of_grown HB1.out hg4 (Nat.le_refl _) HB1.out.size⟩
  | true =>
    by_cases hhk : h = k
    · have HD2 : Hid (d = ⟨1, m, 0, []⟩) := by show _ = _; rw [← HD.out]; exact HF.out hhk
      subst hhk
      go_wp2_with fail
      clear hk hm
      refine (ofint_any _ m).mono ?_
      rintro e W3 ⟨rfl, hB3⟩
      have hb3 := hb1.below hB3
      have HB3 := Lib.hid (HB1.out.then hB3)
      clear hB3 q0 q1 q2 f0 f1 f2
      go_wp2_with (refine wpList_store_va rfl rfl (.tmp 2) (.tmp 25) rfl w.heap.size rfl ⟨1, m, 0, []⟩ rfl hb3 ?_; intro W4 hb4 hg4)
      exact ret_va hb4 rfl rfl rfl ⟨by rw [HD2.out], below_of_grown HB3.out hg4 (Nat.le_refl _) HB3.out.size⟩
    · have HD2 : Hid (d = Key.nul) := by show _ = _; rw [← HD.out]; exact HG.out hhk
      have hne : (h != k) = true := by simpa using hhk
      go_wp2_with (first | (refine wpList_store_va rfl rfl (.tmp 2) (.tmp 23) rfl w.heap.size rfl Key.nul rfl hb1 ?_; intro W4 hb4 hg4))
      exact ret_va hb4 rfl rfl rfl ⟨by rw [HD2.out], below_of_grown HB1.out hg4 (Nat.le_refl _) HB1.out.size⟩
end Go.Proofs.YtpahkaffknnjhaaGreatDoor
end

