/-
  Texts of a proof, one behind the other (each with its own head).
-/
import Derived.Test.YtjdffhonljhpcaaPartDpomebapi
import Derived.Defers
section
/-
  The document's sums and products of whole numbers.
-/
namespace Go.Proofs.Ytjdffhonljhpcaa
set_option linter.unusedSimpArgs false
set_option linter.unusedVariables false
open Go.RowKit

theorem u64w (n : Int) : IntKind.u64.wrap n = n % 18446744073709551616 := by rw [IntKind.wrap_u64]
set_option maxRecDepth 100000 in
theorem rsize_any (w : World) (n : Int) (h : Ev.inR n) : Calls Try.prog 156 #[.int .i64 n] w fun e w' => e = .returned (.int .u64 (n.natAbs : Nat)) ∧ w = w' := by
  have HN := Lib.hid h
  clear h
  by_cases h0 : n < 0
  · have HV : Hid (IntKind.u64.wrap (IntKind.u64.wrap (wrap64 (-wrap64 (n + 1))) + 1) = (n.natAbs : Nat)) := by
      show _ = _
      have := HN.out
      rw [u64w, u64w]
      unfold Ev.inR wrap64 at *
      omega
    go_enter Try.func156, Try.ntmps156
    go_wp2_with fail
    go_ret
    exact ⟨by rw [← HV.out]; rfl, rfl⟩
  · have HV : Hid (IntKind.u64.wrap n = (n.natAbs : Nat)) := by
      show _ = _
      have := HN.out
      rw [u64w]
      unfold Ev.inR at *
      omega
    go_enter Try.func156, Try.ntmps156
    go_wp2_with fail
    go_ret
    exact ⟨by rw [← HV.out]; rfl, rfl⟩
set_option maxRecDepth 100000 in
theorem rwhole_any (w : World) (x : Bool) (n : Nat) (h : n < two64) : Calls Try.prog 157 #[.bool x, .int .u64 (n : Int)] w (RetW w (Ev.fit (if x then -(n : Int) else n))) := by
  have HN : Hid (n < 18446744073709551616) := by show _ < _; rw [← two64_eq]; exact h
  clear h
  cases x
  · rw [if_neg (by decide)]
    go_enter Try.func157, Try.ntmps157
    go_wp2_with fail
    refine bodyPost_ret (v := .tuple #[.int .i64 (wrap64 n), .bool (decide ((n : Int) < 9223372036854775808))]) (by simp [results, Try.results157, go_sem]) rfl ?_
    refine retW_of rfl ?_ (fun h => Ev.wrap_in h)
    simp only [decide_eq_true_eq]
    unfold Ev.inR
    omega
  · rw [if_pos rfl]
    by_cases h0 : n = 0
    · subst h0
      go_enter Try.func157, Try.ntmps157
      go_wp2_with fail
      refine bodyPost_ret (v := .tuple #[.int .i64 0, .bool true]) (by simp [results, Try.results157, go_sem]) rfl ?_
      exact retW_of rfl ⟨fun _ => by decide, fun _ => rfl⟩ (fun _ => rfl)
    have hp : 0 < (n : Int) := by omega
    have HV : Hid (n ≤ 9223372036854775808 → wrap64 (wrap64 (-wrap64 (IntKind.u64.wrap ((n : Int) - 1))) - 1) = -(n : Int)) := by
      intro hh
      rw [u64w]
      unfold wrap64
      omega
    go_enter Try.func157, Try.ntmps157
    go_wp2_with fail
    refine bodyPost_ret (v := .tuple #[.int .i64 (wrap64 (wrap64 (-wrap64 (IntKind.u64.wrap ((n : Int) - 1))) - 1)), .bool (decide ((n : Int) ≤ 9223372036854775808))]) (by simp [results, Try.results157, go_sem]) rfl ?_
    refine retW_of rfl ?_ (fun h => HV.out (by unfold Ev.inR at h; omega))
    simp only [decide_eq_true_eq]
    unfold Ev.inR
    omega
theorem rwhole_true (w : World) (n : Nat) (v : Int) (h : n < two64) (hv : v = -(n : Int)) : Calls Try.prog 157 #[.bool true, .int .u64 (n : Int)] w (RetW w (Ev.fit v)) := by
  have := rwhole_any w true n h
  rw [if_pos rfl] at this
  rw [hv]; exact this
theorem rwhole_false (w : World) (n : Nat) (v : Int) (h : n < two64) (hv : v = (n : Int)) : Calls Try.prog 157 #[.bool false, .int .u64 (n : Int)] w (RetW w (Ev.fit v)) := by
  have := rwhole_any w false n h
  rw [if_neg (by decide)] at this
  rw [hv]; exact this
theorem retW_eq {w : World} {r r' : Option Int} (h : r = r') {e : Ending} {w' : World} (hr : RetW w r e w') : RetW w r' e w' := h ▸ hr
set_option maxRecDepth 100000 in
set_option maxHeartbeats 4000000 in
theorem radd_any (w : World) (a b : Int) (ha : Ev.inR a) (hb : Ev.inR b) : Calls Try.prog 136 #[.int .i64 a, .int .i64 b] w (RetW w (Ev.fit (a + b))) := by
  have HA := Lib.hid ha
  have HB := Lib.hid hb
  have hx : a.natAbs ≤ 9223372036854775808 := by unfold Ev.inR at ha; omega
  have hy : b.natAbs ≤ 9223372036854775808 := by unfold Ev.inR at hb; omega
  clear ha hb
  go_enter Try.func136, Try.ntmps136
  go_wp2_with fail
  refine (rsize_any _ a HA.out).mono ?_
  rintro e wq ⟨rfl, rfl⟩
  go_wp2_with fail
  refine (rsize_any _ b HB.out).mono ?_
  rintro e wq ⟨rfl, rfl⟩
  obtain ⟨x, hxe⟩ : ∃ x, a.natAbs = x := ⟨_, rfl⟩
  obtain ⟨y, hye⟩ : ∃ y, b.natAbs = y := ⟨_, rfl⟩
  have HX : Hid (a = x ∨ a = -x) := by show _ ∨ _; omega
  have HY : Hid (b = y ∨ b = -y) := by show _ ∨ _; omega
  have HXE := Lib.hid hxe
  have HYE := Lib.hid hye
  rw [hxe] at hx ⊢
  rw [hye] at hy ⊢
  by_cases hs : a < 0 ↔ b < 0
  · have hw : IntKind.u64.wrap (9223372036854775808 - (y : Int)) = 9223372036854775808 - y := by rw [u64w]; omega
    clear hxe hye
    by_cases hg : 9223372036854775808 < x + y
    · have hgt : (9223372036854775808 : Int) - y < x := by omega
      have HNO : Hid (¬ Ev.inR (a + b)) := by
        show ¬ _
        have h1 := HX.out; have h2 := HY.out; have h3 := HXE.out; have h4 := HYE.out
        unfold Ev.inR
        omega
      by_cases ha : a < 0
      · have hb : b < 0 := hs.1 ha
        clear hs hg hx hy
        go_wp2_with fail
        refine bodyPost_ret (v := .tuple #[.int .i64 0, .bool false]) (by simp [results, Try.results136, go_sem]) rfl ?_
        rw [Ev.fit_out HNO.out]
        exact ⟨0, rfl, (by intro z hz; cases hz), rfl⟩
      · have hb : ¬ b < 0 := fun h => ha (hs.2 h)
        clear hs hg hx hy
        go_wp2_with fail
        refine bodyPost_ret (v := .tuple #[.int .i64 0, .bool false]) (by simp [results, Try.results136, go_sem]) rfl ?_
        rw [Ev.fit_out HNO.out]
        exact ⟨0, rfl, (by intro z hz; cases hz), rfl⟩
    · have hgt : ¬ (9223372036854775808 : Int) - y < x := by omega
      obtain ⟨z, hz⟩ : ∃ z : Nat, IntKind.u64.wrap ((x : Int) + y) = (z : Int) := ⟨x + y, by rw [u64w]; omega⟩
      have hzz : z = x + y := by rw [u64w] at hz; omega
      by_cases ha : a < 0
      · have hb : b < 0 := hs.1 ha
        have HWL : Hid (z < two64) := by show _ < _; rw [two64_eq]; omega
        have HEQ : Hid (a + b = -(z : Int)) := by show _ = _; have := HXE.out; have := HYE.out; omega
        clear hs hg hx hy hzz
        go_wp2_with fail
        try rw [show decide (a < 0) = true by simp; omega]
        try rw [show decide (b < 0) = true by simp; omega]
        ((with_reducible refine (rwhole_true _ z (a + b) HWL.out HEQ.out).mono ?_); rintro e wq ⟨n, rfl, hn, rfl⟩)
        clear hz
        generalize hr : Ev.fit (a + b) = r at hn ⊢
        have HR := Lib.hid hr
        have HN := Lib.hid hn
        clear hn hr
        go_wp2_with fail
        refine bodyPost_ret (v := .tuple #[.int .i64 n, .bool r.isSome]) (by simp [results, Try.results136, go_sem]) rfl ?_
        rw [HR.out]
        exact ⟨n, rfl, HN.out, rfl⟩
      · have hb : ¬ b < 0 := fun h => ha (hs.2 h)
        have HWL : Hid (z < two64) := by show _ < _; rw [two64_eq]; omega
        have HEQ : Hid (a + b = (z : Int)) := by show _ = _; have := HXE.out; have := HYE.out; omega
        clear hs hg hx hy hzz
        go_wp2_with fail
        try rw [show decide (a < 0) = false by simp; omega]
        try rw [show decide (b < 0) = false by simp; omega]
        ((with_reducible refine (rwhole_false _ z (a + b) HWL.out HEQ.out).mono ?_); rintro e wq ⟨n, rfl, hn, rfl⟩)
        clear hz
        generalize hr : Ev.fit (a + b) = r at hn ⊢
        have HR := Lib.hid hr
        have HN := Lib.hid hn
        clear hn hr
        go_wp2_with fail
        refine bodyPost_ret (v := .tuple #[.int .i64 n, .bool r.isSome]) (by simp [results, Try.results136, go_sem]) rfl ?_
        rw [HR.out]
        exact ⟨n, rfl, HN.out, rfl⟩
  · clear hxe hye
    have hg := ()
    by_cases hxy : y ≤ x
    · have hxi : (y : Int) ≤ (x : Int) := by omega
      have hxd : decide (y ≤ x) = true := by simp [hxy]
      obtain ⟨z, hz⟩ : ∃ z : Nat, IntKind.u64.wrap ((x : Int) - y) = (z : Int) := ⟨x - y, by rw [u64w]; omega⟩
      have hzz : z = x - y := by rw [u64w] at hz; omega
      by_cases ha : a < 0
      · have hb : ¬ b < 0 := fun h => hs ⟨fun _ => h, fun _ => ha⟩
        have HWL : Hid (z < two64) := by show _ < _; rw [two64_eq]; omega
        have HEQ : Hid (a + b = -(z : Int)) := by show _ = _; have := HXE.out; have := HYE.out; omega
        clear hs hg hx hy hzz
        go_wp2_with fail
        try rw [show decide (a < 0) = true by simp; omega]
        try rw [show decide (b < 0) = true by simp; omega]
        ((with_reducible refine (rwhole_true _ z (a + b) HWL.out HEQ.out).mono ?_); rintro e wq ⟨n, rfl, hn, rfl⟩)
        clear hz
        generalize hr : Ev.fit (a + b) = r at hn ⊢
        have HR := Lib.hid hr
        have HN := Lib.hid hn
        clear hn hr
        go_wp2_with fail
        refine bodyPost_ret (v := .tuple #[.int .i64 n, .bool r.isSome]) (by simp [results, Try.results136, go_sem]) rfl ?_
        rw [HR.out]
        exact ⟨n, rfl, HN.out, rfl⟩
      · have hb : b < 0 := by by_cases h : b < 0; exact h; exact absurd ⟨fun h' => absurd h' ha, fun h' => absurd h' h⟩ hs
        have HWL : Hid (z < two64) := by show _ < _; rw [two64_eq]; omega
        have HEQ : Hid (a + b = (z : Int)) := by show _ = _; have := HXE.out; have := HYE.out; omega
        clear hs hg hx hy hzz
        go_wp2_with fail
        try rw [show decide (a < 0) = false by simp; omega]
        try rw [show decide (b < 0) = false by simp; omega]
        ((with_reducible refine (rwhole_false _ z (a + b) HWL.out HEQ.out).mono ?_); rintro e wq ⟨n, rfl, hn, rfl⟩)
        clear hz
        generalize hr : Ev.fit (a + b) = r at hn ⊢
        have HR := Lib.hid hr
        have HN := Lib.hid hn
        clear hn hr
        go_wp2_with fail
        refine bodyPost_ret (v := .tuple #[.int .i64 n, .bool r.isSome]) (by simp [results, Try.results136, go_sem]) rfl ?_
        rw [HR.out]
        exact ⟨n, rfl, HN.out, rfl⟩
    · have hxi : ¬ (y : Int) ≤ (x : Int) := by omega
      have hxd : decide (y ≤ x) = false := by simp; omega
      obtain ⟨z, hz⟩ : ∃ z : Nat, IntKind.u64.wrap ((y : Int) - x) = (z : Int) := ⟨y - x, by rw [u64w]; omega⟩
      have hzz : z = y - x := by rw [u64w] at hz; omega
      by_cases ha : a < 0
      · have hb : ¬ b < 0 := fun h => hs ⟨fun _ => h, fun _ => ha⟩
        have HWL : Hid (z < two64) := by show _ < _; rw [two64_eq]; omega
        have HEQ : Hid (a + b = (z : Int)) := by show _ = _; have := HXE.out; have := HYE.out; omega
        clear hs hg hx hy hzz
        go_wp2_with fail
        try rw [show decide (a < 0) = false by simp; omega]
        try rw [show decide (b < 0) = false by simp; omega]
        ((with_reducible refine (rwhole_false _ z (a + b) HWL.out HEQ.out).mono ?_); rintro e wq ⟨n, rfl, hn, rfl⟩)
        clear hz
        generalize hr : Ev.fit (a + b) = r at hn ⊢
        have HR := Lib.hid hr
        have HN := Lib.hid hn
        clear hn hr
        go_wp2_with fail
        refine bodyPost_ret (v := .tuple #[.int .i64 n, .bool r.isSome]) (by simp [results, Try.results136, go_sem]) rfl ?_
        rw [HR.out]
        exact ⟨n, rfl, HN.out, rfl⟩
      · have hb : b < 0 := by by_cases h : b < 0; exact h; exact absurd ⟨fun h' => absurd h' ha, fun h' => absurd h' h⟩ hs
        have HWL : Hid (z < two64) := by show _ < _; rw [two64_eq]; omega
        have HEQ : Hid (a + b = -(z : Int)) := by show _ = _; have := HXE.out; have := HYE.out; omega
        clear hs hg hx hy hzz
        go_wp2_with fail
        try rw [show decide (a < 0) = true by simp; omega]
        try rw [show decide (b < 0) = true by simp; omega]
        ((with_reducible refine (rwhole_true _ z (a + b) HWL.out HEQ.out).mono ?_); rintro e wq ⟨n, rfl, hn, rfl⟩)
        clear hz
        generalize hr : Ev.fit (a + b) = r at hn ⊢
        have HR := Lib.hid hr
        have HN := Lib.hid hn
        clear hn hr
        go_wp2_with fail
        refine bodyPost_ret (v := .tuple #[.int .i64 n, .bool r.isSome]) (by simp [results, Try.results136, go_sem]) rfl ?_
        rw [HR.out]
        exact ⟨n, rfl, HN.out, rfl⟩
theorem mul_step {n x y p : Nat} (h : n + x * y = p) : (y % 2 = 1 → (n + x) + (x * 2) * (y / 2) = p) ∧ (y % 2 = 0 → n + (x * 2) * (y / 2) = p) := by
  have e : y = 2 * (y / 2) + y % 2 := (Nat.div_add_mod y 2).symm
  constructor
  · intro h1
    have : x * y = (x * 2) * (y / 2) + x := by
      conv => lhs; rw [e, h1]
      rw [Nat.mul_add, Nat.mul_one, Nat.mul_assoc]
    omega
  · intro h1
    have : x * y = (x * 2) * (y / 2) := by
      conv => lhs; rw [e, h1]
      rw [Nat.add_zero, Nat.mul_assoc]
    omega
theorem mul_big {n x y p : Nat} (h : n + x * y = p) (h1 : 1 < y) (h2 : 4611686018427387904 < x) : 9223372036854775808 < p := by
  have : x * 2 ≤ x * y := Nat.mul_le_mul_left x h1
  omega
theorem signs_mul (a b : Int) : ((decide (a < 0) != decide (b < 0)) = true → a * b = -((a.natAbs * b.natAbs : Nat) : Int)) ∧ ((decide (a < 0) != decide (b < 0)) = false → a * b = ((a.natAbs * b.natAbs : Nat) : Int)) := by
  have ha : a = (a.natAbs : Int) ∨ a = -(a.natAbs : Int) := by omega
  by_cases h1 : a < 0 <;> by_cases h2 : b < 0
  · refine ⟨by simp [h1, h2], fun _ => ?_⟩
    have e1 : a = -(a.natAbs : Int) := by omega
    have e2 : b = -(b.natAbs : Int) := by omega
    rw [Int.natCast_mul]
    conv => lhs; rw [e1, e2]
    rw [Int.neg_mul_neg]
  · refine ⟨fun _ => ?_, by simp [h1, h2]⟩
    have e1 : a = -(a.natAbs : Int) := by omega
    have e2 : b = (b.natAbs : Int) := by omega
    rw [Int.natCast_mul]
    conv => lhs; rw [e1, e2]
    rw [Int.neg_mul]
  · refine ⟨fun _ => ?_, by simp [h1, h2]⟩
    have e1 : a = (a.natAbs : Int) := by omega
    have e2 : b = -(b.natAbs : Int) := by omega
    rw [Int.natCast_mul]
    conv => lhs; rw [e1, e2]
    rw [Int.mul_neg]
  · refine ⟨by simp [h1, h2], fun _ => ?_⟩
    have e1 : a = (a.natAbs : Int) := by omega
    have e2 : b = (b.natAbs : Int) := by omega
    rw [Int.natCast_mul]
    conv => lhs; rw [e1, e2]
set_option maxRecDepth 100000 in
set_option maxHeartbeats 4000000 in
theorem rmul_any (w : World) (a b : Int) (ha : Ev.inR a) (hb : Ev.inR b) : Calls Try.prog 137 #[.int .i64 a, .int .i64 b] w (RetW w (Ev.fit (a * b))) := by
  have HA := Lib.hid ha
  have HB := Lib.hid hb
  have hx : a.natAbs ≤ 9223372036854775808 := by unfold Ev.inR at ha; omega
  have hy : b.natAbs ≤ 9223372036854775808 := by unfold Ev.inR at hb; omega
  have HS := Lib.hid (signs_mul a b)
  clear ha hb
  go_enter Try.func137, Try.ntmps137
  go_wp2_with fail
  refine (rsize_any _ a HA.out).mono ?_
  rintro e wq ⟨rfl, rfl⟩
  go_wp2_with fail
  refine (rsize_any _ b HB.out).mono ?_
  rintro e wq ⟨rfl, rfl⟩
  go_wp2_with fail
  generalize a.natAbs = x0 at HS hx ⊢
  generalize b.natAbs = y0 at HS hy ⊢
  obtain ⟨p, hp⟩ : ∃ p, x0 * y0 = p := ⟨_, rfl⟩
  rw [hp] at HS
  have HP : Hid (0 + x0 * y0 = p) := by show _ = _; omega
  clear hp
  go_loop [6, 7, 8] (fun xv yv nv => ∃ x y n : Nat, xv = .int .u64 (x : Int) ∧ yv = .int .u64 (y : Int) ∧ nv = .int .u64 (n : Int) ∧ y ≤ 9223372036854775808 ∧ n ≤ 9223372036854775808 ∧ (0 < y → x ≤ 9223372036854775808 ∧ (n < x ∨ x = 0)) ∧ Hid (n + x * y = p)) (fun _ yv _ => (intOf yv).toNat)
  case atStart => exact ⟨x0, y0, 0, rfl, rfl, rfl, hy, Nat.zero_le _, fun _ => ⟨hx, by omega⟩, HP.out⟩
  case round =>
    obtain ⟨x, y, n, rfl, rfl, rfl, hy64, hn64, hxy, HJ⟩ := hrel
    clear hx hy
    by_cases h0 : 0 < y
    · have h0i : (0 : Int) < (y : Int) := by omega
      obtain ⟨hx64, hnx⟩ := hxy h0
      have hms := mul_step HJ.out
      have hmb := mul_big HJ.out
      by_cases h1 : y % 2 = 1
      · have hm := hms.1 h1
        have h1i : ((y : Int) % 2 == 1) = true := by simp; omega
        have hw : IntKind.u64.wrap ((n : Int) + x) = (n : Int) + x := by rw [u64w]; omega
        clear hms h1
        have hge : (n + x) ≤ p := by rw [← hm]; exact Nat.le_add_right _ _
        have hno : 9223372036854775808 < p → ¬ Ev.inR (a * b) := by
          intro hp
          have h1 := HS.out
          cases hsg : (decide (a < 0) != decide (b < 0)) with
          | true => rw [h1.1 hsg]; unfold Ev.inR; omega
          | false => rw [h1.2 hsg]; unfold Ev.inR; omega
        by_cases hbig : 9223372036854775808 < (n + x)
        · have HNO : Hid (¬ Ev.inR (a * b)) := hno (by omega)
          have hbi : (9223372036854775808 : Int) < ((n : Int) + x) := by omega
          clear hno hge hm hbig hmb hxy hnx hy64 hn64 hx64
          go_wp2_with fail
          refine bodyPost_ret (v := .tuple #[.int .i64 0, .bool false]) (by simp [results, Try.results137, go_sem]) rfl ?_
          rw [Ev.fit_out HNO.out]
          exact ⟨0, rfl, (by intro z hz; cases hz), rfl⟩
        have hbi : ¬ (9223372036854775808 : Int) < ((n : Int) + x) := by omega
        by_cases hy1 : y = 1
        · subst hy1
          obtain ⟨q, hw2⟩ : ∃ q : Nat, IntKind.u64.wrap ((x : Int) * 2) = (q : Int) := ⟨(x * 2) % 18446744073709551616, by rw [u64w]; omega⟩
          have HM : Hid ((n + x) + q * 0 = p) := by show _ = _; simp at hm; omega
          have hbl : (n + x) ≤ 9223372036854775808 := by omega
          clear hno hge hm hbig hmb hxy hnx hy64 hn64 h0i h0 hx64
          go_wp2_with fail
          all_goals
            go_round
            case rel => exact ⟨q, 0, (n + x), by go_num, by go_num, by go_num, Nat.zero_le _, hbl, fun h => absurd h (by decide), HM.out⟩
            case measure => simp [intOf]
        have hy2 : 1 < y := by omega
        have hy2i : (1 : Int) < (y : Int) := by omega
        by_cases hx62 : 4611686018427387904 < x
        · have HNO : Hid (¬ Ev.inR (a * b)) := hno (hmb hy2 hx62)
          have hxi : (4611686018427387904 : Int) < (x : Int) := by omega
          clear hno hge hm hbig hmb hxy hnx hy64 hn64 hx64 hx62 hy1 hy2
          go_wp2_with fail
          refine bodyPost_ret (v := .tuple #[.int .i64 0, .bool false]) (by simp [results, Try.results137, go_sem]) rfl ?_
          rw [Ev.fit_out HNO.out]
          exact ⟨0, rfl, (by intro z hz; cases hz), rfl⟩
        have hxi : ¬ (4611686018427387904 : Int) < (x : Int) := by omega
        have hw2 : IntKind.u64.wrap ((x : Int) * 2) = (x : Int) * 2 := by rw [u64w]; omega
        have HM := Lib.hid hm
        have hbl : (n + x) ≤ 9223372036854775808 := by omega
        clear hno hge hm hmb hy1 hbig
        go_wp2_with fail
        go_round
        case rel => exact ⟨x * 2, y / 2, (n + x), by go_num, by go_num, by go_num, by omega, hbl, fun _ => by omega, HM.out⟩
        case measure => (simp [intOf]; try omega)
      · have hm := hms.2 (by omega)
        have h1i : ((y : Int) % 2 == 1) = false := by simp; omega
        clear hms h1
        have hge : n ≤ p := by rw [← hm]; exact Nat.le_add_right _ _
        have hno : 9223372036854775808 < p → ¬ Ev.inR (a * b) := by
          intro hp
          have h1 := HS.out
          cases hsg : (decide (a < 0) != decide (b < 0)) with
          | true => rw [h1.1 hsg]; unfold Ev.inR; omega
          | false => rw [h1.2 hsg]; unfold Ev.inR; omega
        by_cases hbig : 9223372036854775808 < n
        · have HNO : Hid (¬ Ev.inR (a * b)) := hno (by omega)
          have hbi : (9223372036854775808 : Int) < (n : Int) := by omega
          clear hno hge hm hbig hmb hxy hnx hy64 hn64 hx64
          go_wp2_with fail
          refine bodyPost_ret (v := .tuple #[.int .i64 0, .bool false]) (by simp [results, Try.results137, go_sem]) rfl ?_
          rw [Ev.fit_out HNO.out]
          exact ⟨0, rfl, (by intro z hz; cases hz), rfl⟩
        have hbi : ¬ (9223372036854775808 : Int) < (n : Int) := by omega
        by_cases hy1 : y = 1
        · subst hy1
          obtain ⟨q, hw2⟩ : ∃ q : Nat, IntKind.u64.wrap ((x : Int) * 2) = (q : Int) := ⟨(x * 2) % 18446744073709551616, by rw [u64w]; omega⟩
          have HM : Hid (n + q * 0 = p) := by show _ = _; simp at hm; omega
          have hbl : n ≤ 9223372036854775808 := by omega
          clear hno hge hm hbig hmb hxy hnx hy64 hn64 h0i h0 hx64
          go_wp2_with fail
          all_goals
            go_round
            case rel => exact ⟨q, 0, n, by go_num, by go_num, by go_num, Nat.zero_le _, hbl, fun h => absurd h (by decide), HM.out⟩
            case measure => simp [intOf]
        have hy2 : 1 < y := by omega
        have hy2i : (1 : Int) < (y : Int) := by omega
        by_cases hx62 : 4611686018427387904 < x
        · have HNO : Hid (¬ Ev.inR (a * b)) := hno (hmb hy2 hx62)
          have hxi : (4611686018427387904 : Int) < (x : Int) := by omega
          clear hno hge hm hbig hmb hxy hnx hy64 hn64 hx64 hx62 hy1 hy2
          go_wp2_with fail
          refine bodyPost_ret (v := .tuple #[.int .i64 0, .bool false]) (by simp [results, Try.results137, go_sem]) rfl ?_
          rw [Ev.fit_out HNO.out]
          exact ⟨0, rfl, (by intro z hz; cases hz), rfl⟩
        have hxi : ¬ (4611686018427387904 : Int) < (x : Int) := by omega
        have hw2 : IntKind.u64.wrap ((x : Int) * 2) = (x : Int) * 2 := by rw [u64w]; omega
        have HM := Lib.hid hm
        have hbl : n ≤ 9223372036854775808 := by omega
        clear hno hge hm hmb hy1 hbig
        go_wp2_with fail
        go_round
        case rel => exact ⟨x * 2, y / 2, n, by go_num, by go_num, by go_num, by omega, hbl, fun _ => by omega, HM.out⟩
        case measure => (simp [intOf]; try omega)
    · obtain rfl : y = 0 := by omega
      have HN : Hid (n = p) := by have := HJ.out; show _ = _; omega
      have hnl : n < two64 := by rw [two64_eq]; omega
      have HNL := Lib.hid hnl
      clear hnl hxy h0 hy64 hn64
      obtain ⟨sg, hsg⟩ : ∃ sg, (decide (a < 0) != decide (b < 0)) = sg := ⟨_, rfl⟩
      cases sg with
      | true =>
        have HSG : Hid (a * b = -(n : Int)) := by show _ = _; rw [HN.out]; exact HS.out.1 hsg
        go_wp2_with fail
        rw [show (!(decide (a < 0) == decide (b < 0))) = true from hsg]
        clear hsg
        ((with_reducible refine (rwhole_true _ n (a * b) HNL.out HSG.out).mono ?_); rintro e wq ⟨m, rfl, hm, rfl⟩)
        generalize hr : Ev.fit (a * b) = r at hm ⊢
        have HR := Lib.hid hr
        have HM := Lib.hid hm
        clear hm hr
        go_wp2_with fail
        refine bodyPost_ret (v := .tuple #[.int .i64 m, .bool r.isSome]) (by simp [results, Try.results137, go_sem]) rfl ?_
        rw [HR.out]
        exact ⟨m, rfl, HM.out, rfl⟩
      | false =>
        have HSG : Hid (a * b = (n : Int)) := by show _ = _; rw [HN.out]; exact HS.out.2 hsg
        go_wp2_with fail
        rw [show (!(decide (a < 0) == decide (b < 0))) = false from hsg]
        clear hsg
        ((with_reducible refine (rwhole_false _ n (a * b) HNL.out HSG.out).mono ?_); rintro e wq ⟨m, rfl, hm, rfl⟩)
        generalize hr : Ev.fit (a * b) = r at hm ⊢
        have HR := Lib.hid hr
        have HM := Lib.hid hm
        clear hm hr
        go_wp2_with fail
        refine bodyPost_ret (v := .tuple #[.int .i64 m, .bool r.isSome]) (by simp [results, Try.results137, go_sem]) rfl ?_
        rw [HR.out]
        exact ⟨m, rfl, HM.out, rfl⟩
end Go.Proofs.Ytjdffhonljhpcaa
end

section
/-
  The document's arithmetic on values.
-/
namespace Go.Proofs.Ytjdffhonljhpcaa
set_option linter.unusedSimpArgs false
set_option linter.unusedVariables false
open Go.RowKit

namespace Ev
/-- A value as the document may hold it, where the program holds s. -/
structure Dv (s v : Va) : Prop where
  ok : v.ok
  cl : Key.Clean v
  eq : Key.clean v = s
theorem dv_clean {v : Va} (h : v.ok) : Dv (Key.clean v) (Key.dclean v) := ⟨Key.dclean_ok h, Key.clean_of v, clean_dclean v⟩
theorem nul_ok : Va.ok Key.nul := ⟨by decide, by decide, by decide, by decide, by decide⟩
theorem dv_nul : Dv Key.nul Key.nul := dv_clean nul_ok
theorem bool_ok (b : Bool) : Va.ok (boolV b) := by cases b <;> exact ⟨by decide, by decide, by decide, by decide, by decide⟩
theorem dv_of {v : Va} (h : v.ok) (hd : Key.dclean v = v) (hc : Key.clean v = v) : Dv v v := by
  have := dv_clean h
  rw [hd, hc] at this
  exact this
theorem dv_bool (b : Bool) : Dv (boolV b) (boolV b) := dv_of (bool_ok b) (by cases b <;> rfl) (by cases b <;> rfl)
theorem dv_optB (o : Option Bool) : Dv (optB o) (optB o) := by cases o with | none => exact dv_nul | some b => exact dv_bool b
theorem dv_ofT (t : Int) : Dv (ofT t) (ofT t) := by unfold ofT; split; exact dv_nul; exact dv_bool _
theorem dv_and (a b : Va) : Dv (andV a b) (andV a b) := by unfold andV; (repeat' split) <;> exact dv_ofT _
theorem dv_not (a : Va) : Dv (notV a) (notV a) := by unfold notV; split <;> exact dv_ofT _
theorem dv_or (a b : Va) : Dv (orV a b) (orV a b) := dv_not _
theorem dv_cmp (op : List UInt8) (a b : Va) : Dv (cmpV op a b) (cmpV op a b) := by unfold cmpV; split; exact dv_nul; exact dv_optB _
theorem int_ok {n : Int} (h : inR n) : Va.ok ⟨1, n, 0, []⟩ := ⟨by show (-9223372036854775808 : Int) ≤ 1; decide, by show (1 : Int) ≤ 9223372036854775807; decide, h.1, h.2, by show 0 < 18446744073709551616; decide⟩
theorem dv_int {n : Int} (h : inR n) : Dv ⟨1, n, 0, []⟩ ⟨1, n, 0, []⟩ := dv_of (int_ok h) rfl rfl
theorem real_ok {f : Nat} (h : f < 18446744073709551616) : Va.ok ⟨2, 0, f, []⟩ := ⟨by show (-9223372036854775808 : Int) ≤ 2; decide, by show (2 : Int) ≤ 9223372036854775807; decide, by show (-9223372036854775808 : Int) ≤ 0; decide, by show (0 : Int) ≤ 9223372036854775807; decide, h⟩
theorem dv_real {f : Nat} {s : Nat} (h : f < 18446744073709551616) (hs : Key.real1 f = s) : Dv ⟨2, 0, s, []⟩ (Key.dclean ⟨2, 0, f, []⟩) := by
  have := dv_clean (real_ok h)
  rw [show Key.clean ⟨2, 0, f, []⟩ = ⟨2, 0, Key.real1 f, []⟩ from rfl, hs] at this
  exact this
theorem fit_range {x y : Int} (h : fit x = some y) : inR y ∧ y = x := by
  unfold fit at h
  split at h
  · next hr => cases h; exact ⟨hr, rfl⟩
  · cases h
theorem whole_range {op : List UInt8} {a b y : Int} (h : whole op a b = some y) : inR y := by
  unfold whole at h
  (repeat' split at h) <;> first | exact (fit_range h).1 | cases h
/-- What of a clean value's fields stays. -/
theorem dclean_fields (v : Va) : (Key.clean v).k = (Key.dclean v).k ∧ (Key.clean v).n = (Key.dclean v).n ∧ (fnan (Key.clean v).f ↔ fnan (Key.dclean v).f) ∧ (¬ fnan (Key.dclean v).f → (Key.clean v).f = (Key.dclean v).f) := by
  refine ⟨clean_dk v, ?_⟩
  by_cases k2 : v.k = 2
  · have h1 : Key.clean v = ⟨2, 0, Key.real1 v.f, []⟩ := by unfold Key.clean Key.cleanF; simp [k2]
    have h2 : Key.dclean v = ⟨2, 0, Key.real0 v.f, []⟩ := by unfold Key.dclean Key.cleanF; simp [k2]
    rw [h1, h2]
    refine ⟨rfl, ?_, ?_⟩
    · show fnan (Key.real1 v.f) ↔ fnan (Key.real0 v.f); rw [Key.real1_nan, Key.real0_nan]
    · show ¬ fnan (Key.real0 v.f) → Key.real1 v.f = Key.real0 v.f
      intro h
      have h' : ¬ fnan v.f := fun h3 => h (Key.real0_nan.2 h3)
      unfold Key.real1 Key.real0
      rw [if_neg h']
  · have : Key.clean v = Key.dclean v := by unfold Key.clean Key.dclean Key.cleanF; simp [k2]
    rw [this]
    exact ⟨rfl, Iff.rfl, fun _ => rfl⟩
/-- An operation that comes to none where an operand is none does not tell the two cleanings apart. -/
theorem fop_same {F : Nat → Nat → Option Nat} (hF : ∀ x y, fnan x ∨ fnan y → F x y = none) {a b a' b' : Nat} (ha : fnan a' ↔ fnan a) (hb : fnan b' ↔ fnan b) (ea : ¬ fnan a → a' = a) (eb : ¬ fnan b → b' = b) : F a b = F a' b' := by
  by_cases h : fnan a ∨ fnan b
  · rw [hF a b h, hF a' b' (h.imp ha.2 hb.2)]
  · have h1 : ¬ fnan a := fun h' => h (.inl h')
    have h2 : ¬ fnan b := fun h' => h (.inr h')
    rw [ea h1, eb h2]
theorem neg_same {a a' : Nat} (h1 : fnan a' ↔ fnan a) (h2 : ¬ fnan a → a' = a) : Key.real1 (fneg a) = Key.real1 (fneg a') := by
  have key : ∀ x : Nat, fnan x ↔ fnan (fneg x) := by
    intro x
    unfold fnan fneg
    split <;> omega
  by_cases h : fnan a
  · rw [real1_of_nan ((key a).1 h), real1_of_nan ((key a').1 (h1.2 h))]
  · rw [h2 h]
end Ev
/-- What the document answers where the program answers s. -/
def RetD (w : World) (s : Va) (e : Ending) (w' : World) : Prop := ∃ v, e = .returned v.v ∧ Ev.Dv s v ∧ Below w.heap.size w w'
theorem RetV.d {w : World} {s : Va} {e : Ending} {w' : World} (h : Ev.Dv s s) (hr : RetV w s e w') : RetD w s e w' := ⟨s, hr.1, h, hr.2⟩
set_option maxRecDepth 100000 in
set_option maxHeartbeats 8000000 in
theorem rarith_any (w : World) (op : List UInt8) (a b : Va) (ha : a.ok) (hb : b.ok) : Calls Try.prog 94 #[txt op, a.v, b.v] w (RetD w (Ev.arithV op a b)) := by
  have HA := Lib.hid ha
  have HB := Lib.hid hb
  have HXO := Lib.hid (Key.dclean_ok ha)
  have HYO := Lib.hid (Key.dclean_ok hb)
  have hgs := guard_str_is
  clear ha hb
  go_enter Try.func94, Try.ntmps94
  go_upto_region 1 with (first | (refine wpList_box_va rfl (.tmp 1) rfl a rfl ?_; intro W1 hb1 hz1 hB1) | (refine wpList_box_va rfl (.tmp 2) rfl b rfl ?_; intro W2 hb2 hz2 hB2) | (refine wpList_alloc_va rfl rfl ?_; intro W3 hb3 hz3 hB3))
  have h1 := ((hb1.below hB2).below hB3).drew
  have h2 := (hb2.below hB3).drew
  have h4 := hb3.drew
  have HB3 := Lib.hid ((hB1.then hB2).then hB3).drewR
  have hw1 : w.heap.size < W1.heap.size ∧ W1.heap.size < W2.heap.size := by have := hB1.size; have := hB2.size; omega
  clear hb1 hb2 hb3 hB1 hB2 hB3 hz1 hz2 hz3
  generalize W2.heap.size = g at h4 hw1 ⊢
  generalize W1.heap.size = gb at h2 hw1 ⊢
  refine wp_region_plan (.take 0 (.take 2 (.run 1 [2] (.run 3 [] (.run 4 [] (.run 5 [] .fin)))))) (by kernel_rfl) (by kernel_rfl) (by kernel_rfl) (by kernel_rfl) ?_
  -- two values are cleaned in place: blocks w.heap.size and gb (h1, h2), a third one g (h4) stays; 4 5 their slots, 10 12 the calls' slots
  repeat' (first | (refine hZ _ _ ?_; clear hZ) | (refine hZ _ ?_; clear hZ) | (refine hZ ?_; clear hZ) | rw [again_nil] | rw [walk_fin] | ((first | rw [walk_take] | rw [walk_run] | rw [again_cons]); intro Z hZ; simp only [sel, List.getElem?_toArray, List.getElem?_cons_zero, List.getElem?_cons_succ]; go_wp2_with (first | (refine wpList_load_va rfl (.tmp 4) rfl w.heap.size rfl h1 ?_) | (refine wpList_load_va rfl (.tmp 5) rfl gb rfl h2 ?_))))
  refine (dclean_any _ a HA.out).mono ?_
  rintro e W4 ⟨rfl, hB4⟩
  have h1 := h1.below hB4
  have h2 := h2.below hB4
  have h4 := h4.below hB4
  have HB4 := Lib.hid (HB3.out.trans (hB4.mono HB3.out.size))
  clear hB4 HB3
  go_wp2_with fail
  repeat' (first | (refine hZ _ _ ?_; clear hZ) | (refine hZ _ ?_; clear hZ) | (refine hZ ?_; clear hZ) | rw [again_nil] | rw [walk_fin] | ((first | rw [walk_take] | rw [walk_run] | rw [again_cons]); intro Z hZ; simp only [sel, List.getElem?_toArray, List.getElem?_cons_zero, List.getElem?_cons_succ]; go_wp2_with (first | (refine wpList_load_va rfl (.tmp 4) rfl w.heap.size rfl h1 ?_) | (refine wpList_load_va rfl (.tmp 5) rfl gb rfl h2 ?_))))
  refine (dclean_any _ b HB.out).mono ?_
  rintro e W5 ⟨rfl, hB5⟩
  have h1 := h1.below hB5
  have h2 := h2.below hB5
  have h4 := h4.below hB5
  have HB5 := Lib.hid (HB4.out.then hB5)
  clear hB5 HB4
  generalize hX : Key.dclean a = x at HXO ⊢
  generalize hY : Key.dclean b = y at HYO ⊢
  have HX := Lib.hid hX
  have HY := Lib.hid hY
  clear hX hY
  go_wp2_with fail
  repeat' (first | (refine hZ _ _ ?_; clear hZ) | (refine hZ _ ?_; clear hZ) | (refine hZ ?_; clear hZ) | rw [again_nil] | rw [walk_fin] | ((first | rw [walk_take] | rw [walk_run] | rw [again_cons]); intro Z hZ; simp only [sel, List.getElem?_toArray, List.getElem?_cons_zero, List.getElem?_cons_succ]; go_wp2_with (first | (refine wpList_store_va rfl rfl (.tmp 4) (.tmp 10) rfl w.heap.size rfl x rfl h1 ?_; intro W6 hb6 hg6; have h26 := h2.grown hg6 (by simp; omega); have h46 := h4.grown hg6 (by simp; omega)) | (refine wpList_store_va rfl rfl (.tmp 5) (.tmp 12) rfl gb rfl y rfl h26 ?_; intro W7 hb7 hg7))))
  have h1 := hb6.grown hg7 (by simp; omega)
  have h4 := h46.grown hg7 (by simp; omega)
  have HB7 := Lib.hid (below_of_grown (below_of_grown HB5.out hg6 (Nat.le_refl _) HB5.out.size) hg7 (by omega) (Nat.le_trans HB5.out.size hg6.size))
  clear hg6 hg7 hb6 h26 h46 HB5
  have hfa := Ev.dclean_fields a
  have hfb := Ev.dclean_fields b
  rw [HX.out] at hfa
  rw [HY.out] at hfb
  have HVC : Hid (Ev.arithV op a b = if x.k = 1 ∧ y.k = 1 then Ev.intV (Ev.whole op x.n y.n) else if x.k = 2 ∧ y.k = 2 then Ev.realV (Ev.fop op x.f y.f) else Key.nul) := by
    show _ = _
    unfold Ev.arithV
    rw [hfa.1, hfa.2.1, hfb.1, hfb.2.1]
    have e : Ev.fop op (Key.clean a).f (Key.clean b).f = Ev.fop op x.f y.f := by
      unfold Ev.fop
      rw [← Ev.fop_same (fun _ _ => Ev.add_nan) hfa.2.2.1 hfb.2.2.1 hfa.2.2.2 hfb.2.2.2, ← Ev.fop_same (fun _ _ => Ev.sub_nan) hfa.2.2.1 hfb.2.2.1 hfa.2.2.2 hfb.2.2.2, ← Ev.fop_same (fun _ _ => Ev.mul_nan) hfa.2.2.1 hfb.2.2.1 hfa.2.2.2 hfb.2.2.2]
    rw [e]
  clear HX HY HA HB hfa hfb
  obtain ⟨c0, c1, c2, c3, -⟩ := Blk.c4 h1
  obtain ⟨d0, d1, d2, d3, -⟩ := Blk.c4 hb7
  clear c3 d3 h1 hb7
  by_cases hi : x.k = 1 ∧ y.k = 1
  · have HV1 : Hid (Ev.arithV op a b = Ev.intV (Ev.whole op x.n y.n)) := by show _ = _; rw [HVC.out, if_pos hi]
    rw [hi.1] at c0
    rw [hi.2] at d0
    clear hi HVC c2 d2
    have HIX : Hid (Ev.inR x.n) := ⟨HXO.out.n1, HXO.out.n2⟩
    have HIY : Hid (Ev.inR y.n) := ⟨HYO.out.n1, HYO.out.n2⟩
    generalize x.n = m1 at c1 HIX HV1
    generalize y.n = m2 at d1 HIY HV1
    by_cases hop : op = [43]
    · subst hop
      unfold txt
      go_wp2_with fail
      refine (radd_any _ m1 m2 HIX.out HIY.out).mono ?_
      rintro e wq ⟨n, rfl, hn, rfl⟩
      have HVR : Hid (Ev.arithV [43] a b = Ev.intV (Ev.fit (m1 + m2))) := HV1.out
      have HRG : Hid (∀ z, Ev.fit (m1 + m2) = some z → Ev.inR z) := fun z h => (Ev.fit_range h).1
      have HN := Lib.hid hn
      clear hn HV1
      generalize Ev.fit (m1 + m2) = r at HVR HRG HN ⊢
      cases r with
      | none =>
        have HV : Hid (Ev.arithV _ a b = Key.nul) := HVR.out
        clear HVR
        go_wp2_with (refine wpList_store_va rfl rfl (.tmp 6) (.tmp 73) rfl g rfl Key.nul rfl h4 ?_; intro Wa hba hga)
        exact ret_va hba rfl rfl rfl ⟨Key.nul, rfl, by rw [HV.out]; exact Ev.dv_nul, below_of_grown HB7.out hga (by omega) HB7.out.size⟩
      | some z =>
        obtain rfl : n = z := HN.out z rfl
        have HV : Hid (Ev.arithV _ a b = ⟨1, n, 0, []⟩) := HVR.out
        have HIN : Hid (Ev.inR n) := HRG.out n rfl
        clear HVR
        go_wp2_with (refine wpList_store_va rfl rfl (.tmp 6) (.tmp 75) rfl g rfl ⟨1, n, 0, []⟩ rfl h4 ?_; intro Wa hba hga)
        exact ret_va hba rfl rfl rfl ⟨⟨1, n, 0, []⟩, rfl, by rw [HV.out]; exact Ev.dv_int HIN.out, below_of_grown HB7.out hga (by omega) HB7.out.size⟩
    have n1 := run_str_is op [43] hop
    by_cases hop2 : op = [45]
    · subst hop2
      unfold txt
      clear n1
      have HV2 : Hid (Ev.arithV [45] a b = Ev.intV (Ev.fit (m1 - m2))) := HV1.out
      clear HV1
      by_cases hmin : m2 = -9223372036854775808
      · subst hmin
        go_wp2_with fail
        refine (radd_any _ m1 9223372036854775807 HIX.out (by decide)).mono ?_
        rintro e wq ⟨n, rfl, hn, rfl⟩
        by_cases hin : Ev.inR (m1 + 9223372036854775807)
        · have hf := Ev.fit_in hin
          have hn2 : n = m1 + 9223372036854775807 := hn _ hf
          rw [hf]
          have HIN : Hid (Ev.inR n) := by show Ev.inR _; rw [hn2]; exact hin
          have HVR : Hid (Ev.arithV [45] a b = Ev.intV (Ev.fit (n + 1))) := by show _ = _; rw [HV2.out, hn2]; congr 2; omega
          clear hf hn hn2 hin HV2
          go_wp2_with fail
          refine (radd_any _ n 1 HIN.out (by decide)).mono ?_
          rintro e wq ⟨n9, rfl, hn, rfl⟩
          have HRG : Hid (∀ z, Ev.fit (n + 1) = some z → Ev.inR z) := fun z h => (Ev.fit_range h).1
          have HN := Lib.hid hn
          clear hn HIN
          generalize Ev.fit (n + 1) = r at HVR HRG HN ⊢
          clear HIX HIY
          cases r with
          | none =>
            have HV : Hid (Ev.arithV _ a b = Key.nul) := HVR.out
            clear HVR
            go_wp2_with (refine wpList_store_va rfl rfl (.tmp 6) (.tmp 73) rfl g rfl Key.nul rfl h4 ?_; intro Wa hba hga)
            exact ret_va hba rfl rfl rfl ⟨Key.nul, rfl, by rw [HV.out]; exact Ev.dv_nul, below_of_grown HB7.out hga (by omega) HB7.out.size⟩
          | some z =>
            obtain rfl : n9 = z := HN.out z rfl
            have HV : Hid (Ev.arithV _ a b = ⟨1, n9, 0, []⟩) := HVR.out
            have HIN : Hid (Ev.inR n9) := HRG.out n9 rfl
            clear HVR
            go_wp2_with (refine wpList_store_va rfl rfl (.tmp 6) (.tmp 75) rfl g rfl ⟨1, n9, 0, []⟩ rfl h4 ?_; intro Wa hba hga)
            exact ret_va hba rfl rfl rfl ⟨⟨1, n9, 0, []⟩, rfl, by rw [HV.out]; exact Ev.dv_int HIN.out, below_of_grown HB7.out hga (by omega) HB7.out.size⟩
        · have hf := Ev.fit_out hin
          rw [hf]
          have HVR : Hid (Ev.arithV [45] a b = Key.nul) := by
            show _ = _
            rw [HV2.out, Ev.fit_out]
            · rfl
            · have := HIX.out; unfold Ev.inR at *; omega
          clear hf hn hin HV2
          by_cases hneg : m1 < 0
          · go_wp2_with (refine wpList_store_va rfl rfl (.tmp 6) (.tmp 73) rfl g rfl Key.nul rfl h4 ?_; intro Wa hba hga)
            exact ret_va hba rfl rfl rfl ⟨Key.nul, rfl, by rw [HVR.out]; exact Ev.dv_nul, below_of_grown HB7.out hga (by omega) HB7.out.size⟩
          · go_wp2_with (refine wpList_store_va rfl rfl (.tmp 6) (.tmp 73) rfl g rfl Key.nul rfl h4 ?_; intro Wa hba hga)
            exact ret_va hba rfl rfl rfl ⟨Key.nul, rfl, by rw [HVR.out]; exact Ev.dv_nul, below_of_grown HB7.out hga (by omega) HB7.out.size⟩
      · have hmb : (m2 == -9223372036854775808) = false := by simp [hmin]
        obtain ⟨k, hk⟩ : ∃ k, wrap64 (-m2) = k := ⟨_, rfl⟩
        have hkk : k = -m2 := by
          have := HIY.out
          rw [← hk, IntWalk.wrap64_in _ (by unfold Ev.inR at this; omega)]
        have HIK : Hid (Ev.inR k) := by show Ev.inR _; have := HIY.out; unfold Ev.inR at *; omega
        have HVR : Hid (Ev.arithV [45] a b = Ev.intV (Ev.fit (m1 + k))) := by show _ = _; rw [HV2.out, hkk]; congr 2
        clear hmin hkk HV2
        go_wp2_with fail
        refine (radd_any _ m1 k HIX.out HIK.out).mono ?_
        rintro e wq ⟨n, rfl, hn, rfl⟩
        have HRG : Hid (∀ z, Ev.fit (m1 + k) = some z → Ev.inR z) := fun z h => (Ev.fit_range h).1
        have HN := Lib.hid hn
        clear hn
        generalize Ev.fit (m1 + k) = r at HVR HRG HN ⊢
        cases r with
        | none =>
          have HV : Hid (Ev.arithV _ a b = Key.nul) := HVR.out
          clear HVR
          go_wp2_with (refine wpList_store_va rfl rfl (.tmp 6) (.tmp 73) rfl g rfl Key.nul rfl h4 ?_; intro Wa hba hga)
          exact ret_va hba rfl rfl rfl ⟨Key.nul, rfl, by rw [HV.out]; exact Ev.dv_nul, below_of_grown HB7.out hga (by omega) HB7.out.size⟩
        | some z =>
          obtain rfl : n = z := HN.out z rfl
          have HV : Hid (Ev.arithV _ a b = ⟨1, n, 0, []⟩) := HVR.out
          have HIN : Hid (Ev.inR n) := HRG.out n rfl
          clear HVR
          go_wp2_with (refine wpList_store_va rfl rfl (.tmp 6) (.tmp 75) rfl g rfl ⟨1, n, 0, []⟩ rfl h4 ?_; intro Wa hba hga)
          exact ret_va hba rfl rfl rfl ⟨⟨1, n, 0, []⟩, rfl, by rw [HV.out]; exact Ev.dv_int HIN.out, below_of_grown HB7.out hga (by omega) HB7.out.size⟩
    have n2 := run_str_is op [45] hop2
    by_cases hop3 : op = [42]
    · subst hop3
      unfold txt
      clear n1 n2
      go_wp2_with fail
      refine (rmul_any _ m1 m2 HIX.out HIY.out).mono ?_
      rintro e wq ⟨n, rfl, hn, rfl⟩
      have HVR : Hid (Ev.arithV [42] a b = Ev.intV (Ev.fit (m1 * m2))) := HV1.out
      have HRG : Hid (∀ z, Ev.fit (m1 * m2) = some z → Ev.inR z) := fun z h => (Ev.fit_range h).1
      have HN := Lib.hid hn
      clear hn HV1
      generalize Ev.fit (m1 * m2) = r at HVR HRG HN ⊢
      cases r with
      | none =>
        have HV : Hid (Ev.arithV _ a b = Key.nul) := HVR.out
        clear HVR
        go_wp2_with (refine wpList_store_va rfl rfl (.tmp 6) (.tmp 73) rfl g rfl Key.nul rfl h4 ?_; intro Wa hba hga)
        exact ret_va hba rfl rfl rfl ⟨Key.nul, rfl, by rw [HV.out]; exact Ev.dv_nul, below_of_grown HB7.out hga (by omega) HB7.out.size⟩
      | some z =>
        obtain rfl : n = z := HN.out z rfl
        have HV : Hid (Ev.arithV _ a b = ⟨1, n, 0, []⟩) := HVR.out
        have HIN : Hid (Ev.inR n) := HRG.out n rfl
        clear HVR
        go_wp2_with (refine wpList_store_va rfl rfl (.tmp 6) (.tmp 75) rfl g rfl ⟨1, n, 0, []⟩ rfl h4 ?_; intro Wa hba hga)
        exact ret_va hba rfl rfl rfl ⟨⟨1, n, 0, []⟩, rfl, by rw [HV.out]; exact Ev.dv_int HIN.out, below_of_grown HB7.out hga (by omega) HB7.out.size⟩
    have n3 := run_str_is op [42] hop3
    have HV : Hid (Ev.arithV op a b = Key.nul) := by show _ = _; rw [HV1.out]; unfold Ev.whole; rw [if_neg hop, if_neg hop2, if_neg hop3]; rfl
    clear hop hop2 hop3 HV1
    go_wp2_with (refine wpList_store_va rfl rfl (.tmp 6) (.tmp 73) rfl g rfl Key.nul rfl h4 ?_; intro Wa hba hga)
    exact ret_va hba rfl rfl rfl ⟨Key.nul, rfl, by rw [HV.out]; exact Ev.dv_nul, below_of_grown HB7.out hga (by omega) HB7.out.size⟩
  have HVD : Hid (Ev.arithV op a b = if x.k = 2 ∧ y.k = 2 then Ev.realV (Ev.fop op x.f y.f) else Key.nul) := by show _ = _; rw [HVC.out, if_neg hi]
  clear HVC
  by_cases hr : x.k = 2 ∧ y.k = 2
  · have HVE : Hid (Ev.arithV op a b = Ev.realV (Ev.fop op x.f y.f)) := by show _ = _; rw [HVD.out, if_pos hr]
    rw [hr.1] at c0
    rw [hr.2] at d0
    clear hi hr HVD
    by_cases hop : op = [43]
    · subst hop
      unfold txt
      obtain ⟨r, Wf, hadd, hrl, hre, hBf⟩ := (run_fadd W7 x.f y.f).out
      have HV : Hid (Ev.arithV [43] a b = ⟨2, 0, Key.real1 r, []⟩) := by show _ = _; rw [HVE.out, hre]; rfl
      have HRL : Hid (r < 18446744073709551616) := by show _ < _; rw [← two64_eq]; exact hrl
      have HBF := Lib.hid (HB7.out.then hBf)
      have h4 := h4.below hBf
      clear hrl hre HVE hBf
      go_wp2_with fail
      refine (dclean_any _ ⟨2, 0, r, []⟩ (Ev.real_ok HRL.out)).mono ?_
      rintro e W9 ⟨rfl, hB9⟩
      have h4 := h4.below hB9
      have HB9 := Lib.hid (HBF.out.then hB9)
      have HDV := Lib.hid (Ev.dv_real HRL.out rfl)
      clear hB9 hadd c0 c1 c2 d0 d1 d2
      generalize Key.dclean ⟨2, 0, r, []⟩ = q at HDV ⊢
      go_wp2_with (refine wpList_store_va rfl rfl (.tmp 6) (.tmp 93) rfl g rfl q rfl h4 ?_; intro Wa hba hga)
      exact ret_va hba rfl rfl rfl ⟨q, rfl, by rw [HV.out]; exact HDV.out, below_of_grown HB9.out hga (by omega) HB9.out.size⟩
    have n1 := run_str_is op [43] hop
    by_cases hop2 : op = [45]
    · subst hop2
      unfold txt
      obtain ⟨r, Wf, hadd, hrl, hre, hBf⟩ := (run_fsub W7 x.f y.f).out
      have HV : Hid (Ev.arithV [45] a b = ⟨2, 0, Key.real1 r, []⟩) := by show _ = _; rw [HVE.out, hre]; rfl
      clear n1
      have HRL : Hid (r < 18446744073709551616) := by show _ < _; rw [← two64_eq]; exact hrl
      have HBF := Lib.hid (HB7.out.then hBf)
      have h4 := h4.below hBf
      clear hrl hre HVE hBf
      go_wp2_with fail
      refine (dclean_any _ ⟨2, 0, r, []⟩ (Ev.real_ok HRL.out)).mono ?_
      rintro e W9 ⟨rfl, hB9⟩
      have h4 := h4.below hB9
      have HB9 := Lib.hid (HBF.out.then hB9)
      have HDV := Lib.hid (Ev.dv_real HRL.out rfl)
      clear hB9 hadd c0 c1 c2 d0 d1 d2
      generalize Key.dclean ⟨2, 0, r, []⟩ = q at HDV ⊢
      go_wp2_with (refine wpList_store_va rfl rfl (.tmp 6) (.tmp 102) rfl g rfl q rfl h4 ?_; intro Wa hba hga)
      exact ret_va hba rfl rfl rfl ⟨q, rfl, by rw [HV.out]; exact HDV.out, below_of_grown HB9.out hga (by omega) HB9.out.size⟩
    have n2 := run_str_is op [45] hop2
    by_cases hop3 : op = [42]
    · subst hop3
      unfold txt
      obtain ⟨r, Wf, hadd, hrl, hre, hBf⟩ := (run_fmul W7 x.f y.f).out
      have HV : Hid (Ev.arithV [42] a b = ⟨2, 0, Key.real1 r, []⟩) := by show _ = _; rw [HVE.out, hre]; rfl
      clear n1 n2
      have HRL : Hid (r < 18446744073709551616) := by show _ < _; rw [← two64_eq]; exact hrl
      have HBF := Lib.hid (HB7.out.then hBf)
      have h4 := h4.below hBf
      clear hrl hre HVE hBf
      go_wp2_with fail
      refine (dclean_any _ ⟨2, 0, r, []⟩ (Ev.real_ok HRL.out)).mono ?_
      rintro e W9 ⟨rfl, hB9⟩
      have h4 := h4.below hB9
      have HB9 := Lib.hid (HBF.out.then hB9)
      have HDV := Lib.hid (Ev.dv_real HRL.out rfl)
      clear hB9 hadd c0 c1 c2 d0 d1 d2
      generalize Key.dclean ⟨2, 0, r, []⟩ = q at HDV ⊢
      go_wp2_with (refine wpList_store_va rfl rfl (.tmp 6) (.tmp 111) rfl g rfl q rfl h4 ?_; intro Wa hba hga)
      exact ret_va hba rfl rfl rfl ⟨q, rfl, by rw [HV.out]; exact HDV.out, below_of_grown HB9.out hga (by omega) HB9.out.size⟩
    have n3 := run_str_is op [42] hop3
    have HV : Hid (Ev.arithV op a b = Key.nul) := by show _ = _; rw [HVE.out]; unfold Ev.fop; rw [if_neg hop, if_neg hop2, if_neg hop3]; rfl
    clear hop hop2 hop3 HVE
    go_wp2_with (refine wpList_store_va rfl rfl (.tmp 6) (.tmp 112) rfl g rfl Key.nul rfl h4 ?_; intro Wa hba hga)
    exact ret_va hba rfl rfl rfl ⟨Key.nul, rfl, by rw [HV.out]; exact Ev.dv_nul, below_of_grown HB7.out hga (by omega) HB7.out.size⟩
  · have HV : Hid (Ev.arithV op a b = Key.nul) := by show _ = _; rw [HVD.out, if_neg hr]
    clear HVD
    by_cases hx1 : x.k = 1
    · have hy1 : (y.k == 1) = false := by simp; exact fun e => hi ⟨hx1, e⟩
      rw [hx1] at c0
      clear hi hr hx1
      go_wp2_with (refine wpList_store_va rfl rfl (.tmp 6) (.tmp 112) rfl g rfl Key.nul rfl h4 ?_; intro Wa hba hga)
      exact ret_va hba rfl rfl rfl ⟨Key.nul, rfl, by rw [HV.out]; exact Ev.dv_nul, below_of_grown HB7.out hga (by omega) HB7.out.size⟩
    · have hx1b : (x.k == 1) = false := by simp [hx1]
      by_cases hx2 : x.k = 2
      · have hy2 : (y.k == 2) = false := by simp; exact fun e => hr ⟨hx2, e⟩
        rw [hx2] at c0
        clear hi hr hx1 hx2 hx1b
        go_wp2_with (refine wpList_store_va rfl rfl (.tmp 6) (.tmp 112) rfl g rfl Key.nul rfl h4 ?_; intro Wa hba hga)
        exact ret_va hba rfl rfl rfl ⟨Key.nul, rfl, by rw [HV.out]; exact Ev.dv_nul, below_of_grown HB7.out hga (by omega) HB7.out.size⟩
      · have hx2b : (x.k == 2) = false := by simp [hx2]
        clear hi hr hx1 hx2
        go_wp2_with (refine wpList_store_va rfl rfl (.tmp 6) (.tmp 112) rfl g rfl Key.nul rfl h4 ?_; intro Wa hba hga)
        exact ret_va hba rfl rfl rfl ⟨Key.nul, rfl, by rw [HV.out]; exact Ev.dv_nul, below_of_grown HB7.out hga (by omega) HB7.out.size⟩
set_option maxRecDepth 100000 in
set_option maxHeartbeats 4000000 in
theorem rneg_any (w : World) (a : Va) (ha : a.ok) : Calls Try.prog 89 #[a.v] w (RetD w (Ev.negV a)) := by
  have HA := Lib.hid ha
  have HXO := Lib.hid (Key.dclean_ok ha)
  have hfa := Ev.dclean_fields a
  clear ha
  go_enter Try.func89, Try.ntmps89
  go_upto_region 1 with (first | (refine wpList_box_va rfl (.tmp 0) rfl a rfl ?_; intro W1 hb1 hz1 hB1) | (refine wpList_alloc_va rfl rfl ?_; intro W2 hb2 hz2 hB2))
  have h1 := hb1.below hB2
  have h4 := hb2
  have HB2 := Lib.hid (hB1.then hB2)
  have hw1 : w.heap.size < W1.heap.size := by omega
  clear hb1 hb2 hB1 hB2 hz1 hz2
  generalize W1.heap.size = g at h4 hw1 ⊢
  have HFA := Lib.hid hfa
  clear hfa
  go_wp2_with (refine wpList_load_va rfl (.tmp 1) rfl w.heap.size rfl h1 ?_)
  refine (dclean_any _ a HA.out).mono ?_
  rintro e W3 ⟨rfl, hB3⟩
  have h1 := h1.below hB3
  have h4 := h4.below hB3
  have HB3 := Lib.hid (HB2.out.then hB3)
  clear hB3 HB2 HA
  have HVV : Hid (Ev.negV a = if (Key.dclean a).k = 2 then ⟨2, 0, Key.real1 (Ev.fneg (Key.dclean a).f), []⟩ else if (Key.dclean a).k = 1 then Ev.intV (Ev.fit (0 - (Key.dclean a).n)) else Key.nul) := by
    show _ = _
    unfold Ev.negV
    rw [HFA.out.1, HFA.out.2.1, ← Ev.neg_same HFA.out.2.2.1 HFA.out.2.2.2]
  clear HFA
  generalize Key.dclean a = x at HXO HVV ⊢
  go_upto_region 2 with (refine wpList_store_va rfl rfl (.tmp 1) (.tmp 4) rfl w.heap.size rfl x rfl h1 ?_; intro W4 hb4 hg4)
  have h4 := h4.grown hg4 (by simp; omega)
  have HB4 := Lib.hid (below_of_grown HB3.out hg4 (Nat.le_refl _) HB3.out.size)
  clear hg4 HB3
  obtain ⟨c0, c1, c2, c3, -⟩ := Blk.c4 hb4
  clear c3
  by_cases k2 : x.k = 2
  · have HV1 : Hid (Ev.negV a = ⟨2, 0, Key.real1 (Ev.fneg x.f), []⟩) := by show _ = _; rw [HVV.out, if_pos k2]
    have hneg := fun w => run_fneg w x.f (by rw [two64_eq]; exact HXO.out.f1)
    have hnl : Ev.fneg x.f < 18446744073709551616 := by have := HXO.out.f1; unfold Ev.fneg; split <;> omega
    rw [k2] at c0
    clear k2 HVV c1
    have HNL := Lib.hid hnl
    clear hnl
    generalize Ev.fneg x.f = r at HV1 hneg HNL
    go_wp2_with fail
    refine (dclean_any _ ⟨2, 0, r, []⟩ (Ev.real_ok HNL.out)).mono ?_
    rintro e W6 ⟨rfl, hB6⟩
    have h4 := h4.below hB6
    have HB6 := Lib.hid (HB4.out.then hB6)
    have HDV := Lib.hid (Ev.dv_real HNL.out rfl)
    clear hB6 c0 c2 hneg hb4
    generalize Key.dclean ⟨2, 0, r, []⟩ = q at HDV ⊢
    go_wp2_with (refine wpList_store_va rfl rfl (.tmp 2) (.tmp 12) rfl g rfl q rfl h4 ?_; intro Wa hba hga)
    exact ret_va hba rfl rfl rfl ⟨q, rfl, by rw [HV1.out]; exact HDV.out, below_of_grown HB6.out hga (by omega) HB6.out.size⟩
  · have k2b : (x.k == 2) = false := by simp [k2]
    by_cases k1 : x.k = 1
    · have HV1 : Hid (Ev.negV a = Ev.intV (Ev.fit (0 - x.n))) := by show _ = _; rw [HVV.out, if_neg k2, if_pos k1]
      rw [k1] at c0
      clear k2 k2b k1 HVV c2
      have HIX : Hid (Ev.inR x.n) := ⟨HXO.out.n1, HXO.out.n2⟩
      generalize x.n = m at c1 HV1 HIX
      by_cases hmin : m = -9223372036854775808
      · subst hmin
        have HV : Hid (Ev.negV a = Key.nul) := HV1.out
        go_wp2_with (refine wpList_store_va rfl rfl (.tmp 2) (.tmp 21) rfl g rfl Key.nul rfl h4 ?_; intro Wa hba hga)
        exact ret_va hba rfl rfl rfl ⟨Key.nul, rfl, by rw [HV.out]; exact Ev.dv_nul, below_of_grown HB4.out hga (by omega) HB4.out.size⟩
      · have hmb : (m == -9223372036854775808) = false := by simp [hmin]
        obtain ⟨k, hk⟩ : ∃ k, wrap64 (-m) = k := ⟨_, rfl⟩
        have hkk : k = -m := by
          have := HIX.out
          rw [← hk, IntWalk.wrap64_in _ (by unfold Ev.inR at this; omega)]
        have HIK : Hid (Ev.inR k) := by show Ev.inR _; have := HIX.out; unfold Ev.inR at *; omega
        have HV : Hid (Ev.negV a = ⟨1, k, 0, []⟩) := by
          show _ = _
          rw [HV1.out, show 0 - m = k by omega, Ev.fit_in HIK.out]; rfl
        clear hmin hkk HV1
        go_wp2_with (refine wpList_store_va rfl rfl (.tmp 2) (.tmp 25) rfl g rfl ⟨1, k, 0, []⟩ rfl h4 ?_; intro Wa hba hga)
        exact ret_va hba rfl rfl rfl ⟨⟨1, k, 0, []⟩, rfl, by rw [HV.out]; exact Ev.dv_int HIK.out, below_of_grown HB4.out hga (by omega) HB4.out.size⟩
    · have HV : Hid (Ev.negV a = Key.nul) := by show _ = _; rw [HVV.out, if_neg k2, if_neg k1]
      have k1b : (x.k != 1) = true := by simp [k1]
      clear k1 k2 HVV c1 c2
      go_wp2_with (refine wpList_store_va rfl rfl (.tmp 2) (.tmp 21) rfl g rfl Key.nul rfl h4 ?_; intro Wa hba hga)
      exact ret_va hba rfl rfl rfl ⟨Key.nul, rfl, by rw [HV.out]; exact Ev.dv_nul, below_of_grown HB4.out hga (by omega) HB4.out.size⟩
end Go.Proofs.Ytjdffhonljhpcaa
end

section
/-
  What a node comes to is a value as it may be.
-/
namespace Go.Proofs.Ytjdffhonljhpcaa
set_option linter.unusedSimpArgs false
set_option linter.unusedVariables false
open Go.RowKit

namespace Ev
theorem optB_ok (o : Option Bool) : (optB o).ok := by cases o with | none => exact nul_ok | some b => exact bool_ok b
theorem ofT_ok (t : Int) : (ofT t).ok := by unfold ofT; split; exact nul_ok; exact bool_ok _
theorem and_ok (a b : Va) : (andV a b).ok := by unfold andV; (repeat' split) <;> exact ofT_ok _
theorem not_ok (a : Va) : (notV a).ok := by unfold notV; split <;> exact ofT_ok _
theorem or_ok (a b : Va) : (orV a b).ok := not_ok _
theorem cmp_ok (op : List UInt8) (a b : Va) : (cmpV op a b).ok := by unfold cmpV; split; exact nul_ok; exact optB_ok _
theorem intV_ok {x : Int} : (intV (fit x)).ok := by
  by_cases h : inR x
  · rw [fit_in h]; exact int_ok h
  · rw [fit_out h]; exact nul_ok
theorem whole_ok (op : List UInt8) (a b : Int) : (intV (whole op a b)).ok := by unfold whole; (repeat' split) <;> first | exact intV_ok | exact nul_ok
theorem fnum_lt {o : Option Nat} (h : ∀ r, o = some r → r < 18446744073709551616) : fnum o < 18446744073709551616 := by
  cases o with
  | none => show 9221120237041090561 < 18446744073709551616; decide
  | some r => exact h r rfl
theorem fop_ok (op : List UInt8) (x y : Nat) : (realV (fop op x y)).ok := by
  unfold fop
  (repeat' split)
  · exact real_ok (Key.real1_lt (fnum_lt fun _ h => add_lt h))
  · exact real_ok (Key.real1_lt (fnum_lt fun _ h => sub_lt h))
  · exact real_ok (Key.real1_lt (fnum_lt fun _ h => mul_lt h))
  · exact nul_ok
theorem arith_ok (op : List UInt8) (a b : Va) : (arithV op a b).ok := by
  unfold arithV
  split
  · exact whole_ok _ _ _
  · split
    · exact fop_ok _ _ _
    · exact nul_ok
theorem neg_ok {a : Va} (h : a.ok) : (negV a).ok := by
  have hc := clean_ok h
  unfold negV
  split
  · refine real_ok (Key.real1_lt ?_)
    have := hc.f1
    unfold fneg
    split <;> omega
  · split
    · exact intV_ok
    · exact nul_ok
theorem nth_ok {l : List Va} (h : ∀ v ∈ l, v.ok) (i : Nat) : (nth l i).ok := by
  unfold nth
  by_cases hi : i < l.length
  · simp only [List.getD, List.getElem?_eq_getElem hi, Option.getD_some]; exact h _ (List.getElem_mem hi)
  · simp only [List.getD, List.getElem?_eq_none (Nat.le_of_not_lt hi), Option.getD_none]; exact nul_ok
theorem evalK_ok {row : List Va} {n : Nd} {vs : List Va} (hr : ∀ v ∈ row, v.ok) (hl : n.lit.ok) (hv : ∀ v ∈ vs, v.ok) : (evalK row n vs).ok := by
  unfold evalK
  (repeat' split) <;> first | exact nul_ok | exact bool_ok _ | exact clean_ok hl | exact clean_ok (nth_ok hr _) | exact neg_ok (nth_ok hv _) | exact not_ok _ | exact and_ok _ _ | exact or_ok _ _ | exact cmp_ok _ _ _ | exact arith_ok _ _ _
theorem eval_ok {w : World} {row : List Va} (hr : ∀ v ∈ row, v.ok) {n : Nd} (hn : NodeIn w n) : (eval row n).ok := by
  induction hn with
  | @mk n h1 h2 h3 h4 h5 h6 h7 h8 ih =>
    rw [eval_eq]
    refine evalK_ok hr h3 fun v hv => ?_
    rw [evalL_map] at hv
    obtain ⟨m, hm, rfl⟩ := List.mem_map.1 hv
    exact ih m hm
theorem evalL_ok {w : World} {row : List Va} (hr : ∀ v ∈ row, v.ok) {n : Nd} (hn : NodeIn w n) : ∀ v ∈ evalL row n.args, v.ok := by
  cases hn with
  | mk h1 h2 h3 h4 h5 h6 h7 h8 =>
    intro v hv
    rw [evalL_map] at hv
    obtain ⟨m, hm, rfl⟩ := List.mem_map.1 hv
    exact eval_ok hr (h2 m hm)
end Ev
end Go.Proofs.Ytjdffhonljhpcaa
end

section
/-
  The contract of eval.Eval: what a node comes to in a row.
-/
namespace Go.Proofs.Ytjdffhonljhpcaa
set_option linter.unusedSimpArgs false
set_option linter.unusedVariables false
open Go.RowKit

section
theorem nd_one (n : Nd) : ∀ u ∈ n.cells, u.oneCell' = true := eNd.one n
theorem nd_zero (W : World) : (zeroValue 63).run Try.prog W = .ok Nd.nil.v W := (zero_of_info (P := Try.prog) (t := 63) (v := Nd.nil.v) (n := 10) (by kernel_rfl)).1 W
theorem nd_info : (Try.prog.info? 63).map (·.size) = some 10 := by kernel_rfl
variable {w : World} {ops : Array Oper} {rest : List Oper} {o : Oper} {a : Act} {Q : Exit → Act → World → Prop}
theorem wpList_alloc_nd (hgd : o.guard = none) (hop : o.op = .alloc 63)
    (h : ∀ W, Blk W w.heap.size 63 Nd.nil.cells → w.heap.size + 1 ≤ W.heap.size → Below w.heap.size w W → wpList Try.prog ops Q rest (a.put o.dst (.pointer (some ⟨w.heap.size, 0, none⟩))) W) : wpList Try.prog ops Q (o :: rest) a w :=
  wpList_alloc_z hgd 63 hop (nd_zero _) fun W hW => by
    obtain ⟨h1, h2, h3⟩ := fresh1 (a := Nd.nil.cells) hW
    exact h W h1 h2 h3
theorem wpList_store_nd (hgd : o.guard = none) (hod : o.dst = none) (x y : Operand) (hop : o.op = .store 63 x y) (g : Nat) (hx : a.eval x = .pointer (some ⟨g, 0, none⟩)) (b : Nd) (hy : a.eval y = b.v) {T0 : TypeId} {old : Nd} (hb : Blk w g T0 old.cells)
    (h : ∀ W, Blk W g T0 b.cells → w.grownBy W (some g) → wpList Try.prog ops Q rest a W) : wpList Try.prog ops Q (o :: rest) a w :=
  wpList_store_blk hgd hod 63 x y hop g hx b.cells hy hb rfl nd_info (nd_one b) h
theorem wpList_load_nd (hgd : o.guard = none) (x : Operand) (hop : o.op = .load 63 x) (g : Nat) (hx : a.eval x = .pointer (some ⟨g, 0, none⟩)) {T0 : TypeId} {b : Nd} (hb : Blk w g T0 b.cells)
    (h : wpList Try.prog ops Q rest (a.put o.dst b.v) w) : wpList Try.prog ops Q (o :: rest) a w :=
  wpList_load_mid hgd 63 x hop g 0 hx b.cells _ (hb.range 0 b.cells fun j _ => by rw [Nat.zero_add]) Try.underlying63 rfl nd_info h
theorem wpList_load_nd_at (hgd : o.guard = none) (x : Operand) (hop : o.op = .load 63 x) {b off : Nat} {L : List Nd} (hr : ERow eNd w (some ⟨b, off, none⟩) L) {j : Nat} (hj : j < L.length) (hx : a.eval x = .pointer (some ⟨b, off + j * 10, none⟩))
    (h : wpList Try.prog ops Q rest (a.put o.dst L[j].v) w) : wpList Try.prog ops Q (o :: rest) a w := by
  obtain ⟨b', off', e, hb, hrg⟩ := hr.range hj
  cases e
  exact wpList_load_mid hgd 63 x hop b (off + j * 10) hx L[j].cells _ hrg Try.underlying63 rfl nd_info h
theorem wpList_box_nd (hgd : o.guard = none) (x : Operand) (hop : o.op = .box 63 x) (b : Nd) (hx : a.eval x = b.v)
    (h : ∀ W, Blk W w.heap.size 63 b.cells → w.heap.size + 1 ≤ W.heap.size → Below w.heap.size w W → wpList Try.prog ops Q rest (a.put o.dst (.pointer (some ⟨w.heap.size, 0, none⟩))) W) : wpList Try.prog ops Q (o :: rest) a w :=
  wpList_plain hgd fun _ hK => by
    unfold Oper.wp execOp
    have e : (Instr.box 63 b.v).run Try.prog w = .ok (.pointer (some ⟨w.heap.size, 0, none⟩)) (w.alloc (.cells b.cells.toArray 63)) := by
      simp [Instr.box, Sem.run_bind, newVar, newRow]
      rfl
    simp only [hop, hx, Sem.run_bind, e, Result.andThen_ok, Sem.run_pure]
    obtain ⟨h1, h2, h3⟩ := fresh1 (w := w) (a := b.cells) (t := 63) rfl
    exact hK _ _ (h _ h1 h2 h3)
theorem Blk.c10 {w : World} {g : Nat} {t : TypeId} {a b c d e f i j k l : Value} (h : Blk w g t [a, b, c, d, e, f, i, j, k, l]) :
    w.cell? ⟨g, 0, none⟩ = some a ∧ w.cell? ⟨g, 1, none⟩ = some b ∧ w.cell? ⟨g, 2, none⟩ = some c ∧ w.cell? ⟨g, 3, none⟩ = some d ∧ w.cell? ⟨g, 4, none⟩ = some e ∧ w.cell? ⟨g, 5, none⟩ = some f ∧ w.cell? ⟨g, 6, none⟩ = some i ∧ w.cell? ⟨g, 7, none⟩ = some j ∧ w.cell? ⟨g, 8, none⟩ = some k ∧ w.cell? ⟨g, 9, none⟩ = some l ∧ g < w.heap.size :=
  ⟨h.cell 0, h.cell 1, h.cell 2, h.cell 3, h.cell 4, h.cell 5, h.cell 6, h.cell 7, h.cell 8, h.cell 9, h.lt⟩
end
theorem wpList_load_lit {w : World} {ops : Array Oper} {rest : List Oper} {o : Oper} {a : Act} {Q : Exit → Act → World → Prop} (hgd : o.guard = none) (x : Operand) (hop : o.op = .load 35 x) (g : Nat) (hx : a.eval x = .pointer (some ⟨g, 2, none⟩)) {T0 : TypeId} {b : Nd} (hb : Blk w g T0 b.cells)
    (h : wpList Try.prog ops Q rest (a.put o.dst b.lit.v) w) : wpList Try.prog ops Q (o :: rest) a w :=
  wpList_load_mid hgd 35 x hop g 2 hx b.lit.cells _ (hb.range 2 b.lit.cells fun j hj => by
    have : j < 4 := hj
    rcases (show j = 0 ∨ j = 1 ∨ j = 2 ∨ j = 3 by omega) with rfl | rfl | rfl | rfl <;> rfl) Try.underlying35 rfl va_info h
theorem va_field0 (v : Va) (w : World) : (Instr.field 35 v.v 0).run Try.prog w = .ok (.int .i64 v.k) w := by kernel_rfl
/-- What eval.Eval answers of a node, in all worlds behind w. -/
def EvalsTo (w : World) (R : Option Addr) (rc : Nat) (row : List Va) (n : Nd) : Prop :=
  ∀ W, Below w.heap.size w W → Calls Try.prog 29 #[n.v, .slice R row.length rc] W (RetV W (Ev.eval row n))
set_option maxRecDepth 20000 in
set_option maxHeartbeats 4000000 in
theorem earg_any (w : World) (R : Option Addr) (rc : Nat) (row : List Va) (n : Nd) (hr : ERow eNd w n.a n.args) (hc : n.args.length ≤ n.c) (hm : n.c ≤ maxLen) (ih : ∀ m ∈ n.args, EvalsTo w R rc row m)
    (W : World) (hB : Below w.heap.size w W) (gn gr : Nat) (T : TypeId) (hn : Blk W gn T n.cells) (hrr : Blk W gr 32 [.slice R row.length rc]) (i : Nat) (hi : i < 2) :
    Calls Try.prog 56 #[.int .i64 i, .pointer (some ⟨gn, 0, none⟩), .pointer (some ⟨gr, 0, none⟩)] W (RetV W (Ev.nth (Ev.evalL row n.args) i)) := by
  have HV := Lib.hid (Ev.evalL_get row n.args i)
  have HR := Lib.hid (hr.below hB)
  have HIH := Lib.hid ih
  have HBW := Lib.hid hB
  clear hr ih hB
  have hcm : n.args.length ≤ 9223372036854775807 := by unfold maxLen at hm; omega
  go_enter Try.func56, Try.ntmps56
  go_upto_region 1 with (refine wpList_alloc_va rfl rfl ?_; intro W1 hb1 hz1 hB1)
  have hn1 := hn.below hB1
  have hr1 := hrr.below hB1
  have HB1 := Lib.hid hB1
  have HR1 := Lib.hid (HR.out.below hB1)
  clear hn hrr hB1 HR
  obtain ⟨-, -, -, -, -, -, -, -, -, c9, -⟩ := Blk.c10 hn1
  have d0 := hr1.cell 0
  simp only [List.getElem?_cons_zero] at d0
  by_cases hlt : i < n.args.length
  · have hii : (i : Int) < (n.args.length : Int) := by omega
    have HV2 : Hid (Ev.nth (Ev.evalL row n.args) i = Ev.eval row n.args[i]) := by show _ = _; rw [HV.out, dif_pos hlt]
    have HE := Lib.hid (HIH.out n.args[i] (List.getElem_mem hlt))
    go_upto_region 2 with fail
    obtain ⟨bb, oo, ha, hbl, -⟩ := HR1.out.at_ hlt
    have HR2 : Hid (ERow eNd W1.drew (some ⟨bb, oo, none⟩) n.args) := by show ERow _ _ _ _; rw [← ha]; exact HR1.out.below (Below.refl W1.heap.size W1).drewR
    rw [ha] at c9 ⊢
    clear ha hbl
    have hb1d := hb1.drew
    have HBD := Lib.hid (HBW.out.then (HB1.out.drewR))
    refine wp_region_plan (.take 0 (.take 1 (.take 2 (.take 3 (.take 4 (.take 5 (.run 6 [] (.run 7 [] .fin)))))))) (by kernel_rfl) (by kernel_rfl) (by kernel_rfl) (by kernel_rfl) ?_
    repeat' (first | (refine hZ _ _ ?_; clear hZ) | (refine hZ _ ?_; clear hZ) | (refine hZ ?_; clear hZ) | rw [again_nil] | rw [walk_fin] | ((first | rw [walk_take] | rw [walk_run] | rw [again_cons]); intro Z hZ; simp only [sel, List.getElem?_toArray, List.getElem?_cons_zero, List.getElem?_cons_succ]; go_wp2_with (refine wpList_load_nd_at rfl (.tmp 13) rfl HR2.out hlt rfl ?_)))
    refine (HE.out _ HBD.out).mono ?_
    rintro e W2 ⟨rfl, hB2⟩
    have hb2 := hb1d.below hB2
    have HB2 := Lib.hid (HB1.out.drewR.trans (hB2.mono HB1.out.size))
    clear hB2 hb1d hb1
    generalize Ev.eval row n.args[i] = d at HV2 ⊢
    go_wp2_with fail
    repeat' (first | (refine hZ _ _ ?_; clear hZ) | (refine hZ _ ?_; clear hZ) | (refine hZ ?_; clear hZ) | rw [again_nil] | rw [walk_fin] | ((first | rw [walk_take] | rw [walk_run] | rw [again_cons]); intro Z hZ; simp only [sel, List.getElem?_toArray, List.getElem?_cons_zero, List.getElem?_cons_succ]; go_wp2_with (refine wpList_store_va rfl rfl (.tmp 4) (.tmp 16) rfl W.heap.size rfl d rfl hb2 ?_; intro W4 hb4 hg4)))
    go_wp2_with fail
    exact ret_va hb4 rfl rfl rfl ⟨by rw [HV2.out], below_of_grown HB2.out hg4 (Nat.le_refl _) HB2.out.size⟩
  · have hii : ¬ (i : Int) < (n.args.length : Int) := by omega
    have HV2 : Hid (Ev.nth (Ev.evalL row n.args) i = Key.nul) := by show _ = _; rw [HV.out, dif_neg hlt]
    go_wp2_with (refine wpList_store_va rfl rfl (.tmp 4) (.tmp 17) rfl W.heap.size rfl Key.nul rfl hb1 ?_; intro W4 hb4 hg4)
    exact ret_va hb4 rfl rfl rfl ⟨by rw [HV2.out], below_of_grown HB1.out hg4 (Nat.le_refl _) HB1.out.size⟩
set_option maxRecDepth 100000 in
set_option maxHeartbeats 16000000 in
theorem eval_any (w : World) (R : Option Addr) (rc : Nat) (row : List Va) (hrow : ERow eVa w R row) (hok : ∀ v ∈ row, v.ok) (hlen : row.length ≤ 9223372036854775807) (n : Nd) (hn : NodeIn w n) : EvalsTo w R rc row n := by
  have HROW := Lib.hid hrow
  have HOK := Lib.hid hok
  have HLEN := Lib.hid hlen
  clear hrow hok hlen
  induction hn with
  | @mk n hr hin hlit hls hk hat hc hm ih =>
  have HVO := Lib.hid (Ev.evalL_ok HOK.out (NodeIn.mk hr hin hlit hls hk hat hc hm))
  have HARG := Lib.hid (fun W hB gn gr T hn hrr i hi => earg_any w R rc row n hr hc hm ih W hB gn gr T hn hrr i hi)
  have HLIT := Lib.hid hlit
  have HVE := Lib.hid (Ev.eval_eq row n)
  clear hr hin hlit hls hk hat hc hm ih
  intro W hB
  have HB := Lib.hid hB
  clear hB
  have hmf : ∀ (fn : Fn) (first cap : Array Value) (w : World), (Instr.makeFunc fn first cap).run Try.prog w = .ok (.func fn first cap) w := fun _ _ _ _ => rfl
  generalize Ev.evalL row n.args = vs at HVO HARG HVE
  go_enter Try.func29, Try.ntmps29
  go_upto_region 1 with (first | (refine wpList_box_nd rfl (.tmp 0) rfl n rfl ?_; intro W1 hb1 hz1 hB1) | (refine wpList_alloc_va rfl rfl ?_; intro W3 hb3 hz3 hB3))
  obtain ⟨ba, hz2, hB2⟩ := fresh1 (w := W1) (a := [.slice R row.length rc]) (t := 32) rfl
  have h1 := (hb1.below hB2).below hB3
  have h2 := ba.below hB3
  have h4 := hb3
  have HB3 := Lib.hid ((hB1.then hB2).then hB3)
  have hg1 : W.heap.size < W1.heap.size := by omega
  have hg2 : W1.heap.size < (W1.alloc (.cells #[.slice R row.length rc] 32)).heap.size := by simp
  clear hb1 hB1 ba hB2 hz2 hb3 hB3 hz3 hz1
  generalize (World.alloc W1 _).heap.size = g at h4 hg2 ⊢
  generalize W1.heap.size = gr at h2 hg1 hg2 ⊢
  have hgw : W.heap.size ≤ W.heap.size := Nat.le_refl _
  clear W1
  obtain ⟨c0, c1, -, -, -, -, c6, c7, -, -, -⟩ := Blk.c10 h1
  have d0 := h2.cell 0
  simp only [List.getElem?_cons_zero] at d0
  have HBW := Lib.hid (HB.out.then HB3.out)
  clear HB
  by_cases k1 : n.k = 1
  · have HV : Hid (Ev.eval row n = Key.clean n.lit) := by show _ = _; rw [HVE.out]; unfold Ev.evalK; rw [if_pos k1]
    rw [k1] at c0
    clear k1 HVE
    go_wp2_with (refine wpList_load_lit rfl (.tmp 11) rfl W.heap.size rfl h1 ?_)
    refine (clean_any _ n.lit HLIT.out).mono ?_
    rintro e W5 ⟨rfl, hB5⟩
    have h4 := h4.below hB5
    have HB5 := Lib.hid (HB3.out.then hB5)
    clear hB5 HB3
    generalize Key.clean n.lit = d at HV ⊢
    go_wp2_with (refine wpList_store_va rfl rfl (.tmp 4) (.tmp 13) rfl g rfl d rfl h4 ?_; intro Wa hba hga)
    exact ret_va hba rfl rfl rfl ⟨by rw [HV.out], below_of_grown HB5.out hga (by omega) HB5.out.size⟩
  by_cases k2 : n.k = 2
  · have HVC : Hid (Ev.eval row n = if 0 ≤ n.at_ ∧ n.at_ < (row.length : Int) then Key.clean (Ev.nth row n.at_.toNat) else Key.nul) := by show _ = _; rw [HVE.out]; unfold Ev.evalK; rw [if_neg k1, if_pos k2]
    rw [k2] at c0
    clear k1 k2 HVE
    by_cases ha0 : 0 ≤ n.at_
    · by_cases hal : n.at_ < (row.length : Int)
      · obtain ⟨j, hj⟩ := Int.eq_ofNat_of_zero_le ha0
        have hjl : j < row.length := by omega
        have HV : Hid (Ev.eval row n = Key.clean row[j]) := by
          show _ = _
          rw [HVC.out, if_pos ⟨ha0, hal⟩, hj]
          unfold Ev.nth
          simp [List.getD, hjl]
        rw [hj] at c6
        have hji : (j : Int) < (row.length : Int) := by omega
        have HRW := Lib.hid (HROW.out.below HBW.out)
        have HOJ := Lib.hid (HOK.out row[j] (List.getElem_mem hjl))
        obtain ⟨bb, oo, rfl, hbl, -⟩ := HRW.out.at_ hjl
        clear hj hal ha0 HVC hbl
        have hlen := HLEN.out
        go_wp2_with (refine wpList_load_va_at rfl (.tmp 29) rfl HRW.out hjl rfl ?_)
        refine (clean_any _ row[j] HOJ.out).mono ?_
        rintro e W5 ⟨rfl, hB5⟩
        have h4 := h4.below hB5
        have HB5 := Lib.hid (HB3.out.then hB5)
        clear hB5 HB3
        generalize Key.clean row[j] = d at HV ⊢
        go_wp2_with (refine wpList_store_va rfl rfl (.tmp 4) (.tmp 31) rfl g rfl d rfl h4 ?_; intro Wa hba hga)
        exact ret_va hba rfl rfl rfl ⟨by rw [HV.out], below_of_grown HB5.out hga (by omega) HB5.out.size⟩
      · have HV : Hid (Ev.eval row n = Key.nul) := by show _ = _; rw [HVC.out, if_neg (fun h => hal h.2)]
        clear HVC
        go_wp2_with (refine wpList_store_va rfl rfl (.tmp 4) (.tmp 84) rfl g rfl Key.nul rfl h4 ?_; intro Wa hba hga)
        exact ret_va hba rfl rfl rfl ⟨by rw [HV.out], below_of_grown HB3.out hga (by omega) HB3.out.size⟩
    · have HV : Hid (Ev.eval row n = Key.nul) := by show _ = _; rw [HVC.out, if_neg (fun h => ha0 h.1)]
      clear HVC
      go_wp2_with (refine wpList_store_va rfl rfl (.tmp 4) (.tmp 84) rfl g rfl Key.nul rfl h4 ?_; intro Wa hba hga)
      exact ret_va hba rfl rfl rfl ⟨by rw [HV.out], below_of_grown HB3.out hga (by omega) HB3.out.size⟩
  by_cases k3 : n.k = 3
  · have HV : Hid (Ev.eval row n = Ev.negV (Ev.nth vs 0)) := by show _ = _; rw [HVE.out]; unfold Ev.evalK; rw [if_neg k1, if_neg k2, if_pos k3]
    rw [k3] at c0
    clear k1 k2 k3 HVE c6 c1 c7
    go_wp2_with fail
    refine (HARG.out _ HBW.out W.heap.size gr _ h1 h2 0 (by decide)).mono ?_
    rintro e W4 ⟨rfl, hB4⟩
    have h1 := h1.below hB4
    have h2 := h2.below hB4
    have h4 := h4.below hB4
    have HB3 := Lib.hid (HB3.out.then hB4)
    have HBW := Lib.hid (HBW.out.then hB4)
    clear hB4
    have HO0 := Lib.hid (Ev.nth_ok HVO.out 0)
    generalize Ev.nth vs 0 = x0 at HV HO0 ⊢
    go_wp2_with fail
    refine (vneg_any _ x0 HO0.out).mono ?_
    rintro e W5 ⟨rfl, hB5⟩
    have h4 := h4.below hB5
    have HB5 := Lib.hid (HB3.out.then hB5)
    clear hB5 HB3
    generalize Ev.negV x0 = d at HV ⊢
    go_wp2_with (refine wpList_store_va rfl rfl (.tmp 4) (.tmp 36) rfl g rfl d rfl h4 ?_; intro Wa hba hga)
    exact ret_va hba rfl rfl rfl ⟨by rw [HV.out], below_of_grown HB5.out hga (by omega) HB5.out.size⟩
  by_cases k4 : n.k = 4
  · have HV : Hid (Ev.eval row n = Ev.notV (Ev.nth vs 0)) := by show _ = _; rw [HVE.out]; unfold Ev.evalK; rw [if_neg k1, if_neg k2, if_neg k3, if_pos k4]
    rw [k4] at c0
    clear k1 k2 k3 k4 HVE c6 c1 c7
    go_wp2_with fail
    refine (HARG.out _ HBW.out W.heap.size gr _ h1 h2 0 (by decide)).mono ?_
    rintro e W4 ⟨rfl, hB4⟩
    have h1 := h1.below hB4
    have h2 := h2.below hB4
    have h4 := h4.below hB4
    have HB3 := Lib.hid (HB3.out.then hB4)
    have HBW := Lib.hid (HBW.out.then hB4)
    clear hB4
    have HO0 := Lib.hid (Ev.nth_ok HVO.out 0)
    generalize Ev.nth vs 0 = x0 at HV HO0 ⊢
    go_wp2_with fail
    refine (vnot_any _ x0).mono ?_
    rintro e W5 ⟨rfl, hB5⟩
    have h4 := h4.below hB5
    have HB5 := Lib.hid (HB3.out.then hB5)
    clear hB5 HB3
    generalize Ev.notV x0 = d at HV ⊢
    go_wp2_with (refine wpList_store_va rfl rfl (.tmp 4) (.tmp 41) rfl g rfl d rfl h4 ?_; intro Wa hba hga)
    exact ret_va hba rfl rfl rfl ⟨by rw [HV.out], below_of_grown HB5.out hga (by omega) HB5.out.size⟩
  by_cases k5 : n.k = 5
  · have HV : Hid (Ev.eval row n = Ev.andV (Ev.nth vs 0) (Ev.nth vs 1)) := by show _ = _; rw [HVE.out]; unfold Ev.evalK; rw [if_neg k1, if_neg k2, if_neg k3, if_neg k4, if_pos k5]
    rw [k5] at c0
    clear k1 k2 k3 k4 k5 HVE c6 c1 c7
    go_wp2_with fail
    refine (HARG.out _ HBW.out W.heap.size gr _ h1 h2 0 (by decide)).mono ?_
    rintro e W4 ⟨rfl, hB4⟩
    have h1 := h1.below hB4
    have h2 := h2.below hB4
    have h4 := h4.below hB4
    have HB3 := Lib.hid (HB3.out.then hB4)
    have HBW := Lib.hid (HBW.out.then hB4)
    clear hB4
    have HO0 := Lib.hid (Ev.nth_ok HVO.out 0)
    generalize Ev.nth vs 0 = x0 at HV HO0 ⊢
    go_wp2_with fail
    refine (HARG.out _ HBW.out W.heap.size gr _ h1 h2 1 (by decide)).mono ?_
    rintro e W6 ⟨rfl, hB4⟩
    have h1 := h1.below hB4
    have h2 := h2.below hB4
    have h4 := h4.below hB4
    have HB3 := Lib.hid (HB3.out.then hB4)
    have HBW := Lib.hid (HBW.out.then hB4)
    clear hB4
    have HO1 := Lib.hid (Ev.nth_ok HVO.out 1)
    generalize Ev.nth vs 1 = x1 at HV HO1 ⊢
    go_wp2_with fail
    refine (vand_any _ x0 x1).mono ?_
    rintro e W5 ⟨rfl, hB5⟩
    have h4 := h4.below hB5
    have HB5 := Lib.hid (HB3.out.then hB5)
    clear hB5 HB3
    generalize Ev.andV x0 x1 = d at HV ⊢
    go_wp2_with (refine wpList_store_va rfl rfl (.tmp 4) (.tmp 48) rfl g rfl d rfl h4 ?_; intro Wa hba hga)
    exact ret_va hba rfl rfl rfl ⟨by rw [HV.out], below_of_grown HB5.out hga (by omega) HB5.out.size⟩
  by_cases k6 : n.k = 6
  · have HV : Hid (Ev.eval row n = Ev.orV (Ev.nth vs 0) (Ev.nth vs 1)) := by show _ = _; rw [HVE.out]; unfold Ev.evalK; rw [if_neg k1, if_neg k2, if_neg k3, if_neg k4, if_neg k5, if_pos k6]
    rw [k6] at c0
    clear k1 k2 k3 k4 k5 k6 HVE c6 c1 c7
    go_wp2_with fail
    refine (HARG.out _ HBW.out W.heap.size gr _ h1 h2 0 (by decide)).mono ?_
    rintro e W4 ⟨rfl, hB4⟩
    have h1 := h1.below hB4
    have h2 := h2.below hB4
    have h4 := h4.below hB4
    have HB3 := Lib.hid (HB3.out.then hB4)
    have HBW := Lib.hid (HBW.out.then hB4)
    clear hB4
    have HO0 := Lib.hid (Ev.nth_ok HVO.out 0)
    generalize Ev.nth vs 0 = x0 at HV HO0 ⊢
    go_wp2_with fail
    refine (HARG.out _ HBW.out W.heap.size gr _ h1 h2 1 (by decide)).mono ?_
    rintro e W6 ⟨rfl, hB4⟩
    have h1 := h1.below hB4
    have h2 := h2.below hB4
    have h4 := h4.below hB4
    have HB3 := Lib.hid (HB3.out.then hB4)
    have HBW := Lib.hid (HBW.out.then hB4)
    clear hB4
    have HO1 := Lib.hid (Ev.nth_ok HVO.out 1)
    generalize Ev.nth vs 1 = x1 at HV HO1 ⊢
    go_wp2_with fail
    refine (vor_any _ x0 x1).mono ?_
    rintro e W5 ⟨rfl, hB5⟩
    have h4 := h4.below hB5
    have HB5 := Lib.hid (HB3.out.then hB5)
    clear hB5 HB3
    generalize Ev.orV x0 x1 = d at HV ⊢
    go_wp2_with (refine wpList_store_va rfl rfl (.tmp 4) (.tmp 55) rfl g rfl d rfl h4 ?_; intro Wa hba hga)
    exact ret_va hba rfl rfl rfl ⟨by rw [HV.out], below_of_grown HB5.out hga (by omega) HB5.out.size⟩
  by_cases k7 : n.k = 7
  · have HV : Hid (Ev.eval row n = Ev.cmpV n.op (Ev.nth vs 0) (Ev.nth vs 1)) := by show _ = _; rw [HVE.out]; unfold Ev.evalK; rw [if_neg k1, if_neg k2, if_neg k3, if_neg k4, if_neg k5, if_neg k6, if_pos k7]
    rw [k7] at c0
    clear k1 k2 k3 k4 k5 k6 k7 HVE c6 c7
    go_upto_region 17 with fail
    clear c0 c1
    have h1 := h1.drew
    have h2 := h2.drew
    have h4 := h4.drew
    have HB3 := Lib.hid (HB3.out.drewR)
    have HBW := Lib.hid (HBW.out.drewR)
    clear d0
    obtain ⟨-, e1, -, -, -, -, -, e7, -, -, -⟩ := Blk.c10 h1
    refine wp_region_plan (.take 0 (.take 1 (.take 2 (.take 4 (.run 3 [0, 1, 4] (.run 5 [0, 1] (.run 6 [] (.run 7 [] .fin)))))))) (by kernel_rfl) (by kernel_rfl) (by kernel_rfl) (by kernel_rfl) ?_
    clear e7
    repeat' (first | (refine hZ _ _ ?_; clear hZ) | (refine hZ _ ?_; clear hZ) | (refine hZ ?_; clear hZ) | rw [again_nil] | rw [walk_fin] | ((first | rw [walk_take] | rw [walk_run] | rw [again_cons]); intro Z hZ; simp only [sel, List.getElem?_toArray, List.getElem?_cons_zero, List.getElem?_cons_succ]; go_wp2_with (fail)))
    refine (HARG.out _ HBW.out W.heap.size gr _ h1 h2 0 (by decide)).mono ?_
    rintro e W4 ⟨rfl, hB4⟩
    have h1 := h1.below hB4
    have h2 := h2.below hB4
    have h4 := h4.below hB4
    have HB3 := Lib.hid (HB3.out.trans (hB4.mono HB3.out.size))
    have HBW := Lib.hid (HBW.out.trans (hB4.mono HBW.out.size))
    clear hB4 e1
    obtain ⟨-, e1, -, -, -, -, -, -, -, -, -⟩ := Blk.c10 h1
    have HO0 := Lib.hid (Ev.nth_ok HVO.out 0)
    generalize Ev.nth vs 0 = x0 at HV HO0 ⊢
    go_wp2_with fail
    repeat' (first | (refine hZ _ _ ?_; clear hZ) | (refine hZ _ ?_; clear hZ) | (refine hZ ?_; clear hZ) | rw [again_nil] | rw [walk_fin] | ((first | rw [walk_take] | rw [walk_run] | rw [again_cons]); intro Z hZ; simp only [sel, List.getElem?_toArray, List.getElem?_cons_zero, List.getElem?_cons_succ]; go_wp2_with (fail)))
    refine (HARG.out _ HBW.out W.heap.size gr _ h1 h2 1 (by decide)).mono ?_
    rintro e W6 ⟨rfl, hB4⟩
    have h1 := h1.below hB4
    have h4 := h4.below hB4
    have HB3 := Lib.hid (HB3.out.trans (hB4.mono HB3.out.size))
    clear hB4 e1
    obtain ⟨-, e1, -, -, -, -, -, -, -, -, -⟩ := Blk.c10 h1
    have HO1 := Lib.hid (Ev.nth_ok HVO.out 1)
    generalize Ev.nth vs 1 = x1 at HV HO1 ⊢
    go_wp2_with fail
    repeat' (first | (refine hZ _ _ ?_; clear hZ) | (refine hZ _ ?_; clear hZ) | (refine hZ ?_; clear hZ) | rw [again_nil] | rw [walk_fin] | ((first | rw [walk_take] | rw [walk_run] | rw [again_cons]); intro Z hZ; simp only [sel, List.getElem?_toArray, List.getElem?_cons_zero, List.getElem?_cons_succ]; go_wp2_with (fail)))
    refine (vcmp_any _ n.op x0 x1 HO0.out HO1.out).mono ?_
    rintro e W7 ⟨rfl, hB4⟩
    have h1 := h1.below hB4
    have h4 := h4.below hB4
    have HB3 := Lib.hid (HB3.out.trans (hB4.mono HB3.out.size))
    clear hB4 e1
    obtain ⟨-, e1, -, -, -, -, -, -, -, -, -⟩ := Blk.c10 h1
    generalize Ev.cmpV n.op x0 x1 = d at HV ⊢
    go_wp2_with fail
    repeat' (first | (refine hZ _ _ ?_; clear hZ) | (refine hZ _ ?_; clear hZ) | (refine hZ ?_; clear hZ) | rw [again_nil] | rw [walk_fin] | ((first | rw [walk_take] | rw [walk_run] | rw [again_cons]); intro Z hZ; simp only [sel, List.getElem?_toArray, List.getElem?_cons_zero, List.getElem?_cons_succ]; go_wp2_with (refine wpList_store_va rfl rfl (.tmp 4) (.tmp 64) rfl g rfl d rfl h4 ?_; intro Wa hba hga)))
    go_wp2_with fail
    exact ret_va hba rfl rfl rfl ⟨by rw [HV.out], below_of_grown HB3.out hga (by omega) HB3.out.size⟩
  by_cases k8 : n.k = 8
  · have HV : Hid (Ev.eval row n = Ev.arithV n.op (Ev.nth vs 0) (Ev.nth vs 1)) := by show _ = _; rw [HVE.out]; unfold Ev.evalK; rw [if_neg k1, if_neg k2, if_neg k3, if_neg k4, if_neg k5, if_neg k6, if_neg k7, if_pos k8]
    rw [k8] at c0
    clear k1 k2 k3 k4 k5 k6 k7 k8 HVE c6 c7
    go_upto_region 19 with fail
    clear c0 c1
    have h1 := h1.drew
    have h2 := h2.drew
    have h4 := h4.drew
    have HB3 := Lib.hid (HB3.out.drewR)
    have HBW := Lib.hid (HBW.out.drewR)
    clear d0
    obtain ⟨-, e1, -, -, -, -, -, e7, -, -, -⟩ := Blk.c10 h1
    refine wp_region_plan (.take 0 (.take 1 (.take 2 (.take 4 (.run 3 [0, 1, 4] (.run 5 [0, 1] (.run 6 [] (.run 7 [] .fin)))))))) (by kernel_rfl) (by kernel_rfl) (by kernel_rfl) (by kernel_rfl) ?_
    clear e7
    repeat' (first | (refine hZ _ _ ?_; clear hZ) | (refine hZ _ ?_; clear hZ) | (refine hZ ?_; clear hZ) | rw [again_nil] | rw [walk_fin] | ((first | rw [walk_take] | rw [walk_run] | rw [again_cons]); intro Z hZ; simp only [sel, List.getElem?_toArray, List.getElem?_cons_zero, List.getElem?_cons_succ]; go_wp2_with (fail)))
    refine (HARG.out _ HBW.out W.heap.size gr _ h1 h2 0 (by decide)).mono ?_
    rintro e W4 ⟨rfl, hB4⟩
    have h1 := h1.below hB4
    have h2 := h2.below hB4
    have h4 := h4.below hB4
    have HB3 := Lib.hid (HB3.out.trans (hB4.mono HB3.out.size))
    have HBW := Lib.hid (HBW.out.trans (hB4.mono HBW.out.size))
    clear hB4 e1
    obtain ⟨-, e1, -, -, -, -, -, -, -, -, -⟩ := Blk.c10 h1
    have HO0 := Lib.hid (Ev.nth_ok HVO.out 0)
    generalize Ev.nth vs 0 = x0 at HV HO0 ⊢
    go_wp2_with fail
    repeat' (first | (refine hZ _ _ ?_; clear hZ) | (refine hZ _ ?_; clear hZ) | (refine hZ ?_; clear hZ) | rw [again_nil] | rw [walk_fin] | ((first | rw [walk_take] | rw [walk_run] | rw [again_cons]); intro Z hZ; simp only [sel, List.getElem?_toArray, List.getElem?_cons_zero, List.getElem?_cons_succ]; go_wp2_with (fail)))
    refine (HARG.out _ HBW.out W.heap.size gr _ h1 h2 1 (by decide)).mono ?_
    rintro e W6 ⟨rfl, hB4⟩
    have h1 := h1.below hB4
    have h4 := h4.below hB4
    have HB3 := Lib.hid (HB3.out.trans (hB4.mono HB3.out.size))
    clear hB4 e1
    obtain ⟨-, e1, -, -, -, -, -, -, -, -, -⟩ := Blk.c10 h1
    have HO1 := Lib.hid (Ev.nth_ok HVO.out 1)
    generalize Ev.nth vs 1 = x1 at HV HO1 ⊢
    go_wp2_with fail
    repeat' (first | (refine hZ _ _ ?_; clear hZ) | (refine hZ _ ?_; clear hZ) | (refine hZ ?_; clear hZ) | rw [again_nil] | rw [walk_fin] | ((first | rw [walk_take] | rw [walk_run] | rw [again_cons]); intro Z hZ; simp only [sel, List.getElem?_toArray, List.getElem?_cons_zero, List.getElem?_cons_succ]; go_wp2_with (fail)))
    refine (varith_any _ n.op x0 x1 HO0.out HO1.out).mono ?_
    rintro e W7 ⟨rfl, hB4⟩
    have h1 := h1.below hB4
    have h4 := h4.below hB4
    have HB3 := Lib.hid (HB3.out.trans (hB4.mono HB3.out.size))
    clear hB4 e1
    obtain ⟨-, e1, -, -, -, -, -, -, -, -, -⟩ := Blk.c10 h1
    generalize Ev.arithV n.op x0 x1 = d at HV ⊢
    go_wp2_with fail
    repeat' (first | (refine hZ _ _ ?_; clear hZ) | (refine hZ _ ?_; clear hZ) | (refine hZ ?_; clear hZ) | rw [again_nil] | rw [walk_fin] | ((first | rw [walk_take] | rw [walk_run] | rw [again_cons]); intro Z hZ; simp only [sel, List.getElem?_toArray, List.getElem?_cons_zero, List.getElem?_cons_succ]; go_wp2_with (refine wpList_store_va rfl rfl (.tmp 4) (.tmp 73) rfl g rfl d rfl h4 ?_; intro Wa hba hga)))
    go_wp2_with fail
    exact ret_va hba rfl rfl rfl ⟨by rw [HV.out], below_of_grown HB3.out hga (by omega) HB3.out.size⟩
  by_cases k9 : n.k = 9
  · have HV : Hid (Ev.eval row n = Ev.boolV (((Ev.nth vs 0).k == 0) != n.no)) := by show _ = _; rw [HVE.out]; unfold Ev.evalK; rw [if_neg k1, if_neg k2, if_neg k3, if_neg k4, if_neg k5, if_neg k6, if_neg k7, if_neg k8, if_pos k9]
    rw [k9] at c0
    clear k1 k2 k3 k4 k5 k6 k7 k8 k9 HVE c6 c1
    go_upto_region 21 with fail
    clear c0 c7
    have h1 := h1.drew
    have h2 := h2.drew
    have h4 := h4.drew
    have HB3 := Lib.hid (HB3.out.drewR)
    have HBW := Lib.hid (HBW.out.drewR)
    clear d0
    obtain ⟨-, e1, -, -, -, -, -, e7, -, -, -⟩ := Blk.c10 h1
    refine wp_region_plan (.take 0 (.take 4 (.take 5 (.run 1 [4, 5] (.take 2 (.take 3 (.take 6 (.run 7 [] (.run 8 [] .fin))))))))) (by kernel_rfl) (by kernel_rfl) (by kernel_rfl) (by kernel_rfl) ?_
    clear e1
    repeat' (first | (refine hZ _ _ ?_; clear hZ) | (refine hZ _ ?_; clear hZ) | (refine hZ ?_; clear hZ) | rw [again_nil] | rw [walk_fin] | ((first | rw [walk_take] | rw [walk_run] | rw [again_cons]); intro Z hZ; simp only [sel, List.getElem?_toArray, List.getElem?_cons_zero, List.getElem?_cons_succ]; go_wp2_with (fail)))
    refine (HARG.out _ HBW.out W.heap.size gr _ h1 h2 0 (by decide)).mono ?_
    rintro e W4 ⟨rfl, hB4⟩
    have h1 := h1.below hB4
    have h4 := h4.below hB4
    have HB3 := Lib.hid (HB3.out.trans (hB4.mono HB3.out.size))
    clear hB4 e7
    obtain ⟨-, -, -, -, -, -, -, e7, -, -, -⟩ := Blk.c10 h1
    generalize Ev.nth vs 0 = x0 at HV ⊢
    have hfd := va_field0 x0
    obtain ⟨kb, hkb⟩ : ∃ kb, (x0.k == 0) = kb := ⟨_, rfl⟩
    rw [hkb] at HV
    go_wp2_with fail
    repeat' (first | (refine hZ _ _ ?_; clear hZ) | (refine hZ _ ?_; clear hZ) | (refine hZ ?_; clear hZ) | rw [again_nil] | rw [walk_fin] | ((first | rw [walk_take] | rw [walk_run] | rw [again_cons]); intro Z hZ; simp only [sel, List.getElem?_toArray, List.getElem?_cons_zero, List.getElem?_cons_succ]; go_wp2_with (fail)))
    refine (ofbool_any _ _).mono ?_
    rintro e W7 ⟨rfl, hB4⟩
    have h1 := h1.below hB4
    have h4 := h4.below hB4
    have HB3 := Lib.hid (HB3.out.trans (hB4.mono HB3.out.size))
    clear hB4 e7
    obtain ⟨-, -, -, -, -, -, -, e7, -, -, -⟩ := Blk.c10 h1
    rw [boolV_v]
    generalize hd : Ev.boolV _ = d
    have HD : Hid (Ev.eval row n = d) := by show _ = _; rw [HV.out, ← hd]; rfl
    clear hd
    go_wp2_with fail
    repeat' (first | (refine hZ _ _ ?_; clear hZ) | (refine hZ _ ?_; clear hZ) | (refine hZ ?_; clear hZ) | rw [again_nil] | rw [walk_fin] | ((first | rw [walk_take] | rw [walk_run] | rw [again_cons]); intro Z hZ; simp only [sel, List.getElem?_toArray, List.getElem?_cons_zero, List.getElem?_cons_succ]; go_wp2_with (refine wpList_store_va rfl rfl (.tmp 4) (.tmp 83) rfl g rfl d rfl h4 ?_; intro Wa hba hga)))
    go_wp2_with fail
    exact ret_va hba rfl rfl rfl ⟨by rw [HD.out], below_of_grown HB3.out hga (by omega) HB3.out.size⟩
  · have HV : Hid (Ev.eval row n = Key.nul) := by show _ = _; rw [HVE.out]; unfold Ev.evalK; rw [if_neg k1, if_neg k2, if_neg k3, if_neg k4, if_neg k5, if_neg k6, if_neg k7, if_neg k8, if_neg k9]
    have b1 : (n.k == 1) = false := by simp [k1]
    have b2 : (n.k == 2) = false := by simp [k2]
    have b3 : (n.k == 3) = false := by simp [k3]
    have b4 : (n.k == 4) = false := by simp [k4]
    have b5 : (n.k == 5) = false := by simp [k5]
    have b6 : (n.k == 6) = false := by simp [k6]
    have b7 : (n.k == 7) = false := by simp [k7]
    have b8 : (n.k == 8) = false := by simp [k8]
    have b9 : (n.k == 9) = false := by simp [k9]
    clear k1 k2 k3 k4 k5 k6 k7 k8 k9 HVE c6 c7 c1
    go_wp2_with (refine wpList_store_va rfl rfl (.tmp 4) (.tmp 84) rfl g rfl Key.nul rfl h4 ?_; intro Wa hba hga)
    exact ret_va hba rfl rfl rfl ⟨by rw [HV.out], below_of_grown HB3.out hga (by omega) HB3.out.size⟩
end Go.Proofs.Ytjdffhonljhpcaa
end

section
/-
  The document's answer: what a node comes to in a row.
-/
namespace Go.Proofs.Ytjdffhonljhpcaa
set_option linter.unusedSimpArgs false
set_option linter.unusedVariables false
open Go.RowKit

namespace Ev
theorem Dv.cc {s v : Va} (h : Dv s v) : Key.clean v = Key.clean s := by rw [← h.eq, clean_clean]
theorem Dv.k {s v : Va} (h : Dv s v) : v.k = s.k := by
  rw [← h.eq]
  unfold Key.clean Key.cleanF
  rcases h.cl.kind with e | e | e | e | e <;> simp [e, Key.nul]
/-- A row's value at a place. -/
def atV (row : List Va) (i : Int) : Va := if 0 ≤ i ∧ i < (row.length : Int) then Key.clean (nth row i.toNat) else Key.nul
end Ev
theorem RetD.of {w : World} {s s' : Va} {e : Ending} {w' : World} (h : RetD w s e w') (hs : s = s') : RetD w s' e w' := hs ▸ h
set_option maxRecDepth 20000 in
set_option maxHeartbeats 4000000 in
theorem rat_any (w : World) (R : Option Addr) (rc : Nat) (row : List Va) (i : Int) (hrow : ERow eVa w R row) (hok : ∀ v ∈ row, v.ok) (hlen : row.length ≤ 9223372036854775807) :
    Calls Try.prog 88 #[.slice R row.length rc, .int .i64 i] w (RetD w (Ev.atV row i)) := by
  have HROW := Lib.hid hrow
  have HOK := Lib.hid hok
  clear hrow hok
  have HV := Lib.hid (show Ev.atV row i = _ from rfl)
  by_cases h0 : 0 ≤ i
  · obtain ⟨j, rfl⟩ := Int.eq_ofNat_of_zero_le h0
    clear h0
    by_cases hlt : j < row.length
    · have hji : (j : Int) < (row.length : Int) := by omega
      have HVJ : Hid (Ev.atV row (j : Int) = Key.clean row[j]) := by
        show _ = _
        unfold Ev.atV Ev.nth
        rw [if_pos ⟨by omega, hji⟩]
        simp [List.getD, hlt]
      clear HV
      have HOJ := Lib.hid (HOK.out row[j] (List.getElem_mem hlt))
      go_enter Try.func88, Try.ntmps88
      go_upto_region 1 with (refine wpList_alloc_va rfl rfl ?_; intro W1 hb1 hz1 hB1)
      have HRW := Lib.hid (HROW.out.below hB1)
      have HB1 := Lib.hid hB1
      clear hB1
      obtain ⟨bb, oo, rfl, hbl, -⟩ := HRW.out.at_ hlt
      clear hbl
      go_wp2_with (refine wpList_load_va_at rfl (.tmp 16) rfl HRW.out hlt rfl ?_)
      refine (dclean_any _ row[j] HOJ.out).mono ?_
      rintro e W2 ⟨rfl, hB2⟩
      have hb2 := hb1.below hB2
      have HB2 := Lib.hid (HB1.out.then hB2)
      have HDV := Lib.hid (Ev.dv_clean HOJ.out)
      clear hB2 hb1
      generalize Key.dclean row[j] = d at HDV ⊢
      go_wp2_with (refine wpList_store_va rfl rfl (.tmp 4) (.tmp 18) rfl w.heap.size rfl d rfl hb2 ?_; intro W4 hb4 hg4)
      exact ret_va hb4 rfl rfl rfl ⟨d, rfl, by rw [HVJ.out]; exact HDV.out, below_of_grown HB2.out hg4 (Nat.le_refl _) HB2.out.size⟩
    · have hji : ¬ (j : Int) < (row.length : Int) := by omega
      have HVJ : Hid (Ev.atV row (j : Int) = Key.nul) := by show _ = _; unfold Ev.atV; rw [if_neg (fun h => hji h.2)]
      clear HV
      go_enter Try.func88, Try.ntmps88
      go_wp2_with (first | (refine wpList_alloc_va rfl rfl ?_; intro W1 hb1 hz1 hB1) | (refine wpList_store_va rfl rfl (.tmp 4) (.tmp 13) rfl w.heap.size rfl Key.nul rfl hb1 ?_; intro W4 hb4 hg4))
      exact ret_va hb4 rfl rfl rfl ⟨Key.nul, rfl, by rw [HVJ.out]; exact Ev.dv_nul, below_of_grown hB1 hg4 (Nat.le_refl _) (by omega)⟩
  · have hneg : i < 0 := by omega
    have HVJ : Hid (Ev.atV row i = Key.nul) := by show _ = _; unfold Ev.atV; rw [if_neg (fun h => h0 h.1)]
    clear HV h0
    go_enter Try.func88, Try.ntmps88
    go_wp2_with (first | (refine wpList_alloc_va rfl rfl ?_; intro W1 hb1 hz1 hB1) | (refine wpList_store_va rfl rfl (.tmp 4) (.tmp 13) rfl w.heap.size rfl Key.nul rfl hb1 ?_; intro W4 hb4 hg4))
    exact ret_va hb4 rfl rfl rfl ⟨Key.nul, rfl, by rw [HVJ.out]; exact Ev.dv_nul, below_of_grown hB1 hg4 (Nat.le_refl _) (by omega)⟩
/-- What the document's Eval answers of a node, in all worlds behind w. -/
def DEvalsTo (w : World) (R : Option Addr) (rc : Nat) (row : List Va) (n : Nd) : Prop :=
  ∀ W, Below w.heap.size w W → Calls Try.prog 50 #[n.v, .slice R row.length rc] W (RetD W (Ev.eval row n))
set_option maxRecDepth 20000 in
set_option maxHeartbeats 4000000 in
theorem rarg_any (w : World) (R : Option Addr) (rc : Nat) (row : List Va) (n : Nd) (hr : ERow eNd w n.a n.args) (hc : n.args.length ≤ n.c) (hm : n.c ≤ maxLen) (ih : ∀ m ∈ n.args, DEvalsTo w R rc row m)
    (W : World) (hB : Below w.heap.size w W) (i : Nat) (hi : i < 2) :
    Calls Try.prog 90 #[n.v, .int .i64 i, .slice R row.length rc] W (RetD W (Ev.nth (Ev.evalL row n.args) i)) := by
  have HV := Lib.hid (Ev.evalL_get row n.args i)
  have HR := Lib.hid (hr.below hB)
  have HIH := Lib.hid ih
  have HBW := Lib.hid hB
  clear hr ih hB
  have hcm : n.args.length ≤ 9223372036854775807 := by unfold maxLen at hm; omega
  go_enter Try.func90, Try.ntmps90
  go_upto_region 1 with (first | (refine wpList_box_nd rfl (.tmp 0) rfl n rfl ?_; intro W0 hb0 hz0 hB0) | (refine wpList_alloc_va rfl rfl ?_; intro W1 hb1 hz1 hB1))
  have hn1 := hb0.below hB1
  have HB1 := Lib.hid (hB0.then hB1)
  have HR1 := Lib.hid (HR.out.below HB1.out)
  have hg : W.heap.size < W0.heap.size := by omega
  clear hb0 hB0 hB1 HR hz0 hz1
  generalize W0.heap.size = g at hb1 hg ⊢
  obtain ⟨-, -, -, -, -, -, -, -, -, c9, -⟩ := Blk.c10 hn1
  by_cases hlt : i < n.args.length
  · have hii : ¬ (n.args.length : Int) ≤ (i : Int) := by omega
    have hij : (i : Int) < (n.args.length : Int) := by omega
    have hid : decide (n.args.length ≤ i) = false := by simp [hlt]
    have HV2 : Hid (Ev.nth (Ev.evalL row n.args) i = Ev.eval row n.args[i]) := by show _ = _; rw [HV.out, dif_pos hlt]
    have HE := Lib.hid (HIH.out n.args[i] (List.getElem_mem hlt))
    obtain ⟨bb, oo, ha, hbl, -⟩ := HR1.out.at_ hlt
    have HR2 : Hid (ERow eNd W1 (some ⟨bb, oo, none⟩) n.args) := by show ERow _ _ _ _; rw [← ha]; exact HR1.out
    rw [ha] at c9
    clear ha hbl
    go_wp2_with (refine wpList_load_nd_at rfl (.tmp 16) rfl HR2.out hlt rfl ?_)
    refine (HE.out _ (HBW.out.then HB1.out)).mono ?_
    rintro e W2 ⟨v, rfl, hdv, hB2⟩
    have hb2 := hb1.below hB2
    have HB2 := Lib.hid (HB1.out.then hB2)
    have HDV := Lib.hid hdv
    clear hB2 hb1 hdv c9 hn1
    go_wp2_with (refine wpList_store_va rfl rfl (.tmp 6) (.tmp 19) rfl g rfl v rfl hb2 ?_; intro W4 hb4 hg4)
    exact ret_va hb4 rfl rfl rfl ⟨v, rfl, by rw [HV2.out]; exact HDV.out, below_of_grown HB2.out hg4 (by omega) HB2.out.size⟩
  · have hii : (n.args.length : Int) ≤ (i : Int) := by omega
    have hid : decide (n.args.length ≤ i) = true := by simp; omega
    have HV2 : Hid (Ev.nth (Ev.evalL row n.args) i = Key.nul) := by show _ = _; rw [HV.out, dif_neg hlt]
    go_wp2_with (refine wpList_store_va rfl rfl (.tmp 6) (.tmp 12) rfl g rfl Key.nul rfl hb1 ?_; intro W4 hb4 hg4)
    exact ret_va hb4 rfl rfl rfl ⟨Key.nul, rfl, by rw [HV2.out]; exact Ev.dv_nul, below_of_grown HB1.out hg4 (by omega) HB1.out.size⟩
set_option maxRecDepth 100000 in
set_option maxHeartbeats 16000000 in
theorem reval_any (w : World) (R : Option Addr) (rc : Nat) (row : List Va) (hrow : ERow eVa w R row) (hok : ∀ v ∈ row, v.ok) (hlen : row.length ≤ 9223372036854775807) (n : Nd) (hn : NodeIn w n) : DEvalsTo w R rc row n := by
  have HROW := Lib.hid hrow
  have HOK := Lib.hid hok
  have HLEN := Lib.hid hlen
  clear hrow hok hlen
  induction hn with
  | @mk n hr hin hlit hls hk hat hc hm ih =>
  have HARG := Lib.hid (fun W hB i hi => rarg_any w R rc row n hr hc hm ih W hB i hi)
  have HLIT := Lib.hid hlit
  have HVE := Lib.hid (Ev.eval_eq row n)
  clear hr hin hlit hls hk hat hc hm ih
  intro W hB
  have HB := Lib.hid hB
  clear hB
  generalize Ev.evalL row n.args = vs at HARG HVE
  go_enter Try.func50, Try.ntmps50
  go_upto_region 1 with (first | (refine wpList_box_nd rfl (.tmp 0) rfl n rfl ?_; intro W1 hb1 hz1 hB1) | (refine wpList_alloc_va rfl rfl ?_; intro W3 hb3 hz3 hB3))
  have h1 := hb1.below hB3
  have h4 := hb3
  have HB3 := Lib.hid (hB1.then hB3)
  have hg1 : W.heap.size < W1.heap.size := by omega
  clear hb1 hB1 hb3 hB3 hz3 hz1
  generalize W1.heap.size = g at h4 hg1 ⊢
  clear W1
  obtain ⟨c0, -, -, -, -, -, c6, c7, -, -, -⟩ := Blk.c10 h1
  have HBW := Lib.hid (HB.out.then HB3.out)
  clear HB
  by_cases k1 : n.k = 1
  · have HV : Hid (Ev.eval row n = Key.clean n.lit) := by show _ = _; rw [HVE.out]; unfold Ev.evalK; rw [if_pos k1]
    rw [k1] at c0
    clear k1 HVE
    go_wp2_with (refine wpList_load_lit rfl (.tmp 10) rfl W.heap.size rfl h1 ?_)
    refine (dclean_any _ n.lit HLIT.out).mono ?_
    rintro e W5 ⟨rfl, hB5⟩
    have HDV := Lib.hid (Ev.dv_clean HLIT.out)
    generalize Key.dclean n.lit = d at HDV ⊢
    have h4 := h4.below hB5
    have HB5 := Lib.hid (HB3.out.then hB5)
    clear hB5 HB3
    go_wp2_with (refine wpList_store_va rfl rfl (.tmp 4) (.tmp 12) rfl g rfl d rfl h4 ?_; intro Wa hba hga)
    exact ret_va hba rfl rfl rfl ⟨d, rfl, by rw [HV.out]; exact HDV.out, below_of_grown HB5.out hga (by omega) HB5.out.size⟩
  by_cases k2 : n.k = 2
  · have HV : Hid (Ev.eval row n = Ev.atV row n.at_) := by show _ = _; rw [HVE.out]; unfold Ev.evalK; rw [if_neg k1, if_pos k2]; rfl
    rw [k2] at c0
    clear k1 k2 HVE
    go_wp2_with fail
    refine (rat_any _ R rc row n.at_ (HROW.out.below HBW.out) HOK.out HLEN.out).mono ?_
    rintro e W5 ⟨d, rfl, hdv, hB5⟩
    have HDV := Lib.hid hdv
    clear hdv
    have h4 := h4.below hB5
    have HB5 := Lib.hid (HB3.out.then hB5)
    clear hB5 HB3
    go_wp2_with (refine wpList_store_va rfl rfl (.tmp 4) (.tmp 18) rfl g rfl d rfl h4 ?_; intro Wa hba hga)
    exact ret_va hba rfl rfl rfl ⟨d, rfl, by rw [HV.out]; exact HDV.out, below_of_grown HB5.out hga (by omega) HB5.out.size⟩
  by_cases k3 : n.k = 3
  · have HV : Hid (Ev.eval row n = Ev.negV (Ev.nth vs 0)) := by show _ = _; rw [HVE.out]; unfold Ev.evalK; rw [if_neg k1, if_neg k2, if_pos k3]
    rw [k3] at c0
    clear k1 k2 k3 HVE c6 c7
    go_wp2_with (refine wpList_load_nd rfl (.tmp 2) rfl W.heap.size rfl h1 ?_)
    refine (HARG.out _ HBW.out 0 (by decide)).mono ?_
    rintro e W4 ⟨a0, rfl, hd0, hB4⟩
    have h1 := h1.below hB4
    have h4 := h4.below hB4
    have HB3 := Lib.hid (HB3.out.trans (hB4.mono HB3.out.size))
    have HBW := Lib.hid (HBW.out.trans (hB4.mono HBW.out.size))
    have HD0 := Lib.hid hd0
    clear hB4 hd0
    go_wp2_with fail
    refine (rneg_any _ a0 HD0.out.ok).mono ?_
    rintro e W5 ⟨d, rfl, hdv, hB5⟩
    have HDV := Lib.hid hdv
    rw [Ev.neg_of HD0.out.cc] at HDV
    clear hdv
    have h4 := h4.below hB5
    have HB5 := Lib.hid (HB3.out.then hB5)
    clear hB5 HB3
    go_wp2_with (refine wpList_store_va rfl rfl (.tmp 4) (.tmp 24) rfl g rfl d rfl h4 ?_; intro Wa hba hga)
    exact ret_va hba rfl rfl rfl ⟨d, rfl, by rw [HV.out]; exact HDV.out, below_of_grown HB5.out hga (by omega) HB5.out.size⟩
  by_cases k4 : n.k = 4
  · have HV : Hid (Ev.eval row n = Ev.notV (Ev.nth vs 0)) := by show _ = _; rw [HVE.out]; unfold Ev.evalK; rw [if_neg k1, if_neg k2, if_neg k3, if_pos k4]
    rw [k4] at c0
    clear k1 k2 k3 k4 HVE c6 c7
    go_wp2_with (refine wpList_load_nd rfl (.tmp 2) rfl W.heap.size rfl h1 ?_)
    refine (HARG.out _ HBW.out 0 (by decide)).mono ?_
    rintro e W4 ⟨a0, rfl, hd0, hB4⟩
    have h1 := h1.below hB4
    have h4 := h4.below hB4
    have HB3 := Lib.hid (HB3.out.trans (hB4.mono HB3.out.size))
    have HBW := Lib.hid (HBW.out.trans (hB4.mono HBW.out.size))
    have HD0 := Lib.hid hd0
    clear hB4 hd0
    go_wp2_with fail
    refine (rnot_any _ a0).mono ?_
    rintro e W5 ⟨rfl, hB5⟩
    have HDV := Lib.hid (Ev.dv_not a0)
    rw [Ev.not_of HD0.out.cc] at HDV ⊢
    generalize hd : Ev.notV (Ev.nth vs 0) = d at HDV HV ⊢
    clear hd
    have h4 := h4.below hB5
    have HB5 := Lib.hid (HB3.out.then hB5)
    clear hB5 HB3
    go_wp2_with (refine wpList_store_va rfl rfl (.tmp 4) (.tmp 30) rfl g rfl d rfl h4 ?_; intro Wa hba hga)
    exact ret_va hba rfl rfl rfl ⟨d, rfl, by rw [HV.out]; exact HDV.out, below_of_grown HB5.out hga (by omega) HB5.out.size⟩
  by_cases k5 : n.k = 5
  · have HV : Hid (Ev.eval row n = Ev.andV (Ev.nth vs 0) (Ev.nth vs 1)) := by show _ = _; rw [HVE.out]; unfold Ev.evalK; rw [if_neg k1, if_neg k2, if_neg k3, if_neg k4, if_pos k5]
    rw [k5] at c0
    clear k1 k2 k3 k4 k5 HVE c6 c7
    go_upto_region 11 with fail
    clear c0
    have h1 := h1.drew
    have h4 := h4.drew
    have HB3 := Lib.hid (HB3.out.drewR)
    have HBW := Lib.hid (HBW.out.drewR)
    refine wp_region_plan (.take 0 (.take 1 (.take 3 (.take 4 (.run 2 [3, 4] (.run 5 [] (.run 6 [] (.run 7 [] .fin)))))))) (by kernel_rfl) (by kernel_rfl) (by kernel_rfl) (by kernel_rfl) ?_
    repeat' (first | (refine hZ _ _ ?_; clear hZ) | (refine hZ _ ?_; clear hZ) | (refine hZ ?_; clear hZ) | rw [again_nil] | rw [walk_fin] | ((first | rw [walk_take] | rw [walk_run] | rw [again_cons]); intro Z hZ; simp only [sel, List.getElem?_toArray, List.getElem?_cons_zero, List.getElem?_cons_succ]; go_wp2_with (refine wpList_load_nd rfl (.tmp 2) rfl W.heap.size rfl h1 ?_)))
    refine (HARG.out _ HBW.out 0 (by decide)).mono ?_
    rintro e W4 ⟨a0, rfl, hd0, hB4⟩
    have h1 := h1.below hB4
    have h4 := h4.below hB4
    have HB3 := Lib.hid (HB3.out.trans (hB4.mono HB3.out.size))
    have HBW := Lib.hid (HBW.out.trans (hB4.mono HBW.out.size))
    have HD0 := Lib.hid hd0
    clear hB4 hd0
    go_wp2_with fail
    repeat' (first | (refine hZ _ _ ?_; clear hZ) | (refine hZ _ ?_; clear hZ) | (refine hZ ?_; clear hZ) | rw [again_nil] | rw [walk_fin] | ((first | rw [walk_take] | rw [walk_run] | rw [again_cons]); intro Z hZ; simp only [sel, List.getElem?_toArray, List.getElem?_cons_zero, List.getElem?_cons_succ]; go_wp2_with (refine wpList_load_nd rfl (.tmp 2) rfl W.heap.size rfl h1 ?_)))
    refine (HARG.out _ HBW.out 1 (by decide)).mono ?_
    rintro e W6 ⟨a1, rfl, hd1, hB4⟩
    have h1 := h1.below hB4
    have h4 := h4.below hB4
    have HB3 := Lib.hid (HB3.out.trans (hB4.mono HB3.out.size))
    have HD1 := Lib.hid hd1
    clear hB4 hd1
    go_wp2_with fail
    repeat' (first | (refine hZ _ _ ?_; clear hZ) | (refine hZ _ ?_; clear hZ) | (refine hZ ?_; clear hZ) | rw [again_nil] | rw [walk_fin] | ((first | rw [walk_take] | rw [walk_run] | rw [again_cons]); intro Z hZ; simp only [sel, List.getElem?_toArray, List.getElem?_cons_zero, List.getElem?_cons_succ]; go_wp2_with (refine wpList_load_nd rfl (.tmp 2) rfl W.heap.size rfl h1 ?_)))
    refine (rand_any _ a0 a1).mono ?_
    rintro e W5 ⟨rfl, hB5⟩
    have HDV := Lib.hid (Ev.dv_and a0 a1)
    rw [Ev.and_of HD0.out.cc HD1.out.cc] at HDV ⊢
    generalize hd : Ev.andV (Ev.nth vs 0) (Ev.nth vs 1) = d at HDV HV ⊢
    clear hd
    have h1 := h1.below hB5
    have h4 := h4.below hB5
    have HB5 := Lib.hid (HB3.out.trans (hB5.mono HB3.out.size))
    clear hB5 HB3
    go_wp2_with fail
    repeat' (first | (refine hZ _ _ ?_; clear hZ) | (refine hZ _ ?_; clear hZ) | (refine hZ ?_; clear hZ) | rw [again_nil] | rw [walk_fin] | ((first | rw [walk_take] | rw [walk_run] | rw [again_cons]); intro Z hZ; simp only [sel, List.getElem?_toArray, List.getElem?_cons_zero, List.getElem?_cons_succ]; go_wp2_with (first | (refine wpList_load_nd rfl (.tmp 2) rfl W.heap.size rfl h1 ?_) | (refine wpList_store_va rfl rfl (.tmp 4) (.tmp 39) rfl g rfl d rfl h4 ?_; intro Wa hba hga))))
    go_wp2_with fail
    exact ret_va hba rfl rfl rfl ⟨d, rfl, by rw [HV.out]; exact HDV.out, below_of_grown HB5.out hga (by omega) HB5.out.size⟩
  by_cases k6 : n.k = 6
  · have HV : Hid (Ev.eval row n = Ev.orV (Ev.nth vs 0) (Ev.nth vs 1)) := by show _ = _; rw [HVE.out]; unfold Ev.evalK; rw [if_neg k1, if_neg k2, if_neg k3, if_neg k4, if_neg k5, if_pos k6]
    rw [k6] at c0
    clear k1 k2 k3 k4 k5 k6 HVE c6 c7
    go_upto_region 13 with fail
    clear c0
    have h1 := h1.drew
    have h4 := h4.drew
    have HB3 := Lib.hid (HB3.out.drewR)
    have HBW := Lib.hid (HBW.out.drewR)
    refine wp_region_plan (.take 0 (.take 1 (.take 3 (.take 4 (.run 2 [3, 4] (.run 5 [] (.run 6 [] (.run 7 [] .fin)))))))) (by kernel_rfl) (by kernel_rfl) (by kernel_rfl) (by kernel_rfl) ?_
    repeat' (first | (refine hZ _ _ ?_; clear hZ) | (refine hZ _ ?_; clear hZ) | (refine hZ ?_; clear hZ) | rw [again_nil] | rw [walk_fin] | ((first | rw [walk_take] | rw [walk_run] | rw [again_cons]); intro Z hZ; simp only [sel, List.getElem?_toArray, List.getElem?_cons_zero, List.getElem?_cons_succ]; go_wp2_with (refine wpList_load_nd rfl (.tmp 2) rfl W.heap.size rfl h1 ?_)))
    refine (HARG.out _ HBW.out 0 (by decide)).mono ?_
    rintro e W4 ⟨a0, rfl, hd0, hB4⟩
    have h1 := h1.below hB4
    have h4 := h4.below hB4
    have HB3 := Lib.hid (HB3.out.trans (hB4.mono HB3.out.size))
    have HBW := Lib.hid (HBW.out.trans (hB4.mono HBW.out.size))
    have HD0 := Lib.hid hd0
    clear hB4 hd0
    go_wp2_with fail
    repeat' (first | (refine hZ _ _ ?_; clear hZ) | (refine hZ _ ?_; clear hZ) | (refine hZ ?_; clear hZ) | rw [again_nil] | rw [walk_fin] | ((first | rw [walk_take] | rw [walk_run] | rw [again_cons]); intro Z hZ; simp only [sel, List.getElem?_toArray, List.getElem?_cons_zero, List.getElem?_cons_succ]; go_wp2_with (refine wpList_load_nd rfl (.tmp 2) rfl W.heap.size rfl h1 ?_)))
    refine (HARG.out _ HBW.out 1 (by decide)).mono ?_
    rintro e W6 ⟨a1, rfl, hd1, hB4⟩
    have h1 := h1.below hB4
    have h4 := h4.below hB4
    have HB3 := Lib.hid (HB3.out.trans (hB4.mono HB3.out.size))
    have HD1 := Lib.hid hd1
    clear hB4 hd1
    go_wp2_with fail
    repeat' (first | (refine hZ _ _ ?_; clear hZ) | (refine hZ _ ?_; clear hZ) | (refine hZ ?_; clear hZ) | rw [again_nil] | rw [walk_fin] | ((first | rw [walk_take] | rw [walk_run] | rw [again_cons]); intro Z hZ; simp only [sel, List.getElem?_toArray, List.getElem?_cons_zero, List.getElem?_cons_succ]; go_wp2_with (refine wpList_load_nd rfl (.tmp 2) rfl W.heap.size rfl h1 ?_)))
    refine (ror_any _ a0 a1).mono ?_
    rintro e W5 ⟨rfl, hB5⟩
    have HDV := Lib.hid (Ev.dv_or a0 a1)
    rw [Ev.or_of HD0.out.cc HD1.out.cc] at HDV ⊢
    generalize hd : Ev.orV (Ev.nth vs 0) (Ev.nth vs 1) = d at HDV HV ⊢
    clear hd
    have h1 := h1.below hB5
    have h4 := h4.below hB5
    have HB5 := Lib.hid (HB3.out.trans (hB5.mono HB3.out.size))
    clear hB5 HB3
    go_wp2_with fail
    repeat' (first | (refine hZ _ _ ?_; clear hZ) | (refine hZ _ ?_; clear hZ) | (refine hZ ?_; clear hZ) | rw [again_nil] | rw [walk_fin] | ((first | rw [walk_take] | rw [walk_run] | rw [again_cons]); intro Z hZ; simp only [sel, List.getElem?_toArray, List.getElem?_cons_zero, List.getElem?_cons_succ]; go_wp2_with (first | (refine wpList_load_nd rfl (.tmp 2) rfl W.heap.size rfl h1 ?_) | (refine wpList_store_va rfl rfl (.tmp 4) (.tmp 48) rfl g rfl d rfl h4 ?_; intro Wa hba hga))))
    go_wp2_with fail
    exact ret_va hba rfl rfl rfl ⟨d, rfl, by rw [HV.out]; exact HDV.out, below_of_grown HB5.out hga (by omega) HB5.out.size⟩
  by_cases k7 : n.k = 7
  · have HV : Hid (Ev.eval row n = Ev.cmpV n.op (Ev.nth vs 0) (Ev.nth vs 1)) := by show _ = _; rw [HVE.out]; unfold Ev.evalK; rw [if_neg k1, if_neg k2, if_neg k3, if_neg k4, if_neg k5, if_neg k6, if_pos k7]
    rw [k7] at c0
    clear k1 k2 k3 k4 k5 k6 k7 HVE c6 c7
    go_upto_region 15 with fail
    clear c0
    have h1 := h1.drew
    have h4 := h4.drew
    have HB3 := Lib.hid (HB3.out.drewR)
    have HBW := Lib.hid (HBW.out.drewR)
    obtain ⟨-, e1, -, -, -, -, -, -, -, -, -⟩ := Blk.c10 h1
    refine wp_region_plan (.take 0 (.take 1 (.take 2 (.take 3 (.take 5 (.take 6 (.run 4 [0, 1, 5, 6] (.run 7 [0, 1] (.run 8 [] (.run 9 [] .fin)))))))))) (by kernel_rfl) (by kernel_rfl) (by kernel_rfl) (by kernel_rfl) ?_
    repeat' (first | (refine hZ _ _ ?_; clear hZ) | (refine hZ _ ?_; clear hZ) | (refine hZ ?_; clear hZ) | rw [again_nil] | rw [walk_fin] | ((first | rw [walk_take] | rw [walk_run] | rw [again_cons]); intro Z hZ; simp only [sel, List.getElem?_toArray, List.getElem?_cons_zero, List.getElem?_cons_succ]; go_wp2_with (refine wpList_load_nd rfl (.tmp 2) rfl W.heap.size rfl h1 ?_)))
    refine (HARG.out _ HBW.out 0 (by decide)).mono ?_
    rintro e W4 ⟨a0, rfl, hd0, hB4⟩
    have h1 := h1.below hB4
    have h4 := h4.below hB4
    have HB3 := Lib.hid (HB3.out.trans (hB4.mono HB3.out.size))
    have HBW := Lib.hid (HBW.out.trans (hB4.mono HBW.out.size))
    have HD0 := Lib.hid hd0
    clear hB4 hd0
    clear e1
    obtain ⟨-, e1, -, -, -, -, -, -, -, -, -⟩ := Blk.c10 h1
    go_wp2_with fail
    repeat' (first | (refine hZ _ _ ?_; clear hZ) | (refine hZ _ ?_; clear hZ) | (refine hZ ?_; clear hZ) | rw [again_nil] | rw [walk_fin] | ((first | rw [walk_take] | rw [walk_run] | rw [again_cons]); intro Z hZ; simp only [sel, List.getElem?_toArray, List.getElem?_cons_zero, List.getElem?_cons_succ]; go_wp2_with (refine wpList_load_nd rfl (.tmp 2) rfl W.heap.size rfl h1 ?_)))
    refine (HARG.out _ HBW.out 1 (by decide)).mono ?_
    rintro e W6 ⟨a1, rfl, hd1, hB4⟩
    have h1 := h1.below hB4
    have h4 := h4.below hB4
    have HB3 := Lib.hid (HB3.out.trans (hB4.mono HB3.out.size))
    have HD1 := Lib.hid hd1
    clear hB4 hd1
    clear e1
    obtain ⟨-, e1, -, -, -, -, -, -, -, -, -⟩ := Blk.c10 h1
    go_wp2_with fail
    repeat' (first | (refine hZ _ _ ?_; clear hZ) | (refine hZ _ ?_; clear hZ) | (refine hZ ?_; clear hZ) | rw [again_nil] | rw [walk_fin] | ((first | rw [walk_take] | rw [walk_run] | rw [again_cons]); intro Z hZ; simp only [sel, List.getElem?_toArray, List.getElem?_cons_zero, List.getElem?_cons_succ]; go_wp2_with (refine wpList_load_nd rfl (.tmp 2) rfl W.heap.size rfl h1 ?_)))
    refine (rcmp_any _ n.op a0 a1 HD0.out.ok HD1.out.ok).mono ?_
    rintro e W5 ⟨rfl, hB5⟩
    have HDV := Lib.hid (Ev.dv_cmp n.op a0 a1)
    rw [Ev.cmp_of HD0.out.cc HD1.out.cc] at HDV ⊢
    generalize hd : Ev.cmpV n.op (Ev.nth vs 0) (Ev.nth vs 1) = d at HDV HV ⊢
    clear hd e1
    obtain ⟨-, e1, -, -, -, -, -, -, -, -, -⟩ := Blk.c10 (h1.below hB5)
    have h1 := h1.below hB5
    have h4 := h4.below hB5
    have HB5 := Lib.hid (HB3.out.trans (hB5.mono HB3.out.size))
    clear hB5 HB3
    go_wp2_with fail
    repeat' (first | (refine hZ _ _ ?_; clear hZ) | (refine hZ _ ?_; clear hZ) | (refine hZ ?_; clear hZ) | rw [again_nil] | rw [walk_fin] | ((first | rw [walk_take] | rw [walk_run] | rw [again_cons]); intro Z hZ; simp only [sel, List.getElem?_toArray, List.getElem?_cons_zero, List.getElem?_cons_succ]; go_wp2_with (first | (refine wpList_load_nd rfl (.tmp 2) rfl W.heap.size rfl h1 ?_) | (refine wpList_store_va rfl rfl (.tmp 4) (.tmp 59) rfl g rfl d rfl h4 ?_; intro Wa hba hga))))
    go_wp2_with fail
    exact ret_va hba rfl rfl rfl ⟨d, rfl, by rw [HV.out]; exact HDV.out, below_of_grown HB5.out hga (by omega) HB5.out.size⟩
  by_cases k8 : n.k = 8
  · have HV : Hid (Ev.eval row n = Ev.arithV n.op (Ev.nth vs 0) (Ev.nth vs 1)) := by show _ = _; rw [HVE.out]; unfold Ev.evalK; rw [if_neg k1, if_neg k2, if_neg k3, if_neg k4, if_neg k5, if_neg k6, if_neg k7, if_pos k8]
    rw [k8] at c0
    clear k1 k2 k3 k4 k5 k6 k7 k8 HVE c6 c7
    go_upto_region 17 with fail
    clear c0
    have h1 := h1.drew
    have h4 := h4.drew
    have HB3 := Lib.hid (HB3.out.drewR)
    have HBW := Lib.hid (HBW.out.drewR)
    obtain ⟨-, e1, -, -, -, -, -, -, -, -, -⟩ := Blk.c10 h1
    refine wp_region_plan (.take 0 (.take 1 (.take 2 (.take 3 (.take 5 (.take 6 (.run 4 [0, 1, 5, 6] (.run 7 [0, 1] (.run 8 [] (.run 9 [] .fin)))))))))) (by kernel_rfl) (by kernel_rfl) (by kernel_rfl) (by kernel_rfl) ?_
    repeat' (first | (refine hZ _ _ ?_; clear hZ) | (refine hZ _ ?_; clear hZ) | (refine hZ ?_; clear hZ) | rw [again_nil] | rw [walk_fin] | ((first | rw [walk_take] | rw [walk_run] | rw [again_cons]); intro Z hZ; simp only [sel, List.getElem?_toArray, List.getElem?_cons_zero, List.getElem?_cons_succ]; go_wp2_with (refine wpList_load_nd rfl (.tmp 2) rfl W.heap.size rfl h1 ?_)))
    refine (HARG.out _ HBW.out 0 (by decide)).mono ?_
    rintro e W4 ⟨a0, rfl, hd0, hB4⟩
    have h1 := h1.below hB4
    have h4 := h4.below hB4
    have HB3 := Lib.hid (HB3.out.trans (hB4.mono HB3.out.size))
    have HBW := Lib.hid (HBW.out.trans (hB4.mono HBW.out.size))
    have HD0 := Lib.hid hd0
    clear hB4 hd0
    clear e1
    obtain ⟨-, e1, -, -, -, -, -, -, -, -, -⟩ := Blk.c10 h1
    go_wp2_with fail
    repeat' (first | (refine hZ _ _ ?_; clear hZ) | (refine hZ _ ?_; clear hZ) | (refine hZ ?_; clear hZ) | rw [again_nil] | rw [walk_fin] | ((first | rw [walk_take] | rw [walk_run] | rw [again_cons]); intro Z hZ; simp only [sel, List.getElem?_toArray, List.getElem?_cons_zero, List.getElem?_cons_succ]; go_wp2_with (refine wpList_load_nd rfl (.tmp 2) rfl W.heap.size rfl h1 ?_)))
    refine (HARG.out _ HBW.out 1 (by decide)).mono ?_
    rintro e W6 ⟨a1, rfl, hd1, hB4⟩
    have h1 := h1.below hB4
    have h4 := h4.below hB4
    have HB3 := Lib.hid (HB3.out.trans (hB4.mono HB3.out.size))
    have HD1 := Lib.hid hd1
    clear hB4 hd1
    clear e1
    obtain ⟨-, e1, -, -, -, -, -, -, -, -, -⟩ := Blk.c10 h1
    go_wp2_with fail
    repeat' (first | (refine hZ _ _ ?_; clear hZ) | (refine hZ _ ?_; clear hZ) | (refine hZ ?_; clear hZ) | rw [again_nil] | rw [walk_fin] | ((first | rw [walk_take] | rw [walk_run] | rw [again_cons]); intro Z hZ; simp only [sel, List.getElem?_toArray, List.getElem?_cons_zero, List.getElem?_cons_succ]; go_wp2_with (refine wpList_load_nd rfl (.tmp 2) rfl W.heap.size rfl h1 ?_)))
    refine (rarith_any _ n.op a0 a1 HD0.out.ok HD1.out.ok).mono ?_
    rintro e W5 ⟨d, rfl, hdv, hB5⟩
    have HDV := Lib.hid hdv
    rw [Ev.arith_of HD0.out.cc HD1.out.cc] at HDV
    clear hdv e1
    obtain ⟨-, e1, -, -, -, -, -, -, -, -, -⟩ := Blk.c10 (h1.below hB5)
    have h1 := h1.below hB5
    have h4 := h4.below hB5
    have HB5 := Lib.hid (HB3.out.trans (hB5.mono HB3.out.size))
    clear hB5 HB3
    go_wp2_with fail
    repeat' (first | (refine hZ _ _ ?_; clear hZ) | (refine hZ _ ?_; clear hZ) | (refine hZ ?_; clear hZ) | rw [again_nil] | rw [walk_fin] | ((first | rw [walk_take] | rw [walk_run] | rw [again_cons]); intro Z hZ; simp only [sel, List.getElem?_toArray, List.getElem?_cons_zero, List.getElem?_cons_succ]; go_wp2_with (first | (refine wpList_load_nd rfl (.tmp 2) rfl W.heap.size rfl h1 ?_) | (refine wpList_store_va rfl rfl (.tmp 4) (.tmp 70) rfl g rfl d rfl h4 ?_; intro Wa hba hga))))
    go_wp2_with fail
    exact ret_va hba rfl rfl rfl ⟨d, rfl, by rw [HV.out]; exact HDV.out, below_of_grown HB5.out hga (by omega) HB5.out.size⟩
  by_cases k9 : n.k = 9
  · have HV : Hid (Ev.eval row n = Ev.boolV (((Ev.nth vs 0).k == 0) != n.no)) := by show _ = _; rw [HVE.out]; unfold Ev.evalK; rw [if_neg k1, if_neg k2, if_neg k3, if_neg k4, if_neg k5, if_neg k6, if_neg k7, if_neg k8, if_pos k9]
    rw [k9] at c0
    clear k1 k2 k3 k4 k5 k6 k7 k8 k9 HVE c6
    go_upto_region 19 with fail
    clear c0 c7
    go_wp2_with (refine wpList_load_nd rfl (.tmp 2) rfl W.heap.size rfl h1 ?_)
    refine (HARG.out _ HBW.out 0 (by decide)).mono ?_
    rintro e W4 ⟨a0, rfl, hd0, hB4⟩
    have h1 := h1.below hB4
    have h4 := h4.below hB4
    have HB3 := Lib.hid (HB3.out.trans (hB4.mono HB3.out.size))
    have HBW := Lib.hid (HBW.out.trans (hB4.mono HBW.out.size))
    have HD0 := Lib.hid hd0
    clear hB4 hd0
    rw [← HD0.out.k] at HV
    have hvl : W.heap.size < W4.heap.size := h1.lt
    have hgl : g < W4.heap.size := h4.lt
    go_upto_region 20 with (first | (refine wpList_alloc_va rfl rfl ?_; intro W7 hb7 hz7 hB7) | (refine wpList_store_va rfl rfl (.tmp 5) (.tmp 75) rfl W4.heap.size rfl a0 rfl hb7 ?_; intro W8 hb8 hg8))
    have h4 := (h4.below hB7).grown hg8 (by simp; omega)
    have h1 := (h1.below hB7).grown hg8 (by simp; omega)
    have HB3 := Lib.hid (below_of_grown (HB3.out.then hB7) hg8 (by omega) (Nat.le_trans HB3.out.size hB7.size))
    clear hB7 hg8 hb7 hz7
    generalize W4.heap.size = gx at hb8 hvl hgl ⊢
    obtain ⟨-, -, -, -, -, -, -, e7, -, -, -⟩ := Blk.c10 h1
    obtain ⟨u0, -⟩ := Blk.c4 hb8
    cases hno : n.no with
    | true =>
      rw [hno] at HV e7
      have HV : Hid (Ev.eval row n = Ev.boolV (a0.k != 0)) := by show _ = _; rw [HV.out]; congr 1; cases h : a0.k == 0 <;> simp [bne, h]
      go_wp2_with fail
      refine (refbool_any _ _).mono ?_
      rintro e W9 ⟨rfl, hB5⟩
      rw [boolV_v]
      have HDV := Lib.hid (Ev.dv_bool (a0.k != 0))
      generalize hd : Ev.boolV (a0.k != 0) = d at HDV HV ⊢
      clear hd
      have h4 := h4.below hB5
      have HB5 := Lib.hid (HB3.out.then hB5)
      clear hB5 HB3
      go_wp2_with (refine wpList_store_va rfl rfl (.tmp 4) (.tmp 81) rfl g rfl d rfl h4 ?_; intro Wa hba hga)
      exact ret_va hba rfl rfl rfl ⟨d, rfl, by rw [HV.out]; exact HDV.out, below_of_grown HB5.out hga (by omega) HB5.out.size⟩
    | false =>
      rw [hno] at HV e7
      have HV : Hid (Ev.eval row n = Ev.boolV (a0.k == 0)) := by show _ = _; rw [HV.out]; congr 1; cases a0.k == 0 <;> rfl
      go_wp2_with fail
      refine (refbool_any _ _).mono ?_
      rintro e W9 ⟨rfl, hB5⟩
      rw [boolV_v]
      have HDV := Lib.hid (Ev.dv_bool (a0.k == 0))
      generalize hd : Ev.boolV (a0.k == 0) = d at HDV HV ⊢
      clear hd
      have h4 := h4.below hB5
      have HB5 := Lib.hid (HB3.out.then hB5)
      clear hB5 HB3
      go_wp2_with (refine wpList_store_va rfl rfl (.tmp 4) (.tmp 85) rfl g rfl d rfl h4 ?_; intro Wa hba hga)
      exact ret_va hba rfl rfl rfl ⟨d, rfl, by rw [HV.out]; exact HDV.out, below_of_grown HB5.out hga (by omega) HB5.out.size⟩
  · have HV : Hid (Ev.eval row n = Key.nul) := by show _ = _; rw [HVE.out]; unfold Ev.evalK; rw [if_neg k1, if_neg k2, if_neg k3, if_neg k4, if_neg k5, if_neg k6, if_neg k7, if_neg k8, if_neg k9]
    have b1 : (n.k == 1) = false := by simp [k1]
    have b2 : (n.k == 2) = false := by simp [k2]
    have b3 : (n.k == 3) = false := by simp [k3]
    have b4 : (n.k == 4) = false := by simp [k4]
    have b5 : (n.k == 5) = false := by simp [k5]
    have b6 : (n.k == 6) = false := by simp [k6]
    have b7 : (n.k == 7) = false := by simp [k7]
    have b8 : (n.k == 8) = false := by simp [k8]
    have b9 : (n.k == 9) = false := by simp [k9]
    clear k1 k2 k3 k4 k5 k6 k7 k8 k9 HVE c6 c7
    go_wp2_with (refine wpList_store_va rfl rfl (.tmp 4) (.tmp 86) rfl g rfl Key.nul rfl h4 ?_; intro Wa hba hga)
    exact ret_va hba rfl rfl rfl ⟨Key.nul, rfl, by rw [HV.out]; exact Ev.dv_nul, below_of_grown HB3.out hga (by omega) HB3.out.size⟩
end Go.Proofs.Ytjdffhonljhpcaa
end

section
/-
  The contracts of eval.at, Order, Holds and of the document's Order and Holds.
-/
namespace Go.Proofs.Ytjdffhonljhpcaa
set_option linter.unusedSimpArgs false
set_option linter.unusedVariables false
open Go.RowKit

namespace Ev
theorem clean_at (row : List Va) (i : Int) : Key.clean (atV row i) = atV row i := by unfold atV; split; exact clean_clean _; rfl
theorem at_ok {row : List Va} (h : ∀ v ∈ row, v.ok) (i : Int) : (atV row i).ok := by unfold atV; split; exact clean_ok (nth_ok h _); exact nul_ok
/-- Which of two rows comes first. -/
def ordR : List So → List Va → List Va → Int
  | [], _, _ => 0
  | s :: l, a, b => if Key.vord (atV a s.at_) (atV b s.at_) = 0 then ordR l a b else if s.desc then -Key.vord (atV a s.at_) (atV b s.at_) else Key.vord (atV a s.at_) (atV b s.at_)
theorem ordR_range (l : List So) (a b : List Va) : ordR l a b = -1 ∨ ordR l a b = 0 ∨ ordR l a b = 1 := by
  induction l with
  | nil => exact .inr (.inl rfl)
  | cons s l ih =>
    unfold ordR
    have := Key.vord_range (atV a s.at_) (atV b s.at_)
    (repeat' split) <;> omega
/-- Do all of some nodes hold? -/
def holds (row : List Va) (l : List Nd) : Bool := l.all fun n => tru (eval row n) == 1
end Ev
/-- Rows as the laws hand them on. -/
structure RowOk (w : World) (R : Option Addr) (row : List Va) : Prop where
  r : ERow eVa w R row
  ok : ∀ v ∈ row, v.ok
  len : row.length ≤ 9223372036854775807
theorem RowOk.below {w W : World} {R : Option Addr} {row : List Va} (h : RowOk w R row) (hB : Below w.heap.size w W) : RowOk W R row := ⟨h.r.below hB, h.ok, h.len⟩
theorem RowIn.rok {w : World} {r : Rw} (h : RowIn w r) : RowOk w r.a r.l := ⟨h.row, fun v hv => (h.ok v hv).ok, by have := h.len; have := h.cap; unfold maxLen at this; omega⟩
theorem so_at {w : World} {A : Option Addr} {L : List So} (h : ERow eSo w A L) {j : Nat} (hj : j < L.length) : ∃ b o, A = some ⟨b, o, none⟩ ∧ b < w.heap.size ∧ w.cell? ⟨b, o + j * 2, none⟩ = some (.int .i64 L[j].at_) ∧ w.cell? ⟨b, o + j * 2 + 1, none⟩ = some (.bool L[j].desc) := by
  obtain ⟨b, o, e, hb, hc⟩ := h.at_ hj
  exact ⟨b, o, e, hb, hc 0 _ rfl, hc 1 _ rfl⟩
theorem Ev.ordR_drop {l : List So} {k : Nat} (hk : k < l.length) (a b : List Va) : Ev.ordR (l.drop k) a b = if Key.vord (Ev.atV a l[k].at_) (Ev.atV b l[k].at_) = 0 then Ev.ordR (l.drop (k + 1)) a b else if l[k].desc then -Key.vord (Ev.atV a l[k].at_) (Ev.atV b l[k].at_) else Key.vord (Ev.atV a l[k].at_) (Ev.atV b l[k].at_) := by
  have : l.drop k = l[k] :: l.drop (k + 1) := (List.getElem_cons_drop hk).symm
  rw [this]; rfl
theorem Ev.Dv.ord {s t u v : Va} (h : Ev.Dv s u) (k : Ev.Dv t v) (hs : Key.clean s = s) (ht : Key.clean t = t) : Key.vord (Key.dclean u) (Key.dclean v) = Key.vord s t := by
  rw [← Ev.vord_clean, h.cc, k.cc, hs, ht]
theorem Ev.holds_no {row : List Va} {L : List Nd} {k : Nat} (hk : k < L.length) (h : Ev.tru (Ev.eval row L[k]) ≠ 1) : Ev.holds row L = false := by
  unfold Ev.holds
  rw [List.all_eq_false]
  exact ⟨L[k], List.getElem_mem hk, by simpa using h⟩
theorem Ev.holds_yes {row : List Va} {L : List Nd} (h : ∀ k (hk : k < L.length), Ev.tru (Ev.eval row L[k]) = 1) : Ev.holds row L = true := by
  unfold Ev.holds
  rw [List.all_eq_true]
  intro n hn
  obtain ⟨k, hk, rfl⟩ := List.getElem_of_mem hn
  simpa using h k hk
theorem nd_at {w : World} {A : Option Addr} {L : List Nd} (h : ERow eNd w A L) {j : Nat} (hj : j < L.length) : ∃ b o, A = some ⟨b, o, none⟩ ∧ ERow eNd w (some ⟨b, o, none⟩) L := by
  obtain ⟨b, o, e, hb, hc⟩ := h.at_ hj
  subst e
  exact ⟨b, o, rfl, h⟩
theorem Ev.tru3_two (v : Va) : (Ev.tru3 v = 2) ↔ Ev.tru v = 1 := by unfold Ev.tru3 Ev.tru; (repeat' split) <;> simp_all
end Go.Proofs.Ytjdffhonljhpcaa
end

section
/-
  Stable sorting, plain: lists that are merged, and what the sorting of a list is.
-/
namespace Go.Proofs.Ytjdffhonljhpcaa
set_option linter.unusedSimpArgs false
set_option linter.unusedVariables false

namespace Srt
variable {α : Type}
/-- How elements stand to each other: below 0 the first one comes first. -/
structure Ord (cmp : α → α → Int) : Prop where
  anti : ∀ x y, cmp y x = -cmp x y
  trans : ∀ x y z, cmp x y ≤ 0 → cmp y z ≤ 0 → cmp x z ≤ 0
variable (cmp : α → α → Int)
/-- Two rows are merged; of alike ones those of the first come first. -/
def mg : List α → List α → List α
  | [], Y => Y
  | x :: X, [] => x :: X
  | x :: X, y :: Y => if cmp y x < 0 then y :: mg (x :: X) Y else x :: mg X (y :: Y)
termination_by X Y => X.length + Y.length
/-- A row, sorted; alike ones stay in their order. -/
def ssort (L : List α) : List α := L.foldl (fun acc z => mg cmp acc [z]) []
def Sorted (L : List α) : Prop := L.Pairwise fun s t => ¬ cmp t s < 0
theorem mg_nil_left (Y : List α) : mg cmp [] Y = Y := by unfold mg; rfl
theorem mg_nil_right (X : List α) : mg cmp X [] = X := by cases X <;> (unfold mg; rfl)
theorem mg_cons (x y : α) (X Y : List α) : mg cmp (x :: X) (y :: Y) = if cmp y x < 0 then y :: mg cmp (x :: X) Y else x :: mg cmp X (y :: Y) := by
  conv => lhs; unfold mg
theorem mg_perm : ∀ (X Y : List α), (mg cmp X Y).Perm (X ++ Y)
  | [], Y => by rw [mg_nil_left]; exact List.Perm.refl _
  | x :: X, [] => by rw [mg_nil_right, List.append_nil]
  | x :: X, y :: Y => by
    rw [mg_cons]
    split
    · exact ((mg_perm (x :: X) Y).cons y).trans (List.perm_middle.symm)
    · exact (mg_perm X (y :: Y)).cons x
termination_by X Y => X.length + Y.length
theorem mg_length (X Y : List α) : (mg cmp X Y).length = X.length + Y.length := by rw [(mg_perm cmp X Y).length_eq, List.length_append]
theorem ssort_nil : ssort cmp [] = [] := rfl
theorem ssort_snoc (L : List α) (z : α) : ssort cmp (L ++ [z]) = mg cmp (ssort cmp L) [z] := by unfold ssort; rw [List.foldl_append]; rfl
theorem list_snoc {P : List α → Prop} (h0 : P []) (h1 : ∀ L z, P L → P (L ++ [z])) (L : List α) : P L := by
  have : ∀ n (L : List α), L.length = n → P L := by
    intro n
    induction n with
    | zero => intro L h; rw [List.eq_nil_of_length_eq_zero h]; exact h0
    | succ n ih =>
      intro L h
      have hne : L ≠ [] := by intro e; subst e; simp at h
      rw [← List.dropLast_concat_getLast hne]
      exact h1 _ _ (ih _ (by rw [List.length_dropLast]; omega))
  exact this _ L rfl
theorem ssort_perm (L : List α) : (ssort cmp L).Perm L := by
  induction L using list_snoc with
  | h0 => exact List.Perm.refl _
  | h1 L z ih => rw [ssort_snoc]; exact (mg_perm cmp _ _).trans (ih.append_right _)
theorem ssort_length (L : List α) : (ssort cmp L).length = L.length := (ssort_perm cmp L).length_eq
variable {cmp}
theorem Ord.lt_trans (h : Ord cmp) {x y z : α} (h1 : cmp x y < 0) (h2 : cmp y z < 0) : cmp x z < 0 := by
  have h3 := h.trans x y z (by omega) (by omega)
  rcases Int.lt_or_eq_of_le h3 with h4 | h4
  · exact h4
  · -- z comes at most with x, x ahead of y: z ahead of y or with it, against h2
    have h5 := h.trans z x y (by rw [h.anti]; omega) (by omega)
    have h6 := h.anti y z
    omega
theorem Ord.lt_of_lt_of_le (h : Ord cmp) {x y z : α} (h1 : cmp x y < 0) (h2 : ¬ cmp z y < 0) : cmp x z < 0 := by
  -- y comes at most with z
  have h3 : cmp y z ≤ 0 := by have := h.anti z y; omega
  have h4 := h.trans x y z (by omega) h3
  rcases Int.lt_or_eq_of_le h4 with h5 | h5
  · exact h5
  · have h6 := h.trans y z x h3 (by rw [h.anti]; omega)
    have h7 := h.anti x y
    omega
theorem Ord.le_trans (h : Ord cmp) {x y z : α} (h1 : ¬ cmp y x < 0) (h2 : ¬ cmp z y < 0) : ¬ cmp z x < 0 := by
  have e1 := h.anti x y
  have e2 := h.anti y z
  have e3 := h.anti x z
  have h3 := h.trans x y z (by omega) (by omega)
  omega
/-- Merging is associative. -/
theorem mg_assoc (h : Ord cmp) : ∀ (A B C : List α), mg cmp (mg cmp A B) C = mg cmp A (mg cmp B C)
  | [], B, C => by rw [mg_nil_left, mg_nil_left]
  | a :: A, [], C => by rw [mg_nil_right, mg_nil_left]
  | a :: A, b :: B, [] => by rw [mg_nil_right, mg_nil_right]
  | a :: A, b :: B, c :: C => by
    by_cases hba : cmp b a < 0
    · rw [mg_cons, if_pos hba]
      by_cases hcb : cmp c b < 0
      · have hca := h.lt_trans hcb hba
        have ih := mg_assoc h (a :: A) (b :: B) C
        rw [mg_cons cmp a b, if_pos hba] at ih
        rw [mg_cons cmp b c _ C, if_pos hcb, mg_cons cmp b c B C, if_pos hcb, mg_cons cmp a c, if_pos hca, ih]
      · have ih := mg_assoc h (a :: A) B (c :: C)
        rw [mg_cons cmp b c _ C, if_neg hcb, mg_cons cmp b c B C, if_neg hcb, mg_cons cmp a b, if_pos hba, ih]
    · rw [mg_cons, if_neg hba]
      by_cases hca : cmp c a < 0
      · have hcb := h.lt_of_lt_of_le hca hba
        have ih := mg_assoc h (a :: A) (b :: B) C
        rw [mg_cons cmp a b, if_neg hba] at ih
        rw [mg_cons cmp a c _ C, if_pos hca, mg_cons cmp b c B C, if_pos hcb, mg_cons cmp a c, if_pos hca, ih]
      · have ih := mg_assoc h A (b :: B) (c :: C)
        rw [mg_cons cmp a c _ C, if_neg hca, ih]
        by_cases hcb : cmp c b < 0
        · rw [mg_cons cmp b c B C, if_pos hcb, mg_cons cmp a c, if_neg hca]
        · rw [mg_cons cmp b c B C, if_neg hcb, mg_cons cmp a b, if_neg hba]
termination_by A B C => A.length + B.length + C.length
theorem ssort_append (h : Ord cmp) (X Y : List α) : ssort cmp (X ++ Y) = mg cmp (ssort cmp X) (ssort cmp Y) := by
  induction Y using list_snoc with
  | h0 => rw [List.append_nil, ssort_nil, mg_nil_right]
  | h1 Y z ih => rw [← List.append_assoc, ssort_snoc, ssort_snoc, ih, mg_assoc h]
theorem mem_mg {X Y : List α} {z : α} (hz : z ∈ mg cmp X Y) : z ∈ X ∨ z ∈ Y := List.mem_append.1 ((mg_perm cmp X Y).mem_iff.1 hz)
theorem mg_sorted (h : Ord cmp) : ∀ {X Y : List α}, Sorted cmp X → Sorted cmp Y → Sorted cmp (mg cmp X Y)
  | [], Y, _, hy => by rw [mg_nil_left]; exact hy
  | x :: X, [], hx, _ => by rw [mg_nil_right]; exact hx
  | x :: X, y :: Y, hx, hy => by
    obtain ⟨hx1, hx2⟩ := List.pairwise_cons.1 hx
    obtain ⟨hy1, hy2⟩ := List.pairwise_cons.1 hy
    rw [mg_cons]
    split
    · next hlt =>
      refine List.pairwise_cons.2 ⟨fun z hz => ?_, mg_sorted h hx hy2⟩
      rcases mem_mg hz with hz | hz
      · have hyx : ¬ cmp x y < 0 := by have := h.anti x y; omega
        rcases List.mem_cons.1 hz with rfl | hz
        · exact hyx
        · exact h.le_trans hyx (hx1 z hz)
      · exact hy1 z hz
    · next hlt =>
      refine List.pairwise_cons.2 ⟨fun z hz => ?_, mg_sorted h hx2 hy⟩
      rcases mem_mg hz with hz | hz
      · exact hx1 z hz
      · rcases List.mem_cons.1 hz with rfl | hz
        · exact hlt
        · exact h.le_trans hlt (hy1 z hz)
termination_by X Y => X.length + Y.length
theorem ssort_sorted (h : Ord cmp) (L : List α) : Sorted cmp (ssort cmp L) := by
  induction L using list_snoc with
  | h0 => exact List.Pairwise.nil
  | h1 L z ih => rw [ssort_snoc]; exact mg_sorted h ih (List.pairwise_singleton _ _)
/-- Rows that are cut so that what comes first comes first are merged part by part. -/
theorem mg_parts : ∀ (X1 X2 Y1 Y2 : List α), (∀ y ∈ Y1, ∀ x ∈ X2, cmp y x < 0) → (∀ x ∈ X1, ∀ y ∈ Y2, ¬ cmp y x < 0) → mg cmp (X1 ++ X2) (Y1 ++ Y2) = mg cmp X1 Y1 ++ mg cmp X2 Y2
  | [], X2, [], Y2, _, _ => by rw [mg_nil_left]; rfl
  | [], X2, y :: Y1, Y2, h1, h2 => by
    have ih := mg_parts [] X2 Y1 Y2 (fun y hy => h1 y (by simp [hy])) h2
    rw [mg_nil_left] at ih ⊢
    cases X2 with
    | nil => simp only [List.nil_append, mg_nil_left, List.cons_append]
    | cons x X2 =>
      simp only [List.nil_append, List.cons_append] at ih ⊢
      rw [mg_cons, if_pos (h1 y (by simp) x (by simp)), ih]
  | x :: X1, X2, [], Y2, h1, h2 => by
    have ih := mg_parts X1 X2 [] Y2 h1 (fun x hx => h2 x (by simp [hx]))
    rw [mg_nil_right] at ih ⊢
    cases Y2 with
    | nil => simp only [List.append_nil, mg_nil_right]
    | cons y Y2 =>
      simp only [List.nil_append, List.cons_append] at ih ⊢
      rw [mg_cons, if_neg (h2 x (by simp) y (by simp)), ih]
  | x :: X1, X2, y :: Y1, Y2, h1, h2 => by
    simp only [List.cons_append]
    rw [mg_cons, mg_cons]
    split
    · have ih := mg_parts (x :: X1) X2 Y1 Y2 (fun y hy => h1 y (by simp [hy])) h2
      simp only [List.cons_append] at ih ⊢
      rw [ih]
    · have ih := mg_parts X1 X2 (y :: Y1) Y2 h1 (fun x hx => h2 x (by simp [hx]))
      simp only [List.cons_append] at ih ⊢
      rw [ih]
termination_by X1 X2 Y1 Y2 => X1.length + Y1.length
/-- One element is put into a sorted row. -/
theorem mg_one (S1 S2 : List α) (x : α) (h1 : ∀ s ∈ S1, ¬ cmp x s < 0) (h2 : ∀ s ∈ S2, cmp x s < 0) : mg cmp (S1 ++ S2) [x] = S1 ++ x :: S2 := by
  have := mg_parts S1 S2 [] [x] (by intro y hy; cases hy) (by intro s hs y hy; rw [List.mem_singleton.1 hy]; exact h1 s hs)
  simp only [List.nil_append, mg_nil_right] at this
  rw [this]
  cases S2 with
  | nil => rw [mg_nil_left]
  | cons s S2 => rw [mg_cons, if_pos (h2 s (by simp)), mg_nil_right]
/-- One element goes ahead of those of a sorted row that do not come ahead of it. -/
theorem one_mg (S1 S2 : List α) (x : α) (h1 : ∀ s ∈ S1, cmp s x < 0) (h2 : ∀ s ∈ S2, ¬ cmp s x < 0) : mg cmp [x] (S1 ++ S2) = S1 ++ x :: S2 := by
  have := mg_parts [] [x] S1 S2 (by intro y hy z hz; rw [List.mem_singleton.1 hz]; exact h1 y hy) (by intro s hs; cases hs)
  simp only [List.nil_append, mg_nil_left] at this
  rw [this]
  cases S2 with
  | nil => rw [mg_nil_right]
  | cons s S2 => rw [mg_cons, if_neg (h2 s (by simp)), mg_nil_left]
end Srt
end Go.Proofs.Ytjdffhonljhpcaa
end

section
/-
  Stable sorting, plain: where two sorted rows are cut so that they can be merged part by part.
-/
namespace Go.Proofs.Ytjdffhonljhpcaa
set_option linter.unusedSimpArgs false
set_option linter.unusedVariables false

namespace Srt
variable {α : Type} {cmp : α → α → Int}
theorem Ord.self (h : Ord cmp) (x : α) : cmp x x = 0 := by have := h.anti x x; omega
theorem Ord.lt_of_le_of_lt (h : Ord cmp) {x y z : α} (h1 : ¬ cmp y x < 0) (h2 : cmp y z < 0) : cmp x z < 0 := by
  have e1 := h.anti x y
  have h3 := h.trans x y z (by omega) (by omega)
  rcases Int.lt_or_eq_of_le h3 with h5 | h5
  · exact h5
  · have e2 := h.anti x z
    have h6 := h.trans z x y (by omega) (by omega)
    have e3 := h.anti y z
    omega
theorem sorted_le (ho : Ord cmp) {L : List α} (h : Sorted cmp L) {i j : Nat} (hij : i ≤ j) (hj : j < L.length) : ¬ cmp L[j] (L[i]'(by omega)) < 0 := by
  by_cases e : i = j
  · subst e; rw [ho.self]; omega
  · exact (List.pairwise_iff_getElem.1 h) i j (by omega) hj (by omega)
theorem sorted_part {L M N : List α} (h : Sorted cmp L) (e : L = M ++ N) : Sorted cmp M ∧ Sorted cmp N := by
  subst e
  exact ⟨(List.pairwise_append.1 h).1, (List.pairwise_append.1 h).2.1⟩
theorem sym_cut (ho : Ord cmp) {X Y : List α} (hX : Sorted cmp X) (hY : Sorted cmp Y) (s t : Nat)
    (h1 : ∀ (h : 0 < t) (h' : s < X.length) (h'' : t ≤ Y.length), cmp (Y[t - 1]'(by omega)) X[s] < 0)
    (h2 : ∀ (h : 0 < s) (h' : t < Y.length) (h'' : s ≤ X.length), ¬ cmp Y[t] (X[s - 1]'(by omega)) < 0) (hs : s ≤ X.length) (ht : t ≤ Y.length) :
    mg cmp X Y = mg cmp (X.take s) (Y.take t) ++ mg cmp (X.drop s) (Y.drop t) := by
  have := mg_parts (cmp := cmp) (X.take s) (X.drop s) (Y.take t) (Y.drop t) ?_ ?_
  · rwa [List.take_append_drop, List.take_append_drop] at this
  · intro y hy x hx
    obtain ⟨i, hi, rfl⟩ := List.getElem_of_mem hy
    obtain ⟨j, hj, rfl⟩ := List.getElem_of_mem hx
    rw [List.length_take] at hi
    rw [List.length_drop] at hj
    rw [List.getElem_take, List.getElem_drop]
    have k1 := h1 (by omega) (by omega) ht
    have k2 := sorted_le ho hX (i := s) (j := s + j) (by omega) (by omega)
    have k3 := sorted_le ho hY (i := i) (j := t - 1) (by omega) (by omega)
    exact ho.lt_of_le_of_lt k3 (ho.lt_of_lt_of_le k1 k2)
  · intro x hx y hy
    obtain ⟨i, hi, rfl⟩ := List.getElem_of_mem hx
    obtain ⟨j, hj, rfl⟩ := List.getElem_of_mem hy
    rw [List.length_take] at hi
    rw [List.length_drop] at hj
    rw [List.getElem_take, List.getElem_drop]
    have k1 := h2 (by omega) (by omega) hs
    have k2 := sorted_le ho hX (i := i) (j := s - 1) (by omega) (by omega)
    have k3 := sorted_le ho hY (i := t) (j := t + j) (by omega) (by omega)
    exact ho.le_trans k2 (ho.le_trans k1 k3)
/-- A row's element at a place (the row's own one where there is none is never asked for). -/
def nth [Inhabited α] (L : List α) (i : Nat) : α := L.getD i default
variable [Inhabited α]
theorem nth_in {L : List α} {i : Nat} (h : i < L.length) : nth L i = L[i] := by unfold nth; simp [List.getD, h]
theorem nth_mem {L : List α} {i : Nat} (h : i < L.length) : nth L i ∈ L := by rw [nth_in h]; exact List.getElem_mem h
theorem nth_fst {P X Y Q : List α} {k : Nat} (h1 : P.length ≤ k) (h2 : k < P.length + X.length) : nth (P ++ X ++ Y ++ Q) k = X[k - P.length]'(by omega) := by
  rw [nth_in (by simp; omega)]
  simp only [List.append_assoc]
  rw [List.getElem_append_right h1, List.getElem_append_left (by omega)]
theorem nth_snd {P X Y Q : List α} {k : Nat} (h1 : P.length + X.length ≤ k) (h2 : k < P.length + X.length + Y.length) : nth (P ++ X ++ Y ++ Q) k = Y[k - (P.length + X.length)]'(by omega) := by
  rw [nth_in (by simp; omega)]
  simp only [List.append_assoc]
  rw [List.getElem_append_right (by omega), List.getElem_append_right (by omega), List.getElem_append_left (by omega)]
  congr 1
  omega
/-- Where the search ends, the rows are cut. -/
theorem sym_fin (ho : Ord cmp) (P X Y Q : List α) (hX : Sorted cmp X) (hY : Sorted cmp Y) {a m b s e : Nat} (ha : P.length = a) (hm : a + X.length = m) (hb : m + Y.length = b)
    (has : a ≤ s) (hsm : s ≤ m) (hme : m ≤ e) (heb : e ≤ b)
    (h1 : s = m ∨ e = m ∨ cmp (nth (P ++ X ++ Y ++ Q) (e - 1)) (nth (P ++ X ++ Y ++ Q) s) < 0)
    (h2 : s = a ∨ e = b ∨ ¬ cmp (nth (P ++ X ++ Y ++ Q) e) (nth (P ++ X ++ Y ++ Q) (s - 1)) < 0) :
    ∃ X1 X2 Y1 Y2, X = X1 ++ X2 ∧ Y = Y1 ++ Y2 ∧ X1.length = s - a ∧ X2.length = m - s ∧ Y1.length = e - m ∧ Y2.length = b - e ∧ mg cmp X Y = mg cmp X1 Y1 ++ mg cmp X2 Y2 := by
  subst ha hm hb
  refine ⟨X.take (s - P.length), X.drop (s - P.length), Y.take (e - (P.length + X.length)), Y.drop (e - (P.length + X.length)), (List.take_append_drop _ _).symm, (List.take_append_drop _ _).symm, by rw [List.length_take]; omega, by rw [List.length_drop]; omega, by rw [List.length_take]; omega, by rw [List.length_drop]; omega, ?_⟩
  refine sym_cut ho hX hY _ _ ?_ ?_ (by omega) (by omega)
  · intro h h' h''
    rcases h1 with h1 | h1 | h1
    · omega
    · omega
    · rw [nth_fst (k := s) (by omega) (by omega), nth_snd (k := e - 1) (by omega) (by omega)] at h1
      have e1 : e - 1 - (P.length + X.length) = e - (P.length + X.length) - 1 := by omega
      simp only [e1] at h1
      exact h1
  · intro h h' h''
    rcases h2 with h2 | h2 | h2
    · omega
    · omega
    · rw [nth_fst (k := s - 1) (by omega) (by omega), nth_snd (k := e) (by omega) (by omega)] at h2
      have e1 : s - 1 - P.length = s - P.length - 1 := by omega
      simp only [e1] at h2
      exact h2
/-- The first element goes behind those that come ahead of it. -/
theorem one_fin (ho : Ord cmp) (P Y Q : List α) (x : α) (hY : Sorted cmp Y) {m b e : Nat} (hm : P.length + 1 = m) (hb : m + Y.length = b) (hme : m ≤ e) (heb : e ≤ b)
    (h1 : e = m ∨ cmp (nth (P ++ [x] ++ Y ++ Q) (e - 1)) x < 0) (h2 : e = b ∨ ¬ cmp (nth (P ++ [x] ++ Y ++ Q) e) x < 0) :
    ∃ Y1 Y2, Y = Y1 ++ Y2 ∧ Y1.length = e - m ∧ mg cmp [x] Y = Y1 ++ x :: Y2 := by
  have hx : nth (P ++ [x] ++ Y ++ Q) P.length = x := by rw [nth_fst (by omega) (by simp)]; simp
  obtain ⟨X1, X2, Y1, Y2, e1, e2, e3, e4, e5, e6, e7⟩ := sym_fin ho P [x] Y Q (List.pairwise_singleton _ _) hY (a := P.length) (m := m) (b := b) (s := P.length) (e := e) rfl hm hb (Nat.le_refl _) (by omega) hme heb (by rw [hx]; omega) (.inl rfl)
  obtain rfl : X1 = [] := List.eq_nil_of_length_eq_zero (by omega)
  rw [List.nil_append] at e1
  subst e1
  refine ⟨Y1, Y2, e2, e5, ?_⟩
  rw [e7, mg_nil_left]
  cases Y2 with
  | nil => rw [mg_nil_right]
  | cons y Y2 =>
    simp only [List.length_cons] at e6
    rw [mg_cons, if_neg, mg_nil_left]
    rcases h2 with h2 | h2
    · omega
    · rw [nth_snd (k := e) (by simp; omega) (by simp; omega)] at h2
      subst e2
      rw [List.getElem_append_right (by simp; omega)] at h2
      have e8 : e - (P.length + [x].length) - Y1.length = 0 := by simp; omega
      simp only [e8] at h2
      exact h2
/-- The last element goes ahead of those that come behind it. -/
theorem fin_one (ho : Ord cmp) (P X Q : List α) (y : α) (hX : Sorted cmp X) {a m s : Nat} (ha : P.length = a) (hm : a + X.length = m) (has : a ≤ s) (hsm : s ≤ m)
    (h1 : s = m ∨ cmp y (nth (P ++ X ++ [y] ++ Q) s) < 0) (h2 : s = a ∨ ¬ cmp y (nth (P ++ X ++ [y] ++ Q) (s - 1)) < 0) :
    ∃ X1 X2, X = X1 ++ X2 ∧ X1.length = s - a ∧ mg cmp X [y] = X1 ++ y :: X2 := by
  have hy : nth (P ++ X ++ [y] ++ Q) m = y := by rw [nth_snd (by omega) (by simp; omega)]; simp
  obtain ⟨X1, X2, Y1, Y2, e1, e2, e3, e4, e5, e6, e7⟩ := sym_fin ho P X [y] Q hX (List.pairwise_singleton _ _) (a := a) (m := m) (b := m + 1) (s := s) (e := m) ha hm rfl has hsm (Nat.le_refl _) (by omega) (.inr (.inl rfl)) (by rw [hy]; omega)
  obtain rfl : Y1 = [] := List.eq_nil_of_length_eq_zero (by omega)
  rw [List.nil_append] at e2
  subst e2
  refine ⟨X1, X2, e1, e3, ?_⟩
  rw [e7, mg_nil_right]
  cases X2 with
  | nil => rw [mg_nil_left]
  | cons x X2 =>
    simp only [List.length_cons] at e4
    rw [mg_cons, if_pos, mg_nil_right]
    rcases h1 with h1 | h1
    · omega
    · rw [nth_fst (k := s) (by omega) (by omega)] at h1
      subst e1
      rw [List.getElem_append_right (by omega)] at h1
      have e8 : s - P.length - X1.length = 0 := by omega
      simp only [e8] at h1
      exact h1
end Srt
end Go.Proofs.Ytjdffhonljhpcaa
end

section
/-
  Stable sorting, plain: rows that are sorted block by block.
-/
namespace Go.Proofs.Ytjdffhonljhpcaa
set_option linter.unusedSimpArgs false
set_option linter.unusedVariables false

namespace Srt
variable {α : Type}
/-- A row that is sorted block by block: the blocks have this length, the last one at most. -/
inductive Chk (cmp : α → α → Int) (bs : Nat) : List α → List α → Prop
  | last (L : List α) : L.length ≤ bs → Chk cmp bs (ssort cmp L) L
  | more (B S L : List α) : B.length = bs → Chk cmp bs S L → Chk cmp bs (ssort cmp B ++ S) (B ++ L)
variable {cmp : α → α → Int} {bs : Nat}
theorem Chk.perm {S L : List α} (h : Chk cmp bs S L) : S.Perm L := by
  induction h with
  | last L _ => exact ssort_perm cmp L
  | more B S L _ _ ih => exact (ssort_perm cmp B).append ih
theorem Chk.small {S L : List α} (h : Chk cmp bs S L) (hl : L.length ≤ bs) : S = ssort cmp L := by
  cases h with
  | last L _ => rfl
  | more B S L hB h =>
    rw [List.length_append] at hl
    obtain rfl : L = [] := List.eq_nil_of_length_eq_zero (by omega)
    obtain rfl : S = [] := List.eq_nil_of_length_eq_zero (by rw [h.perm.length_eq]; rfl)
    rw [List.append_nil, List.append_nil]
theorem Chk.cut {S L : List α} (h : Chk cmp bs S L) (hl : bs ≤ L.length) : ∃ B S' L', B.length = bs ∧ L = B ++ L' ∧ S = ssort cmp B ++ S' ∧ Chk cmp bs S' L' := by
  cases h with
  | last L h => exact ⟨L, [], [], by omega, (List.append_nil _).symm, (List.append_nil _).symm, .last [] (Nat.zero_le _)⟩
  | more B S L hB h => exact ⟨B, S, L, hB, rfl, rfl, h⟩
/-- What is done: whatever is sorted so behind it, the whole is. -/
def Done (cmp : α → α → Int) (bs : Nat) (SD LD : List α) : Prop := SD.Perm LD ∧ ∀ S L, Chk cmp bs S L → Chk cmp bs (SD ++ S) (LD ++ L)
theorem Done.nil : Done cmp bs ([] : List α) [] := ⟨List.Perm.refl _, fun _ _ h => h⟩
theorem Done.more {SD LD : List α} (h : Done cmp bs SD LD) (B : List α) (hB : B.length = bs) : Done cmp bs (SD ++ ssort cmp B) (LD ++ B) :=
  ⟨h.1.append (ssort_perm cmp B), fun S L k => by rw [List.append_assoc, List.append_assoc]; exact h.2 _ _ (.more B S L hB k)⟩
theorem Done.len {SD LD : List α} (h : Done cmp bs SD LD) : SD.length = LD.length := h.1.length_eq
end Srt
end Go.Proofs.Ytjdffhonljhpcaa
end

section
/-
  What queries answer, plain: the order of rows, folds, groups.
-/
namespace Go.Proofs.Ytjdffhonljhpcaa
set_option linter.unusedSimpArgs false
set_option linter.unusedVariables false

namespace Key
open Go.Op
theorem less_trans : ∀ a b c : List UInt8, bytesLess a b = true → bytesLess b c = true → bytesLess a c = true
  | [], [], _, h, _ => by simp [bytesLess] at h
  | [], _ :: _, [], _, h => by simp [bytesLess] at h
  | [], _ :: _, _ :: _, _, _ => by simp [bytesLess]
  | _ :: _, [], _, h, _ => by simp [bytesLess] at h
  | _ :: _, _ :: _, [], _, h => by simp [bytesLess] at h
  | x :: a, y :: b, z :: c, h1, h2 => by
    simp only [bytesLess, Bool.or_eq_true, Bool.and_eq_true, decide_eq_true_eq, beq_iff_eq] at h1 h2 ⊢
    rcases h1 with h1 | ⟨rfl, h1⟩
    · rcases h2 with h2 | ⟨rfl, h2⟩
      · left; rw [UInt8.lt_iff_toNat_lt] at *; omega
      · exact .inl h1
    · rcases h2 with h2 | ⟨rfl, h2⟩
      · exact .inl h2
      · exact .inr ⟨rfl, less_trans a b c h1 h2⟩
theorem less_asymm {a b : List UInt8} (h : bytesLess a b = true) : bytesLess b a = false := by
  cases h2 : bytesLess b a with
  | false => rfl
  | true => have := less_trans a b a h h2; rw [less_irrefl] at this; cases this
theorem less_neg {a b c : List UInt8} (h1 : bytesLess b a = false) (h2 : bytesLess c b = false) : bytesLess c a = false := by
  cases h3 : bytesLess c a with
  | false => rfl
  | true =>
    cases h4 : bytesLess a b with
    | true => rw [less_trans c a b h3 h4] at h2; cases h2
    | false => rw [less_total a b h4 h1] at h3; rw [h3] at h2; cases h2
theorem vless_asymm {a b : Va} (h : vless a b) : ¬ vless b a := by
  unfold vless at *
  rcases h with h | ⟨e, h⟩
  · rintro (h2 | ⟨e2, -⟩) <;> omega
  · rintro (h2 | ⟨e2, h2⟩)
    · omega
    · by_cases k2 : a.k = 2
      · rw [if_pos k2] at h
        rw [if_pos (by omega)] at h2
        rcases h with h | h <;> rcases h2 with h2 | h2
        · exact h.1 h2.2
        · exact h2.1 h.2
        · exact h.1 h2.2
        · omega
      · rw [if_neg k2] at h
        rw [if_neg (by omega)] at h2
        by_cases k3 : a.k = 3
        · rw [if_pos k3] at h
          rw [if_pos (by omega)] at h2
          rw [less_asymm h] at h2; cases h2
        · rw [if_neg k3] at h
          rw [if_neg (by omega)] at h2
          omega
theorem vless_neg {a b c : Va} (h1 : ¬ vless b a) (h2 : ¬ vless c b) : ¬ vless c a := by
  unfold vless at *
  rintro (h3 | ⟨e, h3⟩)
  · have := fun h => h1 (.inl h)
    have := fun h => h2 (.inl h)
    omega
  · have ha := fun h => h1 (.inl h)
    have hb := fun h => h2 (.inl h)
    have e1 : b.k = a.k := by omega
    have e2 : c.k = b.k := by omega
    have h1 : ¬ _ := fun h => h1 (.inr ⟨e1, h⟩)
    have h2 : ¬ _ := fun h => h2 (.inr ⟨e2, h⟩)
    by_cases k2 : a.k = 2
    · rw [if_pos (by omega)] at h1 h2 h3
      by_cases na : fnan a.f <;> by_cases nb : fnan b.f <;> by_cases nc : fnan c.f <;> simp [na, nb, nc] at h1 h2 h3
      omega
    · rw [if_neg (by omega)] at h1 h2 h3
      by_cases k3 : a.k = 3
      · rw [if_pos (by omega)] at h1 h2 h3
        have := less_neg (by simpa using h1) (by simpa using h2)
        rw [this] at h3; cases h3
      · rw [if_neg (by omega)] at h1 h2 h3
        omega
theorem vord_le {a b : Va} : vord a b ≤ 0 ↔ ¬ vless b a := by
  unfold vord
  by_cases h : vless a b
  · rw [if_pos h]; have := vless_asymm h; simp [this]
  · rw [if_neg h]
    by_cases h2 : vless b a
    · rw [if_pos h2]; simp [h2]
    · rw [if_neg h2]; simp [h2]
theorem vord_ord : Srt.Ord vord where
  anti a b := by
    unfold vord
    by_cases h : vless a b
    · simp [h, vless_asymm h]
    · by_cases h2 : vless b a
      · simp [h, h2]
      · simp [h, h2]
  trans a b c h1 h2 := vord_le.2 (vless_neg (vord_le.1 h1) (vord_le.1 h2))
end Key
namespace Srt
/-- An order of what elements are read as. -/
theorem Ord.on {α β : Type} {cmp : α → α → Int} (h : Ord cmp) (f : β → α) : Ord fun x y => cmp (f x) (f y) := ⟨fun x y => h.anti _ _, fun x y z => h.trans _ _ _⟩
theorem Ord.eq_trans {α : Type} {cmp : α → α → Int} (h : Ord cmp) {x y z : α} (h1 : cmp x y = 0) (h2 : cmp y z = 0) : cmp x z = 0 := by
  have a1 := h.trans x y z (by omega) (by omega)
  have a2 := h.trans z y x (by rw [h.anti]; omega) (by rw [h.anti]; omega)
  have a3 := h.anti x z
  omega
theorem Ord.eq_left {α : Type} {cmp : α → α → Int} (h : Ord cmp) {x y : α} (z : α) (h1 : cmp x y = 0) : (cmp x z < 0 ↔ cmp y z < 0) ∧ (cmp x z = 0 ↔ cmp y z = 0) := by
  have e := h.anti x y
  have k1 : ∀ {x y : α}, cmp x y = 0 → cmp x z < 0 → cmp y z < 0 := fun {x y} h1 h2 => by
    have e := h.anti x y
    exact h.lt_of_le_of_lt (by omega) h2
  have k2 : ∀ {x y : α}, cmp x y = 0 → cmp x z = 0 → cmp y z = 0 := fun {x y} h1 h2 => h.eq_trans (by have := h.anti x y; omega) h2
  exact ⟨⟨k1 h1, k1 (by omega)⟩, ⟨k2 h1, k2 (by omega)⟩⟩
end Srt
namespace Ev
open Key
theorem ordR_ord : ∀ l : List So, Srt.Ord (ordR l)
  | [] => ⟨fun _ _ => rfl, fun _ _ _ _ _ => Int.le_refl 0⟩
  | s :: l => by
    have ih := ordR_ord l
    have hv := vord_ord
    refine ⟨fun a b => ?_, fun a b c => ?_⟩
    · unfold ordR
      have e := hv.anti (atV a s.at_) (atV b s.at_)
      rw [e]
      by_cases h : vord (atV a s.at_) (atV b s.at_) = 0
      · rw [if_pos h, if_pos (by omega), ih.anti]
      · rw [if_neg h, if_neg (by omega)]
        split <;> omega
    · unfold ordR
      generalize atV a s.at_ = x
      generalize atV b s.at_ = y
      generalize atV c s.at_ = z
      have exy := hv.anti x y
      have eyz := hv.anti y z
      have exz := hv.anti x z
      have hlx := hv.eq_left (x := x) (y := y) z
      by_cases h1 : vord x y = 0
      · rw [if_pos h1]
        have hl := hlx h1
        by_cases h2 : vord y z = 0
        · rw [if_pos h2, if_pos (hl.2.2 h2)]
          exact ih.trans a b c
        · rw [if_neg h2, if_neg (fun h => h2 (hl.2.1 h))]
          have hr1 := vord_range x z
          have hr2 := vord_range y z
          have hr3 := hl.1
          have hr4 := hl.2
          split <;> intro _ _ <;> omega
      · rw [if_neg h1]
        have hr1 := vord_range x y
        by_cases h2 : vord y z = 0
        · rw [if_pos h2]
          have hl := hv.eq_left (x := y) (y := z) x h2
          have ezx := hv.anti z x
          have hr3 := hl.1
          have hr4 := hl.2
          have h3 : ¬ vord x z = 0 := by omega
          rw [if_neg h3]
          have hr2 := vord_range x z
          split <;> intro _ _ <;> omega
        · rw [if_neg h2]
          have hr2 := vord_range y z
          have hr3 := vord_range x z
          have t1 := hv.lt_trans (x := x) (y := y) (z := z)
          have t2 := hv.lt_trans (x := z) (y := y) (z := x)
          have e1 := hv.anti z x
          have e2 := hv.anti z y
          have e3 := hv.anti y x
          split
          · intro k1 k2
            have := t2 (by omega) (by omega)
            rw [if_neg (by omega)]; omega
          · intro k1 k2
            have := t1 (by omega) (by omega)
            rw [if_neg (by omega)]; omega
end Ev
end Go.Proofs.Ytjdffhonljhpcaa
end

section
/-
  What is known of a column, as it lies in memory.
-/
namespace Go.Proofs.Ytjdffhonljhpcaa
set_option linter.unusedSimpArgs false
set_option linter.unusedVariables false
open Go.RowKit

/-- Numbers, as int64. -/
def eI64 : Elem Int where
  e := 2
  t := 29
  sz := 1
  bytes := 8
  zero := .int .i64 0
  code := fun x => [.int .i64 x]
  pos := by decide
  few := by decide
  len := fun _ => rfl
  one := by
    intro x u hu
    simp at hu
    subst hu
    rfl
  zsz := rfl
  info := by kernel_rfl
  under := Try.underlying29
theorem i64_at {w : World} {A : Option Addr} {L : List Int} (h : ERow eI64 w A L) {j : Nat} (hj : j < L.length) : ∃ b o, A = some ⟨b, o, none⟩ ∧ b < w.heap.size ∧ w.cell? ⟨b, o + j, none⟩ = some (.int .i64 L[j]) := by
  obtain ⟨b, o, e, hb, hc⟩ := h.at_ hj
  refine ⟨b, o, e, hb, ?_⟩
  have := hc 0 _ rfl
  rwa [show o + (j * eI64.sz + 0) = o + j by show o + (j * 1 + 0) = _; omega] at this

/-- What is known of a column. -/
structure Cs where
  d : Int
  n : Int
  a : Option Addr
  b : List Int
  c : Nat
def Cs.cells (x : Cs) : List Value := [.int .i64 x.d, .int .i64 x.n, .slice x.a x.b.length x.c]
def Cs.v (x : Cs) : Value := .agg x.cells.toArray
def Cs.nul : Cs := ⟨0, 0, none, [], 0⟩
def eCs : Elem Cs where
  e := 31
  t := 25
  sz := 3
  bytes := 40
  zero := .agg #[.int .i64 0, .int .i64 0, .slice none 0 0]
  code := Cs.cells
  pos := by decide
  few := by decide
  len := fun _ => rfl
  one := by
    intro x u hu
    simp [Cs.cells] at hu
    rcases hu with rfl | rfl | rfl <;> rfl
  zsz := rfl
  info := by kernel_rfl
  under := Try.underlying25
theorem Cs.cells_one (a : Cs) : ∀ u ∈ a.cells, u.oneCell' = true := eCs.one a
theorem load_cs {w : World} {g o : Nat} {a : Cs} (h0 : w.cell? ⟨g, o, none⟩ = some (.int .i64 a.d)) (h1 : w.cell? ⟨g, o + 1, none⟩ = some (.int .i64 a.n)) (h2 : w.cell? ⟨g, o + 2, none⟩ = some (.slice a.a a.b.length a.c)) :
    (loadVar 31 ⟨g, o, none⟩).run Try.prog w = .ok a.v w := by
  unfold Cs.v Cs.cells
  go_simp
theorem Blk.cs {w : World} {g : Nat} {t : TypeId} {a : Cs} (h : Blk w g t a.cells) : (loadVar 31 ⟨g, 0, none⟩).run Try.prog w = .ok a.v w := load_cs (h.cell 0) (h.cell 1) (h.cell 2)
theorem cs_zero (W : World) : (zeroValue 31).run Try.prog W = .ok Cs.nul.v W := (zero_of_info (P := Try.prog) (t := 31) (v := Cs.nul.v) (n := 3) (by kernel_rfl)).1 W
theorem cs_info : (Try.prog.info? 31).map (·.size) = some 3 := by kernel_rfl
section
variable {w : World} {ops : Array Oper} {rest : List Oper} {o : Oper} {a : Act} {Q : Exit → Act → World → Prop}
theorem wpList_alloc_cs (hgd : o.guard = none) (hop : o.op = .alloc 31)
    (h : ∀ W, Blk W w.heap.size 31 Cs.nul.cells → w.heap.size + 1 ≤ W.heap.size → Below w.heap.size w W → wpList Try.prog ops Q rest (a.put o.dst (.pointer (some ⟨w.heap.size, 0, none⟩))) W) : wpList Try.prog ops Q (o :: rest) a w :=
  wpList_alloc_z hgd 31 hop (cs_zero _) fun W hW => by
    obtain ⟨h1, h2, h3⟩ := fresh1 (a := Cs.nul.cells) hW
    exact h W h1 h2 h3
theorem wpList_store_cs (hgd : o.guard = none) (hod : o.dst = none) (x y : Operand) (hop : o.op = .store 31 x y) (g : Nat) (hx : a.eval x = .pointer (some ⟨g, 0, none⟩)) (b : Cs) (hy : a.eval y = b.v) {T0 : TypeId} {old : Cs} (hb : Blk w g T0 old.cells)
    (h : ∀ W, Blk W g T0 b.cells → w.grownBy W (some g) → wpList Try.prog ops Q rest a W) : wpList Try.prog ops Q (o :: rest) a w :=
  wpList_store_blk hgd hod 31 x y hop g hx b.cells hy hb rfl cs_info b.cells_one h
theorem wpList_load_cs (hgd : o.guard = none) (x : Operand) (hop : o.op = .load 31 x) (g : Nat) (hx : a.eval x = .pointer (some ⟨g, 0, none⟩)) {T0 : TypeId} {b : Cs} (hb : Blk w g T0 b.cells)
    (h : wpList Try.prog ops Q rest (a.put o.dst b.v) w) : wpList Try.prog ops Q (o :: rest) a w :=
  wpList_load_mid hgd 31 x hop g 0 hx b.cells _ (hb.range 0 b.cells fun j _ => by rw [Nat.zero_add]) Try.underlying31 rfl cs_info h
theorem wpList_load_cs_at (hgd : o.guard = none) (x : Operand) (hop : o.op = .load 31 x) {b off : Nat} {L : List Cs} (hr : ERow eCs w (some ⟨b, off, none⟩) L) {j : Nat} (hj : j < L.length) (hx : a.eval x = .pointer (some ⟨b, off + j * 3, none⟩))
    (h : wpList Try.prog ops Q rest (a.put o.dst L[j].v) w) : wpList Try.prog ops Q (o :: rest) a w := by
  obtain ⟨b', off', e, hb, hrg⟩ := hr.range hj
  cases e
  exact wpList_load_mid hgd 31 x hop b (off + j * 3) hx L[j].cells _ hrg Try.underlying31 rfl cs_info h
theorem wpList_box_cs (hgd : o.guard = none) (x : Operand) (hop : o.op = .box 31 x) (b : Cs) (hx : a.eval x = b.v)
    (h : ∀ W, Blk W w.heap.size 31 b.cells → w.heap.size + 1 ≤ W.heap.size → Below w.heap.size w W → wpList Try.prog ops Q rest (a.put o.dst (.pointer (some ⟨w.heap.size, 0, none⟩))) W) : wpList Try.prog ops Q (o :: rest) a w :=
  wpList_plain hgd fun _ hK => by
    unfold Oper.wp execOp
    have e : (Instr.box 31 b.v).run Try.prog w = .ok (.pointer (some ⟨w.heap.size, 0, none⟩)) (w.alloc (.cells b.cells.toArray 31)) := by
      simp [Instr.box, Sem.run_bind, newVar, newRow]
      rfl
    simp only [hop, hx, Sem.run_bind, e, Result.andThen_ok, Sem.run_pure]
    obtain ⟨h1, h2, h3⟩ := fresh1 (w := w) (a := b.cells) (t := 31) rfl
    exact hK _ _ (h _ h1 h2 h3)
end
theorem ret_cs {fn : Func} {R : Ending → World → Prop} {a : Act} {w : World} {p : Tmp} {g : Nat} {T0 : TypeId} {b : Cs} (hb : Blk w g T0 b.cells) (h : fn.results = #[.cell p 31]) (hd : a.defers = [])
    (hp : a.tmps.getD p undef = .pointer (some ⟨g, 0, none⟩)) (hR : R (.returned b.v) w) : bodyPost Try.prog fn R .ret a w :=
  ret_mem1 h hd hp hb.cs hR
theorem va4_at {w : World} {b o : Nat} {L : List Va} (h : ERow eVa w (some ⟨b, o, none⟩) L) {j : Nat} (hj : j < L.length) :
    w.cell? ⟨b, o + j * 4, none⟩ = some (.int .i64 L[j].k) ∧ w.cell? ⟨b, o + j * 4 + 1, none⟩ = some (.int .i64 L[j].n) ∧ w.cell? ⟨b, o + j * 4 + 2, none⟩ = some (.float .f64 L[j].f) ∧ w.cell? ⟨b, o + j * 4 + 3, none⟩ = some (txt L[j].s) := by
  obtain ⟨b', o', e, -, hc⟩ := h.at_ hj
  cases e
  exact ⟨hc 0 _ rfl, hc 1 _ rfl, hc 2 _ rfl, hc 3 _ rfl⟩
namespace Ev
/-- The whole numbers among values. -/
def wholeN (vs : List Va) : List Int := (vs.filter fun v => v.k == 1).map (·.n)
theorem wholeN_snoc (vs : List Va) (v : Va) : wholeN (vs ++ [v]) = wholeN vs ++ if v.k = 1 then [v.n] else [] := by
  unfold wholeN
  rw [List.filter_append, List.map_append]
  congr 1
  by_cases h : v.k = 1 <;> simp [h]
/-- How many unlike values are among the first i. -/
def distN (S : List Va) : Nat → Nat
  | 0 => 0
  | i + 1 => distN S i + if i = 0 ∨ Key.vord (nth S (i - 1)) (nth S i) ≠ 0 then 1 else 0
theorem distN_le (S : List Va) : ∀ i, distN S i ≤ i
  | 0 => Nat.le_refl 0
  | i + 1 => by
    have := distN_le S i
    unfold distN
    split <;> omega
theorem distN_pos (S : List Va) : ∀ i, 0 < i → 0 < distN S i
  | 0, h => by omega
  | 1, _ => by unfold distN; simp
  | i + 2, _ => by
    have := distN_pos S (i + 1) (by omega)
    unfold distN
    omega
/-- The k-th bound. -/
def boundN (W : List Int) (k : Nat) : Int := W.getD (k * (W.length - 1) / 8) 0
def boundsN (W : List Int) (k : Nat) : List Int := (List.range k).map (boundN W)
theorem boundsN_len (W : List Int) (k : Nat) : (boundsN W k).length = k := by unfold boundsN; simp
theorem boundsN_snoc (W : List Int) (k : Nat) : boundsN W (k + 1) = boundsN W k ++ [boundN W k] := by unfold boundsN; rw [List.range_succ, List.map_append]; rfl
def boundsC (W : List Int) : List Int := if W = [] then [] else boundsN W 9
end Ev
end Go.Proofs.Ytjdffhonljhpcaa
end

section
/-
  The contracts of value.Same and stats.column.
-/
namespace Go.Proofs.Ytjdffhonljhpcaa
set_option linter.unusedSimpArgs false
set_option linter.unusedVariables false
open Go.RowKit

set_option maxRecDepth 20000 in
set_option maxHeartbeats 1000000 in
theorem psame_any (w : World) (a b : Va) (ha : a.ok) (hb : b.ok) (ca : Key.clean a = a) (cb : Key.clean b = b) :
    Calls Try.prog 71 #[a.v, b.v] w fun e w' => e = .returned (.bool (decide (Key.vord a b = 0))) ∧ Below w.heap.size w w' := by
  have HO : Hid (a.ok ∧ b.ok) := ⟨ha, hb⟩
  have HE : Hid (Key.vord (Key.clean a) (Key.clean b) = Key.vord a b) := by show _ = _; rw [ca, cb]
  clear ha hb ca cb
  go_enter Try.func71, Try.ntmps71
  go_upto_region 1 with (first | (refine wpList_box_va rfl (.tmp 0) rfl a rfl ?_; intro W1 hb1 hz1 hB1) | (refine wpList_box_va rfl (.tmp 1) rfl b rfl ?_; intro W2 hb2 hz2 hB2))
  have h12 := hb1.below hB2
  have HB := Lib.hid (hB1.trans (hB2.mono hB1.size))
  clear hb1 hB1 hB2 hz1 hz2
  go_wp2_with (first | (refine wpList_load_va rfl (.tmp 2) rfl w.heap.size rfl h12 ?_) | (refine wpList_load_va rfl (.tmp 3) rfl W1.heap.size rfl hb2 ?_))
  refine (pord_any _ a b HO.out.1 HO.out.2).mono ?_
  rintro e W3 ⟨rfl, hB3⟩
  rw [HE.out]
  have HB3 := Lib.hid (HB.out.then hB3)
  clear h12 hb2 hB3
  obtain ⟨x, hvx⟩ : ∃ x, Key.vord a b = x := ⟨_, rfl⟩
  rw [hvx]
  have HV := Lib.hid hvx
  clear hvx
  by_cases hx : x = 0
  · subst hx
    go_wp2_with fail
    go_ret
    exact ⟨by rw [HV.out]; rfl, HB3.out⟩
  · have hxb : (x == 0) = false := by simpa using hx
    go_wp2_with fail
    go_ret
    exact ⟨by rw [HV.out, decide_eq_false hx]; rfl, HB3.out⟩
/-- What answers what is known of a column. -/
def RetCs (w : World) (d n : Int) (b : List Int) (e : Ending) (w' : World) : Prop := ∃ A c, e = .returned (Cs.v ⟨d, n, A, b, c⟩) ∧ EOwn eI64 w' w.heap.size A c b ∧ Below w.heap.size w w'
/-- Where column stands. -/
structure ColAt (w W : World) (g4 g5 : Nat) (d n : Int) (A : Option Addr) (c : Nat) (b : List Int) (A6 : Option Addr) (c6 : Nat) (l : List Int) : Prop where
  b4 : Blk W g4 31 Cs.nul.cells
  b5 : Blk W g5 31 (Cs.cells ⟨d, n, A, b, c⟩)
  o6 : EOwn eI64 W (g5 + 1) A6 c6 l
  o5 : EOwn eI64 W (g5 + 1) A c b
  size : g5 + 1 ≤ W.heap.size
  below : Below w.heap.size w W
theorem ColAt.go {w W W' : World} {g4 g5 : Nat} {d n : Int} {A : Option Addr} {c : Nat} {b : List Int} {A6 : Option Addr} {c6 : Nat} {l : List Int} (h : ColAt w W g4 g5 d n A c b A6 c6 l) (hB : Below W.heap.size W W') : ColAt w W' g4 g5 d n A c b A6 c6 l :=
  ⟨h.b4.below hB, h.b5.below hB, h.o6.below hB, h.o5.below hB, Nat.le_trans h.size hB.size, h.below.then hB⟩
theorem ColAt.setD {w W : World} {g4 g5 : Nat} {d n : Int} {A : Option Addr} {c : Nat} {b : List Int} {A6 : Option Addr} {c6 : Nat} {l : List Int} (h : ColAt w W g4 g5 d n A c b A6 c6 l) (h45 : g4 < g5) (hw : w.heap.size ≤ g4) (d' : Int) :
    ColAt w (W.setCell ⟨g5, 0, none⟩ (.int .i64 d')) g4 g5 d' n A c b A6 c6 l :=
  ⟨h.b4.other ⟨g5, 0, none⟩ (by show g4 ≠ g5; omega) _, h.b5.set 0 _, h.o6.set ⟨g5, 0, none⟩ (fun a ha => by have := (h.o6.block a ha).1; show a.block ≠ g5; omega) _, h.o5.set ⟨g5, 0, none⟩ (fun a ha => by have := (h.o5.block a ha).1; show a.block ≠ g5; omega) _, by simpa using h.size, h.below.setCell (by show w.heap.size ≤ g5; omega) _⟩
theorem ColAt.app {w W w3 : World} {g4 g5 : Nat} {d n : Int} {A6 : Option Addr} {c6 : Nat} {l : List Int} (h : ColAt w W g4 g5 d n none 0 [] A6 c6 l) (h45 : g4 < g5) (hw : w.heap.size ≤ g4) {W' : World} (hB : Below W.heap.size W W') {A3 : Option Addr} {c3 : Nat} {m : List Int}
    (ho3 : EOwn eI64 w3 (g5 + 1) A3 c3 m) (hb3 : Below (g5 + 1) W' w3) (hg3 : W'.grownBy w3 (A6.map (·.block))) : ColAt w w3 g4 g5 d n none 0 [] A3 c3 m := by
  have hne : ∀ g, g ≤ g5 → some g ≠ A6.map (·.block) := fun g hg e => by
    cases hA : A6 with
    | none => rw [hA] at e; simp at e
    | some a => rw [hA] at e; have := (h.o6.block a hA).1; simp at e; omega
  have hs := hg3.size
  have := h.size
  have := hB.size
  exact ⟨(h.b4.below hB).grown hg3 (hne _ (by omega)), (h.b5.below hB).grown hg3 (hne _ (Nat.le_refl _)), ho3, EOwn.nil _ _, by omega, (h.below.then hB).trans (hb3.mono (by omega))⟩
set_option maxRecDepth 100000 in
set_option maxHeartbeats 8000000 in
theorem column_any (w : World) (A : Option Addr) (c : Nat) (S : List Va) (n : Int) (hS : ERow eVa w A S) (hok : ∀ v ∈ S, v.ok) (hcl : ∀ v ∈ S, Key.clean v = v) (hl : S.length ≤ 1000) (hn0 : 0 ≤ n) (hn1 : n ≤ 1000000) :
    Calls Try.prog 32 #[.slice A S.length c, .int .i64 n] w (RetCs w (Ev.distN S S.length : Nat) (n - S.length) (Ev.boundsC (Ev.wholeN S))) := by
  have HS := Lib.hid hS
  have HOK : Hid (∀ v ∈ S, v.ok ∧ Key.clean v = v) := fun v hv => ⟨hok v hv, hcl v hv⟩
  clear hS hok hcl
  go_enter Try.func32, Try.ntmps32
  go_upto_region 1 with (refine wpList_alloc_cs rfl rfl ?_; intro W1 hb1 hz1 hB1)
  go_upto_region 2 with (first | (refine wpList_alloc_cs rfl rfl ?_; intro W2 hb2 hz2 hB2) | (refine wpList_store_cs rfl rfl (.tmp 5) (.tmp 14) rfl W1.heap.size rfl ⟨0, n - S.length, none, [], 0⟩ rfl hb2 ?_; intro W3 hb3 hg3))
  have HST : Hid (ColAt w W3 w.heap.size W1.heap.size (Ev.distN S 0 : Nat) (n - S.length) none 0 [] none 0 (Ev.wholeN (S.take 0))) := by
    have hz3 := hg3.size
    exact ⟨(hb1.below hB2).grown hg3 (by simp; omega), hb3, EOwn.nil _ _, EOwn.nil _ _, by omega, below_of_grown (hB1.then hB2) hg3 hB1.size (by omega)⟩
  have h45 : w.heap.size < W1.heap.size := by omega
  clear hb1 hz1 hB1 hb2 hz2 hB2 hb3 hg3
  obtain ⟨g4, hg4⟩ : ∃ g, w.heap.size = g := ⟨_, rfl⟩
  obtain ⟨g5, hg5⟩ : ∃ g, W1.heap.size = g := ⟨_, rfl⟩
  rw [hg4, hg5] at HST h45
  rw [hg4, hg5]
  have HG4 := Lib.hid hg4
  clear hg4 hg5
  go_upto_region 4 with fail
  go_loopw [6, 17] (fun v6 iv wr => ∃ (i : Nat) (A6 : Option Addr) (c6 : Nat), i ≤ S.length ∧ iv = .int .i64 (i : Int) ∧ v6 = .slice A6 (Ev.wholeN (S.take i)).length c6 ∧ Hid (ColAt w wr g4 g5 (Ev.distN S i : Nat) (n - S.length) none 0 [] A6 c6 (Ev.wholeN (S.take i)))) (fun _ iv _ => S.length - (intOf iv).toNat)
  case atStart => exact ⟨0, none, 0, Nat.zero_le _, by go_num, rfl, HST.out⟩
  case round =>
    obtain ⟨i, A6, c6, hi, rfl, rfl, HJ⟩ := hrel
    obtain ⟨wo, rfl⟩ : ∃ wo, wo = wr := ⟨_, rfl⟩
    clear HST
    obtain ⟨l, hl6⟩ : ∃ l, Ev.wholeN (S.take i) = l := ⟨_, rfl⟩
    rw [hl6] at HJ
    rw [hl6]
    have HLL : Hid (l.length ≤ S.length) := by
      show _ ≤ _
      rw [← hl6]
      unfold Ev.wholeN
      rw [List.length_map]
      exact Nat.le_trans (List.length_filter_le _ _) (by rw [List.length_take]; omega)
    have HL6 := Lib.hid hl6
    clear hl6
    by_cases hlt : i < S.length
    · have hii : (i : Int) < (S.length : Int) := by omega
      have HSR : Hid (ERow eVa wo A S) := HS.out.below HJ.out.below
      obtain ⟨ab, ao, rfl, -, -⟩ := HSR.out.at_ hlt
      have HVI : Hid (S[i].ok ∧ Key.clean S[i] = S[i]) := HOK.out _ (List.getElem_mem hlt)
      have HWT : Hid (Ev.wholeN (S.take (i + 1)) = l ++ if S[i].k = 1 then [S[i].n] else []) := by
        show _ = _
        rw [List.take_succ_eq_append_getElem hlt, Ev.wholeN_snoc, HL6.out]
      have hNI : Ev.nth S i = S[i] := by unfold Ev.nth; simp [List.getD, hlt]
      have HNI := Lib.hid hNI
      clear hNI
      go_upto_region 6 with (first | (refine wpList_load_va_at rfl (.tmp 20) rfl HSR.out hlt rfl ?_) | (refine wpList_alloc_va rfl rfl ?_; intro W6 hb6 hz6 hB6) | (refine wpList_store_va rfl rfl (.tmp 8) (.tmp 21) rfl wo.heap.size rfl S[i] rfl hb6 ?_; intro W7 hb7 hg7))
      have HB7 : Hid (Below wo.heap.size wo W7) := below_of_grown hB6 hg7 (Nat.le_refl _) hB6.size
      have HJ7 : Hid (ColAt w W7 g4 g5 (Ev.distN S i : Nat) (n - S.length) none 0 [] A6 c6 l) := HJ.out.go HB7.out
      clear hb6 hz6 hB6 hg7
      generalize hv : S[i] = v at hb7 HVI HWT HNI ⊢
      clear hv
      have h58 : g5 < wo.heap.size := HJ.out.size
      generalize wo.heap.size = g8 at hb7 h58 ⊢
      go_cut [33] from 22 to 33 (fun v wx => ∃ b : Bool, v = .bool b ∧ Hid ((Ev.distN S (i + 1) = Ev.distN S i + if b = true then 1 else 0) ∧ Below W7.heap.size W7 wx))
      case first =>
        by_cases hi0 : i = 0
        · have HD : Hid (Ev.distN S (i + 1) = Ev.distN S i + 1) := by
            show _ = _
            conv => lhs; unfold Ev.distN
            rw [if_pos (.inl hi0)]
          have HBD : Hid (Below W7.heap.size W7 W7.drew) := (Below.refl _ _).drewR
          have hib : ((i : Int) == 0) = true := by simp [hi0]
          clear hi0
          refine wp_region_plan (.take 0 (.take 1 (.take 2 (.take 3 (.take 4 (.take 5 (.take 6 (.take 7 (.take 8 (.run 9 [] (.take 10 (.take 11 .fin)))))))))))) (by kernel_rfl) (by kernel_rfl) (by kernel_rfl) (by kernel_rfl) ?_
          repeat' (first | (refine hZ _ _ ?_; clear hZ) | (refine hZ _ ?_; clear hZ) | (refine hZ ?_; clear hZ) | rw [again_nil] | rw [walk_fin] | ((first | rw [walk_take] | rw [walk_run] | rw [again_cons]); intro Z hZ; simp only [sel, List.getElem?_toArray, List.getElem?_cons_zero, List.getElem?_cons_succ]; go_wp2_with (fail)))
          go_wp2_with fail
          go_meet
          case rel => exact ⟨true, rfl, HD.out, HBD.out⟩
        · have hib : ((i : Int) == 0) = false := by simpa using hi0
          obtain ⟨k, rfl⟩ : ∃ k, i = k + 1 := ⟨i - 1, by omega⟩
          have hks : k < S.length := by omega
          have HSD : Hid (ERow eVa W7.drew (some ⟨ab, ao, none⟩) S) := HSR.out.below HB7.out.drewR
          have hbd := hb7.drew
          have HKI : Hid (S[k].ok ∧ Key.clean S[k] = S[k]) := HOK.out _ (List.getElem_mem hks)
          have HNK : Hid (Ev.nth S k = S[k]) := by show _ = _; unfold Ev.nth; simp [List.getD, hks]
          have HDK : Hid (Ev.distN S (k + 1 + 1) = Ev.distN S (k + 1) + if Key.vord S[k] v ≠ 0 then 1 else 0) := by
            show _ = _
            conv => lhs; unfold Ev.distN
            congr 1
            rw [HNI.out, show k + 1 - 1 = k from rfl, HNK.out]
            by_cases hx : Key.vord S[k] v ≠ 0
            · rw [if_pos (.inr hx), if_pos hx]
            · rw [if_neg (by rintro (h | h); omega; exact hx h), if_neg hx]
          obtain ⟨p0, p1, p2, p3⟩ := va4_at HSD.out hks
          obtain ⟨q0, q1, q2, q3, -⟩ := Blk.c4 hbd
          have HBD : Hid (Below W7.heap.size W7 W7.drew) := (Below.refl _ _).drewR
          generalize hu : S[k] = u at p0 p1 p2 p3 HKI HDK
          clear hu HNK HSD hbd
          refine wp_region_plan (.take 0 (.take 1 (.take 2 (.take 3 (.take 4 (.take 5 (.take 6 (.take 7 (.take 8 (.run 9 [] (.take 10 (.take 11 .fin)))))))))))) (by kernel_rfl) (by kernel_rfl) (by kernel_rfl) (by kernel_rfl) ?_
          repeat' (first | (refine hZ _ _ ?_; clear hZ) | (refine hZ _ ?_; clear hZ) | (refine hZ ?_; clear hZ) | rw [again_nil] | rw [walk_fin] | ((first | rw [walk_take] | rw [walk_run] | rw [again_cons]); intro Z hZ; simp only [sel, List.getElem?_toArray, List.getElem?_cons_zero, List.getElem?_cons_succ]; go_wp2_with (fail)))
          refine (show Calls _ _ #[u.v, v.v] _ _ from psame_any _ u v HKI.out.1 HVI.out.1 HKI.out.2 HVI.out.2).mono ?_
          rintro e W8 ⟨rfl, hB8⟩
          have HB8 : Hid (Below W7.heap.size W7 W8) := HBD.out.then hB8
          clear hB8 p0 p1 p2 p3 q0 q1 q2 q3
          generalize Key.vord u v = x at HDK ⊢
          by_cases hx : x = 0
          · have HF : Hid (Ev.distN S (k + 1 + 1) = Ev.distN S (k + 1) ∧ Below W7.heap.size W7 W8) := ⟨by rw [HDK.out]; simp [hx], HB8.out⟩
            rw [decide_eq_true hx]
            clear hx
            go_wp2_with fail
            repeat' (first | (refine hZ _ _ ?_; clear hZ) | (refine hZ _ ?_; clear hZ) | (refine hZ ?_; clear hZ) | rw [again_nil] | rw [walk_fin] | ((first | rw [walk_take] | rw [walk_run] | rw [again_cons]); intro Z hZ; simp only [sel, List.getElem?_toArray, List.getElem?_cons_zero, List.getElem?_cons_succ]; go_wp2_with (fail)))
            go_wp2_with fail
            go_meet
            case rel => exact ⟨false, rfl, by rw [HF.out.1]; simp, HF.out.2⟩
          · have HF : Hid (Ev.distN S (k + 1 + 1) = Ev.distN S (k + 1) + 1 ∧ Below W7.heap.size W7 W8) := ⟨by rw [HDK.out]; simp [hx], HB8.out⟩
            rw [decide_eq_false hx]
            clear hx
            go_wp2_with fail
            repeat' (first | (refine hZ _ _ ?_; clear hZ) | (refine hZ _ ?_; clear hZ) | (refine hZ ?_; clear hZ) | rw [again_nil] | rw [walk_fin] | ((first | rw [walk_take] | rw [walk_run] | rw [again_cons]); intro Z hZ; simp only [sel, List.getElem?_toArray, List.getElem?_cons_zero, List.getElem?_cons_succ]; go_wp2_with (fail)))
            go_wp2_with fail
            go_meet
            case rel => exact ⟨true, rfl, by rw [HF.out.1]; simp, HF.out.2⟩
      case rest =>
        obtain ⟨b, rfl, HC⟩ := hcut
        have HJ8 : Hid (ColAt w wc g4 g5 (Ev.distN S i : Nat) (n - S.length) none 0 [] A6 c6 l) := HJ7.out.go HC.out.2
        have hb8 := hb7.below HC.out.2
        have hdi := Ev.distN_le S i
        clear hb7
        go_upto_if 33 with fail
        go_cut [] from 33 to 37 (fun wx => Hid (ColAt w wx g4 g5 (Ev.distN S (i + 1) : Nat) (n - S.length) none 0 [] A6 c6 l ∧ Blk wx g8 35 v.cells))
        case first =>
          cases b with
          | false =>
            have HF : Hid (ColAt w wc g4 g5 (Ev.distN S (i + 1) : Nat) (n - S.length) none 0 [] A6 c6 l ∧ Blk wc g8 35 v.cells) := ⟨by rw [HC.out.1]; exact HJ8.out, hb8⟩
            go_wp2_with fail
            go_meet
            case rel => exact HF.out
          | true =>
            have HDD : Hid (((Ev.distN S i : Nat) : Int) + 1 = ((Ev.distN S (i + 1) : Nat) : Int)) := by show _ = _; rw [HC.out.1]; simp
            obtain ⟨e0, -, -, f0, -⟩ := Blk.c3 HJ8.out.b5
            have hdi2 : ((Ev.distN S i : Nat) : Int) ≤ 1000 := by omega
            go_upto_region 8 with fail
            rw [HDD.out]
            have HF : Hid (ColAt w (wc.setCell ⟨g5, 0, none⟩ (.int .i64 (Ev.distN S (i + 1) : Nat))) g4 g5 (Ev.distN S (i + 1) : Nat) (n - S.length) none 0 [] A6 c6 l ∧ Blk (wc.setCell ⟨g5, 0, none⟩ (.int .i64 (Ev.distN S (i + 1) : Nat))) g8 35 v.cells) :=
              ⟨HJ8.out.setD h45 (by have := HG4.out; omega) _, hb8.other ⟨g5, 0, none⟩ (by show g8 ≠ g5; omega) _⟩
            clear e0 f0
            go_meet
            case rel => exact HF.out
        case rest =>
          obtain ⟨w9, rfl⟩ : ∃ w9, w9 = wc := ⟨_, rfl⟩
          have HJ9 : Hid (ColAt w w9 g4 g5 (Ev.distN S (i + 1) : Nat) (n - S.length) none 0 [] A6 c6 l) := hcut.out.1
          have hb9 : Blk w9 g8 35 v.cells := hcut.out.2
          clear hcut hb8
          obtain ⟨c0, c1, -⟩ := Blk.c4 hb9
          by_cases hk : v.k = 1
          · have HW2 : Hid (Ev.wholeN (S.take (i + 1)) = l ++ [v.n]) := by show _ = _; rw [HWT.out, if_pos hk]
            rw [hk] at c0
            clear hk hb9
            have hoA := HJ9.out.o6.alloc (.cells #[.int .i64 v.n] 2)
            have hrA := ERow.lit eI64 w9 v.n #[.int .i64 v.n] rfl w9.heap.size rfl
            have hll := HLL.out
            have hsz := HJ9.out.size
            go_wp2_with (at_builtin; refine wpList_append_elems eI64 rfl (.tmp 41) (.tmp 44) rfl l.length rfl hoA rfl 1 rfl hrA rfl (by simp; omega) (by simp; omega) ?_; intro A3 c3 w3 ho3 hb3 hg3 ha3)
            have HR : Hid (ColAt w w3 g4 g5 (Ev.distN S (i + 1) : Nat) (n - S.length) none 0 [] A3 c3 (l ++ [v.n])) := HJ9.out.app h45 (by have := HG4.out; omega) ((Below.refl w9.heap.size w9).alloc (Nat.le_refl _) _) ho3 hb3 hg3
            clear hoA hrA ho3 hb3 hg3 ha3 c0 c1
            go_roundw
            case rel => exact ⟨i + 1, A3, c3, by omega, by go_num, by rw [HW2.out, List.length_append]; rfl, by rw [HW2.out]; exact HR.out⟩
            case measure => simp [intOf]; omega
          · have HW2 : Hid (Ev.wholeN (S.take (i + 1)) = l) := by show _ = _; rw [HWT.out, if_neg hk, List.append_nil]
            have hkb : (v.k == 1) = false := by simpa using hk
            clear hk hb9
            go_wp2_with fail
            go_roundw
            case rel => exact ⟨i + 1, A6, c6, by omega, by go_num, by rw [HW2.out], by rw [HW2.out]; exact HJ9.out⟩
            case measure => simp [intOf]; omega
    · have hii : ¬ (i : Int) < (S.length : Int) := by omega
      obtain rfl : i = S.length := by omega
      rw [List.take_length] at HL6
      have HL6' : Hid (Ev.wholeN S = l) := HL6.out
      clear HL6 hi hlt hii
      obtain ⟨d, hd⟩ : ∃ d, Ev.distN S S.length = d := ⟨_, rfl⟩
      obtain ⟨n', hn'⟩ : ∃ n', n - (S.length : Int) = n' := ⟨_, rfl⟩
      rw [hd, hn'] at HJ
      rw [hn']
      have HD : Hid (Ev.distN S S.length = d ∧ n - (S.length : Int) = n') := ⟨hd, hn'⟩
      have HRW : Hid (ERow eI64 wo A6 l) := HJ.out.o6.row
      have HA6 : Hid (∀ a, A6 = some a → g5 + 1 ≤ a.block) := fun a ha => (HJ.out.o6.block a ha).1
      have HB4 := Lib.hid HJ.out.b4
      have HBW := Lib.hid HJ.out.below
      have HST : Hid (wo.grownBy wo (some g5) ∧ Blk wo g5 31 (Cs.cells ⟨(d : Nat), n', none, Ev.boundsN l 0, 0⟩) ∧ EOwn eI64 wo wo.heap.size none 0 (Ev.boundsN l 0)) := ⟨⟨rfl, rfl, rfl, Nat.le_refl _, fun _ _ _ => rfl⟩, HJ.out.b5, EOwn.nil _ _⟩
      have h5z : g5 < wo.heap.size := HJ.out.size
      have hll : l.length ≤ 1000 := by have := HLL.out; omega
      clear HJ hd hn' HS HOK HLL
      go_upto_region 12 with fail
      go_loopw [9] (fun kv wr => ∃ (k : Nat) (Ab : Option Addr) (cb : Nat), k ≤ 9 ∧ (l = [] → k = 0) ∧ kv = .int .i64 (k : Int) ∧ Hid (wo.grownBy wr (some g5) ∧ Blk wr g5 31 (Cs.cells ⟨(d : Nat), n', Ab, Ev.boundsN l k, cb⟩) ∧ EOwn eI64 wr wo.heap.size Ab cb (Ev.boundsN l k))) (fun kv _ => 9 - (intOf kv).toNat)
      case atStart => exact ⟨0, none, 0, by omega, fun _ => rfl, by go_num, HST.out⟩
      case round =>
        obtain ⟨k, Ab, cb, hk9, hk0, rfl, HK⟩ := hrel
        clear HST
        have hbl := Ev.boundsN_len l k
        by_cases hrun : k ≤ 8 ∧ l ≠ []
        · obtain ⟨hk8, hl0⟩ := hrun
          have hki : (k : Int) ≤ 8 := by omega
          have hlp : 0 < l.length := List.length_pos_iff.2 hl0
          have hlpi : (0 : Int) < (l.length : Int) := by omega
          have HRR : Hid (ERow eI64 wr A6 l) := HRW.out.keep HK.out.1.size fun a ha hlt => HK.out.1.block _ hlt (by have := HA6.out a ha; simp; omega)
          obtain ⟨j, hj⟩ : ∃ j, k * (l.length - 1) / 8 = j := ⟨_, rfl⟩
          have hjl : j < l.length := by
            rw [← hj, Nat.div_lt_iff_lt_mul (by omega)]
            calc k * (l.length - 1) ≤ 8 * (l.length - 1) := Nat.mul_le_mul_right _ hk8
              _ < l.length * 8 := by omega
          have hq : wrap64 ((wrap64 ((k : Int) * ((l.length : Int) - 1))).tdiv 8) = (j : Int) := by
            have hm : k * (l.length - 1) ≤ 8 * 1000 := Nat.mul_le_mul hk8 (by omega)
            rw [show ((k : Int) * ((l.length : Int) - 1)) = ((k * (l.length - 1) : Nat) : Int) by rw [Int.natCast_mul, Int.natCast_sub hlp]; rfl]
            generalize k * (l.length - 1) = m at hj hm
            have e1 : wrap64 (m : Int) = (m : Int) := by unfold wrap64; omega
            have e2 : (m : Int).tdiv 8 = ((m / 8 : Nat) : Int) := rfl
            rw [e1, e2, hj]
            unfold wrap64
            omega
          obtain ⟨wb, wo2, rfl, -, q0⟩ := i64_at HRR.out hjl
          have HBN : Hid (Ev.boundsN l (k + 1) = Ev.boundsN l k ++ [l[j]]) := by
            show _ = _
            rw [Ev.boundsN_snoc]
            congr 2
            unfold Ev.boundN
            rw [hj]
            simp [List.getD, hjl]
          have HK2 := Lib.hid HK.out.2
          have HK1 := Lib.hid HK.out.1
          obtain ⟨e0, e1, e2, -, -, f2, -⟩ := Blk.c3 HK2.out.1.drew
          simp only [Cs.cells] at e2
          have q0 : wr.drew.cell? _ = _ := q0
          have HQ := Lib.hid hq
          clear hj HK hl0 hk0 HRR
          rw [hbl] at e2
          generalize hlj : l[j] = x at q0 HBN
          clear hlj
          have hoA : EOwn eI64 (wr.drew.alloc (.cells #[.int .i64 x] 2)) wo.heap.size Ab cb (Ev.boundsN l k) := (HK2.out.2.below (Below.refl _ _).drewR).alloc _
          have hBA : Below wr.heap.size wr (wr.drew.alloc (.cells #[.int .i64 x] 2)) := (Below.refl wr.heap.size wr).drewR.then ((Below.refl _ _).alloc (Nat.le_refl _) _)
          have hrA := ERow.lit eI64 wr.drew x #[.int .i64 x] rfl wr.drew.heap.size rfl
          have h5r : g5 < wr.heap.size := Nat.lt_of_lt_of_le h5z HK1.out.size
          have e2A : (wr.alloc (.cells #[.int .i64 x] 2)).cell? ⟨g5, 2, none⟩ = some (.slice Ab k cb) := (hBA.cell (p := ⟨g5, 2, none⟩) h5r).trans e2
          have f2A : (wr.alloc (.cells #[.int .i64 x] 2)).frozen? ⟨g5, 2, none⟩ = false := (hBA.frozen (p := ⟨g5, 2, none⟩) h5r).trans f2
          have hzA : wo.heap.size ≤ (wr.drew.alloc (.cells #[.int .i64 x] 2)).heap.size := Nat.le_trans HK1.out.size hBA.size
          have HBA := Lib.hid hBA
          clear hBA
          go_upto_region 14 with fail
          refine wp_region_plan (.take 0 (.take 1 (.take 2 (.take 3 (.take 4 (.take 5 (.take 6 (.take 7 (.take 8 (.take 9 (.take 10 (.run 11 [0, 1] (.run 12 [] (.take 13 (.run 14 [] .fin))))))))))))))) (by kernel_rfl) (by kernel_rfl) (by kernel_rfl) (by kernel_rfl) ?_
          repeat' (first | (refine hZ _ _ ?_; clear hZ) | (refine hZ _ ?_; clear hZ) | (refine hZ ?_; clear hZ) | rw [again_nil] | rw [walk_fin] | ((first | rw [walk_take] | rw [walk_run] | rw [again_cons]); intro Z hZ; simp only [sel, List.getElem?_toArray, List.getElem?_cons_zero, List.getElem?_cons_succ]; go_wp2_with (at_builtin; refine wpList_append_elems eI64 rfl (.tmp 57) (.tmp 67) rfl k rfl hoA hbl.symm 1 rfl hrA rfl (by simp; omega) hzA ?_; intro A3 c3 w3 ho3 hb3 hg3 ha3; have e2b := (hb3.cell (p := ⟨g5, 2, none⟩) h5z).trans e2A; have f2b := (hb3.frozen (p := ⟨g5, 2, none⟩) h5z).trans f2A)))
          have HR : Hid (wo.grownBy (w3.setCell ⟨g5, 2, none⟩ (.slice A3 (k + 1) c3)) (some g5) ∧ Blk (w3.setCell ⟨g5, 2, none⟩ (.slice A3 (k + 1) c3)) g5 31 (Cs.cells ⟨(d : Nat), n', A3, Ev.boundsN l (k + 1), c3⟩) ∧ EOwn eI64 (w3.setCell ⟨g5, 2, none⟩ (.slice A3 (k + 1) c3)) wo.heap.size A3 c3 (Ev.boundsN l (k + 1))) := by
            have hb : Blk w3 g5 31 (Cs.cells ⟨(d : Nat), n', Ab, Ev.boundsN l k, cb⟩) := (hb3.block g5 h5z).trans (HK2.out.1.below HBA.out)
            refine ⟨⟨?_, ?_, ?_, ?_, fun b hb2 hne => ?_⟩, ?_, ?_⟩
            · exact (hb3.os.trans HBA.out.os).trans HK1.out.os
            · exact (hb3.tape.trans HBA.out.tape).trans HK1.out.tape
            · exact (hb3.output.trans HBA.out.output).trans HK1.out.output
            · exact Nat.le_trans HK1.out.size (Nat.le_trans HBA.out.size (Nat.le_trans hb3.size (grown_store w3 g5 2 _).size))
            · exact (heap_setCell_other w3 _ b _ (fun e => hne (by rw [e]))).trans ((hb3.block b hb2).trans ((HBA.out.block b (Nat.lt_of_lt_of_le hb2 HK1.out.size)).trans (HK1.out.block b hb2 hne)))
            · have := hb.set 2 (.slice A3 (k + 1) c3)
              show Blk _ _ _ [_, _, .slice A3 (Ev.boundsN l (k + 1)).length c3]
              rw [Ev.boundsN_len]
              exact this
            · rw [HBN.out]
              exact ho3.set ⟨g5, 2, none⟩ (fun a ha => by have := (ho3.block a ha).1; show a.block ≠ g5; omega) _
          clear hoA hrA ho3 hb3 hg3 ha3 e0 e1 e2 f2 e2A f2A e2b f2b q0
          go_wp2_with fail
          go_roundw
          case rel => exact ⟨k + 1, A3, c3, by omega, fun h => by (exfalso; rw [h] at hlp; simp at hlp), by go_num, HR.out⟩
          case measure => simp [intOf]; omega
        · have HBF : Hid (Ev.boundsN l k = Ev.boundsC l) := by
            show _ = _
            unfold Ev.boundsC
            by_cases hl0 : l = []
            · rw [if_pos hl0, hk0 hl0]; rfl
            · rw [if_neg hl0]
              have : k = 9 := by
                have : ¬ k ≤ 8 := fun h => hrun ⟨h, hl0⟩
                omega
              rw [this]
          have hb5 := HK.out.2.1
          have hb4 : Blk wr g4 31 Cs.nul.cells := HB4.out.grown HK.out.1 (by simp; omega)
          have HOB := Lib.hid HK.out.2.2
          have HGB := Lib.hid HK.out.1
          have HWZ : w.heap.size ≤ g4 := by have := HG4.out; omega
          have HBZ : Hid (Below w.heap.size w wr) := below_of_grown HBW.out HGB.out (by omega) HBW.out.size
          have hlpi : ¬ (k : Int) ≤ 8 ∨ ¬ (0 : Int) < (l.length : Int) := by
            by_cases hk8 : k ≤ 8
            · right
              have : l = [] := Classical.byContradiction fun h => hrun ⟨hk8, h⟩
              simp [this]
            · left; omega
          clear HK hrun hk0
          rcases hlpi with hk8 | hl0
          · go_wp2_with (first | (refine wpList_load_cs (b := ⟨(d : Nat), n', Ab, Ev.boundsN l k, cb⟩) rfl (.tmp 5) rfl g5 rfl hb5 ?_) | (refine wpList_store_cs rfl rfl (.tmp 4) (.tmp 70) rfl g4 rfl ⟨(d : Nat), n', Ab, Ev.boundsN l k, cb⟩ rfl hb4 ?_; intro W9 hb9 hg9))
            refine ret_cs hb9 rfl rfl rfl ?_
            have hz9 := hg9.size
            refine ⟨Ab, cb, ?_, ?_, below_of_grown HBZ.out hg9 HWZ HBZ.out.size⟩
            · rw [HD.out.1, HD.out.2, HL6'.out, HBF.out]
            · rw [HL6'.out, ← HBF.out]
              exact (HOB.out.mono (by have := HBW.out.size; omega)).kept hg9 (by
                cases hA : Ab with
                | none => exact .inl rfl
                | some a => exact .inr (fun e => by have := (HOB.out.block a hA).1; simp at e; omega))
          · by_cases hk8 : (k : Int) ≤ 8
            · go_wp2_with (first | (refine wpList_load_cs (b := ⟨(d : Nat), n', Ab, Ev.boundsN l k, cb⟩) rfl (.tmp 5) rfl g5 rfl hb5 ?_) | (refine wpList_store_cs rfl rfl (.tmp 4) (.tmp 70) rfl g4 rfl ⟨(d : Nat), n', Ab, Ev.boundsN l k, cb⟩ rfl hb4 ?_; intro W9 hb9 hg9))
              refine ret_cs hb9 rfl rfl rfl ?_
              have hz9 := hg9.size
              refine ⟨Ab, cb, ?_, ?_, below_of_grown HBZ.out hg9 HWZ HBZ.out.size⟩
              · rw [HD.out.1, HD.out.2, HL6'.out, HBF.out]
              · rw [HL6'.out, ← HBF.out]
                exact (HOB.out.mono (by have := HBW.out.size; omega)).kept hg9 (by
                  cases hA : Ab with
                  | none => exact .inl rfl
                  | some a => exact .inr (fun e => by have := (HOB.out.block a hA).1; simp at e; omega))
            · go_wp2_with (first | (refine wpList_load_cs (b := ⟨(d : Nat), n', Ab, Ev.boundsN l k, cb⟩) rfl (.tmp 5) rfl g5 rfl hb5 ?_) | (refine wpList_store_cs rfl rfl (.tmp 4) (.tmp 70) rfl g4 rfl ⟨(d : Nat), n', Ab, Ev.boundsN l k, cb⟩ rfl hb4 ?_; intro W9 hb9 hg9))
              refine ret_cs hb9 rfl rfl rfl ?_
              have hz9 := hg9.size
              refine ⟨Ab, cb, ?_, ?_, below_of_grown HBZ.out hg9 HWZ HBZ.out.size⟩
              · rw [HD.out.1, HD.out.2, HL6'.out, HBF.out]
              · rw [HL6'.out, ← HBF.out]
                exact (HOB.out.mono (by have := HBW.out.size; omega)).kept hg9 (by
                  cases hA : Ab with
                  | none => exact .inl rfl
                  | some a => exact .inr (fun e => by have := (HOB.out.block a hA).1; simp at e; omega))
end Go.Proofs.Ytjdffhonljhpcaa
end

