/-
  Texts of a proof, one behind the other (each with its own head).
-/
import Ieee.Arith
import GoSem.Op.String
import Derived.WalkKit
import Derived.Lib.Hide
import Derived.Deep.QuietTactic
import Derived.Deep.RegionWith
import Derived.Deep.AppendLies
import Derived.Deep.DeepCutAuto
import Derived.Maps.AppendAt
import Derived.BigQuiet
import Derived.WalkSpells
import Derived.WalkLawsBesides
import Derived.Lib.SlBytesConst
import Derived.Lib.AppendStr
import Derived.Test.YtpahkaffknnjhaaGreatDoorProg
import Derived.Lib.AppendZeros
import Derived.Laws.ResultCell
import Derived.Orders
import Derived.OneCell
import Derived.Deep.MidRow
import Derived.Deep.WholeRow
import Derived.ArgAppend
import Derived.OrdersHeld
import Derived.Laws.IdiomStrings
section
namespace Go.Proofs.YtpahkaffknnjhaaGreatDoor.Wire
set_option linter.unusedSimpArgs false
set_option linter.unusedVariables false
def numF : Nat → Nat → List UInt8
  | 0, _ => []
  | f + 1, n => if n < 128 then [UInt8.ofNat n] else UInt8.ofNat (n % 128 + 128) :: numF f (n / 128)
def num (n : Nat) : List UInt8 := numF 10 n
def tk : Nat → Nat → List UInt8 → Nat × Nat × Nat
  | _, _, [] => (10, 0, 0)
  | i, a, c :: r =>
    if i = 9 ∧ 1 < c.toNat then (7, 0, 0)
    else if 128 ≤ c.toNat then tk (i + 1) (a + c.toNat % 128 * 128 ^ i) r
    else if c.toNat = 0 ∧ 0 < i then (7, 0, 0)
    else (0, i + 1, a + c.toNat % 128 * 128 ^ i)
structure RS where
  l : List UInt8
  e : Int
def take (r : RS) : RS × Nat :=
  if r.e ≠ 0 then (r, 0)
  else if (tk 0 0 r.l).1 ≠ 0 then (⟨r.l, (tk 0 0 r.l).1⟩, 0)
  else (⟨r.l.drop (tk 0 0 r.l).2.1, 0⟩, (tk 0 0 r.l).2.2)
def count (r : RS) (most : Int) : RS × Nat :=
  if (take r).1.e ≠ 0 then ((take r).1, 0)
  else if most < 0 ∨ most < ((take r).2 : Int) then (⟨r.l, 11⟩, 0)
  else take r
def fin (r : RS) : RS := if r.e = 0 ∧ r.l ≠ [] then ⟨r.l, 12⟩ else r
def fail (r : RS) (e : Int) : RS := if r.e = 0 then ⟨r.l, e⟩ else r
def ofInt (n : Int) : Nat := if n < 0 then (-(n + 1)).toNat * 2 + 1 else n.toNat * 2
def text (s : List UInt8) : List UInt8 := num s.length ++ s
end Go.Proofs.YtpahkaffknnjhaaGreatDoor.Wire
end

section
namespace Go.Proofs.YtpahkaffknnjhaaGreatDoor.Crc
set_option linter.unusedSimpArgs false
set_option linter.unusedVariables false
def bit (s : Nat) : Nat := if s % 2 = 1 then (s / 2) ^^^ 3988292384 else s / 2
def bits : Nat → Nat → Nat
  | 0, s => s
  | k + 1, s => bit (bits k s)
def byte (s : Nat) (c : UInt8) : Nat := bits 8 (s ^^^ c.toNat)
def run (s : Nat) (l : List UInt8) : Nat := l.foldl byte s
def sum (l : List UInt8) : Nat := run 4294967295 l ^^^ 4294967295
def le4 (s : Nat) : List UInt8 := [UInt8.ofNat s, UInt8.ofNat (s / 256), UInt8.ofNat (s / 65536), UInt8.ofNat (s / 16777216)]
def sealed (l : List UInt8) : List UInt8 := l ++ le4 (sum l)
def bytesOf (N M : Nat) : List UInt8 := (List.range N).map fun j => UInt8.ofNat (M / 256 ^ j)
def turned (l : List UInt8) (k t i : Nat) : List UInt8 := List.zipWith (· ^^^ ·) (sealed l) (bytesOf (l.length + 4) (t % 2 ^ i * 2 ^ k))
end Go.Proofs.YtpahkaffknnjhaaGreatDoor.Crc
end

section
namespace Go.Proofs.YtpahkaffknnjhaaGreatDoor.Wal
set_option linter.unusedSimpArgs false
set_option linter.unusedVariables false
def hiR : Nat → Nat → List UInt8
  | 0, _ => []
  | k + 1, n => hiR k (n / 256) ++ [UInt8.ofNat n]
def hi8 (n : Nat) : List UInt8 := hiR 8 n
def lo (l : List UInt8) : Nat := l.foldl (fun a c => a * 256 + c.toNat) 0
theorem hiR_length (k n : Nat) : (hiR k n).length = k := by
  induction k generalizing n with
  | zero => rfl
  | succ k ih => simp [hiR, ih]
theorem hi8_length (n : Nat) : (hi8 n).length = 8 := hiR_length 8 n
theorem hiR_cons (k n : Nat) : hiR (k + 1) n = UInt8.ofNat (n / 256 ^ k) :: hiR k n := by
  induction k generalizing n with
  | zero => simp [hiR]
  | succ k ih =>
    show hiR (k + 1) (n / 256) ++ [UInt8.ofNat n] = _
    rw [ih (n / 256), List.cons_append, Nat.div_div_eq_div_mul, show 256 * 256 ^ k = 256 ^ (k + 1) from by rw [Nat.pow_succ, Nat.mul_comm]]
    rfl
theorem lo_snoc (l : List UInt8) (c : UInt8) : lo (l ++ [c]) = lo l * 256 + c.toNat := by simp [lo]
theorem lo_hiR (k n : Nat) : lo (hiR k n) = n % 256 ^ k := by
  induction k generalizing n with
  | zero => simp [hiR, lo, Nat.mod_one]
  | succ k ih =>
    show lo (hiR k (n / 256) ++ [UInt8.ofNat n]) = _
    rw [lo_snoc, ih, Nat.pow_succ, Nat.mul_comm (256 ^ k) 256, Nat.mod_mul]
    simp only [UInt8.toNat_ofNat']
    omega
theorem lo_hi8 (n : Nat) (h : n < 18446744073709551616) : lo (hi8 n) = n := by
  rw [hi8, lo_hiR, Nat.mod_eq_of_lt (Nat.lt_of_lt_of_le h (by decide))]
theorem snoc_ind {α : Type} {P : List α → Prop} (h0 : P []) (h1 : ∀ l c, P l → P (l ++ [c])) (l : List α) : P l := by
  have : ∀ m : List α, P m.reverse := by
    intro m
    induction m with
    | nil => exact h0
    | cons c m ih => rw [List.reverse_cons]; exact h1 _ _ ih
  have h := this l.reverse
  rwa [List.reverse_reverse] at h
theorem lo_lt (l : List UInt8) : lo l < 256 ^ l.length := by
  refine snoc_ind (P := fun l => lo l < 256 ^ l.length) (by simp [lo]) (fun l c ih => ?_) l
  have := c.toNat_lt
  rw [lo_snoc, List.length_append, List.length_singleton, Nat.pow_succ]
  omega
def magic : List UInt8 := [100, 111, 119, 115, 101, 114, 32, 108]
def half (a b : Nat) : List UInt8 := magic ++ hi8 a ++ hi8 b
def cut (l : List UInt8) (i n : Nat) : List UInt8 := (l.drop i).take n
def last62 : Nat := 4611686018427387904
def right (b : List UInt8) (room : Nat) : Nat × Nat :=
  if b.take 24 = half (lo (cut b 8 8)) (lo (cut b 16 8)) ∧ cut b 24 24 = half (lo (cut b 16 8)) (lo (cut b 8 8)) ∧ 1 ≤ lo (cut b 8 8) ∧ lo (cut b 8 8) ≤ last62 ∧ lo (cut b 16 8) ≤ room
  then (lo (cut b 8 8), lo (cut b 16 8)) else (0, 0)
def frame (s : List UInt8) : List UInt8 := Wire.num s.length ++ (Crc.le4 (Crc.sum s) ++ s)
end Go.Proofs.YtpahkaffknnjhaaGreatDoor.Wal
end

section
namespace Go.Proofs.YtpahkaffknnjhaaGreatDoor
set_option linter.unusedSimpArgs false
def ford (x y : Nat) : Option Ordering := Ieee.double.order x y
def fnan (x : Nat) : Prop := 9218868437227405312 < x % 9223372036854775808
instance (x : Nat) : Decidable (fnan x) := by unfold fnan; infer_instance
def fsg (x : Nat) : Int := if 9223372036854775808 ≤ x then -((x % 9223372036854775808 : Nat) : Int) else ((x % 9223372036854775808 : Nat) : Int)
namespace Fl
def val (B r : Nat) : Nat := if r < B then r else (B + r % B) * 2 ^ (r / B - 1)
theorem val_lt {B r : Nat} (hB : 0 < B) : val B r < B * 2 ^ (r / B) := by
  unfold val
  split
  · next h => rw [Nat.div_eq_of_lt h]; omega
  · next h =>
    have h1 : 1 ≤ r / B := (Nat.one_le_div_iff hB).2 (by omega)
    obtain ⟨q, hq⟩ : ∃ q, r / B = q + 1 := ⟨r / B - 1, by omega⟩
    rw [hq, Nat.add_sub_cancel, Nat.pow_succ, Nat.mul_comm (2 ^ q) 2, ← Nat.mul_assoc]
    exact Nat.mul_lt_mul_of_pos_right (by have := Nat.mod_lt r hB; omega) (Nat.two_pow_pos q)
theorem val_ge {B r : Nat} (h : B ≤ r) : B * 2 ^ (r / B - 1) ≤ val B r := by
  unfold val
  rw [if_neg (by omega)]
  exact Nat.mul_le_mul_right _ (by omega)
theorem val_mono {B r s : Nat} (hB : 0 < B) (h : r < s) : val B r < val B s := by
  have hq : r / B ≤ s / B := Nat.div_le_div_right (Nat.le_of_lt h)
  rcases Nat.lt_or_ge (r / B) (s / B) with h1 | h1
  · have hs : B ≤ s := by
      rcases Nat.lt_or_ge s B with h2 | h2
      · rw [Nat.div_eq_of_lt h2] at h1; exact absurd h1 (Nat.not_lt_zero _)
      · exact h2
    refine Nat.lt_of_lt_of_le (val_lt hB) (Nat.le_trans ?_ (val_ge hs))
    exact Nat.mul_le_mul_left _ (Nat.pow_le_pow_right (by omega) (by omega))
  · have he : r / B = s / B := by omega
    have e1 := Nat.div_add_mod r B
    have e2 := Nat.div_add_mod s B
    rw [he] at e1
    unfold val
    by_cases hr : r < B
    · have h0 : s / B = 0 := by rw [← he, Nat.div_eq_of_lt hr]
      have hs : s < B := by
        rcases Nat.lt_or_ge s B with h2 | h2
        · exact h2
        · have := (Nat.one_le_div_iff hB).2 h2; omega
      rw [if_pos hr, if_pos hs]; exact h
    · rw [if_neg hr, if_neg (by omega), he]
      exact Nat.mul_lt_mul_of_pos_right (by omega) (Nat.two_pow_pos _)
theorem compare_scale (a b : Int) (k : Nat) : compare (a * 2 ^ k) (b * 2 ^ k) = compare a b := by
  have hp : (0 : Int) < 2 ^ k := Int.pow_pos (by decide)
  rcases Int.lt_trichotomy a b with h | h | h
  · rw [Std.compare_eq_lt.2 h, Std.compare_eq_lt.2 (Int.mul_lt_mul_of_pos_right h hp)]
  · subst h; rw [Std.compare_self, Std.compare_self]
  · rw [Std.compare_eq_gt.2 h, Std.compare_eq_gt.2 (Int.mul_lt_mul_of_pos_right h hp)]
theorem signed_eq (s : Bool) (m k : Nat) : Ieee.signed s m k = (if s then -1 else 1) * ((m : Int) * 2 ^ k) := by
  unfold Ieee.signed
  rw [Nat.shiftLeft_eq]
  cases s <;> simp
theorem read_num {x : Nat} (hx : x < 18446744073709551616) (h : x % 9223372036854775808 < 9218868437227405312) :
    ∃ (m e : Nat), Ieee.double.read x = .number (decide (9223372036854775808 ≤ x)) m (-1074 + (e : Int)) ∧ m * 2 ^ e = val 4503599627370496 (x % 9223372036854775808) := by
  have hneg : (x / 9223372036854775808 % 2 == 1) = decide (9223372036854775808 ≤ x) := by
    rcases Nat.lt_or_ge x 9223372036854775808 with h1 | h1
    · rw [Nat.div_eq_of_lt h1]
      simp; omega
    · have : x / 9223372036854775808 = 1 := by omega
      rw [this]; simp; omega
  have e0 : Ieee.double.signWeight = 9223372036854775808 := by decide
  have e1 : Ieee.double.binade = 4503599627370496 := by decide
  have e2 : Ieee.double.infRung = 9218868437227405312 := by decide
  have e3 : Ieee.double.leastPlace = -1074 := by decide
  unfold Ieee.Format.read
  simp only [e0, e1, e2, e3, hneg]
  by_cases hb : x % 9223372036854775808 < 4503599627370496
  · exact ⟨x % 9223372036854775808, 0, by rw [if_pos hb]; simp, by unfold val; rw [if_pos hb]; simp⟩
  · refine ⟨_, x % 9223372036854775808 / 4503599627370496 - 1, by rw [if_neg hb, if_pos h], ?_⟩
    unfold val
    rw [if_neg hb]
theorem read_inf {x : Nat} (hx : x < 18446744073709551616) (h : x % 9223372036854775808 = 9218868437227405312) : Ieee.double.read x = .infinity (decide (9223372036854775808 ≤ x)) := by
  have hneg : (x / 9223372036854775808 % 2 == 1) = decide (9223372036854775808 ≤ x) := by
    rcases Nat.lt_or_ge x 9223372036854775808 with h1 | h1
    · rw [Nat.div_eq_of_lt h1]
      simp; omega
    · have : x / 9223372036854775808 = 1 := by omega
      rw [this]; simp; omega
  have e0 : Ieee.double.signWeight = 9223372036854775808 := by decide
  have e1 : Ieee.double.binade = 4503599627370496 := by decide
  have e2 : Ieee.double.infRung = 9218868437227405312 := by decide
  unfold Ieee.Format.read
  simp only [e0, e1, e2, hneg]
  rw [if_neg (by omega), if_neg (by omega), if_pos h]
theorem read_nan {x : Nat} (h : fnan x) : ∃ s t, Ieee.double.read x = .nan s t := by
  unfold fnan at h
  have e0 : Ieee.double.signWeight = 9223372036854775808 := by decide
  have e1 : Ieee.double.binade = 4503599627370496 := by decide
  have e2 : Ieee.double.infRung = 9218868437227405312 := by decide
  unfold Ieee.Format.read
  simp only [e0, e1, e2]
  rw [if_neg (by omega), if_neg (by omega), if_neg (by omega)]
  exact ⟨_, _, rfl⟩
theorem val_zero : val 4503599627370496 0 = 0 := by decide
theorem compare_val {r s : Nat} : compare ((val 4503599627370496 r : Nat) : Int) ((val 4503599627370496 s : Nat) : Int) = compare ((r : Nat) : Int) ((s : Nat) : Int) := by
  rcases Nat.lt_trichotomy r s with h | h | h
  · rw [Std.compare_eq_lt.2 (by have := val_mono (B := 4503599627370496) (by decide) h; omega), Std.compare_eq_lt.2 (by omega)]
  · subst h; rw [Std.compare_self, Std.compare_self]
  · rw [Std.compare_eq_gt.2 (by have := val_mono (B := 4503599627370496) (by decide) h; omega), Std.compare_eq_gt.2 (by omega)]
theorem val_pos {r : Nat} (h : 0 < r) : 0 < val 4503599627370496 r := by
  have := val_mono (B := 4503599627370496) (by decide) h
  rw [val_zero] at this; exact this
end Fl
theorem ford_nan {x y : Nat} (h : fnan x ∨ fnan y) : ford x y = none := by
  unfold ford Ieee.Format.order
  rcases h with h | h
  · obtain ⟨s, t, e⟩ := Fl.read_nan h
    rw [e]; rfl
  · obtain ⟨s, t, e⟩ := Fl.read_nan h
    rw [e]; cases Ieee.double.read x <;> rfl
theorem ford_some {x y : Nat} (hx : x < 18446744073709551616) (hy : y < 18446744073709551616) (nx : ¬ fnan x) (ny : ¬ fnan y) : ford x y = some (compare (fsg x) (fsg y)) := by
  unfold fnan at nx ny
  unfold ford Ieee.Format.order fsg
  rcases Nat.lt_or_ge (x % 9223372036854775808) 9218868437227405312 with h1 | h1 <;> rcases Nat.lt_or_ge (y % 9223372036854775808) 9218868437227405312 with h2 | h2
  · obtain ⟨m, e, r1, v1⟩ := Fl.read_num hx h1
    obtain ⟨n, d, r2, v2⟩ := Fl.read_num hy h2
    rw [r1, r2]
    have hm : min ((-1074 : Int) + (e : Int)) (-1074 + (d : Int)) = -1074 + ((min e d : Nat) : Int) := by omega
    simp only [Ieee.Datum.order, hm]
    have s1 : (-1074 + (e : Int) - (-1074 + ((min e d : Nat) : Int))).toNat = e - min e d := by omega
    have s2 : (-1074 + (d : Int) - (-1074 + ((min e d : Nat) : Int))).toNat = d - min e d := by omega
    rw [s1, s2, Fl.signed_eq, Fl.signed_eq, ← Fl.compare_scale _ _ (min e d)]
    have v1' : (m : Int) * 2 ^ (e - min e d) * 2 ^ (min e d) = ((Fl.val 4503599627370496 (x % 9223372036854775808) : Nat) : Int) := by
      rw [← v1, Int.mul_assoc, ← Int.pow_add, Nat.sub_add_cancel (Nat.min_le_left _ _)]; simp
    have v2' : (n : Int) * 2 ^ (d - min e d) * 2 ^ (min e d) = ((Fl.val 4503599627370496 (y % 9223372036854775808) : Nat) : Int) := by
      rw [← v2, Int.mul_assoc, ← Int.pow_add, Nat.sub_add_cancel (Nat.min_le_right _ _)]; simp
    rw [Int.mul_assoc, v1', Int.mul_assoc, v2']
    congr 1
    generalize x % 9223372036854775808 = r at *
    generalize y % 9223372036854775808 = s at *
    have hrs := Fl.compare_val (r := r) (s := s)
    have hsr := Fl.compare_val (r := s) (s := r)
    have p1 : 0 < r → 0 < Fl.val 4503599627370496 r := Fl.val_pos
    have p2 : 0 < s → 0 < Fl.val 4503599627370496 s := Fl.val_pos
    have z1 : r = 0 → Fl.val 4503599627370496 r = 0 := fun h => by rw [h, Fl.val_zero]
    have z2 : s = 0 → Fl.val 4503599627370496 s = 0 := fun h => by rw [h, Fl.val_zero]
    generalize Fl.val 4503599627370496 r = a at *
    generalize Fl.val 4503599627370496 s = b at *
    have hab : (a < b ↔ r < s) ∧ (b < a ↔ s < r) := by
      constructor
      · rw [show (a < b) ↔ compare (a : Int) (b : Int) = .lt from by rw [Std.compare_eq_lt]; omega, hrs, Std.compare_eq_lt]; omega
      · rw [show (b < a) ↔ compare (b : Int) (a : Int) = .lt from by rw [Std.compare_eq_lt]; omega, hsr, Std.compare_eq_lt]; omega
    clear hrs hsr v1 v2 v1' v2' r1 r2
    have key : ∀ u v p q : Int, (u < v ↔ p < q) → (v < u ↔ q < p) → compare u v = compare p q := by
      intro u v p q h1 h2
      rcases Int.lt_trichotomy p q with h | h | h
      · rw [Std.compare_eq_lt.2 h, Std.compare_eq_lt.2 (h1.2 h)]
      · have : u = v := by omega
        subst h; subst this; rw [Std.compare_self, Std.compare_self]
      · rw [Std.compare_eq_gt.2 h, Std.compare_eq_gt.2 (h2.2 h)]
    by_cases c1 : 9223372036854775808 ≤ x <;> by_cases c2 : 9223372036854775808 ≤ y <;> simp only [c1, c2, decide_true, decide_false, if_true, if_false, Bool.false_eq_true, ↓reduceIte] <;> refine key _ _ _ _ ?_ ?_ <;> omega
  · obtain ⟨m, e, r1, v1⟩ := Fl.read_num hx h1
    rw [r1, Fl.read_inf hy (by omega)]
    simp only [Ieee.Datum.order]
    by_cases c2 : 9223372036854775808 ≤ y
    · simp only [c2, decide_true, if_true]
      rw [Std.compare_eq_gt.2 (by split <;> omega)]
    · simp only [c2, decide_false, Bool.false_eq_true, if_false]
      rw [Std.compare_eq_lt.2 (by split <;> omega)]
  · obtain ⟨m, e, r1, v1⟩ := Fl.read_num hy h2
    rw [r1, Fl.read_inf hx (by omega)]
    simp only [Ieee.Datum.order]
    by_cases c2 : 9223372036854775808 ≤ x
    · simp only [c2, decide_true, if_true]
      rw [Std.compare_eq_lt.2 (by split <;> omega)]
    · simp only [c2, decide_false, Bool.false_eq_true, if_false]
      rw [Std.compare_eq_gt.2 (by split <;> omega)]
  · rw [Fl.read_inf hx (by omega), Fl.read_inf hy (by omega)]
    simp only [Ieee.Datum.order]
    have ex : x % 9223372036854775808 = 9218868437227405312 := by omega
    have ey : y % 9223372036854775808 = 9218868437227405312 := by omega
    rw [ex, ey]
    by_cases c1 : 9223372036854775808 ≤ x <;> by_cases c2 : 9223372036854775808 ≤ y <;> simp only [c1, c2, decide_true, decide_false, if_true, if_false, Bool.false_eq_true] <;> decide
theorem ford_self {x : Nat} (hx : x < 18446744073709551616) : (ford x x != some .eq) = decide (fnan x) := by
  by_cases h : fnan x
  · rw [ford_nan (.inl h)]; simp [h]
  · rw [ford_some hx hx h h, Std.compare_self]; simp [h]
theorem ford_zero {x : Nat} (hx : x < 18446744073709551616) : (ford x 0 == some .eq) = decide (x % 9223372036854775808 = 0) := by
  have h0 : ¬ fnan 0 := by decide
  by_cases h : fnan x
  · rw [ford_nan (.inl h)]
    unfold fnan at h
    simp; omega
  · rw [ford_some hx (by decide) h h0]
    have : fsg 0 = 0 := by decide
    rw [this]
    by_cases hz : x % 9223372036854775808 = 0
    · have : fsg x = 0 := by unfold fsg; rw [hz]; split <;> rfl
      rw [this, hz]; decide
    · have : fsg x ≠ 0 := by unfold fsg; split <;> omega
      have hc : compare (fsg x) 0 ≠ .eq := fun hc => this (Std.compare_eq_iff_eq.1 hc)
      simp [hz, hc]
end Go.Proofs.YtpahkaffknnjhaaGreatDoor
end

section
namespace Go.Proofs.YtpahkaffknnjhaaGreatDoor
set_option linter.unusedSimpArgs false
set_option linter.unusedVariables false
structure Va where
  k : Int
  n : Int
  f : Nat
  s : List UInt8
structure Va.ok (v : Va) : Prop where
  k1 : -9223372036854775808 ≤ v.k
  k2 : v.k ≤ 9223372036854775807
  n1 : -9223372036854775808 ≤ v.n
  n2 : v.n ≤ 9223372036854775807
  f1 : v.f < 18446744073709551616
namespace Key
open Go.Op
def nul : Va := ⟨0, 0, 0, []⟩
instance : Inhabited Va := ⟨nul⟩
def real1 (f : Nat) : Nat := if fnan f then 9221120237041090561 else if f % 9223372036854775808 = 0 then 0 else f
def real0 (f : Nat) : Nat := if f % 9223372036854775808 = 0 then 0 else f
def cleanF (g : Nat → Nat) (v : Va) : Va :=
  if v.k = 1 then ⟨1, v.n, 0, []⟩ else if v.k = 2 then ⟨2, 0, g v.f, []⟩ else if v.k = 3 then ⟨3, 0, 0, v.s⟩ else if v.k = 4 then ⟨4, if v.n = 0 then 0 else 1, 0, []⟩ else nul
def clean (v : Va) : Va := cleanF real1 v
def dclean (v : Va) : Va := cleanF real0 v
def kbits (f : Nat) : Nat := if 9223372036854775808 ≤ f then 18446744073709551615 - f else f + 9223372036854775808
def pbits (f : Nat) : Nat := if fnan f then 18446744073709551615 else kbits f
def idn (n : Int) : Nat := (n + 9223372036854775808).toNat
def id (n : Int) : List UInt8 := Wal.hi8 (idn n)
def esc (s : List UInt8) : List UInt8 := s.flatMap fun c => if c = 0 then [0, 255] else [c]
def part (v : Va) : List UInt8 :=
  if v.k = 1 then 1 :: id v.n else if v.k = 2 then 1 :: Wal.hi8 (pbits v.f) else if v.k = 3 then 1 :: (esc v.s ++ [0, 0]) else if v.k = 4 then [1, UInt8.ofNat v.n.toNat] else [0]
def key (L : List Va) : List UInt8 := L.flatMap fun v => part (clean v)
theorem real0_nan {f : Nat} : fnan (real0 f) ↔ fnan f := by
  unfold real0
  split
  · next h => unfold fnan; rw [h]
  · exact Iff.rfl
theorem real1_nan {f : Nat} : fnan (real1 f) ↔ fnan f := by
  unfold real1
  split
  · next h => exact ⟨fun _ => h, fun _ => by decide⟩
  · next h =>
    split
    · exact ⟨fun h => absurd h (by decide), fun h' => absurd h' h⟩
    · exact Iff.rfl
theorem pbits_real (f : Nat) : pbits (real1 f) = pbits (real0 f) := by
  unfold pbits
  by_cases h : fnan f
  · rw [if_pos (real1_nan.2 h), if_pos (real0_nan.2 h)]
  · rw [if_neg (fun h' => h (real1_nan.1 h')), if_neg (fun h' => h (real0_nan.1 h'))]
    unfold real1 real0
    rw [if_neg h]
theorem part_clean (v : Va) : part (clean v) = part (dclean v) := by
  unfold clean dclean cleanF
  split
  · rfl
  · split
    · unfold part
      simp only [pbits_real]
    · rfl
theorem less_irrefl : ∀ l : List UInt8, bytesLess l l = false
  | [] => rfl
  | a :: l => by simp [bytesLess, less_irrefl l]
theorem less_total : ∀ a b : List UInt8, bytesLess a b = false → bytesLess b a = false → a = b
  | [], [], _, _ => rfl
  | [], b :: y, h, _ => by simp [bytesLess] at h
  | a :: x, [], _, h => by simp [bytesLess] at h
  | a :: x, b :: y, h1, h2 => by
    simp only [bytesLess, Bool.or_eq_false_iff, Bool.and_eq_false_iff, decide_eq_false_iff_not, beq_eq_false_iff_ne] at h1 h2
    have hab : a = b := by
      have u1 := h1.1
      have u2 := h2.1
      rw [UInt8.lt_iff_toNat_lt] at u1 u2
      exact UInt8.toNat_inj.1 (by omega)
    subst hab
    rw [less_total x y (h1.2.resolve_left (fun h => h rfl)) (h2.2.resolve_left (fun h => h rfl))]
theorem idn_lt {n : Int} (h1 : -9223372036854775808 ≤ n) (h2 : n ≤ 9223372036854775807) : idn n < 18446744073709551616 := by unfold idn; omega
theorem id_length (n : Int) : (id n).length = 8 := Wal.hi8_length _
theorem lo_id {n : Int} (h1 : -9223372036854775808 ≤ n) (h2 : n ≤ 9223372036854775807) : Wal.lo (id n) = idn n := Wal.lo_hi8 _ (idn_lt h1 h2)
theorem esc_nil : esc [] = [] := rfl
theorem esc_cons (c : UInt8) (s : List UInt8) : esc (c :: s) = (if c = 0 then [0, 255] else [c]) ++ esc s := by simp [esc]
theorem esc_append (s t : List UInt8) : esc (s ++ t) = esc s ++ esc t := by simp [esc]
theorem esc_length (s : List UInt8) : (esc s).length ≤ 2 * s.length := by
  induction s with
  | nil => simp [esc_nil]
  | cons c s ih => rw [esc_cons, List.length_append, List.length_cons]; split <;> simp <;> omega
def vless (a b : Va) : Prop :=
  a.k < b.k ∨ a.k = b.k ∧ (if a.k = 2 then (¬ fnan a.f ∧ fnan b.f) ∨ (¬ fnan a.f ∧ ¬ fnan b.f ∧ fsg a.f < fsg b.f) else if a.k = 3 then bytesLess a.s b.s = true else a.n < b.n)
instance (a b : Va) : Decidable (vless a b) := by unfold vless; infer_instance
def vord (a b : Va) : Int := if vless a b then -1 else if vless b a then 1 else 0
structure Clean (v : Va) : Prop where
  kind : v.k = 0 ∨ v.k = 1 ∨ v.k = 2 ∨ v.k = 3 ∨ v.k = 4
  nn : v.k ≠ 1 → v.k ≠ 4 → v.n = 0
  ff : v.k ≠ 2 → v.f = 0
  ss : v.k ≠ 3 → v.s = []
  bb : v.k = 4 → v.n = 0 ∨ v.n = 1
  zz : v.f % 9223372036854775808 = 0 → v.f = 0
theorem clean_of (v : Va) : Clean (dclean v) := by
  unfold dclean cleanF
  by_cases h1 : v.k = 1
  · rw [if_pos h1]; constructor <;> simp
  rw [if_neg h1]
  by_cases h2 : v.k = 2
  · rw [if_pos h2]; constructor <;> simp
    unfold real0; split <;> omega
  rw [if_neg h2]
  by_cases h3 : v.k = 3
  · rw [if_pos h3]; constructor <;> simp
  rw [if_neg h3]
  by_cases h4 : v.k = 4
  · rw [if_pos h4]; constructor <;> simp
    exact Decidable.em _
  rw [if_neg h4]; constructor <;> simp [nul]
theorem real0_lt {f : Nat} (h : f < 18446744073709551616) : real0 f < 18446744073709551616 := by unfold real0; split <;> omega
theorem real1_lt {f : Nat} (h : f < 18446744073709551616) : real1 f < 18446744073709551616 := by unfold real1; (repeat' split) <;> omega
theorem cleanF_ok {g : Nat → Nat} (hg : ∀ f, f < 18446744073709551616 → g f < 18446744073709551616) {v : Va} (h : v.ok) : (cleanF g v).ok := by
  obtain ⟨k1, k2, n1, n2, f1⟩ := h
  unfold cleanF
  have := hg _ f1
  (repeat' split) <;> constructor <;> simp only [nul] <;> first | omega | assumption
theorem dclean_ok {v : Va} (h : v.ok) : (dclean v).ok := cleanF_ok (fun _ => real0_lt) h
theorem clean_ok {v : Va} (h : v.ok) : (clean v).ok := cleanF_ok (fun _ => real1_lt) h
theorem kbits_max {f : Nat} (hf : f < 18446744073709551616) (h : ¬ fnan f) : kbits f < 18446744073709551615 := by
  unfold kbits fnan at *
  split <;> omega
theorem pbits_top {f : Nat} (hf : f < 18446744073709551616) : pbits f < 18446744073709551616 := by
  unfold pbits
  split
  · decide
  · next h => have := kbits_max hf h; omega
theorem part_int {v : Va} (h : v.k = 1) : part v = 1 :: id v.n := by unfold part; rw [if_pos h]
theorem part_real {v : Va} (h : v.k = 2) : part v = 1 :: Wal.hi8 (pbits v.f) := by unfold part; rw [if_neg (by omega), if_pos h]
theorem part_text {v : Va} (h : v.k = 3) : part v = 1 :: (esc v.s ++ [0, 0]) := by unfold part; rw [if_neg (by omega), if_neg (by omega), if_pos h]
theorem part_bool {v : Va} (h : v.k = 4) : part v = [1, UInt8.ofNat v.n.toNat] := by unfold part; rw [if_neg (by omega), if_neg (by omega), if_neg (by omega), if_pos h]
theorem part_null {v : Va} (h : v.k = 0) : part v = [0] := by simp [part, h]
def IsAfter (l : List UInt8) (r : Option (List UInt8)) : Prop :=
  (r = none ∧ ∀ c ∈ l, c = 255) ∨ ∃ p c t, l = p ++ c :: t ∧ c < 255 ∧ (∀ d ∈ t, d = 255) ∧ r = some (p ++ [c + 1])
end Key
end Go.Proofs.YtpahkaffknnjhaaGreatDoor
end

section
namespace Go.Proofs.YtpahkaffknnjhaaGreatDoor
set_option linter.unusedSimpArgs false
set_option linter.unusedVariables false
namespace Ev
open Key
def boolV (b : Bool) : Va := ⟨4, if b then 1 else 0, 0, []⟩
def tru (v : Va) : Int := if v.k ≠ 4 then -1 else if v.n ≠ 0 then 1 else 0
def ofT (t : Int) : Va := if t < 0 then nul else boolV (t == 1)
def andV (a b : Va) : Va := if tru a = 0 ∨ tru b = 0 then ofT 0 else if tru a < 0 ∨ tru b < 0 then ofT (-1) else ofT 1
def notV (a : Va) : Va := if 0 ≤ tru a then ofT (1 - tru a) else ofT (-1)
def orV (a b : Va) : Va := notV (andV (notV a) (notV b))
def sign (op : List UInt8) (c : Int) : Option Bool :=
  if op = [61] then some (c == 0) else if op = [60, 62] then some (c != 0) else if op = [60] then some (decide (c < 0)) else
  if op = [60, 61] then some (decide (c ≤ 0)) else if op = [62] then some (decide (0 < c)) else if op = [62, 61] then some (decide (0 ≤ c)) else none
def optB : Option Bool → Va
  | some x => boolV x
  | none => nul
def cmpV (op : List UInt8) (a b : Va) : Va :=
  if (clean a).k = 0 ∨ (clean a).k ≠ (clean b).k then nul else optB (sign op (vord (clean a) (clean b)))
def fit (x : Int) : Option Int := if -9223372036854775808 ≤ x ∧ x ≤ 9223372036854775807 then some x else none
def whole (op : List UInt8) (m n : Int) : Option Int :=
  if op = [43] then fit (m + n) else if op = [45] then fit (m - n) else if op = [42] then fit (m * n) else none
def fnum (r : Option Nat) : Nat := match r with | some x => x | none => 9221120237041090561
def fop (op : List UInt8) (x y : Nat) : Option Nat :=
  if op = [43] then some (fnum (Ieee.double.add x y)) else if op = [45] then some (fnum (Ieee.double.sub x y)) else if op = [42] then some (fnum (Ieee.double.mul x y)) else none
def intV (r : Option Int) : Va := match r with | some x => ⟨1, x, 0, []⟩ | none => nul
def realV (r : Option Nat) : Va := match r with | some x => ⟨2, 0, real1 x, []⟩ | none => nul
def arithV (op : List UInt8) (a b : Va) : Va :=
  if (clean a).k = 1 ∧ (clean b).k = 1 then intV (whole op (clean a).n (clean b).n) else
  if (clean a).k = 2 ∧ (clean b).k = 2 then realV (fop op (clean a).f (clean b).f) else nul
def fneg (x : Nat) : Nat := if 9223372036854775808 ≤ x then x - 9223372036854775808 else x + 9223372036854775808
def negV (a : Va) : Va :=
  if (clean a).k = 2 then ⟨2, 0, real1 (fneg (clean a).f), []⟩ else if (clean a).k = 1 then intV (fit (0 - (clean a).n)) else nul
theorem real1_idem (f : Nat) : real1 (real1 f) = real1 f := by
  unfold real1
  split
  · rfl
  · next h =>
    split
    · rfl
    · rfl
theorem real1_0 (f : Nat) : real1 (real0 f) = real1 f := by
  unfold real1
  by_cases h : fnan f
  · rw [if_pos h, if_pos (real0_nan.2 h)]
  · rw [if_neg h, if_neg (fun h' => h (real0_nan.1 h'))]
    unfold real0
    by_cases h2 : f % 9223372036854775808 = 0
    · simp [h2]
    · simp [h2]
theorem clean_clean (v : Va) : clean (clean v) = clean v := by
  unfold clean cleanF
  split
  · rfl
  · split
    · show (⟨2, 0, real1 (real1 v.f), []⟩ : Va) = _; rw [real1_idem]
    · split
      · rfl
      · split
        · by_cases hn : v.n = 0 <;> simp [hn]
        · rfl
theorem clean_dclean (v : Va) : clean (dclean v) = clean v := by
  unfold clean dclean cleanF
  by_cases k1 : v.k = 1
  · simp [k1]
  by_cases k2 : v.k = 2
  · simp only [k2, show ¬ (2 : Int) = 1 by decide, if_false, if_true]; rw [real1_0]
  by_cases k3 : v.k = 3
  · simp [k3]
  by_cases k4 : v.k = 4
  · simp only [k4, show ¬ (4 : Int) = 1 by decide, show ¬ (4 : Int) = 2 by decide, show ¬ (4 : Int) = 3 by decide, if_false, if_true]
    by_cases hn : v.n = 0 <;> simp [hn]
  · simp [k1, k2, k3, k4, nul]
theorem clean_nul : clean nul = nul := rfl
theorem clean_bool (b : Bool) : clean (boolV b) = boolV b := by cases b <;> rfl
theorem clean_ofT (t : Int) : clean (ofT t) = ofT t := by
  unfold ofT
  split
  · rfl
  · exact clean_bool _
theorem clean_and (a b : Va) : clean (andV a b) = andV a b := by unfold andV; (repeat' split) <;> exact clean_ofT _
theorem clean_not (a : Va) : clean (notV a) = notV a := by unfold notV; split <;> exact clean_ofT _
theorem clean_or (a b : Va) : clean (orV a b) = orV a b := clean_not _
theorem clean_cmp (op : List UInt8) (a b : Va) : clean (cmpV op a b) = cmpV op a b := by
  unfold cmpV
  split
  · rfl
  · cases sign op (vord (clean a) (clean b)) with
    | none => rfl
    | some x => exact clean_bool _
theorem clean_intV (r : Option Int) : clean (intV r) = intV r := by cases r <;> rfl
theorem clean_realV (r : Option Nat) : clean (realV r) = realV r := by
  cases r with
  | none => rfl
  | some x => show (⟨2, 0, real1 (real1 x), []⟩ : Va) = _; rw [real1_idem]; rfl
theorem clean_arith (op : List UInt8) (a b : Va) : clean (arithV op a b) = arithV op a b := by
  unfold arithV
  split
  · exact clean_intV _
  · split
    · exact clean_realV _
    · rfl
theorem clean_neg (a : Va) : clean (negV a) = negV a := by
  unfold negV
  split
  · show (⟨2, 0, real1 (real1 _), []⟩ : Va) = _; rw [real1_idem]
  · split
    · exact clean_intV _
    · rfl
theorem tru_clean (v : Va) : tru (clean v) = tru v := by
  unfold tru
  by_cases k4 : v.k = 4
  · have h : clean v = ⟨4, if v.n = 0 then 0 else 1, 0, []⟩ := by unfold clean cleanF; simp [k4]
    rw [h]
    by_cases hn : v.n = 0 <;> simp [hn, k4]
  · have h : (clean v).k ≠ 4 := by
      unfold clean cleanF
      by_cases k1 : v.k = 1
      · simp [k1]
      by_cases k2 : v.k = 2
      · simp [k2]
      by_cases k3 : v.k = 3
      · simp [k3]
      · rw [if_neg k1, if_neg k2, if_neg k3, if_neg k4]; decide
    rw [if_pos h, if_pos k4]
theorem tru_of {a a' : Va} (h : clean a = clean a') : tru a = tru a' := by rw [← tru_clean a, h, tru_clean]
theorem and_of {a a' b b' : Va} (h : clean a = clean a') (k : clean b = clean b') : andV a b = andV a' b' := by unfold andV; rw [tru_of h, tru_of k]
theorem not_of {a a' : Va} (h : clean a = clean a') : notV a = notV a' := by unfold notV; rw [tru_of h]
theorem or_of {a a' b b' : Va} (h : clean a = clean a') (k : clean b = clean b') : orV a b = orV a' b' := by unfold orV; rw [not_of h, not_of k]
theorem cmp_of {op : List UInt8} {a a' b b' : Va} (h : clean a = clean a') (k : clean b = clean b') : cmpV op a b = cmpV op a' b' := by unfold cmpV; rw [h, k]
theorem arith_of {op : List UInt8} {a a' b b' : Va} (h : clean a = clean a') (k : clean b = clean b') : arithV op a b = arithV op a' b' := by unfold arithV; rw [h, k]
theorem neg_of {a a' : Va} (h : clean a = clean a') : negV a = negV a' := by unfold negV; rw [h]
theorem clean_dk (v : Va) : (clean v).k = (dclean v).k := by unfold clean dclean cleanF; (repeat' split) <;> rfl
theorem vless_clean (a b : Va) : vless (clean a) (clean b) ↔ vless (dclean a) (dclean b) := by
  have key : ∀ v : Va, (clean v).n = (dclean v).n ∧ (clean v).s = (dclean v).s ∧ (fnan (clean v).f ↔ fnan (dclean v).f) ∧ (¬ fnan (dclean v).f → (clean v).f = (dclean v).f) := by
    intro v
    by_cases k2 : v.k = 2
    · have h1 : clean v = ⟨2, 0, real1 v.f, []⟩ := by unfold clean cleanF; simp [k2]
      have h2 : dclean v = ⟨2, 0, real0 v.f, []⟩ := by unfold dclean cleanF; simp [k2]
      rw [h1, h2]
      refine ⟨rfl, rfl, ?_, ?_⟩
      · show fnan (real1 v.f) ↔ fnan (real0 v.f); rw [real1_nan, real0_nan]
      · show ¬ fnan (real0 v.f) → real1 v.f = real0 v.f
        intro h
        have h' : ¬ fnan v.f := fun h3 => h (real0_nan.2 h3)
        unfold real1 real0
        rw [if_neg h']
    · have : clean v = dclean v := by unfold clean dclean cleanF; simp [k2]
      rw [this]
      exact ⟨rfl, rfl, Iff.rfl, fun _ => rfl⟩
  obtain ⟨n1, s1, f1, g1⟩ := key a
  obtain ⟨n2, s2, f2, g2⟩ := key b
  unfold vless
  rw [clean_dk a, clean_dk b, n1, n2, s1, s2, f1, f2]
  have hg : ¬ fnan (dclean a).f → ¬ fnan (dclean b).f → fsg (clean a).f = fsg (dclean a).f ∧ fsg (clean b).f = fsg (dclean b).f := fun h1 h2 => ⟨by rw [g1 h1], by rw [g2 h2]⟩
  by_cases na : fnan (dclean a).f
  · simp [na]
  · by_cases nb : fnan (dclean b).f
    · simp [na, nb]
    · obtain ⟨e1, e2⟩ := hg na nb
      rw [e1, e2]
theorem vord_clean (a b : Va) : vord (clean a) (clean b) = vord (dclean a) (dclean b) := by
  unfold vord
  simp only [vless_clean]
end Ev
end Go.Proofs.YtpahkaffknnjhaaGreatDoor
end

section
namespace Go.Proofs.YtpahkaffknnjhaaGreatDoor
set_option linter.unusedSimpArgs false
set_option linter.unusedVariables false
open Go.RowKit
def two64 : Nat := 18446744073709551616
theorem two64_eq : two64 = 18446744073709551616 := rfl
def Row (w : World) (A : Option Addr) (xs : List Value) : Prop :=
  0 < xs.length → ∃ b o, A = some ⟨b, o, none⟩ ∧ b < w.heap.size ∧ ∀ j (h : j < xs.length), w.cell? ⟨b, o + j, none⟩ = some xs[j]
def bv (c : UInt8) : Value := .int .u8 (c.toNat : Int)
def BRow (w : World) (A : Option Addr) (l : List UInt8) : Prop := Row w A (l.map bv)
def BOwn (w : World) (B : Nat) (A : Option Addr) (c : Nat) (l : List UInt8) : Prop := w.ownsRow B 5 1 (.slice A l.length c) l.length (l.map bv)
def txt (l : List UInt8) : Value := .string ⟨l.toArray⟩
section
variable {w w' : World} {A : Option Addr} {xs : List Value} {l : List UInt8}
theorem Row.nil : Row w A [] := fun h => absurd h (by simp)
theorem Row.at_ {k : Nat} (h : Row w A xs) (hk : k < xs.length) : ∃ b o, A = some ⟨b, o, none⟩ ∧ b < w.heap.size ∧ w.cell? ⟨b, o + k, none⟩ = some xs[k] := by
  obtain ⟨b, o, e, hb, hc⟩ := h (by omega)
  exact ⟨b, o, e, hb, hc k hk⟩
theorem BRow.nil : BRow w A [] := Row.nil
theorem BRow.at_ {k : Nat} (h : BRow w A l) (hk : k < l.length) : ∃ b o, A = some ⟨b, o, none⟩ ∧ b < w.heap.size ∧ w.cell? ⟨b, o + k, none⟩ = some (.int .u8 (l[k].toNat : Int)) := by
  obtain ⟨b, o, e, hb, hc⟩ := Row.at_ (k := k) h (by simpa using hk)
  exact ⟨b, o, e, hb, by simpa [bv] using hc⟩
theorem Row.below (h : Row w A xs) (hb : Below w.heap.size w w') : Row w' A xs := fun hl => by
  obtain ⟨b, o, e, hlt, hc⟩ := h hl
  exact ⟨b, o, e, Nat.lt_of_lt_of_le hlt hb.size, fun j hj => (hb.cell (p := ⟨b, o + j, none⟩) hlt).trans (hc j hj)⟩
theorem BRow.below (h : BRow w A l) (hb : Below w.heap.size w w') : BRow w' A l := Row.below h hb
theorem Row.drew (h : Row w A xs) : Row w.drew A xs := h
theorem BRow.drew (h : BRow w A l) : BRow w.drew A l := h
theorem Row.alloc (h : Row w A xs) (o : Obj) : Row (w.alloc o) A xs := h.below ((Below.refl _ _).alloc (Nat.le_refl _) o)
theorem BRow.alloc (h : BRow w A l) (o : Obj) : BRow (w.alloc o) A l := Row.alloc h o
theorem Row.new (w : World) (xs : List Value) (t : TypeId) : Row (w.alloc (.cells xs.toArray t)) (some ⟨w.heap.size, 0, none⟩) xs := fun _ =>
  ⟨w.heap.size, 0, rfl, by simp, fun j hj => by simp [hj]⟩
theorem BRow.one (w : World) (c : UInt8) (v : Value) (t : TypeId) (h : bv c = v) : BRow (w.alloc (.cells #[v] t)) (some ⟨w.heap.size, 0, none⟩) [c] := by
  subst h
  exact Row.new w [bv c] t
theorem Row.take (h : Row w A xs) (k : Nat) : Row w A (xs.take k) := fun hl => by
  have hk : 0 < xs.length := by rw [List.length_take] at hl; omega
  obtain ⟨b, o, e, hb, hc⟩ := h hk
  exact ⟨b, o, e, hb, fun j hj => by rw [hc j (by rw [List.length_take] at hj; omega)]; simp⟩
theorem BRow.take (h : BRow w A l) (k : Nat) : BRow w A (l.take k) := by
  have := Row.take h k
  rwa [← List.map_take] at this
theorem Row.drop (h : Row w A xs) (k : Nat) : Row w (A.map fun x => x.add k) (xs.drop k) := fun hl => by
  have hk : k < xs.length := by rw [List.length_drop] at hl; omega
  obtain ⟨b, o, rfl, hb, hc⟩ := h (by omega)
  refine ⟨b, o + k, by simp [Addr.add_lit], hb, fun j hj => ?_⟩
  rw [Nat.add_assoc, hc (k + j) (by rw [List.length_drop] at hj; omega)]
  simp
theorem BRow.drop (h : BRow w A l) (k : Nat) : BRow w (A.map fun x => x.add k) (l.drop k) := by
  have := Row.drop h k
  rwa [← List.map_drop] at this
theorem Row.far (h : Row w A xs) {p : Addr} (hne : ∀ a, A = some a → a.block ≠ p.block) (u : Value) : Row (w.setCell p u) A xs := fun hl => by
  obtain ⟨b, o, rfl, hlt, hc⟩ := h hl
  refine ⟨b, o, rfl, by simpa using hlt, fun j hj => ?_⟩
  rw [World.cell?_setCell_other w p ⟨b, o + j, none⟩ u (fun e => hne _ rfl (by rw [e]))]
  exact hc j hj
theorem BRow.far (h : BRow w A l) {p : Addr} (hne : ∀ a, A = some a → a.block ≠ p.block) (u : Value) : BRow (w.setCell p u) A l := Row.far h hne u
theorem Row.keep (h : Row w A xs) (hs : w.heap.size ≤ w'.heap.size) (hk : ∀ a, A = some a → ∀ j, w'.cell? ⟨a.block, j, none⟩ = w.cell? ⟨a.block, j, none⟩) : Row w' A xs := fun hl => by
  obtain ⟨b, o, rfl, hlt, hc⟩ := h hl
  exact ⟨b, o, rfl, by omega, fun j hj => (hk _ rfl (o + j)).trans (hc j hj)⟩
theorem BRow.lt (h : BRow w A l) (hl : 0 < l.length) : ∃ b o, A = some ⟨b, o, none⟩ ∧ b < w.heap.size := by
  obtain ⟨b, o, e, hb, _⟩ := h (by simpa using hl)
  exact ⟨b, o, e, hb⟩
theorem one_bytes (l : List UInt8) : ∀ u ∈ l.map bv, u.oneCell' = true := by
  intro u hu
  obtain ⟨_, _, rfl⟩ := List.mem_map.1 hu
  rfl
variable {B c : Nat}
theorem BOwn.form (h : BOwn w B A c l) : (A = none ∧ c = 0 ∧ l = []) ∨ ∃ g, A = some ⟨g, 0, none⟩ ∧ B ≤ g ∧ g < w.heap.size ∧ l.length ≤ c ∧ c ≤ maxLen := by
  rcases h.2 with ⟨hv, h0⟩ | ⟨g, cap, cur, hv, hb, hg, hn, hm, _⟩
  · simp only [Value.slice.injEq] at hv
    exact .inl ⟨hv.1, hv.2.2, List.eq_nil_of_length_eq_zero h0⟩
  · simp only [Value.slice.injEq] at hv
    obtain ⟨rfl, _, rfl⟩ := hv
    exact .inr ⟨g, rfl, hb, (Array.getElem?_eq_some_iff.1 hg).1, hn, hm⟩
theorem BOwn.block (h : BOwn w B A c l) : ∀ a, A = some a → B ≤ a.block ∧ a.block < w.heap.size := by
  intro a ha
  rcases h.form with ⟨rfl, _⟩ | ⟨g, rfl, h1, h2, _⟩
  · cases ha
  · obtain rfl := Option.some.inj ha
    exact ⟨h1, h2⟩
theorem BOwn.cap (h : BOwn w B A c l) : l.length ≤ c := by
  rcases h.form with ⟨_, _, rfl⟩ | ⟨_, _, _, _, h, _⟩
  · simp
  · exact h
theorem BOwn.row (h : BOwn w B A c l) : BRow w A l := fun hl => by
  rcases h.form with ⟨_, _, rfl⟩ | ⟨g, rfl, _, hlt, _⟩
  · simp at hl
  · refine ⟨g, 0, rfl, hlt, fun j hj => ?_⟩
    have := h.cells (g := g) rfl j _ (List.getElem?_eq_getElem hj)
    simpa [Addr.add_lit] using this
theorem BOwn.nil (w : World) (B : Nat) : BOwn w B none 0 [] := World.ownsRow_nil _ _ _ _
theorem BOwn.drew (h : BOwn w B A c l) : BOwn w.drew B A c l := h
theorem BOwn.alloc (h : BOwn w B A c l) (o : Obj) : BOwn (w.alloc o) B A c l := World.ownsRow.alloc h o
theorem BOwn.kept {row : Option Nat} (h : BOwn w B A c l) (hg : w.grownBy w' row) (hne : A.map (·.block) = none ∨ A.map (·.block) ≠ row) : BOwn w' B A c l :=
  World.ownsRow.kept h hg (by
    cases A with
    | none => simp [Value.ownBlock]
    | some a => simpa [Value.ownBlock] using hne)
theorem BOwn.below (h : BOwn w B A c l) (hb : Below w.heap.size w w') : BOwn w' B A c l := by
  refine World.ownsRow.kept (row := none) h ⟨hb.os, hb.tape, hb.output, hb.size, fun k hk _ => hb.block k hk⟩ ?_
  cases h2 : Value.ownBlock (.slice A l.length c) <;> simp
theorem BOwn.below_grown (h : BOwn w B A c l) (hg : w.grownBy w' (A.map (·.block))) (hB : B ≤ w.heap.size) : Below B w w' :=
  (Below.refl B w).grown hg hB fun k hk => by
    rcases h.form with ⟨rfl, _⟩ | ⟨g, rfl, hb, _⟩
    · simp at hk
    · simp at hk; omega
theorem BOwn.new (w : World) (l : List UInt8) (hm : l.length ≤ maxLen) (hB : B ≤ w.heap.size) : BOwn (w.alloc (.cells (l.map bv).toArray 5)) B (some ⟨w.heap.size, 0, none⟩) l.length l := by
  have := World.ownsRow_lit (e := 5) (size := 1) w (l.map bv).toArray l.length hB hm (by simp)
  simpa [BOwn] using this
theorem BOwn.cell {g j : Nat} (h : BOwn w B (some ⟨g, 0, none⟩) c l) (hj : j < l.length) : w.cell? ⟨g, j, none⟩ = some (.int .u8 (l[j].toNat : Int)) := by
  have := World.ownsRow.cellAt h j (by omega)
  rw [this]
  simp [hj, bv]
theorem BOwn.free {g : Nat} (h : BOwn w B (some ⟨g, 0, none⟩) c l) (j : Nat) : w.frozen? ⟨g, j, none⟩ = false := World.ownsRow.frozenAt h j
theorem BOwn.store {g : Nat} (h : BOwn w B (some ⟨g, 0, none⟩) c l) (j : Nat) (x : UInt8) (v : Value) (hv : bv x = v) : BOwn (w.setCell ⟨g, j, none⟩ v) B (some ⟨g, 0, none⟩) c (l.set j x) := by
  subst hv
  have := (World.ownsRow.stored h j (bv x)).1
  unfold BOwn
  rw [List.map_set, List.length_set]
  exact this
theorem BOwn.mono {B' : Nat} (h : BOwn w B A c l) (hB : B' ≤ B) : BOwn w B' A c l := by
  refine ⟨h.1, ?_⟩
  rcases h.2 with h2 | ⟨g, cap, cur, hv, hb, r⟩
  · exact .inl h2
  · exact .inr ⟨g, cap, cur, hv, by omega, r⟩
end
section
variable {P : Program} (w : World)
theorem run_append_of_none (base : Nat) (t ty e : TypeId) (i : TypeInfo) (size : Nat) (ht : P.underlying t = some (.slice e)) (hi : P.info? e = some i)
    (v : Value) (n : Nat) (xs : List Value) (hown : w.ownsRow base e size v n xs) (c : Nat) : (Builtin.append_ #[t, t] ty #[v, .slice none 0 c]).run P w = .ok v w := by
  rcases hown.2 with ⟨rfl, rfl⟩ | ⟨g, cap, cur, rfl, _, _, hnc, _⟩
  · simp [Builtin.append_, run_underlying ht, sizeOf, typeInfo, hi, Builtin.lenOf, Builtin.firstCells]
  · simp [Builtin.append_, run_underlying ht, sizeOf, typeInfo, hi, Builtin.lenOf, Builtin.firstCells, hnc, storeCells]
theorem run_append_row (base : Nat) (t ty e : TypeId) (i : TypeInfo) (z : Value) (bytes : Nat) (ht : P.underlying t = some (.slice e)) (hi : P.info? e = some i) (hz : i.zero = some z)
    (hsize : i.size = 1) (hby : i.bytes = bytes) (hzs : z.cells.size = 1)
    (v : Value) (n : Nat) (xs : List Value) (hown : w.ownsRow base e 1 v n xs)
    (A : Option Addr) (c : Nat) (news : List Value) (hr : Row w A news) (h1 : ∀ u ∈ news, u.oneCell' = true)
    (h63 : n + news.length ≤ maxLen) (hbytes : (n + news.length) * bytes ≤ 140737488355328) (hbase : base ≤ w.heap.size) :
    ∃ v' w', (Builtin.append_ #[t, t] ty #[v, .slice A news.length c]).run P w = .ok v' w' ∧ w'.ownsRow base e 1 v' (n + news.length) (xs ++ news) ∧ w.grownBy w' v.ownBlock ∧
      (v'.ownBlock = v.ownBlock ∨ v'.ownBlock = some w.heap.size) := by
  rcases A with _ | ad
  · have hm : news = [] := by
      cases news with
      | nil => rfl
      | cons x news => obtain ⟨b, o, h, _⟩ := hr (by simp); cases h
    subst hm
    exact ⟨v, w, run_append_of_none w base t ty e i 1 ht hi v n xs hown c, by simpa using hown, World.grownBy.refl w _, .inl rfl⟩
  · have hcells : ∀ j u, news[j]? = some u → w.cell? (ad.add j) = some u := by
      intro j u hu
      have hj := (List.getElem?_eq_some_iff.1 hu)
      obtain ⟨b, o, h, _, hc⟩ := hr (by have := hj.1; omega)
      obtain rfl := Option.some.inj h
      rw [Addr.add_lit, hc j hj.1, hj.2]
    obtain ⟨v', w', hrun, h2, h3, _, h5⟩ := run_append_own_at (P := P) w base t ty e i z 1 bytes ht hi hz hsize hby hzs (by omega) v n xs hown ad news.length c news (by simp) hcells h1 h63 hbytes hbase
    exact ⟨v', w', hrun, h2, h3, h5⟩
theorem own_slice {base : Nat} {e : TypeId} {size n : Nat} {v : Value} {xs : List Value} {w : World} (h : w.ownsRow base e size v n xs) : ∃ A c, v = .slice A n c := by
  rcases h.2 with ⟨rfl, rfl⟩ | ⟨g, cap, cur, rfl, _⟩
  · exact ⟨_, _, rfl⟩
  · exact ⟨_, _, rfl⟩
theorem own_block (A : Option Addr) (n c : Nat) : Value.ownBlock (.slice A n c) = A.map (·.block) := by cases A <;> rfl
end
theorem info8 : (Tryz.prog.info? 5).map (fun i => (i.zero, i.size, i.bytes)) = some (some (.int .u8 0), 1, 1) := by kernel_rfl
section
variable {w : World} {l m : List UInt8} {A A' : Option Addr} {B c c' : Nat}
theorem run_append_bytes (ty : TypeId) (ho : BOwn w B A c l) (hr : BRow w A' m) (hb : l.length + m.length ≤ 140737488355328) (hB : B ≤ w.heap.size) :
    ∃ A1 c1 w1, (Builtin.append_ #[32, 32] ty #[.slice A l.length c, .slice A' m.length c']).run Tryz.prog w = .ok (.slice A1 (l.length + m.length) c1) w1 ∧ BOwn w1 B A1 c1 (l ++ m) ∧
      w.grownBy w1 (A.map (·.block)) ∧ (A1.map (·.block) = A.map (·.block) ∨ A1.map (·.block) = some w.heap.size) := by
  obtain ⟨i, hi, hz, hs, hby⟩ := info_parts info8
  obtain ⟨v', w', hrun, h2, h3, h4⟩ := run_append_row (P := Tryz.prog) w B 32 ty 5 i _ 1 Tryz.underlying32 hi hz hs hby rfl _ _ _ ho A' c' (m.map bv) hr (one_bytes m)
    (by simp [maxLen]; omega) (by simp; omega) hB
  simp only [List.length_map] at hrun h2
  obtain ⟨A1, c1, rfl⟩ := own_slice h2
  refine ⟨A1, c1, w', hrun, ?_, by simpa [own_block] using h3, by simpa [own_block] using h4⟩
  simpa [BOwn] using h2
theorem wp_append_bytes {o : Oper} {a : Act} {K : Act → World → Prop} {Q : Exit → Act → World → Prop} (s x : Operand)
    (hop : o.op = .call { callee := .builtin .append, args := #[s, x], argTypes := #[32, 32] })
    (n : Nat) (hs : a.eval s = .slice A n c) (ho : BOwn w B A c l) (hn : n = l.length) (k : Nat) (hx : a.eval x = .slice A' k c') (hr : BRow w A' m) (hk : k = m.length)
    (hb : l.length + m.length ≤ 140737488355328) (hB : B ≤ w.heap.size)
    (h : ∀ A1 c1 w1, BOwn w1 B A1 c1 (l ++ m) → Below B w w1 → w.grownBy w1 (A.map (·.block)) → (A1.map (·.block) = A.map (·.block) ∨ A1.map (·.block) = some w.heap.size) →
      K (a.put o.dst (.slice A1 (l.length + m.length) c1)) w1) : o.wp Tryz.prog a w K Q := by
  subst hn hk
  obtain ⟨A1, c1, w1, hrun, h2, h3, h4⟩ := run_append_bytes (c' := c') o.type ho hr hb hB
  unfold Oper.wp execOp
  simp only [hop, resolve, invoke, builtin, Sem.run_bind, Sem.run_pure, Result.andThen_ok, List.map_toArray, List.map_cons, List.map_nil, hs, hx, hrun]
  exact h A1 c1 w1 h2 (ho.below_grown h3 hB) h3 h4
theorem wpList_append_bytes {ops : Array Oper} {rest : List Oper} {o : Oper} {a : Act} {Q : Exit → Act → World → Prop} (hgd : o.guard = none) (s x : Operand)
    (hop : o.op = .call { callee := .builtin .append, args := #[s, x], argTypes := #[32, 32] })
    (n : Nat) (hs : a.eval s = .slice A n c) (ho : BOwn w B A c l) (hn : n = l.length) (k : Nat) (hx : a.eval x = .slice A' k c') (hr : BRow w A' m) (hk : k = m.length)
    (hb : l.length + m.length ≤ 140737488355328) (hB : B ≤ w.heap.size)
    (h : ∀ A1 c1 w1, BOwn w1 B A1 c1 (l ++ m) → Below B w w1 → w.grownBy w1 (A.map (·.block)) → (A1.map (·.block) = A.map (·.block) ∨ A1.map (·.block) = some w.heap.size) →
      wpList Tryz.prog ops Q rest (a.put o.dst (.slice A1 (l.length + m.length) c1)) w1) : wpList Tryz.prog ops Q (o :: rest) a w :=
  wpList_plain hgd fun _ hK => wp_append_bytes s x hop n hs ho hn k hx hr hk hb hB fun A1 c1 w1 h2 h3 h4 h5 => hK _ _ (h A1 c1 w1 h2 h3 h4 h5)
theorem wpList_make_zeros {ops : Array Oper} {rest : List Oper} {o : Oper} {a : Act} {Q : Exit → Act → World → Prop} (hgd : o.guard = none) (x y : Operand) (hop : o.op = .makeSlice 32 x y)
    (kl kc : IntKind) (L C : Int) (n : Nat) (hx : a.eval x = .int kl L) (hy : a.eval y = .int kc C) (hL : L = (n : Int)) (hC : C = (n : Int)) (hb : n ≤ 281474976710656) (hB : B ≤ w.heap.size)
    (h : ∀ w1, BOwn w1 B (some ⟨w.heap.size, 0, none⟩) n (List.replicate n 0) → Below w.heap.size w w1 → wpList Tryz.prog ops Q rest (a.put o.dst (.slice (some ⟨w.heap.size, 0, none⟩) n n)) w1) :
    wpList Tryz.prog ops Q (o :: rest) a w := by
  obtain ⟨i, hi, hz, hs, hby⟩ := info_parts info8
  refine wpList_make_full w hgd x y 32 hop B 5 i _ 1 Tryz.underlying32 hi hz hs kl kc L C n hx hy hL hC (by rw [hby]; omega) (by simp [maxLen]; omega) hB fun w1 h1 h2 => ?_
  refine h w1 ?_ ((Below.refl _ w).grown h2 (Nat.le_refl _) (fun k hk => by cases hk))
  have e : (madeCells (Value.int .u8 0).cells (n * 1)).toList = (List.replicate n (0 : UInt8)).map bv := by
    rw [Nat.mul_one]
    show (madeCells #[Value.int .u8 0] n).toList = _
    rw [toList_madeCells_one, List.map_replicate]
    rfl
  rw [e] at h1
  simpa [BOwn] using h1
theorem run_string_bytes (w : World) {A : Option Addr} {l : List UInt8} (c : Nat) (h : BRow w A l) : (convert 32 9 (.slice A l.length c)).run Tryz.prog w = .ok (txt l) w := by
  rcases A with _ | a
  · have : l = [] := by
      cases l with
      | nil => rfl
      | cons x l => obtain ⟨b, o, h, _⟩ := h (by simp); cases h
    subst this
    exact run_convert_bytes_nil w 32 5 Tryz.underlying32 Tryz.underlying5 0 c 9 Tryz.underlying9
  · refine run_convert_bytes_back w 32 9 5 a c l Tryz.underlying32 Tryz.underlying5 Tryz.underlying9 fun j hj => ?_
    obtain ⟨b, o, h, _, hc⟩ := h (by simpa using (by omega : 0 < l.length))
    obtain rfl := Option.some.inj h
    have := hc j (by simpa using hj)
    rw [Addr.add_lit]
    simpa [bv] using this
end
def RetB (W : World) (l : List UInt8) (e : Ending) (w' : World) : Prop :=
  ∃ A c, e = .returned (.slice A l.length c) ∧ BOwn w' W.heap.size A c l ∧ Below W.heap.size W w'
end Go.Proofs.YtpahkaffknnjhaaGreatDoor
end

section
namespace Go.Proofs.YtpahkaffknnjhaaGreatDoor
set_option linter.unusedSimpArgs false
set_option linter.unusedVariables false
open Go.RowKit
structure Elem (α : Type) where
  e : TypeId
  t : TypeId
  sz : Nat
  bytes : Nat
  zero : Value
  code : α → List Value
  pos : 0 < sz
  few : bytes ≤ 65536
  len : ∀ x, (code x).length = sz
  one : ∀ x, ∀ u ∈ code x, u.oneCell' = true
  zsz : zero.cells.size = sz
  info : (Tryz.prog.info? e).map (fun i => (i.zero, i.size, i.bytes)) = some (some zero, sz, bytes)
  under : Tryz.prog.underlying t = some (.slice e)
section
variable {α : Type} (E : Elem α)
def Elem.cells (L : List α) : List Value := L.flatMap E.code
theorem Elem.cells_length (L : List α) : (E.cells L).length = L.length * E.sz := by
  induction L with
  | nil => simp [Elem.cells]
  | cons x L ih =>
    show (E.code x ++ E.cells L).length = _
    rw [List.length_append, ih, E.len, List.length_cons, Nat.succ_mul]
    omega
theorem Elem.cells_append (L M : List α) : E.cells (L ++ M) = E.cells L ++ E.cells M := by simp [Elem.cells]
theorem Elem.cells_one (L : List α) : ∀ u ∈ E.cells L, u.oneCell' = true := by
  intro u hu
  obtain ⟨f, _, hf⟩ := List.mem_flatMap.1 hu
  exact E.one f u hf
theorem Elem.cells_get : ∀ (L : List α) (j k : Nat) (h : j < L.length), k < E.sz → (E.cells L)[j * E.sz + k]? = (E.code L[j])[k]?
  | [], j, k, h, _ => by simp at h
  | x :: L, 0, k, h, hk => by
    show (E.code x ++ E.cells L)[0 * E.sz + k]? = _
    rw [Nat.zero_mul, Nat.zero_add, List.getElem?_append_left (by rw [E.len]; exact hk)]
    rfl
  | x :: L, j + 1, k, h, hk => by
    have ih := Elem.cells_get L j k (by simpa using h) hk
    show (E.code x ++ E.cells L)[(j + 1) * E.sz + k]? = _
    rw [List.getElem?_append_right (by rw [E.len, Nat.succ_mul]; omega), E.len, show (j + 1) * E.sz + k - E.sz = j * E.sz + k from by rw [Nat.succ_mul]; omega]
    exact ih
theorem Elem.cells_set : ∀ (L : List α) (j k : Nat) (h : j < L.length) (x : α) (v : Value), k < E.sz → E.code x = (E.code L[j]).set k v → E.cells (L.set j x) = (E.cells L).set (j * E.sz + k) v
  | [], j, k, h, _, _, _, _ => by simp at h
  | y :: L, 0, k, h, x, v, hk, hx => by
    show E.code x ++ E.cells L = (E.code y ++ E.cells L).set (0 * E.sz + k) v
    rw [hx, Nat.zero_mul, Nat.zero_add, List.set_append_left _ _ (by rw [E.len]; exact hk)]
    rfl
  | y :: L, j + 1, k, h, x, v, hk, hx => by
    have ih := Elem.cells_set L j k (by simpa using h) x v hk hx
    show E.code y ++ E.cells (L.set j x) = (E.code y ++ E.cells L).set ((j + 1) * E.sz + k) v
    rw [List.set_append_right _ _ (by rw [E.len, Nat.succ_mul]; omega), E.len, show (j + 1) * E.sz + k - E.sz = j * E.sz + k from by rw [Nat.succ_mul]; omega, ih]
def ERow (w : World) (A : Option Addr) (L : List α) : Prop :=
  0 < L.length → ∃ b o, A = some ⟨b, o, none⟩ ∧ b < w.heap.size ∧ ∀ i u, (E.cells L)[i]? = some u → w.cell? ⟨b, o + i, none⟩ = some u
def EOwn (w : World) (B : Nat) (A : Option Addr) (c : Nat) (L : List α) : Prop := w.ownsRow B E.e E.sz (.slice A L.length c) L.length (E.cells L)
variable {E} {w w' : World} {B c : Nat} {A : Option Addr} {L M : List α}
theorem ERow.nil : ERow E w A ([] : List α) := fun h => absurd h (by simp)
theorem ERow.below (h : ERow E w A L) (hb : Below w.heap.size w w') : ERow E w' A L := fun hl => by
  obtain ⟨b, o, e, hlt, hc⟩ := h hl
  exact ⟨b, o, e, Nat.lt_of_lt_of_le hlt hb.size, fun i u hu => (hb.cell (p := ⟨b, o + i, none⟩) hlt).trans (hc i u hu)⟩
theorem ERow.keep (h : ERow E w A L) (hs : w.heap.size ≤ w'.heap.size) (hk : ∀ a, A = some a → a.block < w.heap.size → w'.heap[a.block]? = w.heap[a.block]?) : ERow E w' A L := fun hl => by
  obtain ⟨b, o, rfl, hlt, hc⟩ := h hl
  exact ⟨b, o, rfl, by omega, fun i u hu => (World.cell?_of_block (a := ⟨b, o + i, none⟩) (hk ⟨b, o, none⟩ rfl hlt)).trans (hc i u hu)⟩
theorem ERow.at_ (h : ERow E w A L) {j : Nat} (hj : j < L.length) : ∃ b o, A = some ⟨b, o, none⟩ ∧ b < w.heap.size ∧ ∀ k v, (E.code L[j])[k]? = some v → w.cell? ⟨b, o + (j * E.sz + k), none⟩ = some v := by
  obtain ⟨b, o, e, hlt, hc⟩ := h (by omega)
  refine ⟨b, o, e, hlt, fun k v hv => hc _ _ ?_⟩
  rw [E.cells_get L j k hj (by rw [← E.len L[j]]; exact (List.getElem?_eq_some_iff.1 hv).1)]
  exact hv
theorem ERow.drop (h : ERow E w A L) (k : Nat) : ERow E w (A.map fun x => x.add (k * E.sz)) (L.drop k) := fun hl => by
  obtain ⟨b, o, rfl, hlt, hc⟩ := h (by simp at hl; omega)
  refine ⟨b, o + k * E.sz, by simp [Addr.add_lit], hlt, fun i u hu => ?_⟩
  rw [Nat.add_assoc]
  refine hc _ _ ?_
  have e : E.cells L = E.cells (L.take k) ++ E.cells (L.drop k) := by rw [← Elem.cells_append, List.take_append_drop]
  have hk : k ≤ L.length := by simp at hl; omega
  rw [e, List.getElem?_append_right (by rw [Elem.cells_length, List.length_take]; rw [Nat.min_eq_left hk]; omega), Elem.cells_length, List.length_take, Nat.min_eq_left hk, Nat.add_sub_cancel_left]
  exact hu
theorem ERow.take (h : ERow E w A L) (k : Nat) : ERow E w A (L.take k) := fun hl => by
  obtain ⟨b, o, rfl, hlt, hc⟩ := h (by simp at hl; omega)
  refine ⟨b, o, rfl, hlt, fun i u hu => hc i u ?_⟩
  have e : E.cells L = E.cells (L.take k) ++ E.cells (L.drop k) := by rw [← Elem.cells_append, List.take_append_drop]
  rw [e, List.getElem?_append_left (List.getElem?_eq_some_iff.1 hu).1]
  exact hu
theorem EOwn.nil (w : World) (B : Nat) : EOwn E w B none 0 ([] : List α) := World.ownsRow_nil _ _ _ _
theorem EOwn.alloc (h : EOwn E w B A c L) (o : Obj) : EOwn E (w.alloc o) B A c L := World.ownsRow.alloc h o
theorem EOwn.drew (h : EOwn E w B A c L) : EOwn E w.drew B A c L := h
theorem EOwn.form (h : EOwn E w B A c L) : (A = none ∧ c = 0 ∧ L = []) ∨ ∃ g, A = some ⟨g, 0, none⟩ ∧ B ≤ g ∧ g < w.heap.size ∧ L.length ≤ c ∧ c ≤ maxLen ∧ ∃ cur, w.heap[g]? = some (.cells cur E.e (0, 0)) := by
  rcases h.2 with ⟨hv, h0⟩ | ⟨g, cap, cur, hv, hb, hg, hn, hm, _⟩
  · simp only [Value.slice.injEq] at hv
    exact .inl ⟨hv.1, hv.2.2, List.eq_nil_of_length_eq_zero h0⟩
  · simp only [Value.slice.injEq] at hv
    obtain ⟨rfl, _, rfl⟩ := hv
    exact .inr ⟨g, rfl, hb, (Array.getElem?_eq_some_iff.1 hg).1, hn, hm, cur, hg⟩
theorem EOwn.cap (h : EOwn E w B A c L) : L.length ≤ c := by
  rcases h.form with ⟨_, _, rfl⟩ | ⟨_, _, _, _, h, _⟩
  · simp
  · exact h
theorem EOwn.capMax (h : EOwn E w B A c L) : c ≤ maxLen := by
  rcases h.form with ⟨_, rfl, _⟩ | ⟨_, _, _, _, _, h, _⟩
  · simp
  · exact h
theorem EOwn.block (h : EOwn E w B A c L) : ∀ a, A = some a → B ≤ a.block ∧ a.block < w.heap.size := by
  intro a ha
  rcases h.form with ⟨rfl, _⟩ | ⟨g, rfl, h1, h2, _⟩
  · cases ha
  · obtain rfl := Option.some.inj ha
    exact ⟨h1, h2⟩
theorem EOwn.row (h : EOwn E w B A c L) : ERow E w A L := fun hl => by
  rcases h.form with ⟨_, _, rfl⟩ | ⟨g, rfl, _, hlt, _⟩
  · simp at hl
  · refine ⟨g, 0, rfl, hlt, fun j u hu => ?_⟩
    have := World.ownsRow.cells h (g := g) rfl j _ hu
    simpa [Addr.add_lit] using this
theorem EOwn.kept {row : Option Nat} (h : EOwn E w B A c L) (hg : w.grownBy w' row) (hne : A.map (·.block) = none ∨ A.map (·.block) ≠ row) : EOwn E w' B A c L :=
  World.ownsRow.kept h hg (by rw [own_block]; exact hne)
theorem EOwn.keep (h : EOwn E w B A c L) (hk : ∀ a, A = some a → w'.heap[a.block]? = w.heap[a.block]?) : EOwn E w' B A c L := by
  refine ⟨h.1, ?_⟩
  rcases h.2 with h2 | ⟨g, cap, cur, hv, hb, hg, r⟩
  · exact .inl h2
  · refine .inr ⟨g, cap, cur, hv, hb, ?_, r⟩
    simp only [Value.slice.injEq] at hv
    have := hk _ hv.1
    rw [this]; exact hg
theorem EOwn.below (h : EOwn E w B A c L) (hb : Below w.heap.size w w') : EOwn E w' B A c L := h.keep fun a ha => hb.block _ (h.block a ha).2
theorem EOwn.mono {B' : Nat} (h : EOwn E w B A c L) (hB : B' ≤ B) : EOwn E w B' A c L := by
  refine ⟨h.1, ?_⟩
  rcases h.2 with h2 | ⟨g, cap, cur, hv, hb, r⟩
  · exact .inl h2
  · exact .inr ⟨g, cap, cur, hv, by omega, r⟩
theorem EOwn.up {B' : Nat} (h : EOwn E w B A c L) (hB : ∀ a, A = some a → B' ≤ a.block) : EOwn E w B' A c L := by
  refine ⟨h.1, ?_⟩
  rcases h.2 with h2 | ⟨g, cap, cur, hv, hb, r⟩
  · exact .inl h2
  · refine .inr ⟨g, cap, cur, hv, ?_, r⟩
    simp only [Value.slice.injEq] at hv
    exact hB _ hv.1
theorem EOwn.new (w : World) (L : List α) (hm : L.length ≤ maxLen) (hB : B ≤ w.heap.size) (cs : Array Value) (hcs : cs.toList = E.cells L) : EOwn E (w.alloc (.cells cs E.e)) B (some ⟨w.heap.size, 0, none⟩) L.length L := by
  have := World.ownsRow_lit (e := E.e) (size := E.sz) w cs L.length hB hm (by rw [← Array.length_toList, hcs]; exact E.cells_length L)
  rw [hcs] at this
  exact this
theorem EOwn.below_grown (h : EOwn E w B A c L) (hg : w.grownBy w' (A.map (·.block))) (hB : B ≤ w.heap.size) : Below B w w' :=
  (Below.refl B w).grown hg hB fun k hk => by
    have := (World.ownsRow.lt h k (by rw [own_block]; exact hk)).1
    exact this
theorem EOwn.set (h : EOwn E w B A c L) (p : Addr) (hne : ∀ a, A = some a → a.block ≠ p.block) (u : Value) : EOwn E (w.setCell p u) B A c L :=
  h.keep fun a ha => heap_setCell_other w p a.block u (hne a ha)
theorem EOwn.cell {g : Nat} (h : EOwn E w B (some ⟨g, 0, none⟩) c L) {j k : Nat} (hj : j < L.length) {v : Value} (hv : (E.code L[j])[k]? = some v) : w.cell? ⟨g, j * E.sz + k, none⟩ = some v := by
  have hk : k < E.sz := by rw [← E.len L[j]]; exact (List.getElem?_eq_some_iff.1 hv).1
  rw [World.ownsRow.cellAt h (j * E.sz + k) (by have := Nat.mul_le_mul_right E.sz (show j + 1 ≤ L.length from hj); rw [Nat.succ_mul] at this; omega), E.cells_get L j k hj hk]
  exact hv
theorem EOwn.free {g : Nat} (h : EOwn E w B (some ⟨g, 0, none⟩) c L) (j : Nat) : w.frozen? ⟨g, j, none⟩ = false := World.ownsRow.frozenAt h j
theorem EOwn.store {g : Nat} (h : EOwn E w B (some ⟨g, 0, none⟩) c L) {j k : Nat} (hj : j < L.length) (hk : k < E.sz) (x : α) (v : Value) (hx : E.code x = (E.code L[j]).set k v) :
    EOwn E (w.setCell ⟨g, j * E.sz + k, none⟩ v) B (some ⟨g, 0, none⟩) c (L.set j x) := by
  have := (World.ownsRow.stored h (j * E.sz + k) v).1
  unfold EOwn
  rw [E.cells_set L j k hj x v hk hx, List.length_set]
  exact this
def setFrom (xs : List Value) (i : Nat) : List Value → List Value
  | [] => xs
  | v :: vs => setFrom (xs.set i v) (i + 1) vs
theorem Elem.cells_get' (L : List α) (k : Nat) (h : k < L.length * E.sz) : (E.cells L)[k]? = (E.code (L[k / E.sz]'(Nat.div_lt_of_lt_mul (by rw [Nat.mul_comm]; exact h))))[k % E.sz]? := by
  have hd : k / E.sz < L.length := Nat.div_lt_of_lt_mul (by rw [Nat.mul_comm]; exact h)
  have := E.cells_get L (k / E.sz) (k % E.sz) hd (Nat.mod_lt _ E.pos)
  rw [Nat.mul_comm, Nat.div_add_mod] at this
  exact this
theorem run_append_elems {A' : Option Addr} {c' : Nat} (ty : TypeId) (ho : EOwn E w B A c L) (hr : ERow E w A' M) (hb : L.length + M.length ≤ 1073741824) (hB : B ≤ w.heap.size) :
    ∃ A1 c1 w1, (Builtin.append_ #[E.t, E.t] ty #[.slice A L.length c, .slice A' M.length c']).run Tryz.prog w = .ok (.slice A1 (L.length + M.length) c1) w1 ∧ EOwn E w1 B A1 c1 (L ++ M) ∧
      w.grownBy w1 (A.map (·.block)) ∧ (A1.map (·.block) = A.map (·.block) ∨ A1.map (·.block) = some w.heap.size) := by
  obtain ⟨i, hi, hz, hsi, hby⟩ := info_parts E.info
  rcases A' with _ | ad
  · have hm : M = [] := by
      cases M with
      | nil => rfl
      | cons x M => obtain ⟨b, o, h, _⟩ := hr (by simp); cases h
    subst hm
    refine ⟨A, c, w, ?_, by simpa using ho, World.grownBy.refl w _, .inl rfl⟩
    exact run_append_of_none (P := Tryz.prog) w B E.t ty E.e i E.sz E.under hi _ _ _ ho c'
  · have hcells : ∀ j u, (E.cells M)[j]? = some u → w.cell? (ad.add j) = some u := by
      intro j u hu
      have hj := (List.getElem?_eq_some_iff.1 hu).1
      rw [E.cells_length] at hj
      obtain ⟨b, o, h, _, hc⟩ := hr (by
        rcases Nat.eq_zero_or_pos M.length with h0 | h0
        · rw [h0] at hj; simp at hj
        · exact h0)
      obtain rfl := Option.some.inj h
      rw [Addr.add_lit]
      exact hc j u hu
    have hbig : (L.length + M.length) * E.bytes ≤ 140737488355328 := by
      have h1 := Nat.mul_le_mul hb E.few
      omega
    obtain ⟨v', w', hrun, h2, h3, _, h5⟩ := run_append_own_at (P := Tryz.prog) w B E.t ty E.e i E.zero E.sz E.bytes E.under hi hz hsi hby E.zsz E.pos _ _ _ ho ad M.length c' (E.cells M)
      (E.cells_length M) hcells (E.cells_one M) (by simp [maxLen]; omega) hbig hB
    obtain ⟨A1, c1, rfl⟩ := own_slice h2
    refine ⟨A1, c1, w', hrun, ?_, by simpa [own_block] using h3, by simpa [own_block] using h5⟩
    unfold EOwn
    rw [E.cells_append, List.length_append]
    exact h2
theorem wpList_append_elems (E : Elem α) {w : World} {B c : Nat} {A A' : Option Addr} {L M : List α} {c' : Nat} {ops : Array Oper} {rest : List Oper} {o : Oper} {a : Act} {Q : Exit → Act → World → Prop} (hgd : o.guard = none) (s x : Operand)
    (hop : o.op = .call { callee := .builtin .append, args := #[s, x], argTypes := #[E.t, E.t] })
    (n : Nat) (hs : a.eval s = .slice A n c) (ho : EOwn E w B A c L) (hn : n = L.length) (k : Nat) (hx : a.eval x = .slice A' k c') (hr : ERow E w A' M) (hk : k = M.length)
    (hb : L.length + M.length ≤ 1073741824) (hB : B ≤ w.heap.size)
    (h : ∀ A1 c1 w1, EOwn E w1 B A1 c1 (L ++ M) → Below B w w1 → w.grownBy w1 (A.map (·.block)) → (A1.map (·.block) = A.map (·.block) ∨ A1.map (·.block) = some w.heap.size) →
      wpList Tryz.prog ops Q rest (a.put o.dst (.slice A1 (L.length + M.length) c1)) w1) : wpList Tryz.prog ops Q (o :: rest) a w := by
  subst hn hk
  obtain ⟨A1, c1, w1, hrun, h2, h3, h4⟩ := run_append_elems (c' := c') o.type ho hr hb hB
  refine Lib.wpList_append_run w hgd s x _ _ hop _ _ hs hx _ _ hrun ?_
  exact h A1 c1 w1 h2 (ho.below_grown h3 hB) h3 h4
theorem ERow.lit (E : Elem α) (w : World) (x : α) (cs : Array Value) (hcs : cs.toList = E.code x) (g : Nat) (hg : g = w.heap.size) : ERow E (w.alloc (.cells cs E.e)) (some ⟨g, 0, none⟩) [x] := by
  subst hg
  exact (EOwn.new (B := 0) w [x] (by simp [maxLen]) (Nat.zero_le _) cs (by simp [Elem.cells, hcs])).row
end
end Go.Proofs.YtpahkaffknnjhaaGreatDoor
end

section
namespace Go.Proofs.YtpahkaffknnjhaaGreatDoor
set_option linter.unusedSimpArgs false
set_option linter.unusedVariables false
open Go.RowKit
def Blk (w : World) (g : Nat) (t : TypeId) (cs : List Value) : Prop := w.heap[g]? = some (.cells cs.toArray t (0, 0))
section
variable {w w' : World} {g : Nat} {t : TypeId} {cs : List Value}
theorem Blk.lt (h : Blk w g t cs) : g < w.heap.size := (Array.getElem?_eq_some_iff.1 h).1
theorem Blk.below (h : Blk w g t cs) (hb : Below w.heap.size w w') : Blk w' g t cs := (hb.block _ h.lt).trans h
theorem Blk.grown {row : Option Nat} (h : Blk w g t cs) (hb : w.grownBy w' row) (hne : some g ≠ row) : Blk w' g t cs := (hb.block _ h.lt hne).trans h
theorem Blk.cell (h : Blk w g t cs) (i : Nat) : w.cell? ⟨g, i, none⟩ = cs[i]? := by
  have := cell_of_row w g i _ _ _ h
  simpa using this
theorem Blk.free (h : Blk w g t cs) (i : Nat) : w.frozen? ⟨g, i, none⟩ = false := frozen_of_row w _ i _ _ h
theorem Blk.set (h : Blk w g t cs) (i : Nat) (u : Value) : Blk (w.setCell ⟨g, i, none⟩ u) g t (cs.set i u) := by
  have := heap_setCell_same w g i cs.toArray t u h
  simpa [Blk] using this
theorem Blk.other (h : Blk w g t cs) (p : Addr) (hne : g ≠ p.block) (u : Value) : Blk (w.setCell p u) g t cs := (heap_setCell_other w p g u hne).trans h
theorem Blk.alloc (h : Blk w g t cs) (o : Obj) : Blk (w.alloc o) g t cs := h.below ((Below.refl _ _).alloc (Nat.le_refl _) o)
theorem Blk.new (w : World) (cs : Array Value) (t : TypeId) : Blk (w.alloc (.cells cs t)) w.heap.size t cs.toList := by
  show (w.heap.push _)[w.heap.size]? = _
  rw [Array.getElem?_push_size]
theorem Blk.drew (h : Blk w g t cs) : Blk w.drew g t cs := h
theorem Blk.c1 {a : Value} (h : Blk w g t [a]) : w.cell? ⟨g, 0, none⟩ = some a ∧ w.frozen? ⟨g, 0, none⟩ = false ∧ g < w.heap.size := ⟨h.cell 0, h.free 0, h.lt⟩
theorem Blk.c2 {a b : Value} (h : Blk w g t [a, b]) : w.cell? ⟨g, 0, none⟩ = some a ∧ w.cell? ⟨g, 1, none⟩ = some b ∧ w.frozen? ⟨g, 0, none⟩ = false ∧ w.frozen? ⟨g, 1, none⟩ = false ∧ g < w.heap.size :=
  ⟨h.cell 0, h.cell 1, h.free 0, h.free 1, h.lt⟩
theorem Blk.c3 {a b c : Value} (h : Blk w g t [a, b, c]) : w.cell? ⟨g, 0, none⟩ = some a ∧ w.cell? ⟨g, 1, none⟩ = some b ∧ w.cell? ⟨g, 2, none⟩ = some c ∧ w.frozen? ⟨g, 0, none⟩ = false ∧ w.frozen? ⟨g, 1, none⟩ = false ∧ w.frozen? ⟨g, 2, none⟩ = false ∧ g < w.heap.size :=
  ⟨h.cell 0, h.cell 1, h.cell 2, h.free 0, h.free 1, h.free 2, h.lt⟩
theorem Blk.c4 {a b c d : Value} (h : Blk w g t [a, b, c, d]) : w.cell? ⟨g, 0, none⟩ = some a ∧ w.cell? ⟨g, 1, none⟩ = some b ∧ w.cell? ⟨g, 2, none⟩ = some c ∧ w.cell? ⟨g, 3, none⟩ = some d ∧
    w.frozen? ⟨g, 0, none⟩ = false ∧ w.frozen? ⟨g, 1, none⟩ = false ∧ w.frozen? ⟨g, 2, none⟩ = false ∧ w.frozen? ⟨g, 3, none⟩ = false ∧ g < w.heap.size :=
  ⟨h.cell 0, h.cell 1, h.cell 2, h.cell 3, h.free 0, h.free 1, h.free 2, h.free 3, h.lt⟩
theorem Blk.c5 {a b c d e : Value} (h : Blk w g t [a, b, c, d, e]) : w.cell? ⟨g, 0, none⟩ = some a ∧ w.cell? ⟨g, 1, none⟩ = some b ∧ w.cell? ⟨g, 2, none⟩ = some c ∧ w.cell? ⟨g, 3, none⟩ = some d ∧ w.cell? ⟨g, 4, none⟩ = some e ∧
    w.frozen? ⟨g, 0, none⟩ = false ∧ w.frozen? ⟨g, 1, none⟩ = false ∧ w.frozen? ⟨g, 2, none⟩ = false ∧ w.frozen? ⟨g, 3, none⟩ = false ∧ w.frozen? ⟨g, 4, none⟩ = false ∧ g < w.heap.size :=
  ⟨h.cell 0, h.cell 1, h.cell 2, h.cell 3, h.cell 4, h.free 0, h.free 1, h.free 2, h.free 3, h.free 4, h.lt⟩
theorem Blk.set0 {a u : Value} {r : List Value} (h : Blk w g t (a :: r)) : Blk (w.setCell ⟨g, 0, none⟩ u) g t (u :: r) := h.set 0 u
theorem Blk.set1 {a b u : Value} {r : List Value} (h : Blk w g t (a :: b :: r)) : Blk (w.setCell ⟨g, 1, none⟩ u) g t (a :: u :: r) := h.set 1 u
theorem Blk.set2 {a b c u : Value} {r : List Value} (h : Blk w g t (a :: b :: c :: r)) : Blk (w.setCell ⟨g, 2, none⟩ u) g t (a :: b :: u :: r) := h.set 2 u
theorem Blk.set3 {a b c d u : Value} {r : List Value} (h : Blk w g t (a :: b :: c :: d :: r)) : Blk (w.setCell ⟨g, 3, none⟩ u) g t (a :: b :: c :: u :: r) := h.set 3 u
end
theorem ret_mem1 {P : Program} {fn : Func} {R : Ending → World → Prop} {a : Act} {w : World} {p : Tmp} {T : TypeId} {x : Addr} {v : Value} (h : fn.results = #[.cell p T]) (hd : a.defers = [])
    (hp : a.tmps.getD p undef = .pointer (some x)) (hv : (loadVar T x).run P w = .ok v w) (hR : R (.returned v) w) : bodyPost P fn R .ret a w := by
  refine bodyPost_ret (v := v) ?_ hd hR
  have e : (results fn a.tmps).run P w = ((asAddr (a.tmps.getD p undef)).run P w).andThen fun b w1 => (loadVar T b).run P w1 := by
    simp only [results, h]
    simp [Sem.run_bind]
  rw [e, hp]
  show ((loadVar T x).run P w) = _
  exact hv
theorem fresh1 {w W : World} {a : List Value} {t : TypeId} (h : w.alloc (.cells a.toArray t) = W) : Blk W w.heap.size t a ∧ w.heap.size + 1 ≤ W.heap.size ∧ Below w.heap.size w W := by
  subst h
  exact ⟨Blk.new _ _ _, by simp, (Below.refl _ _).alloc (Nat.le_refl _) _⟩
theorem fresh2 {w W : World} {a b : List Value} {t u : TypeId} (h : (w.alloc (.cells a.toArray t)).alloc (.cells b.toArray u) = W) : Blk W w.heap.size t a ∧ Blk W (w.heap.size + 1) u b ∧ w.heap.size + 2 ≤ W.heap.size ∧ Below w.heap.size w W := by
  have h2 : (w.alloc (.cells a.toArray t)).heap.size = w.heap.size + 1 := by simp
  obtain ⟨h1, _, h3⟩ := fresh1 (rfl : w.alloc (.cells a.toArray t) = _)
  obtain ⟨k1, k2, k3⟩ := fresh1 h
  rw [h2] at k1
  exact ⟨h1.below k3, k1, by omega, h3.trans (k3.mono (by omega))⟩
theorem fresh3 {w W : World} {a b c : List Value} {t u v : TypeId} (h : ((w.alloc (.cells a.toArray t)).alloc (.cells b.toArray u)).alloc (.cells c.toArray v) = W) : Blk W w.heap.size t a ∧ Blk W (w.heap.size + 1) u b ∧ Blk W (w.heap.size + 1 + 1) v c ∧
    w.heap.size + 3 ≤ W.heap.size ∧ Below w.heap.size w W := by
  have h3 : ((w.alloc (.cells a.toArray t)).alloc (.cells b.toArray u)).heap.size = w.heap.size + 1 + 1 := by simp
  obtain ⟨h1, h2, _, h4⟩ := fresh2 (rfl : (w.alloc (.cells a.toArray t)).alloc (.cells b.toArray u) = _)
  obtain ⟨k1, k2, k3⟩ := fresh1 h
  rw [h3] at k1
  exact ⟨h1.below k3, h2.below k3, k1, by omega, h4.trans (k3.mono (by omega))⟩
theorem Blk.own {α : Type} (E : Elem α) {w : World} {g B : Nat} {cs : List Value} (h : Blk w g E.e cs) (L : List α) (hcs : cs = E.cells L) (hL : L.length ≤ maxLen) (hB : B ≤ g) : EOwn E w B (some ⟨g, 0, none⟩) L.length L := by
  subst hcs
  have hl := E.cells_length L
  exact ⟨hl, .inr ⟨g, L.length, _, rfl, hB, h, Nat.le_refl _, hL, by simpa using hl, by rw [List.take_of_length_le (by simp [hl])]⟩⟩
theorem Blk.row {α : Type} (E : Elem α) {w : World} {g : Nat} {cs : List Value} (h : Blk w g E.e cs) (L : List α) (hcs : cs = E.cells L) (hL : L.length ≤ maxLen) : ERow E w (some ⟨g, 0, none⟩) L := (h.own E (B := 0) L hcs hL (Nat.zero_le _)).row
end Go.Proofs.YtpahkaffknnjhaaGreatDoor
end

section
namespace Go.Proofs.YtpahkaffknnjhaaGreatDoor
set_option linter.unusedSimpArgs false
set_option linter.unusedVariables false
open Go
def slotOf (a : Act) (d : Option Tmp) : Value := match d with | some t => a.tmps.getD t undef | none => undef
section
variable {P : Program} {Q : Exit → Act → World → Prop}
section
variable {l : List Oper} {o : Oper} {a : Act} {w : World} {T : Value → World → Prop}
end
end
end Go.Proofs.YtpahkaffknnjhaaGreatDoor
end

section
namespace Go.Proofs.YtpahkaffknnjhaaGreatDoor
set_option linter.unusedSimpArgs false
set_option linter.unusedVariables false
open Go
section
variable {P : Program} {Q : Exit → Act → World → Prop}
end
section
variable {P : Program} {Q : Exit → Act → World → Prop} {l : List Oper} {o : Oper} {a : Act} {w : World} {T : Value → World → Prop}
end
end Go.Proofs.YtpahkaffknnjhaaGreatDoor
end

section
namespace Go.Proofs.YtpahkaffknnjhaaGreatDoor
set_option linter.unusedSimpArgs false
set_option linter.unusedVariables false
open Go
section
variable {P : Program} {Q : Exit → Act → World → Prop}
end
end Go.Proofs.YtpahkaffknnjhaaGreatDoor
end

section
namespace Go.Proofs.YtpahkaffknnjhaaGreatDoor
set_option linter.unusedSimpArgs false
set_option linter.unusedVariables false
open Go
section
variable {P : Program} {Q : Exit → Act → World → Prop}
end
end Go.Proofs.YtpahkaffknnjhaaGreatDoor
end

section
namespace Go.Proofs.YtpahkaffknnjhaaGreatDoor
set_option linter.unusedSimpArgs false
set_option linter.unusedVariables false
open Go Go.RowKit
theorem grown_store (w : World) (g i : Nat) (u : Value) : w.grownBy (w.setCell ⟨g, i, none⟩ u) (some g) :=
  ⟨rfl, rfl, rfl, by simp, fun k _ hn => heap_setCell_other w ⟨g, i, none⟩ k u (fun e => hn (by rw [e]))⟩
theorem _root_.Go.World.grownBy.set_ {w w' : World} {g : Nat} (h : w.grownBy w' (some g)) (p : Addr) (hp : p.block = g) (u : Value) : w.grownBy (w'.setCell p u) (some g) :=
  ⟨h.os, h.tape, h.output, by simpa using h.size, fun k hk hn => (heap_setCell_other w' p k u (fun e => hn (by rw [e, hp]))).trans (h.block k hk hn)⟩
section
variable {P : Program} {Q : Exit → Act → World → Prop}
end
end Go.Proofs.YtpahkaffknnjhaaGreatDoor
end

section
namespace Go.Proofs.YtpahkaffknnjhaaGreatDoor
set_option linter.unusedSimpArgs false
set_option linter.unusedVariables false
open Go Go.RowKit
section
variable {P : Program} {Q : Exit → Act → World → Prop}
end
end Go.Proofs.YtpahkaffknnjhaaGreatDoor
end

section
namespace Go.Proofs.YtpahkaffknnjhaaGreatDoor
set_option linter.unusedSimpArgs false
set_option linter.unusedVariables false
open Go.RowKit
structure Keeps (w w' : World) (S : Nat → Prop) : Prop where
  os : w'.os = w.os
  tape : w'.tape = w.tape
  output : w'.output = w.output
  size : w.heap.size ≤ w'.heap.size
  block : ∀ k, k < w.heap.size → ¬ S k → w'.heap[k]? = w.heap[k]?
theorem Keeps.refl (w : World) (S : Nat → Prop) : Keeps w w S := ⟨rfl, rfl, rfl, Nat.le_refl _, fun _ _ _ => rfl⟩
theorem Keeps.trans {a b c : World} {S : Nat → Prop} (h : Keeps a b S) (k : Keeps b c S) : Keeps a c S :=
  ⟨k.os.trans h.os, k.tape.trans h.tape, k.output.trans h.output, Nat.le_trans h.size k.size, fun i hi hn => (k.block i (Nat.lt_of_lt_of_le hi h.size) hn).trans (h.block i hi hn)⟩
theorem Keeps.set {w w' : World} {S : Nat → Prop} (h : Keeps w w' S) (p : Addr) (hp : S p.block ∨ w.heap.size ≤ p.block) (u : Value) : Keeps w (w'.setCell p u) S :=
  ⟨h.os, h.tape, h.output, by simpa using h.size, fun k hk hn => (heap_setCell_other w' p k u (fun e => by
    rcases hp with hp | hp
    · exact hn (e ▸ hp)
    · omega)).trans (h.block k hk hn)⟩
theorem Keeps.below {B : Nat} {w0 w w' : World} {S : Nat → Prop} (h : Keeps w w' S) (hb : Below B w0 w) (hB : B ≤ w.heap.size) (hS : ∀ k, S k → B ≤ k) : Below B w0 w' :=
  hb.trans ⟨h.os, h.tape, h.output, h.size, fun k hk => h.block k (Nat.lt_of_lt_of_le hk hB) (fun hs => by have := hS k hs; omega)⟩
theorem Row.kept {w w' : World} {A : Option Addr} {xs : List Value} {S : Nat → Prop} (h : Row w A xs) (hk : Keeps w w' S) (hf : ∀ a, A = some a → ¬ S a.block) : Row w' A xs := fun hl => by
  obtain ⟨b, o, rfl, hlt, hc⟩ := h hl
  exact ⟨b, o, rfl, Nat.lt_of_lt_of_le hlt hk.size, fun j hj => (World.cell?_of_block (hk.block b hlt (hf _ rfl))).trans (hc j hj)⟩
theorem BRow.kept {w w' : World} {A : Option Addr} {l : List UInt8} {S : Nat → Prop} (h : BRow w A l) (hk : Keeps w w' S) (hf : ∀ a, A = some a → ¬ S a.block) : BRow w' A l := Row.kept h hk hf
theorem Keeps.grown {w w' w'' : World} {S : Nat → Prop} {g : Nat} (h : Keeps w w' S) (hg : w'.grownBy w'' (some g)) (hs : S g) : Keeps w w'' S :=
  h.trans ⟨hg.os, hg.tape, hg.output, hg.size, fun k hk hn => hg.block k hk (by simp; rintro rfl; exact hn hs)⟩
theorem Blk.kept {w w' : World} {g : Nat} {T : TypeId} {cs : List Value} {S : Nat → Prop} (h : Blk w g T cs) (hk : Keeps w w' S) (hg : ¬ S g) : Blk w' g T cs := (hk.block _ h.lt hg).trans h
theorem ERow.kept {α : Type} {E : Elem α} {w w' : World} {A : Option Addr} {L : List α} {S : Nat → Prop} (h : ERow E w A L) (hk : Keeps w w' S) (hf : L ≠ [] → ∀ a, A = some a → ¬ S a.block) : ERow E w' A L := by
  cases L with
  | nil => exact ERow.nil
  | cons x L => exact h.keep hk.size (fun a ha hl => hk.block _ hl (hf (by simp) a ha))
theorem Keeps.mono {w w' : World} {S T : Nat → Prop} (h : Keeps w w' S) (hS : ∀ k, S k → T k) : Keeps w w' T := ⟨h.os, h.tape, h.output, h.size, fun k hk hn => h.block k hk (fun hs => hn (hS k hs))⟩
theorem BRow.ne_blk {w : World} {A : Option Addr} {l : List UInt8} {g : Nat} {T : TypeId} {cs : List Value} (h : BRow w A l) (hl : l ≠ []) (hb : Blk w g T cs) (hc : ∀ v ∈ cs, ∀ n, v ≠ .int .u8 n) : ∀ a, A = some a → a.block ≠ g := by
  rintro a ha rfl
  obtain ⟨b, o, e, _, hcell⟩ := h (by cases l with | nil => exact absurd rfl hl | cons x l => simp)
  rw [ha] at e
  obtain rfl := Option.some.inj e
  have h0 := hcell 0 (by cases l with | nil => exact absurd rfl hl | cons x l => simp)
  rw [hb.cell] at h0
  obtain ⟨hlt, he⟩ := List.getElem?_eq_some_iff.1 h0
  rw [List.getElem_map] at he
  exact hc _ (List.getElem_mem hlt) _ he
theorem BRow.grown_blk {w w' : World} {A : Option Addr} {l : List UInt8} {g : Nat} {T : TypeId} {cs : List Value} (h : BRow w A l) (hg : w.grownBy w' (some g)) (hb : Blk w g T cs) (hc : ∀ v ∈ cs, ∀ n, v ≠ .int .u8 n) : BRow w' A l := by
  cases l with
  | nil => exact BRow.nil
  | cons y l =>
    obtain ⟨b, o, e, hlt, hcell⟩ := h (by simp)
    have hne := h.ne_blk (by simp) hb hc _ e
    exact fun _ => ⟨b, o, e, Nat.lt_of_lt_of_le hlt hg.size, fun j hj => (World.cell?_of_block (a := ⟨b, o + j, none⟩) (hg.block b hlt (by simp; exact hne))).trans (hcell j hj)⟩
end Go.Proofs.YtpahkaffknnjhaaGreatDoor
end

section
namespace Go.Proofs.YtpahkaffknnjhaaGreatDoor
set_option linter.unusedSimpArgs false
set_option linter.unusedVariables false
open Go.RowKit
section
variable {α : Type} {E : Elem α} {w w' : World} {B c : Nat} {A : Option Addr} {L : List α}
theorem grown_setCells (w : World) (g i : Nat) (vs : List Value) : w.grownBy (w.setCells g i vs) (some g) := by
  have key : ∀ (vs : List Value) (w0 w : World) (i : Nat), w0.grownBy w (some g) → w0.grownBy (w.setCells g i vs) (some g) := by
    intro vs
    induction vs with
    | nil => exact fun _ _ _ h => h
    | cons v vs ih => exact fun w0 w i h => ih w0 _ (i + 1) (h.set_ ⟨g, i, none⟩ rfl v)
  exact key vs w w i ⟨rfl, rfl, rfl, Nat.le_refl _, fun _ _ _ => rfl⟩
theorem Blk.setCells {g : Nat} {T : TypeId} {cs : List Value} (h : Blk w g T cs) (i : Nat) (vs : List Value) : Blk (w.setCells g i vs) g T (setFrom cs i vs) := by
  have key : ∀ (vs : List Value) (w : World) (cs : List Value) (i : Nat), Blk w g T cs → Blk (w.setCells g i vs) g T (setFrom cs i vs) := by
    intro vs
    induction vs with
    | nil => exact fun _ _ _ h => h
    | cons v vs ih => exact fun w cs i h => ih _ _ (i + 1) (h.set i v)
  exact key vs w cs i h
theorem setFrom_all : ∀ (vs cs pre : List Value), vs.length = cs.length → setFrom (pre ++ cs) pre.length vs = pre ++ vs
  | [], cs, pre, h => by
    have : cs = [] := List.eq_nil_of_length_eq_zero (by simpa using h.symm)
    subst this; rfl
  | v :: vs, [], pre, h => by simp at h
  | v :: vs, x :: cs, pre, h => by
    rw [setFrom, List.set_append_right _ _ (Nat.le_refl _), Nat.sub_self]
    show setFrom (pre ++ v :: cs) (pre.length + 1) vs = _
    have := setFrom_all vs cs (pre ++ [v]) (by simpa using h)
    simpa using this
theorem Blk.setAll {g : Nat} {T : TypeId} {cs : List Value} (h : Blk w g T cs) (vs : List Value) (hl : vs.length = cs.length) : Blk (w.setCells g 0 vs) g T vs := by
  have := h.setCells 0 vs
  rwa [show setFrom cs 0 vs = vs from by simpa using setFrom_all vs cs [] hl] at this
theorem Blk.there {g : Nat} {T : TypeId} {cs : List Value} (h : Blk w g T cs) (i n : Nat) (hn : i + n ≤ cs.length) : w.there g i n := fun j hj => by
  rw [h.cell, List.getElem?_eq_getElem (by omega)]
  exact ⟨rfl, h.free _⟩
theorem Blk.range {g : Nat} {T : TypeId} {cs : List Value} (h : Blk w g T cs) (i : Nat) (vs : List Value) (hv : ∀ j, j < vs.length → cs[i + j]? = vs[j]?) : w.rangeAt g i vs := fun j v hj => by
  have hl := (List.getElem?_eq_some_iff.1 hj).1
  rw [h.cell, hv j hl, hj]
theorem EOwn.range {g : Nat} (h : EOwn E w B (some ⟨g, 0, none⟩) c L) {j : Nat} (hj : j < L.length) (k : Nat) (vs : List Value) (hv : ∀ i, i < vs.length → (E.code L[j])[k + i]? = vs[i]?) : w.rangeAt g (j * E.sz + k) vs := fun i v hi => by
  have hl := (List.getElem?_eq_some_iff.1 hi).1
  have := h.cell (j := j) (k := k + i) hj (v := v) (by rw [hv i hl, hi])
  rw [Nat.add_assoc]; exact this
theorem EOwn.there {g : Nat} (h : EOwn E w B (some ⟨g, 0, none⟩) c L) {j : Nat} (hj : j < L.length) (k n : Nat) (hk : k + n ≤ E.sz) : w.there g (j * E.sz + k) n := fun i hi => by
  have hlt : k + i < (E.code L[j]).length := by rw [E.len]; omega
  have := h.cell (j := j) (k := k + i) hj (List.getElem?_eq_getElem hlt)
  rw [Nat.add_assoc, this]
  exact ⟨rfl, h.free _⟩
theorem ERow.range {j : Nat} (h : ERow E w A L) (hj : j < L.length) : ∃ b o, A = some ⟨b, o, none⟩ ∧ b < w.heap.size ∧ w.rangeAt b (o + j * E.sz) (E.code L[j]) := by
  obtain ⟨b, o, e, hb, hc⟩ := h.at_ hj
  exact ⟨b, o, e, hb, fun i v hi => by rw [Nat.add_assoc]; exact hc i v hi⟩
end
theorem run_alloc {P : Program} {w : World} {T : TypeId} {z : Value} (hz : (zeroValue T).run P w = .ok z w) : (Instr.alloc T true (.tuple #[])).run P w = .ok (.pointer (some ⟨w.heap.size, 0, none⟩)) (w.alloc (.cells z.cells T)) := by
  simp [Instr.alloc, Sem.run_bind, hz, newVar, newRow]
theorem wpList_alloc_z {P : Program} {w : World} {ops : Array Oper} {rest : List Oper} {o : Oper} {a : Act} {Q : Exit → Act → World → Prop} (hgd : o.guard = none) (T : TypeId) (hop : o.op = .alloc T) {z : Value} (hz : (zeroValue T).run P w = .ok z w)
    (h : ∀ W, w.alloc (.cells z.cells T) = W → wpList P ops Q rest (a.put o.dst (.pointer (some ⟨w.heap.size, 0, none⟩))) W) : wpList P ops Q (o :: rest) a w :=
  wpList_plain hgd fun _ hK => by
    unfold Oper.wp execOp
    simp only [hop, Sem.run_bind, run_alloc hz, Result.andThen_ok, Sem.run_pure]
    exact hK _ _ (h _ rfl)
theorem wpList_store_blk {P : Program} {w : World} {ops : Array Oper} {rest : List Oper} {o : Oper} {a : Act} {Q : Exit → Act → World → Prop} (hgd : o.guard = none) (hod : o.dst = none) (T : TypeId) (x y : Operand) (hop : o.op = .store T x y) (g : Nat) (hx : a.eval x = .pointer (some ⟨g, 0, none⟩))
    (cs : List Value) (hy : a.eval y = .agg cs.toArray) {T0 : TypeId} {old : List Value} (hb : Blk w g T0 old) (hl : cs.length = old.length) (hi : (P.info? T).map (·.size) = some old.length) (hone : ∀ v ∈ cs, v.oneCell' = true)
    (h : ∀ W, Blk W g T0 cs → w.grownBy W (some g) → wpList P ops Q rest a W) : wpList P ops Q (o :: rest) a w := by
  have hput : a.put o.dst undef = a := by rw [hod]; rfl
  refine wpList_store_mid hgd T x y hop g 0 cs.toArray hx hy ?_ (hi.trans (by rw [← hl, List.size_toArray])) (all_oneCell_toArray hone) ?_
  · rw [List.size_toArray]
    exact hb.there 0 _ (by omega)
  · rw [hput]
    exact h _ (hb.setAll cs hl) (grown_setCells w g 0 cs)
theorem wpList_runv {P : Program} {w w' : World} {ops : Array Oper} {rest : List Oper} {o : Oper} {a : Act} {Q : Exit → Act → World → Prop} {x : Value} (hgd : o.guard = none) (hrun : (execOp a.eval o).run P w = .ok (.value x) w') (h : wpList P ops Q rest (a.put o.dst x) w') : wpList P ops Q (o :: rest) a w :=
  wpList_plain hgd fun _ hK => by
    unfold Oper.wp
    rw [hrun]
    exact hK _ _ h
theorem exec_copy {P : Program} {o : Oper} {a : Act} {w w' : World} {d s : Operand} {ts : Array TypeId} {x y r : Value} (hop : o.op = .call { callee := .builtin .copy, args := #[d, s], argTypes := ts })
    (hd : a.eval d = x) (hs : a.eval s = y) (hrun : (Builtin.copy_ ts o.type #[x, y]).run P w = .ok r w') : (execOp a.eval o).run P w = .ok (.value r) w' := by
  simp [execOp, hop, resolve, invoke, builtin, hd, hs, hrun, Result.andThen]
end Go.Proofs.YtpahkaffknnjhaaGreatDoor
end

section
namespace Go.Proofs.YtpahkaffknnjhaaGreatDoor
set_option linter.unusedSimpArgs false
set_option linter.unusedVariables false
open Go.RowKit
end Go.Proofs.YtpahkaffknnjhaaGreatDoor
end

section
namespace Go.Proofs.YtpahkaffknnjhaaGreatDoor
set_option linter.unusedSimpArgs false
set_option linter.unusedVariables false
open Go
inductive Plan where
  | fin
  | take (i : Nat) (p : Plan)
  | run (e : Nat) (ag : List Nat) (p : Plan)
  | fork (p q : Plan)
def dep (l : List Oper) : Nat → Nat → Nat → Bool
  | 0, _, _ => false
  | f + 1, j, i => Nat.blt i j && (match l[j]? with | some o => o.after.toList.any fun e => Region.binds .any e && (e.on == i || dep l f e.on i) | none => false)
def valueB (o : Oper) : Bool := match o.op with
  | .move _ | .assign _ | .pick .. | .alloc _ | .box .. | .build .. | .buildSlice .. | .load .. | .nilCheck _ | .binOp .. | .unOp .. | .convert .. | .makeInterface .. | .makeSlice .. | .slice .. | .fieldAddr .. | .field .. | .indexAddr .. | .index .. | .lookup .. | .typeAssert .. | .extract .. => true
  | .call { callee := .builtin b, .. } => (match b with | .len | .cap | .max | .min => true | _ => false)
  | _ => false
def wApart (l : List Oper) (i k : Nat) : Bool := match l[i]?, l[k]? with
  | some oi, some ok => (match ok.dst with | some d => !(oi.looksAt l.toArray).contains d && oi.dst != some d | none => true)
  | _, _ => false
def heads : Plan → List Nat
  | .run e _ _ => [e]
  | .fork p q => heads p ++ heads q
  | _ => []
def okB (l : List Oper) : Bool → Plan → Nat → Array Bool → List Nat → Bool
  | _, .fin, _, listed, _ => (Region.ready .any l.toArray listed).isEmpty
  | _, .take i p, fuel + 1, listed, Y => (Region.ready .any l.toArray listed).contains i && Region.free .any l.toArray listed i &&
      (match l[i]? with | some o => valueB o && (match o.dst with | some d => !(o.looksAt l.toArray).contains d | none => false) | none => false) &&
      Y.all (fun k => wApart l k i) && okB l true p fuel (listed.setIfInBounds i true) (i :: Y)
  | top, .run e ag p, fuel + 1, listed, Y => (!top || (Region.ready .any l.toArray listed).all (fun j => e == j)) && (l[e]?).isSome && (Region.ready .any l.toArray listed).contains e &&
      Y.all (fun k => wApart l k e && (dep l l.length e k || ag.contains k)) && okB l true p fuel (listed.setIfInBounds e true) (Y.filter fun k => !dep l l.length e k)
  | top, .fork p q, fuel, listed, Y => (heads p).any (fun j => (Region.ready .any l.toArray listed).contains j) && (!top || (Region.ready .any l.toArray listed).all (fun j => (heads p ++ heads q).contains j)) && okB l false p fuel listed Y && okB l false q fuel listed Y
  | _, _, _, _, _ => false
section
variable (P : Program) (ops : Array Oper) (Q : Exit → Act → World → Prop)
def sel (i : Nat) : List Oper := match ops[i]? with | some o => [o] | none => []
def again (T : Act → World → Prop) : List Nat → Act → World → Prop
  | [], a, w => T a w
  | i :: r, a, w => ∀ Z : Exit → Act → World → Prop, (again T r a w → Z .normal a w) → wpList P ops Z (sel ops i) a w
def walk : Plan → Act → World → Prop
  | .fin, a, w => Q .normal a w
  | .take i p, a, w => ∀ Z : Exit → Act → World → Prop, (∀ a', walk p a' w → Z .normal a' w) → wpList P ops Z (sel ops i) a w
  | .run e ag p, a, w => ∀ Z : Exit → Act → World → Prop, (∀ a' w', again P ops (walk p) ag a' w' → Z .normal a' w') → wpList P ops Z (sel ops e) a w
  | .fork p q, a, w => walk p a w ∧ walk q a w
end
section
variable {P : Program} {ops : Array Oper} {Q : Exit → Act → World → Prop}
def Only (Q : Exit → Act → World → Prop) : Exit → Act → World → Prop := fun e a w => e = .normal ∧ Q .normal a w
theorem not_letsOut (Q : Exit → Act → World → Prop) : ¬ LetsOut (Only Q) := fun ⟨_, _, h, _⟩ => by cases h
theorem upon_cases {o : Oper} {a : Act} {K : Act → World → Prop} {Z : Exit → Act → World → Prop} {r : Result Next} (hZ : ∀ a w, ¬ Z .outgrown a w) (hp : ∀ c a w, ¬ Z (.panic c) a w)
    (h : o.upon P a K Z r) : (∃ v w', r = .ok (.value v) w' ∧ K (a.put o.dst v) w') ∨ (∃ w', r = .ok .skip w' ∧ K (a.put o.dst undef) w') ∨ (∃ d w', r = .ok (.defer d) w' ∧ K ({ a with defers := d :: a.defers }.put o.dst undef) w') ∨
      (∃ f args w', r = .ok (.enter f args) w' ∧ Calls P f args w' fun e w'' => ∃ v, e = .returned v ∧ K (a.put o.dst v) w'') ∨ (∃ row args w', r = .ok (.row row args) w' ∧ Rows P row args w' fun v w'' => K (a.put o.dst v) w'') := by
  cases r with
  | ok n w' =>
    cases n <;> simp only [Oper.upon] at h
    case value v => exact .inl ⟨v, w', rfl, h⟩
    case skip => exact .inr (.inl ⟨w', rfl, h⟩)
    case defer d => exact .inr (.inr (.inl ⟨d, w', rfl, h⟩))
    case enter f args =>
      refine .inr (.inr (.inr (.inl ⟨f, args, w', rfl, h.mono fun e w'' he => ?_⟩)))
      cases e with
      | returned v => exact ⟨v, rfl, he⟩
      | panicked c => exact absurd he (hp _ _ _)
      | outgrown => obtain ⟨_, _, h⟩ := he; exact absurd h (hZ _ _)
    case row row args => exact .inr (.inr (.inr (.inr ⟨row, args, w', rfl, h⟩)))
  | halt x w' =>
    cases x <;> simp only [Oper.upon] at h
    exact absurd h (hp _ _ _)
theorem upon_back {o : Oper} {a : Act} {K K' : Act → World → Prop} {Q' : Exit → Act → World → Prop} {r : Result Next} (hK : ∀ ds v w', K ({ a with defers := ds }.put o.dst v) w' → K' ({ a with defers := ds }.put o.dst v) w')
    (h : (∃ v w', r = .ok (.value v) w' ∧ K (a.put o.dst v) w') ∨ (∃ w', r = .ok .skip w' ∧ K (a.put o.dst undef) w') ∨ (∃ d w', r = .ok (.defer d) w' ∧ K ({ a with defers := d :: a.defers }.put o.dst undef) w') ∨
      (∃ f args w', r = .ok (.enter f args) w' ∧ Calls P f args w' fun e w'' => ∃ v, e = .returned v ∧ K (a.put o.dst v) w'') ∨ (∃ row args w', r = .ok (.row row args) w' ∧ Rows P row args w' fun v w'' => K (a.put o.dst v) w'')) :
    o.upon P a K' Q' r := by
  rcases h with ⟨v, w', rfl, h⟩ | ⟨w', rfl, h⟩ | ⟨d, w', rfl, h⟩ | ⟨f, args, w', rfl, h⟩ | ⟨row, args, w', rfl, h⟩
  · exact hK a.defers _ _ h
  · exact hK a.defers _ _ h
  · exact hK _ _ _ h
  · refine Calls.mono h fun e w'' he => ?_
    obtain ⟨v, rfl, hk⟩ := he
    exact hK a.defers _ _ hk
  · exact Rows.mono h fun v w'' hk => hK a.defers _ _ hk
theorem wpOp_of_list {i : Nat} {o : Oper} {a : Act} {w : World} {Z : Exit → Act → World → Prop} {K' : Act → World → Prop} {Q' : Exit → Act → World → Prop} (hi : ops[i]? = some o)
    (hK : ∀ ds v w', Z .normal ({ a with defers := ds }.put o.dst v) w' → K' ({ a with defers := ds }.put o.dst v) w') (h : wpList P ops (Only Z) [o] a w) : wpOp P ops Q' i K' a w := by
  unfold wpOp
  simp only [hi]
  unfold wpList at h
  split
  · rename_i hw
    rw [if_pos hw] at h
    rcases h with h | h
    · refine .inl (upon_back (K := fun a w => Z .normal a w) hK ?_)
      have h2 := upon_cases (fun a w h => by cases h.1) (fun c a w h => by cases h.1) h
      simpa only [wpList, Only, true_and] using h2
    · exact absurd h.2 (not_letsOut Z)
  · rename_i hw
    rw [if_neg hw] at h
    exact hK a.defers _ _ h.2
theorem run_value {α : Type} {s : Sem α} {f : α → Next} {w w' : World} {n : Next} (hf : ∀ x, ∃ v, f x = .value v) (h : (s >>= fun x => (pure (f x) : Sem Next)).run P w = .ok n w') : ∃ v, n = .value v := by
  rw [Sem.run_bind] at h
  cases hs : s.run P w with
  | ok x w1 =>
    rw [hs] at h
    simp only [Result.andThen_ok, Sem.run_pure, Result.ok.injEq] at h
    obtain ⟨v, hv⟩ := hf x
    exact ⟨v, by rw [← h.1, hv]⟩
  | halt e w1 => rw [hs] at h; cases h
theorem valueB_spec {ρ : Operand → Value} {o : Oper} (hv : valueB o = true) {w w' : World} {n : Next} (h : (execOp ρ o).run P w = .ok n w') : ∃ v, n = .value v := by
  obtain ⟨dst, op, type, pos, after, guard⟩ := o
  cases op <;> simp only [valueB] at hv <;> (try (cases hv; done)) <;> simp only [execOp] at h
  case move => simp only [Sem.run_pure, Result.ok.injEq] at h; exact ⟨_, h.1.symm⟩
  case assign => simp only [Sem.run_pure, Result.ok.injEq] at h; exact ⟨_, h.1.symm⟩
  case nilCheck x =>
    generalize ρ x = y at h
    split at h <;> (try (simp only [Sem.run_pure, Result.ok.injEq] at h; exact ⟨_, h.1.symm⟩)) <;> (try (simp only [runtimePanic, goPanic, Sem.run_bind, run_program, Result.andThen_ok, Sem.run_halt] at h; cases h; done))
    split at h <;> (try (simp only [Sem.run_pure, Result.ok.injEq] at h; exact ⟨_, h.1.symm⟩)) <;> (try (simp only [runtimePanic, goPanic, Sem.run_bind, run_program, Result.andThen_ok, Sem.run_halt] at h; cases h; done))
    rw [Sem.run_bind] at h
    simp only [run_program, Result.andThen_ok] at h
    rw [Sem.run_bind] at h
    cases hn : (nilAhead (P.types.size + Made.depth) _ _ _).run P w with
    | halt e w1 => rw [hn] at h; cases h
    | ok r w1 =>
      rw [hn] at h
      simp only [Result.andThen_ok] at h
      split at h
      · cases h
      · simp only [Sem.run_pure, Result.ok.injEq] at h; exact ⟨_, h.1.symm⟩
  case call c =>
    obtain ⟨callee, args, argTypes⟩ := c
    cases callee <;> simp only [valueB] at hv <;> (try (cases hv; done))
    rename_i b
    simp only [resolve, Sem.run_bind, Sem.run_pure, Result.andThen_ok, invoke] at h
    cases b <;> simp only at hv <;> (try (cases hv; done)) <;> simp only [builtin] at h <;> exact run_value (fun x => ⟨_, rfl⟩) h
  all_goals exact run_value (fun x => ⟨_, rfl⟩) h
theorem put_size (a : Act) (d : Option Tmp) (v : Value) : (a.put d v).tmps.size = a.tmps.size := by cases d <;> simp [Act.put]
theorem slot_put {a : Act} {t : Tmp} (v : Value) (h : t < a.tmps.size) : slotOf (a.put (some t) v) (some t) = v := by simp [slotOf, Act.put, h]
theorem slot_put_ne {a : Act} {t : Tmp} {d : Option Tmp} (v : Value) (h : d ≠ some t) : slotOf (a.put d v) (some t) = slotOf a (some t) := by
  cases d with
  | none => rfl
  | some d =>
    have hne : d ≠ t := fun e => h (by rw [e])
    simp [slotOf, Act.put, Array.getElem?_setIfInBounds_ne hne]
def Cond (P : Program) (ops : Array Oper) (o : Oper) (v : Value) (a : Act) (w' : World) : Prop := Region.wanted o (yielded ops a.tmps) = true → (execOp a.eval o).run P w' = .ok (.value v) w'
theorem Cond.put {o : Oper} {v : Value} {a : Act} {w' : World} {ds : List Deferred} {d : Option Tmp} {u : Value} (hs : ∀ cs b, o.op ≠ .select cs b) (h : ∀ t, d = some t → t ∉ o.looksAt ops)
    (hc : Cond P ops o v ({ a with defers := ds }.put d u) w') : Cond P ops o v a w' := by
  unfold Cond at *
  rw [execOp_put o hs { a with defers := ds } d u h, wanted_put o { a with defers := ds } d u h] at hc
  exact hc
def Taken (P : Program) (ops : Array Oper) (a : Act) (y : Nat × (World → Prop)) : Prop :=
  ∃ o t, ops[y.1]? = some o ∧ o.dst = some t ∧ t < a.tmps.size ∧ valueB o = true ∧ ∀ w', Cond P ops o (slotOf a (some t)) a w' → y.2 w'
theorem Taken.put {l : List Oper} {a : Act} {y : Nat × (World → Prop)} (h : Taken P l.toArray a y) (hsel : ∀ (j : Nat) (o : Oper) cs b, l.toArray[j]? = some o → o.op ≠ .select cs b) {k : Nat} {ok : Oper} (hk : l[k]? = some ok) (hw : wApart l y.1 k = true)
    (ds : List Deferred) (u : Value) : Taken P l.toArray ({ a with defers := ds }.put ok.dst u) y := by
  obtain ⟨o, t, ho, ht, hlt, hv, hS⟩ := h
  have hol : l[y.1]? = some o := by simpa using ho
  have hap : ∀ d, ok.dst = some d → d ∉ o.looksAt l.toArray ∧ o.dst ≠ some d := by
    intro d hd
    simp only [wApart, hol, hk, hd] at hw
    simpa using hw
  refine ⟨o, t, ho, ht, by rw [put_size]; exact hlt, hv, fun w' hc => hS w' ?_⟩
  rw [slot_put_ne (a := { a with defers := ds }) u (by intro e; exact (hap t e).2 ht)] at hc
  exact Cond.put (hsel _ _ · · ho) (fun d hd => (hap d hd).1) hc
def wpAnyY (P : Program) (ops : Array Oper) (dp : Nat → Nat → Bool) (Q : Exit → Act → World → Prop) : Nat → List (Nat × (World → Prop)) → Array Bool → Act → World → Prop
  | 0, _, listed, a, w => Region.ready .any ops listed = [] ∧ Q .normal a w
  | fuel + 1, Y, listed, a, w =>
    (Region.ready .any ops listed = [] → Q .normal a w) ∧
    ∀ j ∈ Region.ready .any ops listed, wpOp P ops Q j (fun a' w' => (∀ y ∈ Y, dp j y.1 = false → y.2 w') ∧ wpAnyY P ops dp Q fuel (Y.filter fun y => !dp j y.1) (listed.setIfInBounds j true) a' w') a w
theorem wpAny_of_Y {dp : Nat → Nat → Bool} : ∀ (fuel : Nat) (Y : List (Nat × (World → Prop))) (listed : Array Bool) (a : Act) (w : World), wpAnyY P ops dp Q fuel Y listed a w → wpAny P .any ops Q fuel listed a w
  | 0, _, _, _, _, h => h
  | fuel + 1, _, _, _, _, h => ⟨h.1, fun i hi => wpOp_mono (fun a' w' h' => wpAny_of_Y fuel _ _ a' w' h'.2) (h.2 i hi)⟩
theorem wpAnyY_less {dp : Nat → Nat → Bool} : ∀ (fuel : Nat) (Y Y' : List (Nat × (World → Prop))) (listed : Array Bool) (a : Act) (w : World), (∀ y ∈ Y', y ∈ Y) → wpAnyY P ops dp Q fuel Y listed a w → wpAnyY P ops dp Q fuel Y' listed a w
  | 0, _, _, _, _, _, _, h => h
  | fuel + 1, Y, Y', _, _, _, hY, h => ⟨h.1, fun i hi => wpOp_mono (fun a' w' h' => ⟨fun y hy hd => h'.1 y (hY y hy) hd, wpAnyY_less fuel _ _ _ a' w' (fun y hy => by
      rw [List.mem_filter] at hy ⊢
      exact ⟨hY y hy.1, hy.2⟩) h'.2⟩) (h.2 i hi)⟩
def Closed (ops : Array Oper) (listed : Array Bool) : Prop := ∀ j o, ops[j]? = some o → listed.getD j false = true → ∀ e ∈ o.after, Region.binds .any e = true → listed.getD e.on false = true
theorem Closed.set {listed : Array Bool} (h : Closed ops listed) {i : Nat} (hi : i ∈ Region.ready .any ops listed) : Closed ops (listed.setIfInBounds i true) := by
  intro j o hj hl e he hb
  by_cases hij : i = j
  · subst hij
    obtain ⟨_, o', ho', hall⟩ := mem_ready.1 hi
    obtain rfl : o' = o := by rw [hj] at ho'; exact (Option.some.inj ho').symm
    exact getD_set_true (hall e he hb)
  · rw [getD_set_ne false hij] at hl
    exact getD_set_true (h j o hj hl e he hb)
theorem dep_closed {l : List Oper} {listed : Array Bool} (h : Closed l.toArray listed) : ∀ (f j i : Nat), listed.getD j false = true → dep l f j i = true → listed.getD i false = true
  | 0, _, _, _, hd => by cases hd
  | f + 1, j, i, hj, hd => by
    simp only [dep, Bool.and_eq_true] at hd
    obtain ⟨-, hd⟩ := hd
    split at hd
    · rename_i o ho
      obtain ⟨e, he, hb⟩ := List.any_eq_true.1 hd
      rw [Bool.and_eq_true, Bool.or_eq_true] at hb
      have h1 := h j o (by simpa using ho) hj e (by simpa using he) hb.1
      rcases hb.2 with h2 | h2
      · have : e.on = i := by simpa using h2
        rwa [this] at h1
      · exact dep_closed h f e.on i h1 h2
    · cases hd
theorem dep_ready {l : List Oper} {listed : Array Bool} (h : Closed l.toArray listed) {f j i : Nat} (hj : j ∈ Region.ready .any l.toArray listed) (hi : listed.getD i true = false) (hne : j ≠ i) : dep l f j i = false := by
  cases hd : dep l f j i with
  | false => rfl
  | true =>
    have hjl : (listed.setIfInBounds j true).getD j false = true := by
      have h0 := (mem_ready.1 hj).1
      rcases Nat.lt_or_ge j listed.size with h' | h'
      · simp [h']
      · simp [Array.getElem?_eq_none h'] at h0
    have h1 := dep_closed (h.set hj) f j i hjl hd
    rw [getD_set_ne false hne] at h1
    rcases Nat.lt_or_ge i listed.size with h' | h'
    · simp [h'] at h1 hi; rw [h1] at hi; cases hi
    · simp [Array.getElem?_eq_none h'] at hi
theorem wpAnyY_first {l : List Oper} {f : Nat} {i : Nat} {oi : Oper} {v : Value} {S : World → Prop} (hi : l.toArray[i]? = some oi) (hsel : ∀ (j : Nat) (o : Oper) cs b, l.toArray[j]? = some o → o.op ≠ .select cs b)
    (hQ : ∀ c a w, Q (.panic c) (a.put oi.dst v) w → Q (.panic c) a w) :
    ∀ (fuel : Nat) (Y : List (Nat × (World → Prop))) (listed : Array Bool) (a : Act) (w : World), Closed l.toArray listed →
      (∀ j oj, l.toArray[j]? = some oj → j ≠ i → listed.getD j true = false → (∀ e ∈ oj.after, Region.binds .any e = true → e.on ≠ i) → oi.apart l.toArray oj = true) →
      i ∈ Region.ready .any l.toArray listed → YieldsIf P l.toArray S oi v a → S w → (∀ y ∈ Y, y.2 w) →
      wpAnyY P l.toArray (dep l f) Q fuel ((i, S) :: Y) (listed.setIfInBounds i true) (a.put oi.dst v) w → wpAnyY P l.toArray (dep l f) Q (fuel + 1) Y listed a w := by
  intro fuel
  induction fuel with
  | zero =>
    intro Y listed a w hcl _ hr hy hS hYw H
    refine ⟨fun h => (by rw [h] at hr; cases hr), fun j hj => ?_⟩
    by_cases hji : j = i
    · subst hji; exact hy.wpOp hi hS ⟨fun y hy _ => hYw y hy, H⟩
    · have := ready_mono hj hji
      rw [H.1] at this
      cases this
  | succ fuel ih =>
    intro Y listed a w hcl hfree hr hy hS hYw H
    refine ⟨fun h => (by rw [h] at hr; cases hr), fun j hj => ?_⟩
    by_cases hji : j = i
    · subst hji
      exact hy.wpOp hi hS ⟨fun y hy _ => hYw y hy, wpAnyY_less _ _ _ _ _ _ (fun y hy => List.mem_cons_of_mem _ ((List.mem_filter.1 hy).1)) H⟩
    · have h1 := H.2 j (ready_mono hj hji)
      obtain ⟨hjun, oj, hoj, hall⟩ := mem_ready.1 hj
      have hdep : dep l f j i = false := dep_ready hcl hj (mem_ready.1 hr).1 hji
      have hnot : ∀ e ∈ oj.after, Region.binds .any e = true → e.on ≠ i := fun e he hb heq => by
        have h1 := hall e he hb
        have h0 := (mem_ready.1 hr).1
        rw [heq] at h1
        rcases Nat.lt_or_ge i listed.size with h' | h'
        · simp [h'] at h0 h1; rw [h0] at h1; cases h1
        · simp [Array.getElem?_eq_none h'] at h1
      have h2 := wpOp_putIf hoj (hfree j oj hoj hji hjun hnot) (fun cs b => hsel i oi cs b hi) (fun cs b => hsel j oj cs b hoj) hQ hy h1
      have hfree' : ∀ k ok, l.toArray[k]? = some ok → k ≠ i → (listed.setIfInBounds j true).getD k true = false →
          (∀ e ∈ ok.after, Region.binds .any e = true → e.on ≠ i) → oi.apart l.toArray ok = true := fun k ok hk hki hun hno => by
        refine hfree k ok hk hki ?_ hno
        by_cases hjk : j = k
        · subst hjk; exact hjun
        · rw [getD_set_ne true hjk] at hun; exact hun
      refine wpOp_mono (fun a' w' h3 => ?_) h2
      obtain ⟨h4, h5, h6⟩ := h3
      refine ⟨fun y hy hd => h5 y (List.mem_cons_of_mem _ hy) hd, ?_⟩
      refine ih _ (listed.setIfInBounds j true) a' w' (hcl.set hj) hfree' (ready_mono hr (Ne.symm hji)) h4 (h5 (i, S) (List.mem_cons_self ..) hdep) (fun y hy => ?_) ?_
      · rw [List.mem_filter] at hy
        exact h5 y (List.mem_cons_of_mem _ hy.1) (by simpa using hy.2)
      · rw [Array.setIfInBounds_comm _ _ hji, List.filter_cons_of_pos (by simp [hdep])] at *
        exact h6
theorem sel_some {i : Nat} {o : Oper} (h : ops[i]? = some o) : sel ops i = [o] := by simp [sel, h]
theorem again_spec {T : Act → World → Prop} {a : Act} {w : World} : ∀ {ag : List Nat}, again P ops T ag a w → T a w ∧ ∀ i ∈ ag, ∀ o t, ops[i]? = some o → o.dst = some t → t < a.tmps.size → valueB o = true → Cond P ops o (slotOf a (some t)) a w
  | [], h => ⟨h, fun i hi => by cases hi⟩
  | i :: r, h => by
    have h0 : wpList P ops (Only fun _ a1 w1 => a1 = a ∧ w1 = w ∧ again P ops T r a w) (sel ops i) a w := h _ fun hr => ⟨rfl, rfl, rfl, hr⟩
    have key : again P ops T r a w ∧ ∀ o t, ops[i]? = some o → o.dst = some t → t < a.tmps.size → valueB o = true → Cond P ops o (slotOf a (some t)) a w := by
      cases hi : ops[i]? with
      | none =>
        have : sel ops i = [] := by simp [sel, hi]
        rw [this] at h0
        exact ⟨h0.2.2.2, fun o t ho => by cases ho⟩
      | some o =>
        rw [sel_some hi] at h0
        unfold wpList at h0
        by_cases hw : Region.wanted o (yielded ops a.tmps) = true
        · rw [if_pos hw] at h0
          have h1 := h0.resolve_right fun h => not_letsOut _ h.2
          have h2 := upon_cases (fun a w h => by cases h.1) (fun c a w h => by cases h.1) h1
          simp only [wpList, Only, true_and] at h2
          have h3 : again P ops T r a w := by
            rcases h2 with ⟨_, _, _, h⟩ | ⟨_, _, h⟩ | ⟨_, _, _, h⟩ | ⟨f, args, w', _, h⟩ | ⟨row, args, w', _, h⟩
            · exact h.2.2
            · exact h.2.2
            · exact h.2.2
            · obtain ⟨_, _, _, ⟨_, _, _, _, h⟩, _⟩ := h []
              exact h
            · obtain ⟨_, _, ⟨_, _, h⟩, _⟩ := h default []
              exact h
          refine ⟨h3, fun o' t ho ht hlt hv _ => ?_⟩
          obtain rfl : o = o' := Option.some.inj ho
          have hnv : ∀ {n : Next} {w' : World}, (execOp a.eval o).run P w = .ok n w' → ∃ v, n = .value v := fun h => valueB_spec hv h
          have hval : ∀ v w', (execOp a.eval o).run P w = .ok (.value v) w' → a.put o.dst v = a → w' = w → (execOp a.eval o).run P w = .ok (.value (slotOf a (some t))) w := by
            intro v w' hr hp hw'
            have : slotOf (a.put (some t) v) (some t) = v := slot_put v hlt
            rw [ht] at hp
            rw [hp] at this
            rw [hr, this, hw']
          rcases h2 with ⟨v, w', hr, h⟩ | ⟨_, hr, h⟩ | ⟨_, _, hr, h⟩ | ⟨f, args, w', hr, h⟩ | ⟨row, args, w', hr, h⟩
          · exact hval v w' hr h.1 h.2.1
          · obtain ⟨v, hv⟩ := hnv hr; cases hv
          · obtain ⟨v, hv⟩ := hnv hr; cases hv
          · obtain ⟨v, hv⟩ := hnv hr; cases hv
          · obtain ⟨v, hv⟩ := hnv hr; cases hv
        · rw [if_neg hw] at h0
          exact ⟨h0.2.2.2, fun o' t ho _ _ _ hw' => by obtain rfl : o = o' := Option.some.inj ho; exact absurd hw' hw⟩
    obtain ⟨h1, h2⟩ := again_spec key.1
    refine ⟨h1, fun k hk => ?_⟩
    cases hk with
    | head => exact key.2
    | tail _ hk => exact h2 k hk
theorem wpAnyY_done {dp : Nat → Nat → Bool} {listed : Array Bool} {Y : List (Nat × (World → Prop))} {a : Act} {w : World} (hr : Region.ready .any ops listed = []) (h : Q .normal a w) : ∀ fuel, wpAnyY P ops dp Q fuel Y listed a w
  | 0 => ⟨hr, h⟩
  | _ + 1 => ⟨fun _ => h, by rw [hr]; simp⟩
theorem wpAnyY_of_walk {l : List Oper} (hsel : ∀ (j : Nat) (o : Oper) cs b, l.toArray[j]? = some o → o.op ≠ .select cs b) :
    ∀ (p : Plan) (top : Bool) (fuel : Nat) (Y : List (Nat × (World → Prop))) (listed : Array Bool) (a : Act) (w : World), okB l top p fuel listed (Y.map (·.1)) = true → Closed l.toArray listed → (∀ y ∈ Y, y.2 w) → (∀ y ∈ Y, Taken P l.toArray a y) →
      (∀ (i : Nat) (o : Oper) (t : Tmp), l[i]? = some o → o.dst = some t → t < a.tmps.size) → walk P l.toArray Q p a w →
      (top = true → wpAnyY P l.toArray (dep l l.length) (Only Q) fuel Y listed a w) ∧
      ∀ j ∈ heads p, j ∈ Region.ready .any l.toArray listed → ∃ n, fuel = n + 1 ∧ wpOp P l.toArray (Only Q) j (fun a' w' => (∀ y ∈ Y, dep l l.length j y.1 = false → y.2 w') ∧
        wpAnyY P l.toArray (dep l l.length) (Only Q) n (Y.filter fun y => !dep l l.length j y.1) (listed.setIfInBounds j true) a' w') a w := by
  intro p
  induction p with
  | fin =>
    intro top fuel Y listed a w hok hcl hYw hT hsz hw
    refine ⟨fun _ => wpAnyY_done (by simpa [okB] using hok) ⟨rfl, hw⟩ fuel, fun j hj => by simp [heads] at hj⟩
  | take i p ih =>
    intro top fuel Y listed a w hok hcl hYw hT hsz hw
    refine ⟨fun _ => ?_, fun j hj => by simp [heads] at hj⟩
    cases fuel with
    | zero => simp [okB] at hok
    | succ n =>
      simp only [okB, Bool.and_eq_true] at hok
      obtain ⟨⟨⟨⟨hr, hf⟩, hv⟩, hY⟩, hok⟩ := hok
      cases hi : l[i]? with
      | none => rw [hi] at hv; cases hv
      | some oi =>
        have hia : l.toArray[i]? = some oi := by simpa using hi
        rw [hi] at hv
        simp only [Bool.and_eq_true] at hv
        obtain ⟨hv, hd⟩ := hv
        cases ht : oi.dst with
        | none => rw [ht] at hd; cases hd
        | some t =>
          rw [ht] at hd
          have hself : ∀ d, oi.dst = some d → d ∉ oi.looksAt l.toArray := by
            intro d hd'
            rw [ht] at hd'
            obtain rfl := Option.some.inj hd'
            simpa using hd
          have hlt := hsz i oi t hi ht
          have h0 : wpList P l.toArray (Only fun _ a1 w1 => w1 = w ∧ walk P l.toArray Q p a1 w) (sel l.toArray i) a w := hw _ fun a' h => ⟨rfl, rfl, h⟩
          rw [sel_some hia] at h0
          have hready : i ∈ Region.ready .any l.toArray listed := by simpa using hr
          obtain ⟨v, hy, hwk⟩ : ∃ v, YieldsIf P l.toArray (Cond P l.toArray oi v a) oi v a ∧ Cond P l.toArray oi v a w ∧ walk P l.toArray Q p (a.put oi.dst v) w := by
            unfold wpList at h0
            by_cases hw : Region.wanted oi (yielded l.toArray a.tmps) = true
            · rw [if_pos hw] at h0
              have h1 := h0.resolve_right fun h => not_letsOut _ h.2
              have h2 := upon_cases (fun a w h => by cases h.1) (fun c a w h => by cases h.1) h1
              simp only [wpList, Only, true_and] at h2
              rcases h2 with ⟨v, w', hr, h⟩ | ⟨_, hr, h⟩ | ⟨_, _, hr, h⟩ | ⟨f, args, w', hr, h⟩ | ⟨row, args, w', hr, h⟩
              · exact ⟨v, .inl ⟨hw, fun w' h => h hw⟩, fun _ => by rw [hr, h.1], h.2⟩
              · obtain ⟨v, hv⟩ := valueB_spec hv hr; cases hv
              · obtain ⟨v, hv⟩ := valueB_spec hv hr; cases hv
              · obtain ⟨v, hv⟩ := valueB_spec hv hr; cases hv
              · obtain ⟨v, hv⟩ := valueB_spec hv hr; cases hv
            · rw [if_neg hw] at h0
              exact ⟨undef, .inr ⟨by simpa using hw, rfl⟩, fun h => absurd h hw, h0.2.2⟩
          refine wpAnyY_first hia hsel (fun c a w h => by cases h.1) n Y listed a w hcl (Region.free_spec hia hf) hready hy hwk.1 hYw ?_
          refine (ih true n ((i, Cond P l.toArray oi v a) :: Y) _ _ w (by simpa using hok) (hcl.set hready) (fun y hy => ?_) (fun y hy => ?_) (fun i' o t h1 h2 => by rw [put_size]; exact hsz i' o t h1 h2) hwk.2).1 rfl
          · cases hy with
            | head => exact hwk.1
            | tail _ hy => exact hYw y hy
          · cases hy with
            | head =>
              refine ⟨oi, t, hia, ht, by rw [put_size]; exact hlt, hv, fun w' hc => ?_⟩
              rw [ht, slot_put v hlt, ← ht] at hc
              exact Cond.put (ds := a.defers) (hsel _ _ · · hia) hself hc
            | tail _ hy =>
              have hap := List.all_eq_true.1 hY y.1 (List.mem_map.2 ⟨y, hy, rfl⟩)
              exact Taken.put (hT y hy) hsel hi hap a.defers v
  | run e ag p ih =>
    intro top fuel Y listed a w hok hcl hYw hT hsz hw
    cases fuel with
    | zero => simp [okB] at hok
    | succ n =>
      simp only [okB, Bool.and_eq_true] at hok
      obtain ⟨⟨⟨⟨htop, hsome⟩, hre⟩, hY⟩, hok⟩ := hok
      have hB : ∀ j ∈ heads (.run e ag p), j ∈ Region.ready .any l.toArray listed → ∃ n', n + 1 = n' + 1 ∧ wpOp P l.toArray (Only Q) j (fun a' w' => (∀ y ∈ Y, dep l l.length j y.1 = false → y.2 w') ∧
          wpAnyY P l.toArray (dep l l.length) (Only Q) n' (Y.filter fun y => !dep l l.length j y.1) (listed.setIfInBounds j true) a' w') a w := by
        intro j hj hjr
        obtain rfl : j = e := by simpa [heads] using hj
        refine ⟨n, rfl, ?_⟩
        cases hi : l[j]? with
        | none => rw [hi] at hsome; cases hsome
        | some oj =>
          have hja : l.toArray[j]? = some oj := by simpa using hi
          have h0 : wpList P l.toArray (Only fun _ a1 w1 => again P l.toArray (walk P l.toArray Q p) ag a1 w1) (sel l.toArray j) a w := hw _ fun a' w' h => ⟨rfl, h⟩
          rw [sel_some hja] at h0
          refine wpOp_of_list hja (fun ds v w' h => ?_) h0
          obtain ⟨hwalk, hag⟩ := again_spec h
          have hT' : ∀ y ∈ Y, Taken P l.toArray ({ a with defers := ds }.put oj.dst v) y := fun y hy => by
            have hap := List.all_eq_true.1 hY y.1 (List.mem_map.2 ⟨y, hy, rfl⟩)
            rw [Bool.and_eq_true] at hap
            exact Taken.put (hT y hy) hsel hi hap.1 ds v
          have hobl : ∀ y ∈ Y, dep l l.length j y.1 = false → y.2 w' := fun y hy hd => by
            have hap := List.all_eq_true.1 hY y.1 (List.mem_map.2 ⟨y, hy, rfl⟩)
            rw [Bool.and_eq_true, hd, Bool.false_or] at hap
            obtain ⟨o, t, ho, ht, hlt, hv, hS⟩ := hT' y hy
            exact hS w' (hag y.1 (by simpa using hap.2) o t ho ht hlt hv)
          refine ⟨hobl, (ih true n _ _ _ w' ?_ (hcl.set hjr) (fun y hy => ?_) (fun y hy => hT' y (List.mem_filter.1 hy).1) (fun i' o t h1 h2 => by rw [put_size]; exact hsz i' o t h1 h2) hwalk).1 rfl⟩
          · rw [List.filter_map] at hok
            exact hok
          · rw [List.mem_filter] at hy
            exact hobl y hy.1 (by simpa using hy.2)
      refine ⟨fun ht => ⟨fun h0 => ?_, fun j hj => ?_⟩, hB⟩
      · rw [h0] at hre; cases hre
      · rw [ht] at htop
        have : e = j := by
          have h2 : ((Region.ready .any l.toArray listed).all fun j => e == j) = true := by simpa using htop
          have h1 := List.all_eq_true.1 h2 j hj
          simpa using h1
        subst this
        obtain ⟨n', hn, h⟩ := hB e (by simp [heads]) hj
        obtain rfl : n = n' := by omega
        exact h
  | fork p q ihp ihq =>
    intro top fuel Y listed a w hok hcl hYw hT hsz hw
    simp only [okB, Bool.and_eq_true] at hok
    obtain ⟨⟨⟨hany, htop⟩, hp⟩, hq⟩ := hok
    have h1 := (ihp false fuel Y listed a w hp hcl hYw hT hsz hw.1).2
    have h2 := (ihq false fuel Y listed a w hq hcl hYw hT hsz hw.2).2
    have hB : ∀ j ∈ heads (.fork p q), j ∈ Region.ready .any l.toArray listed → ∃ n, fuel = n + 1 ∧ wpOp P l.toArray (Only Q) j (fun a' w' => (∀ y ∈ Y, dep l l.length j y.1 = false → y.2 w') ∧
        wpAnyY P l.toArray (dep l l.length) (Only Q) n (Y.filter fun y => !dep l l.length j y.1) (listed.setIfInBounds j true) a' w') a w := by
      intro j hj hjr
      rcases List.mem_append.1 hj with h | h
      · exact h1 j h hjr
      · exact h2 j h hjr
    refine ⟨fun ht => ?_, hB⟩
    obtain ⟨j, hj, hjr⟩ := List.any_eq_true.1 hany
    have hjr' : j ∈ Region.ready .any l.toArray listed := by simpa using hjr
    obtain ⟨n, rfl, _⟩ := h1 j hj hjr'
    rw [ht] at htop
    have h3 : ((Region.ready .any l.toArray listed).all fun j => (heads p ++ heads q).contains j) = true := by simpa using htop
    refine ⟨fun h0 => (by rw [h0] at hjr'; cases hjr'), fun k hk => ?_⟩
    obtain ⟨n', hn, h⟩ := hB k (by have := List.all_eq_true.1 h3 k hk; simpa [heads] using this) hk
    obtain rfl : n = n' := by omega
    exact h
theorem wpOp_only {i : Nat} {a : Act} {w : World} {K : Act → World → Prop} (h : wpOp P ops (Only Q) i K a w) : wpOp P ops Q i K a w := by
  unfold wpOp at *
  split
  · rename_i ho; simp only [ho] at h; exact h
  · rename_i o ho
    simp only [ho] at h
    split
    · rename_i hw
      simp only [hw, if_true] at h
      have h1 := h.resolve_right fun h => not_letsOut _ h.2
      exact .inl (upon_back (fun _ _ _ h => h) (upon_cases (fun a w h => by cases h.1) (fun c a w h => by cases h.1) h1))
    · rename_i hw
      simp only [hw] at h
      exact h
theorem wpAny_only : ∀ (fuel : Nat) (listed : Array Bool) (a : Act) (w : World), wpAny P .any ops (Only Q) fuel listed a w → wpAny P .any ops Q fuel listed a w
  | 0, _, _, _, h => ⟨h.1, h.2.2⟩
  | fuel + 1, _, _, _, h => ⟨fun h0 => (h.1 h0).2, fun i hi => wpOp_mono (fun a' w' h' => wpAny_only fuel _ a' w' h') (wpOp_only (h.2 i hi))⟩
def sizesB (l : List Oper) (n : Nat) : Bool := l.all fun o => match o.dst with | some t => Nat.blt t n | none => true
theorem wp_region_plan {id : Nat} {l : List Oper} {a : Act} {w : World} (p : Plan) (hm : P.follows .mixedOrders = true) (hs : Region.noSelect l.toArray = true) (hz : sizesB l a.tmps.size = true)
    (hok : okB l true p l.length (Array.replicate l.length false) [] = true) (h : walk P l.toArray Q p a w.drew) : (Code.region id l.toArray true).wp P Q a w := by
  refine wp_region_any hm (wpAny_only _ _ _ _ (wpAny_of_Y (dp := dep l l.length) _ [] _ _ _ ?_))
  have hsz : ∀ (i : Nat) (o : Oper) (t : Tmp), l[i]? = some o → o.dst = some t → t < a.tmps.size := by
    intro i o t hi ht
    have := List.all_eq_true.1 hz o (List.mem_of_getElem? hi)
    rw [ht] at this
    simpa using this
  have := (wpAnyY_of_walk (P := P) (Q := Q) (l := l) (Region.noSelect_spec hs) p true l.length [] (Array.replicate l.length false) a w.drew (by simpa using hok) (fun j o _ hj => by
      simp [Array.getD_eq_getD_getElem?, Array.getElem?_replicate] at hj
      split at hj <;> simp at hj) (fun y hy => by cases hy) (fun y hy => by cases hy) hsz h).1 rfl
  simpa using this
end
end Go.Proofs.YtpahkaffknnjhaaGreatDoor
end

section
namespace Go.Proofs.YtpahkaffknnjhaaGreatDoor
set_option linter.unusedSimpArgs false
set_option linter.unusedVariables false
open Go.RowKit
theorem EOwn.ne_blk {α : Type} {E : Elem α} {w : World} {B c g : Nat} {A : Option Addr} {L : List α} {T : TypeId} {cs : List Value} (h : EOwn E w B A c L) (hb : Blk w g T cs) (hT : T ≠ E.e) : ∀ a, A = some a → a.block ≠ g := by
  rintro a ha rfl
  rcases h.form with ⟨rfl, _⟩ | ⟨g', rfl, _, _, _, _, cur, hg⟩
  · cases ha
  · obtain rfl := Option.some.inj ha
    rw [hb] at hg
    simp at hg
    exact hT hg.2
theorem Below.alloc1 (w : World) (o : Obj) : Below w.heap.size w (w.alloc o) := (Below.refl _ _).alloc (Nat.le_refl _) o
theorem _root_.Go.RowKit.Below.drewR {B : Nat} {w W : World} (h : Below B w W) : Below B w W.drew := ⟨h.os, h.tape, h.output, h.size, h.block⟩
theorem _root_.Go.RowKit.Below.then {w w1 w2 : World} (h : Below w.heap.size w w1) (k : Below w1.heap.size w1 w2) : Below w.heap.size w w2 := h.trans (k.mono h.size)
theorem below_of_grown {B : Nat} {w0 w w' : World} {g : Nat} (h : Below B w0 w) (hg : w.grownBy w' (some g)) (hB : B ≤ g) (hs : B ≤ w.heap.size) : Below B w0 w' :=
  h.grown hg hs fun k hk => by obtain rfl := Option.some.inj hk; exact hB
theorem cut_join (l m : List UInt8) : ByteArray.mk l.toArray ++ ByteArray.mk m.toArray = ⟨(l ++ m).toArray⟩ := by
  apply ByteArray.ext
  simp
section
variable {α : Type} {S : Nat → Prop} {E : Elem α} {w w' w0 : World} {A : Option Addr} {L : List α} {g : Nat}
end
end Go.Proofs.YtpahkaffknnjhaaGreatDoor
end

section
namespace Go.Proofs.YtpahkaffknnjhaaGreatDoor
set_option linter.unusedSimpArgs false
set_option linter.unusedVariables false
open Go.RowKit
def Va.cells (a : Va) : List Value := [.int .i64 a.k, .int .i64 a.n, .float .f64 a.f, txt a.s]
def Va.v (a : Va) : Value := .agg #[.int .i64 a.k, .int .i64 a.n, .float .f64 a.f, txt a.s]
def eVa : Elem Va where
  e := 64
  t := 37
  sz := 4
  bytes := 40
  zero := .agg #[.int .i64 0, .int .i64 0, .float .f64 0, .string ByteArray.empty]
  code := fun x => x.cells
  pos := by decide
  few := by decide
  len := fun _ => rfl
  one := by
    intro x u hu
    simp [Va.cells] at hu
    rcases hu with rfl | rfl | rfl | rfl <;> rfl
  zsz := rfl
  info := by kernel_rfl
  under := Tryz.underlying37
section
variable {P : Program}
theorem load_va {w : World} {g o : Nat} {a : Va} (h0 : w.cell? ⟨g, o, none⟩ = some (.int .i64 a.k)) (h1 : w.cell? ⟨g, o + 1, none⟩ = some (.int .i64 a.n)) (h2 : w.cell? ⟨g, o + 2, none⟩ = some (.float .f64 a.f)) (h3 : w.cell? ⟨g, o + 3, none⟩ = some (txt a.s)) :
    (loadVar 64 ⟨g, o, none⟩).run Tryz.prog w = .ok a.v w := by
  unfold Va.v
  go_simp
end
theorem Blk.va {w : World} {g : Nat} {t : TypeId} {a : Va} (h : Blk w g t a.cells) : (loadVar 64 ⟨g, 0, none⟩).run Tryz.prog w = .ok a.v w := load_va (h.cell 0) (h.cell 1) (h.cell 2) (h.cell 3)
def RetV (w : World) (a : Va) (e : Ending) (w' : World) : Prop := e = .returned a.v ∧ Below w.heap.size w w'
theorem Va.cells_one (a : Va) : ∀ u ∈ a.cells, u.oneCell' = true := eVa.one a
theorem va_zero (W : World) : (zeroValue 64).run Tryz.prog W = .ok Key.nul.v W := (zero_of_info (P := Tryz.prog) (t := 64) (v := Key.nul.v) (n := 4) (by kernel_rfl)).1 W
theorem va_info : (Tryz.prog.info? 64).map (·.size) = some 4 := by kernel_rfl
section
variable {w : World} {ops : Array Oper} {rest : List Oper} {o : Oper} {a : Act} {Q : Exit → Act → World → Prop}
theorem wpList_alloc_va (hgd : o.guard = none) (hop : o.op = .alloc 64)
    (h : ∀ W, Blk W w.heap.size 64 Key.nul.cells → w.heap.size + 1 ≤ W.heap.size → Below w.heap.size w W → wpList Tryz.prog ops Q rest (a.put o.dst (.pointer (some ⟨w.heap.size, 0, none⟩))) W) : wpList Tryz.prog ops Q (o :: rest) a w :=
  wpList_alloc_z hgd 64 hop (va_zero _) fun W hW => by
    obtain ⟨h1, h2, h3⟩ := fresh1 (a := Key.nul.cells) hW
    exact h W h1 h2 h3
theorem wpList_store_va (hgd : o.guard = none) (hod : o.dst = none) (x y : Operand) (hop : o.op = .store 64 x y) (g : Nat) (hx : a.eval x = .pointer (some ⟨g, 0, none⟩)) (b : Va) (hy : a.eval y = b.v) {T0 : TypeId} {old : Va} (hb : Blk w g T0 old.cells)
    (h : ∀ W, Blk W g T0 b.cells → w.grownBy W (some g) → wpList Tryz.prog ops Q rest a W) : wpList Tryz.prog ops Q (o :: rest) a w :=
  wpList_store_blk hgd hod 64 x y hop g hx b.cells hy hb rfl va_info b.cells_one h
theorem wpList_load_va (hgd : o.guard = none) (x : Operand) (hop : o.op = .load 64 x) (g : Nat) (hx : a.eval x = .pointer (some ⟨g, 0, none⟩)) {T0 : TypeId} {b : Va} (hb : Blk w g T0 b.cells)
    (h : wpList Tryz.prog ops Q rest (a.put o.dst b.v) w) : wpList Tryz.prog ops Q (o :: rest) a w :=
  wpList_load_mid hgd 64 x hop g 0 hx b.cells _ (hb.range 0 b.cells fun j _ => by rw [Nat.zero_add]) Tryz.underlying64 rfl va_info h
theorem wpList_load_va_row (hgd : o.guard = none) (x : Operand) (hop : o.op = .load 64 x) {A : Option Addr} {L : List Va} (hr : ERow eVa w A L) {j : Nat} (hj : j < L.length) (hx : ∀ b o, A = some ⟨b, o, none⟩ → a.eval x = .pointer (some ⟨b, o + j * 4, none⟩))
    (h : wpList Tryz.prog ops Q rest (a.put o.dst L[j].v) w) : wpList Tryz.prog ops Q (o :: rest) a w := by
  obtain ⟨b, off, rfl, hb, hrg⟩ := hr.range hj
  exact wpList_load_mid hgd 64 x hop b (off + j * 4) (hx b off rfl) L[j].cells _ hrg Tryz.underlying64 rfl va_info h
theorem wpList_box_va (hgd : o.guard = none) (x : Operand) (hop : o.op = .box 64 x) (b : Va) (hx : a.eval x = b.v)
    (h : ∀ W, Blk W w.heap.size 64 b.cells → w.heap.size + 1 ≤ W.heap.size → Below w.heap.size w W → wpList Tryz.prog ops Q rest (a.put o.dst (.pointer (some ⟨w.heap.size, 0, none⟩))) W) : wpList Tryz.prog ops Q (o :: rest) a w :=
  wpList_plain hgd fun _ hK => by
    unfold Oper.wp execOp
    have e : (Instr.box 64 b.v).run Tryz.prog w = .ok (.pointer (some ⟨w.heap.size, 0, none⟩)) (w.alloc (.cells b.cells.toArray 64)) := by
      simp [Instr.box, Sem.run_bind, newVar, newRow]
      rfl
    simp only [hop, hx, Sem.run_bind, e, Result.andThen_ok, Sem.run_pure]
    obtain ⟨h1, h2, h3⟩ := fresh1 (w := w) (a := b.cells) (t := 64) rfl
    exact hK _ _ (h _ h1 h2 h3)
end
theorem ret_va {fn : Func} {R : Ending → World → Prop} {a : Act} {w : World} {p : Tmp} {g : Nat} {T0 : TypeId} {b : Va} (hb : Blk w g T0 b.cells) (h : fn.results = #[.cell p 64]) (hd : a.defers = [])
    (hp : a.tmps.getD p undef = .pointer (some ⟨g, 0, none⟩)) (hR : R (.returned b.v) w) : bodyPost Tryz.prog fn R .ret a w :=
  ret_mem1 h hd hp hb.va hR
set_option maxRecDepth 20000 in
set_option maxHeartbeats 1000000 in
theorem ofint_any (w : World) (n : Int) : Calls Tryz.prog 96 #[.int .i64 n] w (RetV w ⟨1, n, 0, []⟩) := by
  go_enter Tryz.func96, Tryz.ntmps96
  go_wp2_with (first | (refine wpList_alloc_va rfl rfl ?_; intro W1 hb1 hz1 hB1) | (refine wpList_store_va rfl rfl (.tmp 2) (.tmp 4) rfl w.heap.size rfl ⟨1, n, 0, []⟩ rfl hb1 ?_; intro W2 hb2 hg2))
  exact ret_va hb2 rfl rfl rfl ⟨rfl, below_of_grown hB1 hg2 (Nat.le_refl _) (by omega)⟩
set_option maxRecDepth 20000 in
set_option maxHeartbeats 1000000 in
theorem oftext_any (w : World) (s : List UInt8) : Calls Tryz.prog 98 #[txt s] w (RetV w ⟨3, 0, 0, s⟩) := by
  unfold txt
  go_enter Tryz.func98, Tryz.ntmps98
  go_wp2_with (first | (refine wpList_alloc_va rfl rfl ?_; intro W1 hb1 hz1 hB1) | (refine wpList_store_va rfl rfl (.tmp 2) (.tmp 4) rfl w.heap.size rfl ⟨3, 0, 0, s⟩ rfl hb1 ?_; intro W2 hb2 hg2))
  exact ret_va hb2 rfl rfl rfl ⟨rfl, below_of_grown hB1 hg2 (Nat.le_refl _) (by omega)⟩
set_option maxRecDepth 20000 in
set_option maxHeartbeats 1000000 in
theorem ofbool_any (w : World) (x : Bool) : Calls Tryz.prog 67 #[.bool x] w (RetV w ⟨4, if x then 1 else 0, 0, []⟩) := by
  go_enter Tryz.func67, Tryz.ntmps67
  go_upto_region 1 with (refine wpList_alloc_va rfl rfl ?_; intro W1 hb1 hz1 hB1)
  go_upto_region 2 with (first | (refine wpList_alloc_va rfl rfl ?_; intro W2 hb2 hz2 hB2) | (refine wpList_store_va rfl rfl (.tmp 3) (.tmp 4) rfl W1.heap.size rfl ⟨4, 0, 0, []⟩ rfl hb2 ?_; intro W3 hb3 hg3))
  have hB3 : Below w.heap.size w W3 := below_of_grown (hB1.trans (hB2.mono hB1.size)) hg3 hB1.size (by omega)
  have h13 : Blk W3 w.heap.size 64 Key.nul.cells := (hb1.below hB2).grown hg3 (by simp; omega)
  have hz3 := hg3.size
  have hz1' : w.heap.size + 2 ≤ W3.heap.size := by omega
  clear hb1 hB1 hB2 hg3 hb2 hz3 hz2
  cases x
  · go_wp2_with (first | (refine wpList_load_va rfl (.tmp 3) rfl W1.heap.size rfl hb3 ?_) | (refine wpList_store_va rfl rfl (.tmp 2) (.tmp 7) rfl w.heap.size rfl ⟨4, 0, 0, []⟩ rfl h13 ?_; intro W4 hb4 hg4))
    exact ret_va hb4 rfl rfl rfl ⟨rfl, below_of_grown hB3 hg4 (Nat.le_refl _) (by omega)⟩
  · obtain ⟨-, e1, -, -, -, f1, -⟩ := Blk.c4 hb3
    go_upto_region 4 with fail
    have hb5 : Blk (W3.setCell ⟨W1.heap.size, 1, none⟩ (.int .i64 1)) W1.heap.size 64 (Va.cells ⟨4, 1, 0, []⟩) := hb3.set1
    have h15 := h13.other ⟨W1.heap.size, 1, none⟩ (by show w.heap.size ≠ W1.heap.size; omega) (.int .i64 1)
    have hB5 := hB3.setCell (p := ⟨W1.heap.size, 1, none⟩) (by show w.heap.size ≤ W1.heap.size; omega) (.int .i64 1)
    clear e1 f1 hb3 h13 hB3
    go_wp2_with (first | (refine wpList_load_va rfl (.tmp 3) rfl W1.heap.size rfl hb5 ?_) | (refine wpList_store_va rfl rfl (.tmp 2) (.tmp 7) rfl w.heap.size rfl ⟨4, 1, 0, []⟩ rfl h15 ?_; intro W4 hb4 hg4))
    exact ret_va hb4 rfl rfl rfl ⟨rfl, below_of_grown hB5 hg4 (Nat.le_refl _) (by simp; omega)⟩
set_option maxRecDepth 20000 in
theorem isnan_any (w : World) (f : Nat) (hf : f < two64) : Calls Tryz.prog 57 #[.float .f64 f] w fun e w' => e = .returned (.bool (decide (fnan f))) ∧ w' = w := by
  have HF := Lib.hid (ford_self hf)
  clear hf
  go_enter Tryz.func57, Tryz.ntmps57
  go_wp2_with fail
  go_ret
  exact ⟨by rw [← HF.out]; rfl, rfl⟩
set_option maxRecDepth 20000 in
theorem nan_any (w : World) : Calls Tryz.prog 131 #[] w fun e w' => e = .returned (.float .f64 9221120237041090561) ∧ w' = w := by
  go_enter Tryz.func131, Tryz.ntmps131
  go_wp2
  have hx : (Extern.MathFloatBits.float64frombits #[.int .u64 9221120237041090561]).run Tryz.prog w = .ok (.float .f64 9221120237041090561) w := rfl
  rw [run_callFunc_extern Tryz.func154 (by kernel_rfl) (by kernel_rfl) (by kernel_rfl) (e := Extern.MathFloatBits.float64frombits) (by kernel_rfl), hx]
  simp only [Result.andThen]
  rw [Oper.upon_value]
  go_wp2
  go_ret
  exact ⟨rfl, rfl⟩
set_option maxRecDepth 20000 in
set_option maxHeartbeats 1000000 in
theorem ofreal_any (w : World) (f : Nat) (hf : f < two64) : Calls Tryz.prog 97 #[.float .f64 f] w (RetV w ⟨2, 0, Key.real1 f, []⟩) := by
  have HF := Lib.hid hf
  have HZ := Lib.hid (ford_zero hf)
  clear hf
  go_enter Tryz.func97, Tryz.ntmps97
  go_upto_region 1 with (refine wpList_alloc_va rfl rfl ?_; intro W1 hb1 hz1 hB1)
  go_wp2_with fail
  refine (isnan_any _ f HF.out).mono ?_
  rintro e w1 ⟨rfl, rfl⟩
  by_cases hn : fnan f
  · have hr : Key.real1 f = 9221120237041090561 := by unfold Key.real1; rw [if_pos hn]
    have HR := Lib.hid hr
    have hd : decide (fnan f) = true := by simp [hn]
    rw [hd]
    clear hr hn
    go_wp2_with fail
    refine (nan_any _).mono ?_
    rintro e w1 ⟨rfl, rfl⟩
    go_wp2_with (refine wpList_store_va rfl rfl (.tmp 2) (.tmp 11) rfl w.heap.size rfl ⟨2, 0, 9221120237041090561, []⟩ rfl hb1 ?_; intro W4 hb4 hg4)
    exact ret_va hb4 rfl rfl rfl ⟨by show Ending.returned (Va.v ⟨2, 0, _, []⟩) = .returned (Va.v ⟨2, 0, Key.real1 f, []⟩); rw [HR.out], below_of_grown hB1 hg4 (Nat.le_refl _) (by omega)⟩
  · have hd : decide (fnan f) = false := by simp [hn]
    rw [hd]
    by_cases hz : f % 9223372036854775808 = 0
    · have HR : Hid (Key.real1 f = 0) := by show _ = _; unfold Key.real1; rw [if_neg hn, if_pos hz]
      have ho : (FloatKind.f64.format.order f 0 == some Ordering.eq) = true := HZ.out.trans (decide_eq_true hz)
      clear hn hz HZ HF
      go_wp2_with (refine wpList_store_va rfl rfl (.tmp 2) (.tmp 11) rfl w.heap.size rfl ⟨2, 0, 0, []⟩ rfl hb1 ?_; intro W4 hb4 hg4)
      exact ret_va hb4 rfl rfl rfl ⟨by show Ending.returned (Va.v ⟨2, 0, _, []⟩) = .returned (Va.v ⟨2, 0, Key.real1 f, []⟩); rw [HR.out], below_of_grown hB1 hg4 (Nat.le_refl _) (by omega)⟩
    · have HR : Hid (Key.real1 f = f) := by show _ = _; unfold Key.real1; rw [if_neg hn, if_neg hz]
      have ho : (FloatKind.f64.format.order f 0 == some Ordering.eq) = false := HZ.out.trans (decide_eq_false hz)
      clear hn hz HZ HF
      go_wp2_with (refine wpList_store_va rfl rfl (.tmp 2) (.tmp 11) rfl w.heap.size rfl ⟨2, 0, f, []⟩ rfl hb1 ?_; intro W4 hb4 hg4)
      exact ret_va hb4 rfl rfl rfl ⟨by show Ending.returned (Va.v ⟨2, 0, _, []⟩) = .returned (Va.v ⟨2, 0, Key.real1 f, []⟩); rw [HR.out], below_of_grown hB1 hg4 (Nat.le_refl _) (by omega)⟩
theorem Va.clean1 {a : Va} (h : a.k = 1) : Key.clean a = ⟨1, a.n, 0, []⟩ := by unfold Key.clean Key.cleanF; rw [if_pos h]
theorem Va.clean2 {a : Va} (h : a.k = 2) : Key.clean a = ⟨2, 0, Key.real1 a.f, []⟩ := by unfold Key.clean Key.cleanF; rw [if_neg (by omega), if_pos h]
theorem Va.clean3 {a : Va} (h : a.k = 3) : Key.clean a = ⟨3, 0, 0, a.s⟩ := by unfold Key.clean Key.cleanF; rw [if_neg (by omega), if_neg (by omega), if_pos h]
theorem Va.clean4 {a : Va} (h : a.k = 4) : Key.clean a = ⟨4, if a.n = 0 then 0 else 1, 0, []⟩ := by unfold Key.clean Key.cleanF; rw [if_neg (by omega), if_neg (by omega), if_neg (by omega), if_pos h]
theorem Va.clean0 {a : Va} (h1 : a.k ≠ 1) (h2 : a.k ≠ 2) (h3 : a.k ≠ 3) (h4 : a.k ≠ 4) : Key.clean a = Key.nul := by unfold Key.clean Key.cleanF; rw [if_neg h1, if_neg h2, if_neg h3, if_neg h4]
set_option maxRecDepth 20000 in
set_option maxHeartbeats 1000000 in
theorem clean_any (w : World) (v : Va) (hv : v.ok) : Calls Tryz.prog 54 #[v.v] w (RetV w (Key.clean v)) := by
  have HF : Hid (v.f < two64) := hv.f1
  clear hv
  go_enter Tryz.func54, Tryz.ntmps54
  go_upto_region 1 with (first | (refine wpList_alloc_va rfl rfl ?_; intro W2 hb2 hz2 hB2) | (refine wpList_box_va rfl (.tmp 0) rfl v rfl ?_; intro W1 hb1 hz1 hB1))
  have h12 := hb1.below hB2
  have hB := hB1.trans (hB2.mono hB1.size)
  clear hb1 hB1 hB2
  obtain ⟨c0, c1, c2, c3, -⟩ := Blk.c4 h12
  go_upto_region 2 with fail
  by_cases k1 : v.k = 1
  · have HC := Lib.hid (Va.clean1 k1)
    go_wp2_with fail
    refine (ofint_any _ v.n).mono ?_
    rintro e W3 ⟨rfl, hB3⟩
    have hb3 := hb2.below hB3
    have hB3' := hB.trans (hB3.mono hB.size)
    clear c0 c1 c2 c3
    go_wp2_with (refine wpList_store_va rfl rfl (.tmp 2) (.tmp 9) rfl W1.heap.size rfl ⟨1, v.n, 0, []⟩ rfl hb3 ?_; intro W4 hb4 hg4)
    exact ret_va hb4 rfl rfl rfl ⟨by show Ending.returned (Va.v _) = .returned (Va.v (Key.clean v)); rw [HC.out], below_of_grown hB3' hg4 (by omega) hB3'.size⟩
  by_cases k2 : v.k = 2
  · have HC := Lib.hid (Va.clean2 k2)
    go_wp2_with fail
    refine (ofreal_any _ v.f HF.out).mono ?_
    rintro e W3 ⟨rfl, hB3⟩
    have hb3 := hb2.below hB3
    have hB3' := hB.trans (hB3.mono hB.size)
    clear c0 c1 c2 c3
    go_wp2_with (refine wpList_store_va rfl rfl (.tmp 2) (.tmp 14) rfl W1.heap.size rfl ⟨2, 0, Key.real1 v.f, []⟩ rfl hb3 ?_; intro W4 hb4 hg4)
    exact ret_va hb4 rfl rfl rfl ⟨by show Ending.returned (Va.v _) = .returned (Va.v (Key.clean v)); rw [HC.out], below_of_grown hB3' hg4 (by omega) hB3'.size⟩
  by_cases k3 : v.k = 3
  · have HC := Lib.hid (Va.clean3 k3)
    go_wp2_with fail
    refine (oftext_any _ v.s).mono ?_
    rintro e W3 ⟨rfl, hB3⟩
    have hb3 := hb2.below hB3
    have hB3' := hB.trans (hB3.mono hB.size)
    clear c0 c1 c2 c3
    go_wp2_with (refine wpList_store_va rfl rfl (.tmp 2) (.tmp 19) rfl W1.heap.size rfl ⟨3, 0, 0, v.s⟩ rfl hb3 ?_; intro W4 hb4 hg4)
    exact ret_va hb4 rfl rfl rfl ⟨by show Ending.returned (Va.v _) = .returned (Va.v (Key.clean v)); rw [HC.out], below_of_grown hB3' hg4 (by omega) hB3'.size⟩
  by_cases k4 : v.k = 4
  · have HC : Hid (Key.clean v = ⟨4, if (v.n != 0) = true then 1 else 0, 0, []⟩) := by
      show _ = _
      rw [Va.clean4 k4]
      by_cases hn : v.n = 0 <;> simp [hn]
    go_wp2_with fail
    refine (ofbool_any _ _).mono ?_
    generalize (if (v.n != 0) = true then (1 : Int) else 0) = m at HC ⊢
    rintro e W3 ⟨rfl, hB3⟩
    have hb3 := hb2.below hB3
    have hB3' := hB.trans (hB3.mono hB.size)
    clear c0 c1 c2 c3
    go_wp2_with (refine wpList_store_va rfl rfl (.tmp 2) (.tmp 25) rfl W1.heap.size rfl ⟨4, m, 0, []⟩ rfl hb3 ?_; intro W4 hb4 hg4)
    exact ret_va hb4 rfl rfl rfl ⟨by show Ending.returned (Va.v _) = .returned (Va.v (Key.clean v)); rw [HC.out], below_of_grown hB3' hg4 (by omega) hB3'.size⟩
  · have HC := Lib.hid (Va.clean0 k1 k2 k3 k4)
    have d1 : (v.k == 1) = false := by simpa using k1
    have d2 : (v.k == 2) = false := by simpa using k2
    have d3 : (v.k == 3) = false := by simpa using k3
    have d4 : (v.k == 4) = false := by simpa using k4
    go_wp2_with (refine wpList_store_va rfl rfl (.tmp 2) (.tmp 26) rfl W1.heap.size rfl Key.nul rfl hb2 ?_; intro W4 hb4 hg4)
    exact ret_va hb4 rfl rfl rfl ⟨by show Ending.returned (Va.v _) = .returned (Va.v (Key.clean v)); rw [HC.out], below_of_grown hB hg4 (by omega) hB.size⟩
end Go.Proofs.YtpahkaffknnjhaaGreatDoor
end

section
namespace Go.Proofs.YtpahkaffknnjhaaGreatDoor
set_option linter.unusedSimpArgs false
set_option linter.unusedVariables false
open Go.RowKit
theorem sizeOf_u8 (w : World) : (sizeOf 5).run Tryz.prog w = .ok 1 w := by
  obtain ⟨i, hi, hz, hs, hby⟩ := info_parts info8
  simp [sizeOf, typeInfo, hi, hs]
theorem elem_u8 : Tryz.prog.elem 32 = 5 := by kernel_rfl
theorem row_cutA {w : World} {A : Option Addr} {l : List UInt8} (h : BRow w A l) (c i n : Nat) (hn : i + n ≤ c) : BRow w (if c = i then A else A.map (·.add (i * 1))) ((l.drop i).take n) := by
  by_cases hc : c = i
  · obtain rfl : n = 0 := by omega
    rw [List.take_zero]
    exact BRow.nil
  · rw [if_neg hc, Nat.mul_one]
    exact (h.drop i).take n
theorem cut_l {w0 : World} {A : Option Addr} {l : List UInt8} (h : BRow w0 A l) (c : Nat) (lo : Int) (i : Nat) (e1 : lo = (i : Int)) (hi : i ≤ l.length) (hc : l.length ≤ c) :
    ∃ As cs, (∀ w, (Instr.slice 32 (.slice A l.length c) (some (.int .i64 lo)) none none).run Tryz.prog w = .ok (.slice As (l.length - i) cs) w) ∧ BRow w0 As (l.drop i) ∧ l.length - i ≤ cs ∧ cs ≤ c ∧ (∀ a, As = some a → ∃ x, A = some x ∧ a.block = x.block) := by
  subst e1
  have hr := row_cutA h c i (l.length - i) (by omega)
  rw [List.take_of_length_le (by simp)] at hr
  refine ⟨if c = i then A else A.map (·.add (i * 1)), c - i, fun w => ?_, hr, by omega, by omega, fun a ha => ?_⟩
  · rw [run_slice_l (P := Tryz.prog) w 32 A l.length c (by rw [elem_u8]; exact Tryz.underlying32) .i64 i (by omega) (by omega), elem_u8, sizeOf_u8]
    simp [sliced]
  · split at ha
    · exact ⟨a, ha, rfl⟩
    · cases A with
      | none => simp at ha
      | some x =>
        simp only [Option.map_some, Option.some.injEq] at ha
        refine ⟨x, rfl, ?_⟩
        rw [← ha]
        unfold Addr.add
        split <;> rfl
end Go.Proofs.YtpahkaffknnjhaaGreatDoor
end

section
namespace Go.Proofs.YtpahkaffknnjhaaGreatDoor
set_option linter.unusedSimpArgs false
set_option linter.unusedVariables false
open Go.RowKit
structure Part where
  a : Option Addr
  c : Nat
  l : List UInt8
def Part.v (p : Part) : Value := .slice p.a p.l.length p.c
def Part.ok (w : World) (p : Part) : Prop := BRow w p.a p.l ∧ p.l.length ≤ 9223372036854775807
theorem take_flat (ps : List Part) (k : Nat) (hk : k < ps.length) : (ps.take (k + 1)).flatMap (·.l) = (ps.take k).flatMap (·.l) ++ ps[k].l := by
  rw [List.take_succ_eq_append_getElem hk, List.flatMap_append]; simp
end Go.Proofs.YtpahkaffknnjhaaGreatDoor
end

section
namespace Go.Proofs.YtpahkaffknnjhaaGreatDoor
set_option linter.unusedSimpArgs false
set_option linter.unusedVariables false
open Go.RowKit
set_option maxHeartbeats 1000000 in
theorem bgrow_any (w : World) (n : Nat) (hn : n ≤ 1000000) :
    Calls Tryz.prog 99 #[.slice none 0 0, .int .i64 n] w fun e w' => ∃ A c, e = .returned (.slice A 0 c) ∧ BOwn w' w.heap.size A c [] ∧ Below w.heap.size w w' := by
  rcases Nat.eq_zero_or_pos n with rfl | h0
  · go_enter Tryz.func99, Tryz.ntmps99
    go_wp2_with fail
    go_ret
    exact ⟨none, 0, rfl, BOwn.nil _ _, Below.refl _ _⟩
  obtain ⟨i, hi, hz, hsi, hby⟩ := info_parts info8
  have hrun := Lib.run_append_nil_zeros (P := Tryz.prog) w 32 3 32 5 i _ .i64 .i64 Tryz.underlying32 Tryz.underlying3 hi hz n h0 (by omega) (by omega) (by rw [hby]; omega)
  have hni : ¬ (n : Int) < 0 := by omega
  have hpos : (0 : Int) < (n : Int) := by omega
  have hc1 := grownCap_ge w n 0 5
  have hc2 := grownCap_le_maxLen w n 0 5 (by simp [maxLen]; omega)
  generalize grownCap w n 0 5 = c at hrun hc1 hc2
  go_enter Tryz.func99, Tryz.ntmps99
  go_wp2_with (at_builtin; refine Lib.wpList_append_run w rfl (.tmp 20) (.tmp 21) 32 3 rfl _ _ rfl rfl _ _ hrun ?_)
  go_ret
  refine ⟨some ⟨w.heap.size, 0, none⟩, c, rfl, ?_, ((Below.refl _ _).drew).alloc (Nat.le_refl _) _⟩
  exact World.ownsRow_made w.drew _ c (Nat.le_refl _) hc2 (by simp [Builtin.zeroCells]; omega)
def blens (ps : List Part) : Nat := (ps.map fun p => p.l.length).sum
theorem blens_take (ps : List Part) (i : Nat) (h : i < ps.length) : blens (ps.take (i + 1)) = blens (ps.take i) + ps[i].l.length := by
  unfold blens
  rw [List.take_succ_eq_append_getElem h, List.map_append, List.sum_append]
  simp
theorem blens_le (ps : List Part) (i : Nat) : blens (ps.take i) ≤ blens ps := by
  have e : blens ps = blens (ps.take i) + blens (ps.drop i) := by
    unfold blens
    rw [← List.sum_append, ← List.map_append, List.take_append_drop]
  omega
theorem bflat_length (ps : List Part) : (ps.flatMap (·.l)).length = blens ps := by simp [blens, List.length_flatMap]
set_option maxHeartbeats 1000000 in
theorem bconcat_any (w : World) (A : Option Addr) (c : Nat) (ps : List Part) (hr : Row w A (ps.map Part.v)) (hp : ∀ p ∈ ps, p.ok w) (hn : ps.length ≤ 1000) (h1 : blens ps ≤ 1000000) :
    Calls Tryz.prog 55 #[.slice A ps.length c] w (RetB w (ps.flatMap (·.l))) := by
  have HP := Lib.hid hp
  clear hp
  go_enter Tryz.func55, Tryz.ntmps55
  go_wp2_with fail
  go_loop [3, 11] (fun sv iv => ∃ i n : Nat, i ≤ ps.length ∧ iv = .int .i64 i ∧ sv = .int .i64 n ∧ Hid (n = blens (ps.take i))) (fun _ iv => ps.length - (intOf iv).toNat)
  case atStart => exact ⟨0, 0, by omega, rfl, rfl, rfl⟩
  case round =>
    obtain ⟨i, n, hi, rfl, rfl, HN⟩ := hrel
    have hnle : n ≤ 1000000 := by rw [HN.out]; exact Nat.le_trans (blens_le ps i) h1
    by_cases hlt : i < ps.length
    · obtain ⟨b, o, rfl, hb, hc⟩ := Row.at_ (k := i) hr (by simpa using hlt)
      rw [List.getElem_map] at hc
      have hl := Lib.hid (blens_take ps i hlt)
      have hn2 : n + ps[i].l.length ≤ 1000000 := by rw [HN.out, ← hl.out]; exact Nat.le_trans (blens_le ps (i + 1)) h1
      generalize ps[i] = q at hc hl hn2
      obtain ⟨qA, qc, qL⟩ := q
      simp only [Part.v] at hc hl hn2
      have hneg : ¬ ((n : Int) + (qL.length : Int)) < 0 := by omega
      have hlti : (i : Int) < (ps.length : Int) := by omega
      have hw : IntKind.i64.wrap ((n : Int) + (qL.length : Int)) = (n : Int) + (qL.length : Int) := by rw [IntWalk.i64_in _ (by omega)]
      clear hr
      go_wp2_with fail
      go_round
      case rel => exact ⟨i + 1, n + qL.length, by omega, by go_num, by go_num, by show _ = _; rw [hl.out, HN.out]⟩
      case measure => simp [intOf]; omega
    · obtain rfl : i = ps.length := by omega
      go_wp2_with fail
      refine (bgrow_any w n hnle).mono ?_
      rintro e w1 ⟨A0, c1, rfl, ho1, hb1⟩
      go_wp2_with fail
      go_loopw [6, 27] (fun nv iv wr => ∃ (i : Nat) (A1 : Option Addr) (c1 : Nat) (L : List UInt8), i ≤ ps.length ∧ iv = .int .i64 i ∧ nv = .slice A1 L.length c1 ∧ Hid (L = (ps.take i).flatMap (·.l)) ∧ BOwn wr w.heap.size A1 c1 L ∧ Below w.heap.size w wr) (fun _ iv _ => ps.length - (intOf iv).toNat)
      case atStart => exact ⟨0, _, c1, [], by omega, rfl, rfl, rfl, ho1, hb1⟩
      case round =>
        obtain ⟨i, A1, c1, L, hi, rfl, rfl, HL, ho, hB⟩ := hrel
        by_cases hlt : i < ps.length
        · have hrx : Row wr A (ps.map Part.v) := Row.below hr hB
          obtain ⟨b, o, rfl, hb, hc⟩ := Row.at_ (k := i) hrx (by simpa using hlt)
          rw [List.getElem_map] at hc
          have hl := Lib.hid (take_flat ps i hlt)
          have hfr := (HP.out ps[i] (List.getElem_mem hlt)).1.below hB
          have hn2 : L.length + ps[i].l.length ≤ 1000000 := by
            have := blens_le ps (i + 1)
            rw [← bflat_length, take_flat ps i hlt, ← HL.out, List.length_append] at this
            omega
          generalize ps[i] = q at hc hl hn2 hfr
          obtain ⟨qA, qc, qL⟩ := q
          simp only [Part.v] at hc hl hn2 hfr
          have hz := hB.size
          go_wp2_with (at_builtin; refine wpList_append_bytes rfl (.tmp 31) (.tmp 32) rfl _ rfl ho rfl _ rfl hfr rfl (by omega) hz ?_; intro A3 c3 w3 ho3 hb3 _ _)
          go_roundw
          case rel => exact ⟨i + 1, A3, c3, L ++ qL, by omega, by go_num, by rw [List.length_append], by show _ = _; rw [hl.out, HL.out], ho3, hB.trans hb3⟩
          case measure => simp [intOf]; omega
        · obtain rfl : i = ps.length := by omega
          go_wp2_with fail
          go_ret
          have e := HL.out
          rw [List.take_length] at e
          rw [← e]
          exact ⟨A1, c1, rfl, ho, hB⟩
theorem bconcat2 (w : World) (g : Nat) (c : Nat) (p q : Part) (hr : Row w (some ⟨g, 0, none⟩) [p.v, q.v]) (hp : p.ok w) (hq : q.ok w) (h : p.l.length + q.l.length ≤ 1000000) :
    Calls Tryz.prog 55 #[.slice (some ⟨g, 0, none⟩) 2 c] w (RetB w (p.l ++ q.l)) := by
  have := bconcat_any w (some ⟨g, 0, none⟩) c [p, q] hr (by simp; exact ⟨hp, hq⟩) (by simp) (by simp [blens]; omega)
  simpa using this
theorem bconcat3 (w : World) (g : Nat) (c : Nat) (p q r : Part) (hr : Row w (some ⟨g, 0, none⟩) [p.v, q.v, r.v]) (hp : p.ok w) (hq : q.ok w) (hx : r.ok w) (h : p.l.length + q.l.length + r.l.length ≤ 1000000) :
    Calls Tryz.prog 55 #[.slice (some ⟨g, 0, none⟩) 3 c] w (RetB w (p.l ++ (q.l ++ r.l))) := by
  have := bconcat_any w (some ⟨g, 0, none⟩) c [p, q, r] hr (by simp; exact ⟨hp, hq, hx⟩) (by simp) (by simp [blens]; omega)
  simpa using this
end Go.Proofs.YtpahkaffknnjhaaGreatDoor
end

section
namespace Go.Proofs.YtpahkaffknnjhaaGreatDoor
set_option linter.unusedSimpArgs false
set_option linter.unusedVariables false
open Go.RowKit
set_option maxHeartbeats 400000 in
theorem clone_any (w : World) (A : Option Addr) (c : Nat) (l : List UInt8) (hr : BRow w A l) (hl : l.length ≤ 1000000) :
    Calls Tryz.prog 27 #[.slice A l.length c] w (RetB w l) := by
  cases A with
  | none =>
    have hl0 : l = [] := by
      cases l with
      | nil => rfl
      | cons x l => obtain ⟨b, o, h, _⟩ := hr (by simp); cases h
    subst hl0
    have hq := Lib.run_eql_slice_nil (P := Tryz.prog) w 32 5 none 0 c 0 0 Tryz.underlying32
    go_enter Tryz.func27, Tryz.ntmps27
    go_wp2_with fail
    go_ret
    exact ⟨none, 0, rfl, BOwn.nil _ _, Below.refl _ _⟩
  | some a =>
    have hq := Lib.run_eql_slice_nil (P := Tryz.prog) w 32 5 (some a) l.length c 0 0 Tryz.underlying32
    go_enter Tryz.func27, Tryz.ntmps27
    have hoe : BOwn (w.alloc (.cells #[] 5)) w.heap.size (some ⟨w.heap.size, 0, none⟩) 0 [] := BOwn.new w [] (by simp) (Nat.le_refl _)
    go_wp2_with (at_builtin; refine wpList_append_bytes rfl (.tmp 5) (.tmp 6) rfl _ rfl hoe rfl _ rfl (hr.alloc _) rfl (by simp; omega) (by simp) ?_; intro A3 c3 w3 ho3 hb3 _ _)
    go_ret
    rw [List.nil_append] at ho3
    exact ⟨A3, c3, by simp, ho3, ((Below.refl _ _).alloc (Nat.le_refl _) _).trans hb3⟩
end Go.Proofs.YtpahkaffknnjhaaGreatDoor
end

section
namespace Go.Proofs.YtpahkaffknnjhaaGreatDoor
set_option linter.unusedSimpArgs false
set_option linter.unusedVariables false
open Go.RowKit
end Go.Proofs.YtpahkaffknnjhaaGreatDoor
end

section
namespace Go.Proofs.YtpahkaffknnjhaaGreatDoor
set_option linter.unusedSimpArgs false
set_option linter.unusedVariables false
open Go.RowKit
end Go.Proofs.YtpahkaffknnjhaaGreatDoor
end

section
namespace Go.Proofs.YtpahkaffknnjhaaGreatDoor
set_option linter.unusedSimpArgs false
set_option linter.unusedVariables false
open Go.RowKit
theorem bv_ofNat (m : Nat) : bv (UInt8.ofNat m) = .int .u8 ((m : Int) % 256) := by simp [bv]
set_option maxRecDepth 20000 in
set_option maxHeartbeats 1000000 in
theorem refhigh8 (w : World) (n : Nat) (hn : n < two64) : Calls Tryz.prog 68 #[.int .u64 (n : Int)] w fun e w' => e = .returned (txt (Wal.hi8 n)) ∧ Below w.heap.size w w' := by
  have HN := Lib.hid hn
  clear hn
  go_enter Tryz.func68, Tryz.ntmps68
  go_wp2_with fail
  go_loopw [0, 3, 4] (fun nv sv iv wr => ∃ k m : Nat, k ≤ 8 ∧ iv = .int .i64 k ∧ nv = .int .u64 (m : Int) ∧ sv = txt (Wal.hiR k n) ∧ m < 18446744073709551616 ∧ Hid (m = n / 256 ^ k ∧ Below w.heap.size w wr)) (fun _ _ iv _ => 8 - (intOf iv).toNat)
  case atStart => exact ⟨0, n, by omega, rfl, rfl, rfl, HN.out, by simp, Below.refl _ _⟩
  case round =>
    obtain ⟨k, m, hk, rfl, rfl, rfl, hm64, HM⟩ := hrel
    have hl := Wal.hiR_length k n
    have hsz : (ByteArray.mk (Wal.hiR k n).toArray).size = k := by simp [ByteArray.size, hl]
    by_cases hlt : k < 8
    · have hii : (k : Int) < 8 := by omega
      have hwq : IntKind.u64.wrap ((m : Int) / 256) = (m : Int) / 256 := IntWalk.u64_in _ (by omega)
      have hrow := BRow.one wr (UInt8.ofNat m) (.int .u8 ((m : Int) % 256)) 5 (bv_ofNat m)
      have hcv := run_string_bytes _ 1 hrow
      have HJ := Lib.hid (cut_join [UInt8.ofNat m] (Wal.hiR k n))
      simp only [List.length_singleton] at hcv
      have hsz1 : (ByteArray.mk [UInt8.ofNat m].toArray).size = 1 := rfl
      clear hrow
      unfold txt at hcv ⊢
      go_wp2_with fail
      go_roundw
      case rel => exact ⟨k + 1, m / 256, by omega, by go_num, by go_num, by rw [HJ.out, Wal.hiR_cons, HM.out.1]; rfl, by omega, by rw [HM.out.1, Nat.pow_succ, Nat.div_div_eq_div_mul], HM.out.2.alloc HM.out.2.size _⟩
      case measure => simp [intOf]; omega
    · obtain rfl : k = 8 := by omega
      have hii : ¬ ((8 : Nat) : Int) < 8 := by omega
      go_wp2_with fail
      go_ret
      exact ⟨rfl, HM.out.2⟩
end Go.Proofs.YtpahkaffknnjhaaGreatDoor
end

section
namespace Go.Proofs.YtpahkaffknnjhaaGreatDoor
set_option linter.unusedSimpArgs false
set_option linter.unusedVariables false
open Go.RowKit
def RetR (w : World) (l : List UInt8) (e : Ending) (w' : World) : Prop := ∃ A c, e = .returned (.slice A l.length c) ∧ BRow w' A l ∧ l.length ≤ c ∧ Below w.heap.size w w'
theorem zero8 (w : World) : (zeroValue 150).run Tryz.prog w = .ok (.agg ((List.replicate 8 (0 : UInt8)).map bv).toArray) w := (zero_of_info (P := Tryz.prog) (t := 150) (v := .agg ((List.replicate 8 (0 : UInt8)).map bv).toArray) (n := 8) (by kernel_rfl)).1 w
theorem Blk.brow {w : World} {g : Nat} {t : TypeId} {l : List UInt8} (h : Blk w g t (l.map bv)) : BRow w (some ⟨g, 0, none⟩) l := fun _ => ⟨g, 0, rfl, h.lt, fun j hj => by
  rw [Nat.zero_add, h.cell j, List.getElem?_eq_getElem hj]⟩
theorem khi_step (n k : Nat) (h : k < 8) : (List.replicate (8 - k) (0 : UInt8) ++ Wal.hiR k n).set (7 - k) (UInt8.ofNat (n / 256 ^ k)) = List.replicate (8 - (k + 1)) 0 ++ Wal.hiR (k + 1) n := by
  rw [Wal.hiR_cons, List.set_append_left _ _ (by simp; omega), show 8 - k = (7 - k) + 1 from by omega, List.replicate_succ', List.set_append_right _ _ (by simp)]
  simp [show 8 - (k + 1) = 7 - k from by omega]
set_option maxRecDepth 20000 in
set_option maxHeartbeats 1000000 in
theorem khigh_any (w : World) (n : Nat) (hn : n < two64) : Calls Tryz.prog 56 #[.int .u64 (n : Int)] w (RetR w (Wal.hi8 n)) := by
  have HN := Lib.hid hn
  clear hn
  go_enter Tryz.func56, Tryz.ntmps56
  go_wp2_with (refine wpList_alloc_z rfl 150 rfl (zero8 _) ?_; intro W hW)
  obtain ⟨ba, hz, hB⟩ := fresh1 (a := (List.replicate 8 (0 : UInt8)).map bv) hW
  clear hW
  have HI : Hid (Blk W w.heap.size 150 ((List.replicate (8 - 0) 0 ++ Wal.hiR 0 n).map bv) ∧ Below w.heap.size w W) := ⟨by simpa [Wal.hiR] using ba, hB⟩
  clear ba hB
  go_loopw [0, 5] (fun nv iv wr => ∃ k m : Nat, k ≤ 8 ∧ iv = .int .i64 k ∧ nv = .int .u64 (m : Int) ∧ Hid (m = n / 256 ^ k) ∧ Hid (Blk wr w.heap.size 150 ((List.replicate (8 - k) 0 ++ Wal.hiR k n).map bv) ∧ Below w.heap.size w wr)) (fun _ iv _ => 8 - (intOf iv).toNat)
  case atStart => exact ⟨0, n, by omega, rfl, rfl, by show _ = _; simp, HI.out⟩
  case round =>
    obtain ⟨k, m, hk, rfl, rfl, HM, HJ⟩ := hrel
    clear HI
    by_cases hlt : k < 8
    · have hii : (k : Int) < 8 := by omega
      have h7 : (7 - (k : Int)).toNat = 7 - k := by omega
      have h70 : (0 : Int) ≤ 7 - (k : Int) := by omega
      have h78 : 7 - (k : Int) < 8 := by omega
      have hl : ((List.replicate (8 - k) (0 : UInt8) ++ Wal.hiR k n).map bv).length = 8 := by simp [Wal.hiR_length]; omega
      obtain ⟨v0, hce⟩ : ∃ v, wr.cell? ⟨w.heap.size, 7 - k, none⟩ = some v := ⟨_, by rw [HJ.out.1.cell (7 - k), List.getElem?_eq_getElem (by rw [hl]; omega)]⟩
      have hfr := HJ.out.1.free (7 - k)
      clear hl
      go_wp2_with fail
      go_roundw
      case rel =>
        refine ⟨k + 1, m / 256, by omega, by go_num, by go_num, ?_, ?_, HJ.out.2.setCell (p := ⟨w.heap.size, 7 - k, none⟩) (Nat.le_refl _) _⟩
        · show _ = _; rw [HM.out, Nat.pow_succ, Nat.div_div_eq_div_mul]
        · have hs := HJ.out.1.set (7 - k) (bv (UInt8.ofNat m))
          rw [← List.map_set, HM.out, khi_step n k hlt, ← HM.out] at hs
          simpa [bv] using hs
      case measure => simp [intOf]; omega
    · obtain rfl : k = 8 := by omega
      go_wp2_with fail
      go_ret
      exact ⟨_, 8, by rw [Wal.hi8_length]; rfl, by simpa [Wal.hi8] using HJ.out.1.brow, by rw [Wal.hi8_length]; exact Nat.le_refl _, HJ.out.2⟩
theorem kshl_or (m c : Nat) (hm : m < 256 ^ 7) (hc : c < 256) : Go.bits .or .u64 (IntKind.u64.wrap ((m : Int) * 256)) (c : Int) = ((m * 256 + c : Nat) : Int) := by
  have e : IntKind.u64.wrap ((m : Int) * 256) = ((m * 256 : Nat) : Int) := by
    rw [show (m : Int) * 256 = ((m * 256 : Nat) : Int) from by simp]
    exact IntWalk.u64_in _ (by have : (256 : Nat) ^ 7 = 72057594037927936 := by decide
                               omega)
  have h7 : (256 : Nat) ^ 7 = 72057594037927936 := by decide
  have key := Nat.two_pow_add_eq_or_of_lt (show c < 2 ^ 8 by omega) m
  rw [e, u64_or_nat _ _ (by omega) (by omega), Nat.mul_comm m 256, ← key]
theorem klo_take (l : List UInt8) (k : Nat) (hk : k < l.length) : Wal.lo (l.take (k + 1)) = Wal.lo (l.take k) * 256 + l[k].toNat := by
  rw [List.take_succ_eq_append_getElem hk, Wal.lo_snoc]
set_option maxRecDepth 20000 in
set_option maxHeartbeats 1000000 in
theorem klow_any (w : World) (A : Option Addr) (len c : Nat) (l : List UInt8) (hr : BRow w A l) (hl : l.length = 8) (hc8 : 8 ≤ c) (hln : len ≤ c) : Calls Tryz.prog 171 #[.slice A len c] w fun e w' => e = .returned (.int .u64 (Wal.lo l : Nat)) ∧ w = w' := by
  have HL := Lib.hid hl
  clear hl
  go_enter Tryz.func171, Tryz.ntmps171
  go_wp2_with fail
  go_loop [3, 9] (fun nv iv => ∃ k m : Nat, k ≤ 8 ∧ iv = .int .i64 k ∧ nv = .int .u64 (m : Int) ∧ Hid (m = Wal.lo (l.take k))) (fun _ iv => 8 - (intOf iv).toNat)
  case atStart => exact ⟨0, 0, by omega, rfl, rfl, rfl⟩
  case round =>
    obtain ⟨k, m, hk, rfl, rfl, HM⟩ := hrel
    by_cases hlt : k < 8
    · have hii : (k : Int) < 8 := by omega
      have hkl : k < l.length := by rw [HL.out]; exact hlt
      obtain ⟨b, o, rfl, hb, hc⟩ := hr.at_ hkl
      have hm : m < 256 ^ 7 := by
        have h1 := Wal.lo_lt (l.take k)
        rw [← HM.out, List.length_take] at h1
        exact Nat.lt_of_lt_of_le h1 (Nat.pow_le_pow_right (by omega) (by omega))
      have HS := Lib.hid (klo_take l k hkl)
      have hx := l[k].toNat_lt
      generalize l[k].toNat = x at hc HS hx
      have HO := Lib.hid (kshl_or m x hm (by omega))
      clear hr hm hkl
      go_wp2_with fail
      go_round
      case rel => exact ⟨k + 1, m * 256 + x, by omega, by go_num, by rw [HO.out], by show _ = _; rw [HS.out, HM.out]⟩
      case measure => simp [intOf]; omega
    · obtain rfl : k = 8 := by omega
      have hlt2 : l.take 8 = l := List.take_of_length_le (by rw [HL.out]; exact Nat.le_refl _)
      rw [hlt2] at HM
      clear hlt2
      go_wp2_with fail
      go_ret
      exact ⟨by rw [HM.out]; rfl, rfl⟩
end Go.Proofs.YtpahkaffknnjhaaGreatDoor
end

section
namespace Go.Proofs.YtpahkaffknnjhaaGreatDoor
set_option linter.unusedSimpArgs false
set_option linter.unusedVariables false
open Go.RowKit
theorem xor_top_lo {n : Nat} (h : n < 9223372036854775808) : n ^^^ 9223372036854775808 = n + 9223372036854775808 := by
  have e : (9223372036854775808 : Nat) = 2 ^ 63 := by decide
  rw [e] at h ⊢
  rw [Nat.xor_comm, Nat.add_comm]
  apply Nat.eq_of_testBit_eq
  intro i
  rw [Nat.testBit_xor, Nat.testBit_two_pow]
  rcases Nat.lt_trichotomy i 63 with hi | hi | hi
  · rw [Nat.testBit_two_pow_add_gt hi]
    have : decide (63 = i) = false := by simp; omega
    rw [this]; simp
  · subst hi
    rw [Nat.testBit_two_pow_add_eq]
    simp
  · have h1 : n.testBit i = false := Nat.testBit_lt_two_pow (Nat.lt_of_lt_of_le h (Nat.pow_le_pow_right (by omega) (by omega)))
    have h2 : (2 ^ 63 + n).testBit i = false := Nat.testBit_lt_two_pow (Nat.lt_of_lt_of_le (show 2 ^ 63 + n < 2 ^ 64 by omega) (Nat.pow_le_pow_right (by omega) (by omega)))
    have : decide (63 = i) = false := by simp; omega
    rw [h1, h2, this]; rfl
theorem xor_top_hi {n : Nat} (h : n < 9223372036854775808) : (n + 9223372036854775808) ^^^ 9223372036854775808 = n := by
  rw [← xor_top_lo h, Nat.xor_assoc, Nat.xor_self, Nat.xor_zero]
theorem or_top {n : Nat} (h : n < 9223372036854775808) : n ||| 9223372036854775808 = n + 9223372036854775808 := by
  have e := Nat.two_pow_add_eq_or_of_lt (show n < 2 ^ 63 by omega) 1
  rw [Nat.mul_one, Nat.or_comm] at e
  have e2 : (2 : Nat) ^ 63 = 9223372036854775808 := by decide
  rw [e2] at e
  omega
theorem id_xor {n : Int} (h1 : -9223372036854775808 ≤ n) (h2 : n ≤ 9223372036854775807) : Go.bits .xor .u64 (IntKind.u64.wrap n) 9223372036854775808 = (Key.idn n : Nat) := by
  unfold Key.idn
  by_cases h : 0 ≤ n
  · obtain ⟨m, rfl⟩ := Int.eq_ofNat_of_zero_le h
    rw [IntWalk.u64_in (m : Int) (by omega)]
    have := u64_xor_nat m 9223372036854775808 (by omega) (by decide)
    rw [xor_top_lo (by omega)] at this
    rw [show ((9223372036854775808 : Nat) : Int) = 9223372036854775808 from rfl] at this
    rw [this]
    omega
  · have e : IntKind.u64.wrap n = ((n + 18446744073709551616).toNat : Int) := by
      have := IntWalk.u64_in (n + 18446744073709551616) (by omega)
      rw [show ((n + 18446744073709551616).toNat : Int) = n + 18446744073709551616 from by omega, ← this]
      unfold IntKind.wrap
      simp [IntKind.signed, IntKind.bits]
    rw [e]
    have := u64_xor_nat (n + 18446744073709551616).toNat 9223372036854775808 (by omega) (by decide)
    rw [show ((9223372036854775808 : Nat) : Int) = 9223372036854775808 from rfl] at this
    rw [this, show (n + 18446744073709551616).toNat = (n + 9223372036854775808).toNat + 9223372036854775808 from by omega, xor_top_hi (by omega)]
theorem xor_id {n : Int} (h1 : -9223372036854775808 ≤ n) (h2 : n ≤ 9223372036854775807) : IntKind.i64.wrap (Go.bits .xor .u64 ((Key.idn n : Nat) : Int) 9223372036854775808) = n := by
  have hu := u64_xor_nat (Key.idn n) 9223372036854775808 (Key.idn_lt h1 h2) (by decide)
  rw [show ((9223372036854775808 : Nat) : Int) = 9223372036854775808 from rfl] at hu
  rw [hu]
  unfold Key.idn
  by_cases h : 0 ≤ n
  · rw [show (n + 9223372036854775808).toNat = n.toNat + 9223372036854775808 from by omega, xor_top_hi (by omega), IntWalk.i64_in _ (by omega)]
    omega
  · rw [xor_top_lo (by omega)]
    unfold IntKind.wrap
    simp [IntKind.signed, IntKind.bits]
    omega
set_option maxRecDepth 20000 in
set_option maxHeartbeats 1000000 in
theorem kid_any (w : World) (n : Int) (h1 : -9223372036854775808 ≤ n) (h2 : n ≤ 9223372036854775807) : Calls Tryz.prog 33 #[.int .i64 n] w (RetR w (Key.id n)) := by
  have HX := Lib.hid (id_xor h1 h2)
  have HL : Hid (Key.idn n < two64) := Key.idn_lt h1 h2
  clear h1 h2
  go_enter Tryz.func33, Tryz.ntmps33
  go_wp2_with fail
  rw [HX.out]
  refine (khigh_any _ _ HL.out).mono ?_
  rintro e w1 ⟨A, c, rfl, hr, hc, hb⟩
  go_wp2_with fail
  go_ret
  exact ⟨A, c, rfl, hr, hc, hb⟩
set_option maxRecDepth 20000 in
set_option maxHeartbeats 1000000 in
theorem kreadid_any (w : World) (A : Option Addr) (c : Nat) (l : List UInt8) (hr : BRow w A l) (hc : l.length ≤ c) (hm : l.length ≤ 1000000) : Calls Tryz.prog 147 #[.slice A l.length c] w fun e w' =>
    w' = w ∧ e = .returned (.tuple (if l.length < 8 then #[.int .i64 0, .int .i64 10] else if 8 < l.length then #[.int .i64 0, .int .i64 12] else #[.int .i64 (wrap64 (Go.bits .xor .u64 (Wal.lo l : Nat) 9223372036854775808)), .int .i64 0])) := by
  go_enter Tryz.func147, Tryz.ntmps147
  by_cases h1 : l.length < 8
  · have hi : (l.length : Int) < 8 := by omega
    rw [if_pos h1]
    clear h1
    go_wp2_with fail
    go_ret2
    exact ⟨rfl, rfl⟩
  have hi : ¬ (l.length : Int) < 8 := by omega
  rw [if_neg h1]
  by_cases h2 : 8 < l.length
  · have hi2 : (8 : Int) < (l.length : Int) := by omega
    rw [if_pos h2]
    clear h1 h2
    go_wp2_with fail
    go_ret2
    exact ⟨rfl, rfl⟩
  have hi2 : ¬ (8 : Int) < (l.length : Int) := by omega
  have h8 : l.length = 8 := by omega
  have H8 := Lib.hid h8
  have h8c : 8 ≤ c := by omega
  rw [if_neg h2]
  clear h1 h2 h8
  go_wp2_with fail
  refine (klow_any _ A _ c l hr H8.out h8c hc).mono ?_
  rintro e w1 ⟨rfl, rfl⟩
  go_wp2_with fail
  go_ret2
  exact ⟨rfl, rfl⟩
set_option maxRecDepth 20000 in
set_option maxHeartbeats 1000000 in
theorem refid_any (w : World) (n : Int) (h1 : -9223372036854775808 ≤ n) (h2 : n ≤ 9223372036854775807) : Calls Tryz.prog 36 #[.int .i64 n] w fun e w' => e = .returned (txt (Key.id n)) ∧ Below w.heap.size w w' := by
  have HL : Hid (Key.idn n < two64) := Key.idn_lt h1 h2
  go_enter Tryz.func36, Tryz.ntmps36
  by_cases h : 0 ≤ n
  · have e0 : IntKind.u64.wrap n = n := IntWalk.u64_in n (by omega)
    have hl : n < 9223372036854775808 := by omega
    have hge : ¬ (9223372036854775808 : Int) ≤ n := by omega
    have he : n + 9223372036854775808 = ((Key.idn n : Nat) : Int) := by unfold Key.idn; omega
    have HE := Lib.hid he
    have e1 : IntKind.u64.wrap (n + 9223372036854775808) = n + 9223372036854775808 := IntWalk.u64_in _ (by omega)
    clear he
    go_wp2_with fail
    rw [HE.out]
    refine (refhigh8 _ _ HL.out).mono ?_
    rintro e w1 ⟨rfl, hb⟩
    go_wp2_with fail
    go_ret
    exact ⟨rfl, hb⟩
  · have e0 : IntKind.u64.wrap n = n + 18446744073709551616 := by
      have := IntWalk.u64_in (n + 18446744073709551616) (by omega)
      rw [← this]
      unfold IntKind.wrap
      simp [IntKind.signed, IntKind.bits]
    have hge : (9223372036854775808 : Int) ≤ n + 18446744073709551616 := by omega
    have he : n + 18446744073709551616 - 9223372036854775808 = ((Key.idn n : Nat) : Int) := by unfold Key.idn; omega
    have HE := Lib.hid he
    have e1 : IntKind.u64.wrap (n + 18446744073709551616 - 9223372036854775808) = n + 18446744073709551616 - 9223372036854775808 := IntWalk.u64_in _ (by omega)
    clear he
    go_wp2_with fail
    rw [HE.out]
    refine (refhigh8 _ _ HL.out).mono ?_
    rintro e w1 ⟨rfl, hb⟩
    go_wp2_with fail
    go_ret
    exact ⟨rfl, hb⟩
end Go.Proofs.YtpahkaffknnjhaaGreatDoor
end

section
namespace Go.Proofs.YtpahkaffknnjhaaGreatDoor
set_option linter.unusedSimpArgs false
set_option linter.unusedVariables false
open Go
section
variable (P : Program) (ops : Array Oper) (Q : Exit → Act → World → Prop) (T : Act → World → Prop)
theorem again_nil (a : Act) (w : World) : again P ops T [] a w = T a w := rfl
theorem again_cons (i : Nat) (r : List Nat) (a : Act) (w : World) : again P ops T (i :: r) a w = ∀ Z : Exit → Act → World → Prop, (again P ops T r a w → Z .normal a w) → wpList P ops Z (sel ops i) a w := rfl
theorem walk_fin (a : Act) (w : World) : walk P ops Q .fin a w = Q .normal a w := rfl
theorem walk_take (i : Nat) (p : Plan) (a : Act) (w : World) : walk P ops Q (.take i p) a w = ∀ Z : Exit → Act → World → Prop, (∀ a', walk P ops Q p a' w → Z .normal a' w) → wpList P ops Z (sel ops i) a w := rfl
theorem walk_run (e : Nat) (ag : List Nat) (p : Plan) (a : Act) (w : World) : walk P ops Q (.run e ag p) a w = ∀ Z : Exit → Act → World → Prop, (∀ a' w', again P ops (walk P ops Q p) ag a' w' → Z .normal a' w') → wpList P ops Z (sel ops e) a w := rfl
theorem walk_fork (p q : Plan) (a : Act) (w : World) : walk P ops Q (.fork p q) a w = (walk P ops Q p a w ∧ walk P ops Q q a w) := rfl
end
end Go.Proofs.YtpahkaffknnjhaaGreatDoor
end

section
namespace Go.Proofs.YtpahkaffknnjhaaGreatDoor
set_option linter.unusedSimpArgs false
set_option linter.unusedVariables false
open Go
def okC (l : List Oper) : Bool → Plan → Nat → Array Bool → List Nat → Bool
  | _, .fin, _, listed, _ => (Region.ready .any l.toArray listed).isEmpty
  | _, .take i p, fuel + 1, listed, Y => (Region.ready .any l.toArray listed).contains i && Region.free .any l.toArray listed i &&
      (match l[i]? with | some o => valueB o && (match o.dst with | some d => !(o.looksAt l.toArray).contains d | none => false) | none => false) &&
      Y.all (fun k => wApart l k i) && okC l true p fuel (listed.setIfInBounds i true) (i :: Y)
  | top, .run e ag p, fuel + 1, listed, Y => (!top || (Region.ready .any l.toArray listed).all (fun j => e == j)) && (l[e]?).isSome && (Region.ready .any l.toArray listed).contains e &&
      Y.all (fun k => dep l l.length e k || (wApart l k e && ag.contains k)) && okC l true p fuel (listed.setIfInBounds e true) (Y.filter fun k => !dep l l.length e k)
  | top, .fork p q, fuel, listed, Y => (heads p).any (fun j => (Region.ready .any l.toArray listed).contains j) && (!top || (Region.ready .any l.toArray listed).all (fun j => (heads p ++ heads q).contains j)) && okC l false p fuel listed Y && okC l false q fuel listed Y
  | _, _, _, _, _ => false
section
variable {P : Program} {ops : Array Oper} {Q : Exit → Act → World → Prop}
theorem wpAnyY_of_walkC {l : List Oper} (hsel : ∀ (j : Nat) (o : Oper) cs b, l.toArray[j]? = some o → o.op ≠ .select cs b) :
    ∀ (p : Plan) (top : Bool) (fuel : Nat) (Y : List (Nat × (World → Prop))) (listed : Array Bool) (a : Act) (w : World), okC l top p fuel listed (Y.map (·.1)) = true → Closed l.toArray listed → (∀ y ∈ Y, y.2 w) → (∀ y ∈ Y, Taken P l.toArray a y) →
      (∀ (i : Nat) (o : Oper) (t : Tmp), l[i]? = some o → o.dst = some t → t < a.tmps.size) → walk P l.toArray Q p a w →
      (top = true → wpAnyY P l.toArray (dep l l.length) (Only Q) fuel Y listed a w) ∧
      ∀ j ∈ heads p, j ∈ Region.ready .any l.toArray listed → ∃ n, fuel = n + 1 ∧ wpOp P l.toArray (Only Q) j (fun a' w' => (∀ y ∈ Y, dep l l.length j y.1 = false → y.2 w') ∧
        wpAnyY P l.toArray (dep l l.length) (Only Q) n (Y.filter fun y => !dep l l.length j y.1) (listed.setIfInBounds j true) a' w') a w := by
  intro p
  induction p with
  | fin =>
    intro top fuel Y listed a w hok hcl hYw hT hsz hw
    refine ⟨fun _ => wpAnyY_done (by simpa [okC] using hok) ⟨rfl, hw⟩ fuel, fun j hj => by simp [heads] at hj⟩
  | take i p ih =>
    intro top fuel Y listed a w hok hcl hYw hT hsz hw
    refine ⟨fun _ => ?_, fun j hj => by simp [heads] at hj⟩
    cases fuel with
    | zero => simp [okC] at hok
    | succ n =>
      simp only [okC, Bool.and_eq_true] at hok
      obtain ⟨⟨⟨⟨hr, hf⟩, hv⟩, hY⟩, hok⟩ := hok
      cases hi : l[i]? with
      | none => rw [hi] at hv; cases hv
      | some oi =>
        have hia : l.toArray[i]? = some oi := by simpa using hi
        rw [hi] at hv
        simp only [Bool.and_eq_true] at hv
        obtain ⟨hv, hd⟩ := hv
        cases ht : oi.dst with
        | none => rw [ht] at hd; cases hd
        | some t =>
          rw [ht] at hd
          have hself : ∀ d, oi.dst = some d → d ∉ oi.looksAt l.toArray := by
            intro d hd'
            rw [ht] at hd'
            obtain rfl := Option.some.inj hd'
            simpa using hd
          have hlt := hsz i oi t hi ht
          have h0 : wpList P l.toArray (Only fun _ a1 w1 => w1 = w ∧ walk P l.toArray Q p a1 w) (sel l.toArray i) a w := hw _ fun a' h => ⟨rfl, rfl, h⟩
          rw [sel_some hia] at h0
          have hready : i ∈ Region.ready .any l.toArray listed := by simpa using hr
          obtain ⟨v, hy, hwk⟩ : ∃ v, YieldsIf P l.toArray (Cond P l.toArray oi v a) oi v a ∧ Cond P l.toArray oi v a w ∧ walk P l.toArray Q p (a.put oi.dst v) w := by
            unfold wpList at h0
            by_cases hw : Region.wanted oi (yielded l.toArray a.tmps) = true
            · rw [if_pos hw] at h0
              have h1 := h0.resolve_right fun h => not_letsOut _ h.2
              have h2 := upon_cases (fun a w h => by cases h.1) (fun c a w h => by cases h.1) h1
              simp only [wpList, Only, true_and] at h2
              rcases h2 with ⟨v, w', hr, h⟩ | ⟨_, hr, h⟩ | ⟨_, _, hr, h⟩ | ⟨f, args, w', hr, h⟩ | ⟨row, args, w', hr, h⟩
              · exact ⟨v, .inl ⟨hw, fun w' h => h hw⟩, fun _ => by rw [hr, h.1], h.2⟩
              · obtain ⟨v, hv⟩ := valueB_spec hv hr; cases hv
              · obtain ⟨v, hv⟩ := valueB_spec hv hr; cases hv
              · obtain ⟨v, hv⟩ := valueB_spec hv hr; cases hv
              · obtain ⟨v, hv⟩ := valueB_spec hv hr; cases hv
            · rw [if_neg hw] at h0
              exact ⟨undef, .inr ⟨by simpa using hw, rfl⟩, fun h => absurd h hw, h0.2.2⟩
          refine wpAnyY_first hia hsel (fun c a w h => by cases h.1) n Y listed a w hcl (Region.free_spec hia hf) hready hy hwk.1 hYw ?_
          refine (ih true n ((i, Cond P l.toArray oi v a) :: Y) _ _ w (by simpa using hok) (hcl.set hready) (fun y hy => ?_) (fun y hy => ?_) (fun i' o t h1 h2 => by rw [put_size]; exact hsz i' o t h1 h2) hwk.2).1 rfl
          · cases hy with
            | head => exact hwk.1
            | tail _ hy => exact hYw y hy
          · cases hy with
            | head =>
              refine ⟨oi, t, hia, ht, by rw [put_size]; exact hlt, hv, fun w' hc => ?_⟩
              rw [ht, slot_put v hlt, ← ht] at hc
              exact Cond.put (ds := a.defers) (hsel _ _ · · hia) hself hc
            | tail _ hy =>
              have hap := List.all_eq_true.1 hY y.1 (List.mem_map.2 ⟨y, hy, rfl⟩)
              exact Taken.put (hT y hy) hsel hi hap a.defers v
  | run e ag p ih =>
    intro top fuel Y listed a w hok hcl hYw hT hsz hw
    cases fuel with
    | zero => simp [okC] at hok
    | succ n =>
      simp only [okC, Bool.and_eq_true] at hok
      obtain ⟨⟨⟨⟨htop, hsome⟩, hre⟩, hY⟩, hok⟩ := hok
      have hB : ∀ j ∈ heads (.run e ag p), j ∈ Region.ready .any l.toArray listed → ∃ n', n + 1 = n' + 1 ∧ wpOp P l.toArray (Only Q) j (fun a' w' => (∀ y ∈ Y, dep l l.length j y.1 = false → y.2 w') ∧
          wpAnyY P l.toArray (dep l l.length) (Only Q) n' (Y.filter fun y => !dep l l.length j y.1) (listed.setIfInBounds j true) a' w') a w := by
        intro j hj hjr
        obtain rfl : j = e := by simpa [heads] using hj
        refine ⟨n, rfl, ?_⟩
        cases hi : l[j]? with
        | none => rw [hi] at hsome; cases hsome
        | some oj =>
          have hja : l.toArray[j]? = some oj := by simpa using hi
          have h0 : wpList P l.toArray (Only fun _ a1 w1 => again P l.toArray (walk P l.toArray Q p) ag a1 w1) (sel l.toArray j) a w := hw _ fun a' w' h => ⟨rfl, h⟩
          rw [sel_some hja] at h0
          refine wpOp_of_list hja (fun ds v w' h => ?_) h0
          obtain ⟨hwalk, hag⟩ := again_spec h
          have hT' : ∀ y ∈ Y, dep l l.length j y.1 = false → Taken P l.toArray ({ a with defers := ds }.put oj.dst v) y := fun y hy hd => by
            have hap := List.all_eq_true.1 hY y.1 (List.mem_map.2 ⟨y, hy, rfl⟩)
            rw [hd, Bool.false_or, Bool.and_eq_true] at hap
            exact Taken.put (hT y hy) hsel hi hap.1 ds v
          have hobl : ∀ y ∈ Y, dep l l.length j y.1 = false → y.2 w' := fun y hy hd => by
            have hap := List.all_eq_true.1 hY y.1 (List.mem_map.2 ⟨y, hy, rfl⟩)
            rw [hd, Bool.false_or, Bool.and_eq_true] at hap
            obtain ⟨o, t, ho, ht, hlt, hv, hS⟩ := hT' y hy hd
            exact hS w' (hag y.1 (by simpa using hap.2) o t ho ht hlt hv)
          refine ⟨hobl, (ih true n _ _ _ w' ?_ (hcl.set hjr) (fun y hy => ?_) (fun y hy => hT' y (List.mem_filter.1 hy).1 (by simpa using (List.mem_filter.1 hy).2)) (fun i' o t h1 h2 => by rw [put_size]; exact hsz i' o t h1 h2) hwalk).1 rfl⟩
          · rw [List.filter_map] at hok
            exact hok
          · rw [List.mem_filter] at hy
            exact hobl y hy.1 (by simpa using hy.2)
      refine ⟨fun ht => ⟨fun h0 => ?_, fun j hj => ?_⟩, hB⟩
      · rw [h0] at hre; cases hre
      · rw [ht] at htop
        have : e = j := by
          have h2 : ((Region.ready .any l.toArray listed).all fun j => e == j) = true := by simpa using htop
          have h1 := List.all_eq_true.1 h2 j hj
          simpa using h1
        subst this
        obtain ⟨n', hn, h⟩ := hB e (by simp [heads]) hj
        obtain rfl : n = n' := by omega
        exact h
  | fork p q ihp ihq =>
    intro top fuel Y listed a w hok hcl hYw hT hsz hw
    simp only [okC, Bool.and_eq_true] at hok
    obtain ⟨⟨⟨hany, htop⟩, hp⟩, hq⟩ := hok
    have h1 := (ihp false fuel Y listed a w hp hcl hYw hT hsz hw.1).2
    have h2 := (ihq false fuel Y listed a w hq hcl hYw hT hsz hw.2).2
    have hB : ∀ j ∈ heads (.fork p q), j ∈ Region.ready .any l.toArray listed → ∃ n, fuel = n + 1 ∧ wpOp P l.toArray (Only Q) j (fun a' w' => (∀ y ∈ Y, dep l l.length j y.1 = false → y.2 w') ∧
        wpAnyY P l.toArray (dep l l.length) (Only Q) n (Y.filter fun y => !dep l l.length j y.1) (listed.setIfInBounds j true) a' w') a w := by
      intro j hj hjr
      rcases List.mem_append.1 hj with h | h
      · exact h1 j h hjr
      · exact h2 j h hjr
    refine ⟨fun ht => ?_, hB⟩
    obtain ⟨j, hj, hjr⟩ := List.any_eq_true.1 hany
    have hjr' : j ∈ Region.ready .any l.toArray listed := by simpa using hjr
    obtain ⟨n, rfl, _⟩ := h1 j hj hjr'
    rw [ht] at htop
    have h3 : ((Region.ready .any l.toArray listed).all fun j => (heads p ++ heads q).contains j) = true := by simpa using htop
    refine ⟨fun h0 => (by rw [h0] at hjr'; cases hjr'), fun k hk => ?_⟩
    obtain ⟨n', hn, h⟩ := hB k (by have := List.all_eq_true.1 h3 k hk; simpa [heads] using this) hk
    obtain rfl : n = n' := by omega
    exact h
theorem wp_region_planC {id : Nat} {l : List Oper} {a : Act} {w : World} (p : Plan) (hm : P.follows .mixedOrders = true) (hs : Region.noSelect l.toArray = true) (hz : sizesB l a.tmps.size = true)
    (hok : okC l true p l.length (Array.replicate l.length false) [] = true) (h : walk P l.toArray Q p a w.drew) : (Code.region id l.toArray true).wp P Q a w := by
  refine wp_region_any hm (wpAny_only _ _ _ _ (wpAny_of_Y (dp := dep l l.length) _ [] _ _ _ ?_))
  have hsz : ∀ (i : Nat) (o : Oper) (t : Tmp), l[i]? = some o → o.dst = some t → t < a.tmps.size := by
    intro i o t hi ht
    have := List.all_eq_true.1 hz o (List.mem_of_getElem? hi)
    rw [ht] at this
    simpa using this
  have := (wpAnyY_of_walkC (P := P) (Q := Q) (l := l) (Region.noSelect_spec hs) p true l.length [] (Array.replicate l.length false) a w.drew (by simpa using hok) (fun j o _ hj => by
      simp [Array.getD_eq_getD_getElem?, Array.getElem?_replicate] at hj
      split at hj <;> simp at hj) (fun y hy => by cases hy) (fun y hy => by cases hy) hsz h).1 rfl
  simpa using this
end
end Go.Proofs.YtpahkaffknnjhaaGreatDoor
end

section
namespace Go.Proofs.YtpahkaffknnjhaaGreatDoor
set_option linter.unusedSimpArgs false
set_option linter.unusedVariables false
open Go Go.RowKit
section
variable {P : Program} {Q : Exit → Act → World → Prop}
end
end Go.Proofs.YtpahkaffknnjhaaGreatDoor
end

section
namespace Go.Proofs.YtpahkaffknnjhaaGreatDoor
set_option linter.unusedSimpArgs false
set_option linter.unusedVariables false
open Go.RowKit
theorem run_cat (w : World) (l m : List UInt8) (hl : l.length + m.length ≤ 9223372036854775807) : (binOp .add 9 (txt l) (txt m)).run Tryz.prog w = .ok (txt (l ++ m)) w := by
  unfold txt
  have h1 : (ByteArray.mk l.toArray).size = l.length := by simp [ByteArray.size]
  have h2 : (ByteArray.mk m.toArray).size = m.length := by simp [ByteArray.size]
  have hj := cut_join l m
  go_simp
section
variable {l : List Oper} {o : Oper} {a : Act} {w : World} {T : Value → World → Prop} {Q : Exit → Act → World → Prop}
end
end Go.Proofs.YtpahkaffknnjhaaGreatDoor
end

section
namespace Go.Proofs.YtpahkaffknnjhaaGreatDoor
set_option linter.unusedSimpArgs false
set_option linter.unusedVariables false
open Go.RowKit
theorem BRow.set {w : World} {g : Nat} {l : List UInt8} (h : BRow w (some ⟨g, 0, none⟩) l) {j : Nat} (hj : j < l.length) (x : UInt8) : BRow (w.setCell ⟨g, j, none⟩ (bv x)) (some ⟨g, 0, none⟩) (l.set j x) := by
  intro hl
  obtain ⟨b, o, e, hb, hc⟩ := h (by simp; omega)
  simp only [Option.some.injEq, Addr.mk.injEq, and_true] at e
  obtain ⟨rfl, rfl⟩ := e
  refine ⟨g, 0, rfl, by simpa using hb, fun i hi => ?_⟩
  have hil : i < l.length := by simpa using hi
  have h0 := hc i (by simpa using hil)
  by_cases hij : i = j
  · subst hij
    rw [Nat.zero_add] at h0 ⊢
    rw [World.cell?_setCell_same _ _ _ h0]
    simp
  · rw [World.cell?_setCell_other w _ _ _ (by intro e; simp at e <;> omega), h0]
    simp [List.getElem_set, Ne.symm hij]
end Go.Proofs.YtpahkaffknnjhaaGreatDoor
end

