/-
  Texts of a proof, one behind the other (each with its own head).
-/
import Ieee.Arith
import GoSem.Op.String
import Derived.WalkKit
import Derived.Lib.Hide
import Derived.Deep.QuietTactic
import Derived.Deep.RegionWith
import Derived.Deep.AppendLies
import Derived.Deep.DeepCutAuto
import Derived.Maps.AppendAt
import Derived.BigQuiet
import Derived.WalkSpells
import Derived.WalkLawsBesides
import Derived.Lib.SlBytesConst
import Derived.Lib.AppendStr
import Derived.Test.YtjdffhonljhpcaaGreatProg
import Derived.Lib.AppendZeros
import Derived.Laws.ResultCell
import Derived.Orders
import Derived.OneCell
section
/-
  Plain facts on numbers, texts and truths as bytes (layer 1), with no program in sight: how they are written, and how they are taken off again.
-/
namespace Go.Proofs.YtjdffhonljhpcaaGreat.Wire
set_option linter.unusedSimpArgs false
set_option linter.unusedVariables false

/-- A number's bytes; f is enough where the number is below 128^f. -/
def numF : Nat → Nat → List UInt8
  | 0, _ => []
  | f + 1, n => if n < 128 then [UInt8.ofNat n] else UInt8.ofNat (n % 128 + 128) :: numF f (n / 128)
def num (n : Nat) : List UInt8 := numF 10 n

/-- What is taken off the front of some bytes: the error, how many bytes, the number. -/
def tk : Nat → Nat → List UInt8 → Nat × Nat × Nat
  | _, _, [] => (10, 0, 0)
  | i, a, c :: r =>
    if i = 9 ∧ 1 < c.toNat then (7, 0, 0)
    else if 128 ≤ c.toNat then tk (i + 1) (a + c.toNat % 128 * 128 ^ i) r
    else if c.toNat = 0 ∧ 0 < i then (7, 0, 0)
    else (0, i + 1, a + c.toNat % 128 * 128 ^ i)

/-- A reader: what is left, and the error. -/
structure RS where
  l : List UInt8
  e : Int

def take (r : RS) : RS × Nat :=
  if r.e ≠ 0 then (r, 0)
  else if (tk 0 0 r.l).1 ≠ 0 then (⟨r.l, (tk 0 0 r.l).1⟩, 0)
  else (⟨r.l.drop (tk 0 0 r.l).2.1, 0⟩, (tk 0 0 r.l).2.2)
/-- A number as one that may be below 0. -/
def toInt (n : Nat) : Int := if n % 2 = 1 then -((n / 2 : Nat) : Int) - 1 else ((n / 2 : Nat) : Int)
def takeInt (r : RS) : RS × Int := ((take r).1, toInt (take r).2)
def count (r : RS) (most : Int) : RS × Nat :=
  if (take r).1.e ≠ 0 then ((take r).1, 0)
  else if most < 0 ∨ most < ((take r).2 : Int) then (⟨r.l, 11⟩, 0)
  else take r
def takeText (r : RS) (most : Int) : RS × List UInt8 :=
  if (count r most).1.e ≠ 0 then ((count r most).1, [])
  else if (count r most).1.l.length < (count r most).2 then (⟨r.l, 10⟩, [])
  else (⟨(count r most).1.l.drop (count r most).2, 0⟩, (count r most).1.l.take (count r most).2)
def takeBool (r : RS) : RS × Bool :=
  if r.e ≠ 0 then (r, false)
  else match r.l with
    | [] => (⟨[], 10⟩, false)
    | c :: s => if 1 < c.toNat then (⟨c :: s, 7⟩, false) else (⟨s, 0⟩, c.toNat == 1)
def fin (r : RS) : RS := if r.e = 0 ∧ r.l ≠ [] then ⟨r.l, 12⟩ else r
def fail (r : RS) (e : Int) : RS := if r.e = 0 then ⟨r.l, e⟩ else r

/-! What is taken -/
theorem tk_err (i a : Nat) (l : List UInt8) : (tk i a l).1 = 0 ∨ (tk i a l).1 = 7 ∨ (tk i a l).1 = 10 := by
  induction l generalizing i a with
  | nil => exact .inr (.inr rfl)
  | cons c r ih =>
    unfold tk
    split
    · exact .inr (.inl rfl)
    · split
      · exact ih _ _
      · split
        · exact .inr (.inl rfl)
        · exact .inl rfl
theorem tk_used (i a : Nat) (l : List UInt8) (h : (tk i a l).1 = 0) : i < (tk i a l).2.1 ∧ (tk i a l).2.1 ≤ i + l.length := by
  induction l generalizing i a with
  | nil => simp [tk] at h
  | cons c r ih =>
    unfold tk at h ⊢
    split
    · rename_i h1; rw [if_pos h1] at h; simp at h
    · rename_i h1
      rw [if_neg h1] at h
      split
      · rename_i h2
        rw [if_pos h2] at h
        have := ih _ _ h
        simp only [List.length_cons]
        omega
      · rename_i h2
        rw [if_neg h2] at h
        split
        · rename_i h3; rw [if_pos h3] at h; simp at h
        · simp only [List.length_cons]; omega

theorem tk_lt (l : List UInt8) : ∀ (i a : Nat), i ≤ 9 → a < 128 ^ i → (tk i a l).2.2 < 18446744073709551616 := by
  induction l with
  | nil => intro i a _ _; simp [tk]
  | cons c r ih =>
    intro i a hi ha
    have hc := c.toNat_lt
    unfold tk
    split
    · simp
    · rename_i h1
      have hm : c.toNat % 128 * 128 ^ i ≤ 127 * 128 ^ i := Nat.mul_le_mul (by omega) (Nat.le_refl _)
      split
      · rename_i h2
        refine ih (i + 1) _ (by omega) ?_
        rw [Nat.pow_succ]
        omega
      · split
        · simp
        · simp only
          rcases Nat.lt_or_ge i 9 with h | h
          · have h8 : 128 ^ i ≤ 128 ^ 8 := Nat.pow_le_pow_right (by omega) (by omega)
            have : (128 : Nat) ^ 8 = 72057594037927936 := by decide
            omega
          · obtain rfl : i = 9 := by omega
            have h9 : c.toNat % 128 * 128 ^ 9 ≤ 1 * 128 ^ 9 := Nat.mul_le_mul (by omega) (Nat.le_refl _)
            have : (128 : Nat) ^ 9 = 9223372036854775808 := by decide
            omega
theorem take_lt (r : RS) : (take r).2 < 18446744073709551616 := by
  unfold take
  split
  · simp
  · split
    · simp
    · exact tk_lt r.l 0 0 (by omega) (by simp)
theorem take_len (r : RS) : (take r).1.l.length ≤ r.l.length := by
  unfold take
  split
  · exact Nat.le_refl _
  · split
    · exact Nat.le_refl _
    · simp
/-- An error of the number's own leaves the bytes. -/
theorem take_err (r : RS) (h : (take r).1.e ≠ 0) : (take r).1.l = r.l := by
  unfold take at h ⊢
  split
  · rfl
  · split
    · rfl
    · rename_i h1 h2
      rw [if_neg h1, if_neg h2] at h
      simp at h

theorem count_lt (r : RS) (most : Int) (hm : most ≤ 9223372036854775807) : ((count r most).2 : Int) ≤ 9223372036854775807 := by
  unfold count
  split
  · simp
  · split
    · simp
    · omega

/-! What is written is taken -/
theorem numF_ne (f n : Nat) (h : 0 < f) : numF f n ≠ [] := by
  cases f with
  | zero => omega
  | succ f =>
    unfold numF
    split <;> simp
theorem numF_fuel : ∀ (f g n : Nat), n < 128 ^ f → f ≤ g → 0 < f → numF g n = numF f n
  | 0, _, _, _, _, h => by omega
  | f + 1, 0, _, _, h, _ => by omega
  | f + 1, g + 1, n, hn, hg, _ => by
    unfold numF
    split
    · rfl
    · rename_i h
      have hd : n / 128 < 128 ^ f := by
        rw [Nat.pow_succ] at hn
        exact Nat.div_lt_of_lt_mul (by rw [Nat.mul_comm]; exact hn)
      have hf : 0 < f := by
        rcases Nat.eq_zero_or_pos f with h0 | h0
        · subst h0; simp at hd; omega
        · exact h0
      rw [numF_fuel f g (n / 128) hd (by omega) hf]
theorem numF_length : ∀ (f n : Nat), (numF f n).length ≤ f
  | 0, _ => by simp [numF]
  | f + 1, n => by
    unfold numF
    split
    · simp
    · have := numF_length f (n / 128)
      simp; omega
theorem tk_numF : ∀ (f i a n : Nat) (s : List UInt8), i + f = 10 → n < 128 ^ f → (f = 1 → n ≤ 1) → (0 < i → 0 < n) → n < 2 ^ (64 - 7 * i) → 0 < f →
    tk i a (numF f n ++ s) = (0, i + (numF f n).length, a + n * 128 ^ i)
  | 0, _, _, _, _, _, _, _, _, _, h => by omega
  | f + 1, i, a, n, s, hi, hn, h1, h0, h64, _ => by
    unfold numF
    by_cases h : n < 128
    · have e : (UInt8.ofNat n).toNat = n := by rw [UInt8.toNat_ofNat']; omega
      simp only [h, if_true, List.cons_append, List.nil_append, tk, e]
      rw [if_neg (by
        rintro ⟨h9, hgt⟩
        have := h1 (by omega)
        omega), if_neg (by omega), if_neg (by
        rintro ⟨hz, hp⟩
        have := h0 hp
        omega)]
      simp only [List.length_cons, List.length_nil, Nat.mod_eq_of_lt h]
    · have e : (UInt8.ofNat (n % 128 + 128)).toNat = n % 128 + 128 := by rw [UInt8.toNat_ofNat']; omega
      have hf : 0 < f := by
        rcases Nat.eq_zero_or_pos f with hz | hz
        · subst hz
          have := h1 rfl
          omega
        · exact hz
      have hd : n / 128 < 128 ^ f := by
        rw [Nat.pow_succ] at hn
        exact Nat.div_lt_of_lt_mul (by rw [Nat.mul_comm]; exact hn)
      have h64' : n / 128 < 2 ^ (64 - 7 * (i + 1)) := by
        refine Nat.div_lt_of_lt_mul ?_
        rw [show (128 : Nat) = 2 ^ 7 from rfl, ← Nat.pow_add, show 7 + (64 - 7 * (i + 1)) = 64 - 7 * i from by omega]
        exact h64
      have ih := tk_numF f (i + 1) (a + n % 128 * 128 ^ i) (n / 128) s (by omega) hd (fun hf1 => by
        have : i + 1 = 9 := by omega
        rw [this] at h64'
        simp at h64'
        omega) (fun _ => by omega) h64' hf
      simp only [h, if_false, List.cons_append, tk, e]
      rw [if_neg (by omega), if_pos (by omega), show (n % 128 + 128) % 128 = n % 128 from by omega, ih]
      simp only [List.length_cons]
      refine Prod.ext rfl (Prod.ext ?_ ?_)
      · simp only; omega
      · simp only
        rw [Nat.pow_succ, Nat.add_assoc]
        congr 1
        have := Nat.mod_add_div n 128
        calc n % 128 * 128 ^ i + n / 128 * (128 ^ i * 128) = (n % 128 + 128 * (n / 128)) * 128 ^ i := by
              rw [Nat.add_mul]; congr 1; rw [Nat.mul_comm (128 ^ i) 128, ← Nat.mul_assoc, Nat.mul_comm (n / 128) 128]
          _ = n * 128 ^ i := by rw [this]
theorem tk_num (n : Nat) (h : n < 18446744073709551616) (s : List UInt8) : tk 0 0 (num n ++ s) = (0, (num n).length, n) := by
  have := tk_numF 10 0 0 n s rfl (Nat.lt_of_lt_of_le h (by decide)) (by omega) (by omega) (by simpa using h) (by omega)
  simpa [num] using this
theorem num_length (n : Nat) : 0 < (num n).length ∧ (num n).length ≤ 10 :=
  ⟨List.length_pos_iff.2 (numF_ne 10 n (by omega)), numF_length 10 n⟩
theorem take_num (n : Nat) (h : n < 18446744073709551616) (s : List UInt8) : take ⟨num n ++ s, 0⟩ = (⟨s, 0⟩, n) := by
  unfold take
  rw [if_neg (by simp), tk_num n h s]
  simp
theorem num_inj {a b : Nat} (ha : a < 18446744073709551616) (hb : b < 18446744073709551616) (s t : List UInt8) (h : num a ++ s = num b ++ t) : a = b := by
  have h1 := take_num a ha s
  have h2 := take_num b hb t
  rw [h, h2] at h1
  exact (Prod.ext_iff.1 h1).2.symm
theorem numF_mono : ∀ (f a b : Nat), a ≤ b → (numF f a).length ≤ (numF f b).length
  | 0, _, _, _ => by simp [numF]
  | f + 1, a, b, h => by
    unfold numF
    by_cases ha : a < 128
    · rw [if_pos ha]
      split <;> simp
    · rw [if_neg ha, if_neg (by omega)]
      have := numF_mono f (a / 128) (b / 128) (Nat.div_le_div_right h)
      simpa using this

/-! Numbers that may be below 0 -/
def ofInt (n : Int) : Nat := if n < 0 then (-(n + 1)).toNat * 2 + 1 else n.toNat * 2
theorem toInt_ofInt (n : Int) : toInt (ofInt n) = n := by
  unfold toInt ofInt
  by_cases h : n < 0
  · rw [if_pos h, if_pos (by omega)]; omega
  · rw [if_neg h, if_neg (by omega)]; omega
theorem ofInt_lt (n : Int) (h1 : -9223372036854775808 ≤ n) (h2 : n ≤ 9223372036854775807) : ofInt n < 18446744073709551616 := by
  unfold ofInt
  split <;> omega
/-- A text's bytes. -/
def text (s : List UInt8) : List UInt8 := num s.length ++ s
theorem count_num (n : Nat) (most : Int) (h : n < 18446744073709551616) (s : List UInt8) (hm : (n : Int) ≤ most) : count ⟨num n ++ s, 0⟩ most = (⟨s, 0⟩, n) := by
  unfold count
  rw [take_num n h s]
  simp only [ne_eq, not_true_eq_false, if_false]
  rw [if_neg (by omega)]
theorem takeText_text (s t : List UInt8) (most : Int) (h : s.length < 18446744073709551616) (hm : (s.length : Int) ≤ most) : takeText ⟨text s ++ t, 0⟩ most = (⟨t, 0⟩, s) := by
  unfold takeText text
  rw [List.append_assoc, count_num _ _ h _ hm]
  simp
theorem takeText_many (s t : List UInt8) (most : Int) (h : s.length < 18446744073709551616) (hm : most < (s.length : Int)) : takeText ⟨text s ++ t, 0⟩ most = (⟨text s ++ t, 11⟩, []) := by
  have e : count ⟨text s ++ t, 0⟩ most = (⟨text s ++ t, 11⟩, 0) := by
    unfold count text
    rw [List.append_assoc, take_num _ h]
    simp only [ne_eq, not_true_eq_false, if_false]
    rw [if_pos (by omega)]
  unfold takeText
  rw [e]
  simp
end Go.Proofs.YtjdffhonljhpcaaGreat.Wire
end

section
/-
  Plain facts on the check sum of bytes (CRC-32), with no program in sight: the sum bit by bit, its linearity, and that a row of at most 32 turned bits is seen.
-/
namespace Go.Proofs.YtjdffhonljhpcaaGreat.Crc
set_option linter.unusedSimpArgs false
set_option linter.unusedVariables false

/-- One bit of the sum's register. -/
def bit (s : Nat) : Nat := if s % 2 = 1 then (s / 2) ^^^ 3988292384 else s / 2
/-- k bits. -/
def bits : Nat → Nat → Nat
  | 0, s => s
  | k + 1, s => bit (bits k s)
/-- One byte. -/
def byte (s : Nat) (c : UInt8) : Nat := bits 8 (s ^^^ c.toNat)
/-- The register behind some bytes. -/
def run (s : Nat) (l : List UInt8) : Nat := l.foldl byte s
/-- The sum. -/
def sum (l : List UInt8) : Nat := run 4294967295 l ^^^ 4294967295

theorem run_nil (s : Nat) : run s [] = s := by unfold run; rw [List.foldl_nil]
theorem run_cons (s : Nat) (c : UInt8) (l : List UInt8) : run s (c :: l) = run (byte s c) l := by unfold run; rw [List.foldl_cons]
theorem run_append (s : Nat) (a b : List UInt8) : run s (a ++ b) = run (run s a) b := by
  unfold run; rw [List.foldl_append]
theorem run_snoc (s : Nat) (l : List UInt8) (c : UInt8) : run s (l ++ [c]) = byte (run s l) c := by rw [run_append, run_cons, run_nil]

theorem xor_lt {x y : Nat} (hx : x < 4294967296) (hy : y < 4294967296) : x ^^^ y < 4294967296 := by
  have h := Nat.xor_lt_two_pow (n := 32) (x := x) (y := y) (by omega) (by omega)
  omega
theorem bit_lt {s : Nat} (h : s < 4294967296) : bit s < 4294967296 := by
  unfold bit
  split
  · exact xor_lt (by omega) (by omega)
  · omega
theorem bits_lt {s : Nat} (k : Nat) (h : s < 4294967296) : bits k s < 4294967296 := by
  induction k with
  | zero => exact h
  | succ k ih => exact bit_lt ih
theorem byte_lt {s : Nat} (c : UInt8) (h : s < 4294967296) : byte s c < 4294967296 :=
  bits_lt 8 (xor_lt h (by have := c.toNat_lt; omega))
theorem run_lt {s : Nat} (l : List UInt8) (h : s < 4294967296) : run s l < 4294967296 := by
  induction l generalizing s with
  | nil => exact h
  | cons c l ih => exact ih (byte_lt c h)
theorem sum_lt (l : List UInt8) : sum l < 4294967296 := xor_lt (run_lt l (by omega)) (by omega)

theorem bits_add (a b s : Nat) : bits (a + b) s = bits a (bits b s) := by
  induction a with
  | zero => simp [bits]
  | succ a ih => rw [Nat.succ_add]; simp only [bits, ih]

/-! Linear -/
theorem xor_mod (x y : Nat) : (x ^^^ y) % 2 = if x % 2 = y % 2 then 0 else 1 := by
  have h := @Nat.xor_mod_two_eq_one x y
  by_cases e : x % 2 = y % 2
  · rw [if_pos e]
    rcases Nat.mod_two_eq_zero_or_one (x ^^^ y) with h0 | h0
    · exact h0
    · exact absurd (h.1 h0) (by rw [e]; simp)
  · rw [if_neg e]
    refine h.2 fun hh => e ?_
    rcases Nat.mod_two_eq_zero_or_one x with a | a <;> rcases Nat.mod_two_eq_zero_or_one y with b | b <;> simp_all
theorem bit_zero : bit 0 = 0 := by simp [bit]
theorem bits_zero (k : Nat) : bits k 0 = 0 := by
  induction k with
  | zero => rfl
  | succ k ih => simp only [bits, ih, bit_zero]
theorem xor4 (a b p : Nat) : (a ^^^ p) ^^^ (b ^^^ p) = a ^^^ b := by
  rw [Nat.xor_assoc, Nat.xor_comm b p, ← Nat.xor_assoc p p b, Nat.xor_self, Nat.zero_xor]
theorem xor_r (a b p : Nat) : (a ^^^ b) ^^^ p = (a ^^^ p) ^^^ b := by
  rw [Nat.xor_assoc, Nat.xor_comm b p, ← Nat.xor_assoc]
theorem bit_xor (x y : Nat) : bit (x ^^^ y) = bit x ^^^ bit y := by
  unfold bit
  rw [xor_mod, Nat.xor_div_two]
  rcases Nat.mod_two_eq_zero_or_one x with a | a <;> rcases Nat.mod_two_eq_zero_or_one y with b | b <;> simp [a, b]
  · rw [Nat.xor_assoc]
  · rw [xor_r]
  · exact (xor4 _ _ _).symm
theorem bits_xor (k x y : Nat) : bits k (x ^^^ y) = bits k x ^^^ bits k y := by
  induction k with
  | zero => rfl
  | succ k ih => simp only [bits, ih, bit_xor]

/-- The bits of a byte one by one: the register with bit number i of the byte taken in. -/
def bit' (s c : Nat) : Nat := if s % 2 = c % 2 then s / 2 else (s / 2) ^^^ 3988292384
theorem bit_in (s c : Nat) : bit (s ^^^ c) = bit' s c ^^^ (c / 2) := by
  unfold bit bit'
  rw [xor_mod, Nat.xor_div_two]
  by_cases e : s % 2 = c % 2
  · simp [e]
  · simp only [if_neg e, if_true]
    exact xor_r _ _ _
def bits' : Nat → Nat → Nat → Nat
  | 0, s, _ => s
  | k + 1, s, c => bit' (bits' k s c) (c / 2 ^ k)
theorem bits_in (k s c : Nat) : bits k (s ^^^ c) = bits' k s c ^^^ (c / 2 ^ k) := by
  induction k with
  | zero => simp [bits, bits']
  | succ k ih =>
    simp only [bits, bits', ih]
    rw [bit_in, Nat.div_div_eq_div_mul, ← Nat.pow_succ]
theorem byte_eq (s : Nat) (c : UInt8) : byte s c = bits' 8 s c.toNat := by
  have h := c.toNat_lt
  rw [byte, bits_in, Nat.div_eq_of_lt (by omega), Nat.xor_zero]
theorem bits'_lt {s : Nat} (k c : Nat) (h : s < 4294967296) : bits' k s c < 4294967296 := by
  induction k with
  | zero => exact h
  | succ k ih =>
    simp only [bits', bit']
    split
    · omega
    · exact xor_lt (by omega) (by omega)

/-! The register is linear in the register and the bytes together. -/
theorem xor_swap (a b c d : Nat) : (a ^^^ b) ^^^ (c ^^^ d) = (a ^^^ c) ^^^ (b ^^^ d) := by
  rw [Nat.xor_assoc, ← Nat.xor_assoc b c d, Nat.xor_comm b c, Nat.xor_assoc c b d, ← Nat.xor_assoc]
theorem byte_xor (s t : Nat) (c d : UInt8) : byte (s ^^^ t) (c ^^^ d) = byte s c ^^^ byte t d := by
  unfold byte
  rw [UInt8.toNat_xor, xor_swap, bits_xor]
theorem run_xor : ∀ (l m : List UInt8) (s t : Nat), l.length = m.length → run (s ^^^ t) (List.zipWith (· ^^^ ·) l m) = run s l ^^^ run t m
  | [], [], s, t, _ => rfl
  | c :: l, d :: m, s, t, h => by
    simp only [List.zipWith_cons_cons, run_cons]
    rw [byte_xor]
    exact run_xor l m _ _ (by simpa using h)
  | [], _ :: _, _, _, h => by simp at h
  | _ :: _, [], _, _, h => by simp at h

/-- The sums of three texts of one length, added without carry, are that of the three texts added so. -/
theorem sum_adds (a b c : List UInt8) (hb : a.length = b.length) (hc : a.length = c.length) :
    sum a ^^^ sum b ^^^ sum c = sum (List.zipWith (· ^^^ ·) (List.zipWith (· ^^^ ·) a b) c) := by
  unfold sum
  have h1 := run_xor a b 4294967295 4294967295 hb
  have h2 := run_xor (List.zipWith (· ^^^ ·) a b) c (4294967295 ^^^ 4294967295) 4294967295 (by simp [← hb, hc])
  rw [h1, Nat.xor_self, Nat.zero_xor] at h2
  rw [h2, xor4, ← Nat.xor_assoc]

theorem xor_ones (s : Nat) (h : s < 4294967296) : s ^^^ 4294967295 = 4294967295 - s := by
  apply Nat.eq_of_testBit_eq
  intro i
  rw [Nat.testBit_xor, show 4294967295 - s = 2 ^ 32 - (s + 1) from by omega, Nat.testBit_two_pow_sub_succ (by omega), show (4294967295 : Nat) = 2 ^ 32 - 1 from rfl, Nat.testBit_two_pow_sub_one]
  by_cases hi : i < 32
  · simp [hi]
  · have : s.testBit i = false := Nat.testBit_lt_two_pow (Nat.lt_of_lt_of_le h (by
      have := Nat.pow_le_pow_right (n := 2) (by omega) (show 32 ≤ i by omega)
      simpa using this))
    simp [hi, this]
/-- The register behind k bits of a text. -/
def reg (l : List UInt8) (k : Nat) : Nat := bits' (k % 8) (run 4294967295 (l.take (k / 8))) (l.getD (k / 8) 0).toNat
theorem reg_zero (l : List UInt8) : reg l 0 = 4294967295 := by simp [reg, run_nil, bits']
theorem reg_lt (l : List UInt8) (k : Nat) : reg l k < 4294967296 := bits'_lt _ _ (run_lt _ (by omega))
theorem reg_step (l : List UInt8) (k : Nat) (h : k / 8 < l.length) : reg l (k + 1) = bit' (reg l k) (l[k / 8].toNat / 2 ^ (k % 8)) := by
  have hg : l.getD (k / 8) 0 = l[k / 8] := by simp [h]
  unfold reg
  by_cases h7 : k % 8 = 7
  · have e1 : (k + 1) % 8 = 0 := by omega
    have e2 : (k + 1) / 8 = k / 8 + 1 := by omega
    rw [e1, e2, List.take_succ_eq_append_getElem h, run_snoc, byte_eq, hg, h7]
    rfl
  · have e1 : (k + 1) % 8 = k % 8 + 1 := by omega
    have e2 : (k + 1) / 8 = k / 8 := by omega
    rw [e1, e2, hg]
    rfl
theorem reg_end (l : List UInt8) : 4294967295 - reg l (8 * l.length) = sum l := by
  have e : reg l (8 * l.length) = run 4294967295 l := by
    unfold reg
    rw [Nat.mul_mod_right, Nat.mul_div_cancel_left _ (by omega), List.take_length]
    rfl
  rw [e, sum, xor_ones _ (run_lt _ (by omega))]

/-- Four bytes of a number, the least first. -/
def le4 (s : Nat) : List UInt8 := [UInt8.ofNat s, UInt8.ofNat (s / 256), UInt8.ofNat (s / 65536), UInt8.ofNat (s / 16777216)]
/-- Bytes with their sum behind them. -/
def sealed (l : List UInt8) : List UInt8 := l ++ le4 (sum l)

/-! A bit turned in the register is never lost. -/
theorem xor_eq_zero {a b : Nat} (h : a ^^^ b = 0) : a = b := by
  have e : (a ^^^ b) ^^^ b = b := by rw [h, Nat.zero_xor]
  rwa [Nat.xor_assoc, Nat.xor_self, Nat.xor_zero] at e
theorem bit_ne {s : Nat} (h : s < 4294967296) (h0 : s ≠ 0) : bit s ≠ 0 := by
  unfold bit
  split
  · intro e
    have := xor_eq_zero e
    omega
  · omega
theorem bits_ne {s : Nat} (k : Nat) (h : s < 4294967296) (h0 : s ≠ 0) : bits k s ≠ 0 := by
  induction k with
  | zero => exact h0
  | succ k ih => exact bit_ne (bits_lt k h) ih
theorem byte_zero (s : Nat) : byte s 0 = bits 8 s := by simp [byte]
theorem run_zeros (s k : Nat) : run s (List.replicate k 0) = bits (8 * k) s := by
  induction k generalizing s with
  | zero => rfl
  | succ k ih => rw [List.replicate_succ, run_cons, byte_zero, ih, ← bits_add]; rfl
theorem run_ne {s : Nat} (k : Nat) (h : s < 4294967296) (h0 : s ≠ 0) : run s (List.replicate k 0) ≠ 0 := by
  rw [run_zeros]; exact bits_ne _ h h0

/-! Bits of a number taken in one by one. -/
theorem bit'_mod (s c : Nat) : bit' s (c % 2) = bit' s c := by unfold bit'; rw [Nat.mod_mod]
theorem bits'_add (a b s c : Nat) : bits' (a + b) s c = bits' b (bits' a s c) (c / 2 ^ a) := by
  induction b with
  | zero => rfl
  | succ b ih =>
    rw [← Nat.add_assoc]
    simp only [bits']
    rw [ih, Nat.div_div_eq_div_mul, ← Nat.pow_add]
theorem bits'_low (k s c : Nat) : bits' k s (c % 2 ^ k) = bits' k s c := by
  have key : ∀ j, j ≤ k → bits' j s (c % 2 ^ k) = bits' j s c := by
    intro j
    induction j with
    | zero => intro _; rfl
    | succ j ih =>
      intro hj
      simp only [bits']
      rw [ih (by omega), ← bit'_mod _ (c % 2 ^ k / 2 ^ j), ← bit'_mod _ (c / 2 ^ j)]
      congr 1
      have h : 2 ^ k = 2 ^ j * 2 ^ (k - j) := by rw [← Nat.pow_add]; congr 1; omega
      rw [h, Nat.mod_mul_right_div_self]
      have h2 : 2 ^ (k - j) = 2 * 2 ^ (k - j - 1) := by
        rw [← Nat.pow_succ']; congr 1; omega
      rw [h2, Nat.mod_mul_right_mod]
  exact key k (Nat.le_refl k)
/-- The N bytes of a number, the least first. -/
def bytesOf (N M : Nat) : List UInt8 := (List.range N).map fun j => UInt8.ofNat (M / 256 ^ j)
theorem bytesOf_length (N M : Nat) : (bytesOf N M).length = N := by simp [bytesOf]
theorem bytesOf_succ (N M : Nat) : bytesOf (N + 1) M = bytesOf N M ++ [UInt8.ofNat (M / 256 ^ N)] := by
  simp [bytesOf, List.range_succ]
theorem pow256 (N : Nat) : 256 ^ N = 2 ^ (8 * N) := by rw [show (256 : Nat) = 2 ^ 8 from rfl, ← Nat.pow_mul]
theorem run_bytesOf (s N M : Nat) : run s (bytesOf N M) = bits' (8 * N) s M := by
  induction N with
  | zero => rw [bytesOf, List.range_zero, List.map_nil, run_nil]; rfl
  | succ N ih =>
    rw [bytesOf_succ, run_snoc, ih, byte_eq, show 8 * (N + 1) = 8 * N + 8 from by omega, bits'_add, pow256]
    have h : (UInt8.ofNat (M / 2 ^ (8 * N))).toNat = M / 2 ^ (8 * N) % 2 ^ 8 := by simp
    rw [h, bits'_low]
theorem bits_shift (k t : Nat) : bits k (t * 2 ^ k) = t := by
  induction k generalizing t with
  | zero => simp [bits]
  | succ k ih =>
    simp only [bits]
    rw [Nat.pow_succ, ← Nat.mul_assoc, Nat.mul_right_comm, ih]
    unfold bit
    rw [if_neg (by omega)]
    omega
/-- A row of at most 32 turned bits is seen. -/
theorem burst_ne (N k t : Nat) (ht : t ≠ 0) (h32 : t < 4294967296) (hk : k + 32 ≤ 8 * N) : run 0 (bytesOf N (t * 2 ^ k)) ≠ 0 := by
  rw [run_bytesOf]
  have hM : t * 2 ^ k < 2 ^ (8 * N) := by
    have h1 : t * 2 ^ k < 2 ^ 32 * 2 ^ k := Nat.mul_lt_mul_of_pos_right (by omega) (Nat.pow_pos (by omega))
    rw [← Nat.pow_add] at h1
    exact Nat.lt_of_lt_of_le h1 (Nat.pow_le_pow_right (by omega) (by omega))
  have h := bits_in (8 * N) 0 (t * 2 ^ k)
  rw [Nat.zero_xor, Nat.div_eq_of_lt hM, Nat.xor_zero] at h
  rw [← h, show 8 * N = (8 * N - k) + k from by omega, bits_add, bits_shift]
  exact bits_ne _ h32 ht
theorem le4_bytesOf (s : Nat) : le4 s = bytesOf 4 s := by
  simp [le4, bytesOf, List.range_succ]
/-- What the register holds behind sealed bytes. -/
theorem run_sealed (l : List UInt8) : run 4294967295 (sealed l) = bits 32 4294967295 := by
  unfold sealed
  rw [run_append, le4_bytesOf, run_bytesOf]
  have hs := sum_lt l
  have h := bits_in 32 (run 4294967295 l) (sum l)
  rw [Nat.div_eq_of_lt (by omega), Nat.xor_zero] at h
  rw [show 8 * 4 = 32 from rfl, ← h, sum, ← Nat.xor_assoc, Nat.xor_self, Nat.zero_xor]
theorem sealed_length (l : List UInt8) : (sealed l).length = l.length + 4 := by simp [sealed, le4]
/-- Sealed bytes, of which a row of at most 32 bits is turned, are no sealed bytes. -/
theorem burst (l : List UInt8) (k t : Nat) (ht : t ≠ 0) (h32 : t < 4294967296) (hk : k + 32 ≤ 8 * (l.length + 4)) (a : List UInt8) :
    sealed a ≠ List.zipWith (· ^^^ ·) (sealed l) (bytesOf (l.length + 4) (t * 2 ^ k)) := by
  intro e
  have h1 := run_sealed a
  rw [e] at h1
  have h2 := run_xor (sealed l) (bytesOf (l.length + 4) (t * 2 ^ k)) 4294967295 0 (by rw [sealed_length, bytesOf_length])
  rw [Nat.xor_zero, h1, run_sealed] at h2
  have h3 : run 0 (bytesOf (l.length + 4) (t * 2 ^ k)) = 0 := by
    have this : bits 32 4294967295 ^^^ bits 32 4294967295 = bits 32 4294967295 ^^^ (bits 32 4294967295 ^^^ run 0 (bytesOf (l.length + 4) (t * 2 ^ k))) := by rw [← h2]
    rw [← Nat.xor_assoc, Nat.xor_self, Nat.zero_xor] at this
    exact this.symm
  exact burst_ne _ _ _ ht h32 hk h3

/-! One bit more is turned -/
theorem pow_byte (p j : Nat) : 2 ^ p / 256 ^ j % 256 = if j = p / 8 then 2 ^ (p % 8) else 0 := by
  rw [pow256]
  by_cases hj : 8 * j ≤ p
  · have e : 2 ^ p / 2 ^ (8 * j) = 2 ^ (p - 8 * j) := Nat.pow_div hj (by omega)
    rw [e]
    by_cases h8 : p - 8 * j < 8
    · rw [if_pos (by omega), show p % 8 = p - 8 * j from by omega]
      have : 2 ^ (p - 8 * j) < 2 ^ 8 := Nat.pow_lt_pow_right (by omega) h8
      exact Nat.mod_eq_of_lt (by simpa using this)
    · rw [if_neg (by omega), show p - 8 * j = 8 + (p - 8 * j - 8) from by omega, Nat.pow_add, show (256 : Nat) = 2 ^ 8 from rfl, Nat.mul_mod_right]
  · rw [if_neg (by omega), Nat.div_eq_of_lt (Nat.pow_lt_pow_right (by omega) (by omega))]
theorem xor_mod_pow (a b k : Nat) : (a ^^^ b) % 2 ^ k = (a % 2 ^ k) ^^^ (b % 2 ^ k) := by
  apply Nat.eq_of_testBit_eq
  intro i
  simp only [Nat.testBit_mod_two_pow, Nat.testBit_xor]
  by_cases h : i < k <;> simp [h]
theorem add_xor (M p : Nat) (h : M < 2 ^ p) : M + 2 ^ p = M ^^^ 2 ^ p := by
  have e := Nat.two_pow_add_eq_or_of_lt h 1
  rw [Nat.mul_one] at e
  rw [Nat.add_comm, e, Nat.or_comm]
  apply Nat.eq_of_testBit_eq
  intro i
  rw [Nat.testBit_or, Nat.testBit_xor, Nat.testBit_two_pow]
  by_cases e : p = i
  · subst e
    rw [Nat.testBit_lt_two_pow h]
    simp
  · simp [e]
theorem ofNat_xor (a b : Nat) : UInt8.ofNat (a ^^^ b) = UInt8.ofNat a ^^^ UInt8.ofNat b := by
  apply UInt8.toNat_inj.1
  simp only [UInt8.toNat_xor, UInt8.toNat_ofNat']
  exact xor_mod_pow a b 8
theorem bytesOf_bit (N M p : Nat) (h : M < 2 ^ p) (hp : p / 8 < N) :
    bytesOf N (M + 2 ^ p) = (bytesOf N M).set (p / 8) ((bytesOf N M)[p / 8]'(by rw [bytesOf_length]; exact hp) ^^^ UInt8.ofNat (2 ^ (p % 8))) := by
  apply List.ext_getElem
  · simp [bytesOf]
  · intro j h1 h2
    rw [List.getElem_set]
    simp only [bytesOf, List.getElem_map, List.getElem_range]
    rw [add_xor M p h, pow256, Nat.xor_div_two_pow, ← pow256, ofNat_xor]
    have hb : UInt8.ofNat (2 ^ p / 256 ^ j) = if j = p / 8 then UInt8.ofNat (2 ^ (p % 8)) else 0 := by
      apply UInt8.toNat_inj.1
      rw [UInt8.toNat_ofNat', show 2 ^ 8 = 256 from rfl, pow_byte]
      by_cases e : j = p / 8
      · rw [if_pos e, if_pos e, UInt8.toNat_ofNat', Nat.mod_eq_of_lt (Nat.pow_lt_pow_right (by omega) (by omega))]
      · rw [if_neg e, if_neg e]; rfl
    rw [hb]
    by_cases e : p / 8 = j
    · rw [if_pos e.symm, if_pos e]
      subst e
      rfl
    · rw [if_neg (fun h => e h.symm), if_neg e, UInt8.xor_zero]
theorem zip_set : ∀ (l m : List UInt8) (i : Nat) (x : UInt8) (hl : i < l.length) (hm : i < m.length),
    List.zipWith (· ^^^ ·) l (m.set i (m[i] ^^^ x)) = (List.zipWith (· ^^^ ·) l m).set i ((List.zipWith (· ^^^ ·) l m)[i]'(by simp; omega) ^^^ x)
  | [], m, i, x, hl, hm => by simp at hl
  | a :: l, [], i, x, hl, hm => by simp at hm
  | a :: l, b :: m, 0, x, hl, hm => by simp [UInt8.xor_assoc]
  | a :: l, b :: m, i + 1, x, hl, hm => by
    have := zip_set l m i x (by simpa using hl) (by simpa using hm)
    simp [this]
theorem mod_succ (t i : Nat) : t % 2 ^ (i + 1) = t % 2 ^ i + (t / 2 ^ i % 2) * 2 ^ i := by
  rw [Nat.pow_succ, Nat.mod_mul, Nat.mul_comm (2 ^ i)]
/-- The sealed bytes with the first i of the bits turned. -/
def turned (l : List UInt8) (k t i : Nat) : List UInt8 := List.zipWith (· ^^^ ·) (sealed l) (bytesOf (l.length + 4) (t % 2 ^ i * 2 ^ k))
theorem turned_length (l : List UInt8) (k t i : Nat) : (turned l k t i).length = l.length + 4 := by simp [turned, sealed_length, bytesOf_length]
theorem bytesOf_zero (N : Nat) : bytesOf N 0 = List.replicate N 0 := by
  apply List.ext_getElem <;> simp [bytesOf]
theorem zip_zero : ∀ (l : List UInt8) (N : Nat), l.length = N → List.zipWith (· ^^^ ·) l (List.replicate N 0) = l
  | [], N, _ => by simp
  | a :: l, N, h => by
    obtain ⟨N, rfl⟩ : ∃ M, N = M + 1 := ⟨N - 1, by simp at h; omega⟩
    simp only [List.replicate_succ, List.zipWith_cons_cons, UInt8.xor_zero]
    rw [zip_zero l N (by simpa using h)]
theorem turned_zero (l : List UInt8) (k t : Nat) : turned l k t 0 = sealed l := by
  unfold turned
  rw [Nat.pow_zero, Nat.mod_one, Nat.zero_mul, bytesOf_zero, zip_zero _ _ (sealed_length l)]
theorem turned_skip (l : List UInt8) (k t i : Nat) (h : t / 2 ^ i % 2 = 0) : turned l k t (i + 1) = turned l k t i := by
  unfold turned
  simp [mod_succ, h]
theorem turned_bit (l : List UInt8) (k t i : Nat) (h : t / 2 ^ i % 2 = 1) (hk : (k + i) / 8 < l.length + 4) :
    turned l k t (i + 1) = (turned l k t i).set ((k + i) / 8) ((turned l k t i)[(k + i) / 8]'(by rw [turned_length]; exact hk) ^^^ UInt8.ofNat (2 ^ ((k + i) % 8))) := by
  have hM : t % 2 ^ i * 2 ^ k < 2 ^ (k + i) := by
    rw [Nat.add_comm, Nat.pow_add]
    exact Nat.mul_lt_mul_of_pos_right (Nat.mod_lt _ (Nat.pow_pos (by omega))) (Nat.pow_pos (by omega))
  have e : t % 2 ^ (i + 1) * 2 ^ k = t % 2 ^ i * 2 ^ k + 2 ^ (k + i) := by
    rw [mod_succ, h, Nat.one_mul, Nat.add_mul, ← Nat.pow_add, Nat.add_comm i k]
  unfold turned
  rw [e, bytesOf_bit _ _ _ hM hk]
  exact zip_set _ _ _ _ (by rw [sealed_length]; exact hk) (by rw [bytesOf_length]; exact hk)
theorem turned_ne (l : List UInt8) (k t : Nat) (ht : t ≠ 0) (h32 : t < 4294967296) (hk : k + 32 ≤ 8 * (l.length + 4)) (a b : List UInt8) (hab : a ++ b = turned l k t 32) : sealed a ≠ a ++ b := by
  rw [hab]
  unfold turned
  rw [Nat.mod_eq_of_lt (by omega)]
  exact burst l k t ht h32 hk a
end Go.Proofs.YtjdffhonljhpcaaGreat.Crc
end

section
/-
  The journal's bytes, plain: numbers of eight bytes, heads, records, what is found among bytes.
-/
namespace Go.Proofs.YtjdffhonljhpcaaGreat.Wal
set_option linter.unusedSimpArgs false
set_option linter.unusedVariables false

/-- The last k bytes of a number, the highest first. -/
def hiR : Nat → Nat → List UInt8
  | 0, _ => []
  | k + 1, n => hiR k (n / 256) ++ [UInt8.ofNat n]
def hi8 (n : Nat) : List UInt8 := hiR 8 n
/-- The number of bytes. -/
def lo (l : List UInt8) : Nat := l.foldl (fun a c => a * 256 + c.toNat) 0

theorem hiR_length (k n : Nat) : (hiR k n).length = k := by
  induction k generalizing n with
  | zero => rfl
  | succ k ih => simp [hiR, ih]
theorem hi8_length (n : Nat) : (hi8 n).length = 8 := hiR_length 8 n
theorem hiR_cons (k n : Nat) : hiR (k + 1) n = UInt8.ofNat (n / 256 ^ k) :: hiR k n := by
  induction k generalizing n with
  | zero => simp [hiR]
  | succ k ih =>
    show hiR (k + 1) (n / 256) ++ [UInt8.ofNat n] = _
    rw [ih (n / 256), List.cons_append, Nat.div_div_eq_div_mul, show 256 * 256 ^ k = 256 ^ (k + 1) from by rw [Nat.pow_succ, Nat.mul_comm]]
    rfl
theorem lo_nil : lo [] = 0 := rfl
theorem lo_snoc (l : List UInt8) (c : UInt8) : lo (l ++ [c]) = lo l * 256 + c.toNat := by simp [lo]
theorem lo_hiR (k n : Nat) : lo (hiR k n) = n % 256 ^ k := by
  induction k generalizing n with
  | zero => simp [hiR, lo, Nat.mod_one]
  | succ k ih =>
    show lo (hiR k (n / 256) ++ [UInt8.ofNat n]) = _
    rw [lo_snoc, ih, Nat.pow_succ, Nat.mul_comm (256 ^ k) 256, Nat.mod_mul]
    simp only [UInt8.toNat_ofNat']
    omega
theorem lo_hi8 (n : Nat) (h : n < 18446744073709551616) : lo (hi8 n) = n := by
  rw [hi8, lo_hiR, Nat.mod_eq_of_lt (Nat.lt_of_lt_of_le h (by decide))]
theorem snoc_ind {α : Type} {P : List α → Prop} (h0 : P []) (h1 : ∀ l c, P l → P (l ++ [c])) (l : List α) : P l := by
  have : ∀ m : List α, P m.reverse := by
    intro m
    induction m with
    | nil => exact h0
    | cons c m ih => rw [List.reverse_cons]; exact h1 _ _ ih
  have h := this l.reverse
  rwa [List.reverse_reverse] at h
theorem lo_lt (l : List UInt8) : lo l < 256 ^ l.length := by
  refine snoc_ind (P := fun l => lo l < 256 ^ l.length) (by simp [lo]) (fun l c ih => ?_) l
  have := c.toNat_lt
  rw [lo_snoc, List.length_append, List.length_singleton, Nat.pow_succ]
  omega
theorem lo8_lt (l : List UInt8) (h : l.length = 8) : lo l < 18446744073709551616 := by
  have := lo_lt l
  rw [h] at this
  exact Nat.lt_of_lt_of_le this (by decide)
theorem hiR_lo (l : List UInt8) : hiR l.length (lo l) = l := by
  refine snoc_ind (P := fun l => hiR l.length (lo l) = l) rfl (fun l c ih => ?_) l
  · have := c.toNat_lt
    rw [List.length_append, List.length_singleton, lo_snoc]
    show hiR l.length ((lo l * 256 + c.toNat) / 256) ++ [UInt8.ofNat (lo l * 256 + c.toNat)] = _
    rw [show (lo l * 256 + c.toNat) / 256 = lo l from by omega, ih]
    congr 2
    apply UInt8.toNat_inj.1
    rw [UInt8.toNat_ofNat']
    omega
theorem hi8_lo (l : List UInt8) (h : l.length = 8) : hi8 (lo l) = l := by
  have := hiR_lo l
  rw [h] at this
  exact this
theorem hi8_inj {a b : Nat} (ha : a < 18446744073709551616) (hb : b < 18446744073709551616) (h : hi8 a = hi8 b) : a = b := by
  rw [← lo_hi8 a ha, h, lo_hi8 b hb]

/-! ### Heads -/
def magic : List UInt8 := [100, 111, 119, 115, 101, 114, 32, 108]
def half (a b : Nat) : List UInt8 := magic ++ hi8 a ++ hi8 b
theorem half_length (a b : Nat) : (half a b).length = 24 := by simp [half, hi8_length, magic]
/-- A head's bytes. -/
def head48 (seq n : Nat) : List UInt8 := half seq n ++ half n seq
theorem head48_length (a b : Nat) : (head48 a b).length = 48 := by simp [head48, half_length]
def headL (seq n : Nat) : List UInt8 := head48 seq n ++ List.replicate 464 0
theorem headL_length (a b : Nat) : (headL a b).length = 512 := by unfold headL; rw [List.length_append, head48_length, List.length_replicate]
def cut (l : List UInt8) (i n : Nat) : List UInt8 := (l.drop i).take n
def last62 : Nat := 4611686018427387904
/-- What a block says as a head: its number (0: it is none), how many bytes count. -/
def right (b : List UInt8) (room : Nat) : Nat × Nat :=
  if b.take 24 = half (lo (cut b 8 8)) (lo (cut b 16 8)) ∧ cut b 24 24 = half (lo (cut b 16 8)) (lo (cut b 8 8)) ∧ 1 ≤ lo (cut b 8 8) ∧ lo (cut b 8 8) ≤ last62 ∧ lo (cut b 16 8) ≤ room
  then (lo (cut b 8 8), lo (cut b 16 8)) else (0, 0)

theorem cut_length {l : List UInt8} {i n : Nat} (h : i + n ≤ l.length) : (cut l i n).length = n := by simp [cut]; omega
theorem cut_cut (l : List UInt8) (i n j m : Nat) (h : j + m ≤ n) : cut (cut l i n) j m = cut l (i + j) m := by
  unfold cut
  rw [List.drop_take, List.take_take, List.drop_drop, Nat.min_eq_left (by omega)]
theorem take_cut (l : List UInt8) (n : Nat) : l.take n = cut l 0 n := by simp [cut]
theorem cut_split (l : List UInt8) (i n m : Nat) : cut l i (n + m) = cut l i n ++ cut l (i + n) m := by
  unfold cut
  rw [List.take_add, List.drop_drop]
theorem cut_append (a b : List UInt8) (i n : Nat) (hi : i + n ≤ a.length) : cut (a ++ b) i n = cut a i n := by
  unfold cut
  rw [List.drop_append_of_le_length (by omega), List.take_append_of_le_length (by simp; omega)]
theorem cut_right (a b : List UInt8) (i n : Nat) (hi : a.length ≤ i) : cut (a ++ b) i n = cut b (i - a.length) n := by
  unfold cut
  rw [List.drop_append, List.drop_eq_nil_of_le hi]
  rfl
theorem half_parts (a b : Nat) : cut (half a b) 0 8 = magic ∧ cut (half a b) 8 8 = hi8 a ∧ cut (half a b) 16 8 = hi8 b := by
  have h1 := hi8_length a
  have h2 := hi8_length b
  refine ⟨?_, ?_, ?_⟩
  · unfold half; rw [List.append_assoc, cut_append _ _ _ _ (by simp [magic])]; rfl
  · unfold half; rw [List.append_assoc, cut_right _ _ _ _ (by simp [magic])]; show cut _ 0 8 = _; rw [cut_append _ _ _ _ (by omega)]; unfold cut; rw [List.drop_zero, List.take_of_length_le (by omega)]
  · unfold half; rw [cut_right _ _ _ _ (by simp [magic, h1]), List.length_append, h1]; show cut _ 0 8 = _; unfold cut; rw [List.drop_zero, List.take_of_length_le (by omega)]
theorem half_eq {l : List UInt8} {a b : Nat} (hl : l.length = 24) : l = half a b ↔ cut l 0 8 = magic ∧ cut l 8 8 = hi8 a ∧ cut l 16 8 = hi8 b := by
  constructor
  · rintro rfl
    exact half_parts a b
  · rintro ⟨h1, h2, h3⟩
    have : l = cut l 0 24 := by unfold cut; rw [List.drop_zero, List.take_of_length_le (by omega)]
    rw [this, show (24 : Nat) = 8 + (8 + 8) from rfl, cut_split, cut_split, h1, h2, h3]
    unfold half
    rw [List.append_assoc]
theorem hi8_eq {l : List UInt8} {a : Nat} (hl : l.length = 8) (ha : a < 18446744073709551616) : l = hi8 a ↔ lo l = a := by
  constructor
  · rintro rfl; exact lo_hi8 a ha
  · rintro rfl; exact (hi8_lo l hl).symm
/-- The document's way to say it. -/
theorem right_doc {b : List UInt8} (hb : b.length = 512) (room : Nat) : right b room =
    if cut b 0 8 ≠ magic ∨ cut b 24 8 ≠ magic ∨ lo (cut b 32 8) ≠ lo (cut b 16 8) ∨ lo (cut b 40 8) ≠ lo (cut b 8 8) ∨ lo (cut b 8 8) = 0 ∨ last62 < lo (cut b 8 8) ∨ room < lo (cut b 16 8)
    then (0, 0) else (lo (cut b 8 8), lo (cut b 16 8)) := by
  have hs := lo8_lt (cut b 8 8) (cut_length (by omega))
  have hn := lo8_lt (cut b 16 8) (cut_length (by omega))
  have e1 : (b.take 24 = half (lo (cut b 8 8)) (lo (cut b 16 8))) ↔ cut b 0 8 = magic := by
    rw [take_cut, half_eq (cut_length (by omega)), cut_cut _ _ _ _ _ (by omega), cut_cut _ _ _ _ _ (by omega), cut_cut _ _ _ _ _ (by omega), hi8_lo _ (cut_length (by omega)), hi8_lo _ (cut_length (by omega))]
    simp
  have e2 : (cut b 24 24 = half (lo (cut b 16 8)) (lo (cut b 8 8))) ↔ cut b 24 8 = magic ∧ lo (cut b 32 8) = lo (cut b 16 8) ∧ lo (cut b 40 8) = lo (cut b 8 8) := by
    rw [half_eq (cut_length (by omega)), cut_cut _ _ _ _ _ (by omega), cut_cut _ _ _ _ _ (by omega), cut_cut _ _ _ _ _ (by omega), hi8_eq (cut_length (by omega)) hn, hi8_eq (cut_length (by omega)) hs]
  unfold right
  simp only [e1, e2]
  generalize lo (cut b 8 8) = s
  generalize lo (cut b 16 8) = n
  by_cases h1 : cut b 0 8 = magic <;> by_cases h2 : cut b 24 8 = magic <;> by_cases h3 : lo (cut b 32 8) = n <;> by_cases h4 : lo (cut b 40 8) = s <;> simp only [h1, h2, h3, h4, ne_eq, not_true_eq_false, not_false_eq_true, true_and, false_and, and_false, true_or, or_true, false_or, if_true, if_false]
  by_cases h5 : s = 0 ∨ last62 < s ∨ room < n
  · rw [if_pos h5, if_neg (by omega)]
  · rw [if_neg h5, if_pos (by omega)]
theorem right_le (b : List UInt8) (room : Nat) : (right b room).2 ≤ room ∧ (right b room).1 ≤ last62 := by
  unfold right
  split
  · rename_i h; exact ⟨h.2.2.2.2, h.2.2.2.1⟩
  · exact ⟨Nat.zero_le _, Nat.zero_le _⟩
/-- A head is found again. -/
theorem right_head {seq n room : Nat} (t : List UInt8) (h1 : 1 ≤ seq) (h2 : seq ≤ last62) (h3 : n ≤ room) (hn : n < 18446744073709551616) : right (head48 seq n ++ t) room = (seq, n) := by
  have hs : seq < 18446744073709551616 := Nat.lt_of_le_of_lt h2 (by decide)
  have hh := half_length seq n
  have e0 : cut (head48 seq n ++ t) 0 24 = half seq n := by
    rw [cut_append _ _ _ _ (by have := head48_length seq n; omega)]; unfold head48; rw [cut_append _ _ _ _ (by omega)]; unfold cut; rw [List.drop_zero, List.take_of_length_le (by omega)]
  have e1 : cut (head48 seq n ++ t) 24 24 = half n seq := by
    rw [cut_append _ _ _ _ (by have := head48_length seq n; omega)]; unfold head48; rw [cut_right _ _ _ _ (by omega), hh]; unfold cut; rw [List.drop_zero, List.take_of_length_le (by have := half_length n seq; omega)]
  have e2 : cut (head48 seq n ++ t) 8 8 = hi8 seq := by
    have := (half_parts seq n).2.1
    rw [← e0, cut_cut _ _ _ _ _ (by omega)] at this; exact this
  have e3 : cut (head48 seq n ++ t) 16 8 = hi8 n := by
    have := (half_parts seq n).2.2
    rw [← e0, cut_cut _ _ _ _ _ (by omega)] at this; exact this
  unfold right
  rw [take_cut, e0, e1, e2, e3, lo_hi8 _ hs, lo_hi8 _ hn, if_pos ⟨rfl, rfl, h1, h2, h3⟩]

/-! ### Records -/
def frame (s : List UInt8) : List UInt8 := Wire.num s.length ++ (Crc.le4 (Crc.sum s) ++ s)
def frames (L : List (List UInt8)) : List UInt8 := L.flatMap frame
/-- The records of bytes, and the error. -/
def parse : Nat → List UInt8 → List (List UInt8) × Int
  | 0, _ => ([], 0)
  | f + 1, b =>
    if b = [] then ([], 0)
    else if (Wire.take ⟨b, 0⟩).1.e ≠ 0 ∨ (Wire.take ⟨b, 0⟩).1.l.length < 4 ∨ (Wire.take ⟨b, 0⟩).1.l.length - 4 < (Wire.take ⟨b, 0⟩).2 then ([], 7)
    else if Crc.le4 (Crc.sum (((Wire.take ⟨b, 0⟩).1.l.drop 4).take (Wire.take ⟨b, 0⟩).2)) ≠ (Wire.take ⟨b, 0⟩).1.l.take 4 then ([], 20)
    else match parse f ((Wire.take ⟨b, 0⟩).1.l.drop (4 + (Wire.take ⟨b, 0⟩).2)) with
      | (r, e) => if e = 0 then (((Wire.take ⟨b, 0⟩).1.l.drop 4).take (Wire.take ⟨b, 0⟩).2 :: r, 0) else ([], e)
def records (b : List UInt8) : List (List UInt8) × Int := parse b.length b

/-- A number is taken only in its one form. -/
theorem tk_one : ∀ (l : List UInt8) (i a : Nat), (Wire.tk i a l).1 = 0 → i ≤ 9 → ∃ u n, (Wire.tk i a l) = (0, i + u, a + n * 128 ^ i) ∧ u ≤ l.length ∧ 0 < u ∧ l.take u = Wire.numF (10 - i) n ∧ (0 < i → 0 < n) ∧ n < 128 ^ (10 - i) := by
  intro l
  induction l with
  | nil => intro i a h; simp [Wire.tk] at h
  | cons c r ih =>
    intro i a h hi
    have hc := c.toNat_lt
    unfold Wire.tk at h ⊢
    split
    · rename_i h1; rw [if_pos h1] at h; simp at h
    · rename_i h1
      rw [if_neg h1] at h
      split
      · rename_i h2
        rw [if_pos h2] at h
        have hi9 : i < 9 := by omega
        obtain ⟨u, n, e, hu, hu0, ht, hn0, hnl⟩ := ih (i + 1) _ h (by omega)
        have hn1 := hn0 (by omega)
        refine ⟨u + 1, c.toNat % 128 + 128 * n, ?_, by simp; omega, by omega, ?_, fun _ => by omega, ?_⟩
        · rw [e]
          refine Prod.ext rfl (Prod.ext ?_ ?_)
          · simp only; omega
          · simp only
            rw [Nat.pow_succ, Nat.add_mul]
            have : n * (128 ^ i * 128) = 128 * n * 128 ^ i := by rw [Nat.mul_comm (128 ^ i) 128, ← Nat.mul_assoc, Nat.mul_comm n 128]
            omega
        · rw [List.take_succ_cons, ht, show 10 - i = (10 - (i + 1)) + 1 from by omega]
          rw [Wire.numF, if_neg (by omega), show (c.toNat % 128 + 128 * n) / 128 = n from by omega, show (c.toNat % 128 + 128 * n) % 128 + 128 = c.toNat from by omega]
          rw [UInt8.ofNat_toNat]
        · rw [show 10 - i = (10 - (i + 1)) + 1 from by omega, Nat.pow_succ]; omega
      · rename_i h2
        rw [if_neg h2] at h
        split
        · rename_i h3; rw [if_pos h3] at h; simp at h
        · rename_i h3
          refine ⟨1, c.toNat, by rw [Nat.mod_eq_of_lt (by omega)], by simp, by omega, ?_, fun _ => by omega, ?_⟩
          · rw [show 10 - i = (9 - i) + 1 from by omega]
            unfold Wire.numF
            rw [if_pos (by omega)]
            simp
          · rw [show 10 - i = (9 - i) + 1 from by omega, Nat.pow_succ]
            have : 0 < 128 ^ (9 - i) := Nat.pow_pos (by omega)
            omega
/-- What is taken off the front is the number's bytes. -/
theorem take_one {b : List UInt8} (h : (Wire.take ⟨b, 0⟩).1.e = 0) : Wire.num (Wire.take ⟨b, 0⟩).2 ++ (Wire.take ⟨b, 0⟩).1.l = b := by
  unfold Wire.take at h ⊢
  rw [if_neg (by simp)] at h ⊢
  split
  · rename_i h1
    rw [if_pos h1] at h
    simp only at h
    exact absurd (by exact_mod_cast h) h1
  · rename_i h1
    obtain ⟨u, n, e, hu, hu0, ht, _, _⟩ := tk_one b 0 0 (Classical.not_not.1 h1) (by omega)
    rw [e]
    simp only [Nat.zero_add, Nat.pow_zero, Nat.mul_one]
    show Wire.numF 10 n ++ _ = b
    rw [← ht, List.take_append_drop]
/-- The frame of the record that is found is what it was found in, if just the sums agree. -/
theorem frame_front {b : List UInt8} (he : (Wire.take ⟨b, 0⟩).1.e = 0) (h4 : 4 ≤ (Wire.take ⟨b, 0⟩).1.l.length) (hn : (Wire.take ⟨b, 0⟩).2 ≤ (Wire.take ⟨b, 0⟩).1.l.length - 4) :
    (frame (((Wire.take ⟨b, 0⟩).1.l.drop 4).take (Wire.take ⟨b, 0⟩).2) = b.take (b.length - (Wire.take ⟨b, 0⟩).1.l.length + 4 + (Wire.take ⟨b, 0⟩).2)) ↔
      Crc.le4 (Crc.sum (((Wire.take ⟨b, 0⟩).1.l.drop 4).take (Wire.take ⟨b, 0⟩).2)) = (Wire.take ⟨b, 0⟩).1.l.take 4 := by
  have h1 := take_one he
  generalize (Wire.take ⟨b, 0⟩).2 = n at h1 hn ⊢
  generalize (Wire.take ⟨b, 0⟩).1.l = r at h1 h4 hn ⊢
  have hs : ((r.drop 4).take n).length = n := by simp; omega
  have hlen : b.length - r.length = (Wire.num n).length := by rw [← h1]; simp
  rw [hlen]
  have e : b.take ((Wire.num n).length + 4 + n) = Wire.num n ++ (r.take 4 ++ (r.drop 4).take n) := by
    rw [← h1, Nat.add_assoc, List.take_length_add_append, List.take_add]
  rw [e]
  unfold frame
  rw [hs]
  constructor
  · intro h
    have h2 := List.append_cancel_left h
    exact (List.append_inj h2 (by simp [Crc.le4]; omega)).1
  · intro h; rw [h]

theorem frame_length (s : List UInt8) : s.length + 5 ≤ (frame s).length ∧ (frame s).length ≤ s.length + 14 := by
  have := Wire.num_length s.length
  simp [frame, Crc.le4]
  omega
theorem frames_nil : frames [] = [] := rfl
theorem frames_cons (s : List UInt8) (L : List (List UInt8)) : frames (s :: L) = frame s ++ frames L := rfl
theorem frames_append (L M : List (List UInt8)) : frames (L ++ M) = frames L ++ frames M := by simp [frames]
theorem take_frame {s t : List UInt8} (h : s.length < 18446744073709551616) : Wire.take ⟨frame s ++ t, 0⟩ = (⟨Crc.le4 (Crc.sum s) ++ s ++ t, 0⟩, s.length) := by
  unfold frame
  rw [List.append_assoc, Wire.take_num _ h, List.append_assoc]
/-- What was written is found again. -/
theorem parse_frames : ∀ (L : List (List UInt8)) (f : Nat), (∀ s ∈ L, s.length < 18446744073709551616) → L.length ≤ f → parse f (frames L) = (L, 0)
  | [], 0, _, _ => rfl
  | [], f + 1, _, _ => by simp [parse, frames]
  | s :: L, 0, _, h => by simp at h
  | s :: L, f + 1, hs, h => by
    have ih := parse_frames L f (fun x hx => hs x (List.mem_cons_of_mem _ hx)) (by simpa using h)
    have hfl := frame_length s
    have h0 := hs s (List.mem_cons_self ..)
    have e4 : (Crc.le4 (Crc.sum s)).length = 4 := rfl
    unfold parse
    rw [frames_cons, take_frame h0]
    rw [if_neg (by intro e; have := congrArg List.length e; rw [List.length_append, List.length_nil] at this; omega)]
    rw [if_neg (by simp only [List.length_append, e4]; omega)]
    have e1 : (Crc.le4 (Crc.sum s) ++ s ++ frames L).take 4 = Crc.le4 (Crc.sum s) := by rw [List.append_assoc, List.take_append_of_le_length (by rw [e4]; omega), List.take_of_length_le (by rw [e4]; omega)]
    have e2 : ((Crc.le4 (Crc.sum s) ++ s ++ frames L).drop 4).take s.length = s := by
      rw [List.append_assoc, show (4 : Nat) = (Crc.le4 (Crc.sum s)).length from rfl, List.drop_left, List.take_left]
    have e3 : (Crc.le4 (Crc.sum s) ++ s ++ frames L).drop (4 + s.length) = frames L := by
      rw [show 4 + s.length = (Crc.le4 (Crc.sum s) ++ s).length from by simp [e4], List.drop_left]
    simp only [e1, e2, e3, ih]
    simp
theorem records_frames (L : List (List UInt8)) (hs : ∀ s ∈ L, s.length < 18446744073709551616) : records (frames L) = (L, 0) := by
  refine parse_frames L _ hs ?_
  clear hs
  induction L with
  | nil => exact Nat.le_refl _
  | cons s L ih =>
    have := frame_length s
    rw [frames_cons, List.length_append, List.length_cons]
    omega
theorem parse_fuel : ∀ (f g : Nat) (b : List UInt8), b.length ≤ f → b.length ≤ g → parse f b = parse g b
  | 0, 0, _, _, _ => rfl
  | 0, g + 1, b, h, _ => by
    obtain rfl := List.eq_nil_of_length_eq_zero (Nat.le_zero.1 h)
    simp [parse]
  | f + 1, 0, b, _, h => by
    obtain rfl := List.eq_nil_of_length_eq_zero (Nat.le_zero.1 h)
    simp [parse]
  | f + 1, g + 1, b, hf, hg => by
    unfold parse
    by_cases hb : b = []
    · rw [if_pos hb, if_pos hb]
    · rw [if_neg hb, if_neg hb]
      split
      · rfl
      · split
        · rfl
        · rename_i h1 h2
          have hl := Wire.take_len ⟨b, 0⟩
          have : 0 < b.length := List.length_pos_iff.2 hb
          simp only at hl
          rw [parse_fuel f g _ (by simp; omega) (by simp; omega)]
end Go.Proofs.YtjdffhonljhpcaaGreat.Wal
end

section
/-
  Real numbers by their bits: how two of them are ordered (plain, no program in sight).
-/
namespace Go.Proofs.YtjdffhonljhpcaaGreat
set_option linter.unusedSimpArgs false

/-- The order of two real numbers, given by their bits. -/
def ford (x y : Nat) : Option Ordering := Ieee.double.order x y
/-- No number. -/
def fnan (x : Nat) : Prop := 9218868437227405312 < x % 9223372036854775808
instance (x : Nat) : Decidable (fnan x) := by unfold fnan; infer_instance
/-- The whole number that rises as the real numbers do: both noughts are 0. -/
def fsg (x : Nat) : Int := if 9223372036854775808 ≤ x then -((x % 9223372036854775808 : Nat) : Int) else ((x % 9223372036854775808 : Nat) : Int)

namespace Fl
/-- How far a number of that rung lies from nought, in units of the least one. -/
def val (B r : Nat) : Nat := if r < B then r else (B + r % B) * 2 ^ (r / B - 1)
theorem val_lt {B r : Nat} (hB : 0 < B) : val B r < B * 2 ^ (r / B) := by
  unfold val
  split
  · next h => rw [Nat.div_eq_of_lt h]; omega
  · next h =>
    have h1 : 1 ≤ r / B := (Nat.one_le_div_iff hB).2 (by omega)
    obtain ⟨q, hq⟩ : ∃ q, r / B = q + 1 := ⟨r / B - 1, by omega⟩
    rw [hq, Nat.add_sub_cancel, Nat.pow_succ, Nat.mul_comm (2 ^ q) 2, ← Nat.mul_assoc]
    exact Nat.mul_lt_mul_of_pos_right (by have := Nat.mod_lt r hB; omega) (Nat.two_pow_pos q)
theorem val_ge {B r : Nat} (h : B ≤ r) : B * 2 ^ (r / B - 1) ≤ val B r := by
  unfold val
  rw [if_neg (by omega)]
  exact Nat.mul_le_mul_right _ (by omega)
theorem val_mono {B r s : Nat} (hB : 0 < B) (h : r < s) : val B r < val B s := by
  have hq : r / B ≤ s / B := Nat.div_le_div_right (Nat.le_of_lt h)
  rcases Nat.lt_or_ge (r / B) (s / B) with h1 | h1
  · have hs : B ≤ s := by
      rcases Nat.lt_or_ge s B with h2 | h2
      · rw [Nat.div_eq_of_lt h2] at h1; exact absurd h1 (Nat.not_lt_zero _)
      · exact h2
    refine Nat.lt_of_lt_of_le (val_lt hB) (Nat.le_trans ?_ (val_ge hs))
    exact Nat.mul_le_mul_left _ (Nat.pow_le_pow_right (by omega) (by omega))
  · have he : r / B = s / B := by omega
    have e1 := Nat.div_add_mod r B
    have e2 := Nat.div_add_mod s B
    rw [he] at e1
    unfold val
    by_cases hr : r < B
    · have h0 : s / B = 0 := by rw [← he, Nat.div_eq_of_lt hr]
      have hs : s < B := by
        rcases Nat.lt_or_ge s B with h2 | h2
        · exact h2
        · have := (Nat.one_le_div_iff hB).2 h2; omega
      rw [if_pos hr, if_pos hs]; exact h
    · rw [if_neg hr, if_neg (by omega), he]
      exact Nat.mul_lt_mul_of_pos_right (by omega) (Nat.two_pow_pos _)
theorem compare_scale (a b : Int) (k : Nat) : compare (a * 2 ^ k) (b * 2 ^ k) = compare a b := by
  have hp : (0 : Int) < 2 ^ k := Int.pow_pos (by decide)
  rcases Int.lt_trichotomy a b with h | h | h
  · rw [Std.compare_eq_lt.2 h, Std.compare_eq_lt.2 (Int.mul_lt_mul_of_pos_right h hp)]
  · subst h; rw [Std.compare_self, Std.compare_self]
  · rw [Std.compare_eq_gt.2 h, Std.compare_eq_gt.2 (Int.mul_lt_mul_of_pos_right h hp)]
theorem signed_eq (s : Bool) (m k : Nat) : Ieee.signed s m k = (if s then -1 else 1) * ((m : Int) * 2 ^ k) := by
  unfold Ieee.signed
  rw [Nat.shiftLeft_eq]
  cases s <;> simp
/-- What a rung is read as: mantissa and steps above the least place. -/
theorem read_num {x : Nat} (hx : x < 18446744073709551616) (h : x % 9223372036854775808 < 9218868437227405312) :
    ∃ (m e : Nat), Ieee.double.read x = .number (decide (9223372036854775808 ≤ x)) m (-1074 + (e : Int)) ∧ m * 2 ^ e = val 4503599627370496 (x % 9223372036854775808) := by
  have hneg : (x / 9223372036854775808 % 2 == 1) = decide (9223372036854775808 ≤ x) := by
    rcases Nat.lt_or_ge x 9223372036854775808 with h1 | h1
    · rw [Nat.div_eq_of_lt h1]
      simp; omega
    · have : x / 9223372036854775808 = 1 := by omega
      rw [this]; simp; omega
  have e0 : Ieee.double.signWeight = 9223372036854775808 := by decide
  have e1 : Ieee.double.binade = 4503599627370496 := by decide
  have e2 : Ieee.double.infRung = 9218868437227405312 := by decide
  have e3 : Ieee.double.leastPlace = -1074 := by decide
  unfold Ieee.Format.read
  simp only [e0, e1, e2, e3, hneg]
  by_cases hb : x % 9223372036854775808 < 4503599627370496
  · exact ⟨x % 9223372036854775808, 0, by rw [if_pos hb]; simp, by unfold val; rw [if_pos hb]; simp⟩
  · refine ⟨_, x % 9223372036854775808 / 4503599627370496 - 1, by rw [if_neg hb, if_pos h], ?_⟩
    unfold val
    rw [if_neg hb]
theorem read_inf {x : Nat} (hx : x < 18446744073709551616) (h : x % 9223372036854775808 = 9218868437227405312) : Ieee.double.read x = .infinity (decide (9223372036854775808 ≤ x)) := by
  have hneg : (x / 9223372036854775808 % 2 == 1) = decide (9223372036854775808 ≤ x) := by
    rcases Nat.lt_or_ge x 9223372036854775808 with h1 | h1
    · rw [Nat.div_eq_of_lt h1]
      simp; omega
    · have : x / 9223372036854775808 = 1 := by omega
      rw [this]; simp; omega
  have e0 : Ieee.double.signWeight = 9223372036854775808 := by decide
  have e1 : Ieee.double.binade = 4503599627370496 := by decide
  have e2 : Ieee.double.infRung = 9218868437227405312 := by decide
  unfold Ieee.Format.read
  simp only [e0, e1, e2, hneg]
  rw [if_neg (by omega), if_neg (by omega), if_pos h]
theorem read_nan {x : Nat} (h : fnan x) : ∃ s t, Ieee.double.read x = .nan s t := by
  unfold fnan at h
  have e0 : Ieee.double.signWeight = 9223372036854775808 := by decide
  have e1 : Ieee.double.binade = 4503599627370496 := by decide
  have e2 : Ieee.double.infRung = 9218868437227405312 := by decide
  unfold Ieee.Format.read
  simp only [e0, e1, e2]
  rw [if_neg (by omega), if_neg (by omega), if_neg (by omega)]
  exact ⟨_, _, rfl⟩
theorem val_zero : val 4503599627370496 0 = 0 := by decide
theorem compare_val {r s : Nat} : compare ((val 4503599627370496 r : Nat) : Int) ((val 4503599627370496 s : Nat) : Int) = compare ((r : Nat) : Int) ((s : Nat) : Int) := by
  rcases Nat.lt_trichotomy r s with h | h | h
  · rw [Std.compare_eq_lt.2 (by have := val_mono (B := 4503599627370496) (by decide) h; omega), Std.compare_eq_lt.2 (by omega)]
  · subst h; rw [Std.compare_self, Std.compare_self]
  · rw [Std.compare_eq_gt.2 (by have := val_mono (B := 4503599627370496) (by decide) h; omega), Std.compare_eq_gt.2 (by omega)]
theorem val_pos {r : Nat} (h : 0 < r) : 0 < val 4503599627370496 r := by
  have := val_mono (B := 4503599627370496) (by decide) h
  rw [val_zero] at this; exact this
end Fl

theorem ford_nan {x y : Nat} (h : fnan x ∨ fnan y) : ford x y = none := by
  unfold ford Ieee.Format.order
  rcases h with h | h
  · obtain ⟨s, t, e⟩ := Fl.read_nan h
    rw [e]; rfl
  · obtain ⟨s, t, e⟩ := Fl.read_nan h
    rw [e]; cases Ieee.double.read x <;> rfl
theorem ford_some {x y : Nat} (hx : x < 18446744073709551616) (hy : y < 18446744073709551616) (nx : ¬ fnan x) (ny : ¬ fnan y) : ford x y = some (compare (fsg x) (fsg y)) := by
  unfold fnan at nx ny
  unfold ford Ieee.Format.order fsg
  rcases Nat.lt_or_ge (x % 9223372036854775808) 9218868437227405312 with h1 | h1 <;> rcases Nat.lt_or_ge (y % 9223372036854775808) 9218868437227405312 with h2 | h2
  · obtain ⟨m, e, r1, v1⟩ := Fl.read_num hx h1
    obtain ⟨n, d, r2, v2⟩ := Fl.read_num hy h2
    rw [r1, r2]
    have hm : min ((-1074 : Int) + (e : Int)) (-1074 + (d : Int)) = -1074 + ((min e d : Nat) : Int) := by omega
    simp only [Ieee.Datum.order, hm]
    have s1 : (-1074 + (e : Int) - (-1074 + ((min e d : Nat) : Int))).toNat = e - min e d := by omega
    have s2 : (-1074 + (d : Int) - (-1074 + ((min e d : Nat) : Int))).toNat = d - min e d := by omega
    rw [s1, s2, Fl.signed_eq, Fl.signed_eq, ← Fl.compare_scale _ _ (min e d)]
    have v1' : (m : Int) * 2 ^ (e - min e d) * 2 ^ (min e d) = ((Fl.val 4503599627370496 (x % 9223372036854775808) : Nat) : Int) := by
      rw [← v1, Int.mul_assoc, ← Int.pow_add, Nat.sub_add_cancel (Nat.min_le_left _ _)]; simp
    have v2' : (n : Int) * 2 ^ (d - min e d) * 2 ^ (min e d) = ((Fl.val 4503599627370496 (y % 9223372036854775808) : Nat) : Int) := by
      rw [← v2, Int.mul_assoc, ← Int.pow_add, Nat.sub_add_cancel (Nat.min_le_right _ _)]; simp
    rw [Int.mul_assoc, v1', Int.mul_assoc, v2']
    congr 1
    generalize x % 9223372036854775808 = r at *
    generalize y % 9223372036854775808 = s at *
    have hrs := Fl.compare_val (r := r) (s := s)
    have hsr := Fl.compare_val (r := s) (s := r)
    have p1 : 0 < r → 0 < Fl.val 4503599627370496 r := Fl.val_pos
    have p2 : 0 < s → 0 < Fl.val 4503599627370496 s := Fl.val_pos
    have z1 : r = 0 → Fl.val 4503599627370496 r = 0 := fun h => by rw [h, Fl.val_zero]
    have z2 : s = 0 → Fl.val 4503599627370496 s = 0 := fun h => by rw [h, Fl.val_zero]
    generalize Fl.val 4503599627370496 r = a at *
    generalize Fl.val 4503599627370496 s = b at *
    have hab : (a < b ↔ r < s) ∧ (b < a ↔ s < r) := by
      constructor
      · rw [show (a < b) ↔ compare (a : Int) (b : Int) = .lt from by rw [Std.compare_eq_lt]; omega, hrs, Std.compare_eq_lt]; omega
      · rw [show (b < a) ↔ compare (b : Int) (a : Int) = .lt from by rw [Std.compare_eq_lt]; omega, hsr, Std.compare_eq_lt]; omega
    clear hrs hsr v1 v2 v1' v2' r1 r2
    have key : ∀ u v p q : Int, (u < v ↔ p < q) → (v < u ↔ q < p) → compare u v = compare p q := by
      intro u v p q h1 h2
      rcases Int.lt_trichotomy p q with h | h | h
      · rw [Std.compare_eq_lt.2 h, Std.compare_eq_lt.2 (h1.2 h)]
      · have : u = v := by omega
        subst h; subst this; rw [Std.compare_self, Std.compare_self]
      · rw [Std.compare_eq_gt.2 h, Std.compare_eq_gt.2 (h2.2 h)]
    by_cases c1 : 9223372036854775808 ≤ x <;> by_cases c2 : 9223372036854775808 ≤ y <;> simp only [c1, c2, decide_true, decide_false, if_true, if_false, Bool.false_eq_true, ↓reduceIte] <;> refine key _ _ _ _ ?_ ?_ <;> omega
  · obtain ⟨m, e, r1, v1⟩ := Fl.read_num hx h1
    rw [r1, Fl.read_inf hy (by omega)]
    simp only [Ieee.Datum.order]
    by_cases c2 : 9223372036854775808 ≤ y
    · simp only [c2, decide_true, if_true]
      rw [Std.compare_eq_gt.2 (by split <;> omega)]
    · simp only [c2, decide_false, Bool.false_eq_true, if_false]
      rw [Std.compare_eq_lt.2 (by split <;> omega)]
  · obtain ⟨m, e, r1, v1⟩ := Fl.read_num hy h2
    rw [r1, Fl.read_inf hx (by omega)]
    simp only [Ieee.Datum.order]
    by_cases c2 : 9223372036854775808 ≤ x
    · simp only [c2, decide_true, if_true]
      rw [Std.compare_eq_lt.2 (by split <;> omega)]
    · simp only [c2, decide_false, Bool.false_eq_true, if_false]
      rw [Std.compare_eq_gt.2 (by split <;> omega)]
  · rw [Fl.read_inf hx (by omega), Fl.read_inf hy (by omega)]
    simp only [Ieee.Datum.order]
    have ex : x % 9223372036854775808 = 9218868437227405312 := by omega
    have ey : y % 9223372036854775808 = 9218868437227405312 := by omega
    rw [ex, ey]
    by_cases c1 : 9223372036854775808 ≤ x <;> by_cases c2 : 9223372036854775808 ≤ y <;> simp only [c1, c2, decide_true, decide_false, if_true, if_false, Bool.false_eq_true] <;> decide
theorem ford_self {x : Nat} (hx : x < 18446744073709551616) : (ford x x != some .eq) = decide (fnan x) := by
  by_cases h : fnan x
  · rw [ford_nan (.inl h)]; simp [h]
  · rw [ford_some hx hx h h, Std.compare_self]; simp [h]
theorem ford_zero {x : Nat} (hx : x < 18446744073709551616) : (ford x 0 == some .eq) = decide (x % 9223372036854775808 = 0) := by
  have h0 : ¬ fnan 0 := by decide
  by_cases h : fnan x
  · rw [ford_nan (.inl h)]
    unfold fnan at h
    simp; omega
  · rw [ford_some hx (by decide) h h0]
    have : fsg 0 = 0 := by decide
    rw [this]
    by_cases hz : x % 9223372036854775808 = 0
    · have : fsg x = 0 := by unfold fsg; rw [hz]; split <;> rfl
      rw [this, hz]; decide
    · have : fsg x ≠ 0 := by unfold fsg; split <;> omega
      have hc : compare (fsg x) 0 ≠ .eq := fun hc => this (Std.compare_eq_iff_eq.1 hc)
      simp [hz, hc]
end Go.Proofs.YtjdffhonljhpcaaGreat
end

section
/-
  Values and their keys, plain: how parts of keys are ordered, the least bytes behind others, rows' numbers.
-/
namespace Go.Proofs.YtjdffhonljhpcaaGreat
set_option linter.unusedSimpArgs false
set_option linter.unusedVariables false

/-- A value: its kind, its whole number, its real number's bits, its text. -/
structure Va where
  k : Int
  n : Int
  f : Nat
  s : List UInt8

/-- What the types of a value's fields allow. -/
structure Va.ok (v : Va) : Prop where
  k1 : -9223372036854775808 ≤ v.k
  k2 : v.k ≤ 9223372036854775807
  n1 : -9223372036854775808 ≤ v.n
  n2 : v.n ≤ 9223372036854775807
  f1 : v.f < 18446744073709551616

namespace Key
open Go.Op

def nul : Va := ⟨0, 0, 0, []⟩
instance : Inhabited Va := ⟨nul⟩
/-- One that is none, and one nought. -/
def real1 (f : Nat) : Nat := if fnan f then 9221120237041090561 else if f % 9223372036854775808 = 0 then 0 else f
/-- One nought. -/
def real0 (f : Nat) : Nat := if f % 9223372036854775808 = 0 then 0 else f
def cleanF (g : Nat → Nat) (v : Va) : Va :=
  if v.k = 1 then ⟨1, v.n, 0, []⟩ else if v.k = 2 then ⟨2, 0, g v.f, []⟩ else if v.k = 3 then ⟨3, 0, 0, v.s⟩ else if v.k = 4 then ⟨4, if v.n = 0 then 0 else 1, 0, []⟩ else nul
def clean (v : Va) : Va := cleanF real1 v
def dclean (v : Va) : Va := cleanF real0 v
def kbits (f : Nat) : Nat := if 9223372036854775808 ≤ f then 18446744073709551615 - f else f + 9223372036854775808
def pbits (f : Nat) : Nat := if fnan f then 18446744073709551615 else kbits f
def idn (n : Int) : Nat := (n + 9223372036854775808).toNat
def id (n : Int) : List UInt8 := Wal.hi8 (idn n)
def esc (s : List UInt8) : List UInt8 := s.flatMap fun c => if c = 0 then [0, 255] else [c]
/-- The part of a clean value. -/
def part (v : Va) : List UInt8 :=
  if v.k = 1 then 1 :: id v.n else if v.k = 2 then 1 :: Wal.hi8 (pbits v.f) else if v.k = 3 then 1 :: (esc v.s ++ [0, 0]) else if v.k = 4 then [1, UInt8.ofNat v.n.toNat] else [0]
def key (L : List Va) : List UInt8 := L.flatMap fun v => part (clean v)

theorem real0_nan {f : Nat} : fnan (real0 f) ↔ fnan f := by
  unfold real0
  split
  · next h => unfold fnan; rw [h]
  · exact Iff.rfl
theorem real1_nan {f : Nat} : fnan (real1 f) ↔ fnan f := by
  unfold real1
  split
  · next h => exact ⟨fun _ => h, fun _ => by decide⟩
  · next h =>
    split
    · exact ⟨fun h => absurd h (by decide), fun h' => absurd h' h⟩
    · exact Iff.rfl
theorem pbits_real (f : Nat) : pbits (real1 f) = pbits (real0 f) := by
  unfold pbits
  by_cases h : fnan f
  · rw [if_pos (real1_nan.2 h), if_pos (real0_nan.2 h)]
  · rw [if_neg (fun h' => h (real1_nan.1 h')), if_neg (fun h' => h (real0_nan.1 h'))]
    unfold real1 real0
    rw [if_neg h]
theorem part_clean (v : Va) : part (clean v) = part (dclean v) := by
  unfold clean dclean cleanF
  split
  · rfl
  · split
    · unfold part
      simp only [pbits_real]
    · rfl
theorem key_clean (L : List Va) : key L = (L.map dclean).flatMap part := by
  unfold key
  rw [List.flatMap_map]
  congr 1
  funext v
  exact part_clean v
theorem clean_kind (v : Va) : (dclean v).k = (clean v).k := by
  unfold clean dclean cleanF
  split
  · rfl
  · split
    · rfl
    · rfl
theorem kind_dclean (v : Va) : (dclean v).k = 0 ∨ (dclean v).k = 1 ∨ (dclean v).k = 2 ∨ (dclean v).k = 3 ∨ (dclean v).k = 4 := by
  unfold dclean cleanF
  (repeat' split) <;> simp [nul]

/-! Bytes, which come first -/
theorem less_irrefl : ∀ l : List UInt8, bytesLess l l = false
  | [] => rfl
  | a :: l => by simp [bytesLess, less_irrefl l]
theorem less_total : ∀ a b : List UInt8, bytesLess a b = false → bytesLess b a = false → a = b
  | [], [], _, _ => rfl
  | [], b :: y, h, _ => by simp [bytesLess] at h
  | a :: x, [], _, h => by simp [bytesLess] at h
  | a :: x, b :: y, h1, h2 => by
    simp only [bytesLess, Bool.or_eq_false_iff, Bool.and_eq_false_iff, decide_eq_false_iff_not, beq_eq_false_iff_ne] at h1 h2
    have hab : a = b := by
      have u1 := h1.1
      have u2 := h2.1
      rw [UInt8.lt_iff_toNat_lt] at u1 u2
      exact UInt8.toNat_inj.1 (by omega)
    subst hab
    rw [less_total x y (h1.2.resolve_left (fun h => h rfl)) (h2.2.resolve_left (fun h => h rfl))]
/-- Two rows of bytes are unlike at a place that both have, and there the first one's is less. -/
def Ahead (a b : List UInt8) : Prop := ∃ p c d x y, a = p ++ c :: x ∧ b = p ++ d :: y ∧ c < d
theorem Ahead.mk' (c d : UInt8) (x y : List UInt8) (h : c < d) : Ahead (c :: x) (d :: y) := ⟨[], c, d, x, y, rfl, rfl, h⟩
theorem Ahead.pre {a b : List UInt8} (h : Ahead a b) (p : List UInt8) : Ahead (p ++ a) (p ++ b) := by
  obtain ⟨q, c, d, x, y, rfl, rfl, h⟩ := h
  exact ⟨p ++ q, c, d, x, y, by simp, by simp, h⟩
theorem Ahead.cons {a b : List UInt8} (h : Ahead a b) (e : UInt8) : Ahead (e :: a) (e :: b) := h.pre [e]
theorem Ahead.post {a b : List UInt8} (h : Ahead a b) (s t : List UInt8) : Ahead (a ++ s) (b ++ t) := by
  obtain ⟨q, c, d, x, y, rfl, rfl, h⟩ := h
  exact ⟨q, c, d, x ++ s, y ++ t, by simp, by simp, h⟩
theorem Ahead.less {a b : List UInt8} (h : Ahead a b) : bytesLess a b = true ∧ bytesLess b a = false := by
  obtain ⟨q, c, d, x, y, rfl, rfl, h⟩ := h
  have hcd : ¬ d < c := fun h' => by rw [UInt8.lt_iff_toNat_lt] at h h'; omega
  have hne : c ≠ d := fun e => by subst e; rw [UInt8.lt_iff_toNat_lt] at h; omega
  induction q with
  | nil => simp [bytesLess, h, hcd, Ne.symm hne]
  | cons e q ih => simp [bytesLess, ih]
theorem Ahead.ne_take {a b : List UInt8} (h : Ahead a b) (n : Nat) (hn : n = min a.length b.length) : a.take n ≠ b.take n := by
  obtain ⟨q, c, d, x, y, rfl, rfl, h⟩ := h
  intro e
  have hl : q.length < n := by simp at hn; omega
  have h1 := congrArg (fun l => l[q.length]?) e
  simp only [List.getElem?_take, hl, if_true] at h1
  rw [List.getElem?_append_right (by omega), List.getElem?_append_right (by omega)] at h1
  simp at h1
  subst h1
  rw [UInt8.lt_iff_toNat_lt] at h; omega
theorem Ahead.ne {a b : List UInt8} (h : Ahead a b) : a ≠ b := fun e => by
  subst e
  have := h.less
  rw [this.1] at this
  exact Bool.noConfusion this.2

/-! Numbers -/
theorem hiR_ahead : ∀ (k n m : Nat), n < m → m < 256 ^ k → Ahead (Wal.hiR k n) (Wal.hiR k m)
  | 0, n, m, h, h1 => by simp at h1; omega
  | k + 1, n, m, h, h1 => by
    show Ahead (Wal.hiR k (n / 256) ++ [UInt8.ofNat n]) (Wal.hiR k (m / 256) ++ [UInt8.ofNat m])
    rcases Nat.lt_or_ge (n / 256) (m / 256) with h2 | h2
    · exact (hiR_ahead k _ _ h2 (by rw [Nat.pow_succ] at h1; omega)).post _ _
    · have : n / 256 = m / 256 := by omega
      rw [this]
      refine (Ahead.mk' (UInt8.ofNat n) (UInt8.ofNat m) [] [] ?_).pre _
      rw [UInt8.lt_iff_toNat_lt]
      simp only [UInt8.toNat_ofNat']
      omega
theorem hi8_ahead {n m : Nat} (h : n < m) (hm : m < 18446744073709551616) : Ahead (Wal.hi8 n) (Wal.hi8 m) := hiR_ahead 8 n m h (Nat.lt_of_lt_of_le hm (by decide))
theorem idn_lt {n : Int} (h1 : -9223372036854775808 ≤ n) (h2 : n ≤ 9223372036854775807) : idn n < 18446744073709551616 := by unfold idn; omega
theorem id_ahead {n m : Int} (h : n < m) (h1 : -9223372036854775808 ≤ n) (h2 : m ≤ 9223372036854775807) : Ahead (id n) (id m) := hi8_ahead (by unfold idn; omega) (idn_lt (by omega) h2)
theorem id_less {n m : Int} (n1 : -9223372036854775808 ≤ n) (n2 : n ≤ 9223372036854775807) (m1 : -9223372036854775808 ≤ m) (m2 : m ≤ 9223372036854775807) : bytesLess (id n) (id m) = decide (n < m) := by
  rcases Int.lt_trichotomy n m with h | h | h
  · rw [(id_ahead h n1 m2).less.1]; simp [h]
  · subst h; rw [less_irrefl]; simp
  · rw [(id_ahead h m1 n2).less.2]; simp; omega
theorem id_length (n : Int) : (id n).length = 8 := Wal.hi8_length _
theorem lo_id {n : Int} (h1 : -9223372036854775808 ≤ n) (h2 : n ≤ 9223372036854775807) : Wal.lo (id n) = idn n := Wal.lo_hi8 _ (idn_lt h1 h2)

/-! Texts -/
theorem esc_nil : esc [] = [] := rfl
theorem esc_cons (c : UInt8) (s : List UInt8) : esc (c :: s) = (if c = 0 then [0, 255] else [c]) ++ esc s := by simp [esc]
theorem esc_append (s t : List UInt8) : esc (s ++ t) = esc s ++ esc t := by simp [esc]
theorem esc_length (s : List UInt8) : (esc s).length ≤ 2 * s.length := by
  induction s with
  | nil => simp [esc_nil]
  | cons c s ih => rw [esc_cons, List.length_append, List.length_cons]; split <;> simp <;> omega
theorem pos_of_ne {c : UInt8} (h : c ≠ 0) : (0 : UInt8) < c := by
  rw [UInt8.lt_iff_toNat_lt]
  have : c.toNat ≠ 0 := fun e => h (UInt8.toNat_inj.1 (by simpa using e))
  have e0 : (0 : UInt8).toNat = 0 := rfl
  omega
theorem text_ahead : ∀ s t : List UInt8, bytesLess s t = true → Ahead (esc s ++ [0, 0]) (esc t ++ [0, 0])
  | _, [], h => by simp [bytesLess] at h
  | [], d :: t, _ => by
    rw [esc_nil, esc_cons]
    by_cases hd : d = 0
    · rw [if_pos hd]
      exact (Ahead.mk' 0 255 [] (esc t ++ [0, 0]) (by decide)).cons 0
    · rw [if_neg hd]
      exact Ahead.mk' 0 d [0] (esc t ++ [0, 0]) (pos_of_ne hd)
  | c :: s, d :: t, h => by
    simp only [bytesLess, Bool.or_eq_true, Bool.and_eq_true, decide_eq_true_eq, beq_iff_eq] at h
    rw [esc_cons, esc_cons]
    rcases h with h | ⟨rfl, h⟩
    · have hd : d ≠ 0 := fun e => by subst e; rw [UInt8.lt_iff_toNat_lt] at h; have e0 : (0 : UInt8).toNat = 0 := rfl; omega
      rw [if_neg hd]
      by_cases hc : c = 0
      · rw [if_pos hc]
        exact Ahead.mk' 0 d _ _ (pos_of_ne hd)
      · rw [if_neg hc]
        exact Ahead.mk' c d _ _ h
    · rw [List.append_assoc, List.append_assoc]
      exact (text_ahead s t h).pre _

/-! Values -/
/-- Is a clean value ahead of another one? -/
def vless (a b : Va) : Prop :=
  a.k < b.k ∨ a.k = b.k ∧ (if a.k = 2 then (¬ fnan a.f ∧ fnan b.f) ∨ (¬ fnan a.f ∧ ¬ fnan b.f ∧ fsg a.f < fsg b.f) else if a.k = 3 then bytesLess a.s b.s = true else a.n < b.n)
instance (a b : Va) : Decidable (vless a b) := by unfold vless; infer_instance
def vord (a b : Va) : Int := if vless a b then -1 else if vless b a then 1 else 0

/-- What cleaning leaves. -/
structure Clean (v : Va) : Prop where
  kind : v.k = 0 ∨ v.k = 1 ∨ v.k = 2 ∨ v.k = 3 ∨ v.k = 4
  nn : v.k ≠ 1 → v.k ≠ 4 → v.n = 0
  ff : v.k ≠ 2 → v.f = 0
  ss : v.k ≠ 3 → v.s = []
  bb : v.k = 4 → v.n = 0 ∨ v.n = 1
  zz : v.f % 9223372036854775808 = 0 → v.f = 0
theorem clean_of (v : Va) : Clean (dclean v) := by
  unfold dclean cleanF
  by_cases h1 : v.k = 1
  · rw [if_pos h1]; constructor <;> simp
  rw [if_neg h1]
  by_cases h2 : v.k = 2
  · rw [if_pos h2]; constructor <;> simp
    unfold real0; split <;> omega
  rw [if_neg h2]
  by_cases h3 : v.k = 3
  · rw [if_pos h3]; constructor <;> simp
  rw [if_neg h3]
  by_cases h4 : v.k = 4
  · rw [if_pos h4]; constructor <;> simp
    exact Decidable.em _
  rw [if_neg h4]; constructor <;> simp [nul]
theorem real0_lt {f : Nat} (h : f < 18446744073709551616) : real0 f < 18446744073709551616 := by unfold real0; split <;> omega
theorem real1_lt {f : Nat} (h : f < 18446744073709551616) : real1 f < 18446744073709551616 := by unfold real1; (repeat' split) <;> omega
theorem cleanF_ok {g : Nat → Nat} (hg : ∀ f, f < 18446744073709551616 → g f < 18446744073709551616) {v : Va} (h : v.ok) : (cleanF g v).ok := by
  obtain ⟨k1, k2, n1, n2, f1⟩ := h
  unfold cleanF
  have := hg _ f1
  (repeat' split) <;> constructor <;> simp only [nul] <;> first | omega | assumption
theorem dclean_ok {v : Va} (h : v.ok) : (dclean v).ok := cleanF_ok (fun _ => real0_lt) h
theorem clean_ok {v : Va} (h : v.ok) : (clean v).ok := cleanF_ok (fun _ => real1_lt) h

theorem kbits_lt {f g : Nat} (hf : f < 18446744073709551616) (hg : g < 18446744073709551616) (h : fsg f < fsg g) : kbits f < kbits g := by
  unfold kbits fsg at *
  by_cases c1 : 9223372036854775808 ≤ f <;> by_cases c2 : 9223372036854775808 ≤ g <;> simp only [c1, c2, if_true, if_false] at h ⊢ <;> omega
theorem kbits_max {f : Nat} (hf : f < 18446744073709551616) (h : ¬ fnan f) : kbits f < 18446744073709551615 := by
  unfold kbits fnan at *
  split <;> omega
theorem fsg_inj {f g : Nat} (hf : f < 18446744073709551616) (hg : g < 18446744073709551616) (zf : f % 9223372036854775808 = 0 → f = 0) (zg : g % 9223372036854775808 = 0 → g = 0) (h : fsg f = fsg g) : f = g := by
  unfold fsg at h
  split at h <;> split at h <;> omega
theorem pbits_top {f : Nat} (hf : f < 18446744073709551616) : pbits f < 18446744073709551616 := by
  unfold pbits
  split
  · decide
  · next h => have := kbits_max hf h; omega
theorem part_int {v : Va} (h : v.k = 1) : part v = 1 :: id v.n := by unfold part; rw [if_pos h]
theorem part_real {v : Va} (h : v.k = 2) : part v = 1 :: Wal.hi8 (pbits v.f) := by unfold part; rw [if_neg (by omega), if_pos h]
theorem part_text {v : Va} (h : v.k = 3) : part v = 1 :: (esc v.s ++ [0, 0]) := by unfold part; rw [if_neg (by omega), if_neg (by omega), if_pos h]
theorem part_bool {v : Va} (h : v.k = 4) : part v = [1, UInt8.ofNat v.n.toNat] := by unfold part; rw [if_neg (by omega), if_neg (by omega), if_neg (by omega), if_pos h]
theorem part_null {v : Va} (h : v.k = 0) : part v = [0] := by simp [part, h]
theorem part_one {v : Va} (hc : Clean v) (h : v.k ≠ 0) : ∃ r, part v = 1 :: r := by
  unfold part
  rcases hc.kind with e | e | e | e | e <;> simp [e] at h ⊢
/-- The parts of values of one kind, or of which one is null, are ordered as they are. -/
theorem part_ahead {a b : Va} (ha : a.ok) (hb : b.ok) (ca : Clean a) (cb : Clean b) (hk : a.k = b.k ∨ a.k = 0 ∨ b.k = 0) (h : vless a b) : Ahead (part a) (part b) := by
  rcases h with h | ⟨h, hl⟩
  · have h0 : a.k = 0 := by
      rcases hk with e | e | e
      · omega
      · exact e
      · rcases ca.kind with e' | e' | e' | e' | e' <;> omega
    obtain ⟨r, hr⟩ := part_one cb (by omega)
    rw [part_null h0, hr]
    exact Ahead.mk' 0 1 [] r (by decide)
  · rcases ca.kind with e | e | e | e | e
    · rw [if_neg (by omega), if_neg (by omega), ca.nn (by omega) (by omega), cb.nn (by omega) (by omega)] at hl
      omega
    · rw [if_neg (by omega), if_neg (by omega)] at hl
      have eb : b.k = 1 := by omega
      rw [part_int e, part_int eb]
      exact (id_ahead hl ha.n1 hb.n2).cons 1
    · rw [if_pos e] at hl
      have eb : b.k = 2 := by omega
      rw [part_real e, part_real eb]
      refine (hi8_ahead ?_ (pbits_top hb.f1)).cons 1
      unfold pbits
      rcases hl with ⟨h1, h2⟩ | ⟨h1, h2, h3⟩
      · rw [if_neg h1, if_pos h2]; exact kbits_max ha.f1 h1
      · rw [if_neg h1, if_neg h2]; exact kbits_lt ha.f1 hb.f1 h3
    · rw [if_neg (by omega), if_pos e] at hl
      have eb : b.k = 3 := by omega
      rw [part_text e, part_text eb]
      exact (text_ahead _ _ hl).cons 1
    · rw [if_neg (by omega), if_neg (by omega)] at hl
      have eb : b.k = 4 := by omega
      have z1 : a.n = 0 := by rcases ca.bb e with h | h <;> rcases cb.bb eb with h' | h' <;> omega
      have z2 : b.n = 1 := by rcases ca.bb e with h | h <;> rcases cb.bb eb with h' | h' <;> omega
      rw [part_bool e, part_bool eb, z1, z2]
      exact (Ahead.mk' 0 1 [] [] (by decide)).cons 1
theorem part_same {a b : Va} (ha : a.ok) (hb : b.ok) (ca : Clean a) (cb : Clean b) (h1 : ¬ vless a b) (h2 : ¬ vless b a) : a.k = b.k ∧ part a = part b := by
  have hk : a.k = b.k := by
    rcases Int.lt_trichotomy a.k b.k with h | h | h
    · exact absurd (.inl h) h1
    · exact h
    · exact absurd (.inl h) h2
  refine ⟨hk, ?_⟩
  have l1 := fun h => h1 (.inr ⟨hk, h⟩)
  have l2 := fun h => h2 (.inr ⟨hk.symm, h⟩)
  clear h1 h2
  rcases ca.kind with e | e | e | e | e
  · rw [part_null e, part_null (by omega)]
  · rw [if_neg (by omega), if_neg (by omega)] at l1 l2
    have eb : b.k = 1 := by omega
    have : a.n = b.n := Int.le_antisymm (Int.not_lt.1 l2) (Int.not_lt.1 l1)
    rw [part_int e, part_int eb, this]
  · have eb : b.k = 2 := by omega
    rw [if_pos e] at l1
    rw [if_pos eb] at l2
    rw [part_real e, part_real eb]
    have : pbits a.f = pbits b.f := by
      unfold pbits
      by_cases na : fnan a.f <;> by_cases nb : fnan b.f
      · rw [if_pos na, if_pos nb]
      · exact absurd (.inl ⟨nb, na⟩) l2
      · exact absurd (.inl ⟨na, nb⟩) l1
      · rw [if_neg na, if_neg nb]
        have g1 := fun h => l1 (.inr ⟨na, nb, h⟩)
        have g2 := fun h => l2 (.inr ⟨nb, na, h⟩)
        rw [fsg_inj ha.f1 hb.f1 ca.zz cb.zz (Int.le_antisymm (Int.not_lt.1 g2) (Int.not_lt.1 g1))]
    rw [this]
  · have eb : b.k = 3 := by omega
    rw [if_neg (by omega), if_pos e] at l1
    rw [if_neg (by omega), if_pos eb] at l2
    have : a.s = b.s := less_total _ _ (by simpa using l1) (by simpa using l2)
    rw [part_text e, part_text eb, this]
  · rw [if_neg (by omega), if_neg (by omega)] at l1 l2
    have eb : b.k = 4 := by omega
    have : a.n = b.n := Int.le_antisymm (Int.not_lt.1 l2) (Int.not_lt.1 l1)
    rw [part_bool e, part_bool eb, this]

/-- The first order that is none's of like. -/
def wantOf : List (Va × Va) → Int
  | [] => 0
  | (a, b) :: r => if vord a b = 0 then wantOf r else vord a b
/-- Keys of values of like kinds are ordered as the first values that are unlike. -/
theorem keys_ahead : ∀ (l : List (Va × Va)), (∀ p ∈ l, p.1.ok ∧ p.2.ok ∧ Clean p.1 ∧ Clean p.2 ∧ (p.1.k = p.2.k ∨ p.1.k = 0 ∨ p.2.k = 0)) →
    (wantOf l = 0 ∧ (l.map (·.1)).flatMap part = (l.map (·.2)).flatMap part) ∨ (wantOf l = -1 ∧ Ahead ((l.map (·.1)).flatMap part) ((l.map (·.2)).flatMap part)) ∨
      (wantOf l = 1 ∧ Ahead ((l.map (·.2)).flatMap part) ((l.map (·.1)).flatMap part))
  | [], _ => .inl ⟨rfl, rfl⟩
  | (a, b) :: r, h => by
    obtain ⟨ha, hb, ca, cb, hk⟩ := h (a, b) (by simp)
    have ih := keys_ahead r fun p hp => h p (by simp [hp])
    simp only [List.map_cons, List.flatMap_cons, wantOf]
    unfold vord
    by_cases h1 : vless a b
    · rw [if_pos h1]
      exact .inr (.inl ⟨rfl, (part_ahead ha hb ca cb hk h1).post _ _⟩)
    rw [if_neg h1]
    by_cases h2 : vless b a
    · rw [if_pos h2]
      refine .inr (.inr ⟨rfl, (part_ahead hb ha cb ca ?_ h2).post _ _⟩)
      rcases hk with e | e | e
      · exact .inl e.symm
      · exact .inr (.inr e)
      · exact .inr (.inl e)
    rw [if_neg h2, if_pos rfl, (part_same ha hb ca cb h1 h2).2]
    rcases ih with ⟨e, q⟩ | ⟨e, q⟩ | ⟨e, q⟩
    · exact .inl ⟨e, by rw [q]⟩
    · exact .inr (.inl ⟨e, q.pre _⟩)
    · exact .inr (.inr ⟨e, q.pre _⟩)
/-- What KeyOrders asks, at its end. -/
theorem orders_fact (l : List (Va × Va)) (h : ∀ p ∈ l, p.1.ok ∧ p.2.ok ∧ Clean p.1 ∧ Clean p.2 ∧ (p.1.k = p.2.k ∨ p.1.k = 0 ∨ p.2.k = 0)) (x y : List UInt8) (hx : x = (l.map (·.1)).flatMap part) (hy : y = (l.map (·.2)).flatMap part) :
    (wantOf l ≠ 0 → x.take (min x.length y.length) ≠ y.take (min x.length y.length)) ∧ (bytesLess x y = decide (wantOf l < 0)) ∧ (bytesLess y x = decide (0 < wantOf l)) := by
  subst hx hy
  rcases keys_ahead l h with ⟨e, q⟩ | ⟨e, q⟩ | ⟨e, q⟩
  · rw [e, q, less_irrefl]; simp
  · rw [e]; exact ⟨fun _ => q.ne_take _ rfl, by rw [q.less.1]; decide, by rw [q.less.2]; decide⟩
  · rw [e]; exact ⟨fun _ => (q.ne_take _ (by rw [Nat.min_comm])).symm, by rw [q.less.2]; decide, by rw [q.less.1]; decide⟩

/-! After -/
/-- The least bytes behind all that begin with l: none, where there are none. -/
def IsAfter (l : List UInt8) (r : Option (List UInt8)) : Prop :=
  (r = none ∧ ∀ c ∈ l, c = 255) ∨ ∃ p c t, l = p ++ c :: t ∧ c < 255 ∧ (∀ d ∈ t, d = 255) ∧ r = some (p ++ [c + 1])
theorem tail_unique {c d : UInt8} : ∀ {p q t u : List UInt8}, p ++ c :: t = q ++ d :: u → c < 255 → d < 255 → (∀ x ∈ t, x = 255) → (∀ x ∈ u, x = 255) → p = q ∧ c = d
  | [], [], t, u, h, _, _, _, _ => by simp at h; exact ⟨rfl, h.1⟩
  | [], e :: q, t, u, h, _, hd, ht, _ => by
    simp only [List.nil_append, List.cons_append, List.cons.injEq] at h
    have := ht d (by rw [h.2]; simp)
    subst this; rw [UInt8.lt_iff_toNat_lt] at hd; omega
  | e :: p, [], t, u, h, hc, _, _, hu => by
    simp only [List.nil_append, List.cons_append, List.cons.injEq] at h
    have := hu c (by rw [← h.2]; simp)
    subst this; rw [UInt8.lt_iff_toNat_lt] at hc; omega
  | e :: p, f :: q, t, u, h, hc, hd, ht, hu => by
    simp only [List.cons_append, List.cons.injEq] at h
    obtain ⟨rfl, h⟩ := h
    obtain ⟨rfl, rfl⟩ := tail_unique h hc hd ht hu
    exact ⟨rfl, rfl⟩
theorem IsAfter.unique {l : List UInt8} {r s : Option (List UInt8)} (h1 : IsAfter l r) (h2 : IsAfter l s) : r = s := by
  rcases h1 with ⟨rfl, h1⟩ | ⟨p, c, t, rfl, hc, ht, rfl⟩ <;> rcases h2 with ⟨rfl, h2⟩ | ⟨q, d, u, e, hd, hu, rfl⟩
  · rfl
  · have := h1 d (by rw [e]; simp)
    subst this; rw [UInt8.lt_iff_toNat_lt] at hd; omega
  · have := h2 c (by simp)
    subst this; rw [UInt8.lt_iff_toNat_lt] at hc; omega
  · obtain ⟨rfl, rfl⟩ := tail_unique e hc hd ht hu
    rfl
theorem all_255 : ∀ (b t : List UInt8), (∀ c ∈ b, c = 255) → bytesLess t b = true ∨ b <+: t
  | [], t, _ => .inr (List.nil_prefix)
  | c :: b, [], _ => .inl rfl
  | c :: b, d :: t, h => by
    obtain rfl := h c (by simp)
    by_cases hd : d = 255
    · subst hd
      rcases all_255 b t (fun x hx => h x (by simp [hx])) with h1 | h1
      · exact .inl (by simp [bytesLess, h1])
      · exact .inr (List.cons_prefix_cons.2 ⟨rfl, h1⟩)
    · refine .inl ?_
      have : d < 255 := by
        rw [UInt8.lt_iff_toNat_lt]
        have h1 := d.toNat_lt
        have h2 : d.toNat ≠ 255 := fun e => hd (UInt8.toNat_inj.1 e)
        have e0 : (255 : UInt8).toNat = 255 := rfl
        omega
      simp [bytesLess, this]
theorem not_less_nil (l : List UInt8) : bytesLess l [] = false := by cases l <;> rfl
theorem less_after : ∀ (p : List UInt8) (c : UInt8) (u t : List UInt8), c < 255 → (∀ d ∈ u, d = 255) → (bytesLess t (p ++ [c + 1]) = true ↔ bytesLess t (p ++ c :: u) = true ∨ (p ++ c :: u) <+: t)
  | [], c, u, [], hc, hu => by simp [bytesLess]
  | [], c, u, d :: t, hc, hu => by
    simp only [List.nil_append, bytesLess, not_less_nil, Bool.and_false, Bool.or_false, decide_eq_true_eq, Bool.or_eq_true, Bool.and_eq_true, beq_iff_eq, List.cons_prefix_cons]
    have hs : (c + 1).toNat = c.toNat + 1 := by
      rw [UInt8.lt_iff_toNat_lt] at hc
      have e0 : (255 : UInt8).toNat = 255 := rfl
      rw [UInt8.toNat_add]
      have e1 : (1 : UInt8).toNat = 1 := rfl
      rw [e1, Nat.mod_eq_of_lt (by omega)]
    rw [UInt8.lt_iff_toNat_lt, UInt8.lt_iff_toNat_lt, hs]
    constructor
    · intro h
      by_cases e : d.toNat < c.toNat
      · exact .inl (.inl e)
      · have : d = c := UInt8.toNat_inj.1 (by omega)
        subst this
        rcases all_255 u t hu with h1 | h1
        · exact .inl (.inr ⟨rfl, h1⟩)
        · exact .inr ⟨rfl, h1⟩
    · rintro ((h | ⟨rfl, _⟩) | ⟨rfl, _⟩) <;> omega
  | e :: p, c, u, [], hc, hu => by simp [bytesLess]
  | e :: p, c, u, d :: t, hc, hu => by
    have ih := less_after p c u t hc hu
    simp only [List.cons_append, bytesLess, Bool.or_eq_true, Bool.and_eq_true, decide_eq_true_eq, beq_iff_eq, ih, List.cons_prefix_cons]
    constructor
    · rintro (h | ⟨rfl, h | h⟩)
      · exact .inl (.inl h)
      · exact .inl (.inr ⟨rfl, h⟩)
      · exact .inr ⟨rfl, h⟩
    · rintro ((h | ⟨rfl, h⟩) | ⟨rfl, h⟩)
      · exact .inl h
      · exact .inr ⟨rfl, .inl h⟩
      · exact .inr ⟨rfl, .inr h⟩
/-- What KeyAfter asks, at its end. -/
theorem after_fact {b : List UInt8} {r : Option (List UInt8)} (h : IsAfter b r) (t : List UInt8) :
    ((∀ a, r = some a → bytesLess t a = true) ↔ bytesLess t b = true ∨ (b.length ≤ t.length ∧ t.take b.length = b)) := by
  have hp : b <+: t ↔ (b.length ≤ t.length ∧ t.take b.length = b) := by
    constructor
    · intro h
      exact ⟨h.length_le, by rw [← List.prefix_iff_eq_take.1 h]⟩
    · rintro ⟨_, h⟩
      exact List.prefix_iff_eq_take.2 h.symm
  rw [← hp]
  rcases h with ⟨rfl, h⟩ | ⟨p, c, u, rfl, hc, hu, rfl⟩
  · simpa using all_255 b t h
  · rw [← less_after p c u t hc hu]
    simp
end Key
end Go.Proofs.YtjdffhonljhpcaaGreat
end

section
/-
  Words on memory that all walks of this seat use: a row of values that a slice leads to, rows of bytes, rows of bytes of the call's own, how they are kept, and append.
-/
namespace Go.Proofs.YtjdffhonljhpcaaGreat
set_option linter.unusedSimpArgs false
set_option linter.unusedVariables false
open Go.RowKit

/-- The number of a uint64's values: behind a name, so that no tactic counts it. -/
def two64 : Nat := 18446744073709551616
theorem two64_eq : two64 = 18446744073709551616 := rfl

/-- The one-cell values xs lie behind the address A. -/
def Row (w : World) (A : Option Addr) (xs : List Value) : Prop :=
  0 < xs.length → ∃ b o, A = some ⟨b, o, none⟩ ∧ b < w.heap.size ∧ ∀ j (h : j < xs.length), w.cell? ⟨b, o + j, none⟩ = some xs[j]
/-- A byte as a value. -/
def bv (c : UInt8) : Value := .int .u8 (c.toNat : Int)
/-- The bytes l lie behind the address A. -/
def BRow (w : World) (A : Option Addr) (l : List UInt8) : Prop := Row w A (l.map bv)
/-- The slice at A, of room c, owns the bytes l, among the blocks from B on. -/
def BOwn (w : World) (B : Nat) (A : Option Addr) (c : Nat) (l : List UInt8) : Prop := w.ownsRow B 5 1 (.slice A l.length c) l.length (l.map bv)
/-- A text. -/
def txt (l : List UInt8) : Value := .string ⟨l.toArray⟩

section
variable {w w' : World} {A : Option Addr} {xs : List Value} {l : List UInt8}
theorem Row.nil : Row w A [] := fun h => absurd h (by simp)
theorem Row.at_ {k : Nat} (h : Row w A xs) (hk : k < xs.length) : ∃ b o, A = some ⟨b, o, none⟩ ∧ b < w.heap.size ∧ w.cell? ⟨b, o + k, none⟩ = some xs[k] := by
  obtain ⟨b, o, e, hb, hc⟩ := h (by omega)
  exact ⟨b, o, e, hb, hc k hk⟩
theorem BRow.nil : BRow w A [] := Row.nil
theorem BRow.at_ {k : Nat} (h : BRow w A l) (hk : k < l.length) : ∃ b o, A = some ⟨b, o, none⟩ ∧ b < w.heap.size ∧ w.cell? ⟨b, o + k, none⟩ = some (.int .u8 (l[k].toNat : Int)) := by
  obtain ⟨b, o, e, hb, hc⟩ := Row.at_ (k := k) h (by simpa using hk)
  exact ⟨b, o, e, hb, by simpa [bv] using hc⟩
theorem Row.below (h : Row w A xs) (hb : Below w.heap.size w w') : Row w' A xs := fun hl => by
  obtain ⟨b, o, e, hlt, hc⟩ := h hl
  exact ⟨b, o, e, Nat.lt_of_lt_of_le hlt hb.size, fun j hj => (hb.cell (p := ⟨b, o + j, none⟩) hlt).trans (hc j hj)⟩
theorem BRow.below (h : BRow w A l) (hb : Below w.heap.size w w') : BRow w' A l := Row.below h hb
theorem Row.drew (h : Row w A xs) : Row w.drew A xs := h
theorem BRow.drew (h : BRow w A l) : BRow w.drew A l := h
theorem Row.alloc (h : Row w A xs) (o : Obj) : Row (w.alloc o) A xs := h.below ((Below.refl _ _).alloc (Nat.le_refl _) o)
theorem BRow.alloc (h : BRow w A l) (o : Obj) : BRow (w.alloc o) A l := Row.alloc h o
theorem Row.new (w : World) (xs : List Value) (t : TypeId) : Row (w.alloc (.cells xs.toArray t)) (some ⟨w.heap.size, 0, none⟩) xs := fun _ =>
  ⟨w.heap.size, 0, rfl, by simp, fun j hj => by simp [hj]⟩
theorem Row.newMark (w : World) (xs : List Value) (t : TypeId) (fr : Nat × Nat) : Row (w.alloc (.cells xs.toArray t fr)) (some ⟨w.heap.size, 0, none⟩) xs := fun _ =>
  ⟨w.heap.size, 0, rfl, by simp, fun j hj => by rw [World.cell?_alloc_mark]; simp [hj]⟩
theorem BRow.one (w : World) (c : UInt8) (v : Value) (t : TypeId) (h : bv c = v) : BRow (w.alloc (.cells #[v] t)) (some ⟨w.heap.size, 0, none⟩) [c] := by
  subst h
  exact Row.new w [bv c] t
/-- A cut of a row. -/
theorem Row.take (h : Row w A xs) (k : Nat) : Row w A (xs.take k) := fun hl => by
  have hk : 0 < xs.length := by rw [List.length_take] at hl; omega
  obtain ⟨b, o, e, hb, hc⟩ := h hk
  exact ⟨b, o, e, hb, fun j hj => by rw [hc j (by rw [List.length_take] at hj; omega)]; simp⟩
theorem BRow.take (h : BRow w A l) (k : Nat) : BRow w A (l.take k) := by
  have := Row.take h k
  rwa [← List.map_take] at this
theorem Row.drop (h : Row w A xs) (k : Nat) : Row w (A.map fun x => x.add k) (xs.drop k) := fun hl => by
  have hk : k < xs.length := by rw [List.length_drop] at hl; omega
  obtain ⟨b, o, rfl, hb, hc⟩ := h (by omega)
  refine ⟨b, o + k, by simp [Addr.add_lit], hb, fun j hj => ?_⟩
  rw [Nat.add_assoc, hc (k + j) (by rw [List.length_drop] at hj; omega)]
  simp
theorem BRow.drop (h : BRow w A l) (k : Nat) : BRow w (A.map fun x => x.add k) (l.drop k) := by
  have := Row.drop h k
  rwa [← List.map_drop] at this
theorem Row.far (h : Row w A xs) {p : Addr} (hne : ∀ a, A = some a → a.block ≠ p.block) (u : Value) : Row (w.setCell p u) A xs := fun hl => by
  obtain ⟨b, o, rfl, hlt, hc⟩ := h hl
  refine ⟨b, o, rfl, by simpa using hlt, fun j hj => ?_⟩
  rw [World.cell?_setCell_other w p ⟨b, o + j, none⟩ u (fun e => hne _ rfl (by rw [e]))]
  exact hc j hj
theorem BRow.far (h : BRow w A l) {p : Addr} (hne : ∀ a, A = some a → a.block ≠ p.block) (u : Value) : BRow (w.setCell p u) A l := Row.far h hne u
theorem Row.keep (h : Row w A xs) (hs : w.heap.size ≤ w'.heap.size) (hk : ∀ a, A = some a → ∀ j, w'.cell? ⟨a.block, j, none⟩ = w.cell? ⟨a.block, j, none⟩) : Row w' A xs := fun hl => by
  obtain ⟨b, o, rfl, hlt, hc⟩ := h hl
  exact ⟨b, o, rfl, by omega, fun j hj => (hk _ rfl (o + j)).trans (hc j hj)⟩
theorem BRow.lt (h : BRow w A l) (hl : 0 < l.length) : ∃ b o, A = some ⟨b, o, none⟩ ∧ b < w.heap.size := by
  obtain ⟨b, o, e, hb, _⟩ := h (by simpa using hl)
  exact ⟨b, o, e, hb⟩
theorem one_bytes (l : List UInt8) : ∀ u ∈ l.map bv, u.oneCell' = true := by
  intro u hu
  obtain ⟨_, _, rfl⟩ := List.mem_map.1 hu
  rfl

variable {B c : Nat}
theorem BOwn.form (h : BOwn w B A c l) : (A = none ∧ c = 0 ∧ l = []) ∨ ∃ g, A = some ⟨g, 0, none⟩ ∧ B ≤ g ∧ g < w.heap.size ∧ l.length ≤ c ∧ c ≤ maxLen := by
  rcases h.2 with ⟨hv, h0⟩ | ⟨g, cap, cur, hv, hb, hg, hn, hm, _⟩
  · simp only [Value.slice.injEq] at hv
    exact .inl ⟨hv.1, hv.2.2, List.eq_nil_of_length_eq_zero h0⟩
  · simp only [Value.slice.injEq] at hv
    obtain ⟨rfl, _, rfl⟩ := hv
    exact .inr ⟨g, rfl, hb, (Array.getElem?_eq_some_iff.1 hg).1, hn, hm⟩
theorem BOwn.block (h : BOwn w B A c l) : ∀ a, A = some a → B ≤ a.block ∧ a.block < w.heap.size := by
  intro a ha
  rcases h.form with ⟨rfl, _⟩ | ⟨g, rfl, h1, h2, _⟩
  · cases ha
  · obtain rfl := Option.some.inj ha
    exact ⟨h1, h2⟩
theorem BOwn.cap (h : BOwn w B A c l) : l.length ≤ c := by
  rcases h.form with ⟨_, _, rfl⟩ | ⟨_, _, _, _, h, _⟩
  · simp
  · exact h
theorem BOwn.row (h : BOwn w B A c l) : BRow w A l := fun hl => by
  rcases h.form with ⟨_, _, rfl⟩ | ⟨g, rfl, _, hlt, _⟩
  · simp at hl
  · refine ⟨g, 0, rfl, hlt, fun j hj => ?_⟩
    have := h.cells (g := g) rfl j _ (List.getElem?_eq_getElem hj)
    simpa [Addr.add_lit] using this
theorem BOwn.nil (w : World) (B : Nat) : BOwn w B none 0 [] := World.ownsRow_nil _ _ _ _
theorem BOwn.drew (h : BOwn w B A c l) : BOwn w.drew B A c l := h
theorem BOwn.alloc (h : BOwn w B A c l) (o : Obj) : BOwn (w.alloc o) B A c l := World.ownsRow.alloc h o
theorem BOwn.kept {row : Option Nat} (h : BOwn w B A c l) (hg : w.grownBy w' row) (hne : A.map (·.block) = none ∨ A.map (·.block) ≠ row) : BOwn w' B A c l :=
  World.ownsRow.kept h hg (by
    cases A with
    | none => simp [Value.ownBlock]
    | some a => simpa [Value.ownBlock] using hne)
theorem BOwn.below (h : BOwn w B A c l) (hb : Below w.heap.size w w') : BOwn w' B A c l := by
  refine World.ownsRow.kept (row := none) h ⟨hb.os, hb.tape, hb.output, hb.size, fun k hk _ => hb.block k hk⟩ ?_
  cases h2 : Value.ownBlock (.slice A l.length c) <;> simp
theorem BOwn.below_grown (h : BOwn w B A c l) (hg : w.grownBy w' (A.map (·.block))) (hB : B ≤ w.heap.size) : Below B w w' :=
  (Below.refl B w).grown hg hB fun k hk => by
    rcases h.form with ⟨rfl, _⟩ | ⟨g, rfl, hb, _⟩
    · simp at hk
    · simp at hk; omega
theorem BOwn.new (w : World) (l : List UInt8) (hm : l.length ≤ maxLen) (hB : B ≤ w.heap.size) : BOwn (w.alloc (.cells (l.map bv).toArray 5)) B (some ⟨w.heap.size, 0, none⟩) l.length l := by
  have := World.ownsRow_lit (e := 5) (size := 1) w (l.map bv).toArray l.length hB hm (by simp)
  simpa [BOwn] using this
theorem BOwn.cell {g j : Nat} (h : BOwn w B (some ⟨g, 0, none⟩) c l) (hj : j < l.length) : w.cell? ⟨g, j, none⟩ = some (.int .u8 (l[j].toNat : Int)) := by
  have := World.ownsRow.cellAt h j (by omega)
  rw [this]
  simp [hj, bv]
theorem BOwn.free {g : Nat} (h : BOwn w B (some ⟨g, 0, none⟩) c l) (j : Nat) : w.frozen? ⟨g, j, none⟩ = false := World.ownsRow.frozenAt h j
theorem BOwn.store {g : Nat} (h : BOwn w B (some ⟨g, 0, none⟩) c l) (j : Nat) (x : UInt8) (v : Value) (hv : bv x = v) : BOwn (w.setCell ⟨g, j, none⟩ v) B (some ⟨g, 0, none⟩) c (l.set j x) := by
  subst hv
  have := (World.ownsRow.stored h j (bv x)).1
  unfold BOwn
  rw [List.map_set, List.length_set]
  exact this
theorem BOwn.mono {B' : Nat} (h : BOwn w B A c l) (hB : B' ≤ B) : BOwn w B' A c l := by
  refine ⟨h.1, ?_⟩
  rcases h.2 with h2 | ⟨g, cap, cur, hv, hb, r⟩
  · exact .inl h2
  · exact .inr ⟨g, cap, cur, hv, by omega, r⟩
end

/-- The bytes of a slice that came in. -/
theorem bytes_in {w : World} {x : Addr} {len cap : Nat} {zs : List Int} (hl : len ≤ cap) (hz : zs.length = cap) (hcell : ∀ i, i < zs.length → w.cell? (x.add i) = some (.int .u8 (zs.getD i 0)))
    (hwz : ∀ n ∈ zs, (Lit.int .u8 n).wf = true) : ∃ l : List UInt8, l.length = len ∧ BRow w (some x) l := by
  refine ⟨(zs.take len).map fun n => UInt8.ofNat n.toNat, by simp; omega, fun h => ?_⟩
  have hpos : 0 < zs.length := by simp at h; omega
  have h0 := hcell 0 hpos
  obtain ⟨b, o, sp⟩ := x
  have hsp : sp = none := by simpa [Addr.add] using World.cell?_spot h0
  subst hsp
  refine ⟨b, o, rfl, World.block_lt_of_cell? w _ h0, fun j hj => ?_⟩
  have hj' : j < zs.length := by simp at hj; omega
  have := hcell j hj'
  rw [Addr.add_lit] at this
  rw [this]
  have hw := hwz zs[j] (List.getElem_mem hj')
  have hb : 0 ≤ zs[j] ∧ zs[j] ≤ 255 := by
    simp [Lit.wf, IntKind.min, IntKind.max, IntKind.signed, IntKind.bits] at hw
    omega
  simp [bv, hj']
  omega

/-! Laws at the operations -/
section
variable {P : Program} (w : World)
theorem run_append_of_none (base : Nat) (t ty e : TypeId) (i : TypeInfo) (size : Nat) (ht : P.underlying t = some (.slice e)) (hi : P.info? e = some i)
    (v : Value) (n : Nat) (xs : List Value) (hown : w.ownsRow base e size v n xs) (c : Nat) : (Builtin.append_ #[t, t] ty #[v, .slice none 0 c]).run P w = .ok v w := by
  rcases hown.2 with ⟨rfl, rfl⟩ | ⟨g, cap, cur, rfl, _, _, hnc, _⟩
  · simp [Builtin.append_, run_underlying ht, sizeOf, typeInfo, hi, Builtin.lenOf, Builtin.firstCells]
  · simp [Builtin.append_, run_underlying ht, sizeOf, typeInfo, hi, Builtin.lenOf, Builtin.firstCells, hnc, storeCells]

/-- append of a row, nil, empty or not, to a row of the call's own. -/
theorem run_append_row (base : Nat) (t ty e : TypeId) (i : TypeInfo) (z : Value) (bytes : Nat) (ht : P.underlying t = some (.slice e)) (hi : P.info? e = some i) (hz : i.zero = some z)
    (hsize : i.size = 1) (hby : i.bytes = bytes) (hzs : z.cells.size = 1)
    (v : Value) (n : Nat) (xs : List Value) (hown : w.ownsRow base e 1 v n xs)
    (A : Option Addr) (c : Nat) (news : List Value) (hr : Row w A news) (h1 : ∀ u ∈ news, u.oneCell' = true)
    (h63 : n + news.length ≤ maxLen) (hbytes : (n + news.length) * bytes ≤ 140737488355328) (hbase : base ≤ w.heap.size) :
    ∃ v' w', (Builtin.append_ #[t, t] ty #[v, .slice A news.length c]).run P w = .ok v' w' ∧ w'.ownsRow base e 1 v' (n + news.length) (xs ++ news) ∧ w.grownBy w' v.ownBlock ∧
      (v'.ownBlock = v.ownBlock ∨ v'.ownBlock = some w.heap.size) := by
  rcases A with _ | ad
  · have hm : news = [] := by
      cases news with
      | nil => rfl
      | cons x news => obtain ⟨b, o, h, _⟩ := hr (by simp); cases h
    subst hm
    exact ⟨v, w, run_append_of_none w base t ty e i 1 ht hi v n xs hown c, by simpa using hown, World.grownBy.refl w _, .inl rfl⟩
  · have hcells : ∀ j u, news[j]? = some u → w.cell? (ad.add j) = some u := by
      intro j u hu
      have hj := (List.getElem?_eq_some_iff.1 hu)
      obtain ⟨b, o, h, _, hc⟩ := hr (by have := hj.1; omega)
      obtain rfl := Option.some.inj h
      rw [Addr.add_lit, hc j hj.1, hj.2]
    obtain ⟨v', w', hrun, h2, h3, _, h5⟩ := run_append_own_at (P := P) w base t ty e i z 1 bytes ht hi hz hsize hby hzs (by omega) v n xs hown ad news.length c news (by simp) hcells h1 h63 hbytes hbase
    exact ⟨v', w', hrun, h2, h3, h5⟩

theorem own_slice {base : Nat} {e : TypeId} {size n : Nat} {v : Value} {xs : List Value} {w : World} (h : w.ownsRow base e size v n xs) : ∃ A c, v = .slice A n c := by
  rcases h.2 with ⟨rfl, rfl⟩ | ⟨g, cap, cur, rfl, _⟩
  · exact ⟨_, _, rfl⟩
  · exact ⟨_, _, rfl⟩

theorem own_block (A : Option Addr) (n c : Nat) : Value.ownBlock (.slice A n c) = A.map (·.block) := by cases A <;> rfl
end

/-! Bytes of this program -/
theorem info8 : (Tryz.prog.info? 5).map (fun i => (i.zero, i.size, i.bytes)) = some (some (.int .u8 0), 1, 1) := by kernel_rfl

section
variable {w : World} {l m : List UInt8} {A A' : Option Addr} {B c c' : Nat}
end

/-- What a call answers that hands back new bytes and leaves all that was there alone. -/
def RetB (W : World) (l : List UInt8) (e : Ending) (w' : World) : Prop :=
  ∃ A c, e = .returned (.slice A l.length c) ∧ BOwn w' W.heap.size A c l ∧ Below W.heap.size W w'
end Go.Proofs.YtjdffhonljhpcaaGreat
end

section
/-
  Rows of elements of any type whose values are known cells: rows that are read, rows of the call's own, append to these, stores.
-/
namespace Go.Proofs.YtjdffhonljhpcaaGreat
set_option linter.unusedSimpArgs false
set_option linter.unusedVariables false
open Go.RowKit

/-- A kind of element: its type, the slice's type, how many cells, which. -/
structure Elem (α : Type) where
  e : TypeId
  t : TypeId
  sz : Nat
  bytes : Nat
  zero : Value
  code : α → List Value
  pos : 0 < sz
  few : bytes ≤ 65536
  len : ∀ x, (code x).length = sz
  one : ∀ x, ∀ u ∈ code x, u.oneCell' = true
  zsz : zero.cells.size = sz
  info : (Tryz.prog.info? e).map (fun i => (i.zero, i.size, i.bytes)) = some (some zero, sz, bytes)
  under : Tryz.prog.underlying t = some (.slice e)

section
variable {α : Type} (E : Elem α)
def Elem.cells (L : List α) : List Value := L.flatMap E.code
theorem Elem.cells_length (L : List α) : (E.cells L).length = L.length * E.sz := by
  induction L with
  | nil => simp [Elem.cells]
  | cons x L ih =>
    show (E.code x ++ E.cells L).length = _
    rw [List.length_append, ih, E.len, List.length_cons, Nat.succ_mul]
    omega
theorem Elem.cells_append (L M : List α) : E.cells (L ++ M) = E.cells L ++ E.cells M := by simp [Elem.cells]
theorem Elem.cells_one (L : List α) : ∀ u ∈ E.cells L, u.oneCell' = true := by
  intro u hu
  obtain ⟨f, _, hf⟩ := List.mem_flatMap.1 hu
  exact E.one f u hf
theorem Elem.cells_get : ∀ (L : List α) (j k : Nat) (h : j < L.length), k < E.sz → (E.cells L)[j * E.sz + k]? = (E.code L[j])[k]?
  | [], j, k, h, _ => by simp at h
  | x :: L, 0, k, h, hk => by
    show (E.code x ++ E.cells L)[0 * E.sz + k]? = _
    rw [Nat.zero_mul, Nat.zero_add, List.getElem?_append_left (by rw [E.len]; exact hk)]
    rfl
  | x :: L, j + 1, k, h, hk => by
    have ih := Elem.cells_get L j k (by simpa using h) hk
    show (E.code x ++ E.cells L)[(j + 1) * E.sz + k]? = _
    rw [List.getElem?_append_right (by rw [E.len, Nat.succ_mul]; omega), E.len, show (j + 1) * E.sz + k - E.sz = j * E.sz + k from by rw [Nat.succ_mul]; omega]
    exact ih
theorem Elem.cells_set : ∀ (L : List α) (j k : Nat) (h : j < L.length) (x : α) (v : Value), k < E.sz → E.code x = (E.code L[j]).set k v → E.cells (L.set j x) = (E.cells L).set (j * E.sz + k) v
  | [], j, k, h, _, _, _, _ => by simp at h
  | y :: L, 0, k, h, x, v, hk, hx => by
    show E.code x ++ E.cells L = (E.code y ++ E.cells L).set (0 * E.sz + k) v
    rw [hx, Nat.zero_mul, Nat.zero_add, List.set_append_left _ _ (by rw [E.len]; exact hk)]
    rfl
  | y :: L, j + 1, k, h, x, v, hk, hx => by
    have ih := Elem.cells_set L j k (by simpa using h) x v hk hx
    show E.code y ++ E.cells (L.set j x) = (E.code y ++ E.cells L).set ((j + 1) * E.sz + k) v
    rw [List.set_append_right _ _ (by rw [E.len, Nat.succ_mul]; omega), E.len, show (j + 1) * E.sz + k - E.sz = j * E.sz + k from by rw [Nat.succ_mul]; omega, ih]

/-- The elements L lie behind the address A. -/
def ERow (w : World) (A : Option Addr) (L : List α) : Prop :=
  0 < L.length → ∃ b o, A = some ⟨b, o, none⟩ ∧ b < w.heap.size ∧ ∀ i u, (E.cells L)[i]? = some u → w.cell? ⟨b, o + i, none⟩ = some u
/-- The slice at A, of room c, owns the elements L, among the blocks from B on. -/
def EOwn (w : World) (B : Nat) (A : Option Addr) (c : Nat) (L : List α) : Prop := w.ownsRow B E.e E.sz (.slice A L.length c) L.length (E.cells L)

variable {E} {w w' : World} {B c : Nat} {A : Option Addr} {L M : List α}
theorem ERow.nil : ERow E w A ([] : List α) := fun h => absurd h (by simp)
theorem ERow.below (h : ERow E w A L) (hb : Below w.heap.size w w') : ERow E w' A L := fun hl => by
  obtain ⟨b, o, e, hlt, hc⟩ := h hl
  exact ⟨b, o, e, Nat.lt_of_lt_of_le hlt hb.size, fun i u hu => (hb.cell (p := ⟨b, o + i, none⟩) hlt).trans (hc i u hu)⟩
theorem ERow.keep (h : ERow E w A L) (hs : w.heap.size ≤ w'.heap.size) (hk : ∀ a, A = some a → a.block < w.heap.size → w'.heap[a.block]? = w.heap[a.block]?) : ERow E w' A L := fun hl => by
  obtain ⟨b, o, rfl, hlt, hc⟩ := h hl
  exact ⟨b, o, rfl, by omega, fun i u hu => (World.cell?_of_block (a := ⟨b, o + i, none⟩) (hk ⟨b, o, none⟩ rfl hlt)).trans (hc i u hu)⟩
theorem ERow.at_ (h : ERow E w A L) {j : Nat} (hj : j < L.length) : ∃ b o, A = some ⟨b, o, none⟩ ∧ b < w.heap.size ∧ ∀ k v, (E.code L[j])[k]? = some v → w.cell? ⟨b, o + (j * E.sz + k), none⟩ = some v := by
  obtain ⟨b, o, e, hlt, hc⟩ := h (by omega)
  refine ⟨b, o, e, hlt, fun k v hv => hc _ _ ?_⟩
  rw [E.cells_get L j k hj (by rw [← E.len L[j]]; exact (List.getElem?_eq_some_iff.1 hv).1)]
  exact hv
theorem ERow.drop (h : ERow E w A L) (k : Nat) : ERow E w (A.map fun x => x.add (k * E.sz)) (L.drop k) := fun hl => by
  obtain ⟨b, o, rfl, hlt, hc⟩ := h (by simp at hl; omega)
  refine ⟨b, o + k * E.sz, by simp [Addr.add_lit], hlt, fun i u hu => ?_⟩
  rw [Nat.add_assoc]
  refine hc _ _ ?_
  have e : E.cells L = E.cells (L.take k) ++ E.cells (L.drop k) := by rw [← Elem.cells_append, List.take_append_drop]
  have hk : k ≤ L.length := by simp at hl; omega
  rw [e, List.getElem?_append_right (by rw [Elem.cells_length, List.length_take]; rw [Nat.min_eq_left hk]; omega), Elem.cells_length, List.length_take, Nat.min_eq_left hk, Nat.add_sub_cancel_left]
  exact hu
theorem ERow.take (h : ERow E w A L) (k : Nat) : ERow E w A (L.take k) := fun hl => by
  obtain ⟨b, o, rfl, hlt, hc⟩ := h (by simp at hl; omega)
  refine ⟨b, o, rfl, hlt, fun i u hu => hc i u ?_⟩
  have e : E.cells L = E.cells (L.take k) ++ E.cells (L.drop k) := by rw [← Elem.cells_append, List.take_append_drop]
  rw [e, List.getElem?_append_left (List.getElem?_eq_some_iff.1 hu).1]
  exact hu

theorem EOwn.nil (w : World) (B : Nat) : EOwn E w B none 0 ([] : List α) := World.ownsRow_nil _ _ _ _
theorem EOwn.alloc (h : EOwn E w B A c L) (o : Obj) : EOwn E (w.alloc o) B A c L := World.ownsRow.alloc h o
theorem EOwn.drew (h : EOwn E w B A c L) : EOwn E w.drew B A c L := h
theorem EOwn.form (h : EOwn E w B A c L) : (A = none ∧ c = 0 ∧ L = []) ∨ ∃ g, A = some ⟨g, 0, none⟩ ∧ B ≤ g ∧ g < w.heap.size ∧ L.length ≤ c ∧ c ≤ maxLen ∧ ∃ cur, w.heap[g]? = some (.cells cur E.e (0, 0)) := by
  rcases h.2 with ⟨hv, h0⟩ | ⟨g, cap, cur, hv, hb, hg, hn, hm, _⟩
  · simp only [Value.slice.injEq] at hv
    exact .inl ⟨hv.1, hv.2.2, List.eq_nil_of_length_eq_zero h0⟩
  · simp only [Value.slice.injEq] at hv
    obtain ⟨rfl, _, rfl⟩ := hv
    exact .inr ⟨g, rfl, hb, (Array.getElem?_eq_some_iff.1 hg).1, hn, hm, cur, hg⟩
theorem EOwn.cap (h : EOwn E w B A c L) : L.length ≤ c := by
  rcases h.form with ⟨_, _, rfl⟩ | ⟨_, _, _, _, h, _⟩
  · simp
  · exact h
theorem EOwn.capMax (h : EOwn E w B A c L) : c ≤ maxLen := by
  rcases h.form with ⟨_, rfl, _⟩ | ⟨_, _, _, _, _, h, _⟩
  · simp
  · exact h
theorem EOwn.block (h : EOwn E w B A c L) : ∀ a, A = some a → B ≤ a.block ∧ a.block < w.heap.size := by
  intro a ha
  rcases h.form with ⟨rfl, _⟩ | ⟨g, rfl, h1, h2, _⟩
  · cases ha
  · obtain rfl := Option.some.inj ha
    exact ⟨h1, h2⟩
theorem EOwn.row (h : EOwn E w B A c L) : ERow E w A L := fun hl => by
  rcases h.form with ⟨_, _, rfl⟩ | ⟨g, rfl, _, hlt, _⟩
  · simp at hl
  · refine ⟨g, 0, rfl, hlt, fun j u hu => ?_⟩
    have := World.ownsRow.cells h (g := g) rfl j _ hu
    simpa [Addr.add_lit] using this
theorem EOwn.kept {row : Option Nat} (h : EOwn E w B A c L) (hg : w.grownBy w' row) (hne : A.map (·.block) = none ∨ A.map (·.block) ≠ row) : EOwn E w' B A c L :=
  World.ownsRow.kept h hg (by rw [own_block]; exact hne)
theorem EOwn.keep (h : EOwn E w B A c L) (hk : ∀ a, A = some a → w'.heap[a.block]? = w.heap[a.block]?) : EOwn E w' B A c L := by
  refine ⟨h.1, ?_⟩
  rcases h.2 with h2 | ⟨g, cap, cur, hv, hb, hg, r⟩
  · exact .inl h2
  · refine .inr ⟨g, cap, cur, hv, hb, ?_, r⟩
    simp only [Value.slice.injEq] at hv
    have := hk _ hv.1
    rw [this]; exact hg
theorem EOwn.below (h : EOwn E w B A c L) (hb : Below w.heap.size w w') : EOwn E w' B A c L := h.keep fun a ha => hb.block _ (h.block a ha).2
theorem EOwn.mono {B' : Nat} (h : EOwn E w B A c L) (hB : B' ≤ B) : EOwn E w B' A c L := by
  refine ⟨h.1, ?_⟩
  rcases h.2 with h2 | ⟨g, cap, cur, hv, hb, r⟩
  · exact .inl h2
  · exact .inr ⟨g, cap, cur, hv, by omega, r⟩
theorem EOwn.up {B' : Nat} (h : EOwn E w B A c L) (hB : ∀ a, A = some a → B' ≤ a.block) : EOwn E w B' A c L := by
  refine ⟨h.1, ?_⟩
  rcases h.2 with h2 | ⟨g, cap, cur, hv, hb, r⟩
  · exact .inl h2
  · refine .inr ⟨g, cap, cur, hv, ?_, r⟩
    simp only [Value.slice.injEq] at hv
    exact hB _ hv.1
theorem EOwn.new (w : World) (L : List α) (hm : L.length ≤ maxLen) (hB : B ≤ w.heap.size) (cs : Array Value) (hcs : cs.toList = E.cells L) : EOwn E (w.alloc (.cells cs E.e)) B (some ⟨w.heap.size, 0, none⟩) L.length L := by
  have := World.ownsRow_lit (e := E.e) (size := E.sz) w cs L.length hB hm (by rw [← Array.length_toList, hcs]; exact E.cells_length L)
  rw [hcs] at this
  exact this
theorem EOwn.below_grown (h : EOwn E w B A c L) (hg : w.grownBy w' (A.map (·.block))) (hB : B ≤ w.heap.size) : Below B w w' :=
  (Below.refl B w).grown hg hB fun k hk => by
    have := (World.ownsRow.lt h k (by rw [own_block]; exact hk)).1
    exact this
theorem EOwn.set (h : EOwn E w B A c L) (p : Addr) (hne : ∀ a, A = some a → a.block ≠ p.block) (u : Value) : EOwn E (w.setCell p u) B A c L :=
  h.keep fun a ha => heap_setCell_other w p a.block u (hne a ha)
theorem EOwn.cell {g : Nat} (h : EOwn E w B (some ⟨g, 0, none⟩) c L) {j k : Nat} (hj : j < L.length) {v : Value} (hv : (E.code L[j])[k]? = some v) : w.cell? ⟨g, j * E.sz + k, none⟩ = some v := by
  have hk : k < E.sz := by rw [← E.len L[j]]; exact (List.getElem?_eq_some_iff.1 hv).1
  rw [World.ownsRow.cellAt h (j * E.sz + k) (by have := Nat.mul_le_mul_right E.sz (show j + 1 ≤ L.length from hj); rw [Nat.succ_mul] at this; omega), E.cells_get L j k hj hk]
  exact hv
theorem EOwn.free {g : Nat} (h : EOwn E w B (some ⟨g, 0, none⟩) c L) (j : Nat) : w.frozen? ⟨g, j, none⟩ = false := World.ownsRow.frozenAt h j
/-- One cell of an element is stored. -/
theorem EOwn.store {g : Nat} (h : EOwn E w B (some ⟨g, 0, none⟩) c L) {j k : Nat} (hj : j < L.length) (hk : k < E.sz) (x : α) (v : Value) (hx : E.code x = (E.code L[j]).set k v) :
    EOwn E (w.setCell ⟨g, j * E.sz + k, none⟩ v) B (some ⟨g, 0, none⟩) c (L.set j x) := by
  have := (World.ownsRow.stored h (j * E.sz + k) v).1
  unfold EOwn
  rw [E.cells_set L j k hj x v hk hx, List.length_set]
  exact this

/-- Values stored behind each other. -/
def setFrom (xs : List Value) (i : Nat) : List Value → List Value
  | [] => xs
  | v :: vs => setFrom (xs.set i v) (i + 1) vs
def storeFrom (w : World) (g i : Nat) : List Value → World
  | [] => w
  | v :: vs => storeFrom (w.setCell ⟨g, i, none⟩ v) g (i + 1) vs
theorem setFrom_length : ∀ (vs : List Value) (xs : List Value) (i : Nat), (setFrom xs i vs).length = xs.length
  | [], _, _ => rfl
  | v :: vs, xs, i => by rw [setFrom, setFrom_length vs]; simp
theorem setFrom_get : ∀ (vs xs : List Value) (i k : Nat), i + vs.length ≤ xs.length → (setFrom xs i vs)[k]? = if i ≤ k ∧ k < i + vs.length then vs[k - i]? else xs[k]?
  | [], xs, i, k, _ => by rw [setFrom, if_neg (by simp)]
  | v :: vs, xs, i, k, h => by
    simp only [List.length_cons] at h
    rw [setFrom, setFrom_get vs (xs.set i v) (i + 1) k (by simp; omega)]
    by_cases hk : k = i
    · subst hk
      rw [if_neg (by omega), if_pos (by simp), List.getElem?_set_self (by omega)]
      simp
    · by_cases hr : i + 1 ≤ k ∧ k < i + 1 + vs.length
      · rw [if_pos hr, if_pos (by simp; omega)]
        obtain ⟨m, rfl⟩ : ∃ m, k = i + 1 + m := ⟨k - (i + 1), by omega⟩
        rw [show i + 1 + m - (i + 1) = m from by omega, show i + 1 + m - i = m + 1 from by omega]
        rfl
      · rw [if_neg hr, if_neg (by simp; omega), List.getElem?_set_ne (by omega)]
theorem Elem.cells_get' (L : List α) (k : Nat) (h : k < L.length * E.sz) : (E.cells L)[k]? = (E.code (L[k / E.sz]'(Nat.div_lt_of_lt_mul (by rw [Nat.mul_comm]; exact h))))[k % E.sz]? := by
  have hd : k / E.sz < L.length := Nat.div_lt_of_lt_mul (by rw [Nat.mul_comm]; exact h)
  have := E.cells_get L (k / E.sz) (k % E.sz) hd (Nat.mod_lt _ E.pos)
  rw [Nat.mul_comm, Nat.div_add_mod] at this
  exact this
theorem Elem.cells_setAll (L : List α) (j : Nat) (hj : j < L.length) (x : α) : E.cells (L.set j x) = setFrom (E.cells L) (j * E.sz) (E.code x) := by
  have hlen : j * E.sz + E.sz ≤ L.length * E.sz := by
    have := Nat.mul_le_mul_right E.sz (show j + 1 ≤ L.length from hj)
    rw [Nat.succ_mul] at this
    exact this
  apply List.ext_getElem?
  intro k
  rw [setFrom_get _ _ _ _ (by rw [E.len, E.cells_length]; exact hlen), E.len]
  by_cases hk : k < L.length * E.sz
  · have hd : k / E.sz < L.length := Nat.div_lt_of_lt_mul (by rw [Nat.mul_comm]; exact hk)
    rw [E.cells_get' _ k (by simpa using hk), E.cells_get' L k hk, List.getElem_set]
    have hdm := Nat.div_add_mod k E.sz
    have hml := Nat.mod_lt k E.pos
    by_cases he : j = k / E.sz
    · have hje : j * E.sz + k % E.sz = k := by rw [he, Nat.mul_comm]; exact hdm
      rw [if_pos he, if_pos ⟨by omega, by omega⟩, show k - j * E.sz = k % E.sz from by omega]
    · rw [if_neg he, if_neg]
      rintro ⟨h1, h2⟩
      refine he ?_
      symm
      rw [Nat.div_eq_iff E.pos]
      exact ⟨h1, by omega⟩
  · rw [List.getElem?_eq_none (by rw [E.cells_length]; simpa using hk), if_neg (by omega), List.getElem?_eq_none (by rw [E.cells_length]; omega)]
theorem owns_storeFrom {base : Nat} {e : TypeId} {size g n cap : Nat} : ∀ (vs : List Value) {xs : List Value} {w : World} (i : Nat), w.ownsRow base e size (.slice (some ⟨g, 0, none⟩) n cap) n xs →
    (storeFrom w g i vs).ownsRow base e size (.slice (some ⟨g, 0, none⟩) n cap) n (setFrom xs i vs)
  | [], _, _, _, h => h
  | v :: vs, _, _, i, h => owns_storeFrom vs (i + 1) (World.ownsRow.stored h i v).1
/-- A whole element is stored. -/
theorem EOwn.storeAll {g : Nat} (h : EOwn E w B (some ⟨g, 0, none⟩) c L) {j : Nat} (hj : j < L.length) (x : α) : EOwn E (storeFrom w g (j * E.sz) (E.code x)) B (some ⟨g, 0, none⟩) c (L.set j x) := by
  unfold EOwn
  rw [E.cells_setAll L j hj x, List.length_set]
  exact owns_storeFrom _ _ h
theorem storeFrom_other {g : Nat} : ∀ (vs : List Value) (w : World) (i k : Nat), k ≠ g → (storeFrom w g i vs).heap[k]? = w.heap[k]?
  | [], _, _, _, _ => rfl
  | v :: vs, w, i, k, h => (storeFrom_other vs _ (i + 1) k h).trans (heap_setCell_other w ⟨g, i, none⟩ k v h)
theorem below_storeFrom {B : Nat} {w0 : World} {g : Nat} (hg : B ≤ g) : ∀ (vs : List Value) {w : World} (i : Nat), Below B w0 w → Below B w0 (storeFrom w g i vs)
  | [], _, _, h => h
  | v :: vs, _, i, h => below_storeFrom hg vs (i + 1) (h.setCell (p := ⟨g, i, none⟩) hg v)

/-- append(row, row...) -/
theorem run_append_elems {A' : Option Addr} {c' : Nat} (ty : TypeId) (ho : EOwn E w B A c L) (hr : ERow E w A' M) (hb : L.length + M.length ≤ 1073741824) (hB : B ≤ w.heap.size) :
    ∃ A1 c1 w1, (Builtin.append_ #[E.t, E.t] ty #[.slice A L.length c, .slice A' M.length c']).run Tryz.prog w = .ok (.slice A1 (L.length + M.length) c1) w1 ∧ EOwn E w1 B A1 c1 (L ++ M) ∧
      w.grownBy w1 (A.map (·.block)) ∧ (A1.map (·.block) = A.map (·.block) ∨ A1.map (·.block) = some w.heap.size) := by
  obtain ⟨i, hi, hz, hsi, hby⟩ := info_parts E.info
  rcases A' with _ | ad
  · have hm : M = [] := by
      cases M with
      | nil => rfl
      | cons x M => obtain ⟨b, o, h, _⟩ := hr (by simp); cases h
    subst hm
    refine ⟨A, c, w, ?_, by simpa using ho, World.grownBy.refl w _, .inl rfl⟩
    exact run_append_of_none (P := Tryz.prog) w B E.t ty E.e i E.sz E.under hi _ _ _ ho c'
  · have hcells : ∀ j u, (E.cells M)[j]? = some u → w.cell? (ad.add j) = some u := by
      intro j u hu
      have hj := (List.getElem?_eq_some_iff.1 hu).1
      rw [E.cells_length] at hj
      obtain ⟨b, o, h, _, hc⟩ := hr (by
        rcases Nat.eq_zero_or_pos M.length with h0 | h0
        · rw [h0] at hj; simp at hj
        · exact h0)
      obtain rfl := Option.some.inj h
      rw [Addr.add_lit]
      exact hc j u hu
    have hbig : (L.length + M.length) * E.bytes ≤ 140737488355328 := by
      have h1 := Nat.mul_le_mul hb E.few
      omega
    obtain ⟨v', w', hrun, h2, h3, _, h5⟩ := run_append_own_at (P := Tryz.prog) w B E.t ty E.e i E.zero E.sz E.bytes E.under hi hz hsi hby E.zsz E.pos _ _ _ ho ad M.length c' (E.cells M)
      (E.cells_length M) hcells (E.cells_one M) (by simp [maxLen]; omega) hbig hB
    obtain ⟨A1, c1, rfl⟩ := own_slice h2
    refine ⟨A1, c1, w', hrun, ?_, by simpa [own_block] using h3, by simpa [own_block] using h5⟩
    unfold EOwn
    rw [E.cells_append, List.length_append]
    exact h2

theorem wpList_append_elems (E : Elem α) {w : World} {B c : Nat} {A A' : Option Addr} {L M : List α} {c' : Nat} {ops : Array Oper} {rest : List Oper} {o : Oper} {a : Act} {Q : Exit → Act → World → Prop} (hgd : o.guard = none) (s x : Operand)
    (hop : o.op = .call { callee := .builtin .append, args := #[s, x], argTypes := #[E.t, E.t] })
    (n : Nat) (hs : a.eval s = .slice A n c) (ho : EOwn E w B A c L) (hn : n = L.length) (k : Nat) (hx : a.eval x = .slice A' k c') (hr : ERow E w A' M) (hk : k = M.length)
    (hb : L.length + M.length ≤ 1073741824) (hB : B ≤ w.heap.size)
    (h : ∀ A1 c1 w1, EOwn E w1 B A1 c1 (L ++ M) → Below B w w1 → w.grownBy w1 (A.map (·.block)) → (A1.map (·.block) = A.map (·.block) ∨ A1.map (·.block) = some w.heap.size) →
      wpList Tryz.prog ops Q rest (a.put o.dst (.slice A1 (L.length + M.length) c1)) w1) : wpList Tryz.prog ops Q (o :: rest) a w := by
  subst hn hk
  obtain ⟨A1, c1, w1, hrun, h2, h3, h4⟩ := run_append_elems (c' := c') o.type ho hr hb hB
  refine Lib.wpList_append_run w hgd s x _ _ hop _ _ hs hx _ _ hrun ?_
  exact h A1 c1 w1 h2 (ho.below_grown h3 hB) h3 h4

/-- One new element, of a literal's own block. -/
theorem ERow.lit (E : Elem α) (w : World) (x : α) (cs : Array Value) (hcs : cs.toList = E.code x) (g : Nat) (hg : g = w.heap.size) : ERow E (w.alloc (.cells cs E.e)) (some ⟨g, 0, none⟩) [x] := by
  subst hg
  exact (EOwn.new (B := 0) w [x] (by simp [maxLen]) (Nat.zero_le _) cs (by simp [Elem.cells, hcs])).row
end

end Go.Proofs.YtjdffhonljhpcaaGreat
end

section
/-
  Blocks of known cells: what is known of new ones, of one cell, of a store.
-/
namespace Go.Proofs.YtjdffhonljhpcaaGreat
set_option linter.unusedSimpArgs false
set_option linter.unusedVariables false
open Go.RowKit

/-- Block g has just these cells, none frozen. -/
def Blk (w : World) (g : Nat) (t : TypeId) (cs : List Value) : Prop := w.heap[g]? = some (.cells cs.toArray t (0, 0))
section
variable {w w' : World} {g : Nat} {t : TypeId} {cs : List Value}
theorem Blk.lt (h : Blk w g t cs) : g < w.heap.size := (Array.getElem?_eq_some_iff.1 h).1
theorem Blk.below (h : Blk w g t cs) (hb : Below w.heap.size w w') : Blk w' g t cs := (hb.block _ h.lt).trans h
theorem Blk.grown {row : Option Nat} (h : Blk w g t cs) (hb : w.grownBy w' row) (hne : some g ≠ row) : Blk w' g t cs := (hb.block _ h.lt hne).trans h
theorem Blk.cell (h : Blk w g t cs) (i : Nat) : w.cell? ⟨g, i, none⟩ = cs[i]? := by
  have := cell_of_row w g i _ _ _ h
  simpa using this
theorem Blk.free (h : Blk w g t cs) (i : Nat) : w.frozen? ⟨g, i, none⟩ = false := frozen_of_row w _ i _ _ h
theorem Blk.set (h : Blk w g t cs) (i : Nat) (u : Value) : Blk (w.setCell ⟨g, i, none⟩ u) g t (cs.set i u) := by
  have := heap_setCell_same w g i cs.toArray t u h
  simpa [Blk] using this
theorem Blk.other (h : Blk w g t cs) (p : Addr) (hne : g ≠ p.block) (u : Value) : Blk (w.setCell p u) g t cs := (heap_setCell_other w p g u hne).trans h
theorem Blk.alloc (h : Blk w g t cs) (o : Obj) : Blk (w.alloc o) g t cs := h.below ((Below.refl _ _).alloc (Nat.le_refl _) o)
theorem Blk.new (w : World) (cs : Array Value) (t : TypeId) : Blk (w.alloc (.cells cs t)) w.heap.size t cs.toList := by
  show (w.heap.push _)[w.heap.size]? = _
  rw [Array.getElem?_push_size]
theorem Blk.drew (h : Blk w g t cs) : Blk w.drew g t cs := h
/-- One block of one, two .. cells: all that a walk asks of it. -/
theorem Blk.c1 {a : Value} (h : Blk w g t [a]) : w.cell? ⟨g, 0, none⟩ = some a ∧ w.frozen? ⟨g, 0, none⟩ = false ∧ g < w.heap.size := ⟨h.cell 0, h.free 0, h.lt⟩
theorem Blk.c2 {a b : Value} (h : Blk w g t [a, b]) : w.cell? ⟨g, 0, none⟩ = some a ∧ w.cell? ⟨g, 1, none⟩ = some b ∧ w.frozen? ⟨g, 0, none⟩ = false ∧ w.frozen? ⟨g, 1, none⟩ = false ∧ g < w.heap.size :=
  ⟨h.cell 0, h.cell 1, h.free 0, h.free 1, h.lt⟩
theorem Blk.c3 {a b c : Value} (h : Blk w g t [a, b, c]) : w.cell? ⟨g, 0, none⟩ = some a ∧ w.cell? ⟨g, 1, none⟩ = some b ∧ w.cell? ⟨g, 2, none⟩ = some c ∧ w.frozen? ⟨g, 0, none⟩ = false ∧ w.frozen? ⟨g, 1, none⟩ = false ∧ w.frozen? ⟨g, 2, none⟩ = false ∧ g < w.heap.size :=
  ⟨h.cell 0, h.cell 1, h.cell 2, h.free 0, h.free 1, h.free 2, h.lt⟩
theorem Blk.c4 {a b c d : Value} (h : Blk w g t [a, b, c, d]) : w.cell? ⟨g, 0, none⟩ = some a ∧ w.cell? ⟨g, 1, none⟩ = some b ∧ w.cell? ⟨g, 2, none⟩ = some c ∧ w.cell? ⟨g, 3, none⟩ = some d ∧
    w.frozen? ⟨g, 0, none⟩ = false ∧ w.frozen? ⟨g, 1, none⟩ = false ∧ w.frozen? ⟨g, 2, none⟩ = false ∧ w.frozen? ⟨g, 3, none⟩ = false ∧ g < w.heap.size :=
  ⟨h.cell 0, h.cell 1, h.cell 2, h.cell 3, h.free 0, h.free 1, h.free 2, h.free 3, h.lt⟩
theorem Blk.c5 {a b c d e : Value} (h : Blk w g t [a, b, c, d, e]) : w.cell? ⟨g, 0, none⟩ = some a ∧ w.cell? ⟨g, 1, none⟩ = some b ∧ w.cell? ⟨g, 2, none⟩ = some c ∧ w.cell? ⟨g, 3, none⟩ = some d ∧ w.cell? ⟨g, 4, none⟩ = some e ∧
    w.frozen? ⟨g, 0, none⟩ = false ∧ w.frozen? ⟨g, 1, none⟩ = false ∧ w.frozen? ⟨g, 2, none⟩ = false ∧ w.frozen? ⟨g, 3, none⟩ = false ∧ w.frozen? ⟨g, 4, none⟩ = false ∧ g < w.heap.size :=
  ⟨h.cell 0, h.cell 1, h.cell 2, h.cell 3, h.cell 4, h.free 0, h.free 1, h.free 2, h.free 3, h.free 4, h.lt⟩

theorem Blk.set0 {a u : Value} {r : List Value} (h : Blk w g t (a :: r)) : Blk (w.setCell ⟨g, 0, none⟩ u) g t (u :: r) := h.set 0 u
theorem Blk.set1 {a b u : Value} {r : List Value} (h : Blk w g t (a :: b :: r)) : Blk (w.setCell ⟨g, 1, none⟩ u) g t (a :: u :: r) := h.set 1 u
theorem Blk.set2 {a b c u : Value} {r : List Value} (h : Blk w g t (a :: b :: c :: r)) : Blk (w.setCell ⟨g, 2, none⟩ u) g t (a :: b :: u :: r) := h.set 2 u
theorem Blk.set3 {a b c d u : Value} {r : List Value} (h : Blk w g t (a :: b :: c :: d :: r)) : Blk (w.setCell ⟨g, 3, none⟩ u) g t (a :: b :: c :: u :: r) := h.set 3 u
theorem Blk.all2 {a b u v : Value} (h : Blk w g t [a, b]) : Blk ((w.setCell ⟨g, 0, none⟩ u).setCell ⟨g, 1, none⟩ v) g t [u, v] := h.set0.set1
theorem Blk.all3 {a b c u v x : Value} (h : Blk w g t [a, b, c]) : Blk (((w.setCell ⟨g, 0, none⟩ u).setCell ⟨g, 1, none⟩ v).setCell ⟨g, 2, none⟩ x) g t [u, v, x] := h.set0.set1.set2
theorem Blk.all4 {a b c d u v x y : Value} (h : Blk w g t [a, b, c, d]) : Blk ((((w.setCell ⟨g, 0, none⟩ u).setCell ⟨g, 1, none⟩ v).setCell ⟨g, 2, none⟩ x).setCell ⟨g, 3, none⟩ y) g t [u, v, x, y] := h.set0.set1.set2.set3
end

/-- Returns of functions whose first result lies in memory. -/
theorem ret_mem1 {P : Program} {fn : Func} {R : Ending → World → Prop} {a : Act} {w : World} {p : Tmp} {T : TypeId} {x : Addr} {v : Value} (h : fn.results = #[.cell p T]) (hd : a.defers = [])
    (hp : a.tmps.getD p undef = .pointer (some x)) (hv : (loadVar T x).run P w = .ok v w) (hR : R (.returned v) w) : bodyPost P fn R .ret a w := by
  refine bodyPost_ret (v := v) ?_ hd hR
  have e : (results fn a.tmps).run P w = ((asAddr (a.tmps.getD p undef)).run P w).andThen fun b w1 => (loadVar T b).run P w1 := by
    simp only [results, h]
    simp [Sem.run_bind]
  rw [e, hp]
  show ((loadVar T x).run P w) = _
  exact hv
theorem ret_mem2 {P : Program} {fn : Func} {R : Ending → World → Prop} {a : Act} {w : World} {p u : Tmp} {T : TypeId} {x : Addr} {v y : Value} (h : fn.results = #[.cell p T, .tmp u]) (hd : a.defers = [])
    (hp : a.tmps.getD p undef = .pointer (some x)) (hu : a.tmps.getD u undef = y) (hv : (loadVar T x).run P w = .ok v w) (hR : R (.returned (.tuple #[v, y])) w) : bodyPost P fn R .ret a w := by
  refine bodyPost_ret (v := .tuple #[v, y]) ?_ hd hR
  have e : (results fn a.tmps).run P w = ((asAddr (a.tmps.getD p undef)).run P w).andThen fun b w1 => ((loadVar T b).run P w1).andThen fun v w2 => .ok (.tuple #[v, a.tmps.getD u undef]) w2 := by
    simp only [results, h]
    simp [Sem.run_bind, Result.andThen]
  rw [e, hp, hu]
  show (((loadVar T x).run P w).andThen _) = _
  rw [hv]
  rfl
theorem ret_mem3 {P : Program} {fn : Func} {R : Ending → World → Prop} {a : Act} {w : World} {p u u' : Tmp} {T : TypeId} {x : Addr} {v y y' : Value} (h : fn.results = #[.cell p T, .tmp u, .tmp u']) (hd : a.defers = [])
    (hp : a.tmps.getD p undef = .pointer (some x)) (hu : a.tmps.getD u undef = y) (hu' : a.tmps.getD u' undef = y') (hv : (loadVar T x).run P w = .ok v w) (hR : R (.returned (.tuple #[v, y, y'])) w) : bodyPost P fn R .ret a w := by
  refine bodyPost_ret (v := .tuple #[v, y, y']) ?_ hd hR
  have e : (results fn a.tmps).run P w = ((asAddr (a.tmps.getD p undef)).run P w).andThen fun b w1 => ((loadVar T b).run P w1).andThen fun v w2 => .ok (.tuple #[v, a.tmps.getD u undef, a.tmps.getD u' undef]) w2 := by
    simp only [results, h]
    simp [Sem.run_bind, Result.andThen]
  rw [e, hp, hu, hu']
  show (((loadVar T x).run P w).andThen _) = _
  rw [hv]
  rfl

/-- New blocks, behind each other. -/
theorem fresh1 {w W : World} {a : List Value} {t : TypeId} (h : w.alloc (.cells a.toArray t) = W) : Blk W w.heap.size t a ∧ w.heap.size + 1 ≤ W.heap.size ∧ Below w.heap.size w W := by
  subst h
  exact ⟨Blk.new _ _ _, by simp, (Below.refl _ _).alloc (Nat.le_refl _) _⟩
theorem fresh2 {w W : World} {a b : List Value} {t u : TypeId} (h : (w.alloc (.cells a.toArray t)).alloc (.cells b.toArray u) = W) : Blk W w.heap.size t a ∧ Blk W (w.heap.size + 1) u b ∧ w.heap.size + 2 ≤ W.heap.size ∧ Below w.heap.size w W := by
  have h2 : (w.alloc (.cells a.toArray t)).heap.size = w.heap.size + 1 := by simp
  obtain ⟨h1, _, h3⟩ := fresh1 (rfl : w.alloc (.cells a.toArray t) = _)
  obtain ⟨k1, k2, k3⟩ := fresh1 h
  rw [h2] at k1
  exact ⟨h1.below k3, k1, by omega, h3.trans (k3.mono (by omega))⟩
theorem fresh3 {w W : World} {a b c : List Value} {t u v : TypeId} (h : ((w.alloc (.cells a.toArray t)).alloc (.cells b.toArray u)).alloc (.cells c.toArray v) = W) : Blk W w.heap.size t a ∧ Blk W (w.heap.size + 1) u b ∧ Blk W (w.heap.size + 1 + 1) v c ∧
    w.heap.size + 3 ≤ W.heap.size ∧ Below w.heap.size w W := by
  have h3 : ((w.alloc (.cells a.toArray t)).alloc (.cells b.toArray u)).heap.size = w.heap.size + 1 + 1 := by simp
  obtain ⟨h1, h2, _, h4⟩ := fresh2 (rfl : (w.alloc (.cells a.toArray t)).alloc (.cells b.toArray u) = _)
  obtain ⟨k1, k2, k3⟩ := fresh1 h
  rw [h3] at k1
  exact ⟨h1.below k3, h2.below k3, k1, by omega, h4.trans (k3.mono (by omega))⟩
theorem fresh4 {w W : World} {a b c d : List Value} {t u v x : TypeId} (h : (((w.alloc (.cells a.toArray t)).alloc (.cells b.toArray u)).alloc (.cells c.toArray v)).alloc (.cells d.toArray x) = W) : Blk W w.heap.size t a ∧ Blk W (w.heap.size + 1) u b ∧ Blk W (w.heap.size + 1 + 1) v c ∧ Blk W (w.heap.size + 1 + 1 + 1) x d ∧
    w.heap.size + 4 ≤ W.heap.size ∧ Below w.heap.size w W := by
  have h4 : (((w.alloc (.cells a.toArray t)).alloc (.cells b.toArray u)).alloc (.cells c.toArray v)).heap.size = w.heap.size + 1 + 1 + 1 := by simp
  obtain ⟨h1, h2, h3, _, h5⟩ := fresh3 (rfl : ((w.alloc (.cells a.toArray t)).alloc (.cells b.toArray u)).alloc (.cells c.toArray v) = _)
  obtain ⟨k1, k2, k3⟩ := fresh1 h
  rw [h4] at k1
  exact ⟨h1.below k3, h2.below k3, h3.below k3, k1, by omega, h5.trans (k3.mono (by omega))⟩
/-- An owned row in a literal's block. -/
theorem Blk.own {α : Type} (E : Elem α) {w : World} {g B : Nat} {cs : List Value} (h : Blk w g E.e cs) (L : List α) (hcs : cs = E.cells L) (hL : L.length ≤ maxLen) (hB : B ≤ g) : EOwn E w B (some ⟨g, 0, none⟩) L.length L := by
  subst hcs
  have hl := E.cells_length L
  exact ⟨hl, .inr ⟨g, L.length, _, rfl, hB, h, Nat.le_refl _, hL, by simpa using hl, by rw [List.take_of_length_le (by simp [hl])]⟩⟩
theorem Blk.row {α : Type} (E : Elem α) {w : World} {g : Nat} {cs : List Value} (h : Blk w g E.e cs) (L : List α) (hcs : cs = E.cells L) (hL : L.length ≤ maxLen) : ERow E w (some ⟨g, 0, none⟩) L := (h.own E (B := 0) L hcs hL (Nat.zero_le _)).row
end Go.Proofs.YtjdffhonljhpcaaGreat
end

section
/-
  A rule for a region that draws its order: whatever order is drawn, each operation is carried out once, behind those that it waits for.
  The prover says of each operation what its value is good for (R), what the world keeps (Inv), and how the world may turn from operation to operation (Grow).
-/
namespace Go.Proofs.YtjdffhonljhpcaaGreat
set_option linter.unusedSimpArgs false
set_option linter.unusedVariables false
open Go

/-- The frame in which operation number i of a region has the value v i. -/
def regFrame (ops : List Oper) (v : Nat → Value) (a : Act) : Act :=
  (ops.zipIdx.foldl (fun a (p : Oper × Nat) => a.put p.1.dst (v p.2)) a)

/-- The slot that an operation writes, as the frame has it. -/
def slotOf (a : Act) (d : Option Tmp) : Value := match d with | some t => a.tmps.getD t undef | none => undef

theorem put_self (a : Act) (d : Option Tmp) : a.put d (slotOf a d) = a := by
  cases d with
  | none => rfl
  | some t =>
    unfold Act.put slotOf
    simp only
    congr 1
    apply Array.ext
    · simp
    · intro i h1 h2
      by_cases h : t = i
      · subst h; simp [h2]
      · rw [Array.getElem_setIfInBounds_ne h2 h]

theorem put_put (a : Act) (d : Option Tmp) (u v : Value) : (a.put d u).put d v = a.put d v := by
  cases d with
  | none => rfl
  | some t =>
    unfold Act.put
    simp

/-- No slot is written twice. -/
def onceB (l : List Oper) : Bool := match l with
  | [] => true
  | o :: l => (match o.dst with | none => true | some d => l.all fun p => p.dst != some d) && onceB l
/-- Each waits for earlier ones alone. -/
def lowerB (l : List Oper) : Bool := l.zipIdx.all fun p => p.1.after.all fun e => !Region.binds .any e || decide (e.on < p.2)

theorem regFrame_go_put (d : Option Tmp) (u : Value) : ∀ (l : List Oper) (k : Nat) (v : Nat → Value) (a : Act), (∀ o ∈ l, ∀ t, d = some t → o.dst ≠ some t) →
    (l.zipIdx k).foldl (fun a (p : Oper × Nat) => a.put p.1.dst (v p.2)) (a.put d u) = ((l.zipIdx k).foldl (fun a (p : Oper × Nat) => a.put p.1.dst (v p.2)) a).put d u := by
  intro l
  induction l with
  | nil => intros; rfl
  | cons o l ih =>
    intro k v a h
    simp only [List.zipIdx_cons, List.foldl_cons]
    rw [Act.put_comm a u (v k) (fun t ht => h o (by simp) t ht), ih (k + 1) v _ (fun o' ho' => h o' (by simp [ho']))]

theorem regFrame_go_congr : ∀ (l : List Oper) (k : Nat) (v v' : Nat → Value) (a : Act), (∀ i, k ≤ i → i < k + l.length → v i = v' i) →
    (l.zipIdx k).foldl (fun a (p : Oper × Nat) => a.put p.1.dst (v p.2)) a = (l.zipIdx k).foldl (fun a (p : Oper × Nat) => a.put p.1.dst (v' p.2)) a := by
  intro l
  induction l with
  | nil => intros; rfl
  | cons o l ih =>
    intro k v v' a h
    simp only [List.zipIdx_cons, List.foldl_cons]
    rw [h k (by omega) (by simp), ih (k + 1) v v' _ (fun i h1 h2 => h i (by omega) (by simp; omega))]

theorem regFrame_go_upd : ∀ (l : List Oper) (k : Nat) (v : Nat → Value) (a : Act) (i : Nat) (o : Oper) (u : Value), onceB l = true → l[i]? = some o →
    (l.zipIdx k).foldl (fun a (p : Oper × Nat) => a.put p.1.dst ((fun j => if j = k + i then u else v j) p.2)) a =
      ((l.zipIdx k).foldl (fun a (p : Oper × Nat) => a.put p.1.dst (v p.2)) a).put o.dst u := by
  intro l
  induction l with
  | nil => intro k v a i o u _ h; simp at h
  | cons p l ih =>
    intro k v a i o u ho hi
    simp only [onceB, Bool.and_eq_true] at ho
    simp only [List.zipIdx_cons, List.foldl_cons]
    cases i with
    | zero =>
      simp only [List.getElem?_cons_zero, Option.some.injEq] at hi
      subst hi
      have hne : ∀ q ∈ l, ∀ t, p.dst = some t → q.dst ≠ some t := by
        intro q hq t ht
        have h1 := ho.1
        rw [ht] at h1
        simpa using List.all_eq_true.1 h1 q hq
      rw [← regFrame_go_put p.dst u l (k + 1) v _ hne, put_put]
      simp only [Nat.add_zero, if_true]
      exact regFrame_go_congr l (k + 1) (fun j => if j = k then u else v j) v _ (fun j h1 _ => if_neg (by omega))
    | succ i =>
      rw [if_neg (by omega)]
      have := ih (k + 1) v (a.put p.dst (v k)) i o u ho.2 (by simpa using hi)
      rw [← this]
      refine regFrame_go_congr l (k + 1) (fun j => if j = k + (i + 1) then u else v j) (fun j => if j = k + 1 + i then u else v j) _ (fun j _ _ => ?_)
      simp only [show k + (i + 1) = k + 1 + i from by omega]

theorem regFrame_upd (l : List Oper) (v : Nat → Value) (a : Act) (i : Nat) (o : Oper) (u : Value) (ho : onceB l = true) (hi : l[i]? = some o) :
    regFrame l (fun j => if j = i then u else v j) a = (regFrame l v a).put o.dst u := by
  have := regFrame_go_upd l 0 v a i o u ho hi
  simpa [regFrame] using this

theorem regFrame_start : ∀ (l : List Oper) (k : Nat) (a : Act) (v : Nat → Value), onceB l = true → (∀ i o, l[i]? = some o → v (k + i) = slotOf a o.dst) →
    (l.zipIdx k).foldl (fun a (p : Oper × Nat) => a.put p.1.dst (v p.2)) a = a := by
  intro l
  induction l with
  | nil => intros; rfl
  | cons p l ih =>
    intro k a v ho hv
    simp only [onceB, Bool.and_eq_true] at ho
    simp only [List.zipIdx_cons, List.foldl_cons]
    have h0 := hv 0 p (by simp)
    simp only [Nat.add_zero] at h0
    rw [h0, put_self]
    refine ih (k + 1) a v ho.2 fun i o hi => ?_
    have := hv (i + 1) o (by simpa using hi)
    rwa [show k + (i + 1) = k + 1 + i from by omega] at this

theorem filter_set : ∀ (L : List Bool) (i : Nat), L[i]? = some false → ((L.set i true).filter (· == false)).length + 1 ≤ (L.filter (· == false)).length
  | [], i, h => by simp at h
  | b :: L, 0, h => by
    simp at h
    subst h
    simp
  | b :: L, i + 1, h => by
    have := filter_set L i (by simpa using h)
    cases b <;> simp at this ⊢ <;> omega

section
variable {P : Program} {Q : Exit → Act → World → Prop}

/-- What is asked of operation i: run in the frame 'a' and the world 'w' it comes to a value and a world of which 'T' holds. -/
def opDoes (P : Program) (ops : List Oper) (o : Oper) (Q : Exit → Act → World → Prop) (a : Act) (w : World) (T : Value → World → Prop) : Prop :=
  ∀ K : Act → World → Prop, (∀ x w', T x w' → K (a.put o.dst x) w') →
    if Region.wanted o (yielded ops.toArray a.tmps) then o.wp P a w K Q else K (a.put o.dst undef) w

theorem wp_region_rel0 {id : Nat} {l : List Oper} {a : Act} {w : World} (hm : P.follows .mixedOrders = true) (honce : onceB l = true) (hlow : lowerB l = true)
    (Inv : World → Prop) (Grow : World → World → Prop) (R : Nat → Value → World → Prop)
    (hInv : ∀ w w', Inv w → Grow w w' → Inv w') (hR : ∀ i x w w', Inv w → Grow w w' → R i x w → R i x w')
    (h0 : Inv w.drew)
    (hstep : ∀ i o, l[i]? = some o → ∀ v w', Inv w' →
      (∀ e ∈ o.after, Region.binds .any e = true → R e.on (v e.on) w') →
      (∀ j o', l[j]? = some o' → (∃ e ∈ o'.after, Region.binds .any e = true ∧ e.on = i) → v j = slotOf a o'.dst) →
      opDoes P l o Q (regFrame l v a) w' fun x w'' => Grow w' w'' ∧ R i x w'')
    (hend : ∀ v w', Inv w' → (∀ i, i < l.length → R i (v i) w') → Q .normal (regFrame l v a) w') :
    (Code.region id l.toArray true).wp P Q a w := by
  refine wp_region_any hm ?_
  have hlt : ∀ j o, l[j]? = some o → ∀ e ∈ o.after, Region.binds .any e = true → e.on < j := by
    intro j o hj e he hb
    have h1 : (o, j) ∈ l.zipIdx := by
      rw [List.mem_zipIdx_iff_getElem?]; exact hj
    have h2 := List.all_eq_true.1 hlow (o, j) h1
    have h3 := Array.all_eq_true_iff_forall_mem.1 h2 e he
    simpa [hb] using h3
  -- the state between two operations
  have key : ∀ (fuel : Nat) (listed : Array Bool) (v : Nat → Value) (w' : World), listed.size = l.length → Inv w' →
      (∀ i, listed.getD i false = true → R i (v i) w') → (∀ i o, l[i]? = some o → listed.getD i false = false → v i = slotOf a o.dst) →
      (∀ j o, l[j]? = some o → listed.getD j false = true → ∀ e ∈ o.after, Region.binds .any e = true → listed.getD e.on false = true) →
      (listed.toList.filter (· == false)).length ≤ fuel →
      wpAny P .any l.toArray Q fuel listed (regFrame l v a) w' := by
    have hdone : ∀ (listed : Array Bool), listed.size = l.length → Region.ready .any l.toArray listed = [] → ∀ i, i < l.length → listed.getD i false = true := by
      intro listed hs hr i
      induction i using Nat.strongRecOn with
      | _ i ih =>
        intro hi
        have hs' : i < listed.size := by omega
        cases hg : listed.getD i false with
        | true => rfl
        | false =>
          exfalso
          have : i ∈ Region.ready .any l.toArray listed := by
            rw [mem_ready]
            refine ⟨?_, l[i], by simp [hi], fun e he hb => ?_⟩
            · simp only [Array.getD_eq_getD_getElem?, Array.getElem?_eq_getElem hs'] at hg ⊢
              simpa using hg
            · have h1 := hlt i l[i] (List.getElem?_eq_getElem hi) e he hb
              exact ih e.on h1 (by omega)
          rw [hr] at this
          cases this
    intro fuel
    induction fuel with
    | zero =>
      intro listed v w' hs hI hR1 hV hC hf
      have hall : ∀ i, i < l.length → listed.getD i false = true := by
        intro i hi
        have hs' : i < listed.size := by omega
        cases hg : listed.getD i false with
        | true => rfl
        | false =>
          exfalso
          have h1 : listed[i] = false := by simpa [Array.getD_eq_getD_getElem?, Array.getElem?_eq_getElem hs'] using hg
          have h2 : false ∈ listed.toList.filter (· == false) := by
            rw [List.mem_filter]
            exact ⟨by rw [← h1]; simp, rfl⟩
          have := List.length_pos_of_mem h2
          omega
      refine ⟨?_, hend v w' hI fun i hi => hR1 i (hall i hi)⟩
      have : ∀ j, j ∉ Region.ready .any l.toArray listed := by
        intro j hj
        rw [mem_ready] at hj
        obtain ⟨h1, o, ho, _⟩ := hj
        have hjl : j < l.length := by
          have := (Array.getElem?_eq_some_iff.1 ho).1
          simpa using this
        have h2 := hall j hjl
        have hs' : j < listed.size := by omega
        simp only [Array.getD_eq_getD_getElem?, Array.getElem?_eq_getElem hs', Option.getD_some] at h1 h2
        rw [h1] at h2
        cases h2
      exact List.eq_nil_iff_forall_not_mem.2 this
    | succ fuel ih =>
      intro listed v w' hs hI hR1 hV hC hf
      refine ⟨fun hr => hend v w' hI fun i hi => hR1 i (hdone listed hs hr i hi), fun i hi => ?_⟩
      rw [mem_ready] at hi
      obtain ⟨h1, o, ho, hall⟩ := hi
      have hil : i < l.length := by
        have := (Array.getElem?_eq_some_iff.1 ho).1
        simpa using this
      have hol : l[i]? = some o := by simpa using ho
      have hs' : i < listed.size := by omega
      have hif : listed.getD i false = false := by
        simp only [Array.getD_eq_getD_getElem?, Array.getElem?_eq_getElem hs', Option.getD_some] at h1 ⊢
        exact h1
      have hst := hstep i o hol v w' hI (fun e he hb => hR1 e.on (hall e he hb)) (by
        rintro j o' hj ⟨e, he, hb, rfl⟩
        refine hV j o' hj ?_
        cases hg : listed.getD j false with
        | false => rfl
        | true =>
          have := hC j o' hj hg e he hb
          rw [hif] at this
          cases this)
      have hK : ∀ x w'', Grow w' w'' ∧ R i x w'' → wpAny P .any l.toArray Q fuel (listed.setIfInBounds i true) ((regFrame l v a).put o.dst x) w'' := by
        rintro x w'' ⟨hg, hr⟩
        rw [← regFrame_upd l v a i o x honce hol]
        have hgd : ∀ j, (listed.setIfInBounds i true).getD j false = if j = i then true else listed.getD j false := by
          intro j
          by_cases hji : j = i
          · subst hji; simp [Array.getD_eq_getD_getElem?, hs']
          · rw [if_neg hji]; simp [Array.getD_eq_getD_getElem?, Array.getElem?_setIfInBounds_ne (Ne.symm hji)]
        refine ih _ _ w'' (by simpa using hs) (hInv w' w'' hI hg) ?_ ?_ ?_ ?_
        · intro j hj
          rw [hgd] at hj
          by_cases hji : j = i
          · subst hji; simpa using hr
          · simp only [if_neg hji] at hj ⊢
            exact hR j _ _ _ hI hg (hR1 j hj)
        · intro j o' hj hjf
          rw [hgd] at hjf
          by_cases hji : j = i
          · simp [hji] at hjf
          · simp only [if_neg hji] at hjf ⊢
            exact hV j o' hj hjf
        · intro j o' hj hjt e he hb
          rw [hgd] at hjt ⊢
          by_cases hei : e.on = i
          · simp [hei]
          · rw [if_neg hei]
            by_cases hji : j = i
            · subst hji
              have : o' = o := by rw [hj] at hol; exact Option.some.inj hol
              subst this
              exact hall e he hb
            · rw [if_neg hji] at hjt
              exact hC j o' hj hjt e he hb
        · have hlen : ((listed.setIfInBounds i true).toList.filter (· == false)).length + 1 ≤ (listed.toList.filter (· == false)).length := by
            rw [Array.toList_setIfInBounds]
            have hx : listed.toList[i]? = some false := by
              have := h1
              simp only [Array.getD_eq_getD_getElem?, Array.getElem?_eq_getElem hs', Option.getD_some] at this
              simp [hs', this]
            exact filter_set _ i hx
          omega
      unfold wpOp
      rw [ho]
      have h2 := hst _ hK
      simp only
      split
      · rename_i hw
        rw [if_pos hw] at h2
        exact .inl h2
      · rename_i hw
        rw [if_neg hw] at h2
        exact h2
  have hst : regFrame l (fun i => slotOf a ((l[i]?).bind (·.dst))) a = a := by
    unfold regFrame
    refine regFrame_start l 0 a (fun i => slotOf a ((l[i]?).bind (·.dst))) honce fun i o hi => ?_
    simp [hi]
  have := key l.length (Array.replicate l.length false) (fun i => slotOf a ((l[i]?).bind (·.dst))) w.drew (by simp) h0 (by
    intro i hi
    simp [Array.getD_eq_getD_getElem?, Array.getElem?_replicate] at hi
    split at hi <;> simp at hi) (by
    intro i o hi _
    simp [hi]) (by
    intro j o _ hj
    simp [Array.getD_eq_getD_getElem?, Array.getElem?_replicate] at hj
    split at hj <;> simp at hj) (by simp)
  rw [hst] at this
  simpa using this

/-- Of each operation of a list, in turn. -/
def AllOps (F : Nat → Oper → Prop) : List Oper → Nat → Prop
  | [], _ => True
  | o :: l, k => F k o ∧ AllOps F l (k + 1)
/-- Of each operation that is waited for. -/
def Deps (F : Nat → Prop) : List Edge → Prop
  | [] => True
  | e :: l => (if Region.binds .any e then F e.on else True) ∧ Deps F l
theorem AllOps.get {F : Nat → Oper → Prop} : ∀ {l : List Oper} {k : Nat}, AllOps F l k → ∀ i o, l[i]? = some o → F (k + i) o
  | [], _, _, i, o, h => by simp at h
  | p :: l, k, ha, 0, o, h => by simp at h; subst h; exact ha.1
  | p :: l, k, ha, i + 1, o, h => by
    have := AllOps.get ha.2 i o (by simpa using h)
    rwa [show k + (i + 1) = k + 1 + i from by omega]
theorem AllOps.of {F : Nat → Oper → Prop} : ∀ {l : List Oper} (k : Nat), (∀ i o, i < l.length → F (k + i) o) → AllOps F l k
  | [], _, _ => trivial
  | o :: l, k, h => ⟨h 0 o (by simp), AllOps.of (k + 1) fun i p hi => by
      have := h (i + 1) p (by simpa using hi)
      rwa [show k + (i + 1) = k + 1 + i from by omega] at this⟩
theorem Deps.of {F : Nat → Prop} : ∀ {l : List Edge}, (∀ e ∈ l, Region.binds .any e = true → F e.on) → Deps F l
  | [], _ => trivial
  | e :: l, h => ⟨by
      split
      · rename_i hb; exact h e (by simp) hb
      · trivial, Deps.of fun e' he' => h e' (by simp [he'])⟩

/-- The same, the frame written out by the prover's own hand: G. -/
theorem wp_region_rel {id : Nat} {l : List Oper} {a : Act} {w : World} (Inv : World → Prop) (Grow : World → World → Prop) (R : Nat → Value → World → Prop)
    (G : (Nat → Value) → Act) (hG : ∀ v, regFrame l v a = G v) (hm : P.follows .mixedOrders = true) (honce : onceB l = true) (hlow : lowerB l = true)
    (hInv : ∀ w w', Inv w → Grow w w' → Inv w') (hR : ∀ i x w w', Inv w → Grow w w' → R i x w → R i x w')
    (h0 : Inv w.drew)
    (hstep : AllOps (fun i o => ∀ v w', Inv w' → Deps (fun j => R j (v j) w') o.after.toList →
      (∀ j o', l[j]? = some o' → (∃ e ∈ o'.after, Region.binds .any e = true ∧ e.on = i) → v j = slotOf a o'.dst) →
      opDoes P l o Q (G v) w' fun x w'' => Grow w' w'' ∧ R i x w'') l 0)
    (hend : ∀ v w', Inv w' → AllOps (fun i _ => R i (v i) w') l 0 → Q .normal (G v) w') :
    (Code.region id l.toArray true).wp P Q a w :=
  wp_region_rel0 hm honce hlow Inv Grow R hInv hR h0 (fun i o hi v w' hI hd hj => by
    rw [hG]
    have := hstep.get i o hi
    simp only [Nat.zero_add] at this
    exact this v w' hI (Deps.of fun e he hb => hd e (by simpa using he) hb) hj) (fun v w' hI h => by rw [hG]; exact hend v w' hI (AllOps.of (l := l) (F := fun i _ => R i (v i) w') 0 fun i _ hi => by simpa using h i hi))

section
variable {l : List Oper} {o : Oper} {a : Act} {w : World} {T : Value → World → Prop}
/-- An operation that is always wanted. -/
theorem opDoes_plain (hg : o.guard = none) (h : ∀ K : Act → World → Prop, (∀ x w', T x w' → K (a.put o.dst x) w') → o.wp P a w K Q) : opDoes P l o Q a w T := fun K hK => by
  rw [if_pos (by simp [Region.wanted, hg])]
  exact h K hK
/-- move, assign -/
theorem opDoes_move (x : Operand) (hg : o.guard = none) (ho : o.op = .move x) (h : T (a.eval x) w) : opDoes P l o Q a w T :=
  opDoes_plain hg fun _ hK => BigFrame.wp_move x ho (hK _ _ h)
theorem opDoes_assign (x : Operand) (hg : o.guard = none) (ho : o.op = .assign x) (h : T (a.eval x) w) : opDoes P l o Q a w T :=
  opDoes_plain hg fun _ hK => BigFrame.wp_assign x ho (hK _ _ h)
/-- An operation that comes to a value at once. -/
theorem opDoes_run {x : Value} {w' : World} (hg : o.guard = none) (hr : (execOp a.eval o).run P w = .ok (.value x) w') (h : T x w') : opDoes P l o Q a w T :=
  opDoes_plain hg fun K hK => by
    unfold Oper.wp
    rw [hr]
    exact hK _ _ h
/-- An operation under a guard, whose temporary holds what it asks for. -/
theorem wanted_guard {j d : Nat} {b : Bool} {oj : Oper} (hg : o.guard = some (j, b)) (hj : l[j]? = some oj) (hd : oj.dst = some d) (hv : a.tmps[d]? = some (.bool b)) :
    Region.wanted o (yielded l.toArray a.tmps) = true := by
  have hy : yielded l.toArray a.tmps j = some b := by simp [yielded, hj, hd, hv]
  simp [Region.wanted, hg, hy]
theorem opDoes_want (hw : Region.wanted o (yielded l.toArray a.tmps) = true) (h : ∀ K : Act → World → Prop, (∀ x w', T x w' → K (a.put o.dst x) w') → o.wp P a w K Q) : opDoes P l o Q a w T := fun K hK => by
  rw [if_pos hw]
  exact h K hK
theorem opDoes_gmove (x : Operand) (hw : Region.wanted o (yielded l.toArray a.tmps) = true) (ho : o.op = .move x) (h : T (a.eval x) w) : opDoes P l o Q a w T :=
  opDoes_want hw fun _ hK => BigFrame.wp_move x ho (hK _ _ h)
theorem opDoes_grun {x : Value} {w' : World} (hw : Region.wanted o (yielded l.toArray a.tmps) = true) (hr : (execOp a.eval o).run P w = .ok (.value x) w') (h : T x w') : opDoes P l o Q a w T :=
  opDoes_want hw fun K hK => by
    unfold Oper.wp
    rw [hr]
    exact hK _ _ h
/-- An operation under a guard, whose temporary holds the other truth. -/
theorem opDoes_skipped {j d : Nat} {b : Bool} {oj : Oper} (hg : o.guard = some (j, b)) (hj : l[j]? = some oj) (hd : oj.dst = some d) (hv : a.tmps[d]? = some (.bool (!b)))
    (h : T undef w) : opDoes P l o Q a w T := fun K hK => by
  have hy : yielded l.toArray a.tmps j = some (!b) := by simp [yielded, hj, hd, hv]
  rw [if_neg (by simp [Region.wanted, hg, hy])]
  exact hK _ _ h
/-- A call of a function that the text names. -/
theorem opDoes_call (f : FuncId) (xs : Array Operand) (ats : Array TypeId) (args : Array Value) (hg : o.guard = none) (ho : o.op = .call { callee := .value (.func f), args := xs, argTypes := ats })
    (ha : xs.map a.eval = args) (hf : (callFunc f args).run P w = .ok (.enter f args) w) (h : Calls P f args w fun e w' => ∃ x, e = .returned x ∧ T x w') : opDoes P l o Q a w T :=
  opDoes_plain hg fun K hK => by
    obtain ⟨dst, op, type, pos, after, guard⟩ := o
    simp only at ho
    subst ho
    unfold Oper.wp
    rw [execOp_call_go]
    simp only [Array.empty_append, Array.append_empty, ha, hf, Oper.upon_enter]
    refine h.mono fun e w' hx => ?_
    obtain ⟨x, rfl, hT⟩ := hx
    exact hK _ _ hT
end
end
end Go.Proofs.YtjdffhonljhpcaaGreat
end

section
/-
  A second rule for a region that draws its order: what the world keeps may hang on which operations were carried out (a reader that is advanced, a cell that is written).
-/
namespace Go.Proofs.YtjdffhonljhpcaaGreat
set_option linter.unusedSimpArgs false
set_option linter.unusedVariables false
open Go

section
variable {P : Program} {Q : Exit → Act → World → Prop}

theorem wp_region_st0 {id : Nat} {l : List Oper} {a : Act} {w : World} (hm : P.follows .mixedOrders = true) (honce : onceB l = true) (hlow : lowerB l = true)
    (S : (Nat → Bool) → World → Prop) (Grow : World → World → Prop) (R : Nat → Value → World → Prop)
    (hR : ∀ i x w w', Grow w w' → R i x w → R i x w')
    (h0 : S (fun _ => false) w.drew)
    (hstep : ∀ i o, l[i]? = some o → ∀ D v w', S D w' → D i = false →
      (∀ e ∈ o.after, Region.binds .any e = true → D e.on = true ∧ R e.on (v e.on) w') →
      (∀ j o', l[j]? = some o' → D j = true → ∀ e ∈ o'.after, Region.binds .any e = true → D e.on = true) →
      opDoes P l o Q (regFrame l v a) w' fun x w'' => Grow w' w'' ∧ R i x w'' ∧ S (fun j => if j = i then true else D j) w'')
    (hend : ∀ D v w', S D w' → (∀ i, i < l.length → D i = true) → (∀ i, i < l.length → R i (v i) w') → Q .normal (regFrame l v a) w') :
    (Code.region id l.toArray true).wp P Q a w := by
  refine wp_region_any hm ?_
  have hlt : ∀ j o, l[j]? = some o → ∀ e ∈ o.after, Region.binds .any e = true → e.on < j := by
    intro j o hj e he hb
    have h1 : (o, j) ∈ l.zipIdx := by
      rw [List.mem_zipIdx_iff_getElem?]; exact hj
    have h2 := List.all_eq_true.1 hlow (o, j) h1
    have h3 := Array.all_eq_true_iff_forall_mem.1 h2 e he
    simpa [hb] using h3
  -- the state between two operations
  have key : ∀ (fuel : Nat) (listed : Array Bool) (v : Nat → Value) (w' : World), listed.size = l.length → S (fun i => listed.getD i false) w' →
      (∀ i, listed.getD i false = true → R i (v i) w') → (∀ i o, l[i]? = some o → listed.getD i false = false → v i = slotOf a o.dst) →
      (∀ j o, l[j]? = some o → listed.getD j false = true → ∀ e ∈ o.after, Region.binds .any e = true → listed.getD e.on false = true) →
      (listed.toList.filter (· == false)).length ≤ fuel →
      wpAny P .any l.toArray Q fuel listed (regFrame l v a) w' := by
    have hdone : ∀ (listed : Array Bool), listed.size = l.length → Region.ready .any l.toArray listed = [] → ∀ i, i < l.length → listed.getD i false = true := by
      intro listed hs hr i
      induction i using Nat.strongRecOn with
      | _ i ih =>
        intro hi
        have hs' : i < listed.size := by omega
        cases hg : listed.getD i false with
        | true => rfl
        | false =>
          exfalso
          have : i ∈ Region.ready .any l.toArray listed := by
            rw [mem_ready]
            refine ⟨?_, l[i], by simp [hi], fun e he hb => ?_⟩
            · simp only [Array.getD_eq_getD_getElem?, Array.getElem?_eq_getElem hs'] at hg ⊢
              simpa using hg
            · have h1 := hlt i l[i] (List.getElem?_eq_getElem hi) e he hb
              exact ih e.on h1 (by omega)
          rw [hr] at this
          cases this
    intro fuel
    induction fuel with
    | zero =>
      intro listed v w' hs hI hR1 hV hC hf
      have hall : ∀ i, i < l.length → listed.getD i false = true := by
        intro i hi
        have hs' : i < listed.size := by omega
        cases hg : listed.getD i false with
        | true => rfl
        | false =>
          exfalso
          have h1 : listed[i] = false := by simpa [Array.getD_eq_getD_getElem?, Array.getElem?_eq_getElem hs'] using hg
          have h2 : false ∈ listed.toList.filter (· == false) := by
            rw [List.mem_filter]
            exact ⟨by rw [← h1]; simp, rfl⟩
          have := List.length_pos_of_mem h2
          omega
      refine ⟨?_, hend _ v w' hI hall fun i hi => hR1 i (hall i hi)⟩
      have : ∀ j, j ∉ Region.ready .any l.toArray listed := by
        intro j hj
        rw [mem_ready] at hj
        obtain ⟨h1, o, ho, _⟩ := hj
        have hjl : j < l.length := by
          have := (Array.getElem?_eq_some_iff.1 ho).1
          simpa using this
        have h2 := hall j hjl
        have hs' : j < listed.size := by omega
        simp only [Array.getD_eq_getD_getElem?, Array.getElem?_eq_getElem hs', Option.getD_some] at h1 h2
        rw [h1] at h2
        cases h2
      exact List.eq_nil_iff_forall_not_mem.2 this
    | succ fuel ih =>
      intro listed v w' hs hI hR1 hV hC hf
      refine ⟨fun hr => hend _ v w' hI (hdone listed hs hr) fun i hi => hR1 i (hdone listed hs hr i hi), fun i hi => ?_⟩
      rw [mem_ready] at hi
      obtain ⟨h1, o, ho, hall⟩ := hi
      have hil : i < l.length := by
        have := (Array.getElem?_eq_some_iff.1 ho).1
        simpa using this
      have hol : l[i]? = some o := by simpa using ho
      have hs' : i < listed.size := by omega
      have hif : listed.getD i false = false := by
        simp only [Array.getD_eq_getD_getElem?, Array.getElem?_eq_getElem hs', Option.getD_some] at h1 ⊢
        exact h1
      have hst := hstep i o hol _ v w' hI hif (fun e he hb => ⟨hall e he hb, hR1 e.on (hall e he hb)⟩) hC
      have hK : ∀ x w'', (Grow w' w'' ∧ R i x w'' ∧ S (fun j => if j = i then true else listed.getD j false) w'') → wpAny P .any l.toArray Q fuel (listed.setIfInBounds i true) ((regFrame l v a).put o.dst x) w'' := by
        rintro x w'' ⟨hg, hr, hS⟩
        rw [← regFrame_upd l v a i o x honce hol]
        have hgd : ∀ j, (listed.setIfInBounds i true).getD j false = if j = i then true else listed.getD j false := by
          intro j
          by_cases hji : j = i
          · subst hji; simp [Array.getD_eq_getD_getElem?, hs']
          · rw [if_neg hji]; simp [Array.getD_eq_getD_getElem?, Array.getElem?_setIfInBounds_ne (Ne.symm hji)]
        refine ih _ _ w'' (by simpa using hs) (by simpa only [hgd] using hS) ?_ ?_ ?_ ?_
        · intro j hj
          rw [hgd] at hj
          by_cases hji : j = i
          · subst hji; simpa using hr
          · simp only [if_neg hji] at hj ⊢
            exact hR j _ _ _ hg (hR1 j hj)
        · intro j o' hj hjf
          rw [hgd] at hjf
          by_cases hji : j = i
          · simp [hji] at hjf
          · simp only [if_neg hji] at hjf ⊢
            exact hV j o' hj hjf
        · intro j o' hj hjt e he hb
          rw [hgd] at hjt ⊢
          by_cases hei : e.on = i
          · simp [hei]
          · rw [if_neg hei]
            by_cases hji : j = i
            · subst hji
              have : o' = o := by rw [hj] at hol; exact Option.some.inj hol
              subst this
              exact hall e he hb
            · rw [if_neg hji] at hjt
              exact hC j o' hj hjt e he hb
        · have hlen : ((listed.setIfInBounds i true).toList.filter (· == false)).length + 1 ≤ (listed.toList.filter (· == false)).length := by
            rw [Array.toList_setIfInBounds]
            have hx : listed.toList[i]? = some false := by
              have := h1
              simp only [Array.getD_eq_getD_getElem?, Array.getElem?_eq_getElem hs', Option.getD_some] at this
              simp [hs', this]
            exact filter_set _ i hx
          omega
      unfold wpOp
      rw [ho]
      have h2 := hst _ hK
      simp only
      split
      · rename_i hw
        rw [if_pos hw] at h2
        exact .inl h2
      · rename_i hw
        rw [if_neg hw] at h2
        exact h2
  have hst : regFrame l (fun i => slotOf a ((l[i]?).bind (·.dst))) a = a := by
    unfold regFrame
    refine regFrame_start l 0 a (fun i => slotOf a ((l[i]?).bind (·.dst))) honce fun i o hi => ?_
    simp [hi]
  have := key l.length (Array.replicate l.length false) (fun i => slotOf a ((l[i]?).bind (·.dst))) w.drew (by simp) (by
    have e : (fun i => (Array.replicate l.length false).getD i false) = fun _ => false := by
      funext i
      simp only [Array.getD_eq_getD_getElem?, Array.getElem?_replicate]
      split <;> rfl
    rw [e]
    exact h0) (by
    intro i hi
    simp [Array.getD_eq_getD_getElem?, Array.getElem?_replicate] at hi
    split at hi <;> simp at hi) (by
    intro i o hi _
    simp [hi]) (by
    intro j o _ hj
    simp [Array.getD_eq_getD_getElem?, Array.getElem?_replicate] at hj
    split at hj <;> simp at hj) (by simp)
  rw [hst] at this
  simpa using this


/-- The same, the frame written out by the prover's own hand: G. What is kept (S) may hang on which operations were carried out (D). -/
theorem wp_region_st {id : Nat} {l : List Oper} {a : Act} {w : World} (S : (Nat → Bool) → World → Prop) (Grow : World → World → Prop) (R : Nat → Value → World → Prop)
    (G : (Nat → Value) → Act) (hG : ∀ v, regFrame l v a = G v) (hm : P.follows .mixedOrders = true) (honce : onceB l = true) (hlow : lowerB l = true)
    (hR : ∀ i x w w', Grow w w' → R i x w → R i x w')
    (h0 : S (fun _ => false) w.drew)
    (hstep : AllOps (fun i o => ∀ D v w', S D w' → D i = false → Deps (fun j => D j = true ∧ R j (v j) w') o.after.toList →
      (∀ j o', l[j]? = some o' → D j = true → Deps (fun j => D j = true) o'.after.toList) →
      opDoes P l o Q (G v) w' fun x w'' => Grow w' w'' ∧ R i x w'' ∧ S (fun j => if j = i then true else D j) w'') l 0)
    (hend : ∀ D v w', S D w' → AllOps (fun i _ => D i = true ∧ R i (v i) w') l 0 → Q .normal (G v) w') :
    (Code.region id l.toArray true).wp P Q a w :=
  wp_region_st0 hm honce hlow S Grow R hR h0 (fun i o hi D v w' hI hf hd hc => by
    rw [hG]
    have := hstep.get i o hi
    simp only [Nat.zero_add] at this
    exact this D v w' hI hf (Deps.of fun e he hb => hd e (by simpa using he) hb) (fun j o' hj hd => Deps.of fun e he hb => hc j o' hj hd e (by simpa using he) hb)) (fun D v w' hI hd h => by rw [hG]; exact hend D v w' hI (AllOps.of (l := l) (F := fun i _ => D i = true ∧ R i (v i) w') 0 fun i _ hi => by simpa using ⟨hd i hi, h i hi⟩))

/-- Operation j waits for operation i, through others. -/
def waitsB (l : List Oper) : Nat → Nat → Nat → Bool
  | 0, j, i => j == i
  | f + 1, j, i => j == i || (match l[j]? with | some o => o.after.toList.any fun e => Region.binds .any e && waitsB l f e.on i | none => false)
theorem Deps.get {F : Nat → Prop} : ∀ {l : List Edge}, Deps F l → ∀ e ∈ l, Region.binds .any e = true → F e.on
  | [], _, e, he, _ => by cases he
  | e :: l, h, e', he, hb => by
    cases he with
    | head => have := h.1; rwa [if_pos hb] at this
    | tail _ he => exact Deps.get h.2 e' he hb
theorem done_of {l : List Oper} {D : Nat → Bool} (hc : ∀ j o', l[j]? = some o' → D j = true → Deps (fun j => D j = true) o'.after.toList) : ∀ (f : Nat) {j : Nat} (i : Nat), D j = true → waitsB l f j i = true → D i = true
  | 0, j, i, hj, h => by
    have : j = i := by simpa [waitsB] using h
    exact this ▸ hj
  | f + 1, j, i, hj, h => by
    unfold waitsB at h
    rw [Bool.or_eq_true] at h
    rcases h with h | h
    · have : j = i := by simpa using h
      exact this ▸ hj
    · split at h
      · rename_i o ho
        obtain ⟨e, he, hb⟩ := List.any_eq_true.1 h
        rw [Bool.and_eq_true] at hb
        exact done_of hc f i (Deps.get (hc j o ho hj) e he hb.1) hb.2
      · cases h
end
section
variable {P : Program} {Q : Exit → Act → World → Prop} {l : List Oper} {o : Oper} {a : Act} {w : World} {T : Value → World → Prop}
theorem opDoes_gcall (f : FuncId) (xs : Array Operand) (ats : Array TypeId) (args : Array Value) (hw : Region.wanted o (yielded l.toArray a.tmps) = true) (ho : o.op = .call { callee := .value (.func f), args := xs, argTypes := ats })
    (ha : xs.map a.eval = args) (hf : (callFunc f args).run P w = .ok (.enter f args) w) (h : Calls P f args w fun e w' => ∃ x, e = .returned x ∧ T x w') : opDoes P l o Q a w T :=
  opDoes_want hw fun K hK => by
    obtain ⟨dst, op, type, pos, after, guard⟩ := o
    simp only at ho
    subst ho
    unfold Oper.wp
    rw [execOp_call_go]
    simp only [Array.empty_append, Array.append_empty, ha, hf, Oper.upon_enter]
    refine h.mono fun e w' hx => ?_
    obtain ⟨x, rfl, hT⟩ := hx
    exact hK _ _ hT
end
end Go.Proofs.YtjdffhonljhpcaaGreat
end

section
/-
  A third rule for a region that draws its order: what the world keeps may hang on which operations were carried out and on their values.
-/
namespace Go.Proofs.YtjdffhonljhpcaaGreat
set_option linter.unusedSimpArgs false
set_option linter.unusedVariables false
open Go

section
variable {P : Program} {Q : Exit → Act → World → Prop}

theorem wp_region_sv0 {id : Nat} {l : List Oper} {a : Act} {w : World} (hm : P.follows .mixedOrders = true) (honce : onceB l = true) (hlow : lowerB l = true)
    (S : (Nat → Bool) → (Nat → Value) → World → Prop) (Grow : World → World → Prop) (R : Nat → Value → World → Prop)
    (hR : ∀ i x w w', Grow w w' → R i x w → R i x w')
    (h0 : ∀ v, S (fun _ => false) v w.drew)
    (hstep : ∀ i o, l[i]? = some o → ∀ D v w', S D v w' → D i = false →
      (∀ e ∈ o.after, Region.binds .any e = true → D e.on = true ∧ R e.on (v e.on) w') →
      (∀ j o', l[j]? = some o' → D j = true → ∀ e ∈ o'.after, Region.binds .any e = true → D e.on = true) →
      opDoes P l o Q (regFrame l v a) w' fun x w'' => Grow w' w'' ∧ R i x w'' ∧ S (fun j => if j = i then true else D j) (fun j => if j = i then x else v j) w'')
    (hend : ∀ D v w', S D v w' → (∀ i, i < l.length → D i = true) → (∀ i, i < l.length → R i (v i) w') → Q .normal (regFrame l v a) w') :
    (Code.region id l.toArray true).wp P Q a w := by
  refine wp_region_any hm ?_
  have hlt : ∀ j o, l[j]? = some o → ∀ e ∈ o.after, Region.binds .any e = true → e.on < j := by
    intro j o hj e he hb
    have h1 : (o, j) ∈ l.zipIdx := by
      rw [List.mem_zipIdx_iff_getElem?]; exact hj
    have h2 := List.all_eq_true.1 hlow (o, j) h1
    have h3 := Array.all_eq_true_iff_forall_mem.1 h2 e he
    simpa [hb] using h3
  -- the state between two operations
  have key : ∀ (fuel : Nat) (listed : Array Bool) (v : Nat → Value) (w' : World), listed.size = l.length → S (fun i => listed.getD i false) v w' →
      (∀ i, listed.getD i false = true → R i (v i) w') → (∀ i o, l[i]? = some o → listed.getD i false = false → v i = slotOf a o.dst) →
      (∀ j o, l[j]? = some o → listed.getD j false = true → ∀ e ∈ o.after, Region.binds .any e = true → listed.getD e.on false = true) →
      (listed.toList.filter (· == false)).length ≤ fuel →
      wpAny P .any l.toArray Q fuel listed (regFrame l v a) w' := by
    have hdone : ∀ (listed : Array Bool), listed.size = l.length → Region.ready .any l.toArray listed = [] → ∀ i, i < l.length → listed.getD i false = true := by
      intro listed hs hr i
      induction i using Nat.strongRecOn with
      | _ i ih =>
        intro hi
        have hs' : i < listed.size := by omega
        cases hg : listed.getD i false with
        | true => rfl
        | false =>
          exfalso
          have : i ∈ Region.ready .any l.toArray listed := by
            rw [mem_ready]
            refine ⟨?_, l[i], by simp [hi], fun e he hb => ?_⟩
            · simp only [Array.getD_eq_getD_getElem?, Array.getElem?_eq_getElem hs'] at hg ⊢
              simpa using hg
            · have h1 := hlt i l[i] (List.getElem?_eq_getElem hi) e he hb
              exact ih e.on h1 (by omega)
          rw [hr] at this
          cases this
    intro fuel
    induction fuel with
    | zero =>
      intro listed v w' hs hI hR1 hV hC hf
      have hall : ∀ i, i < l.length → listed.getD i false = true := by
        intro i hi
        have hs' : i < listed.size := by omega
        cases hg : listed.getD i false with
        | true => rfl
        | false =>
          exfalso
          have h1 : listed[i] = false := by simpa [Array.getD_eq_getD_getElem?, Array.getElem?_eq_getElem hs'] using hg
          have h2 : false ∈ listed.toList.filter (· == false) := by
            rw [List.mem_filter]
            exact ⟨by rw [← h1]; simp, rfl⟩
          have := List.length_pos_of_mem h2
          omega
      refine ⟨?_, hend _ v w' hI hall fun i hi => hR1 i (hall i hi)⟩
      have : ∀ j, j ∉ Region.ready .any l.toArray listed := by
        intro j hj
        rw [mem_ready] at hj
        obtain ⟨h1, o, ho, _⟩ := hj
        have hjl : j < l.length := by
          have := (Array.getElem?_eq_some_iff.1 ho).1
          simpa using this
        have h2 := hall j hjl
        have hs' : j < listed.size := by omega
        simp only [Array.getD_eq_getD_getElem?, Array.getElem?_eq_getElem hs', Option.getD_some] at h1 h2
        rw [h1] at h2
        cases h2
      exact List.eq_nil_iff_forall_not_mem.2 this
    | succ fuel ih =>
      intro listed v w' hs hI hR1 hV hC hf
      refine ⟨fun hr => hend _ v w' hI (hdone listed hs hr) fun i hi => hR1 i (hdone listed hs hr i hi), fun i hi => ?_⟩
      rw [mem_ready] at hi
      obtain ⟨h1, o, ho, hall⟩ := hi
      have hil : i < l.length := by
        have := (Array.getElem?_eq_some_iff.1 ho).1
        simpa using this
      have hol : l[i]? = some o := by simpa using ho
      have hs' : i < listed.size := by omega
      have hif : listed.getD i false = false := by
        simp only [Array.getD_eq_getD_getElem?, Array.getElem?_eq_getElem hs', Option.getD_some] at h1 ⊢
        exact h1
      have hst := hstep i o hol _ v w' hI hif (fun e he hb => ⟨hall e he hb, hR1 e.on (hall e he hb)⟩) hC
      have hK : ∀ x w'', (Grow w' w'' ∧ R i x w'' ∧ S (fun j => if j = i then true else listed.getD j false) (fun j => if j = i then x else v j) w'') → wpAny P .any l.toArray Q fuel (listed.setIfInBounds i true) ((regFrame l v a).put o.dst x) w'' := by
        rintro x w'' ⟨hg, hr, hS⟩
        rw [← regFrame_upd l v a i o x honce hol]
        have hgd : ∀ j, (listed.setIfInBounds i true).getD j false = if j = i then true else listed.getD j false := by
          intro j
          by_cases hji : j = i
          · subst hji; simp [Array.getD_eq_getD_getElem?, hs']
          · rw [if_neg hji]; simp [Array.getD_eq_getD_getElem?, Array.getElem?_setIfInBounds_ne (Ne.symm hji)]
        refine ih _ _ w'' (by simpa using hs) (by simpa only [hgd] using hS) ?_ ?_ ?_ ?_
        · intro j hj
          rw [hgd] at hj
          by_cases hji : j = i
          · subst hji; simpa using hr
          · simp only [if_neg hji] at hj ⊢
            exact hR j _ _ _ hg (hR1 j hj)
        · intro j o' hj hjf
          rw [hgd] at hjf
          by_cases hji : j = i
          · simp [hji] at hjf
          · simp only [if_neg hji] at hjf ⊢
            exact hV j o' hj hjf
        · intro j o' hj hjt e he hb
          rw [hgd] at hjt ⊢
          by_cases hei : e.on = i
          · simp [hei]
          · rw [if_neg hei]
            by_cases hji : j = i
            · subst hji
              have : o' = o := by rw [hj] at hol; exact Option.some.inj hol
              subst this
              exact hall e he hb
            · rw [if_neg hji] at hjt
              exact hC j o' hj hjt e he hb
        · have hlen : ((listed.setIfInBounds i true).toList.filter (· == false)).length + 1 ≤ (listed.toList.filter (· == false)).length := by
            rw [Array.toList_setIfInBounds]
            have hx : listed.toList[i]? = some false := by
              have := h1
              simp only [Array.getD_eq_getD_getElem?, Array.getElem?_eq_getElem hs', Option.getD_some] at this
              simp [hs', this]
            exact filter_set _ i hx
          omega
      unfold wpOp
      rw [ho]
      have h2 := hst _ hK
      simp only
      split
      · rename_i hw
        rw [if_pos hw] at h2
        exact .inl h2
      · rename_i hw
        rw [if_neg hw] at h2
        exact h2
  have hst : regFrame l (fun i => slotOf a ((l[i]?).bind (·.dst))) a = a := by
    unfold regFrame
    refine regFrame_start l 0 a (fun i => slotOf a ((l[i]?).bind (·.dst))) honce fun i o hi => ?_
    simp [hi]
  have := key l.length (Array.replicate l.length false) (fun i => slotOf a ((l[i]?).bind (·.dst))) w.drew (by simp) (by
    have e : (fun i => (Array.replicate l.length false).getD i false) = fun _ => false := by
      funext i
      simp only [Array.getD_eq_getD_getElem?, Array.getElem?_replicate]
      split <;> rfl
    rw [e]
    exact h0 _) (by
    intro i hi
    simp [Array.getD_eq_getD_getElem?, Array.getElem?_replicate] at hi
    split at hi <;> simp at hi) (by
    intro i o hi _
    simp [hi]) (by
    intro j o _ hj
    simp [Array.getD_eq_getD_getElem?, Array.getElem?_replicate] at hj
    split at hj <;> simp at hj) (by simp)
  rw [hst] at this
  simpa using this


/-- The same, the frame written out by the prover's own hand: G. What is kept (S) may hang on which operations were carried out (D). -/
theorem wp_region_sv {id : Nat} {l : List Oper} {a : Act} {w : World} (S : (Nat → Bool) → (Nat → Value) → World → Prop) (Grow : World → World → Prop) (R : Nat → Value → World → Prop)
    (G : (Nat → Value) → Act) (hG : ∀ v, regFrame l v a = G v) (hm : P.follows .mixedOrders = true) (honce : onceB l = true) (hlow : lowerB l = true)
    (hR : ∀ i x w w', Grow w w' → R i x w → R i x w')
    (h0 : ∀ v, S (fun _ => false) v w.drew)
    (hstep : AllOps (fun i o => ∀ D v w', S D v w' → D i = false → Deps (fun j => D j = true ∧ R j (v j) w') o.after.toList →
      (∀ j o', l[j]? = some o' → D j = true → Deps (fun j => D j = true) o'.after.toList) →
      opDoes P l o Q (G v) w' fun x w'' => Grow w' w'' ∧ R i x w'' ∧ S (fun j => if j = i then true else D j) (fun j => if j = i then x else v j) w'') l 0)
    (hend : ∀ D v w', S D v w' → AllOps (fun i _ => D i = true ∧ R i (v i) w') l 0 → Q .normal (G v) w') :
    (Code.region id l.toArray true).wp P Q a w :=
  wp_region_sv0 hm honce hlow S Grow R hR h0 (fun i o hi D v w' hI hf hd hc => by
    rw [hG]
    have := hstep.get i o hi
    simp only [Nat.zero_add] at this
    exact this D v w' hI hf (Deps.of fun e he hb => hd e (by simpa using he) hb) (fun j o' hj hd => Deps.of fun e he hb => hc j o' hj hd e (by simpa using he) hb)) (fun D v w' hI hd h => by rw [hG]; exact hend D v w' hI (AllOps.of (l := l) (F := fun i _ => D i = true ∧ R i (v i) w') 0 fun i _ hi => by simpa using ⟨hd i hi, h i hi⟩))

end
end Go.Proofs.YtjdffhonljhpcaaGreat
end

section
/-
  A rule for a region that draws its order, of calls and operations that only make memory, and one store behind all of them.
-/
namespace Go.Proofs.YtjdffhonljhpcaaGreat
set_option linter.unusedSimpArgs false
set_option linter.unusedVariables false
open Go

/-- The last operation waits for all others. -/
def allWaitB (l : List Oper) : Bool := (List.range (l.length - 1)).all fun i => waitsB l l.length (l.length - 1) i

section
variable {P : Program} {Q : Exit → Act → World → Prop}

theorem AllOps.of' {F : Nat → Oper → Prop} : ∀ {l : List Oper} (k : Nat), (∀ i o, l[i]? = some o → F (k + i) o) → AllOps F l k
  | [], _, _ => trivial
  | o :: l, k, h => ⟨h 0 o (by simp), AllOps.of' (k + 1) fun i p hi => by
      have := h (i + 1) p (by simpa using hi)
      rwa [show k + (i + 1) = k + 1 + i from by omega] at this⟩

theorem wp_region_last {id : Nat} {l : List Oper} {a : Act} {w : World} (R : Nat → Value → World → Prop) (W : World → Prop) (Gr : World → World → Prop) (n : Nat) (o : Oper)
    (G : (Nat → Value) → Act) (hG : ∀ v, regFrame l v a = G v) (hm : P.follows .mixedOrders = true) (honce : onceB l = true) (hlow : lowerB l = true) (hall : allWaitB l = true)
    (hn : l.length = n + 1) (ho : l[n]? = some o) (hog : o.guard = none) (hod : o.dst = none)
    (hR : ∀ i x w w', Gr w w' → R i x w → R i x w')
    (hW : ∀ w w', W w → Gr w w' → W w')
    (h0 : W w.drew)
    (hstep : AllOps (fun i o => ∀ v w', W w' → Deps (fun j => R j (v j) w') o.after.toList →
      opDoes P l o Q (G v) w' fun x w'' => Gr w' w'' ∧ R i x w'') (l.take n) 0)
    (hend : ∀ v w', W w' → AllOps (fun i _ => R i (v i) w') (l.take n) 0 →
      ∃ w'', (execOp (G v).eval o).run P w' = .ok .skip w'' ∧ Q .normal (G v) w'') :
    (Code.region id l.toArray true).wp P Q a w := by
  have hwait : ∀ i, i < n → waitsB l (n + 1) n i = true := by
    intro i hi
    have h1 : ∀ i ∈ List.range (l.length - 1), waitsB l l.length (l.length - 1) i = true := List.all_eq_true.1 hall
    have := h1 i (by rw [List.mem_range]; omega)
    rwa [hn] at this
  refine wp_region_sv0 hm honce hlow (fun D v w' => (D n = false → W w' ∧ ∀ i, D i = true → R i (v i) w') ∧ (D n = true → Q .normal (regFrame l v a) w')) (fun _ _ => True) (fun _ _ _ => True) (fun _ _ _ _ _ _ => trivial)
    (fun v => ⟨fun _ => ⟨h0, fun i h => by simp at h⟩, fun h => by simp at h⟩) (fun i p hi D v w' hS hf hd hc => ?_) (fun D v w' hS hD _ => hS.2 (hD n (by omega)))
  have hc' : ∀ j o', l[j]? = some o' → D j = true → Deps (fun j => D j = true) o'.after.toList := fun j o' h1 h2 => Deps.of fun e he hb => hc j o' h1 h2 e (by simpa using he) hb
  have hil : i < l.length := (List.getElem?_eq_some_iff.1 hi).1
  by_cases hin : i = n
  · subst hin
    obtain rfl : p = o := by rw [hi] at ho; exact Option.some.inj ho
    obtain ⟨hW1, hR1⟩ := hS.1 hf
    have hdone : ∀ j, j < i → D j = true := by
      intro j hj
      have h1 := hwait j hj
      unfold waitsB at h1
      rw [Bool.or_eq_true] at h1
      rcases h1 with h1 | h1
      · have : i = j := by simpa using h1
        omega
      · rw [hi] at h1
        obtain ⟨e, he, hb⟩ := List.any_eq_true.1 h1
        rw [Bool.and_eq_true] at hb
        exact done_of hc' i j (hd e (by simpa using he) hb.1).1 hb.2
    obtain ⟨w'', hrun, hq⟩ := hend v w' hW1 (AllOps.of' 0 fun j q hj => by
      have hjn : j < i := by
        have := (List.getElem?_eq_some_iff.1 hj).1
        rw [List.length_take] at this
        omega
      simpa using hR1 j (hdone j hjn))
    intro K hK
    rw [if_pos (by simp [Region.wanted, hog])]
    unfold Oper.wp
    rw [hG, hrun]
    have := hK undef w'' ⟨trivial, trivial, fun h => by simp at h, fun _ => ?_⟩
    · rwa [hG] at this
    · rw [regFrame_upd l v a i p undef honce hi, hod]
      show Q .normal (regFrame l v a) w''
      rw [hG]
      exact hq
  · have hfn : D n = false := by
      cases h : D n with
      | false => rfl
      | true =>
        have := done_of hc' (n + 1) i h (hwait i (by omega))
        rw [hf] at this
        cases this
    obtain ⟨hW1, hR1⟩ := hS.1 hfn
    have hst := hstep.get i p (by rw [List.getElem?_take_of_lt (by omega)]; exact hi)
    simp only [Nat.zero_add] at hst
    rw [hG]
    refine fun K hK => hst v w' hW1 (Deps.of fun e he hb => hR1 _ (hd e (by simpa using he) hb).1) K fun x w'' ⟨hg, hr⟩ => hK x w'' ⟨trivial, trivial, fun _ => ⟨hW _ _ hW1 hg, fun j hj => ?_⟩, fun h => ?_⟩
    · by_cases hji : j = i
      · subst hji; simpa using hr
      · simp only [if_neg hji] at hj ⊢
        exact hR j _ _ _ hg (hR1 j hj)
    · have h' : (if n = i then true else D n) = true := h
      rw [if_neg (fun e => hin e.symm), hfn] at h'
      cases h'
/-- The same, of a last operation that has a value. -/
theorem wp_region_lastv {id : Nat} {l : List Oper} {a : Act} {w : World} (R : Nat → Value → World → Prop) (W : World → Prop) (Gr : World → World → Prop) (n : Nat) (o : Oper)
    (G : (Nat → Value) → Act) (hG : ∀ v, regFrame l v a = G v) (hm : P.follows .mixedOrders = true) (honce : onceB l = true) (hlow : lowerB l = true) (hall : allWaitB l = true)
    (hn : l.length = n + 1) (ho : l[n]? = some o) (hog : o.guard = none)
    (hR : ∀ i x w w', Gr w w' → R i x w → R i x w')
    (hW : ∀ w w', W w → Gr w w' → W w')
    (h0 : W w.drew)
    (hstep : AllOps (fun i o => ∀ v w', W w' → Deps (fun j => R j (v j) w') o.after.toList →
      opDoes P l o Q (G v) w' fun x w'' => Gr w' w'' ∧ R i x w'') (l.take n) 0)
    (hend : ∀ v w', W w' → AllOps (fun i _ => R i (v i) w') (l.take n) 0 →
      ∃ x w'', (execOp (G v).eval o).run P w' = .ok (.value x) w'' ∧ Q .normal ((G v).put o.dst x) w'') :
    (Code.region id l.toArray true).wp P Q a w := by
  have hwait : ∀ i, i < n → waitsB l (n + 1) n i = true := by
    intro i hi
    have h1 : ∀ i ∈ List.range (l.length - 1), waitsB l l.length (l.length - 1) i = true := List.all_eq_true.1 hall
    have := h1 i (by rw [List.mem_range]; omega)
    rwa [hn] at this
  refine wp_region_sv0 hm honce hlow (fun D v w' => (D n = false → W w' ∧ ∀ i, D i = true → R i (v i) w') ∧ (D n = true → Q .normal (regFrame l v a) w')) (fun _ _ => True) (fun _ _ _ => True) (fun _ _ _ _ _ _ => trivial)
    (fun v => ⟨fun _ => ⟨h0, fun i h => by simp at h⟩, fun h => by simp at h⟩) (fun i p hi D v w' hS hf hd hc => ?_) (fun D v w' hS hD _ => hS.2 (hD n (by omega)))
  have hc' : ∀ j o', l[j]? = some o' → D j = true → Deps (fun j => D j = true) o'.after.toList := fun j o' h1 h2 => Deps.of fun e he hb => hc j o' h1 h2 e (by simpa using he) hb
  have hil : i < l.length := (List.getElem?_eq_some_iff.1 hi).1
  by_cases hin : i = n
  · subst hin
    obtain rfl : p = o := by rw [hi] at ho; exact Option.some.inj ho
    obtain ⟨hW1, hR1⟩ := hS.1 hf
    have hdone : ∀ j, j < i → D j = true := by
      intro j hj
      have h1 := hwait j hj
      unfold waitsB at h1
      rw [Bool.or_eq_true] at h1
      rcases h1 with h1 | h1
      · have : i = j := by simpa using h1
        omega
      · rw [hi] at h1
        obtain ⟨e, he, hb⟩ := List.any_eq_true.1 h1
        rw [Bool.and_eq_true] at hb
        exact done_of hc' i j (hd e (by simpa using he) hb.1).1 hb.2
    obtain ⟨x, w'', hrun, hq⟩ := hend v w' hW1 (AllOps.of' 0 fun j q hj => by
      have hjn : j < i := by
        have := (List.getElem?_eq_some_iff.1 hj).1
        rw [List.length_take] at this
        omega
      simpa using hR1 j (hdone j hjn))
    intro K hK
    rw [if_pos (by simp [Region.wanted, hog])]
    unfold Oper.wp
    rw [hG, hrun]
    have := hK x w'' ⟨trivial, trivial, fun h => by simp at h, fun _ => ?_⟩
    · rwa [hG] at this
    · rw [regFrame_upd l v a i p x honce hi, hG]
      exact hq
  · have hfn : D n = false := by
      cases h : D n with
      | false => rfl
      | true =>
        have := done_of hc' (n + 1) i h (hwait i (by omega))
        rw [hf] at this
        cases this
    obtain ⟨hW1, hR1⟩ := hS.1 hfn
    have hst := hstep.get i p (by rw [List.getElem?_take_of_lt (by omega)]; exact hi)
    simp only [Nat.zero_add] at hst
    rw [hG]
    refine fun K hK => hst v w' hW1 (Deps.of fun e he hb => hR1 _ (hd e (by simpa using he) hb).1) K fun x w'' ⟨hg, hr⟩ => hK x w'' ⟨trivial, trivial, fun _ => ⟨hW _ _ hW1 hg, fun j hj => ?_⟩, fun h => ?_⟩
    · by_cases hji : j = i
      · subst hji; simpa using hr
      · simp only [if_neg hji] at hj ⊢
        exact hR j _ _ _ hg (hR1 j hj)
    · have h' : (if n = i then true else D n) = true := h
      rw [if_neg (fun e => hin e.symm), hfn] at h'
      cases h'
end
end Go.Proofs.YtjdffhonljhpcaaGreat
end

section
/-
  A rule for a region that draws its order, of calls and operations that only make memory, and one store that fills a block anew.
-/
namespace Go.Proofs.YtjdffhonljhpcaaGreat
set_option linter.unusedSimpArgs false
set_option linter.unusedVariables false
open Go Go.RowKit

theorem grown_of_below {w w' : World} (h : Below w.heap.size w w') (r : Option Nat) : w.grownBy w' r := ⟨h.os, h.tape, h.output, h.size, fun k hk _ => h.block k hk⟩
theorem grown_then {a b c : World} {r : Option Nat} (h : a.grownBy b r) (k : b.grownBy c r) : a.grownBy c r :=
  ⟨k.os.trans h.os, k.tape.trans h.tape, k.output.trans h.output, Nat.le_trans h.size k.size, fun i hi hn => (k.block i (Nat.lt_of_lt_of_le hi h.size) hn).trans (h.block i hi hn)⟩
theorem _root_.Go.World.grownBy.trans' {a b c : World} {r : Option Nat} (h : a.grownBy b r) (k : b.grownBy c r) : a.grownBy c r := grown_then h k
theorem grown_store (w : World) (g i : Nat) (u : Value) : w.grownBy (w.setCell ⟨g, i, none⟩ u) (some g) :=
  ⟨rfl, rfl, rfl, by simp, fun k _ hn => heap_setCell_other w ⟨g, i, none⟩ k u (fun e => hn (by rw [e]))⟩
theorem _root_.Go.World.grownBy.set_ {w w' : World} {g : Nat} (h : w.grownBy w' (some g)) (p : Addr) (hp : p.block = g) (u : Value) : w.grownBy (w'.setCell p u) (some g) :=
  ⟨h.os, h.tape, h.output, by simpa using h.size, fun k hk hn => (heap_setCell_other w' p k u (fun e => hn (by rw [e, hp]))).trans (h.block k hk hn)⟩

section
variable {P : Program} {Q : Exit → Act → World → Prop}
theorem wp_region_blk {id : Nat} {l : List Oper} {a : Act} {w : World} (g : Nat) (T : TypeId) (pre : List Value) (post : Value → List Value) (s c : Nat) (o : Oper) (R : Nat → Value → World → Prop)
    (G : (Nat → Value) → Act) (hG : ∀ v, regFrame l v a = G v) (hm : P.follows .mixedOrders = true) (honce : onceB l = true) (hlow : lowerB l = true)
    (hs : s < l.length) (ho : l[s]? = some o) (hog : o.guard = none) (hod : o.dst = none) (hsc : waitsB l l.length s c = true) (hne : c ≠ s)
    (hR : ∀ i x w w', w.grownBy w' (some g) → R i x w → R i x w')
    (h0 : Blk w g T pre)
    (hstep : AllOps (fun i o => i ≠ s → ∀ v w', w.grownBy w' (some g) → Deps (fun j => R j (v j) w') o.after.toList →
      opDoes P l o Q (G v) w' fun x w'' => Below w'.heap.size w' w'' ∧ R i x w'') l 0)
    (hstore : ∀ v w', w.grownBy w' (some g) → Blk w' g T pre → R c (v c) w' → Deps (fun j => R j (v j) w') o.after.toList →
      ∃ w'', (execOp (G v).eval o).run P w' = .ok .skip w'' ∧ w'.grownBy w'' (some g) ∧ Blk w'' g T (post (v c)) ∧ R s undef w'')
    (hend : ∀ v w', w.grownBy w' (some g) → Blk w' g T (post (v c)) → AllOps (fun i _ => R i (v i) w') l 0 → Q .normal (G v) w') :
    (Code.region id l.toArray true).wp P Q a w := by
  refine wp_region_sv0 hm honce hlow (fun D v w' => w.grownBy w' (some g) ∧ (D s = false → Blk w' g T pre) ∧ (D s = true → Blk w' g T (post (v c))) ∧ ∀ i, D i = true → R i (v i) w') (fun w w' => True) (fun _ _ _ => True) (fun _ _ _ _ _ _ => trivial)
    (fun v => ⟨⟨rfl, rfl, rfl, Nat.le_refl _, fun _ _ _ => rfl⟩, fun _ => h0, fun h => by simp at h, fun i h => by simp at h⟩) (fun i p hi D v w' hS hf hd hc => ?_) (fun D v w' hS hD _ => by
      rw [hG]
      exact hend v w' hS.1 (hS.2.2.1 (hD s hs)) (AllOps.of' 0 fun i q hi => by simpa using hS.2.2.2 i (hD i (List.getElem?_eq_some_iff.1 hi).1)))
  obtain ⟨hg, hpre, hpost, hRs⟩ := hS
  have hc' : ∀ j o', l[j]? = some o' → D j = true → Deps (fun j => D j = true) o'.after.toList := fun j o' h1 h2 => Deps.of fun e he hb => hc j o' h1 h2 e (by simpa using he) hb
  have hdep : Deps (fun j => R j (v j) w') p.after.toList := Deps.of fun e he hb => hRs _ (hd e (by simpa using he) hb).1
  rw [hG]
  by_cases his : i = s
  · subst his
    obtain rfl : p = o := by rw [hi] at ho; exact Option.some.inj ho
    have hcd : D c = true := by
      obtain ⟨n, hn⟩ : ∃ n, l.length = n + 1 := ⟨l.length - 1, by omega⟩
      have h1 := hsc
      rw [hn] at h1
      unfold waitsB at h1
      rw [Bool.or_eq_true] at h1
      rcases h1 with h1 | h1
      · have : i = c := by simpa using h1
        exact absurd this.symm hne
      · rw [hi] at h1
        obtain ⟨e, he, hb⟩ := List.any_eq_true.1 h1
        rw [Bool.and_eq_true] at hb
        exact done_of hc' n c (hd e (by simpa using he) hb.1).1 hb.2
    obtain ⟨w'', hrun, hgw, hbl, hru⟩ := hstore v w' hg (hpre hf) (hRs c hcd) hdep
    intro K hK
    rw [if_pos (by simp [Region.wanted, hog])]
    unfold Oper.wp
    rw [hrun]
    refine hK undef w'' ⟨trivial, trivial, grown_then hg hgw, fun h => by simp at h, fun _ => ?_, fun j hj => ?_⟩
    · simp only [if_neg hne]
      exact hbl
    · by_cases hji : j = i
      · subst hji; simpa using hru
      · simp only [if_neg hji] at hj ⊢
        exact hR j _ _ _ hgw (hRs j hj)
  · have hst := hstep.get i p hi
    simp only [Nat.zero_add] at hst
    refine fun K hK => hst his v w' hg hdep K fun x w'' ⟨hb, hr⟩ => hK x w'' ⟨trivial, trivial, grown_then hg (grown_of_below hb _), fun h => ?_, fun h => ?_, fun j hj => ?_⟩
    · have h' : (if s = i then true else D s) = false := h
      rw [if_neg (fun e => his e.symm)] at h'
      exact (hpre h').below hb
    · have h' : (if s = i then true else D s) = true := h
      rw [if_neg (fun e => his e.symm)] at h'
      have hci : c ≠ i := by
        rintro rfl
        have hd' := done_of hc' l.length c h' hsc
        rw [hf] at hd'
        cases hd'
      simp only [if_neg hci]
      exact (hpost h').below hb
    · by_cases hji : j = i
      · subst hji; simpa using hr
      · simp only [if_neg hji] at hj ⊢
        exact hR j _ _ _ (grown_of_below hb _) (hRs j hj)
end
end Go.Proofs.YtjdffhonljhpcaaGreat
end

section
/-
  A rule for a region that draws its order and only reads.
-/
namespace Go.Proofs.YtjdffhonljhpcaaGreat
set_option linter.unusedSimpArgs false
set_option linter.unusedVariables false
open Go Go.RowKit

section
variable {P : Program} {Q : Exit → Act → World → Prop}
theorem wp_region_read {id : Nat} {l : List Oper} {a : Act} {w : World} (R : Nat → Value → Prop)
    (G : (Nat → Value) → Act) (hG : ∀ v, regFrame l v a = G v) (hm : P.follows .mixedOrders = true) (honce : onceB l = true) (hlow : lowerB l = true)
    (hstep : AllOps (fun i o => ∀ v, Deps (fun j => R j (v j)) o.after.toList → opDoes P l o Q (G v) w.drew fun x w'' => w'' = w.drew ∧ R i x) l 0)
    (hend : ∀ v, AllOps (fun i _ => R i (v i)) l 0 → Q .normal (G v) w.drew) : (Code.region id l.toArray true).wp P Q a w := by
  refine wp_region_rel (Inv := fun w' => w' = w.drew) (Grow := fun w1 w2 => w2 = w1) (R := fun i x _ => R i x) G hG hm honce hlow (fun w1 w2 h e => e.trans h) (fun _ _ _ _ _ _ h => h) rfl ?_ (fun v w' e h => by subst e; exact hend v h)
  refine AllOps.of' 0 fun i o hi => ?_
  intro v w' e hd _
  subst e
  have := hstep.get i o hi
  simp only [Nat.zero_add] at this ⊢
  exact this v hd
end
theorem below_drew (w : World) : Below w.heap.size w w.drew := ⟨rfl, rfl, rfl, Nat.le_refl _, fun _ _ => rfl⟩
end Go.Proofs.YtjdffhonljhpcaaGreat
end

section
/-
  Which blocks a call may turn: Keeps; rows and blocks behind such a call.
-/
namespace Go.Proofs.YtjdffhonljhpcaaGreat
set_option linter.unusedSimpArgs false
set_option linter.unusedVariables false
open Go.RowKit

/-- No block that was there turns, but those of S. -/
structure Keeps (w w' : World) (S : Nat → Prop) : Prop where
  os : w'.os = w.os
  tape : w'.tape = w.tape
  output : w'.output = w.output
  size : w.heap.size ≤ w'.heap.size
  block : ∀ k, k < w.heap.size → ¬ S k → w'.heap[k]? = w.heap[k]?
theorem Keeps.refl (w : World) (S : Nat → Prop) : Keeps w w S := ⟨rfl, rfl, rfl, Nat.le_refl _, fun _ _ _ => rfl⟩
theorem Keeps.trans {a b c : World} {S : Nat → Prop} (h : Keeps a b S) (k : Keeps b c S) : Keeps a c S :=
  ⟨k.os.trans h.os, k.tape.trans h.tape, k.output.trans h.output, Nat.le_trans h.size k.size, fun i hi hn => (k.block i (Nat.lt_of_lt_of_le hi h.size) hn).trans (h.block i hi hn)⟩
theorem Keeps.of_below {w w' : World} {S : Nat → Prop} (h : Below w.heap.size w w') : Keeps w w' S := ⟨h.os, h.tape, h.output, h.size, fun k hk _ => h.block k hk⟩
theorem Keeps.set {w w' : World} {S : Nat → Prop} (h : Keeps w w' S) (p : Addr) (hp : S p.block ∨ w.heap.size ≤ p.block) (u : Value) : Keeps w (w'.setCell p u) S :=
  ⟨h.os, h.tape, h.output, by simpa using h.size, fun k hk hn => (heap_setCell_other w' p k u (fun e => by
    rcases hp with hp | hp
    · exact hn (e ▸ hp)
    · omega)).trans (h.block k hk hn)⟩
theorem Keeps.below {B : Nat} {w0 w w' : World} {S : Nat → Prop} (h : Keeps w w' S) (hb : Below B w0 w) (hB : B ≤ w.heap.size) (hS : ∀ k, S k → B ≤ k) : Below B w0 w' :=
  hb.trans ⟨h.os, h.tape, h.output, h.size, fun k hk => h.block k (Nat.lt_of_lt_of_le hk hB) (fun hs => by have := hS k hs; omega)⟩
theorem Row.kept {w w' : World} {A : Option Addr} {xs : List Value} {S : Nat → Prop} (h : Row w A xs) (hk : Keeps w w' S) (hf : ∀ a, A = some a → ¬ S a.block) : Row w' A xs := fun hl => by
  obtain ⟨b, o, rfl, hlt, hc⟩ := h hl
  exact ⟨b, o, rfl, Nat.lt_of_lt_of_le hlt hk.size, fun j hj => (World.cell?_of_block (hk.block b hlt (hf _ rfl))).trans (hc j hj)⟩
theorem BRow.kept {w w' : World} {A : Option Addr} {l : List UInt8} {S : Nat → Prop} (h : BRow w A l) (hk : Keeps w w' S) (hf : ∀ a, A = some a → ¬ S a.block) : BRow w' A l := Row.kept h hk hf
theorem BRow.kept0 {w w' : World} {A : Option Addr} {l : List UInt8} {S : Nat → Prop} (h : BRow w A l) (hk : Keeps w w' S) (hf : l ≠ [] → ∀ a, A = some a → ¬ S a.block) : BRow w' A l := by
  cases l with
  | nil => exact BRow.nil
  | cons x l => exact h.kept hk (hf (by simp))
theorem Keeps.grown {w w' w'' : World} {S : Nat → Prop} {g : Nat} (h : Keeps w w' S) (hg : w'.grownBy w'' (some g)) (hs : S g) : Keeps w w'' S :=
  h.trans ⟨hg.os, hg.tape, hg.output, hg.size, fun k hk hn => hg.block k hk (by simp; rintro rfl; exact hn hs)⟩

theorem Blk.kept {w w' : World} {g : Nat} {T : TypeId} {cs : List Value} {S : Nat → Prop} (h : Blk w g T cs) (hk : Keeps w w' S) (hg : ¬ S g) : Blk w' g T cs := (hk.block _ h.lt hg).trans h
theorem ERow.kept {α : Type} {E : Elem α} {w w' : World} {A : Option Addr} {L : List α} {S : Nat → Prop} (h : ERow E w A L) (hk : Keeps w w' S) (hf : L ≠ [] → ∀ a, A = some a → ¬ S a.block) : ERow E w' A L := by
  cases L with
  | nil => exact ERow.nil
  | cons x L => exact h.keep hk.size (fun a ha hl => hk.block _ hl (hf (by simp) a ha))
theorem EOwn.keptK {α : Type} {E : Elem α} {w w' : World} {B c : Nat} {A : Option Addr} {L : List α} {S : Nat → Prop} (h : EOwn E w B A c L) (hk : Keeps w w' S) (hf : ∀ a, A = some a → ¬ S a.block) : EOwn E w' B A c L :=
  h.keep fun a ha => hk.block _ (h.block a ha).2 (hf a ha)
theorem Keeps.of_grown {w w' : World} {g : Nat} (h : w.grownBy w' (some g)) : Keeps w w' (fun k => k = g) := ⟨h.os, h.tape, h.output, h.size, fun k hk hn => h.block k hk (by simpa using hn)⟩
theorem Keeps.mono {w w' : World} {S T : Nat → Prop} (h : Keeps w w' S) (hS : ∀ k, S k → T k) : Keeps w w' T := ⟨h.os, h.tape, h.output, h.size, fun k hk hn => h.block k hk (fun hs => hn (hS k hs))⟩
theorem BOwn.keptK {w w' : World} {B c : Nat} {A : Option Addr} {l : List UInt8} {S : Nat → Prop} (h : BOwn w B A c l) (hk : Keeps w w' S) (hf : ∀ a, A = some a → ¬ S a.block) : BOwn w' B A c l := by
  refine ⟨h.1, ?_⟩
  rcases h.2 with h2 | ⟨g, cap, cur, hv, hb, hg, r⟩
  · exact .inl h2
  · refine .inr ⟨g, cap, cur, hv, hb, ?_, r⟩
    simp only [Value.slice.injEq] at hv
    exact (hk.block g (Array.getElem?_eq_some_iff.1 hg).1 (hf _ hv.1)).trans hg
theorem BRow.ne_blk {w : World} {A : Option Addr} {l : List UInt8} {g : Nat} {T : TypeId} {cs : List Value} (h : BRow w A l) (hl : l ≠ []) (hb : Blk w g T cs) (hc : ∀ v ∈ cs, ∀ n, v ≠ .int .u8 n) : ∀ a, A = some a → a.block ≠ g := by
  rintro a ha rfl
  obtain ⟨b, o, e, _, hcell⟩ := h (by cases l with | nil => exact absurd rfl hl | cons x l => simp)
  rw [ha] at e
  obtain rfl := Option.some.inj e
  have h0 := hcell 0 (by cases l with | nil => exact absurd rfl hl | cons x l => simp)
  rw [hb.cell] at h0
  obtain ⟨hlt, he⟩ := List.getElem?_eq_some_iff.1 h0
  rw [List.getElem_map] at he
  exact hc _ (List.getElem_mem hlt) _ he
theorem BRow.grown_blk {w w' : World} {A : Option Addr} {l : List UInt8} {g : Nat} {T : TypeId} {cs : List Value} (h : BRow w A l) (hg : w.grownBy w' (some g)) (hb : Blk w g T cs) (hc : ∀ v ∈ cs, ∀ n, v ≠ .int .u8 n) : BRow w' A l := by
  cases l with
  | nil => exact BRow.nil
  | cons y l =>
    obtain ⟨b, o, e, hlt, hcell⟩ := h (by simp)
    have hne := h.ne_blk (by simp) hb hc _ e
    exact fun _ => ⟨b, o, e, Nat.lt_of_lt_of_le hlt hg.size, fun j hj => (World.cell?_of_block (a := ⟨b, o + j, none⟩) (hg.block b hlt (by simp; exact hne))).trans (hcell j hj)⟩
theorem bump_byte (c : UInt8) : bv (UInt8.ofNat (c.toNat + 1)) = .int .u8 (((c.toNat : Int) + 1) % 256) := by
  simp [bv]
/-- An operation that writes memory and has no value. -/
theorem opDoes_skip {P : Program} {Q : Exit → Act → World → Prop} {l : List Oper} {o : Oper} {a : Act} {w w' : World} {T : Value → World → Prop} (hg : o.guard = none) (hr : (execOp a.eval o).run P w = .ok .skip w') (h : T undef w') : opDoes P l o Q a w T :=
  opDoes_plain hg fun K hK => by
    unfold Oper.wp
    rw [hr]
    exact hK _ _ h
end Go.Proofs.YtjdffhonljhpcaaGreat
end

