/-
  Plain facts on the check sum of bytes (CRC-32), with no program in sight: the sum bit by bit, its linearity, and that a row of at most 32 turned bits is seen.
-/
namespace Go.Proofs.Ytgdlfihiheeniaa.Crc

/-- One bit of the sum's register. -/
def bit (s : Nat) : Nat := if s % 2 = 1 then (s / 2) ^^^ 3988292384 else s / 2
/-- k bits. -/
def bits : Nat → Nat → Nat
  | 0, s => s
  | k + 1, s => bit (bits k s)
/-- One byte. -/
def byte (s : Nat) (c : UInt8) : Nat := bits 8 (s ^^^ c.toNat)
/-- The register behind some bytes. -/
def run (s : Nat) (l : List UInt8) : Nat := l.foldl byte s
/-- The sum. -/
def sum (l : List UInt8) : Nat := run 4294967295 l ^^^ 4294967295

theorem run_nil (s : Nat) : run s [] = s := by unfold run; rw [List.foldl_nil]
theorem run_cons (s : Nat) (c : UInt8) (l : List UInt8) : run s (c :: l) = run (byte s c) l := by unfold run; rw [List.foldl_cons]
theorem run_append (s : Nat) (a b : List UInt8) : run s (a ++ b) = run (run s a) b := by
  unfold run; rw [List.foldl_append]
theorem run_snoc (s : Nat) (l : List UInt8) (c : UInt8) : run s (l ++ [c]) = byte (run s l) c := by rw [run_append, run_cons, run_nil]

theorem xor_lt {x y : Nat} (hx : x < 4294967296) (hy : y < 4294967296) : x ^^^ y < 4294967296 := by
  have h := Nat.xor_lt_two_pow (n := 32) (x := x) (y := y) (by omega) (by omega)
  omega
theorem bit_lt {s : Nat} (h : s < 4294967296) : bit s < 4294967296 := by
  unfold bit
  split
  · exact xor_lt (by omega) (by omega)
  · omega
theorem bits_lt {s : Nat} (k : Nat) (h : s < 4294967296) : bits k s < 4294967296 := by
  induction k with
  | zero => exact h
  | succ k ih => exact bit_lt ih
theorem byte_lt {s : Nat} (c : UInt8) (h : s < 4294967296) : byte s c < 4294967296 :=
  bits_lt 8 (xor_lt h (by have := c.toNat_lt; omega))
theorem run_lt {s : Nat} (l : List UInt8) (h : s < 4294967296) : run s l < 4294967296 := by
  induction l generalizing s with
  | nil => exact h
  | cons c l ih => exact ih (byte_lt c h)
theorem sum_lt (l : List UInt8) : sum l < 4294967296 := xor_lt (run_lt l (by omega)) (by omega)

theorem bits_add (a b s : Nat) : bits (a + b) s = bits a (bits b s) := by
  induction a with
  | zero => simp [bits]
  | succ a ih => rw [Nat.succ_add]; simp only [bits, ih]

/-! Linear -/
theorem xor_mod (x y : Nat) : (x ^^^ y) % 2 = if x % 2 = y % 2 then 0 else 1 := by
  have h := @Nat.xor_mod_two_eq_one x y
  by_cases e : x % 2 = y % 2
  · rw [if_pos e]
    rcases Nat.mod_two_eq_zero_or_one (x ^^^ y) with h0 | h0
    · exact h0
    · exact absurd (h.1 h0) (by rw [e]; simp)
  · rw [if_neg e]
    refine h.2 fun hh => e ?_
    rcases Nat.mod_two_eq_zero_or_one x with a | a <;> rcases Nat.mod_two_eq_zero_or_one y with b | b <;> simp_all
theorem bit_zero : bit 0 = 0 := by simp [bit]
theorem bits_zero (k : Nat) : bits k 0 = 0 := by
  induction k with
  | zero => rfl
  | succ k ih => simp only [bits, ih, bit_zero]
theorem xor4 (a b p : Nat) : (a ^^^ p) ^^^ (b ^^^ p) = a ^^^ b := by
  rw [Nat.xor_assoc, Nat.xor_comm b p, ← Nat.xor_assoc p p b, Nat.xor_self, Nat.zero_xor]
theorem xor_r (a b p : Nat) : (a ^^^ b) ^^^ p = (a ^^^ p) ^^^ b := by
  rw [Nat.xor_assoc, Nat.xor_comm b p, ← Nat.xor_assoc]
theorem bit_xor (x y : Nat) : bit (x ^^^ y) = bit x ^^^ bit y := by
  unfold bit
  rw [xor_mod, Nat.xor_div_two]
  rcases Nat.mod_two_eq_zero_or_one x with a | a <;> rcases Nat.mod_two_eq_zero_or_one y with b | b <;> simp [a, b]
  · rw [Nat.xor_assoc]
  · rw [xor_r]
  · exact (xor4 _ _ _).symm
theorem bits_xor (k x y : Nat) : bits k (x ^^^ y) = bits k x ^^^ bits k y := by
  induction k with
  | zero => rfl
  | succ k ih => simp only [bits, ih, bit_xor]

/-- The bits of a byte one by one: the register with bit number i of the byte taken in. -/
def bit' (s c : Nat) : Nat := if s % 2 = c % 2 then s / 2 else (s / 2) ^^^ 3988292384
theorem bit_in (s c : Nat) : bit (s ^^^ c) = bit' s c ^^^ (c / 2) := by
  unfold bit bit'
  rw [xor_mod, Nat.xor_div_two]
  by_cases e : s % 2 = c % 2
  · simp [e]
  · simp only [if_neg e, if_true]
    exact xor_r _ _ _
def bits' : Nat → Nat → Nat → Nat
  | 0, s, _ => s
  | k + 1, s, c => bit' (bits' k s c) (c / 2 ^ k)
theorem bits_in (k s c : Nat) : bits k (s ^^^ c) = bits' k s c ^^^ (c / 2 ^ k) := by
  induction k with
  | zero => simp [bits, bits']
  | succ k ih =>
    simp only [bits, bits', ih]
    rw [bit_in, Nat.div_div_eq_div_mul, ← Nat.pow_succ]
theorem byte_eq (s : Nat) (c : UInt8) : byte s c = bits' 8 s c.toNat := by
  have h := c.toNat_lt
  rw [byte, bits_in, Nat.div_eq_of_lt (by omega), Nat.xor_zero]
theorem bits'_lt {s : Nat} (k c : Nat) (h : s < 4294967296) : bits' k s c < 4294967296 := by
  induction k with
  | zero => exact h
  | succ k ih =>
    simp only [bits', bit']
    split
    · omega
    · exact xor_lt (by omega) (by omega)

/-! The register is linear in the register and the bytes together. -/
theorem xor_swap (a b c d : Nat) : (a ^^^ b) ^^^ (c ^^^ d) = (a ^^^ c) ^^^ (b ^^^ d) := by
  rw [Nat.xor_assoc, ← Nat.xor_assoc b c d, Nat.xor_comm b c, Nat.xor_assoc c b d, ← Nat.xor_assoc]
theorem byte_xor (s t : Nat) (c d : UInt8) : byte (s ^^^ t) (c ^^^ d) = byte s c ^^^ byte t d := by
  unfold byte
  rw [UInt8.toNat_xor, xor_swap, bits_xor]
theorem run_xor : ∀ (l m : List UInt8) (s t : Nat), l.length = m.length → run (s ^^^ t) (List.zipWith (· ^^^ ·) l m) = run s l ^^^ run t m
  | [], [], s, t, _ => rfl
  | c :: l, d :: m, s, t, h => by
    simp only [List.zipWith_cons_cons, run_cons]
    rw [byte_xor]
    exact run_xor l m _ _ (by simpa using h)
  | [], _ :: _, _, _, h => by simp at h
  | _ :: _, [], _, _, h => by simp at h

/-- The sums of three texts of one length, added without carry, are that of the three texts added so. -/
theorem sum_adds (a b c : List UInt8) (hb : a.length = b.length) (hc : a.length = c.length) :
    sum a ^^^ sum b ^^^ sum c = sum (List.zipWith (· ^^^ ·) (List.zipWith (· ^^^ ·) a b) c) := by
  unfold sum
  have h1 := run_xor a b 4294967295 4294967295 hb
  have h2 := run_xor (List.zipWith (· ^^^ ·) a b) c (4294967295 ^^^ 4294967295) 4294967295 (by simp [← hb, hc])
  rw [h1, Nat.xor_self, Nat.zero_xor] at h2
  rw [h2, xor4, ← Nat.xor_assoc]

theorem xor_ones (s : Nat) (h : s < 4294967296) : s ^^^ 4294967295 = 4294967295 - s := by
  apply Nat.eq_of_testBit_eq
  intro i
  rw [Nat.testBit_xor, show 4294967295 - s = 2 ^ 32 - (s + 1) from by omega, Nat.testBit_two_pow_sub_succ (by omega), show (4294967295 : Nat) = 2 ^ 32 - 1 from rfl, Nat.testBit_two_pow_sub_one]
  by_cases hi : i < 32
  · simp [hi]
  · have : s.testBit i = false := Nat.testBit_lt_two_pow (Nat.lt_of_lt_of_le h (by
      have := Nat.pow_le_pow_right (n := 2) (by omega) (show 32 ≤ i by omega)
      simpa using this))
    simp [hi, this]
/-- The register behind k bits of a text. -/
def reg (l : List UInt8) (k : Nat) : Nat := bits' (k % 8) (run 4294967295 (l.take (k / 8))) (l.getD (k / 8) 0).toNat
theorem reg_zero (l : List UInt8) : reg l 0 = 4294967295 := by simp [reg, run_nil, bits']
theorem reg_lt (l : List UInt8) (k : Nat) : reg l k < 4294967296 := bits'_lt _ _ (run_lt _ (by omega))
theorem reg_step (l : List UInt8) (k : Nat) (h : k / 8 < l.length) : reg l (k + 1) = bit' (reg l k) (l[k / 8].toNat / 2 ^ (k % 8)) := by
  have hg : l.getD (k / 8) 0 = l[k / 8] := by simp [h]
  unfold reg
  by_cases h7 : k % 8 = 7
  · have e1 : (k + 1) % 8 = 0 := by omega
    have e2 : (k + 1) / 8 = k / 8 + 1 := by omega
    rw [e1, e2, List.take_succ_eq_append_getElem h, run_snoc, byte_eq, hg, h7]
    rfl
  · have e1 : (k + 1) % 8 = k % 8 + 1 := by omega
    have e2 : (k + 1) / 8 = k / 8 := by omega
    rw [e1, e2, hg]
    rfl
theorem reg_end (l : List UInt8) : 4294967295 - reg l (8 * l.length) = sum l := by
  have e : reg l (8 * l.length) = run 4294967295 l := by
    unfold reg
    rw [Nat.mul_mod_right, Nat.mul_div_cancel_left _ (by omega), List.take_length]
    rfl
  rw [e, sum, xor_ones _ (run_lt _ (by omega))]

/-- Four bytes of a number, the least first. -/
def le4 (s : Nat) : List UInt8 := [UInt8.ofNat s, UInt8.ofNat (s / 256), UInt8.ofNat (s / 65536), UInt8.ofNat (s / 16777216)]
/-- Bytes with their sum behind them. -/
def sealed (l : List UInt8) : List UInt8 := l ++ le4 (sum l)

/-! A bit turned in the register is never lost. -/
theorem xor_eq_zero {a b : Nat} (h : a ^^^ b = 0) : a = b := by
  have e : (a ^^^ b) ^^^ b = b := by rw [h, Nat.zero_xor]
  rwa [Nat.xor_assoc, Nat.xor_self, Nat.xor_zero] at e
theorem bit_ne {s : Nat} (h : s < 4294967296) (h0 : s ≠ 0) : bit s ≠ 0 := by
  unfold bit
  split
  · intro e
    have := xor_eq_zero e
    omega
  · omega
theorem bits_ne {s : Nat} (k : Nat) (h : s < 4294967296) (h0 : s ≠ 0) : bits k s ≠ 0 := by
  induction k with
  | zero => exact h0
  | succ k ih => exact bit_ne (bits_lt k h) ih
theorem byte_zero (s : Nat) : byte s 0 = bits 8 s := by simp [byte]
theorem run_zeros (s k : Nat) : run s (List.replicate k 0) = bits (8 * k) s := by
  induction k generalizing s with
  | zero => rfl
  | succ k ih => rw [List.replicate_succ, run_cons, byte_zero, ih, ← bits_add]; rfl
theorem run_ne {s : Nat} (k : Nat) (h : s < 4294967296) (h0 : s ≠ 0) : run s (List.replicate k 0) ≠ 0 := by
  rw [run_zeros]; exact bits_ne _ h h0
end Go.Proofs.Ytgdlfihiheeniaa.Crc
