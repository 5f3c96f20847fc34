/-
  Plain facts on the check sum of bytes (CRC-32), with no program in sight: the sum bit by bit, its linearity, and that a row of at most 32 turned bits is seen.
-/
namespace Go.Proofs.Ytgdlfihiheeniaa.Crc

/-- One bit of the sum's register. -/
def bit (s : Nat) : Nat := if s % 2 = 1 then (s / 2) ^^^ 3988292384 else s / 2
/-- k bits. -/
def bits : Nat → Nat → Nat
  | 0, s => s
  | k + 1, s => bit (bits k s)
/-- One byte. -/
def byte (s : Nat) (c : UInt8) : Nat := bits 8 (s ^^^ c.toNat)
/-- The register behind some bytes. -/
def run (s : Nat) (l : List UInt8) : Nat := l.foldl byte s
/-- The sum. -/
def sum (l : List UInt8) : Nat := run 4294967295 l ^^^ 4294967295

theorem run_nil (s : Nat) : run s [] = s := by unfold run; rw [List.foldl_nil]
theorem run_cons (s : Nat) (c : UInt8) (l : List UInt8) : run s (c :: l) = run (byte s c) l := by unfold run; rw [List.foldl_cons]
theorem run_append (s : Nat) (a b : List UInt8) : run s (a ++ b) = run (run s a) b := by
  unfold run; rw [List.foldl_append]
theorem run_snoc (s : Nat) (l : List UInt8) (c : UInt8) : run s (l ++ [c]) = byte (run s l) c := by rw [run_append, run_cons, run_nil]

theorem xor_lt {x y : Nat} (hx : x < 4294967296) (hy : y < 4294967296) : x ^^^ y < 4294967296 := by
  have h := Nat.xor_lt_two_pow (n := 32) (x := x) (y := y) (by omega) (by omega)
  omega
theorem bit_lt {s : Nat} (h : s < 4294967296) : bit s < 4294967296 := by
  unfold bit
  split
  · exact xor_lt (by omega) (by omega)
  · omega
theorem bits_lt {s : Nat} (k : Nat) (h : s < 4294967296) : bits k s < 4294967296 := by
  induction k with
  | zero => exact h
  | succ k ih => exact bit_lt ih
theorem byte_lt {s : Nat} (c : UInt8) (h : s < 4294967296) : byte s c < 4294967296 :=
  bits_lt 8 (xor_lt h (by have := c.toNat_lt; omega))
theorem run_lt {s : Nat} (l : List UInt8) (h : s < 4294967296) : run s l < 4294967296 := by
  induction l generalizing s with
  | nil => exact h
  | cons c l ih => exact ih (byte_lt c h)
theorem sum_lt (l : List UInt8) : sum l < 4294967296 := xor_lt (run_lt l (by omega)) (by omega)

theorem bits_add (a b s : Nat) : bits (a + b) s = bits a (bits b s) := by
  induction a with
  | zero => simp [bits]
  | succ a ih => rw [Nat.succ_add]; simp only [bits, ih]

/-! Linear -/
theorem xor_mod (x y : Nat) : (x ^^^ y) % 2 = if x % 2 = y % 2 then 0 else 1 := by
  have h := @Nat.xor_mod_two_eq_one x y
  by_cases e : x % 2 = y % 2
  · rw [if_pos e]
    rcases Nat.mod_two_eq_zero_or_one (x ^^^ y) with h0 | h0
    · exact h0
    · exact absurd (h.1 h0) (by rw [e]; simp)
  · rw [if_neg e]
    refine h.2 fun hh => e ?_
    rcases Nat.mod_two_eq_zero_or_one x with a | a <;> rcases Nat.mod_two_eq_zero_or_one y with b | b <;> simp_all
theorem bit_zero : bit 0 = 0 := by simp [bit]
theorem bits_zero (k : Nat) : bits k 0 = 0 := by
  induction k with
  | zero => rfl
  | succ k ih => simp only [bits, ih, bit_zero]
theorem xor4 (a b p : Nat) : (a ^^^ p) ^^^ (b ^^^ p) = a ^^^ b := by
  rw [Nat.xor_assoc, Nat.xor_comm b p, ← Nat.xor_assoc p p b, Nat.xor_self, Nat.zero_xor]
theorem xor_r (a b p : Nat) : (a ^^^ b) ^^^ p = (a ^^^ p) ^^^ b := by
  rw [Nat.xor_assoc, Nat.xor_comm b p, ← Nat.xor_assoc]
theorem bit_xor (x y : Nat) : bit (x ^^^ y) = bit x ^^^ bit y := by
  unfold bit
  rw [xor_mod, Nat.xor_div_two]
  rcases Nat.mod_two_eq_zero_or_one x with a | a <;> rcases Nat.mod_two_eq_zero_or_one y with b | b <;> simp [a, b]
  · rw [Nat.xor_assoc]
  · rw [xor_r]
  · exact (xor4 _ _ _).symm
theorem bits_xor (k x y : Nat) : bits k (x ^^^ y) = bits k x ^^^ bits k y := by
  induction k with
  | zero => rfl
  | succ k ih => simp only [bits, ih, bit_xor]

/-- The bits of a byte one by one: the register with bit number i of the byte taken in. -/
def bit' (s c : Nat) : Nat := if s % 2 = c % 2 then s / 2 else (s / 2) ^^^ 3988292384
theorem bit_in (s c : Nat) : bit (s ^^^ c) = bit' s c ^^^ (c / 2) := by
  unfold bit bit'
  rw [xor_mod, Nat.xor_div_two]
  by_cases e : s % 2 = c % 2
  · simp [e]
  · simp only [if_neg e, if_true]
    exact xor_r _ _ _
def bits' : Nat → Nat → Nat → Nat
  | 0, s, _ => s
  | k + 1, s, c => bit' (bits' k s c) (c / 2 ^ k)
theorem bits_in (k s c : Nat) : bits k (s ^^^ c) = bits' k s c ^^^ (c / 2 ^ k) := by
  induction k with
  | zero => simp [bits, bits']
  | succ k ih =>
    simp only [bits, bits', ih]
    rw [bit_in, Nat.div_div_eq_div_mul, ← Nat.pow_succ]
theorem byte_eq (s : Nat) (c : UInt8) : byte s c = bits' 8 s c.toNat := by
  have h := c.toNat_lt
  rw [byte, bits_in, Nat.div_eq_of_lt (by omega), Nat.xor_zero]
theorem bits'_lt {s : Nat} (k c : Nat) (h : s < 4294967296) : bits' k s c < 4294967296 := by
  induction k with
  | zero => exact h
  | succ k ih =>
    simp only [bits', bit']
    split
    · omega
    · exact xor_lt (by omega) (by omega)

/-! The register is linear in the register and the bytes together. -/
theorem xor_swap (a b c d : Nat) : (a ^^^ b) ^^^ (c ^^^ d) = (a ^^^ c) ^^^ (b ^^^ d) := by
  rw [Nat.xor_assoc, ← Nat.xor_assoc b c d, Nat.xor_comm b c, Nat.xor_assoc c b d, ← Nat.xor_assoc]
theorem byte_xor (s t : Nat) (c d : UInt8) : byte (s ^^^ t) (c ^^^ d) = byte s c ^^^ byte t d := by
  unfold byte
  rw [UInt8.toNat_xor, xor_swap, bits_xor]
theorem run_xor : ∀ (l m : List UInt8) (s t : Nat), l.length = m.length → run (s ^^^ t) (List.zipWith (· ^^^ ·) l m) = run s l ^^^ run t m
  | [], [], s, t, _ => rfl
  | c :: l, d :: m, s, t, h => by
    simp only [List.zipWith_cons_cons, run_cons]
    rw [byte_xor]
    exact run_xor l m _ _ (by simpa using h)
  | [], _ :: _, _, _, h => by simp at h
  | _ :: _, [], _, _, h => by simp at h

/-- The sums of three texts of one length, added without carry, are that of the three texts added so. -/
theorem sum_adds (a b c : List UInt8) (hb : a.length = b.length) (hc : a.length = c.length) :
    sum a ^^^ sum b ^^^ sum c = sum (List.zipWith (· ^^^ ·) (List.zipWith (· ^^^ ·) a b) c) := by
  unfold sum
  have h1 := run_xor a b 4294967295 4294967295 hb
  have h2 := run_xor (List.zipWith (· ^^^ ·) a b) c (4294967295 ^^^ 4294967295) 4294967295 (by simp [← hb, hc])
  rw [h1, Nat.xor_self, Nat.zero_xor] at h2
  rw [h2, xor4, ← Nat.xor_assoc]

theorem xor_ones (s : Nat) (h : s < 4294967296) : s ^^^ 4294967295 = 4294967295 - s := by
  apply Nat.eq_of_testBit_eq
  intro i
  rw [Nat.testBit_xor, show 4294967295 - s = 2 ^ 32 - (s + 1) from by omega, Nat.testBit_two_pow_sub_succ (by omega), show (4294967295 : Nat) = 2 ^ 32 - 1 from rfl, Nat.testBit_two_pow_sub_one]
  by_cases hi : i < 32
  · simp [hi]
  · have : s.testBit i = false := Nat.testBit_lt_two_pow (Nat.lt_of_lt_of_le h (by
      have := Nat.pow_le_pow_right (n := 2) (by omega) (show 32 ≤ i by omega)
      simpa using this))
    simp [hi, this]
/-- The register behind k bits of a text. -/
def reg (l : List UInt8) (k : Nat) : Nat := bits' (k % 8) (run 4294967295 (l.take (k / 8))) (l.getD (k / 8) 0).toNat
theorem reg_zero (l : List UInt8) : reg l 0 = 4294967295 := by simp [reg, run_nil, bits']
theorem reg_lt (l : List UInt8) (k : Nat) : reg l k < 4294967296 := bits'_lt _ _ (run_lt _ (by omega))
theorem reg_step (l : List UInt8) (k : Nat) (h : k / 8 < l.length) : reg l (k + 1) = bit' (reg l k) (l[k / 8].toNat / 2 ^ (k % 8)) := by
  have hg : l.getD (k / 8) 0 = l[k / 8] := by simp [h]
  unfold reg
  by_cases h7 : k % 8 = 7
  · have e1 : (k + 1) % 8 = 0 := by omega
    have e2 : (k + 1) / 8 = k / 8 + 1 := by omega
    rw [e1, e2, List.take_succ_eq_append_getElem h, run_snoc, byte_eq, hg, h7]
    rfl
  · have e1 : (k + 1) % 8 = k % 8 + 1 := by omega
    have e2 : (k + 1) / 8 = k / 8 := by omega
    rw [e1, e2, hg]
    rfl
theorem reg_end (l : List UInt8) : 4294967295 - reg l (8 * l.length) = sum l := by
  have e : reg l (8 * l.length) = run 4294967295 l := by
    unfold reg
    rw [Nat.mul_mod_right, Nat.mul_div_cancel_left _ (by omega), List.take_length]
    rfl
  rw [e, sum, xor_ones _ (run_lt _ (by omega))]

/-- Four bytes of a number, the least first. -/
def le4 (s : Nat) : List UInt8 := [UInt8.ofNat s, UInt8.ofNat (s / 256), UInt8.ofNat (s / 65536), UInt8.ofNat (s / 16777216)]
/-- Bytes with their sum behind them. -/
def sealed (l : List UInt8) : List UInt8 := l ++ le4 (sum l)

/-! A bit turned in the register is never lost. -/
theorem xor_eq_zero {a b : Nat} (h : a ^^^ b = 0) : a = b := by
  have e : (a ^^^ b) ^^^ b = b := by rw [h, Nat.zero_xor]
  rwa [Nat.xor_assoc, Nat.xor_self, Nat.xor_zero] at e
theorem bit_ne {s : Nat} (h : s < 4294967296) (h0 : s ≠ 0) : bit s ≠ 0 := by
  unfold bit
  split
  · intro e
    have := xor_eq_zero e
    omega
  · omega
theorem bits_ne {s : Nat} (k : Nat) (h : s < 4294967296) (h0 : s ≠ 0) : bits k s ≠ 0 := by
  induction k with
  | zero => exact h0
  | succ k ih => exact bit_ne (bits_lt k h) ih
theorem byte_zero (s : Nat) : byte s 0 = bits 8 s := by simp [byte]
theorem run_zeros (s k : Nat) : run s (List.replicate k 0) = bits (8 * k) s := by
  induction k generalizing s with
  | zero => rfl
  | succ k ih => rw [List.replicate_succ, run_cons, byte_zero, ih, ← bits_add]; rfl
theorem run_ne {s : Nat} (k : Nat) (h : s < 4294967296) (h0 : s ≠ 0) : run s (List.replicate k 0) ≠ 0 := by
  rw [run_zeros]; exact bits_ne _ h h0

/-! Bits of a number taken in one by one. -/
theorem bit'_mod (s c : Nat) : bit' s (c % 2) = bit' s c := by unfold bit'; rw [Nat.mod_mod]
theorem bits'_add (a b s c : Nat) : bits' (a + b) s c = bits' b (bits' a s c) (c / 2 ^ a) := by
  induction b with
  | zero => rfl
  | succ b ih =>
    rw [← Nat.add_assoc]
    simp only [bits']
    rw [ih, Nat.div_div_eq_div_mul, ← Nat.pow_add]
theorem bits'_low (k s c : Nat) : bits' k s (c % 2 ^ k) = bits' k s c := by
  have key : ∀ j, j ≤ k → bits' j s (c % 2 ^ k) = bits' j s c := by
    intro j
    induction j with
    | zero => intro _; rfl
    | succ j ih =>
      intro hj
      simp only [bits']
      rw [ih (by omega), ← bit'_mod _ (c % 2 ^ k / 2 ^ j), ← bit'_mod _ (c / 2 ^ j)]
      congr 1
      have h : 2 ^ k = 2 ^ j * 2 ^ (k - j) := by rw [← Nat.pow_add]; congr 1; omega
      rw [h, Nat.mod_mul_right_div_self]
      have h2 : 2 ^ (k - j) = 2 * 2 ^ (k - j - 1) := by
        rw [← Nat.pow_succ']; congr 1; omega
      rw [h2, Nat.mod_mul_right_mod]
  exact key k (Nat.le_refl k)
/-- The N bytes of a number, the least first. -/
def bytesOf (N M : Nat) : List UInt8 := (List.range N).map fun j => UInt8.ofNat (M / 256 ^ j)
theorem bytesOf_length (N M : Nat) : (bytesOf N M).length = N := by simp [bytesOf]
theorem bytesOf_succ (N M : Nat) : bytesOf (N + 1) M = bytesOf N M ++ [UInt8.ofNat (M / 256 ^ N)] := by
  simp [bytesOf, List.range_succ]
theorem pow256 (N : Nat) : 256 ^ N = 2 ^ (8 * N) := by rw [show (256 : Nat) = 2 ^ 8 from rfl, ← Nat.pow_mul]
theorem run_bytesOf (s N M : Nat) : run s (bytesOf N M) = bits' (8 * N) s M := by
  induction N with
  | zero => rw [bytesOf, List.range_zero, List.map_nil, run_nil]; rfl
  | succ N ih =>
    rw [bytesOf_succ, run_snoc, ih, byte_eq, show 8 * (N + 1) = 8 * N + 8 from by omega, bits'_add, pow256]
    have h : (UInt8.ofNat (M / 2 ^ (8 * N))).toNat = M / 2 ^ (8 * N) % 2 ^ 8 := by simp
    rw [h, bits'_low]
theorem bits_shift (k t : Nat) : bits k (t * 2 ^ k) = t := by
  induction k generalizing t with
  | zero => simp [bits]
  | succ k ih =>
    simp only [bits]
    rw [Nat.pow_succ, ← Nat.mul_assoc, Nat.mul_right_comm, ih]
    unfold bit
    rw [if_neg (by omega)]
    omega
/-- A row of at most 32 turned bits is seen. -/
theorem burst_ne (N k t : Nat) (ht : t ≠ 0) (h32 : t < 4294967296) (hk : k + 32 ≤ 8 * N) : run 0 (bytesOf N (t * 2 ^ k)) ≠ 0 := by
  rw [run_bytesOf]
  have hM : t * 2 ^ k < 2 ^ (8 * N) := by
    have h1 : t * 2 ^ k < 2 ^ 32 * 2 ^ k := Nat.mul_lt_mul_of_pos_right (by omega) (Nat.pow_pos (by omega))
    rw [← Nat.pow_add] at h1
    exact Nat.lt_of_lt_of_le h1 (Nat.pow_le_pow_right (by omega) (by omega))
  have h := bits_in (8 * N) 0 (t * 2 ^ k)
  rw [Nat.zero_xor, Nat.div_eq_of_lt hM, Nat.xor_zero] at h
  rw [← h, show 8 * N = (8 * N - k) + k from by omega, bits_add, bits_shift]
  exact bits_ne _ h32 ht
theorem le4_bytesOf (s : Nat) : le4 s = bytesOf 4 s := by
  simp [le4, bytesOf, List.range_succ]
/-- What the register holds behind sealed bytes. -/
theorem run_sealed (l : List UInt8) : run 4294967295 (sealed l) = bits 32 4294967295 := by
  unfold sealed
  rw [run_append, le4_bytesOf, run_bytesOf]
  have hs := sum_lt l
  have h := bits_in 32 (run 4294967295 l) (sum l)
  rw [Nat.div_eq_of_lt (by omega), Nat.xor_zero] at h
  rw [show 8 * 4 = 32 from rfl, ← h, sum, ← Nat.xor_assoc, Nat.xor_self, Nat.zero_xor]
theorem sealed_length (l : List UInt8) : (sealed l).length = l.length + 4 := by simp [sealed, le4]
/-- Sealed bytes, of which a row of at most 32 bits is turned, are no sealed bytes. -/
theorem burst (l : List UInt8) (k t : Nat) (ht : t ≠ 0) (h32 : t < 4294967296) (hk : k + 32 ≤ 8 * (l.length + 4)) (a : List UInt8) :
    sealed a ≠ List.zipWith (· ^^^ ·) (sealed l) (bytesOf (l.length + 4) (t * 2 ^ k)) := by
  intro e
  have h1 := run_sealed a
  rw [e] at h1
  have h2 := run_xor (sealed l) (bytesOf (l.length + 4) (t * 2 ^ k)) 4294967295 0 (by rw [sealed_length, bytesOf_length])
  rw [Nat.xor_zero, h1, run_sealed] at h2
  have h3 : run 0 (bytesOf (l.length + 4) (t * 2 ^ k)) = 0 := by
    have this : bits 32 4294967295 ^^^ bits 32 4294967295 = bits 32 4294967295 ^^^ (bits 32 4294967295 ^^^ run 0 (bytesOf (l.length + 4) (t * 2 ^ k))) := by rw [← h2]
    rw [← Nat.xor_assoc, Nat.xor_self, Nat.zero_xor] at this
    exact this.symm
  exact burst_ne _ _ _ ht h32 hk h3

/-! One bit more is turned -/
theorem pow_byte (p j : Nat) : 2 ^ p / 256 ^ j % 256 = if j = p / 8 then 2 ^ (p % 8) else 0 := by
  rw [pow256]
  by_cases hj : 8 * j ≤ p
  · have e : 2 ^ p / 2 ^ (8 * j) = 2 ^ (p - 8 * j) := Nat.pow_div hj (by omega)
    rw [e]
    by_cases h8 : p - 8 * j < 8
    · rw [if_pos (by omega), show p % 8 = p - 8 * j from by omega]
      have : 2 ^ (p - 8 * j) < 2 ^ 8 := Nat.pow_lt_pow_right (by omega) h8
      exact Nat.mod_eq_of_lt (by simpa using this)
    · rw [if_neg (by omega), show p - 8 * j = 8 + (p - 8 * j - 8) from by omega, Nat.pow_add, show (256 : Nat) = 2 ^ 8 from rfl, Nat.mul_mod_right]
  · rw [if_neg (by omega), Nat.div_eq_of_lt (Nat.pow_lt_pow_right (by omega) (by omega))]
theorem xor_mod_pow (a b k : Nat) : (a ^^^ b) % 2 ^ k = (a % 2 ^ k) ^^^ (b % 2 ^ k) := by
  apply Nat.eq_of_testBit_eq
  intro i
  simp only [Nat.testBit_mod_two_pow, Nat.testBit_xor]
  by_cases h : i < k <;> simp [h]
theorem add_xor (M p : Nat) (h : M < 2 ^ p) : M + 2 ^ p = M ^^^ 2 ^ p := by
  have e := Nat.two_pow_add_eq_or_of_lt h 1
  rw [Nat.mul_one] at e
  rw [Nat.add_comm, e, Nat.or_comm]
  apply Nat.eq_of_testBit_eq
  intro i
  rw [Nat.testBit_or, Nat.testBit_xor, Nat.testBit_two_pow]
  by_cases e : p = i
  · subst e
    rw [Nat.testBit_lt_two_pow h]
    simp
  · simp [e]
theorem ofNat_xor (a b : Nat) : UInt8.ofNat (a ^^^ b) = UInt8.ofNat a ^^^ UInt8.ofNat b := by
  apply UInt8.toNat_inj.1
  simp only [UInt8.toNat_xor, UInt8.toNat_ofNat']
  exact xor_mod_pow a b 8
theorem bytesOf_bit (N M p : Nat) (h : M < 2 ^ p) (hp : p / 8 < N) :
    bytesOf N (M + 2 ^ p) = (bytesOf N M).set (p / 8) ((bytesOf N M)[p / 8]'(by rw [bytesOf_length]; exact hp) ^^^ UInt8.ofNat (2 ^ (p % 8))) := by
  apply List.ext_getElem
  · simp [bytesOf]
  · intro j h1 h2
    rw [List.getElem_set]
    simp only [bytesOf, List.getElem_map, List.getElem_range]
    rw [add_xor M p h, pow256, Nat.xor_div_two_pow, ← pow256, ofNat_xor]
    have hb : UInt8.ofNat (2 ^ p / 256 ^ j) = if j = p / 8 then UInt8.ofNat (2 ^ (p % 8)) else 0 := by
      apply UInt8.toNat_inj.1
      rw [UInt8.toNat_ofNat', show 2 ^ 8 = 256 from rfl, pow_byte]
      by_cases e : j = p / 8
      · rw [if_pos e, if_pos e, UInt8.toNat_ofNat', Nat.mod_eq_of_lt (Nat.pow_lt_pow_right (by omega) (by omega))]
      · rw [if_neg e, if_neg e]; rfl
    rw [hb]
    by_cases e : p / 8 = j
    · rw [if_pos e.symm, if_pos e]
      subst e
      rfl
    · rw [if_neg (fun h => e h.symm), if_neg e, UInt8.xor_zero]
theorem zip_set : ∀ (l m : List UInt8) (i : Nat) (x : UInt8) (hl : i < l.length) (hm : i < m.length),
    List.zipWith (· ^^^ ·) l (m.set i (m[i] ^^^ x)) = (List.zipWith (· ^^^ ·) l m).set i ((List.zipWith (· ^^^ ·) l m)[i]'(by simp; omega) ^^^ x)
  | [], m, i, x, hl, hm => by simp at hl
  | a :: l, [], i, x, hl, hm => by simp at hm
  | a :: l, b :: m, 0, x, hl, hm => by simp [UInt8.xor_assoc]
  | a :: l, b :: m, i + 1, x, hl, hm => by
    have := zip_set l m i x (by simpa using hl) (by simpa using hm)
    simp [this]
theorem mod_succ (t i : Nat) : t % 2 ^ (i + 1) = t % 2 ^ i + (t / 2 ^ i % 2) * 2 ^ i := by
  rw [Nat.pow_succ, Nat.mod_mul, Nat.mul_comm (2 ^ i)]
/-- The sealed bytes with the first i of the bits turned. -/
def turned (l : List UInt8) (k t i : Nat) : List UInt8 := List.zipWith (· ^^^ ·) (sealed l) (bytesOf (l.length + 4) (t % 2 ^ i * 2 ^ k))
theorem turned_length (l : List UInt8) (k t i : Nat) : (turned l k t i).length = l.length + 4 := by simp [turned, sealed_length, bytesOf_length]
theorem bytesOf_zero (N : Nat) : bytesOf N 0 = List.replicate N 0 := by
  apply List.ext_getElem <;> simp [bytesOf]
theorem zip_zero : ∀ (l : List UInt8) (N : Nat), l.length = N → List.zipWith (· ^^^ ·) l (List.replicate N 0) = l
  | [], N, _ => by simp
  | a :: l, N, h => by
    obtain ⟨N, rfl⟩ : ∃ M, N = M + 1 := ⟨N - 1, by simp at h; omega⟩
    simp only [List.replicate_succ, List.zipWith_cons_cons, UInt8.xor_zero]
    rw [zip_zero l N (by simpa using h)]
theorem turned_zero (l : List UInt8) (k t : Nat) : turned l k t 0 = sealed l := by
  unfold turned
  rw [Nat.pow_zero, Nat.mod_one, Nat.zero_mul, bytesOf_zero, zip_zero _ _ (sealed_length l)]
theorem turned_skip (l : List UInt8) (k t i : Nat) (h : t / 2 ^ i % 2 = 0) : turned l k t (i + 1) = turned l k t i := by
  unfold turned
  simp [mod_succ, h]
theorem turned_bit (l : List UInt8) (k t i : Nat) (h : t / 2 ^ i % 2 = 1) (hk : (k + i) / 8 < l.length + 4) :
    turned l k t (i + 1) = (turned l k t i).set ((k + i) / 8) ((turned l k t i)[(k + i) / 8]'(by rw [turned_length]; exact hk) ^^^ UInt8.ofNat (2 ^ ((k + i) % 8))) := by
  have hM : t % 2 ^ i * 2 ^ k < 2 ^ (k + i) := by
    rw [Nat.add_comm, Nat.pow_add]
    exact Nat.mul_lt_mul_of_pos_right (Nat.mod_lt _ (Nat.pow_pos (by omega))) (Nat.pow_pos (by omega))
  have e : t % 2 ^ (i + 1) * 2 ^ k = t % 2 ^ i * 2 ^ k + 2 ^ (k + i) := by
    rw [mod_succ, h, Nat.one_mul, Nat.add_mul, ← Nat.pow_add, Nat.add_comm i k]
  unfold turned
  rw [e, bytesOf_bit _ _ _ hM hk]
  exact zip_set _ _ _ _ (by rw [sealed_length]; exact hk) (by rw [bytesOf_length]; exact hk)
theorem turned_ne (l : List UInt8) (k t : Nat) (ht : t ≠ 0) (h32 : t < 4294967296) (hk : k + 32 ≤ 8 * (l.length + 4)) (a b : List UInt8) (hab : a ++ b = turned l k t 32) : sealed a ≠ a ++ b := by
  rw [hab]
  unfold turned
  rw [Nat.mod_eq_of_lt (by omega)]
  exact burst l k t ht h32 hk a
end Go.Proofs.Ytgdlfihiheeniaa.Crc
