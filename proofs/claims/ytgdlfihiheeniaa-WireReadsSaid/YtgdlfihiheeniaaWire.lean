/-
  Plain facts on numbers, texts and truths as bytes (layer 1), with no program in sight: how they are written, and how they are taken off again.
-/
namespace Go.Proofs.Ytgdlfihiheeniaa.Wire

/-- A number's bytes; f is enough where the number is below 128^f. -/
def numF : Nat → Nat → List UInt8
  | 0, _ => []
  | f + 1, n => if n < 128 then [UInt8.ofNat n] else UInt8.ofNat (n % 128 + 128) :: numF f (n / 128)
def num (n : Nat) : List UInt8 := numF 10 n

/-- What is taken off the front of some bytes: the error, how many bytes, the number. -/
def tk : Nat → Nat → List UInt8 → Nat × Nat × Nat
  | _, _, [] => (10, 0, 0)
  | i, a, c :: r =>
    if i = 9 ∧ 1 < c.toNat then (7, 0, 0)
    else if 128 ≤ c.toNat then tk (i + 1) (a + c.toNat % 128 * 128 ^ i) r
    else if c.toNat = 0 ∧ 0 < i then (7, 0, 0)
    else (0, i + 1, a + c.toNat % 128 * 128 ^ i)

/-- A reader: what is left, and the error. -/
structure RS where
  l : List UInt8
  e : Int

def take (r : RS) : RS × Nat :=
  if r.e ≠ 0 then (r, 0)
  else if (tk 0 0 r.l).1 ≠ 0 then (⟨r.l, (tk 0 0 r.l).1⟩, 0)
  else (⟨r.l.drop (tk 0 0 r.l).2.1, 0⟩, (tk 0 0 r.l).2.2)
/-- A number as one that may be below 0. -/
def toInt (n : Nat) : Int := if n % 2 = 1 then -((n / 2 : Nat) : Int) - 1 else ((n / 2 : Nat) : Int)
def takeInt (r : RS) : RS × Int := ((take r).1, toInt (take r).2)
def count (r : RS) (most : Int) : RS × Nat :=
  if (take r).1.e ≠ 0 then ((take r).1, 0)
  else if most < 0 ∨ most < ((take r).2 : Int) then (⟨r.l, 11⟩, 0)
  else take r
def takeText (r : RS) (most : Int) : RS × List UInt8 :=
  if (count r most).1.e ≠ 0 then ((count r most).1, [])
  else if (count r most).1.l.length < (count r most).2 then (⟨r.l, 10⟩, [])
  else (⟨(count r most).1.l.drop (count r most).2, 0⟩, (count r most).1.l.take (count r most).2)
def takeBool (r : RS) : RS × Bool :=
  if r.e ≠ 0 then (r, false)
  else match r.l with
    | [] => (⟨[], 10⟩, false)
    | c :: s => if 1 < c.toNat then (⟨c :: s, 7⟩, false) else (⟨s, 0⟩, c.toNat == 1)
def fin (r : RS) : RS := if r.e = 0 ∧ r.l ≠ [] then ⟨r.l, 12⟩ else r
def fail (r : RS) (e : Int) : RS := if r.e = 0 then ⟨r.l, e⟩ else r

/-! What is taken -/
theorem tk_err (i a : Nat) (l : List UInt8) : (tk i a l).1 = 0 ∨ (tk i a l).1 = 7 ∨ (tk i a l).1 = 10 := by
  induction l generalizing i a with
  | nil => exact .inr (.inr rfl)
  | cons c r ih =>
    unfold tk
    split
    · exact .inr (.inl rfl)
    · split
      · exact ih _ _
      · split
        · exact .inr (.inl rfl)
        · exact .inl rfl
theorem tk_used (i a : Nat) (l : List UInt8) (h : (tk i a l).1 = 0) : i < (tk i a l).2.1 ∧ (tk i a l).2.1 ≤ i + l.length := by
  induction l generalizing i a with
  | nil => simp [tk] at h
  | cons c r ih =>
    unfold tk at h ⊢
    split
    · rename_i h1; rw [if_pos h1] at h; simp at h
    · rename_i h1
      rw [if_neg h1] at h
      split
      · rename_i h2
        rw [if_pos h2] at h
        have := ih _ _ h
        simp only [List.length_cons]
        omega
      · rename_i h2
        rw [if_neg h2] at h
        split
        · rename_i h3; rw [if_pos h3] at h; simp at h
        · simp only [List.length_cons]; omega

theorem tk_lt (l : List UInt8) : ∀ (i a : Nat), i ≤ 9 → a < 128 ^ i → (tk i a l).2.2 < 18446744073709551616 := by
  induction l with
  | nil => intro i a _ _; simp [tk]
  | cons c r ih =>
    intro i a hi ha
    have hc := c.toNat_lt
    unfold tk
    split
    · simp
    · rename_i h1
      have hm : c.toNat % 128 * 128 ^ i ≤ 127 * 128 ^ i := Nat.mul_le_mul (by omega) (Nat.le_refl _)
      split
      · rename_i h2
        refine ih (i + 1) _ (by omega) ?_
        rw [Nat.pow_succ]
        omega
      · split
        · simp
        · simp only
          rcases Nat.lt_or_ge i 9 with h | h
          · have h8 : 128 ^ i ≤ 128 ^ 8 := Nat.pow_le_pow_right (by omega) (by omega)
            have : (128 : Nat) ^ 8 = 72057594037927936 := by decide
            omega
          · obtain rfl : i = 9 := by omega
            have h9 : c.toNat % 128 * 128 ^ 9 ≤ 1 * 128 ^ 9 := Nat.mul_le_mul (by omega) (Nat.le_refl _)
            have : (128 : Nat) ^ 9 = 9223372036854775808 := by decide
            omega
theorem take_lt (r : RS) : (take r).2 < 18446744073709551616 := by
  unfold take
  split
  · simp
  · split
    · simp
    · exact tk_lt r.l 0 0 (by omega) (by simp)
theorem take_len (r : RS) : (take r).1.l.length ≤ r.l.length := by
  unfold take
  split
  · exact Nat.le_refl _
  · split
    · exact Nat.le_refl _
    · simp
/-- An error of the number's own leaves the bytes. -/
theorem take_err (r : RS) (h : (take r).1.e ≠ 0) : (take r).1.l = r.l := by
  unfold take at h ⊢
  split
  · rfl
  · split
    · rfl
    · rename_i h1 h2
      rw [if_neg h1, if_neg h2] at h
      simp at h

theorem count_lt (r : RS) (most : Int) (hm : most ≤ 9223372036854775807) : ((count r most).2 : Int) ≤ 9223372036854775807 := by
  unfold count
  split
  · simp
  · split
    · simp
    · omega

/-! What is written is taken -/
theorem numF_ne (f n : Nat) (h : 0 < f) : numF f n ≠ [] := by
  cases f with
  | zero => omega
  | succ f =>
    unfold numF
    split <;> simp
theorem numF_fuel : ∀ (f g n : Nat), n < 128 ^ f → f ≤ g → 0 < f → numF g n = numF f n
  | 0, _, _, _, _, h => by omega
  | f + 1, 0, _, _, h, _ => by omega
  | f + 1, g + 1, n, hn, hg, _ => by
    unfold numF
    split
    · rfl
    · rename_i h
      have hd : n / 128 < 128 ^ f := by
        rw [Nat.pow_succ] at hn
        exact Nat.div_lt_of_lt_mul (by rw [Nat.mul_comm]; exact hn)
      have hf : 0 < f := by
        rcases Nat.eq_zero_or_pos f with h0 | h0
        · subst h0; simp at hd; omega
        · exact h0
      rw [numF_fuel f g (n / 128) hd (by omega) hf]
theorem numF_length : ∀ (f n : Nat), (numF f n).length ≤ f
  | 0, _ => by simp [numF]
  | f + 1, n => by
    unfold numF
    split
    · simp
    · have := numF_length f (n / 128)
      simp; omega
theorem tk_numF : ∀ (f i a n : Nat) (s : List UInt8), i + f = 10 → n < 128 ^ f → (f = 1 → n ≤ 1) → (0 < i → 0 < n) → n < 2 ^ (64 - 7 * i) → 0 < f →
    tk i a (numF f n ++ s) = (0, i + (numF f n).length, a + n * 128 ^ i)
  | 0, _, _, _, _, _, _, _, _, _, h => by omega
  | f + 1, i, a, n, s, hi, hn, h1, h0, h64, _ => by
    unfold numF
    by_cases h : n < 128
    · have e : (UInt8.ofNat n).toNat = n := by rw [UInt8.toNat_ofNat']; omega
      simp only [h, if_true, List.cons_append, List.nil_append, tk, e]
      rw [if_neg (by
        rintro ⟨h9, hgt⟩
        have := h1 (by omega)
        omega), if_neg (by omega), if_neg (by
        rintro ⟨hz, hp⟩
        have := h0 hp
        omega)]
      simp only [List.length_cons, List.length_nil, Nat.mod_eq_of_lt h]
    · have e : (UInt8.ofNat (n % 128 + 128)).toNat = n % 128 + 128 := by rw [UInt8.toNat_ofNat']; omega
      have hf : 0 < f := by
        rcases Nat.eq_zero_or_pos f with hz | hz
        · subst hz
          have := h1 rfl
          omega
        · exact hz
      have hd : n / 128 < 128 ^ f := by
        rw [Nat.pow_succ] at hn
        exact Nat.div_lt_of_lt_mul (by rw [Nat.mul_comm]; exact hn)
      have h64' : n / 128 < 2 ^ (64 - 7 * (i + 1)) := by
        refine Nat.div_lt_of_lt_mul ?_
        rw [show (128 : Nat) = 2 ^ 7 from rfl, ← Nat.pow_add, show 7 + (64 - 7 * (i + 1)) = 64 - 7 * i from by omega]
        exact h64
      have ih := tk_numF f (i + 1) (a + n % 128 * 128 ^ i) (n / 128) s (by omega) hd (fun hf1 => by
        have : i + 1 = 9 := by omega
        rw [this] at h64'
        simp at h64'
        omega) (fun _ => by omega) h64' hf
      simp only [h, if_false, List.cons_append, tk, e]
      rw [if_neg (by omega), if_pos (by omega), show (n % 128 + 128) % 128 = n % 128 from by omega, ih]
      simp only [List.length_cons]
      refine Prod.ext rfl (Prod.ext ?_ ?_)
      · simp only; omega
      · simp only
        rw [Nat.pow_succ, Nat.add_assoc]
        congr 1
        have := Nat.mod_add_div n 128
        calc n % 128 * 128 ^ i + n / 128 * (128 ^ i * 128) = (n % 128 + 128 * (n / 128)) * 128 ^ i := by
              rw [Nat.add_mul]; congr 1; rw [Nat.mul_comm (128 ^ i) 128, ← Nat.mul_assoc, Nat.mul_comm (n / 128) 128]
          _ = n * 128 ^ i := by rw [this]
theorem tk_num (n : Nat) (h : n < 18446744073709551616) (s : List UInt8) : tk 0 0 (num n ++ s) = (0, (num n).length, n) := by
  have := tk_numF 10 0 0 n s rfl (Nat.lt_of_lt_of_le h (by decide)) (by omega) (by omega) (by simpa using h) (by omega)
  simpa [num] using this
theorem num_length (n : Nat) : 0 < (num n).length ∧ (num n).length ≤ 10 :=
  ⟨List.length_pos_iff.2 (numF_ne 10 n (by omega)), numF_length 10 n⟩
theorem take_num (n : Nat) (h : n < 18446744073709551616) (s : List UInt8) : take ⟨num n ++ s, 0⟩ = (⟨s, 0⟩, n) := by
  unfold take
  rw [if_neg (by simp), tk_num n h s]
  simp
theorem num_inj {a b : Nat} (ha : a < 18446744073709551616) (hb : b < 18446744073709551616) (s t : List UInt8) (h : num a ++ s = num b ++ t) : a = b := by
  have h1 := take_num a ha s
  have h2 := take_num b hb t
  rw [h, h2] at h1
  exact (Prod.ext_iff.1 h1).2.symm
theorem numF_mono : ∀ (f a b : Nat), a ≤ b → (numF f a).length ≤ (numF f b).length
  | 0, _, _, _ => by simp [numF]
  | f + 1, a, b, h => by
    unfold numF
    by_cases ha : a < 128
    · rw [if_pos ha]
      split <;> simp
    · rw [if_neg ha, if_neg (by omega)]
      have := numF_mono f (a / 128) (b / 128) (Nat.div_le_div_right h)
      simpa using this

/-! Numbers that may be below 0 -/
def ofInt (n : Int) : Nat := if n < 0 then (-(n + 1)).toNat * 2 + 1 else n.toNat * 2
theorem toInt_ofInt (n : Int) : toInt (ofInt n) = n := by
  unfold toInt ofInt
  by_cases h : n < 0
  · rw [if_pos h, if_pos (by omega)]; omega
  · rw [if_neg h, if_neg (by omega)]; omega
theorem ofInt_lt (n : Int) (h1 : -9223372036854775808 ≤ n) (h2 : n ≤ 9223372036854775807) : ofInt n < 18446744073709551616 := by
  unfold ofInt
  split <;> omega
/-- A text's bytes. -/
def text (s : List UInt8) : List UInt8 := num s.length ++ s
theorem count_num (n : Nat) (most : Int) (h : n < 18446744073709551616) (s : List UInt8) (hm : (n : Int) ≤ most) : count ⟨num n ++ s, 0⟩ most = (⟨s, 0⟩, n) := by
  unfold count
  rw [take_num n h s]
  simp only [ne_eq, not_true_eq_false, if_false]
  rw [if_neg (by omega)]
theorem takeText_text (s t : List UInt8) (most : Int) (h : s.length < 18446744073709551616) (hm : (s.length : Int) ≤ most) : takeText ⟨text s ++ t, 0⟩ most = (⟨t, 0⟩, s) := by
  unfold takeText text
  rw [List.append_assoc, count_num _ _ h _ hm]
  simp
theorem takeText_many (s t : List UInt8) (most : Int) (h : s.length < 18446744073709551616) (hm : most < (s.length : Int)) : takeText ⟨text s ++ t, 0⟩ most = (⟨text s ++ t, 11⟩, []) := by
  have e : count ⟨text s ++ t, 0⟩ most = (⟨text s ++ t, 11⟩, 0) := by
    unfold count text
    rw [List.append_assoc, take_num _ h]
    simp only [ne_eq, not_true_eq_false, if_false]
    rw [if_pos (by omega)]
  unfold takeText
  rw [e]
  simp
end Go.Proofs.Ytgdlfihiheeniaa.Wire
