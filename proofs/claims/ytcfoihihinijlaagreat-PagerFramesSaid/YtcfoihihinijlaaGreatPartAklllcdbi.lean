/-
  Texts of a proof, one behind the other (each with its own head).
-/
import Derived.Orders
import Derived.WalkKit
import Derived.Lib.Hide
import Derived.Deep.QuietTactic
import Derived.Deep.RegionWith
import Derived.Deep.AppendLies
import Derived.Deep.DeepCutAuto
import Derived.Maps.AppendAt
import Derived.BigQuiet
import Derived.WalkSpells
import Derived.WalkLawsBesides
import Derived.Lib.SlBytesConst
import Derived.Lib.AppendStr
import Derived.Test.YtcfoihihinijlaaGreatProg
import Derived.Lib.AppendZeros
import Derived.Laws.ResultCell
import Derived.OneCell
import Derived.Deep.MidRow
import Derived.Deep.WholeRow
import Derived.Laws.BitsAllLaws
import Derived.Deep.LoopGhost
import Derived.ArgAppend
section
namespace Go.Proofs.YtcfoihihinijlaaGreat.Wire
set_option linter.unusedSimpArgs false
set_option linter.unusedVariables false
def numF : Nat → Nat → List UInt8
  | 0, _ => []
  | f + 1, n => if n < 128 then [UInt8.ofNat n] else UInt8.ofNat (n % 128 + 128) :: numF f (n / 128)
def num (n : Nat) : List UInt8 := numF 10 n
def tk : Nat → Nat → List UInt8 → Nat × Nat × Nat
  | _, _, [] => (10, 0, 0)
  | i, a, c :: r =>
    if i = 9 ∧ 1 < c.toNat then (7, 0, 0)
    else if 128 ≤ c.toNat then tk (i + 1) (a + c.toNat % 128 * 128 ^ i) r
    else if c.toNat = 0 ∧ 0 < i then (7, 0, 0)
    else (0, i + 1, a + c.toNat % 128 * 128 ^ i)
structure RS where
  l : List UInt8
  e : Int
def take (r : RS) : RS × Nat :=
  if r.e ≠ 0 then (r, 0)
  else if (tk 0 0 r.l).1 ≠ 0 then (⟨r.l, (tk 0 0 r.l).1⟩, 0)
  else (⟨r.l.drop (tk 0 0 r.l).2.1, 0⟩, (tk 0 0 r.l).2.2)
def count (r : RS) (most : Int) : RS × Nat :=
  if (take r).1.e ≠ 0 then ((take r).1, 0)
  else if most < 0 ∨ most < ((take r).2 : Int) then (⟨r.l, 11⟩, 0)
  else take r
def takeText (r : RS) (most : Int) : RS × List UInt8 :=
  if (count r most).1.e ≠ 0 then ((count r most).1, [])
  else if (count r most).1.l.length < (count r most).2 then (⟨r.l, 10⟩, [])
  else (⟨(count r most).1.l.drop (count r most).2, 0⟩, (count r most).1.l.take (count r most).2)
def fin (r : RS) : RS := if r.e = 0 ∧ r.l ≠ [] then ⟨r.l, 12⟩ else r
def fail (r : RS) (e : Int) : RS := if r.e = 0 then ⟨r.l, e⟩ else r
theorem tk_lt (l : List UInt8) : ∀ (i a : Nat), i ≤ 9 → a < 128 ^ i → (tk i a l).2.2 < 18446744073709551616 := by
  induction l with
  | nil => intro i a _ _; simp [tk]
  | cons c r ih =>
    intro i a hi ha
    have hc := c.toNat_lt
    unfold tk
    split
    · simp
    · rename_i h1
      have hm : c.toNat % 128 * 128 ^ i ≤ 127 * 128 ^ i := Nat.mul_le_mul (by omega) (Nat.le_refl _)
      split
      · rename_i h2
        refine ih (i + 1) _ (by omega) ?_
        rw [Nat.pow_succ]
        omega
      · split
        · simp
        · simp only
          rcases Nat.lt_or_ge i 9 with h | h
          · have h8 : 128 ^ i ≤ 128 ^ 8 := Nat.pow_le_pow_right (by omega) (by omega)
            have : (128 : Nat) ^ 8 = 72057594037927936 := by decide
            omega
          · obtain rfl : i = 9 := by omega
            have h9 : c.toNat % 128 * 128 ^ 9 ≤ 1 * 128 ^ 9 := Nat.mul_le_mul (by omega) (Nat.le_refl _)
            have : (128 : Nat) ^ 9 = 9223372036854775808 := by decide
            omega
theorem take_lt (r : RS) : (take r).2 < 18446744073709551616 := by
  unfold take
  split
  · simp
  · split
    · simp
    · exact tk_lt r.l 0 0 (by omega) (by simp)
theorem take_len (r : RS) : (take r).1.l.length ≤ r.l.length := by
  unfold take
  split
  · exact Nat.le_refl _
  · split
    · exact Nat.le_refl _
    · simp
theorem take_err (r : RS) (h : (take r).1.e ≠ 0) : (take r).1.l = r.l := by
  unfold take at h ⊢
  split
  · rfl
  · split
    · rfl
    · rename_i h1 h2
      rw [if_neg h1, if_neg h2] at h
      simp at h
theorem count_lt (r : RS) (most : Int) (hm : most ≤ 9223372036854775807) : ((count r most).2 : Int) ≤ 9223372036854775807 := by
  unfold count
  split
  · simp
  · split
    · simp
    · omega
theorem numF_ne (f n : Nat) (h : 0 < f) : numF f n ≠ [] := by
  cases f with
  | zero => omega
  | succ f =>
    unfold numF
    split <;> simp
theorem numF_length : ∀ (f n : Nat), (numF f n).length ≤ f
  | 0, _ => by simp [numF]
  | f + 1, n => by
    unfold numF
    split
    · simp
    · have := numF_length f (n / 128)
      simp; omega
theorem tk_numF : ∀ (f i a n : Nat) (s : List UInt8), i + f = 10 → n < 128 ^ f → (f = 1 → n ≤ 1) → (0 < i → 0 < n) → n < 2 ^ (64 - 7 * i) → 0 < f →
    tk i a (numF f n ++ s) = (0, i + (numF f n).length, a + n * 128 ^ i)
  | 0, _, _, _, _, _, _, _, _, _, h => by omega
  | f + 1, i, a, n, s, hi, hn, h1, h0, h64, _ => by
    unfold numF
    by_cases h : n < 128
    · have e : (UInt8.ofNat n).toNat = n := by rw [UInt8.toNat_ofNat']; omega
      simp only [h, if_true, List.cons_append, List.nil_append, tk, e]
      rw [if_neg (by
        rintro ⟨h9, hgt⟩
        have := h1 (by omega)
        omega), if_neg (by omega), if_neg (by
        rintro ⟨hz, hp⟩
        have := h0 hp
        omega)]
      simp only [List.length_cons, List.length_nil, Nat.mod_eq_of_lt h]
    · have e : (UInt8.ofNat (n % 128 + 128)).toNat = n % 128 + 128 := by rw [UInt8.toNat_ofNat']; omega
      have hf : 0 < f := by
        rcases Nat.eq_zero_or_pos f with hz | hz
        · subst hz
          have := h1 rfl
          omega
        · exact hz
      have hd : n / 128 < 128 ^ f := by
        rw [Nat.pow_succ] at hn
        exact Nat.div_lt_of_lt_mul (by rw [Nat.mul_comm]; exact hn)
      have h64' : n / 128 < 2 ^ (64 - 7 * (i + 1)) := by
        refine Nat.div_lt_of_lt_mul ?_
        rw [show (128 : Nat) = 2 ^ 7 from rfl, ← Nat.pow_add, show 7 + (64 - 7 * (i + 1)) = 64 - 7 * i from by omega]
        exact h64
      have ih := tk_numF f (i + 1) (a + n % 128 * 128 ^ i) (n / 128) s (by omega) hd (fun hf1 => by
        have : i + 1 = 9 := by omega
        rw [this] at h64'
        simp at h64'
        omega) (fun _ => by omega) h64' hf
      simp only [h, if_false, List.cons_append, tk, e]
      rw [if_neg (by omega), if_pos (by omega), show (n % 128 + 128) % 128 = n % 128 from by omega, ih]
      simp only [List.length_cons]
      refine Prod.ext rfl (Prod.ext ?_ ?_)
      · simp only; omega
      · simp only
        rw [Nat.pow_succ, Nat.add_assoc]
        congr 1
        have := Nat.mod_add_div n 128
        calc n % 128 * 128 ^ i + n / 128 * (128 ^ i * 128) = (n % 128 + 128 * (n / 128)) * 128 ^ i := by
              rw [Nat.add_mul]; congr 1; rw [Nat.mul_comm (128 ^ i) 128, ← Nat.mul_assoc, Nat.mul_comm (n / 128) 128]
          _ = n * 128 ^ i := by rw [this]
theorem tk_num (n : Nat) (h : n < 18446744073709551616) (s : List UInt8) : tk 0 0 (num n ++ s) = (0, (num n).length, n) := by
  have := tk_numF 10 0 0 n s rfl (Nat.lt_of_lt_of_le h (by decide)) (by omega) (by omega) (by simpa using h) (by omega)
  simpa [num] using this
theorem num_length (n : Nat) : 0 < (num n).length ∧ (num n).length ≤ 10 :=
  ⟨List.length_pos_iff.2 (numF_ne 10 n (by omega)), numF_length 10 n⟩
theorem take_num (n : Nat) (h : n < 18446744073709551616) (s : List UInt8) : take ⟨num n ++ s, 0⟩ = (⟨s, 0⟩, n) := by
  unfold take
  rw [if_neg (by simp), tk_num n h s]
  simp
def text (s : List UInt8) : List UInt8 := num s.length ++ s
theorem count_num (n : Nat) (most : Int) (h : n < 18446744073709551616) (s : List UInt8) (hm : (n : Int) ≤ most) : count ⟨num n ++ s, 0⟩ most = (⟨s, 0⟩, n) := by
  unfold count
  rw [take_num n h s]
  simp only [ne_eq, not_true_eq_false, if_false]
  rw [if_neg (by omega)]
theorem takeText_text (s t : List UInt8) (most : Int) (h : s.length < 18446744073709551616) (hm : (s.length : Int) ≤ most) : takeText ⟨text s ++ t, 0⟩ most = (⟨t, 0⟩, s) := by
  unfold takeText text
  rw [List.append_assoc, count_num _ _ h _ hm]
  simp
end Go.Proofs.YtcfoihihinijlaaGreat.Wire
end

section
namespace Go.Proofs.YtcfoihihinijlaaGreat.Crc
set_option linter.unusedSimpArgs false
set_option linter.unusedVariables false
def bit (s : Nat) : Nat := if s % 2 = 1 then (s / 2) ^^^ 3988292384 else s / 2
def bits : Nat → Nat → Nat
  | 0, s => s
  | k + 1, s => bit (bits k s)
def byte (s : Nat) (c : UInt8) : Nat := bits 8 (s ^^^ c.toNat)
def run (s : Nat) (l : List UInt8) : Nat := l.foldl byte s
def sum (l : List UInt8) : Nat := run 4294967295 l ^^^ 4294967295
theorem run_nil (s : Nat) : run s [] = s := by unfold run; rw [List.foldl_nil]
theorem run_cons (s : Nat) (c : UInt8) (l : List UInt8) : run s (c :: l) = run (byte s c) l := by unfold run; rw [List.foldl_cons]
theorem run_append (s : Nat) (a b : List UInt8) : run s (a ++ b) = run (run s a) b := by
  unfold run; rw [List.foldl_append]
theorem run_snoc (s : Nat) (l : List UInt8) (c : UInt8) : run s (l ++ [c]) = byte (run s l) c := by rw [run_append, run_cons, run_nil]
theorem xor_lt {x y : Nat} (hx : x < 4294967296) (hy : y < 4294967296) : x ^^^ y < 4294967296 := by
  have h := Nat.xor_lt_two_pow (n := 32) (x := x) (y := y) (by omega) (by omega)
  omega
theorem bit_lt {s : Nat} (h : s < 4294967296) : bit s < 4294967296 := by
  unfold bit
  split
  · exact xor_lt (by omega) (by omega)
  · omega
theorem bits_lt {s : Nat} (k : Nat) (h : s < 4294967296) : bits k s < 4294967296 := by
  induction k with
  | zero => exact h
  | succ k ih => exact bit_lt ih
theorem byte_lt {s : Nat} (c : UInt8) (h : s < 4294967296) : byte s c < 4294967296 :=
  bits_lt 8 (xor_lt h (by have := c.toNat_lt; omega))
theorem run_lt {s : Nat} (l : List UInt8) (h : s < 4294967296) : run s l < 4294967296 := by
  induction l generalizing s with
  | nil => exact h
  | cons c l ih => exact ih (byte_lt c h)
theorem sum_lt (l : List UInt8) : sum l < 4294967296 := xor_lt (run_lt l (by omega)) (by omega)
def le4 (s : Nat) : List UInt8 := [UInt8.ofNat s, UInt8.ofNat (s / 256), UInt8.ofNat (s / 65536), UInt8.ofNat (s / 16777216)]
def sealed (l : List UInt8) : List UInt8 := l ++ le4 (sum l)
def bytesOf (N M : Nat) : List UInt8 := (List.range N).map fun j => UInt8.ofNat (M / 256 ^ j)
def turned (l : List UInt8) (k t i : Nat) : List UInt8 := List.zipWith (· ^^^ ·) (sealed l) (bytesOf (l.length + 4) (t % 2 ^ i * 2 ^ k))
end Go.Proofs.YtcfoihihinijlaaGreat.Crc
end

section
namespace Go.Proofs.YtcfoihihinijlaaGreat.Wal
set_option linter.unusedSimpArgs false
set_option linter.unusedVariables false
def hiR : Nat → Nat → List UInt8
  | 0, _ => []
  | k + 1, n => hiR k (n / 256) ++ [UInt8.ofNat n]
def hi8 (n : Nat) : List UInt8 := hiR 8 n
def lo (l : List UInt8) : Nat := l.foldl (fun a c => a * 256 + c.toNat) 0
theorem hiR_length (k n : Nat) : (hiR k n).length = k := by
  induction k generalizing n with
  | zero => rfl
  | succ k ih => simp [hiR, ih]
theorem hi8_length (n : Nat) : (hi8 n).length = 8 := hiR_length 8 n
theorem hiR_cons (k n : Nat) : hiR (k + 1) n = UInt8.ofNat (n / 256 ^ k) :: hiR k n := by
  induction k generalizing n with
  | zero => simp [hiR]
  | succ k ih =>
    show hiR (k + 1) (n / 256) ++ [UInt8.ofNat n] = _
    rw [ih (n / 256), List.cons_append, Nat.div_div_eq_div_mul, show 256 * 256 ^ k = 256 ^ (k + 1) from by rw [Nat.pow_succ, Nat.mul_comm]]
    rfl
theorem lo_snoc (l : List UInt8) (c : UInt8) : lo (l ++ [c]) = lo l * 256 + c.toNat := by simp [lo]
theorem lo_hiR (k n : Nat) : lo (hiR k n) = n % 256 ^ k := by
  induction k generalizing n with
  | zero => simp [hiR, lo, Nat.mod_one]
  | succ k ih =>
    show lo (hiR k (n / 256) ++ [UInt8.ofNat n]) = _
    rw [lo_snoc, ih, Nat.pow_succ, Nat.mul_comm (256 ^ k) 256, Nat.mod_mul]
    simp only [UInt8.toNat_ofNat']
    omega
theorem lo_hi8 (n : Nat) (h : n < 18446744073709551616) : lo (hi8 n) = n := by
  rw [hi8, lo_hiR, Nat.mod_eq_of_lt (Nat.lt_of_lt_of_le h (by decide))]
theorem snoc_ind {α : Type} {P : List α → Prop} (h0 : P []) (h1 : ∀ l c, P l → P (l ++ [c])) (l : List α) : P l := by
  have : ∀ m : List α, P m.reverse := by
    intro m
    induction m with
    | nil => exact h0
    | cons c m ih => rw [List.reverse_cons]; exact h1 _ _ ih
  have h := this l.reverse
  rwa [List.reverse_reverse] at h
theorem lo_lt (l : List UInt8) : lo l < 256 ^ l.length := by
  refine snoc_ind (P := fun l => lo l < 256 ^ l.length) (by simp [lo]) (fun l c ih => ?_) l
  have := c.toNat_lt
  rw [lo_snoc, List.length_append, List.length_singleton, Nat.pow_succ]
  omega
theorem lo8_lt (l : List UInt8) (h : l.length = 8) : lo l < 18446744073709551616 := by
  have := lo_lt l
  rw [h] at this
  exact Nat.lt_of_lt_of_le this (by decide)
theorem hiR_lo (l : List UInt8) : hiR l.length (lo l) = l := by
  refine snoc_ind (P := fun l => hiR l.length (lo l) = l) rfl (fun l c ih => ?_) l
  · have := c.toNat_lt
    rw [List.length_append, List.length_singleton, lo_snoc]
    show hiR l.length ((lo l * 256 + c.toNat) / 256) ++ [UInt8.ofNat (lo l * 256 + c.toNat)] = _
    rw [show (lo l * 256 + c.toNat) / 256 = lo l from by omega, ih]
    congr 2
    apply UInt8.toNat_inj.1
    rw [UInt8.toNat_ofNat']
    omega
theorem hi8_lo (l : List UInt8) (h : l.length = 8) : hi8 (lo l) = l := by
  have := hiR_lo l
  rw [h] at this
  exact this
def magic : List UInt8 := [100, 111, 119, 115, 101, 114, 32, 108]
def half (a b : Nat) : List UInt8 := magic ++ hi8 a ++ hi8 b
theorem half_length (a b : Nat) : (half a b).length = 24 := by simp [half, hi8_length, magic]
def head48 (seq n : Nat) : List UInt8 := half seq n ++ half n seq
theorem head48_length (a b : Nat) : (head48 a b).length = 48 := by simp [head48, half_length]
def headL (seq n : Nat) : List UInt8 := head48 seq n ++ List.replicate 464 0
theorem headL_length (a b : Nat) : (headL a b).length = 512 := by unfold headL; rw [List.length_append, head48_length, List.length_replicate]
def cut (l : List UInt8) (i n : Nat) : List UInt8 := (l.drop i).take n
def last62 : Nat := 4611686018427387904
def right (b : List UInt8) (room : Nat) : Nat × Nat :=
  if b.take 24 = half (lo (cut b 8 8)) (lo (cut b 16 8)) ∧ cut b 24 24 = half (lo (cut b 16 8)) (lo (cut b 8 8)) ∧ 1 ≤ lo (cut b 8 8) ∧ lo (cut b 8 8) ≤ last62 ∧ lo (cut b 16 8) ≤ room
  then (lo (cut b 8 8), lo (cut b 16 8)) else (0, 0)
theorem cut_length {l : List UInt8} {i n : Nat} (h : i + n ≤ l.length) : (cut l i n).length = n := by simp [cut]; omega
theorem cut_cut (l : List UInt8) (i n j m : Nat) (h : j + m ≤ n) : cut (cut l i n) j m = cut l (i + j) m := by
  unfold cut
  rw [List.drop_take, List.take_take, List.drop_drop, Nat.min_eq_left (by omega)]
theorem take_cut (l : List UInt8) (n : Nat) : l.take n = cut l 0 n := by simp [cut]
theorem cut_split (l : List UInt8) (i n m : Nat) : cut l i (n + m) = cut l i n ++ cut l (i + n) m := by
  unfold cut
  rw [List.take_add, List.drop_drop]
theorem cut_append (a b : List UInt8) (i n : Nat) (hi : i + n ≤ a.length) : cut (a ++ b) i n = cut a i n := by
  unfold cut
  rw [List.drop_append_of_le_length (by omega), List.take_append_of_le_length (by simp; omega)]
theorem cut_right (a b : List UInt8) (i n : Nat) (hi : a.length ≤ i) : cut (a ++ b) i n = cut b (i - a.length) n := by
  unfold cut
  rw [List.drop_append, List.drop_eq_nil_of_le hi]
  rfl
theorem half_parts (a b : Nat) : cut (half a b) 0 8 = magic ∧ cut (half a b) 8 8 = hi8 a ∧ cut (half a b) 16 8 = hi8 b := by
  have h1 := hi8_length a
  have h2 := hi8_length b
  refine ⟨?_, ?_, ?_⟩
  · unfold half; rw [List.append_assoc, cut_append _ _ _ _ (by simp [magic])]; rfl
  · unfold half; rw [List.append_assoc, cut_right _ _ _ _ (by simp [magic])]; show cut _ 0 8 = _; rw [cut_append _ _ _ _ (by omega)]; unfold cut; rw [List.drop_zero, List.take_of_length_le (by omega)]
  · unfold half; rw [cut_right _ _ _ _ (by simp [magic, h1]), List.length_append, h1]; show cut _ 0 8 = _; unfold cut; rw [List.drop_zero, List.take_of_length_le (by omega)]
theorem half_eq {l : List UInt8} {a b : Nat} (hl : l.length = 24) : l = half a b ↔ cut l 0 8 = magic ∧ cut l 8 8 = hi8 a ∧ cut l 16 8 = hi8 b := by
  constructor
  · rintro rfl
    exact half_parts a b
  · rintro ⟨h1, h2, h3⟩
    have : l = cut l 0 24 := by unfold cut; rw [List.drop_zero, List.take_of_length_le (by omega)]
    rw [this, show (24 : Nat) = 8 + (8 + 8) from rfl, cut_split, cut_split, h1, h2, h3]
    unfold half
    rw [List.append_assoc]
theorem hi8_eq {l : List UInt8} {a : Nat} (hl : l.length = 8) (ha : a < 18446744073709551616) : l = hi8 a ↔ lo l = a := by
  constructor
  · rintro rfl; exact lo_hi8 a ha
  · rintro rfl; exact (hi8_lo l hl).symm
theorem right_doc {b : List UInt8} (hb : b.length = 512) (room : Nat) : right b room =
    if cut b 0 8 ≠ magic ∨ cut b 24 8 ≠ magic ∨ lo (cut b 32 8) ≠ lo (cut b 16 8) ∨ lo (cut b 40 8) ≠ lo (cut b 8 8) ∨ lo (cut b 8 8) = 0 ∨ last62 < lo (cut b 8 8) ∨ room < lo (cut b 16 8)
    then (0, 0) else (lo (cut b 8 8), lo (cut b 16 8)) := by
  have hs := lo8_lt (cut b 8 8) (cut_length (by omega))
  have hn := lo8_lt (cut b 16 8) (cut_length (by omega))
  have e1 : (b.take 24 = half (lo (cut b 8 8)) (lo (cut b 16 8))) ↔ cut b 0 8 = magic := by
    rw [take_cut, half_eq (cut_length (by omega)), cut_cut _ _ _ _ _ (by omega), cut_cut _ _ _ _ _ (by omega), cut_cut _ _ _ _ _ (by omega), hi8_lo _ (cut_length (by omega)), hi8_lo _ (cut_length (by omega))]
    simp
  have e2 : (cut b 24 24 = half (lo (cut b 16 8)) (lo (cut b 8 8))) ↔ cut b 24 8 = magic ∧ lo (cut b 32 8) = lo (cut b 16 8) ∧ lo (cut b 40 8) = lo (cut b 8 8) := by
    rw [half_eq (cut_length (by omega)), cut_cut _ _ _ _ _ (by omega), cut_cut _ _ _ _ _ (by omega), cut_cut _ _ _ _ _ (by omega), hi8_eq (cut_length (by omega)) hn, hi8_eq (cut_length (by omega)) hs]
  unfold right
  simp only [e1, e2]
  generalize lo (cut b 8 8) = s
  generalize lo (cut b 16 8) = n
  by_cases h1 : cut b 0 8 = magic <;> by_cases h2 : cut b 24 8 = magic <;> by_cases h3 : lo (cut b 32 8) = n <;> by_cases h4 : lo (cut b 40 8) = s <;> simp only [h1, h2, h3, h4, ne_eq, not_true_eq_false, not_false_eq_true, true_and, false_and, and_false, true_or, or_true, false_or, if_true, if_false]
  by_cases h5 : s = 0 ∨ last62 < s ∨ room < n
  · rw [if_pos h5, if_neg (by omega)]
  · rw [if_neg h5, if_pos (by omega)]
theorem right_le (b : List UInt8) (room : Nat) : (right b room).2 ≤ room ∧ (right b room).1 ≤ last62 := by
  unfold right
  split
  · rename_i h; exact ⟨h.2.2.2.2, h.2.2.2.1⟩
  · exact ⟨Nat.zero_le _, Nat.zero_le _⟩
theorem right_head {seq n room : Nat} (t : List UInt8) (h1 : 1 ≤ seq) (h2 : seq ≤ last62) (h3 : n ≤ room) (hn : n < 18446744073709551616) : right (head48 seq n ++ t) room = (seq, n) := by
  have hs : seq < 18446744073709551616 := Nat.lt_of_le_of_lt h2 (by decide)
  have hh := half_length seq n
  have e0 : cut (head48 seq n ++ t) 0 24 = half seq n := by
    rw [cut_append _ _ _ _ (by have := head48_length seq n; omega)]; unfold head48; rw [cut_append _ _ _ _ (by omega)]; unfold cut; rw [List.drop_zero, List.take_of_length_le (by omega)]
  have e1 : cut (head48 seq n ++ t) 24 24 = half n seq := by
    rw [cut_append _ _ _ _ (by have := head48_length seq n; omega)]; unfold head48; rw [cut_right _ _ _ _ (by omega), hh]; unfold cut; rw [List.drop_zero, List.take_of_length_le (by have := half_length n seq; omega)]
  have e2 : cut (head48 seq n ++ t) 8 8 = hi8 seq := by
    have := (half_parts seq n).2.1
    rw [← e0, cut_cut _ _ _ _ _ (by omega)] at this; exact this
  have e3 : cut (head48 seq n ++ t) 16 8 = hi8 n := by
    have := (half_parts seq n).2.2
    rw [← e0, cut_cut _ _ _ _ _ (by omega)] at this; exact this
  unfold right
  rw [take_cut, e0, e1, e2, e3, lo_hi8 _ hs, lo_hi8 _ hn, if_pos ⟨rfl, rfl, h1, h2, h3⟩]
def frame (s : List UInt8) : List UInt8 := Wire.num s.length ++ (Crc.le4 (Crc.sum s) ++ s)
def frames (L : List (List UInt8)) : List UInt8 := L.flatMap frame
def parse : Nat → List UInt8 → List (List UInt8) × Int
  | 0, _ => ([], 0)
  | f + 1, b =>
    if b = [] then ([], 0)
    else if (Wire.take ⟨b, 0⟩).1.e ≠ 0 ∨ (Wire.take ⟨b, 0⟩).1.l.length < 4 ∨ (Wire.take ⟨b, 0⟩).1.l.length - 4 < (Wire.take ⟨b, 0⟩).2 then ([], 7)
    else if Crc.le4 (Crc.sum (((Wire.take ⟨b, 0⟩).1.l.drop 4).take (Wire.take ⟨b, 0⟩).2)) ≠ (Wire.take ⟨b, 0⟩).1.l.take 4 then ([], 20)
    else match parse f ((Wire.take ⟨b, 0⟩).1.l.drop (4 + (Wire.take ⟨b, 0⟩).2)) with
      | (r, e) => if e = 0 then (((Wire.take ⟨b, 0⟩).1.l.drop 4).take (Wire.take ⟨b, 0⟩).2 :: r, 0) else ([], e)
def records (b : List UInt8) : List (List UInt8) × Int := parse b.length b
theorem tk_one : ∀ (l : List UInt8) (i a : Nat), (Wire.tk i a l).1 = 0 → i ≤ 9 → ∃ u n, (Wire.tk i a l) = (0, i + u, a + n * 128 ^ i) ∧ u ≤ l.length ∧ 0 < u ∧ l.take u = Wire.numF (10 - i) n ∧ (0 < i → 0 < n) ∧ n < 128 ^ (10 - i) := by
  intro l
  induction l with
  | nil => intro i a h; simp [Wire.tk] at h
  | cons c r ih =>
    intro i a h hi
    have hc := c.toNat_lt
    unfold Wire.tk at h ⊢
    split
    · rename_i h1; rw [if_pos h1] at h; simp at h
    · rename_i h1
      rw [if_neg h1] at h
      split
      · rename_i h2
        rw [if_pos h2] at h
        have hi9 : i < 9 := by omega
        obtain ⟨u, n, e, hu, hu0, ht, hn0, hnl⟩ := ih (i + 1) _ h (by omega)
        have hn1 := hn0 (by omega)
        refine ⟨u + 1, c.toNat % 128 + 128 * n, ?_, by simp; omega, by omega, ?_, fun _ => by omega, ?_⟩
        · rw [e]
          refine Prod.ext rfl (Prod.ext ?_ ?_)
          · simp only; omega
          · simp only
            rw [Nat.pow_succ, Nat.add_mul]
            have : n * (128 ^ i * 128) = 128 * n * 128 ^ i := by rw [Nat.mul_comm (128 ^ i) 128, ← Nat.mul_assoc, Nat.mul_comm n 128]
            omega
        · rw [List.take_succ_cons, ht, show 10 - i = (10 - (i + 1)) + 1 from by omega]
          rw [Wire.numF, if_neg (by omega), show (c.toNat % 128 + 128 * n) / 128 = n from by omega, show (c.toNat % 128 + 128 * n) % 128 + 128 = c.toNat from by omega]
          rw [UInt8.ofNat_toNat]
        · rw [show 10 - i = (10 - (i + 1)) + 1 from by omega, Nat.pow_succ]; omega
      · rename_i h2
        rw [if_neg h2] at h
        split
        · rename_i h3; rw [if_pos h3] at h; simp at h
        · rename_i h3
          refine ⟨1, c.toNat, by rw [Nat.mod_eq_of_lt (by omega)], by simp, by omega, ?_, fun _ => by omega, ?_⟩
          · rw [show 10 - i = (9 - i) + 1 from by omega]
            unfold Wire.numF
            rw [if_pos (by omega)]
            simp
          · rw [show 10 - i = (9 - i) + 1 from by omega, Nat.pow_succ]
            have : 0 < 128 ^ (9 - i) := Nat.pow_pos (by omega)
            omega
theorem take_one {b : List UInt8} (h : (Wire.take ⟨b, 0⟩).1.e = 0) : Wire.num (Wire.take ⟨b, 0⟩).2 ++ (Wire.take ⟨b, 0⟩).1.l = b := by
  unfold Wire.take at h ⊢
  rw [if_neg (by simp)] at h ⊢
  split
  · rename_i h1
    rw [if_pos h1] at h
    simp only at h
    exact absurd (by exact_mod_cast h) h1
  · rename_i h1
    obtain ⟨u, n, e, hu, hu0, ht, _, _⟩ := tk_one b 0 0 (Classical.not_not.1 h1) (by omega)
    rw [e]
    simp only [Nat.zero_add, Nat.pow_zero, Nat.mul_one]
    show Wire.numF 10 n ++ _ = b
    rw [← ht, List.take_append_drop]
theorem frame_front {b : List UInt8} (he : (Wire.take ⟨b, 0⟩).1.e = 0) (h4 : 4 ≤ (Wire.take ⟨b, 0⟩).1.l.length) (hn : (Wire.take ⟨b, 0⟩).2 ≤ (Wire.take ⟨b, 0⟩).1.l.length - 4) :
    (frame (((Wire.take ⟨b, 0⟩).1.l.drop 4).take (Wire.take ⟨b, 0⟩).2) = b.take (b.length - (Wire.take ⟨b, 0⟩).1.l.length + 4 + (Wire.take ⟨b, 0⟩).2)) ↔
      Crc.le4 (Crc.sum (((Wire.take ⟨b, 0⟩).1.l.drop 4).take (Wire.take ⟨b, 0⟩).2)) = (Wire.take ⟨b, 0⟩).1.l.take 4 := by
  have h1 := take_one he
  generalize (Wire.take ⟨b, 0⟩).2 = n at h1 hn ⊢
  generalize (Wire.take ⟨b, 0⟩).1.l = r at h1 h4 hn ⊢
  have hs : ((r.drop 4).take n).length = n := by simp; omega
  have hlen : b.length - r.length = (Wire.num n).length := by rw [← h1]; simp
  rw [hlen]
  have e : b.take ((Wire.num n).length + 4 + n) = Wire.num n ++ (r.take 4 ++ (r.drop 4).take n) := by
    rw [← h1, Nat.add_assoc, List.take_length_add_append, List.take_add]
  rw [e]
  unfold frame
  rw [hs]
  constructor
  · intro h
    have h2 := List.append_cancel_left h
    exact (List.append_inj h2 (by simp [Crc.le4]; omega)).1
  · intro h; rw [h]
theorem frame_length (s : List UInt8) : s.length + 5 ≤ (frame s).length ∧ (frame s).length ≤ s.length + 14 := by
  have := Wire.num_length s.length
  simp [frame, Crc.le4]
  omega
theorem frames_cons (s : List UInt8) (L : List (List UInt8)) : frames (s :: L) = frame s ++ frames L := rfl
theorem frames_append (L M : List (List UInt8)) : frames (L ++ M) = frames L ++ frames M := by simp [frames]
theorem take_frame {s t : List UInt8} (h : s.length < 18446744073709551616) : Wire.take ⟨frame s ++ t, 0⟩ = (⟨Crc.le4 (Crc.sum s) ++ s ++ t, 0⟩, s.length) := by
  unfold frame
  rw [List.append_assoc, Wire.take_num _ h, List.append_assoc]
theorem parse_frames : ∀ (L : List (List UInt8)) (f : Nat), (∀ s ∈ L, s.length < 18446744073709551616) → L.length ≤ f → parse f (frames L) = (L, 0)
  | [], 0, _, _ => rfl
  | [], f + 1, _, _ => by simp [parse, frames]
  | s :: L, 0, _, h => by simp at h
  | s :: L, f + 1, hs, h => by
    have ih := parse_frames L f (fun x hx => hs x (List.mem_cons_of_mem _ hx)) (by simpa using h)
    have hfl := frame_length s
    have h0 := hs s (List.mem_cons_self ..)
    have e4 : (Crc.le4 (Crc.sum s)).length = 4 := rfl
    unfold parse
    rw [frames_cons, take_frame h0]
    rw [if_neg (by intro e; have := congrArg List.length e; rw [List.length_append, List.length_nil] at this; omega)]
    rw [if_neg (by simp only [List.length_append, e4]; omega)]
    have e1 : (Crc.le4 (Crc.sum s) ++ s ++ frames L).take 4 = Crc.le4 (Crc.sum s) := by rw [List.append_assoc, List.take_append_of_le_length (by rw [e4]; omega), List.take_of_length_le (by rw [e4]; omega)]
    have e2 : ((Crc.le4 (Crc.sum s) ++ s ++ frames L).drop 4).take s.length = s := by
      rw [List.append_assoc, show (4 : Nat) = (Crc.le4 (Crc.sum s)).length from rfl, List.drop_left, List.take_left]
    have e3 : (Crc.le4 (Crc.sum s) ++ s ++ frames L).drop (4 + s.length) = frames L := by
      rw [show 4 + s.length = (Crc.le4 (Crc.sum s) ++ s).length from by simp [e4], List.drop_left]
    simp only [e1, e2, e3, ih]
    simp
theorem records_frames (L : List (List UInt8)) (hs : ∀ s ∈ L, s.length < 18446744073709551616) : records (frames L) = (L, 0) := by
  refine parse_frames L _ hs ?_
  clear hs
  induction L with
  | nil => exact Nat.le_refl _
  | cons s L ih =>
    have := frame_length s
    rw [frames_cons, List.length_append, List.length_cons]
    omega
theorem parse_fuel : ∀ (f g : Nat) (b : List UInt8), b.length ≤ f → b.length ≤ g → parse f b = parse g b
  | 0, 0, _, _, _ => rfl
  | 0, g + 1, b, h, _ => by
    obtain rfl := List.eq_nil_of_length_eq_zero (Nat.le_zero.1 h)
    simp [parse]
  | f + 1, 0, b, _, h => by
    obtain rfl := List.eq_nil_of_length_eq_zero (Nat.le_zero.1 h)
    simp [parse]
  | f + 1, g + 1, b, hf, hg => by
    unfold parse
    by_cases hb : b = []
    · rw [if_pos hb, if_pos hb]
    · rw [if_neg hb, if_neg hb]
      split
      · rfl
      · split
        · rfl
        · rename_i h1 h2
          have hl := Wire.take_len ⟨b, 0⟩
          have : 0 < b.length := List.length_pos_iff.2 hb
          simp only at hl
          rw [parse_fuel f g _ (by simp; omega) (by simp; omega)]
end Go.Proofs.YtcfoihihinijlaaGreat.Wal
end

section
namespace Go.Proofs.YtcfoihihinijlaaGreat
set_option linter.unusedSimpArgs false
set_option linter.unusedVariables false
open Go
def regFrame (ops : List Oper) (v : Nat → Value) (a : Act) : Act :=
  (ops.zipIdx.foldl (fun a (p : Oper × Nat) => a.put p.1.dst (v p.2)) a)
def slotOf (a : Act) (d : Option Tmp) : Value := match d with | some t => a.tmps.getD t undef | none => undef
theorem put_self (a : Act) (d : Option Tmp) : a.put d (slotOf a d) = a := by
  cases d with
  | none => rfl
  | some t =>
    unfold Act.put slotOf
    simp only
    congr 1
    apply Array.ext
    · simp
    · intro i h1 h2
      by_cases h : t = i
      · subst h; simp [h2]
      · rw [Array.getElem_setIfInBounds_ne h2 h]
theorem put_put (a : Act) (d : Option Tmp) (u v : Value) : (a.put d u).put d v = a.put d v := by
  cases d with
  | none => rfl
  | some t =>
    unfold Act.put
    simp
def onceB (l : List Oper) : Bool := match l with
  | [] => true
  | o :: l => (match o.dst with | none => true | some d => l.all fun p => p.dst != some d) && onceB l
def lowerB (l : List Oper) : Bool := l.zipIdx.all fun p => p.1.after.all fun e => !Region.binds .any e || decide (e.on < p.2)
theorem regFrame_go_put (d : Option Tmp) (u : Value) : ∀ (l : List Oper) (k : Nat) (v : Nat → Value) (a : Act), (∀ o ∈ l, ∀ t, d = some t → o.dst ≠ some t) →
    (l.zipIdx k).foldl (fun a (p : Oper × Nat) => a.put p.1.dst (v p.2)) (a.put d u) = ((l.zipIdx k).foldl (fun a (p : Oper × Nat) => a.put p.1.dst (v p.2)) a).put d u := by
  intro l
  induction l with
  | nil => intros; rfl
  | cons o l ih =>
    intro k v a h
    simp only [List.zipIdx_cons, List.foldl_cons]
    rw [Act.put_comm a u (v k) (fun t ht => h o (by simp) t ht), ih (k + 1) v _ (fun o' ho' => h o' (by simp [ho']))]
theorem regFrame_go_congr : ∀ (l : List Oper) (k : Nat) (v v' : Nat → Value) (a : Act), (∀ i, k ≤ i → i < k + l.length → v i = v' i) →
    (l.zipIdx k).foldl (fun a (p : Oper × Nat) => a.put p.1.dst (v p.2)) a = (l.zipIdx k).foldl (fun a (p : Oper × Nat) => a.put p.1.dst (v' p.2)) a := by
  intro l
  induction l with
  | nil => intros; rfl
  | cons o l ih =>
    intro k v v' a h
    simp only [List.zipIdx_cons, List.foldl_cons]
    rw [h k (by omega) (by simp), ih (k + 1) v v' _ (fun i h1 h2 => h i (by omega) (by simp; omega))]
theorem regFrame_go_upd : ∀ (l : List Oper) (k : Nat) (v : Nat → Value) (a : Act) (i : Nat) (o : Oper) (u : Value), onceB l = true → l[i]? = some o →
    (l.zipIdx k).foldl (fun a (p : Oper × Nat) => a.put p.1.dst ((fun j => if j = k + i then u else v j) p.2)) a =
      ((l.zipIdx k).foldl (fun a (p : Oper × Nat) => a.put p.1.dst (v p.2)) a).put o.dst u := by
  intro l
  induction l with
  | nil => intro k v a i o u _ h; simp at h
  | cons p l ih =>
    intro k v a i o u ho hi
    simp only [onceB, Bool.and_eq_true] at ho
    simp only [List.zipIdx_cons, List.foldl_cons]
    cases i with
    | zero =>
      simp only [List.getElem?_cons_zero, Option.some.injEq] at hi
      subst hi
      have hne : ∀ q ∈ l, ∀ t, p.dst = some t → q.dst ≠ some t := by
        intro q hq t ht
        have h1 := ho.1
        rw [ht] at h1
        simpa using List.all_eq_true.1 h1 q hq
      rw [← regFrame_go_put p.dst u l (k + 1) v _ hne, put_put]
      simp only [Nat.add_zero, if_true]
      exact regFrame_go_congr l (k + 1) (fun j => if j = k then u else v j) v _ (fun j h1 _ => if_neg (by omega))
    | succ i =>
      rw [if_neg (by omega)]
      have := ih (k + 1) v (a.put p.dst (v k)) i o u ho.2 (by simpa using hi)
      rw [← this]
      refine regFrame_go_congr l (k + 1) (fun j => if j = k + (i + 1) then u else v j) (fun j => if j = k + 1 + i then u else v j) _ (fun j _ _ => ?_)
      simp only [show k + (i + 1) = k + 1 + i from by omega]
theorem regFrame_upd (l : List Oper) (v : Nat → Value) (a : Act) (i : Nat) (o : Oper) (u : Value) (ho : onceB l = true) (hi : l[i]? = some o) :
    regFrame l (fun j => if j = i then u else v j) a = (regFrame l v a).put o.dst u := by
  have := regFrame_go_upd l 0 v a i o u ho hi
  simpa [regFrame] using this
theorem regFrame_start : ∀ (l : List Oper) (k : Nat) (a : Act) (v : Nat → Value), onceB l = true → (∀ i o, l[i]? = some o → v (k + i) = slotOf a o.dst) →
    (l.zipIdx k).foldl (fun a (p : Oper × Nat) => a.put p.1.dst (v p.2)) a = a := by
  intro l
  induction l with
  | nil => intros; rfl
  | cons p l ih =>
    intro k a v ho hv
    simp only [onceB, Bool.and_eq_true] at ho
    simp only [List.zipIdx_cons, List.foldl_cons]
    have h0 := hv 0 p (by simp)
    simp only [Nat.add_zero] at h0
    rw [h0, put_self]
    refine ih (k + 1) a v ho.2 fun i o hi => ?_
    have := hv (i + 1) o (by simpa using hi)
    rwa [show k + (i + 1) = k + 1 + i from by omega] at this
theorem filter_set : ∀ (L : List Bool) (i : Nat), L[i]? = some false → ((L.set i true).filter (· == false)).length + 1 ≤ (L.filter (· == false)).length
  | [], i, h => by simp at h
  | b :: L, 0, h => by
    simp at h
    subst h
    simp
  | b :: L, i + 1, h => by
    have := filter_set L i (by simpa using h)
    cases b <;> simp at this ⊢ <;> omega
section
variable {P : Program} {Q : Exit → Act → World → Prop}
def opDoes (P : Program) (ops : List Oper) (o : Oper) (Q : Exit → Act → World → Prop) (a : Act) (w : World) (T : Value → World → Prop) : Prop :=
  ∀ K : Act → World → Prop, (∀ x w', T x w' → K (a.put o.dst x) w') →
    if Region.wanted o (yielded ops.toArray a.tmps) then o.wp P a w K Q else K (a.put o.dst undef) w
theorem wp_region_rel0 {id : Nat} {l : List Oper} {a : Act} {w : World} (hm : P.follows .mixedOrders = true) (honce : onceB l = true) (hlow : lowerB l = true)
    (Inv : World → Prop) (Grow : World → World → Prop) (R : Nat → Value → World → Prop)
    (hInv : ∀ w w', Inv w → Grow w w' → Inv w') (hR : ∀ i x w w', Inv w → Grow w w' → R i x w → R i x w')
    (h0 : Inv w.drew)
    (hstep : ∀ i o, l[i]? = some o → ∀ v w', Inv w' →
      (∀ e ∈ o.after, Region.binds .any e = true → R e.on (v e.on) w') →
      (∀ j o', l[j]? = some o' → (∃ e ∈ o'.after, Region.binds .any e = true ∧ e.on = i) → v j = slotOf a o'.dst) →
      opDoes P l o Q (regFrame l v a) w' fun x w'' => Grow w' w'' ∧ R i x w'')
    (hend : ∀ v w', Inv w' → (∀ i, i < l.length → R i (v i) w') → Q .normal (regFrame l v a) w') :
    (Code.region id l.toArray true).wp P Q a w := by
  refine wp_region_any hm ?_
  have hlt : ∀ j o, l[j]? = some o → ∀ e ∈ o.after, Region.binds .any e = true → e.on < j := by
    intro j o hj e he hb
    have h1 : (o, j) ∈ l.zipIdx := by
      rw [List.mem_zipIdx_iff_getElem?]; exact hj
    have h2 := List.all_eq_true.1 hlow (o, j) h1
    have h3 := Array.all_eq_true_iff_forall_mem.1 h2 e he
    simpa [hb] using h3
  have key : ∀ (fuel : Nat) (listed : Array Bool) (v : Nat → Value) (w' : World), listed.size = l.length → Inv w' →
      (∀ i, listed.getD i false = true → R i (v i) w') → (∀ i o, l[i]? = some o → listed.getD i false = false → v i = slotOf a o.dst) →
      (∀ j o, l[j]? = some o → listed.getD j false = true → ∀ e ∈ o.after, Region.binds .any e = true → listed.getD e.on false = true) →
      (listed.toList.filter (· == false)).length ≤ fuel →
      wpAny P .any l.toArray Q fuel listed (regFrame l v a) w' := by
    have hdone : ∀ (listed : Array Bool), listed.size = l.length → Region.ready .any l.toArray listed = [] → ∀ i, i < l.length → listed.getD i false = true := by
      intro listed hs hr i
      induction i using Nat.strongRecOn with
      | _ i ih =>
        intro hi
        have hs' : i < listed.size := by omega
        cases hg : listed.getD i false with
        | true => rfl
        | false =>
          exfalso
          have : i ∈ Region.ready .any l.toArray listed := by
            rw [mem_ready]
            refine ⟨?_, l[i], by simp [hi], fun e he hb => ?_⟩
            · simp only [Array.getD_eq_getD_getElem?, Array.getElem?_eq_getElem hs'] at hg ⊢
              simpa using hg
            · have h1 := hlt i l[i] (List.getElem?_eq_getElem hi) e he hb
              exact ih e.on h1 (by omega)
          rw [hr] at this
          cases this
    intro fuel
    induction fuel with
    | zero =>
      intro listed v w' hs hI hR1 hV hC hf
      have hall : ∀ i, i < l.length → listed.getD i false = true := by
        intro i hi
        have hs' : i < listed.size := by omega
        cases hg : listed.getD i false with
        | true => rfl
        | false =>
          exfalso
          have h1 : listed[i] = false := by simpa [Array.getD_eq_getD_getElem?, Array.getElem?_eq_getElem hs'] using hg
          have h2 : false ∈ listed.toList.filter (· == false) := by
            rw [List.mem_filter]
            exact ⟨by rw [← h1]; simp, rfl⟩
          have := List.length_pos_of_mem h2
          omega
      refine ⟨?_, hend v w' hI fun i hi => hR1 i (hall i hi)⟩
      have : ∀ j, j ∉ Region.ready .any l.toArray listed := by
        intro j hj
        rw [mem_ready] at hj
        obtain ⟨h1, o, ho, _⟩ := hj
        have hjl : j < l.length := by
          have := (Array.getElem?_eq_some_iff.1 ho).1
          simpa using this
        have h2 := hall j hjl
        have hs' : j < listed.size := by omega
        simp only [Array.getD_eq_getD_getElem?, Array.getElem?_eq_getElem hs', Option.getD_some] at h1 h2
        rw [h1] at h2
        cases h2
      exact List.eq_nil_iff_forall_not_mem.2 this
    | succ fuel ih =>
      intro listed v w' hs hI hR1 hV hC hf
      refine ⟨fun hr => hend v w' hI fun i hi => hR1 i (hdone listed hs hr i hi), fun i hi => ?_⟩
      rw [mem_ready] at hi
      obtain ⟨h1, o, ho, hall⟩ := hi
      have hil : i < l.length := by
        have := (Array.getElem?_eq_some_iff.1 ho).1
        simpa using this
      have hol : l[i]? = some o := by simpa using ho
      have hs' : i < listed.size := by omega
      have hif : listed.getD i false = false := by
        simp only [Array.getD_eq_getD_getElem?, Array.getElem?_eq_getElem hs', Option.getD_some] at h1 ⊢
        exact h1
      have hst := hstep i o hol v w' hI (fun e he hb => hR1 e.on (hall e he hb)) (by
        rintro j o' hj ⟨e, he, hb, rfl⟩
        refine hV j o' hj ?_
        cases hg : listed.getD j false with
        | false => rfl
        | true =>
          have := hC j o' hj hg e he hb
          rw [hif] at this
          cases this)
      have hK : ∀ x w'', Grow w' w'' ∧ R i x w'' → wpAny P .any l.toArray Q fuel (listed.setIfInBounds i true) ((regFrame l v a).put o.dst x) w'' := by
        rintro x w'' ⟨hg, hr⟩
        rw [← regFrame_upd l v a i o x honce hol]
        have hgd : ∀ j, (listed.setIfInBounds i true).getD j false = if j = i then true else listed.getD j false := by
          intro j
          by_cases hji : j = i
          · subst hji; simp [Array.getD_eq_getD_getElem?, hs']
          · rw [if_neg hji]; simp [Array.getD_eq_getD_getElem?, Array.getElem?_setIfInBounds_ne (Ne.symm hji)]
        refine ih _ _ w'' (by simpa using hs) (hInv w' w'' hI hg) ?_ ?_ ?_ ?_
        · intro j hj
          rw [hgd] at hj
          by_cases hji : j = i
          · subst hji; simpa using hr
          · simp only [if_neg hji] at hj ⊢
            exact hR j _ _ _ hI hg (hR1 j hj)
        · intro j o' hj hjf
          rw [hgd] at hjf
          by_cases hji : j = i
          · simp [hji] at hjf
          · simp only [if_neg hji] at hjf ⊢
            exact hV j o' hj hjf
        · intro j o' hj hjt e he hb
          rw [hgd] at hjt ⊢
          by_cases hei : e.on = i
          · simp [hei]
          · rw [if_neg hei]
            by_cases hji : j = i
            · subst hji
              have : o' = o := by rw [hj] at hol; exact Option.some.inj hol
              subst this
              exact hall e he hb
            · rw [if_neg hji] at hjt
              exact hC j o' hj hjt e he hb
        · have hlen : ((listed.setIfInBounds i true).toList.filter (· == false)).length + 1 ≤ (listed.toList.filter (· == false)).length := by
            rw [Array.toList_setIfInBounds]
            have hx : listed.toList[i]? = some false := by
              have := h1
              simp only [Array.getD_eq_getD_getElem?, Array.getElem?_eq_getElem hs', Option.getD_some] at this
              simp [hs', this]
            exact filter_set _ i hx
          omega
      unfold wpOp
      rw [ho]
      have h2 := hst _ hK
      simp only
      split
      · rename_i hw
        rw [if_pos hw] at h2
        exact .inl h2
      · rename_i hw
        rw [if_neg hw] at h2
        exact h2
  have hst : regFrame l (fun i => slotOf a ((l[i]?).bind (·.dst))) a = a := by
    unfold regFrame
    refine regFrame_start l 0 a (fun i => slotOf a ((l[i]?).bind (·.dst))) honce fun i o hi => ?_
    simp [hi]
  have := key l.length (Array.replicate l.length false) (fun i => slotOf a ((l[i]?).bind (·.dst))) w.drew (by simp) h0 (by
    intro i hi
    simp [Array.getD_eq_getD_getElem?, Array.getElem?_replicate] at hi
    split at hi <;> simp at hi) (by
    intro i o hi _
    simp [hi]) (by
    intro j o _ hj
    simp [Array.getD_eq_getD_getElem?, Array.getElem?_replicate] at hj
    split at hj <;> simp at hj) (by simp)
  rw [hst] at this
  simpa using this
def AllOps (F : Nat → Oper → Prop) : List Oper → Nat → Prop
  | [], _ => True
  | o :: l, k => F k o ∧ AllOps F l (k + 1)
def Deps (F : Nat → Prop) : List Edge → Prop
  | [] => True
  | e :: l => (if Region.binds .any e then F e.on else True) ∧ Deps F l
theorem AllOps.get {F : Nat → Oper → Prop} : ∀ {l : List Oper} {k : Nat}, AllOps F l k → ∀ i o, l[i]? = some o → F (k + i) o
  | [], _, _, i, o, h => by simp at h
  | p :: l, k, ha, 0, o, h => by simp at h; subst h; exact ha.1
  | p :: l, k, ha, i + 1, o, h => by
    have := AllOps.get ha.2 i o (by simpa using h)
    rwa [show k + (i + 1) = k + 1 + i from by omega]
theorem AllOps.of {F : Nat → Oper → Prop} : ∀ {l : List Oper} (k : Nat), (∀ i o, i < l.length → F (k + i) o) → AllOps F l k
  | [], _, _ => trivial
  | o :: l, k, h => ⟨h 0 o (by simp), AllOps.of (k + 1) fun i p hi => by
      have := h (i + 1) p (by simpa using hi)
      rwa [show k + (i + 1) = k + 1 + i from by omega] at this⟩
theorem Deps.of {F : Nat → Prop} : ∀ {l : List Edge}, (∀ e ∈ l, Region.binds .any e = true → F e.on) → Deps F l
  | [], _ => trivial
  | e :: l, h => ⟨by
      split
      · rename_i hb; exact h e (by simp) hb
      · trivial, Deps.of fun e' he' => h e' (by simp [he'])⟩
theorem wp_region_rel {id : Nat} {l : List Oper} {a : Act} {w : World} (Inv : World → Prop) (Grow : World → World → Prop) (R : Nat → Value → World → Prop)
    (G : (Nat → Value) → Act) (hG : ∀ v, regFrame l v a = G v) (hm : P.follows .mixedOrders = true) (honce : onceB l = true) (hlow : lowerB l = true)
    (hInv : ∀ w w', Inv w → Grow w w' → Inv w') (hR : ∀ i x w w', Inv w → Grow w w' → R i x w → R i x w')
    (h0 : Inv w.drew)
    (hstep : AllOps (fun i o => ∀ v w', Inv w' → Deps (fun j => R j (v j) w') o.after.toList →
      (∀ j o', l[j]? = some o' → (∃ e ∈ o'.after, Region.binds .any e = true ∧ e.on = i) → v j = slotOf a o'.dst) →
      opDoes P l o Q (G v) w' fun x w'' => Grow w' w'' ∧ R i x w'') l 0)
    (hend : ∀ v w', Inv w' → AllOps (fun i _ => R i (v i) w') l 0 → Q .normal (G v) w') :
    (Code.region id l.toArray true).wp P Q a w :=
  wp_region_rel0 hm honce hlow Inv Grow R hInv hR h0 (fun i o hi v w' hI hd hj => by
    rw [hG]
    have := hstep.get i o hi
    simp only [Nat.zero_add] at this
    exact this v w' hI (Deps.of fun e he hb => hd e (by simpa using he) hb) hj) (fun v w' hI h => by rw [hG]; exact hend v w' hI (AllOps.of (l := l) (F := fun i _ => R i (v i) w') 0 fun i _ hi => by simpa using h i hi))
section
variable {l : List Oper} {o : Oper} {a : Act} {w : World} {T : Value → World → Prop}
theorem opDoes_plain (hg : o.guard = none) (h : ∀ K : Act → World → Prop, (∀ x w', T x w' → K (a.put o.dst x) w') → o.wp P a w K Q) : opDoes P l o Q a w T := fun K hK => by
  rw [if_pos (by simp [Region.wanted, hg])]
  exact h K hK
theorem opDoes_move (x : Operand) (hg : o.guard = none) (ho : o.op = .move x) (h : T (a.eval x) w) : opDoes P l o Q a w T :=
  opDoes_plain hg fun _ hK => BigFrame.wp_move x ho (hK _ _ h)
theorem opDoes_assign (x : Operand) (hg : o.guard = none) (ho : o.op = .assign x) (h : T (a.eval x) w) : opDoes P l o Q a w T :=
  opDoes_plain hg fun _ hK => BigFrame.wp_assign x ho (hK _ _ h)
theorem opDoes_run {x : Value} {w' : World} (hg : o.guard = none) (hr : (execOp a.eval o).run P w = .ok (.value x) w') (h : T x w') : opDoes P l o Q a w T :=
  opDoes_plain hg fun K hK => by
    unfold Oper.wp
    rw [hr]
    exact hK _ _ h
theorem wanted_guard {j d : Nat} {b : Bool} {oj : Oper} (hg : o.guard = some (j, b)) (hj : l[j]? = some oj) (hd : oj.dst = some d) (hv : a.tmps[d]? = some (.bool b)) :
    Region.wanted o (yielded l.toArray a.tmps) = true := by
  have hy : yielded l.toArray a.tmps j = some b := by simp [yielded, hj, hd, hv]
  simp [Region.wanted, hg, hy]
theorem opDoes_want (hw : Region.wanted o (yielded l.toArray a.tmps) = true) (h : ∀ K : Act → World → Prop, (∀ x w', T x w' → K (a.put o.dst x) w') → o.wp P a w K Q) : opDoes P l o Q a w T := fun K hK => by
  rw [if_pos hw]
  exact h K hK
theorem opDoes_gmove (x : Operand) (hw : Region.wanted o (yielded l.toArray a.tmps) = true) (ho : o.op = .move x) (h : T (a.eval x) w) : opDoes P l o Q a w T :=
  opDoes_want hw fun _ hK => BigFrame.wp_move x ho (hK _ _ h)
theorem opDoes_grun {x : Value} {w' : World} (hw : Region.wanted o (yielded l.toArray a.tmps) = true) (hr : (execOp a.eval o).run P w = .ok (.value x) w') (h : T x w') : opDoes P l o Q a w T :=
  opDoes_want hw fun K hK => by
    unfold Oper.wp
    rw [hr]
    exact hK _ _ h
theorem opDoes_skipped {j d : Nat} {b : Bool} {oj : Oper} (hg : o.guard = some (j, b)) (hj : l[j]? = some oj) (hd : oj.dst = some d) (hv : a.tmps[d]? = some (.bool (!b)))
    (h : T undef w) : opDoes P l o Q a w T := fun K hK => by
  have hy : yielded l.toArray a.tmps j = some (!b) := by simp [yielded, hj, hd, hv]
  rw [if_neg (by simp [Region.wanted, hg, hy])]
  exact hK _ _ h
theorem opDoes_call (f : FuncId) (xs : Array Operand) (ats : Array TypeId) (args : Array Value) (hg : o.guard = none) (ho : o.op = .call { callee := .value (.func f), args := xs, argTypes := ats })
    (ha : xs.map a.eval = args) (hf : (callFunc f args).run P w = .ok (.enter f args) w) (h : Calls P f args w fun e w' => ∃ x, e = .returned x ∧ T x w') : opDoes P l o Q a w T :=
  opDoes_plain hg fun K hK => by
    obtain ⟨dst, op, type, pos, after, guard⟩ := o
    simp only at ho
    subst ho
    unfold Oper.wp
    rw [execOp_call_go]
    simp only [Array.empty_append, Array.append_empty, ha, hf, Oper.upon_enter]
    refine h.mono fun e w' hx => ?_
    obtain ⟨x, rfl, hT⟩ := hx
    exact hK _ _ hT
end
end
end Go.Proofs.YtcfoihihinijlaaGreat
end

section
namespace Go.Proofs.YtcfoihihinijlaaGreat
set_option linter.unusedSimpArgs false
set_option linter.unusedVariables false
open Go
section
variable {P : Program} {Q : Exit → Act → World → Prop}
def waitsB (l : List Oper) : Nat → Nat → Nat → Bool
  | 0, j, i => j == i
  | f + 1, j, i => j == i || (match l[j]? with | some o => o.after.toList.any fun e => Region.binds .any e && waitsB l f e.on i | none => false)
theorem Deps.get {F : Nat → Prop} : ∀ {l : List Edge}, Deps F l → ∀ e ∈ l, Region.binds .any e = true → F e.on
  | [], _, e, he, _ => by cases he
  | e :: l, h, e', he, hb => by
    cases he with
    | head => have := h.1; rwa [if_pos hb] at this
    | tail _ he => exact Deps.get h.2 e' he hb
theorem done_of {l : List Oper} {D : Nat → Bool} (hc : ∀ j o', l[j]? = some o' → D j = true → Deps (fun j => D j = true) o'.after.toList) : ∀ (f : Nat) {j : Nat} (i : Nat), D j = true → waitsB l f j i = true → D i = true
  | 0, j, i, hj, h => by
    have : j = i := by simpa [waitsB] using h
    exact this ▸ hj
  | f + 1, j, i, hj, h => by
    unfold waitsB at h
    rw [Bool.or_eq_true] at h
    rcases h with h | h
    · have : j = i := by simpa using h
      exact this ▸ hj
    · split at h
      · rename_i o ho
        obtain ⟨e, he, hb⟩ := List.any_eq_true.1 h
        rw [Bool.and_eq_true] at hb
        exact done_of hc f i (Deps.get (hc j o ho hj) e he hb.1) hb.2
      · cases h
end
section
variable {P : Program} {Q : Exit → Act → World → Prop} {l : List Oper} {o : Oper} {a : Act} {w : World} {T : Value → World → Prop}
end
end Go.Proofs.YtcfoihihinijlaaGreat
end

section
namespace Go.Proofs.YtcfoihihinijlaaGreat
set_option linter.unusedSimpArgs false
set_option linter.unusedVariables false
open Go
section
variable {P : Program} {Q : Exit → Act → World → Prop}
theorem wp_region_sv0 {id : Nat} {l : List Oper} {a : Act} {w : World} (hm : P.follows .mixedOrders = true) (honce : onceB l = true) (hlow : lowerB l = true)
    (S : (Nat → Bool) → (Nat → Value) → World → Prop) (Grow : World → World → Prop) (R : Nat → Value → World → Prop)
    (hR : ∀ i x w w', Grow w w' → R i x w → R i x w')
    (h0 : ∀ v, S (fun _ => false) v w.drew)
    (hstep : ∀ i o, l[i]? = some o → ∀ D v w', S D v w' → D i = false →
      (∀ e ∈ o.after, Region.binds .any e = true → D e.on = true ∧ R e.on (v e.on) w') →
      (∀ j o', l[j]? = some o' → D j = true → ∀ e ∈ o'.after, Region.binds .any e = true → D e.on = true) →
      opDoes P l o Q (regFrame l v a) w' fun x w'' => Grow w' w'' ∧ R i x w'' ∧ S (fun j => if j = i then true else D j) (fun j => if j = i then x else v j) w'')
    (hend : ∀ D v w', S D v w' → (∀ i, i < l.length → D i = true) → (∀ i, i < l.length → R i (v i) w') → Q .normal (regFrame l v a) w') :
    (Code.region id l.toArray true).wp P Q a w := by
  refine wp_region_any hm ?_
  have hlt : ∀ j o, l[j]? = some o → ∀ e ∈ o.after, Region.binds .any e = true → e.on < j := by
    intro j o hj e he hb
    have h1 : (o, j) ∈ l.zipIdx := by
      rw [List.mem_zipIdx_iff_getElem?]; exact hj
    have h2 := List.all_eq_true.1 hlow (o, j) h1
    have h3 := Array.all_eq_true_iff_forall_mem.1 h2 e he
    simpa [hb] using h3
  have key : ∀ (fuel : Nat) (listed : Array Bool) (v : Nat → Value) (w' : World), listed.size = l.length → S (fun i => listed.getD i false) v w' →
      (∀ i, listed.getD i false = true → R i (v i) w') → (∀ i o, l[i]? = some o → listed.getD i false = false → v i = slotOf a o.dst) →
      (∀ j o, l[j]? = some o → listed.getD j false = true → ∀ e ∈ o.after, Region.binds .any e = true → listed.getD e.on false = true) →
      (listed.toList.filter (· == false)).length ≤ fuel →
      wpAny P .any l.toArray Q fuel listed (regFrame l v a) w' := by
    have hdone : ∀ (listed : Array Bool), listed.size = l.length → Region.ready .any l.toArray listed = [] → ∀ i, i < l.length → listed.getD i false = true := by
      intro listed hs hr i
      induction i using Nat.strongRecOn with
      | _ i ih =>
        intro hi
        have hs' : i < listed.size := by omega
        cases hg : listed.getD i false with
        | true => rfl
        | false =>
          exfalso
          have : i ∈ Region.ready .any l.toArray listed := by
            rw [mem_ready]
            refine ⟨?_, l[i], by simp [hi], fun e he hb => ?_⟩
            · simp only [Array.getD_eq_getD_getElem?, Array.getElem?_eq_getElem hs'] at hg ⊢
              simpa using hg
            · have h1 := hlt i l[i] (List.getElem?_eq_getElem hi) e he hb
              exact ih e.on h1 (by omega)
          rw [hr] at this
          cases this
    intro fuel
    induction fuel with
    | zero =>
      intro listed v w' hs hI hR1 hV hC hf
      have hall : ∀ i, i < l.length → listed.getD i false = true := by
        intro i hi
        have hs' : i < listed.size := by omega
        cases hg : listed.getD i false with
        | true => rfl
        | false =>
          exfalso
          have h1 : listed[i] = false := by simpa [Array.getD_eq_getD_getElem?, Array.getElem?_eq_getElem hs'] using hg
          have h2 : false ∈ listed.toList.filter (· == false) := by
            rw [List.mem_filter]
            exact ⟨by rw [← h1]; simp, rfl⟩
          have := List.length_pos_of_mem h2
          omega
      refine ⟨?_, hend _ v w' hI hall fun i hi => hR1 i (hall i hi)⟩
      have : ∀ j, j ∉ Region.ready .any l.toArray listed := by
        intro j hj
        rw [mem_ready] at hj
        obtain ⟨h1, o, ho, _⟩ := hj
        have hjl : j < l.length := by
          have := (Array.getElem?_eq_some_iff.1 ho).1
          simpa using this
        have h2 := hall j hjl
        have hs' : j < listed.size := by omega
        simp only [Array.getD_eq_getD_getElem?, Array.getElem?_eq_getElem hs', Option.getD_some] at h1 h2
        rw [h1] at h2
        cases h2
      exact List.eq_nil_iff_forall_not_mem.2 this
    | succ fuel ih =>
      intro listed v w' hs hI hR1 hV hC hf
      refine ⟨fun hr => hend _ v w' hI (hdone listed hs hr) fun i hi => hR1 i (hdone listed hs hr i hi), fun i hi => ?_⟩
      rw [mem_ready] at hi
      obtain ⟨h1, o, ho, hall⟩ := hi
      have hil : i < l.length := by
        have := (Array.getElem?_eq_some_iff.1 ho).1
        simpa using this
      have hol : l[i]? = some o := by simpa using ho
      have hs' : i < listed.size := by omega
      have hif : listed.getD i false = false := by
        simp only [Array.getD_eq_getD_getElem?, Array.getElem?_eq_getElem hs', Option.getD_some] at h1 ⊢
        exact h1
      have hst := hstep i o hol _ v w' hI hif (fun e he hb => ⟨hall e he hb, hR1 e.on (hall e he hb)⟩) hC
      have hK : ∀ x w'', (Grow w' w'' ∧ R i x w'' ∧ S (fun j => if j = i then true else listed.getD j false) (fun j => if j = i then x else v j) w'') → wpAny P .any l.toArray Q fuel (listed.setIfInBounds i true) ((regFrame l v a).put o.dst x) w'' := by
        rintro x w'' ⟨hg, hr, hS⟩
        rw [← regFrame_upd l v a i o x honce hol]
        have hgd : ∀ j, (listed.setIfInBounds i true).getD j false = if j = i then true else listed.getD j false := by
          intro j
          by_cases hji : j = i
          · subst hji; simp [Array.getD_eq_getD_getElem?, hs']
          · rw [if_neg hji]; simp [Array.getD_eq_getD_getElem?, Array.getElem?_setIfInBounds_ne (Ne.symm hji)]
        refine ih _ _ w'' (by simpa using hs) (by simpa only [hgd] using hS) ?_ ?_ ?_ ?_
        · intro j hj
          rw [hgd] at hj
          by_cases hji : j = i
          · subst hji; simpa using hr
          · simp only [if_neg hji] at hj ⊢
            exact hR j _ _ _ hg (hR1 j hj)
        · intro j o' hj hjf
          rw [hgd] at hjf
          by_cases hji : j = i
          · simp [hji] at hjf
          · simp only [if_neg hji] at hjf ⊢
            exact hV j o' hj hjf
        · intro j o' hj hjt e he hb
          rw [hgd] at hjt ⊢
          by_cases hei : e.on = i
          · simp [hei]
          · rw [if_neg hei]
            by_cases hji : j = i
            · subst hji
              have : o' = o := by rw [hj] at hol; exact Option.some.inj hol
              subst this
              exact hall e he hb
            · rw [if_neg hji] at hjt
              exact hC j o' hj hjt e he hb
        · have hlen : ((listed.setIfInBounds i true).toList.filter (· == false)).length + 1 ≤ (listed.toList.filter (· == false)).length := by
            rw [Array.toList_setIfInBounds]
            have hx : listed.toList[i]? = some false := by
              have := h1
              simp only [Array.getD_eq_getD_getElem?, Array.getElem?_eq_getElem hs', Option.getD_some] at this
              simp [hs', this]
            exact filter_set _ i hx
          omega
      unfold wpOp
      rw [ho]
      have h2 := hst _ hK
      simp only
      split
      · rename_i hw
        rw [if_pos hw] at h2
        exact .inl h2
      · rename_i hw
        rw [if_neg hw] at h2
        exact h2
  have hst : regFrame l (fun i => slotOf a ((l[i]?).bind (·.dst))) a = a := by
    unfold regFrame
    refine regFrame_start l 0 a (fun i => slotOf a ((l[i]?).bind (·.dst))) honce fun i o hi => ?_
    simp [hi]
  have := key l.length (Array.replicate l.length false) (fun i => slotOf a ((l[i]?).bind (·.dst))) w.drew (by simp) (by
    have e : (fun i => (Array.replicate l.length false).getD i false) = fun _ => false := by
      funext i
      simp only [Array.getD_eq_getD_getElem?, Array.getElem?_replicate]
      split <;> rfl
    rw [e]
    exact h0 _) (by
    intro i hi
    simp [Array.getD_eq_getD_getElem?, Array.getElem?_replicate] at hi
    split at hi <;> simp at hi) (by
    intro i o hi _
    simp [hi]) (by
    intro j o _ hj
    simp [Array.getD_eq_getD_getElem?, Array.getElem?_replicate] at hj
    split at hj <;> simp at hj) (by simp)
  rw [hst] at this
  simpa using this
end
end Go.Proofs.YtcfoihihinijlaaGreat
end

section
namespace Go.Proofs.YtcfoihihinijlaaGreat
set_option linter.unusedSimpArgs false
set_option linter.unusedVariables false
open Go
def allWaitB (l : List Oper) : Bool := (List.range (l.length - 1)).all fun i => waitsB l l.length (l.length - 1) i
section
variable {P : Program} {Q : Exit → Act → World → Prop}
theorem AllOps.of' {F : Nat → Oper → Prop} : ∀ {l : List Oper} (k : Nat), (∀ i o, l[i]? = some o → F (k + i) o) → AllOps F l k
  | [], _, _ => trivial
  | o :: l, k, h => ⟨h 0 o (by simp), AllOps.of' (k + 1) fun i p hi => by
      have := h (i + 1) p (by simpa using hi)
      rwa [show k + (i + 1) = k + 1 + i from by omega] at this⟩
theorem wp_region_last {id : Nat} {l : List Oper} {a : Act} {w : World} (R : Nat → Value → World → Prop) (W : World → Prop) (Gr : World → World → Prop) (n : Nat) (o : Oper)
    (G : (Nat → Value) → Act) (hG : ∀ v, regFrame l v a = G v) (hm : P.follows .mixedOrders = true) (honce : onceB l = true) (hlow : lowerB l = true) (hall : allWaitB l = true)
    (hn : l.length = n + 1) (ho : l[n]? = some o) (hog : o.guard = none) (hod : o.dst = none)
    (hR : ∀ i x w w', Gr w w' → R i x w → R i x w')
    (hW : ∀ w w', W w → Gr w w' → W w')
    (h0 : W w.drew)
    (hstep : AllOps (fun i o => ∀ v w', W w' → Deps (fun j => R j (v j) w') o.after.toList →
      opDoes P l o Q (G v) w' fun x w'' => Gr w' w'' ∧ R i x w'') (l.take n) 0)
    (hend : ∀ v w', W w' → AllOps (fun i _ => R i (v i) w') (l.take n) 0 →
      ∃ w'', (execOp (G v).eval o).run P w' = .ok .skip w'' ∧ Q .normal (G v) w'') :
    (Code.region id l.toArray true).wp P Q a w := by
  have hwait : ∀ i, i < n → waitsB l (n + 1) n i = true := by
    intro i hi
    have h1 : ∀ i ∈ List.range (l.length - 1), waitsB l l.length (l.length - 1) i = true := List.all_eq_true.1 hall
    have := h1 i (by rw [List.mem_range]; omega)
    rwa [hn] at this
  refine wp_region_sv0 hm honce hlow (fun D v w' => (D n = false → W w' ∧ ∀ i, D i = true → R i (v i) w') ∧ (D n = true → Q .normal (regFrame l v a) w')) (fun _ _ => True) (fun _ _ _ => True) (fun _ _ _ _ _ _ => trivial)
    (fun v => ⟨fun _ => ⟨h0, fun i h => by simp at h⟩, fun h => by simp at h⟩) (fun i p hi D v w' hS hf hd hc => ?_) (fun D v w' hS hD _ => hS.2 (hD n (by omega)))
  have hc' : ∀ j o', l[j]? = some o' → D j = true → Deps (fun j => D j = true) o'.after.toList := fun j o' h1 h2 => Deps.of fun e he hb => hc j o' h1 h2 e (by simpa using he) hb
  have hil : i < l.length := (List.getElem?_eq_some_iff.1 hi).1
  by_cases hin : i = n
  · subst hin
    obtain rfl : p = o := by rw [hi] at ho; exact Option.some.inj ho
    obtain ⟨hW1, hR1⟩ := hS.1 hf
    have hdone : ∀ j, j < i → D j = true := by
      intro j hj
      have h1 := hwait j hj
      unfold waitsB at h1
      rw [Bool.or_eq_true] at h1
      rcases h1 with h1 | h1
      · have : i = j := by simpa using h1
        omega
      · rw [hi] at h1
        obtain ⟨e, he, hb⟩ := List.any_eq_true.1 h1
        rw [Bool.and_eq_true] at hb
        exact done_of hc' i j (hd e (by simpa using he) hb.1).1 hb.2
    obtain ⟨w'', hrun, hq⟩ := hend v w' hW1 (AllOps.of' 0 fun j q hj => by
      have hjn : j < i := by
        have := (List.getElem?_eq_some_iff.1 hj).1
        rw [List.length_take] at this
        omega
      simpa using hR1 j (hdone j hjn))
    intro K hK
    rw [if_pos (by simp [Region.wanted, hog])]
    unfold Oper.wp
    rw [hG, hrun]
    have := hK undef w'' ⟨trivial, trivial, fun h => by simp at h, fun _ => ?_⟩
    · rwa [hG] at this
    · rw [regFrame_upd l v a i p undef honce hi, hod]
      show Q .normal (regFrame l v a) w''
      rw [hG]
      exact hq
  · have hfn : D n = false := by
      cases h : D n with
      | false => rfl
      | true =>
        have := done_of hc' (n + 1) i h (hwait i (by omega))
        rw [hf] at this
        cases this
    obtain ⟨hW1, hR1⟩ := hS.1 hfn
    have hst := hstep.get i p (by rw [List.getElem?_take_of_lt (by omega)]; exact hi)
    simp only [Nat.zero_add] at hst
    rw [hG]
    refine fun K hK => hst v w' hW1 (Deps.of fun e he hb => hR1 _ (hd e (by simpa using he) hb).1) K fun x w'' ⟨hg, hr⟩ => hK x w'' ⟨trivial, trivial, fun _ => ⟨hW _ _ hW1 hg, fun j hj => ?_⟩, fun h => ?_⟩
    · by_cases hji : j = i
      · subst hji; simpa using hr
      · simp only [if_neg hji] at hj ⊢
        exact hR j _ _ _ hg (hR1 j hj)
    · have h' : (if n = i then true else D n) = true := h
      rw [if_neg (fun e => hin e.symm), hfn] at h'
      cases h'
theorem wp_region_lastv {id : Nat} {l : List Oper} {a : Act} {w : World} (R : Nat → Value → World → Prop) (W : World → Prop) (Gr : World → World → Prop) (n : Nat) (o : Oper)
    (G : (Nat → Value) → Act) (hG : ∀ v, regFrame l v a = G v) (hm : P.follows .mixedOrders = true) (honce : onceB l = true) (hlow : lowerB l = true) (hall : allWaitB l = true)
    (hn : l.length = n + 1) (ho : l[n]? = some o) (hog : o.guard = none)
    (hR : ∀ i x w w', Gr w w' → R i x w → R i x w')
    (hW : ∀ w w', W w → Gr w w' → W w')
    (h0 : W w.drew)
    (hstep : AllOps (fun i o => ∀ v w', W w' → Deps (fun j => R j (v j) w') o.after.toList →
      opDoes P l o Q (G v) w' fun x w'' => Gr w' w'' ∧ R i x w'') (l.take n) 0)
    (hend : ∀ v w', W w' → AllOps (fun i _ => R i (v i) w') (l.take n) 0 →
      ∃ x w'', (execOp (G v).eval o).run P w' = .ok (.value x) w'' ∧ Q .normal ((G v).put o.dst x) w'') :
    (Code.region id l.toArray true).wp P Q a w := by
  have hwait : ∀ i, i < n → waitsB l (n + 1) n i = true := by
    intro i hi
    have h1 : ∀ i ∈ List.range (l.length - 1), waitsB l l.length (l.length - 1) i = true := List.all_eq_true.1 hall
    have := h1 i (by rw [List.mem_range]; omega)
    rwa [hn] at this
  refine wp_region_sv0 hm honce hlow (fun D v w' => (D n = false → W w' ∧ ∀ i, D i = true → R i (v i) w') ∧ (D n = true → Q .normal (regFrame l v a) w')) (fun _ _ => True) (fun _ _ _ => True) (fun _ _ _ _ _ _ => trivial)
    (fun v => ⟨fun _ => ⟨h0, fun i h => by simp at h⟩, fun h => by simp at h⟩) (fun i p hi D v w' hS hf hd hc => ?_) (fun D v w' hS hD _ => hS.2 (hD n (by omega)))
  have hc' : ∀ j o', l[j]? = some o' → D j = true → Deps (fun j => D j = true) o'.after.toList := fun j o' h1 h2 => Deps.of fun e he hb => hc j o' h1 h2 e (by simpa using he) hb
  have hil : i < l.length := (List.getElem?_eq_some_iff.1 hi).1
  by_cases hin : i = n
  · subst hin
    obtain rfl : p = o := by rw [hi] at ho; exact Option.some.inj ho
    obtain ⟨hW1, hR1⟩ := hS.1 hf
    have hdone : ∀ j, j < i → D j = true := by
      intro j hj
      have h1 := hwait j hj
      unfold waitsB at h1
      rw [Bool.or_eq_true] at h1
      rcases h1 with h1 | h1
      · have : i = j := by simpa using h1
        omega
      · rw [hi] at h1
        obtain ⟨e, he, hb⟩ := List.any_eq_true.1 h1
        rw [Bool.and_eq_true] at hb
        exact done_of hc' i j (hd e (by simpa using he) hb.1).1 hb.2
    obtain ⟨x, w'', hrun, hq⟩ := hend v w' hW1 (AllOps.of' 0 fun j q hj => by
      have hjn : j < i := by
        have := (List.getElem?_eq_some_iff.1 hj).1
        rw [List.length_take] at this
        omega
      simpa using hR1 j (hdone j hjn))
    intro K hK
    rw [if_pos (by simp [Region.wanted, hog])]
    unfold Oper.wp
    rw [hG, hrun]
    have := hK x w'' ⟨trivial, trivial, fun h => by simp at h, fun _ => ?_⟩
    · rwa [hG] at this
    · rw [regFrame_upd l v a i p x honce hi, hG]
      exact hq
  · have hfn : D n = false := by
      cases h : D n with
      | false => rfl
      | true =>
        have := done_of hc' (n + 1) i h (hwait i (by omega))
        rw [hf] at this
        cases this
    obtain ⟨hW1, hR1⟩ := hS.1 hfn
    have hst := hstep.get i p (by rw [List.getElem?_take_of_lt (by omega)]; exact hi)
    simp only [Nat.zero_add] at hst
    rw [hG]
    refine fun K hK => hst v w' hW1 (Deps.of fun e he hb => hR1 _ (hd e (by simpa using he) hb).1) K fun x w'' ⟨hg, hr⟩ => hK x w'' ⟨trivial, trivial, fun _ => ⟨hW _ _ hW1 hg, fun j hj => ?_⟩, fun h => ?_⟩
    · by_cases hji : j = i
      · subst hji; simpa using hr
      · simp only [if_neg hji] at hj ⊢
        exact hR j _ _ _ hg (hR1 j hj)
    · have h' : (if n = i then true else D n) = true := h
      rw [if_neg (fun e => hin e.symm), hfn] at h'
      cases h'
end
end Go.Proofs.YtcfoihihinijlaaGreat
end

section
namespace Go.Proofs.YtcfoihihinijlaaGreat
set_option linter.unusedSimpArgs false
set_option linter.unusedVariables false
open Go.RowKit
def two64 : Nat := 18446744073709551616
theorem two64_eq : two64 = 18446744073709551616 := rfl
def Row (w : World) (A : Option Addr) (xs : List Value) : Prop :=
  0 < xs.length → ∃ b o, A = some ⟨b, o, none⟩ ∧ b < w.heap.size ∧ ∀ j (h : j < xs.length), w.cell? ⟨b, o + j, none⟩ = some xs[j]
def bv (c : UInt8) : Value := .int .u8 (c.toNat : Int)
def BRow (w : World) (A : Option Addr) (l : List UInt8) : Prop := Row w A (l.map bv)
def BOwn (w : World) (B : Nat) (A : Option Addr) (c : Nat) (l : List UInt8) : Prop := w.ownsRow B 5 1 (.slice A l.length c) l.length (l.map bv)
def txt (l : List UInt8) : Value := .string ⟨l.toArray⟩
section
variable {w w' : World} {A : Option Addr} {xs : List Value} {l : List UInt8}
theorem Row.nil : Row w A [] := fun h => absurd h (by simp)
theorem Row.at_ {k : Nat} (h : Row w A xs) (hk : k < xs.length) : ∃ b o, A = some ⟨b, o, none⟩ ∧ b < w.heap.size ∧ w.cell? ⟨b, o + k, none⟩ = some xs[k] := by
  obtain ⟨b, o, e, hb, hc⟩ := h (by omega)
  exact ⟨b, o, e, hb, hc k hk⟩
theorem BRow.nil : BRow w A [] := Row.nil
theorem BRow.at_ {k : Nat} (h : BRow w A l) (hk : k < l.length) : ∃ b o, A = some ⟨b, o, none⟩ ∧ b < w.heap.size ∧ w.cell? ⟨b, o + k, none⟩ = some (.int .u8 (l[k].toNat : Int)) := by
  obtain ⟨b, o, e, hb, hc⟩ := Row.at_ (k := k) h (by simpa using hk)
  exact ⟨b, o, e, hb, by simpa [bv] using hc⟩
theorem Row.below (h : Row w A xs) (hb : Below w.heap.size w w') : Row w' A xs := fun hl => by
  obtain ⟨b, o, e, hlt, hc⟩ := h hl
  exact ⟨b, o, e, Nat.lt_of_lt_of_le hlt hb.size, fun j hj => (hb.cell (p := ⟨b, o + j, none⟩) hlt).trans (hc j hj)⟩
theorem BRow.below (h : BRow w A l) (hb : Below w.heap.size w w') : BRow w' A l := Row.below h hb
theorem Row.drew (h : Row w A xs) : Row w.drew A xs := h
theorem BRow.drew (h : BRow w A l) : BRow w.drew A l := h
theorem Row.alloc (h : Row w A xs) (o : Obj) : Row (w.alloc o) A xs := h.below ((Below.refl _ _).alloc (Nat.le_refl _) o)
theorem BRow.alloc (h : BRow w A l) (o : Obj) : BRow (w.alloc o) A l := Row.alloc h o
theorem Row.new (w : World) (xs : List Value) (t : TypeId) : Row (w.alloc (.cells xs.toArray t)) (some ⟨w.heap.size, 0, none⟩) xs := fun _ =>
  ⟨w.heap.size, 0, rfl, by simp, fun j hj => by simp [hj]⟩
theorem Row.newMark (w : World) (xs : List Value) (t : TypeId) (fr : Nat × Nat) : Row (w.alloc (.cells xs.toArray t fr)) (some ⟨w.heap.size, 0, none⟩) xs := fun _ =>
  ⟨w.heap.size, 0, rfl, by simp, fun j hj => by rw [World.cell?_alloc_mark]; simp [hj]⟩
theorem BRow.one (w : World) (c : UInt8) (v : Value) (t : TypeId) (h : bv c = v) : BRow (w.alloc (.cells #[v] t)) (some ⟨w.heap.size, 0, none⟩) [c] := by
  subst h
  exact Row.new w [bv c] t
theorem Row.take (h : Row w A xs) (k : Nat) : Row w A (xs.take k) := fun hl => by
  have hk : 0 < xs.length := by rw [List.length_take] at hl; omega
  obtain ⟨b, o, e, hb, hc⟩ := h hk
  exact ⟨b, o, e, hb, fun j hj => by rw [hc j (by rw [List.length_take] at hj; omega)]; simp⟩
theorem BRow.take (h : BRow w A l) (k : Nat) : BRow w A (l.take k) := by
  have := Row.take h k
  rwa [← List.map_take] at this
theorem Row.drop (h : Row w A xs) (k : Nat) : Row w (A.map fun x => x.add k) (xs.drop k) := fun hl => by
  have hk : k < xs.length := by rw [List.length_drop] at hl; omega
  obtain ⟨b, o, rfl, hb, hc⟩ := h (by omega)
  refine ⟨b, o + k, by simp [Addr.add_lit], hb, fun j hj => ?_⟩
  rw [Nat.add_assoc, hc (k + j) (by rw [List.length_drop] at hj; omega)]
  simp
theorem BRow.drop (h : BRow w A l) (k : Nat) : BRow w (A.map fun x => x.add k) (l.drop k) := by
  have := Row.drop h k
  rwa [← List.map_drop] at this
theorem Row.far (h : Row w A xs) {p : Addr} (hne : ∀ a, A = some a → a.block ≠ p.block) (u : Value) : Row (w.setCell p u) A xs := fun hl => by
  obtain ⟨b, o, rfl, hlt, hc⟩ := h hl
  refine ⟨b, o, rfl, by simpa using hlt, fun j hj => ?_⟩
  rw [World.cell?_setCell_other w p ⟨b, o + j, none⟩ u (fun e => hne _ rfl (by rw [e]))]
  exact hc j hj
theorem BRow.far (h : BRow w A l) {p : Addr} (hne : ∀ a, A = some a → a.block ≠ p.block) (u : Value) : BRow (w.setCell p u) A l := Row.far h hne u
theorem Row.keep (h : Row w A xs) (hs : w.heap.size ≤ w'.heap.size) (hk : ∀ a, A = some a → ∀ j, w'.cell? ⟨a.block, j, none⟩ = w.cell? ⟨a.block, j, none⟩) : Row w' A xs := fun hl => by
  obtain ⟨b, o, rfl, hlt, hc⟩ := h hl
  exact ⟨b, o, rfl, by omega, fun j hj => (hk _ rfl (o + j)).trans (hc j hj)⟩
theorem BRow.lt (h : BRow w A l) (hl : 0 < l.length) : ∃ b o, A = some ⟨b, o, none⟩ ∧ b < w.heap.size := by
  obtain ⟨b, o, e, hb, _⟩ := h (by simpa using hl)
  exact ⟨b, o, e, hb⟩
theorem one_bytes (l : List UInt8) : ∀ u ∈ l.map bv, u.oneCell' = true := by
  intro u hu
  obtain ⟨_, _, rfl⟩ := List.mem_map.1 hu
  rfl
variable {B c : Nat}
theorem BOwn.form (h : BOwn w B A c l) : (A = none ∧ c = 0 ∧ l = []) ∨ ∃ g, A = some ⟨g, 0, none⟩ ∧ B ≤ g ∧ g < w.heap.size ∧ l.length ≤ c ∧ c ≤ maxLen := by
  rcases h.2 with ⟨hv, h0⟩ | ⟨g, cap, cur, hv, hb, hg, hn, hm, _⟩
  · simp only [Value.slice.injEq] at hv
    exact .inl ⟨hv.1, hv.2.2, List.eq_nil_of_length_eq_zero h0⟩
  · simp only [Value.slice.injEq] at hv
    obtain ⟨rfl, _, rfl⟩ := hv
    exact .inr ⟨g, rfl, hb, (Array.getElem?_eq_some_iff.1 hg).1, hn, hm⟩
theorem BOwn.block (h : BOwn w B A c l) : ∀ a, A = some a → B ≤ a.block ∧ a.block < w.heap.size := by
  intro a ha
  rcases h.form with ⟨rfl, _⟩ | ⟨g, rfl, h1, h2, _⟩
  · cases ha
  · obtain rfl := Option.some.inj ha
    exact ⟨h1, h2⟩
theorem BOwn.cap (h : BOwn w B A c l) : l.length ≤ c := by
  rcases h.form with ⟨_, _, rfl⟩ | ⟨_, _, _, _, h, _⟩
  · simp
  · exact h
theorem BOwn.row (h : BOwn w B A c l) : BRow w A l := fun hl => by
  rcases h.form with ⟨_, _, rfl⟩ | ⟨g, rfl, _, hlt, _⟩
  · simp at hl
  · refine ⟨g, 0, rfl, hlt, fun j hj => ?_⟩
    have := h.cells (g := g) rfl j _ (List.getElem?_eq_getElem hj)
    simpa [Addr.add_lit] using this
theorem BOwn.nil (w : World) (B : Nat) : BOwn w B none 0 [] := World.ownsRow_nil _ _ _ _
theorem BOwn.drew (h : BOwn w B A c l) : BOwn w.drew B A c l := h
theorem BOwn.alloc (h : BOwn w B A c l) (o : Obj) : BOwn (w.alloc o) B A c l := World.ownsRow.alloc h o
theorem BOwn.kept {row : Option Nat} (h : BOwn w B A c l) (hg : w.grownBy w' row) (hne : A.map (·.block) = none ∨ A.map (·.block) ≠ row) : BOwn w' B A c l :=
  World.ownsRow.kept h hg (by
    cases A with
    | none => simp [Value.ownBlock]
    | some a => simpa [Value.ownBlock] using hne)
theorem BOwn.below (h : BOwn w B A c l) (hb : Below w.heap.size w w') : BOwn w' B A c l := by
  refine World.ownsRow.kept (row := none) h ⟨hb.os, hb.tape, hb.output, hb.size, fun k hk _ => hb.block k hk⟩ ?_
  cases h2 : Value.ownBlock (.slice A l.length c) <;> simp
theorem BOwn.below_grown (h : BOwn w B A c l) (hg : w.grownBy w' (A.map (·.block))) (hB : B ≤ w.heap.size) : Below B w w' :=
  (Below.refl B w).grown hg hB fun k hk => by
    rcases h.form with ⟨rfl, _⟩ | ⟨g, rfl, hb, _⟩
    · simp at hk
    · simp at hk; omega
theorem BOwn.new (w : World) (l : List UInt8) (hm : l.length ≤ maxLen) (hB : B ≤ w.heap.size) : BOwn (w.alloc (.cells (l.map bv).toArray 5)) B (some ⟨w.heap.size, 0, none⟩) l.length l := by
  have := World.ownsRow_lit (e := 5) (size := 1) w (l.map bv).toArray l.length hB hm (by simp)
  simpa [BOwn] using this
theorem BOwn.cell {g j : Nat} (h : BOwn w B (some ⟨g, 0, none⟩) c l) (hj : j < l.length) : w.cell? ⟨g, j, none⟩ = some (.int .u8 (l[j].toNat : Int)) := by
  have := World.ownsRow.cellAt h j (by omega)
  rw [this]
  simp [hj, bv]
theorem BOwn.free {g : Nat} (h : BOwn w B (some ⟨g, 0, none⟩) c l) (j : Nat) : w.frozen? ⟨g, j, none⟩ = false := World.ownsRow.frozenAt h j
theorem BOwn.store {g : Nat} (h : BOwn w B (some ⟨g, 0, none⟩) c l) (j : Nat) (x : UInt8) (v : Value) (hv : bv x = v) : BOwn (w.setCell ⟨g, j, none⟩ v) B (some ⟨g, 0, none⟩) c (l.set j x) := by
  subst hv
  have := (World.ownsRow.stored h j (bv x)).1
  unfold BOwn
  rw [List.map_set, List.length_set]
  exact this
theorem BOwn.mono {B' : Nat} (h : BOwn w B A c l) (hB : B' ≤ B) : BOwn w B' A c l := by
  refine ⟨h.1, ?_⟩
  rcases h.2 with h2 | ⟨g, cap, cur, hv, hb, r⟩
  · exact .inl h2
  · exact .inr ⟨g, cap, cur, hv, by omega, r⟩
end
section
variable {P : Program} (w : World)
theorem run_append_of_none (base : Nat) (t ty e : TypeId) (i : TypeInfo) (size : Nat) (ht : P.underlying t = some (.slice e)) (hi : P.info? e = some i)
    (v : Value) (n : Nat) (xs : List Value) (hown : w.ownsRow base e size v n xs) (c : Nat) : (Builtin.append_ #[t, t] ty #[v, .slice none 0 c]).run P w = .ok v w := by
  rcases hown.2 with ⟨rfl, rfl⟩ | ⟨g, cap, cur, rfl, _, _, hnc, _⟩
  · simp [Builtin.append_, run_underlying ht, sizeOf, typeInfo, hi, Builtin.lenOf, Builtin.firstCells]
  · simp [Builtin.append_, run_underlying ht, sizeOf, typeInfo, hi, Builtin.lenOf, Builtin.firstCells, hnc, storeCells]
theorem run_append_row (base : Nat) (t ty e : TypeId) (i : TypeInfo) (z : Value) (bytes : Nat) (ht : P.underlying t = some (.slice e)) (hi : P.info? e = some i) (hz : i.zero = some z)
    (hsize : i.size = 1) (hby : i.bytes = bytes) (hzs : z.cells.size = 1)
    (v : Value) (n : Nat) (xs : List Value) (hown : w.ownsRow base e 1 v n xs)
    (A : Option Addr) (c : Nat) (news : List Value) (hr : Row w A news) (h1 : ∀ u ∈ news, u.oneCell' = true)
    (h63 : n + news.length ≤ maxLen) (hbytes : (n + news.length) * bytes ≤ 140737488355328) (hbase : base ≤ w.heap.size) :
    ∃ v' w', (Builtin.append_ #[t, t] ty #[v, .slice A news.length c]).run P w = .ok v' w' ∧ w'.ownsRow base e 1 v' (n + news.length) (xs ++ news) ∧ w.grownBy w' v.ownBlock ∧
      (v'.ownBlock = v.ownBlock ∨ v'.ownBlock = some w.heap.size) := by
  rcases A with _ | ad
  · have hm : news = [] := by
      cases news with
      | nil => rfl
      | cons x news => obtain ⟨b, o, h, _⟩ := hr (by simp); cases h
    subst hm
    exact ⟨v, w, run_append_of_none w base t ty e i 1 ht hi v n xs hown c, by simpa using hown, World.grownBy.refl w _, .inl rfl⟩
  · have hcells : ∀ j u, news[j]? = some u → w.cell? (ad.add j) = some u := by
      intro j u hu
      have hj := (List.getElem?_eq_some_iff.1 hu)
      obtain ⟨b, o, h, _, hc⟩ := hr (by have := hj.1; omega)
      obtain rfl := Option.some.inj h
      rw [Addr.add_lit, hc j hj.1, hj.2]
    obtain ⟨v', w', hrun, h2, h3, _, h5⟩ := run_append_own_at (P := P) w base t ty e i z 1 bytes ht hi hz hsize hby hzs (by omega) v n xs hown ad news.length c news (by simp) hcells h1 h63 hbytes hbase
    exact ⟨v', w', hrun, h2, h3, h5⟩
theorem own_slice {base : Nat} {e : TypeId} {size n : Nat} {v : Value} {xs : List Value} {w : World} (h : w.ownsRow base e size v n xs) : ∃ A c, v = .slice A n c := by
  rcases h.2 with ⟨rfl, rfl⟩ | ⟨g, cap, cur, rfl, _⟩
  · exact ⟨_, _, rfl⟩
  · exact ⟨_, _, rfl⟩
theorem own_block (A : Option Addr) (n c : Nat) : Value.ownBlock (.slice A n c) = A.map (·.block) := by cases A <;> rfl
end
theorem info8 : (Tryz.prog.info? 5).map (fun i => (i.zero, i.size, i.bytes)) = some (some (.int .u8 0), 1, 1) := by kernel_rfl
section
variable {w : World} {l m : List UInt8} {A A' : Option Addr} {B c c' : Nat}
theorem run_append_bytes (ty : TypeId) (ho : BOwn w B A c l) (hr : BRow w A' m) (hb : l.length + m.length ≤ 140737488355328) (hB : B ≤ w.heap.size) :
    ∃ A1 c1 w1, (Builtin.append_ #[56, 56] ty #[.slice A l.length c, .slice A' m.length c']).run Tryz.prog w = .ok (.slice A1 (l.length + m.length) c1) w1 ∧ BOwn w1 B A1 c1 (l ++ m) ∧
      w.grownBy w1 (A.map (·.block)) ∧ (A1.map (·.block) = A.map (·.block) ∨ A1.map (·.block) = some w.heap.size) := by
  obtain ⟨i, hi, hz, hs, hby⟩ := info_parts info8
  obtain ⟨v', w', hrun, h2, h3, h4⟩ := run_append_row (P := Tryz.prog) w B 56 ty 5 i _ 1 Tryz.underlying56 hi hz hs hby rfl _ _ _ ho A' c' (m.map bv) hr (one_bytes m)
    (by simp [maxLen]; omega) (by simp; omega) hB
  simp only [List.length_map] at hrun h2
  obtain ⟨A1, c1, rfl⟩ := own_slice h2
  refine ⟨A1, c1, w', hrun, ?_, by simpa [own_block] using h3, by simpa [own_block] using h4⟩
  simpa [BOwn] using h2
theorem wp_append_bytes {o : Oper} {a : Act} {K : Act → World → Prop} {Q : Exit → Act → World → Prop} (s x : Operand)
    (hop : o.op = .call { callee := .builtin .append, args := #[s, x], argTypes := #[56, 56] })
    (n : Nat) (hs : a.eval s = .slice A n c) (ho : BOwn w B A c l) (hn : n = l.length) (k : Nat) (hx : a.eval x = .slice A' k c') (hr : BRow w A' m) (hk : k = m.length)
    (hb : l.length + m.length ≤ 140737488355328) (hB : B ≤ w.heap.size)
    (h : ∀ A1 c1 w1, BOwn w1 B A1 c1 (l ++ m) → Below B w w1 → w.grownBy w1 (A.map (·.block)) → (A1.map (·.block) = A.map (·.block) ∨ A1.map (·.block) = some w.heap.size) →
      K (a.put o.dst (.slice A1 (l.length + m.length) c1)) w1) : o.wp Tryz.prog a w K Q := by
  subst hn hk
  obtain ⟨A1, c1, w1, hrun, h2, h3, h4⟩ := run_append_bytes (c' := c') o.type ho hr hb hB
  unfold Oper.wp execOp
  simp only [hop, resolve, invoke, builtin, Sem.run_bind, Sem.run_pure, Result.andThen_ok, List.map_toArray, List.map_cons, List.map_nil, hs, hx, hrun]
  exact h A1 c1 w1 h2 (ho.below_grown h3 hB) h3 h4
theorem wpList_append_bytes {ops : Array Oper} {rest : List Oper} {o : Oper} {a : Act} {Q : Exit → Act → World → Prop} (hgd : o.guard = none) (s x : Operand)
    (hop : o.op = .call { callee := .builtin .append, args := #[s, x], argTypes := #[56, 56] })
    (n : Nat) (hs : a.eval s = .slice A n c) (ho : BOwn w B A c l) (hn : n = l.length) (k : Nat) (hx : a.eval x = .slice A' k c') (hr : BRow w A' m) (hk : k = m.length)
    (hb : l.length + m.length ≤ 140737488355328) (hB : B ≤ w.heap.size)
    (h : ∀ A1 c1 w1, BOwn w1 B A1 c1 (l ++ m) → Below B w w1 → w.grownBy w1 (A.map (·.block)) → (A1.map (·.block) = A.map (·.block) ∨ A1.map (·.block) = some w.heap.size) →
      wpList Tryz.prog ops Q rest (a.put o.dst (.slice A1 (l.length + m.length) c1)) w1) : wpList Tryz.prog ops Q (o :: rest) a w :=
  wpList_plain hgd fun _ hK => wp_append_bytes s x hop n hs ho hn k hx hr hk hb hB fun A1 c1 w1 h2 h3 h4 h5 => hK _ _ (h A1 c1 w1 h2 h3 h4 h5)
theorem wpList_append_text {ops : Array Oper} {rest : List Oper} {o : Oper} {a : Act} {Q : Exit → Act → World → Prop} (hgd : o.guard = none) (s x : Operand)
    (hop : o.op = .call { callee := .builtin .append, args := #[s, x], argTypes := #[56, 9] })
    (n : Nat) (hs : a.eval s = .slice A n c) (ho : BOwn w B A c l) (hn : n = l.length) (hx : a.eval x = txt m)
    (hb : l.length + m.length ≤ 140737488355328) (hB : B ≤ w.heap.size)
    (h : ∀ A1 c1 w1, BOwn w1 B A1 c1 (l ++ m) → Below B w w1 → wpList Tryz.prog ops Q rest (a.put o.dst (.slice A1 (l.length + m.length) c1)) w1) : wpList Tryz.prog ops Q (o :: rest) a w := by
  subst hn
  obtain ⟨i, hi, hz, hsi, hby⟩ := info_parts info8
  have hsz : (ByteArray.mk m.toArray).size = m.length := by simp [ByteArray.size]
  refine Lib.wpList_append_own_string w hgd s x 56 9 hop B 5 i Tryz.underlying56 Tryz.underlying9 hi hz hsi hby _ _ _ hs ho ⟨m.toArray⟩ hx (by rw [hsz]; simp [maxLen]; omega) (by rw [hsz]; exact hb) hB fun v' w1 h1 h2 _ => ?_
  rw [hsz] at h1
  obtain ⟨A1, c1, rfl⟩ := own_slice h1
  refine h A1 c1 w1 ?_ (ho.below_grown (by simpa [own_block] using h2) hB)
  have e : Lib.strCells ⟨m.toArray⟩ = m.map bv := rfl
  rw [e] at h1
  simpa [BOwn] using h1
theorem wpList_make_zeros {ops : Array Oper} {rest : List Oper} {o : Oper} {a : Act} {Q : Exit → Act → World → Prop} (hgd : o.guard = none) (x y : Operand) (hop : o.op = .makeSlice 56 x y)
    (kl kc : IntKind) (L C : Int) (n : Nat) (hx : a.eval x = .int kl L) (hy : a.eval y = .int kc C) (hL : L = (n : Int)) (hC : C = (n : Int)) (hb : n ≤ 281474976710656) (hB : B ≤ w.heap.size)
    (h : ∀ w1, BOwn w1 B (some ⟨w.heap.size, 0, none⟩) n (List.replicate n 0) → Below w.heap.size w w1 → wpList Tryz.prog ops Q rest (a.put o.dst (.slice (some ⟨w.heap.size, 0, none⟩) n n)) w1) :
    wpList Tryz.prog ops Q (o :: rest) a w := by
  obtain ⟨i, hi, hz, hs, hby⟩ := info_parts info8
  refine wpList_make_full w hgd x y 56 hop B 5 i _ 1 Tryz.underlying56 hi hz hs kl kc L C n hx hy hL hC (by rw [hby]; omega) (by simp [maxLen]; omega) hB fun w1 h1 h2 => ?_
  refine h w1 ?_ ((Below.refl _ w).grown h2 (Nat.le_refl _) (fun k hk => by cases hk))
  have e : (madeCells (Value.int .u8 0).cells (n * 1)).toList = (List.replicate n (0 : UInt8)).map bv := by
    rw [Nat.mul_one]
    show (madeCells #[Value.int .u8 0] n).toList = _
    rw [toList_madeCells_one, List.map_replicate]
    rfl
  rw [e] at h1
  simpa [BOwn] using h1
theorem run_string_bytes (w : World) {A : Option Addr} {l : List UInt8} (c : Nat) (h : BRow w A l) : (convert 56 9 (.slice A l.length c)).run Tryz.prog w = .ok (txt l) w := by
  rcases A with _ | a
  · have : l = [] := by
      cases l with
      | nil => rfl
      | cons x l => obtain ⟨b, o, h, _⟩ := h (by simp); cases h
    subst this
    exact run_convert_bytes_nil w 56 5 Tryz.underlying56 Tryz.underlying5 0 c 9 Tryz.underlying9
  · refine run_convert_bytes_back w 56 9 5 a c l Tryz.underlying56 Tryz.underlying5 Tryz.underlying9 fun j hj => ?_
    obtain ⟨b, o, h, _, hc⟩ := h (by simpa using (by omega : 0 < l.length))
    obtain rfl := Option.some.inj h
    have := hc j (by simpa using hj)
    rw [Addr.add_lit]
    simpa [bv] using this
end
theorem run_const_bytes (w : World) (C : Array Value) (g n c : Nat) (hg : g = w.heap.size) :
    (convert 56 56 (.slice (some ⟨g, 0, none⟩) n c)).run Tryz.prog (w.alloc (.cells C 5)) = .ok (.slice (some ⟨g, 0, none⟩) n c) (w.alloc (.cells C 5 (C.size, C.size + 1))) := by
  subst hg
  exact Lib.run_convert_bytes_const (P := Tryz.prog) w 56 5 C n c Tryz.underlying56 Tryz.underlying5
def RetB (W : World) (l : List UInt8) (e : Ending) (w' : World) : Prop :=
  ∃ A c, e = .returned (.slice A l.length c) ∧ BOwn w' W.heap.size A c l ∧ Below W.heap.size W w'
end Go.Proofs.YtcfoihihinijlaaGreat
end

section
namespace Go.Proofs.YtcfoihihinijlaaGreat
set_option linter.unusedSimpArgs false
set_option linter.unusedVariables false
open Go.RowKit
structure Elem (α : Type) where
  e : TypeId
  t : TypeId
  sz : Nat
  bytes : Nat
  zero : Value
  code : α → List Value
  pos : 0 < sz
  few : bytes ≤ 65536
  len : ∀ x, (code x).length = sz
  one : ∀ x, ∀ u ∈ code x, u.oneCell' = true
  zsz : zero.cells.size = sz
  info : (Tryz.prog.info? e).map (fun i => (i.zero, i.size, i.bytes)) = some (some zero, sz, bytes)
  under : Tryz.prog.underlying t = some (.slice e)
section
variable {α : Type} (E : Elem α)
def Elem.cells (L : List α) : List Value := L.flatMap E.code
theorem Elem.cells_length (L : List α) : (E.cells L).length = L.length * E.sz := by
  induction L with
  | nil => simp [Elem.cells]
  | cons x L ih =>
    show (E.code x ++ E.cells L).length = _
    rw [List.length_append, ih, E.len, List.length_cons, Nat.succ_mul]
    omega
theorem Elem.cells_append (L M : List α) : E.cells (L ++ M) = E.cells L ++ E.cells M := by simp [Elem.cells]
theorem Elem.cells_one (L : List α) : ∀ u ∈ E.cells L, u.oneCell' = true := by
  intro u hu
  obtain ⟨f, _, hf⟩ := List.mem_flatMap.1 hu
  exact E.one f u hf
theorem Elem.cells_get : ∀ (L : List α) (j k : Nat) (h : j < L.length), k < E.sz → (E.cells L)[j * E.sz + k]? = (E.code L[j])[k]?
  | [], j, k, h, _ => by simp at h
  | x :: L, 0, k, h, hk => by
    show (E.code x ++ E.cells L)[0 * E.sz + k]? = _
    rw [Nat.zero_mul, Nat.zero_add, List.getElem?_append_left (by rw [E.len]; exact hk)]
    rfl
  | x :: L, j + 1, k, h, hk => by
    have ih := Elem.cells_get L j k (by simpa using h) hk
    show (E.code x ++ E.cells L)[(j + 1) * E.sz + k]? = _
    rw [List.getElem?_append_right (by rw [E.len, Nat.succ_mul]; omega), E.len, show (j + 1) * E.sz + k - E.sz = j * E.sz + k from by rw [Nat.succ_mul]; omega]
    exact ih
theorem Elem.cells_set : ∀ (L : List α) (j k : Nat) (h : j < L.length) (x : α) (v : Value), k < E.sz → E.code x = (E.code L[j]).set k v → E.cells (L.set j x) = (E.cells L).set (j * E.sz + k) v
  | [], j, k, h, _, _, _, _ => by simp at h
  | y :: L, 0, k, h, x, v, hk, hx => by
    show E.code x ++ E.cells L = (E.code y ++ E.cells L).set (0 * E.sz + k) v
    rw [hx, Nat.zero_mul, Nat.zero_add, List.set_append_left _ _ (by rw [E.len]; exact hk)]
    rfl
  | y :: L, j + 1, k, h, x, v, hk, hx => by
    have ih := Elem.cells_set L j k (by simpa using h) x v hk hx
    show E.code y ++ E.cells (L.set j x) = (E.code y ++ E.cells L).set ((j + 1) * E.sz + k) v
    rw [List.set_append_right _ _ (by rw [E.len, Nat.succ_mul]; omega), E.len, show (j + 1) * E.sz + k - E.sz = j * E.sz + k from by rw [Nat.succ_mul]; omega, ih]
def ERow (w : World) (A : Option Addr) (L : List α) : Prop :=
  0 < L.length → ∃ b o, A = some ⟨b, o, none⟩ ∧ b < w.heap.size ∧ ∀ i u, (E.cells L)[i]? = some u → w.cell? ⟨b, o + i, none⟩ = some u
def EOwn (w : World) (B : Nat) (A : Option Addr) (c : Nat) (L : List α) : Prop := w.ownsRow B E.e E.sz (.slice A L.length c) L.length (E.cells L)
variable {E} {w w' : World} {B c : Nat} {A : Option Addr} {L M : List α}
theorem ERow.nil : ERow E w A ([] : List α) := fun h => absurd h (by simp)
theorem ERow.below (h : ERow E w A L) (hb : Below w.heap.size w w') : ERow E w' A L := fun hl => by
  obtain ⟨b, o, e, hlt, hc⟩ := h hl
  exact ⟨b, o, e, Nat.lt_of_lt_of_le hlt hb.size, fun i u hu => (hb.cell (p := ⟨b, o + i, none⟩) hlt).trans (hc i u hu)⟩
theorem ERow.keep (h : ERow E w A L) (hs : w.heap.size ≤ w'.heap.size) (hk : ∀ a, A = some a → a.block < w.heap.size → w'.heap[a.block]? = w.heap[a.block]?) : ERow E w' A L := fun hl => by
  obtain ⟨b, o, rfl, hlt, hc⟩ := h hl
  exact ⟨b, o, rfl, by omega, fun i u hu => (World.cell?_of_block (a := ⟨b, o + i, none⟩) (hk ⟨b, o, none⟩ rfl hlt)).trans (hc i u hu)⟩
theorem ERow.at_ (h : ERow E w A L) {j : Nat} (hj : j < L.length) : ∃ b o, A = some ⟨b, o, none⟩ ∧ b < w.heap.size ∧ ∀ k v, (E.code L[j])[k]? = some v → w.cell? ⟨b, o + (j * E.sz + k), none⟩ = some v := by
  obtain ⟨b, o, e, hlt, hc⟩ := h (by omega)
  refine ⟨b, o, e, hlt, fun k v hv => hc _ _ ?_⟩
  rw [E.cells_get L j k hj (by rw [← E.len L[j]]; exact (List.getElem?_eq_some_iff.1 hv).1)]
  exact hv
theorem ERow.drop (h : ERow E w A L) (k : Nat) : ERow E w (A.map fun x => x.add (k * E.sz)) (L.drop k) := fun hl => by
  obtain ⟨b, o, rfl, hlt, hc⟩ := h (by simp at hl; omega)
  refine ⟨b, o + k * E.sz, by simp [Addr.add_lit], hlt, fun i u hu => ?_⟩
  rw [Nat.add_assoc]
  refine hc _ _ ?_
  have e : E.cells L = E.cells (L.take k) ++ E.cells (L.drop k) := by rw [← Elem.cells_append, List.take_append_drop]
  have hk : k ≤ L.length := by simp at hl; omega
  rw [e, List.getElem?_append_right (by rw [Elem.cells_length, List.length_take]; rw [Nat.min_eq_left hk]; omega), Elem.cells_length, List.length_take, Nat.min_eq_left hk, Nat.add_sub_cancel_left]
  exact hu
theorem ERow.take (h : ERow E w A L) (k : Nat) : ERow E w A (L.take k) := fun hl => by
  obtain ⟨b, o, rfl, hlt, hc⟩ := h (by simp at hl; omega)
  refine ⟨b, o, rfl, hlt, fun i u hu => hc i u ?_⟩
  have e : E.cells L = E.cells (L.take k) ++ E.cells (L.drop k) := by rw [← Elem.cells_append, List.take_append_drop]
  rw [e, List.getElem?_append_left (List.getElem?_eq_some_iff.1 hu).1]
  exact hu
theorem EOwn.nil (w : World) (B : Nat) : EOwn E w B none 0 ([] : List α) := World.ownsRow_nil _ _ _ _
theorem EOwn.alloc (h : EOwn E w B A c L) (o : Obj) : EOwn E (w.alloc o) B A c L := World.ownsRow.alloc h o
theorem EOwn.drew (h : EOwn E w B A c L) : EOwn E w.drew B A c L := h
theorem EOwn.form (h : EOwn E w B A c L) : (A = none ∧ c = 0 ∧ L = []) ∨ ∃ g, A = some ⟨g, 0, none⟩ ∧ B ≤ g ∧ g < w.heap.size ∧ L.length ≤ c ∧ c ≤ maxLen ∧ ∃ cur, w.heap[g]? = some (.cells cur E.e (0, 0)) := by
  rcases h.2 with ⟨hv, h0⟩ | ⟨g, cap, cur, hv, hb, hg, hn, hm, _⟩
  · simp only [Value.slice.injEq] at hv
    exact .inl ⟨hv.1, hv.2.2, List.eq_nil_of_length_eq_zero h0⟩
  · simp only [Value.slice.injEq] at hv
    obtain ⟨rfl, _, rfl⟩ := hv
    exact .inr ⟨g, rfl, hb, (Array.getElem?_eq_some_iff.1 hg).1, hn, hm, cur, hg⟩
theorem EOwn.cap (h : EOwn E w B A c L) : L.length ≤ c := by
  rcases h.form with ⟨_, _, rfl⟩ | ⟨_, _, _, _, h, _⟩
  · simp
  · exact h
theorem EOwn.capMax (h : EOwn E w B A c L) : c ≤ maxLen := by
  rcases h.form with ⟨_, rfl, _⟩ | ⟨_, _, _, _, _, h, _⟩
  · simp
  · exact h
theorem EOwn.block (h : EOwn E w B A c L) : ∀ a, A = some a → B ≤ a.block ∧ a.block < w.heap.size := by
  intro a ha
  rcases h.form with ⟨rfl, _⟩ | ⟨g, rfl, h1, h2, _⟩
  · cases ha
  · obtain rfl := Option.some.inj ha
    exact ⟨h1, h2⟩
theorem EOwn.row (h : EOwn E w B A c L) : ERow E w A L := fun hl => by
  rcases h.form with ⟨_, _, rfl⟩ | ⟨g, rfl, _, hlt, _⟩
  · simp at hl
  · refine ⟨g, 0, rfl, hlt, fun j u hu => ?_⟩
    have := World.ownsRow.cells h (g := g) rfl j _ hu
    simpa [Addr.add_lit] using this
theorem EOwn.kept {row : Option Nat} (h : EOwn E w B A c L) (hg : w.grownBy w' row) (hne : A.map (·.block) = none ∨ A.map (·.block) ≠ row) : EOwn E w' B A c L :=
  World.ownsRow.kept h hg (by rw [own_block]; exact hne)
theorem EOwn.keep (h : EOwn E w B A c L) (hk : ∀ a, A = some a → w'.heap[a.block]? = w.heap[a.block]?) : EOwn E w' B A c L := by
  refine ⟨h.1, ?_⟩
  rcases h.2 with h2 | ⟨g, cap, cur, hv, hb, hg, r⟩
  · exact .inl h2
  · refine .inr ⟨g, cap, cur, hv, hb, ?_, r⟩
    simp only [Value.slice.injEq] at hv
    have := hk _ hv.1
    rw [this]; exact hg
theorem EOwn.below (h : EOwn E w B A c L) (hb : Below w.heap.size w w') : EOwn E w' B A c L := h.keep fun a ha => hb.block _ (h.block a ha).2
theorem EOwn.mono {B' : Nat} (h : EOwn E w B A c L) (hB : B' ≤ B) : EOwn E w B' A c L := by
  refine ⟨h.1, ?_⟩
  rcases h.2 with h2 | ⟨g, cap, cur, hv, hb, r⟩
  · exact .inl h2
  · exact .inr ⟨g, cap, cur, hv, by omega, r⟩
theorem EOwn.up {B' : Nat} (h : EOwn E w B A c L) (hB : ∀ a, A = some a → B' ≤ a.block) : EOwn E w B' A c L := by
  refine ⟨h.1, ?_⟩
  rcases h.2 with h2 | ⟨g, cap, cur, hv, hb, r⟩
  · exact .inl h2
  · refine .inr ⟨g, cap, cur, hv, ?_, r⟩
    simp only [Value.slice.injEq] at hv
    exact hB _ hv.1
theorem EOwn.new (w : World) (L : List α) (hm : L.length ≤ maxLen) (hB : B ≤ w.heap.size) (cs : Array Value) (hcs : cs.toList = E.cells L) : EOwn E (w.alloc (.cells cs E.e)) B (some ⟨w.heap.size, 0, none⟩) L.length L := by
  have := World.ownsRow_lit (e := E.e) (size := E.sz) w cs L.length hB hm (by rw [← Array.length_toList, hcs]; exact E.cells_length L)
  rw [hcs] at this
  exact this
theorem EOwn.below_grown (h : EOwn E w B A c L) (hg : w.grownBy w' (A.map (·.block))) (hB : B ≤ w.heap.size) : Below B w w' :=
  (Below.refl B w).grown hg hB fun k hk => by
    have := (World.ownsRow.lt h k (by rw [own_block]; exact hk)).1
    exact this
theorem EOwn.set (h : EOwn E w B A c L) (p : Addr) (hne : ∀ a, A = some a → a.block ≠ p.block) (u : Value) : EOwn E (w.setCell p u) B A c L :=
  h.keep fun a ha => heap_setCell_other w p a.block u (hne a ha)
theorem EOwn.cell {g : Nat} (h : EOwn E w B (some ⟨g, 0, none⟩) c L) {j k : Nat} (hj : j < L.length) {v : Value} (hv : (E.code L[j])[k]? = some v) : w.cell? ⟨g, j * E.sz + k, none⟩ = some v := by
  have hk : k < E.sz := by rw [← E.len L[j]]; exact (List.getElem?_eq_some_iff.1 hv).1
  rw [World.ownsRow.cellAt h (j * E.sz + k) (by have := Nat.mul_le_mul_right E.sz (show j + 1 ≤ L.length from hj); rw [Nat.succ_mul] at this; omega), E.cells_get L j k hj hk]
  exact hv
theorem EOwn.free {g : Nat} (h : EOwn E w B (some ⟨g, 0, none⟩) c L) (j : Nat) : w.frozen? ⟨g, j, none⟩ = false := World.ownsRow.frozenAt h j
theorem EOwn.store {g : Nat} (h : EOwn E w B (some ⟨g, 0, none⟩) c L) {j k : Nat} (hj : j < L.length) (hk : k < E.sz) (x : α) (v : Value) (hx : E.code x = (E.code L[j]).set k v) :
    EOwn E (w.setCell ⟨g, j * E.sz + k, none⟩ v) B (some ⟨g, 0, none⟩) c (L.set j x) := by
  have := (World.ownsRow.stored h (j * E.sz + k) v).1
  unfold EOwn
  rw [E.cells_set L j k hj x v hk hx, List.length_set]
  exact this
def setFrom (xs : List Value) (i : Nat) : List Value → List Value
  | [] => xs
  | v :: vs => setFrom (xs.set i v) (i + 1) vs
def storeFrom (w : World) (g i : Nat) : List Value → World
  | [] => w
  | v :: vs => storeFrom (w.setCell ⟨g, i, none⟩ v) g (i + 1) vs
theorem setFrom_length : ∀ (vs : List Value) (xs : List Value) (i : Nat), (setFrom xs i vs).length = xs.length
  | [], _, _ => rfl
  | v :: vs, xs, i => by rw [setFrom, setFrom_length vs]; simp
theorem setFrom_get : ∀ (vs xs : List Value) (i k : Nat), i + vs.length ≤ xs.length → (setFrom xs i vs)[k]? = if i ≤ k ∧ k < i + vs.length then vs[k - i]? else xs[k]?
  | [], xs, i, k, _ => by rw [setFrom, if_neg (by simp)]
  | v :: vs, xs, i, k, h => by
    simp only [List.length_cons] at h
    rw [setFrom, setFrom_get vs (xs.set i v) (i + 1) k (by simp; omega)]
    by_cases hk : k = i
    · subst hk
      rw [if_neg (by omega), if_pos (by simp), List.getElem?_set_self (by omega)]
      simp
    · by_cases hr : i + 1 ≤ k ∧ k < i + 1 + vs.length
      · rw [if_pos hr, if_pos (by simp; omega)]
        obtain ⟨m, rfl⟩ : ∃ m, k = i + 1 + m := ⟨k - (i + 1), by omega⟩
        rw [show i + 1 + m - (i + 1) = m from by omega, show i + 1 + m - i = m + 1 from by omega]
        rfl
      · rw [if_neg hr, if_neg (by simp; omega), List.getElem?_set_ne (by omega)]
theorem Elem.cells_get' (L : List α) (k : Nat) (h : k < L.length * E.sz) : (E.cells L)[k]? = (E.code (L[k / E.sz]'(Nat.div_lt_of_lt_mul (by rw [Nat.mul_comm]; exact h))))[k % E.sz]? := by
  have hd : k / E.sz < L.length := Nat.div_lt_of_lt_mul (by rw [Nat.mul_comm]; exact h)
  have := E.cells_get L (k / E.sz) (k % E.sz) hd (Nat.mod_lt _ E.pos)
  rw [Nat.mul_comm, Nat.div_add_mod] at this
  exact this
theorem Elem.cells_setAll (L : List α) (j : Nat) (hj : j < L.length) (x : α) : E.cells (L.set j x) = setFrom (E.cells L) (j * E.sz) (E.code x) := by
  have hlen : j * E.sz + E.sz ≤ L.length * E.sz := by
    have := Nat.mul_le_mul_right E.sz (show j + 1 ≤ L.length from hj)
    rw [Nat.succ_mul] at this
    exact this
  apply List.ext_getElem?
  intro k
  rw [setFrom_get _ _ _ _ (by rw [E.len, E.cells_length]; exact hlen), E.len]
  by_cases hk : k < L.length * E.sz
  · have hd : k / E.sz < L.length := Nat.div_lt_of_lt_mul (by rw [Nat.mul_comm]; exact hk)
    rw [E.cells_get' _ k (by simpa using hk), E.cells_get' L k hk, List.getElem_set]
    have hdm := Nat.div_add_mod k E.sz
    have hml := Nat.mod_lt k E.pos
    by_cases he : j = k / E.sz
    · have hje : j * E.sz + k % E.sz = k := by rw [he, Nat.mul_comm]; exact hdm
      rw [if_pos he, if_pos ⟨by omega, by omega⟩, show k - j * E.sz = k % E.sz from by omega]
    · rw [if_neg he, if_neg]
      rintro ⟨h1, h2⟩
      refine he ?_
      symm
      rw [Nat.div_eq_iff E.pos]
      exact ⟨h1, by omega⟩
  · rw [List.getElem?_eq_none (by rw [E.cells_length]; simpa using hk), if_neg (by omega), List.getElem?_eq_none (by rw [E.cells_length]; omega)]
theorem owns_storeFrom {base : Nat} {e : TypeId} {size g n cap : Nat} : ∀ (vs : List Value) {xs : List Value} {w : World} (i : Nat), w.ownsRow base e size (.slice (some ⟨g, 0, none⟩) n cap) n xs →
    (storeFrom w g i vs).ownsRow base e size (.slice (some ⟨g, 0, none⟩) n cap) n (setFrom xs i vs)
  | [], _, _, _, h => h
  | v :: vs, _, _, i, h => owns_storeFrom vs (i + 1) (World.ownsRow.stored h i v).1
theorem EOwn.storeAll {g : Nat} (h : EOwn E w B (some ⟨g, 0, none⟩) c L) {j : Nat} (hj : j < L.length) (x : α) : EOwn E (storeFrom w g (j * E.sz) (E.code x)) B (some ⟨g, 0, none⟩) c (L.set j x) := by
  unfold EOwn
  rw [E.cells_setAll L j hj x, List.length_set]
  exact owns_storeFrom _ _ h
theorem run_append_elems {A' : Option Addr} {c' : Nat} (ty : TypeId) (ho : EOwn E w B A c L) (hr : ERow E w A' M) (hb : L.length + M.length ≤ 1073741824) (hB : B ≤ w.heap.size) :
    ∃ A1 c1 w1, (Builtin.append_ #[E.t, E.t] ty #[.slice A L.length c, .slice A' M.length c']).run Tryz.prog w = .ok (.slice A1 (L.length + M.length) c1) w1 ∧ EOwn E w1 B A1 c1 (L ++ M) ∧
      w.grownBy w1 (A.map (·.block)) ∧ (A1.map (·.block) = A.map (·.block) ∨ A1.map (·.block) = some w.heap.size) := by
  obtain ⟨i, hi, hz, hsi, hby⟩ := info_parts E.info
  rcases A' with _ | ad
  · have hm : M = [] := by
      cases M with
      | nil => rfl
      | cons x M => obtain ⟨b, o, h, _⟩ := hr (by simp); cases h
    subst hm
    refine ⟨A, c, w, ?_, by simpa using ho, World.grownBy.refl w _, .inl rfl⟩
    exact run_append_of_none (P := Tryz.prog) w B E.t ty E.e i E.sz E.under hi _ _ _ ho c'
  · have hcells : ∀ j u, (E.cells M)[j]? = some u → w.cell? (ad.add j) = some u := by
      intro j u hu
      have hj := (List.getElem?_eq_some_iff.1 hu).1
      rw [E.cells_length] at hj
      obtain ⟨b, o, h, _, hc⟩ := hr (by
        rcases Nat.eq_zero_or_pos M.length with h0 | h0
        · rw [h0] at hj; simp at hj
        · exact h0)
      obtain rfl := Option.some.inj h
      rw [Addr.add_lit]
      exact hc j u hu
    have hbig : (L.length + M.length) * E.bytes ≤ 140737488355328 := by
      have h1 := Nat.mul_le_mul hb E.few
      omega
    obtain ⟨v', w', hrun, h2, h3, _, h5⟩ := run_append_own_at (P := Tryz.prog) w B E.t ty E.e i E.zero E.sz E.bytes E.under hi hz hsi hby E.zsz E.pos _ _ _ ho ad M.length c' (E.cells M)
      (E.cells_length M) hcells (E.cells_one M) (by simp [maxLen]; omega) hbig hB
    obtain ⟨A1, c1, rfl⟩ := own_slice h2
    refine ⟨A1, c1, w', hrun, ?_, by simpa [own_block] using h3, by simpa [own_block] using h5⟩
    unfold EOwn
    rw [E.cells_append, List.length_append]
    exact h2
theorem wpList_append_elems (E : Elem α) {w : World} {B c : Nat} {A A' : Option Addr} {L M : List α} {c' : Nat} {ops : Array Oper} {rest : List Oper} {o : Oper} {a : Act} {Q : Exit → Act → World → Prop} (hgd : o.guard = none) (s x : Operand)
    (hop : o.op = .call { callee := .builtin .append, args := #[s, x], argTypes := #[E.t, E.t] })
    (n : Nat) (hs : a.eval s = .slice A n c) (ho : EOwn E w B A c L) (hn : n = L.length) (k : Nat) (hx : a.eval x = .slice A' k c') (hr : ERow E w A' M) (hk : k = M.length)
    (hb : L.length + M.length ≤ 1073741824) (hB : B ≤ w.heap.size)
    (h : ∀ A1 c1 w1, EOwn E w1 B A1 c1 (L ++ M) → Below B w w1 → w.grownBy w1 (A.map (·.block)) → (A1.map (·.block) = A.map (·.block) ∨ A1.map (·.block) = some w.heap.size) →
      wpList Tryz.prog ops Q rest (a.put o.dst (.slice A1 (L.length + M.length) c1)) w1) : wpList Tryz.prog ops Q (o :: rest) a w := by
  subst hn hk
  obtain ⟨A1, c1, w1, hrun, h2, h3, h4⟩ := run_append_elems (c' := c') o.type ho hr hb hB
  refine Lib.wpList_append_run w hgd s x _ _ hop _ _ hs hx _ _ hrun ?_
  exact h A1 c1 w1 h2 (ho.below_grown h3 hB) h3 h4
theorem ERow.lit (E : Elem α) (w : World) (x : α) (cs : Array Value) (hcs : cs.toList = E.code x) (g : Nat) (hg : g = w.heap.size) : ERow E (w.alloc (.cells cs E.e)) (some ⟨g, 0, none⟩) [x] := by
  subst hg
  exact (EOwn.new (B := 0) w [x] (by simp [maxLen]) (Nat.zero_le _) cs (by simp [Elem.cells, hcs])).row
end
end Go.Proofs.YtcfoihihinijlaaGreat
end

section
namespace Go.Proofs.YtcfoihihinijlaaGreat
set_option linter.unusedSimpArgs false
set_option linter.unusedVariables false
open Go.RowKit
def Blk (w : World) (g : Nat) (t : TypeId) (cs : List Value) : Prop := w.heap[g]? = some (.cells cs.toArray t (0, 0))
section
variable {w w' : World} {g : Nat} {t : TypeId} {cs : List Value}
theorem Blk.lt (h : Blk w g t cs) : g < w.heap.size := (Array.getElem?_eq_some_iff.1 h).1
theorem Blk.below (h : Blk w g t cs) (hb : Below w.heap.size w w') : Blk w' g t cs := (hb.block _ h.lt).trans h
theorem Blk.grown {row : Option Nat} (h : Blk w g t cs) (hb : w.grownBy w' row) (hne : some g ≠ row) : Blk w' g t cs := (hb.block _ h.lt hne).trans h
theorem Blk.cell (h : Blk w g t cs) (i : Nat) : w.cell? ⟨g, i, none⟩ = cs[i]? := by
  have := cell_of_row w g i _ _ _ h
  simpa using this
theorem Blk.free (h : Blk w g t cs) (i : Nat) : w.frozen? ⟨g, i, none⟩ = false := frozen_of_row w _ i _ _ h
theorem Blk.set (h : Blk w g t cs) (i : Nat) (u : Value) : Blk (w.setCell ⟨g, i, none⟩ u) g t (cs.set i u) := by
  have := heap_setCell_same w g i cs.toArray t u h
  simpa [Blk] using this
theorem Blk.other (h : Blk w g t cs) (p : Addr) (hne : g ≠ p.block) (u : Value) : Blk (w.setCell p u) g t cs := (heap_setCell_other w p g u hne).trans h
theorem Blk.alloc (h : Blk w g t cs) (o : Obj) : Blk (w.alloc o) g t cs := h.below ((Below.refl _ _).alloc (Nat.le_refl _) o)
theorem Blk.new (w : World) (cs : Array Value) (t : TypeId) : Blk (w.alloc (.cells cs t)) w.heap.size t cs.toList := by
  show (w.heap.push _)[w.heap.size]? = _
  rw [Array.getElem?_push_size]
theorem Blk.drew (h : Blk w g t cs) : Blk w.drew g t cs := h
theorem Blk.c1 {a : Value} (h : Blk w g t [a]) : w.cell? ⟨g, 0, none⟩ = some a ∧ w.frozen? ⟨g, 0, none⟩ = false ∧ g < w.heap.size := ⟨h.cell 0, h.free 0, h.lt⟩
theorem Blk.c2 {a b : Value} (h : Blk w g t [a, b]) : w.cell? ⟨g, 0, none⟩ = some a ∧ w.cell? ⟨g, 1, none⟩ = some b ∧ w.frozen? ⟨g, 0, none⟩ = false ∧ w.frozen? ⟨g, 1, none⟩ = false ∧ g < w.heap.size :=
  ⟨h.cell 0, h.cell 1, h.free 0, h.free 1, h.lt⟩
theorem Blk.c3 {a b c : Value} (h : Blk w g t [a, b, c]) : w.cell? ⟨g, 0, none⟩ = some a ∧ w.cell? ⟨g, 1, none⟩ = some b ∧ w.cell? ⟨g, 2, none⟩ = some c ∧ w.frozen? ⟨g, 0, none⟩ = false ∧ w.frozen? ⟨g, 1, none⟩ = false ∧ w.frozen? ⟨g, 2, none⟩ = false ∧ g < w.heap.size :=
  ⟨h.cell 0, h.cell 1, h.cell 2, h.free 0, h.free 1, h.free 2, h.lt⟩
theorem Blk.c4 {a b c d : Value} (h : Blk w g t [a, b, c, d]) : w.cell? ⟨g, 0, none⟩ = some a ∧ w.cell? ⟨g, 1, none⟩ = some b ∧ w.cell? ⟨g, 2, none⟩ = some c ∧ w.cell? ⟨g, 3, none⟩ = some d ∧
    w.frozen? ⟨g, 0, none⟩ = false ∧ w.frozen? ⟨g, 1, none⟩ = false ∧ w.frozen? ⟨g, 2, none⟩ = false ∧ w.frozen? ⟨g, 3, none⟩ = false ∧ g < w.heap.size :=
  ⟨h.cell 0, h.cell 1, h.cell 2, h.cell 3, h.free 0, h.free 1, h.free 2, h.free 3, h.lt⟩
theorem Blk.c5 {a b c d e : Value} (h : Blk w g t [a, b, c, d, e]) : w.cell? ⟨g, 0, none⟩ = some a ∧ w.cell? ⟨g, 1, none⟩ = some b ∧ w.cell? ⟨g, 2, none⟩ = some c ∧ w.cell? ⟨g, 3, none⟩ = some d ∧ w.cell? ⟨g, 4, none⟩ = some e ∧
    w.frozen? ⟨g, 0, none⟩ = false ∧ w.frozen? ⟨g, 1, none⟩ = false ∧ w.frozen? ⟨g, 2, none⟩ = false ∧ w.frozen? ⟨g, 3, none⟩ = false ∧ w.frozen? ⟨g, 4, none⟩ = false ∧ g < w.heap.size :=
  ⟨h.cell 0, h.cell 1, h.cell 2, h.cell 3, h.cell 4, h.free 0, h.free 1, h.free 2, h.free 3, h.free 4, h.lt⟩
theorem Blk.set0 {a u : Value} {r : List Value} (h : Blk w g t (a :: r)) : Blk (w.setCell ⟨g, 0, none⟩ u) g t (u :: r) := h.set 0 u
theorem Blk.set1 {a b u : Value} {r : List Value} (h : Blk w g t (a :: b :: r)) : Blk (w.setCell ⟨g, 1, none⟩ u) g t (a :: u :: r) := h.set 1 u
theorem Blk.set3 {a b c d u : Value} {r : List Value} (h : Blk w g t (a :: b :: c :: d :: r)) : Blk (w.setCell ⟨g, 3, none⟩ u) g t (a :: b :: c :: u :: r) := h.set 3 u
theorem Blk.all2 {a b u v : Value} (h : Blk w g t [a, b]) : Blk ((w.setCell ⟨g, 0, none⟩ u).setCell ⟨g, 1, none⟩ v) g t [u, v] := h.set0.set1
end
theorem ret_mem1 {P : Program} {fn : Func} {R : Ending → World → Prop} {a : Act} {w : World} {p : Tmp} {T : TypeId} {x : Addr} {v : Value} (h : fn.results = #[.cell p T]) (hd : a.defers = [])
    (hp : a.tmps.getD p undef = .pointer (some x)) (hv : (loadVar T x).run P w = .ok v w) (hR : R (.returned v) w) : bodyPost P fn R .ret a w := by
  refine bodyPost_ret (v := v) ?_ hd hR
  have e : (results fn a.tmps).run P w = ((asAddr (a.tmps.getD p undef)).run P w).andThen fun b w1 => (loadVar T b).run P w1 := by
    simp only [results, h]
    simp [Sem.run_bind]
  rw [e, hp]
  show ((loadVar T x).run P w) = _
  exact hv
theorem ret_mem2 {P : Program} {fn : Func} {R : Ending → World → Prop} {a : Act} {w : World} {p u : Tmp} {T : TypeId} {x : Addr} {v y : Value} (h : fn.results = #[.cell p T, .tmp u]) (hd : a.defers = [])
    (hp : a.tmps.getD p undef = .pointer (some x)) (hu : a.tmps.getD u undef = y) (hv : (loadVar T x).run P w = .ok v w) (hR : R (.returned (.tuple #[v, y])) w) : bodyPost P fn R .ret a w := by
  refine bodyPost_ret (v := .tuple #[v, y]) ?_ hd hR
  have e : (results fn a.tmps).run P w = ((asAddr (a.tmps.getD p undef)).run P w).andThen fun b w1 => ((loadVar T b).run P w1).andThen fun v w2 => .ok (.tuple #[v, a.tmps.getD u undef]) w2 := by
    simp only [results, h]
    simp [Sem.run_bind, Result.andThen]
  rw [e, hp, hu]
  show (((loadVar T x).run P w).andThen _) = _
  rw [hv]
  rfl
theorem ret_mem3 {P : Program} {fn : Func} {R : Ending → World → Prop} {a : Act} {w : World} {p u u' : Tmp} {T : TypeId} {x : Addr} {v y y' : Value} (h : fn.results = #[.cell p T, .tmp u, .tmp u']) (hd : a.defers = [])
    (hp : a.tmps.getD p undef = .pointer (some x)) (hu : a.tmps.getD u undef = y) (hu' : a.tmps.getD u' undef = y') (hv : (loadVar T x).run P w = .ok v w) (hR : R (.returned (.tuple #[v, y, y'])) w) : bodyPost P fn R .ret a w := by
  refine bodyPost_ret (v := .tuple #[v, y, y']) ?_ hd hR
  have e : (results fn a.tmps).run P w = ((asAddr (a.tmps.getD p undef)).run P w).andThen fun b w1 => ((loadVar T b).run P w1).andThen fun v w2 => .ok (.tuple #[v, a.tmps.getD u undef, a.tmps.getD u' undef]) w2 := by
    simp only [results, h]
    simp [Sem.run_bind, Result.andThen]
  rw [e, hp, hu, hu']
  show (((loadVar T x).run P w).andThen _) = _
  rw [hv]
  rfl
theorem fresh1 {w W : World} {a : List Value} {t : TypeId} (h : w.alloc (.cells a.toArray t) = W) : Blk W w.heap.size t a ∧ w.heap.size + 1 ≤ W.heap.size ∧ Below w.heap.size w W := by
  subst h
  exact ⟨Blk.new _ _ _, by simp, (Below.refl _ _).alloc (Nat.le_refl _) _⟩
theorem fresh2 {w W : World} {a b : List Value} {t u : TypeId} (h : (w.alloc (.cells a.toArray t)).alloc (.cells b.toArray u) = W) : Blk W w.heap.size t a ∧ Blk W (w.heap.size + 1) u b ∧ w.heap.size + 2 ≤ W.heap.size ∧ Below w.heap.size w W := by
  have h2 : (w.alloc (.cells a.toArray t)).heap.size = w.heap.size + 1 := by simp
  obtain ⟨h1, _, h3⟩ := fresh1 (rfl : w.alloc (.cells a.toArray t) = _)
  obtain ⟨k1, k2, k3⟩ := fresh1 h
  rw [h2] at k1
  exact ⟨h1.below k3, k1, by omega, h3.trans (k3.mono (by omega))⟩
theorem Blk.own {α : Type} (E : Elem α) {w : World} {g B : Nat} {cs : List Value} (h : Blk w g E.e cs) (L : List α) (hcs : cs = E.cells L) (hL : L.length ≤ maxLen) (hB : B ≤ g) : EOwn E w B (some ⟨g, 0, none⟩) L.length L := by
  subst hcs
  have hl := E.cells_length L
  exact ⟨hl, .inr ⟨g, L.length, _, rfl, hB, h, Nat.le_refl _, hL, by simpa using hl, by rw [List.take_of_length_le (by simp [hl])]⟩⟩
theorem Blk.row {α : Type} (E : Elem α) {w : World} {g : Nat} {cs : List Value} (h : Blk w g E.e cs) (L : List α) (hcs : cs = E.cells L) (hL : L.length ≤ maxLen) : ERow E w (some ⟨g, 0, none⟩) L := (h.own E (B := 0) L hcs hL (Nat.zero_le _)).row
end Go.Proofs.YtcfoihihinijlaaGreat
end

section
namespace Go.Proofs.YtcfoihihinijlaaGreat
set_option linter.unusedSimpArgs false
set_option linter.unusedVariables false
open Go Go.RowKit
theorem grown_of_below {w w' : World} (h : Below w.heap.size w w') (r : Option Nat) : w.grownBy w' r := ⟨h.os, h.tape, h.output, h.size, fun k hk _ => h.block k hk⟩
theorem grown_then {a b c : World} {r : Option Nat} (h : a.grownBy b r) (k : b.grownBy c r) : a.grownBy c r :=
  ⟨k.os.trans h.os, k.tape.trans h.tape, k.output.trans h.output, Nat.le_trans h.size k.size, fun i hi hn => (k.block i (Nat.lt_of_lt_of_le hi h.size) hn).trans (h.block i hi hn)⟩
theorem _root_.Go.World.grownBy.trans' {a b c : World} {r : Option Nat} (h : a.grownBy b r) (k : b.grownBy c r) : a.grownBy c r := grown_then h k
theorem grown_store (w : World) (g i : Nat) (u : Value) : w.grownBy (w.setCell ⟨g, i, none⟩ u) (some g) :=
  ⟨rfl, rfl, rfl, by simp, fun k _ hn => heap_setCell_other w ⟨g, i, none⟩ k u (fun e => hn (by rw [e]))⟩
theorem _root_.Go.World.grownBy.set_ {w w' : World} {g : Nat} (h : w.grownBy w' (some g)) (p : Addr) (hp : p.block = g) (u : Value) : w.grownBy (w'.setCell p u) (some g) :=
  ⟨h.os, h.tape, h.output, by simpa using h.size, fun k hk hn => (heap_setCell_other w' p k u (fun e => hn (by rw [e, hp]))).trans (h.block k hk hn)⟩
section
variable {P : Program} {Q : Exit → Act → World → Prop}
end
end Go.Proofs.YtcfoihihinijlaaGreat
end

section
namespace Go.Proofs.YtcfoihihinijlaaGreat
set_option linter.unusedSimpArgs false
set_option linter.unusedVariables false
open Go Go.RowKit
section
variable {P : Program} {Q : Exit → Act → World → Prop}
theorem wp_region_read {id : Nat} {l : List Oper} {a : Act} {w : World} (R : Nat → Value → Prop)
    (G : (Nat → Value) → Act) (hG : ∀ v, regFrame l v a = G v) (hm : P.follows .mixedOrders = true) (honce : onceB l = true) (hlow : lowerB l = true)
    (hstep : AllOps (fun i o => ∀ v, Deps (fun j => R j (v j)) o.after.toList → opDoes P l o Q (G v) w.drew fun x w'' => w'' = w.drew ∧ R i x) l 0)
    (hend : ∀ v, AllOps (fun i _ => R i (v i)) l 0 → Q .normal (G v) w.drew) : (Code.region id l.toArray true).wp P Q a w := by
  refine wp_region_rel (Inv := fun w' => w' = w.drew) (Grow := fun w1 w2 => w2 = w1) (R := fun i x _ => R i x) G hG hm honce hlow (fun w1 w2 h e => e.trans h) (fun _ _ _ _ _ _ h => h) rfl ?_ (fun v w' e h => by subst e; exact hend v h)
  refine AllOps.of' 0 fun i o hi => ?_
  intro v w' e hd _
  subst e
  have := hstep.get i o hi
  simp only [Nat.zero_add] at this ⊢
  exact this v hd
end
theorem below_drew (w : World) : Below w.heap.size w w.drew := ⟨rfl, rfl, rfl, Nat.le_refl _, fun _ _ => rfl⟩
end Go.Proofs.YtcfoihihinijlaaGreat
end

section
namespace Go.Proofs.YtcfoihihinijlaaGreat
set_option linter.unusedSimpArgs false
set_option linter.unusedVariables false
open Go.RowKit
structure Keeps (w w' : World) (S : Nat → Prop) : Prop where
  os : w'.os = w.os
  tape : w'.tape = w.tape
  output : w'.output = w.output
  size : w.heap.size ≤ w'.heap.size
  block : ∀ k, k < w.heap.size → ¬ S k → w'.heap[k]? = w.heap[k]?
theorem Keeps.refl (w : World) (S : Nat → Prop) : Keeps w w S := ⟨rfl, rfl, rfl, Nat.le_refl _, fun _ _ _ => rfl⟩
theorem Keeps.trans {a b c : World} {S : Nat → Prop} (h : Keeps a b S) (k : Keeps b c S) : Keeps a c S :=
  ⟨k.os.trans h.os, k.tape.trans h.tape, k.output.trans h.output, Nat.le_trans h.size k.size, fun i hi hn => (k.block i (Nat.lt_of_lt_of_le hi h.size) hn).trans (h.block i hi hn)⟩
theorem Keeps.of_below {w w' : World} {S : Nat → Prop} (h : Below w.heap.size w w') : Keeps w w' S := ⟨h.os, h.tape, h.output, h.size, fun k hk _ => h.block k hk⟩
theorem Keeps.set {w w' : World} {S : Nat → Prop} (h : Keeps w w' S) (p : Addr) (hp : S p.block ∨ w.heap.size ≤ p.block) (u : Value) : Keeps w (w'.setCell p u) S :=
  ⟨h.os, h.tape, h.output, by simpa using h.size, fun k hk hn => (heap_setCell_other w' p k u (fun e => by
    rcases hp with hp | hp
    · exact hn (e ▸ hp)
    · omega)).trans (h.block k hk hn)⟩
theorem Keeps.below {B : Nat} {w0 w w' : World} {S : Nat → Prop} (h : Keeps w w' S) (hb : Below B w0 w) (hB : B ≤ w.heap.size) (hS : ∀ k, S k → B ≤ k) : Below B w0 w' :=
  hb.trans ⟨h.os, h.tape, h.output, h.size, fun k hk => h.block k (Nat.lt_of_lt_of_le hk hB) (fun hs => by have := hS k hs; omega)⟩
theorem Row.kept {w w' : World} {A : Option Addr} {xs : List Value} {S : Nat → Prop} (h : Row w A xs) (hk : Keeps w w' S) (hf : ∀ a, A = some a → ¬ S a.block) : Row w' A xs := fun hl => by
  obtain ⟨b, o, rfl, hlt, hc⟩ := h hl
  exact ⟨b, o, rfl, Nat.lt_of_lt_of_le hlt hk.size, fun j hj => (World.cell?_of_block (hk.block b hlt (hf _ rfl))).trans (hc j hj)⟩
theorem BRow.kept {w w' : World} {A : Option Addr} {l : List UInt8} {S : Nat → Prop} (h : BRow w A l) (hk : Keeps w w' S) (hf : ∀ a, A = some a → ¬ S a.block) : BRow w' A l := Row.kept h hk hf
theorem BRow.kept0 {w w' : World} {A : Option Addr} {l : List UInt8} {S : Nat → Prop} (h : BRow w A l) (hk : Keeps w w' S) (hf : l ≠ [] → ∀ a, A = some a → ¬ S a.block) : BRow w' A l := by
  cases l with
  | nil => exact BRow.nil
  | cons x l => exact h.kept hk (hf (by simp))
theorem Keeps.grown {w w' w'' : World} {S : Nat → Prop} {g : Nat} (h : Keeps w w' S) (hg : w'.grownBy w'' (some g)) (hs : S g) : Keeps w w'' S :=
  h.trans ⟨hg.os, hg.tape, hg.output, hg.size, fun k hk hn => hg.block k hk (by simp; rintro rfl; exact hn hs)⟩
theorem Blk.kept {w w' : World} {g : Nat} {T : TypeId} {cs : List Value} {S : Nat → Prop} (h : Blk w g T cs) (hk : Keeps w w' S) (hg : ¬ S g) : Blk w' g T cs := (hk.block _ h.lt hg).trans h
theorem ERow.kept {α : Type} {E : Elem α} {w w' : World} {A : Option Addr} {L : List α} {S : Nat → Prop} (h : ERow E w A L) (hk : Keeps w w' S) (hf : L ≠ [] → ∀ a, A = some a → ¬ S a.block) : ERow E w' A L := by
  cases L with
  | nil => exact ERow.nil
  | cons x L => exact h.keep hk.size (fun a ha hl => hk.block _ hl (hf (by simp) a ha))
theorem EOwn.keptK {α : Type} {E : Elem α} {w w' : World} {B c : Nat} {A : Option Addr} {L : List α} {S : Nat → Prop} (h : EOwn E w B A c L) (hk : Keeps w w' S) (hf : ∀ a, A = some a → ¬ S a.block) : EOwn E w' B A c L :=
  h.keep fun a ha => hk.block _ (h.block a ha).2 (hf a ha)
theorem Keeps.of_grown {w w' : World} {g : Nat} (h : w.grownBy w' (some g)) : Keeps w w' (fun k => k = g) := ⟨h.os, h.tape, h.output, h.size, fun k hk hn => h.block k hk (by simpa using hn)⟩
theorem Keeps.mono {w w' : World} {S T : Nat → Prop} (h : Keeps w w' S) (hS : ∀ k, S k → T k) : Keeps w w' T := ⟨h.os, h.tape, h.output, h.size, fun k hk hn => h.block k hk (fun hs => hn (hS k hs))⟩
theorem BOwn.keptK {w w' : World} {B c : Nat} {A : Option Addr} {l : List UInt8} {S : Nat → Prop} (h : BOwn w B A c l) (hk : Keeps w w' S) (hf : ∀ a, A = some a → ¬ S a.block) : BOwn w' B A c l := by
  refine ⟨h.1, ?_⟩
  rcases h.2 with h2 | ⟨g, cap, cur, hv, hb, hg, r⟩
  · exact .inl h2
  · refine .inr ⟨g, cap, cur, hv, hb, ?_, r⟩
    simp only [Value.slice.injEq] at hv
    exact (hk.block g (Array.getElem?_eq_some_iff.1 hg).1 (hf _ hv.1)).trans hg
theorem BRow.ne_blk {w : World} {A : Option Addr} {l : List UInt8} {g : Nat} {T : TypeId} {cs : List Value} (h : BRow w A l) (hl : l ≠ []) (hb : Blk w g T cs) (hc : ∀ v ∈ cs, ∀ n, v ≠ .int .u8 n) : ∀ a, A = some a → a.block ≠ g := by
  rintro a ha rfl
  obtain ⟨b, o, e, _, hcell⟩ := h (by cases l with | nil => exact absurd rfl hl | cons x l => simp)
  rw [ha] at e
  obtain rfl := Option.some.inj e
  have h0 := hcell 0 (by cases l with | nil => exact absurd rfl hl | cons x l => simp)
  rw [hb.cell] at h0
  obtain ⟨hlt, he⟩ := List.getElem?_eq_some_iff.1 h0
  rw [List.getElem_map] at he
  exact hc _ (List.getElem_mem hlt) _ he
end Go.Proofs.YtcfoihihinijlaaGreat
end

section
namespace Go.Proofs.YtcfoihihinijlaaGreat
set_option linter.unusedSimpArgs false
set_option linter.unusedVariables false
open Go.RowKit
theorem storeFrom_eq : ∀ (vs : List Value) (w : World) (g i : Nat), storeFrom w g i vs = w.setCells g i vs
  | [], _, _, _ => rfl
  | v :: vs, w, g, i => storeFrom_eq vs _ g (i + 1)
section
variable {α : Type} {E : Elem α} {w w' : World} {B c : Nat} {A : Option Addr} {L : List α}
theorem Elem.cells_setPart (L : List α) (j : Nat) (hj : j < L.length) (x : α) (k : Nat) (vs : List Value) (hk : k + vs.length ≤ E.sz) (hx : E.code x = setFrom (E.code L[j]) k vs) :
    E.cells (L.set j x) = setFrom (E.cells L) (j * E.sz + k) vs := by
  have hlen : j * E.sz + E.sz ≤ L.length * E.sz := by
    have := Nat.mul_le_mul_right E.sz (show j + 1 ≤ L.length from hj)
    rw [Nat.succ_mul] at this
    exact this
  rw [E.cells_setAll L j hj x, hx]
  apply List.ext_getElem?
  intro i
  have g1 : ∀ xs : List Value, xs.length = E.sz → ∀ i, (setFrom (E.cells L) (j * E.sz) xs)[i]? = if j * E.sz ≤ i ∧ i < j * E.sz + xs.length then xs[i - j * E.sz]? else (E.cells L)[i]? := fun xs h i => setFrom_get xs _ _ i (by rw [h, E.cells_length]; exact hlen)
  have g2 := setFrom_get vs (E.cells L) (j * E.sz + k) i (by rw [E.cells_length]; omega)
  have g3 : ∀ i, (setFrom (E.code L[j]) k vs)[i]? = if k ≤ i ∧ i < k + vs.length then vs[i - k]? else (E.code L[j])[i]? := fun i => setFrom_get vs _ k i (by rw [E.len]; exact hk)
  have hl : (setFrom (E.code L[j]) k vs).length = E.sz := by rw [setFrom_length, E.len]
  rw [g1 _ hl, g2, hl]
  by_cases h : j * E.sz ≤ i ∧ i < j * E.sz + E.sz
  · rw [if_pos h, g3]
    by_cases h2 : j * E.sz + k ≤ i ∧ i < j * E.sz + k + vs.length
    · rw [if_pos (by omega), if_pos h2, show i - j * E.sz - k = i - (j * E.sz + k) from by omega]
    · rw [if_neg (by omega), if_neg h2, ← E.cells_get L j (i - j * E.sz) hj (by omega), show j * E.sz + (i - j * E.sz) = i from by omega]
  · rw [if_neg h, if_neg (by omega)]
theorem EOwn.storePart {g : Nat} (h : EOwn E w B (some ⟨g, 0, none⟩) c L) {j : Nat} (hj : j < L.length) (x : α) (k : Nat) (vs : List Value) (hk : k + vs.length ≤ E.sz) (hx : E.code x = setFrom (E.code L[j]) k vs) :
    EOwn E (w.setCells g (j * E.sz + k) vs) B (some ⟨g, 0, none⟩) c (L.set j x) := by
  rw [← storeFrom_eq]
  unfold EOwn
  rw [E.cells_setPart L j hj x k vs hk hx, List.length_set]
  exact owns_storeFrom _ _ h
theorem grown_setCells (w : World) (g i : Nat) (vs : List Value) : w.grownBy (w.setCells g i vs) (some g) := by
  have key : ∀ (vs : List Value) (w0 w : World) (i : Nat), w0.grownBy w (some g) → w0.grownBy (w.setCells g i vs) (some g) := by
    intro vs
    induction vs with
    | nil => exact fun _ _ _ h => h
    | cons v vs ih => exact fun w0 w i h => ih w0 _ (i + 1) (h.set_ ⟨g, i, none⟩ rfl v)
  exact key vs w w i ⟨rfl, rfl, rfl, Nat.le_refl _, fun _ _ _ => rfl⟩
theorem Blk.setCells {g : Nat} {T : TypeId} {cs : List Value} (h : Blk w g T cs) (i : Nat) (vs : List Value) : Blk (w.setCells g i vs) g T (setFrom cs i vs) := by
  have key : ∀ (vs : List Value) (w : World) (cs : List Value) (i : Nat), Blk w g T cs → Blk (w.setCells g i vs) g T (setFrom cs i vs) := by
    intro vs
    induction vs with
    | nil => exact fun _ _ _ h => h
    | cons v vs ih => exact fun w cs i h => ih _ _ (i + 1) (h.set i v)
  exact key vs w cs i h
theorem setFrom_all : ∀ (vs cs pre : List Value), vs.length = cs.length → setFrom (pre ++ cs) pre.length vs = pre ++ vs
  | [], cs, pre, h => by
    have : cs = [] := List.eq_nil_of_length_eq_zero (by simpa using h.symm)
    subst this; rfl
  | v :: vs, [], pre, h => by simp at h
  | v :: vs, x :: cs, pre, h => by
    rw [setFrom, List.set_append_right _ _ (Nat.le_refl _), Nat.sub_self]
    show setFrom (pre ++ v :: cs) (pre.length + 1) vs = _
    have := setFrom_all vs cs (pre ++ [v]) (by simpa using h)
    simpa using this
theorem Blk.setAll {g : Nat} {T : TypeId} {cs : List Value} (h : Blk w g T cs) (vs : List Value) (hl : vs.length = cs.length) : Blk (w.setCells g 0 vs) g T vs := by
  have := h.setCells 0 vs
  rwa [show setFrom cs 0 vs = vs from by simpa using setFrom_all vs cs [] hl] at this
theorem setFrom_part : ∀ (vs : List Value) (pre cs post : List Value), vs.length = cs.length → setFrom (pre ++ cs ++ post) pre.length vs = pre ++ vs ++ post
  | [], pre, cs, post, h => by
    have : cs = [] := List.eq_nil_of_length_eq_zero (by simpa using h.symm)
    subst this; rfl
  | v :: vs, pre, [], post, h => by simp at h
  | v :: vs, pre, x :: cs, post, h => by
    rw [setFrom, List.append_assoc, List.set_append_right _ _ (Nat.le_refl _), Nat.sub_self]
    have := setFrom_part vs (pre ++ [v]) cs post (by simpa using h)
    simpa using this
theorem Blk.there {g : Nat} {T : TypeId} {cs : List Value} (h : Blk w g T cs) (i n : Nat) (hn : i + n ≤ cs.length) : w.there g i n := fun j hj => by
  rw [h.cell, List.getElem?_eq_getElem (by omega)]
  exact ⟨rfl, h.free _⟩
theorem Blk.range {g : Nat} {T : TypeId} {cs : List Value} (h : Blk w g T cs) (i : Nat) (vs : List Value) (hv : ∀ j, j < vs.length → cs[i + j]? = vs[j]?) : w.rangeAt g i vs := fun j v hj => by
  have hl := (List.getElem?_eq_some_iff.1 hj).1
  rw [h.cell, hv j hl, hj]
theorem EOwn.range {g : Nat} (h : EOwn E w B (some ⟨g, 0, none⟩) c L) {j : Nat} (hj : j < L.length) (k : Nat) (vs : List Value) (hv : ∀ i, i < vs.length → (E.code L[j])[k + i]? = vs[i]?) : w.rangeAt g (j * E.sz + k) vs := fun i v hi => by
  have hl := (List.getElem?_eq_some_iff.1 hi).1
  have := h.cell (j := j) (k := k + i) hj (v := v) (by rw [hv i hl, hi])
  rw [Nat.add_assoc]; exact this
theorem EOwn.there {g : Nat} (h : EOwn E w B (some ⟨g, 0, none⟩) c L) {j : Nat} (hj : j < L.length) (k n : Nat) (hk : k + n ≤ E.sz) : w.there g (j * E.sz + k) n := fun i hi => by
  have hlt : k + i < (E.code L[j]).length := by rw [E.len]; omega
  have := h.cell (j := j) (k := k + i) hj (List.getElem?_eq_getElem hlt)
  rw [Nat.add_assoc, this]
  exact ⟨rfl, h.free _⟩
theorem ERow.range {j : Nat} (h : ERow E w A L) (hj : j < L.length) : ∃ b o, A = some ⟨b, o, none⟩ ∧ b < w.heap.size ∧ w.rangeAt b (o + j * E.sz) (E.code L[j]) := by
  obtain ⟨b, o, e, hb, hc⟩ := h.at_ hj
  exact ⟨b, o, e, hb, fun i v hi => by rw [Nat.add_assoc]; exact hc i v hi⟩
end
theorem run_alloc {P : Program} {w : World} {T : TypeId} {z : Value} (hz : (zeroValue T).run P w = .ok z w) : (Instr.alloc T true (.tuple #[])).run P w = .ok (.pointer (some ⟨w.heap.size, 0, none⟩)) (w.alloc (.cells z.cells T)) := by
  simp [Instr.alloc, Sem.run_bind, hz, newVar, newRow]
theorem wpList_alloc_z {P : Program} {w : World} {ops : Array Oper} {rest : List Oper} {o : Oper} {a : Act} {Q : Exit → Act → World → Prop} (hgd : o.guard = none) (T : TypeId) (hop : o.op = .alloc T) {z : Value} (hz : (zeroValue T).run P w = .ok z w)
    (h : ∀ W, w.alloc (.cells z.cells T) = W → wpList P ops Q rest (a.put o.dst (.pointer (some ⟨w.heap.size, 0, none⟩))) W) : wpList P ops Q (o :: rest) a w :=
  wpList_plain hgd fun _ hK => by
    unfold Oper.wp execOp
    simp only [hop, Sem.run_bind, run_alloc hz, Result.andThen_ok, Sem.run_pure]
    exact hK _ _ (h _ rfl)
theorem wpList_store_blk {P : Program} {w : World} {ops : Array Oper} {rest : List Oper} {o : Oper} {a : Act} {Q : Exit → Act → World → Prop} (hgd : o.guard = none) (hod : o.dst = none) (T : TypeId) (x y : Operand) (hop : o.op = .store T x y) (g : Nat) (hx : a.eval x = .pointer (some ⟨g, 0, none⟩))
    (cs : List Value) (hy : a.eval y = .agg cs.toArray) {T0 : TypeId} {old : List Value} (hb : Blk w g T0 old) (hl : cs.length = old.length) (hi : (P.info? T).map (·.size) = some old.length) (hone : ∀ v ∈ cs, v.oneCell' = true)
    (h : ∀ W, Blk W g T0 cs → w.grownBy W (some g) → wpList P ops Q rest a W) : wpList P ops Q (o :: rest) a w := by
  have hput : a.put o.dst undef = a := by rw [hod]; rfl
  refine wpList_store_mid hgd T x y hop g 0 cs.toArray hx hy ?_ (hi.trans (by rw [← hl, List.size_toArray])) (all_oneCell_toArray hone) ?_
  · rw [List.size_toArray]
    exact hb.there 0 _ (by omega)
  · rw [hput]
    exact h _ (hb.setAll cs hl) (grown_setCells w g 0 cs)
theorem wpList_store_part {P : Program} {w : World} {α : Type} (E : Elem α) {B c : Nat} {L : List α} {ops : Array Oper} {rest : List Oper} {o : Oper} {a : Act} {Q : Exit → Act → World → Prop} (hgd : o.guard = none) (hod : o.dst = none) (T : TypeId) (x y : Operand) (hop : o.op = .store T x y) (g j k : Nat) (off : Nat) (hoff : off = j * E.sz + k)
    (hx : a.eval x = .pointer (some ⟨g, off, none⟩)) (cs : List Value) (hy : a.eval y = .agg cs.toArray) (ho : EOwn E w B (some ⟨g, 0, none⟩) c L) (hj : j < L.length) (X : α) (hk : k + cs.length ≤ E.sz) (hX : E.code X = setFrom (E.code L[j]) k cs)
    (hi : (P.info? T).map (·.size) = some cs.length) (hone : ∀ v ∈ cs, v.oneCell' = true)
    (h : ∀ W, EOwn E W B (some ⟨g, 0, none⟩) c (L.set j X) → w.grownBy W (some g) → wpList P ops Q rest a W) : wpList P ops Q (o :: rest) a w := by
  have hput : a.put o.dst undef = a := by rw [hod]; rfl
  subst hoff
  refine wpList_store_mid hgd T x y hop g _ cs.toArray hx hy ?_ (hi.trans (by rw [List.size_toArray])) (all_oneCell_toArray hone) ?_
  · rw [List.size_toArray]
    exact ho.there hj k _ hk
  · rw [hput]
    exact h _ (ho.storePart hj X k cs hk hX) (grown_setCells w g _ cs)
theorem run_store_part {P : Program} {w : World} {α : Type} {E : Elem α} {B c : Nat} {L : List α} (T : TypeId) (g j k : Nat) (cs : List Value) (ho : EOwn E w B (some ⟨g, 0, none⟩) c L) (hj : j < L.length) (hk : k + cs.length ≤ E.sz)
    (hi : (P.info? T).map (·.size) = some cs.length) (hone : ∀ v ∈ cs, v.oneCell' = true) :
    (Instr.storeAt T (.pointer (some ⟨g, j * E.sz + k, none⟩)) (.agg cs.toArray)).run P w = .ok () (w.setCells g (j * E.sz + k) cs) := by
  have := run_storeAt_mid (P := P) w g (j * E.sz + k) T cs.toArray (by rw [List.size_toArray]; exact ho.there hj k _ hk) (hi.trans (by rw [List.size_toArray])) (all_oneCell_toArray hone)
  simpa using this
theorem wpList_runv {P : Program} {w w' : World} {ops : Array Oper} {rest : List Oper} {o : Oper} {a : Act} {Q : Exit → Act → World → Prop} {x : Value} (hgd : o.guard = none) (hrun : (execOp a.eval o).run P w = .ok (.value x) w') (h : wpList P ops Q rest (a.put o.dst x) w') : wpList P ops Q (o :: rest) a w :=
  wpList_plain hgd fun _ hK => by
    unfold Oper.wp
    rw [hrun]
    exact hK _ _ h
theorem exec_copy {P : Program} {o : Oper} {a : Act} {w w' : World} {d s : Operand} {ts : Array TypeId} {x y r : Value} (hop : o.op = .call { callee := .builtin .copy, args := #[d, s], argTypes := ts })
    (hd : a.eval d = x) (hs : a.eval s = y) (hrun : (Builtin.copy_ ts o.type #[x, y]).run P w = .ok r w') : (execOp a.eval o).run P w = .ok (.value r) w' := by
  simp [execOp, hop, resolve, invoke, builtin, hd, hs, hrun, Result.andThen]
theorem exec_load {P : Program} {o : Oper} {a : Act} {w w' : World} {T : TypeId} {x : Operand} {p v : Value} (hop : o.op = .load T x) (hx : a.eval x = p) (hrun : (Instr.loadAt T p).run P w = .ok v w') : (execOp a.eval o).run P w = .ok (.value v) w' := by
  simp [execOp, hop, hx, hrun, Sem.run_bind]
theorem exec_store {P : Program} {o : Oper} {a : Act} {w w' : World} {T : TypeId} {x y : Operand} {p v : Value} (hop : o.op = .store T x y) (hx : a.eval x = p) (hy : a.eval y = v) (hrun : (Instr.storeAt T p v).run P w = .ok () w') : (execOp a.eval o).run P w = .ok .skip w' := by
  simp [execOp, hop, hx, hy, hrun, Sem.run_bind]
end Go.Proofs.YtcfoihihinijlaaGreat
end

section
namespace Go.Proofs.YtcfoihihinijlaaGreat
set_option linter.unusedSimpArgs false
set_option linter.unusedVariables false
open Go.RowKit
structure B512 where
  l : List UInt8
  h : l.length = 512
theorem B512.ext' {a b : B512} (h : a.l = b.l) : a = b := by
  cases a; cases b; simp only at h; subst h; rfl
def B512.zero : B512 := ⟨List.replicate 512 0, List.length_replicate⟩
instance : Inhabited B512 := ⟨B512.zero⟩
def B512.v (b : B512) : List Value := b.l.map bv
theorem B512.v_length (b : B512) : b.v.length = 512 := by simp [B512.v, b.h]
theorem B512.v_one (b : B512) : ∀ u ∈ b.v, u.oneCell' = true := one_bytes b.l
structure DB where
  now : B512
  sure : B512
instance : Inhabited DB := ⟨⟨B512.zero, B512.zero⟩⟩
structure DW where
  at_ : Int
  b : B512
instance : Inhabited DW := ⟨⟨0, B512.zero⟩⟩
structure DF where
  at_ : Int
  keep : Nat
  torn : Int
instance : Inhabited DF := ⟨⟨0, 0, 0⟩⟩
structure DS where
  blocks : List DB
  pending : List DW
  falls : List DF
  changes : Nat
  down : Bool
def zBytes (n : Nat) : List Value := List.replicate n (.int .u8 0)
def eDB : Elem DB where
  e := 142
  t := 133
  sz := 1024
  bytes := 1024
  zero := .agg (zBytes 1024).toArray
  code := fun x => x.now.v ++ x.sure.v
  pos := by decide
  few := by decide
  len := fun x => by rw [List.length_append, x.now.v_length, x.sure.v_length]
  one := by
    intro x u hu
    rcases List.mem_append.1 hu with h | h
    · exact x.now.v_one u h
    · exact x.sure.v_one u h
  zsz := (List.size_toArray ..).trans List.length_replicate
  info := by kernel_rfl
  under := Tryz.underlying133
def eDW : Elem DW where
  e := 139
  t := 134
  sz := 513
  bytes := 520
  zero := .agg (Value.int .i64 0 :: zBytes 512).toArray
  code := fun x => .int .i64 x.at_ :: x.b.v
  pos := by decide
  few := by decide
  len := fun x => by rw [List.length_cons, x.b.v_length]
  one := by
    intro x u hu
    rcases List.mem_cons.1 hu with h | h
    · subst h; rfl
    · exact x.b.v_one u h
  zsz := (List.size_toArray ..).trans (congrArg (· + 1) List.length_replicate)
  info := by kernel_rfl
  under := Tryz.underlying134
def eDF : Elem DF where
  e := 47
  t := 23
  sz := 3
  bytes := 24
  zero := .agg #[.int .i64 0, .int .u64 0, .int .i64 0]
  code := fun x => [.int .i64 x.at_, .int .u64 (x.keep : Nat), .int .i64 x.torn]
  pos := by decide
  few := by decide
  len := fun _ => rfl
  one := by
    intro x u hu
    simp at hu
    rcases hu with rfl | rfl | rfl <;> rfl
  zsz := rfl
  info := by kernel_rfl
  under := Tryz.underlying23
theorem EOwn.keep2 {α : Type} {E : Elem α} {w w' : World} {B c : Nat} {A : Option Addr} {L : List α} (h : EOwn E w B A c L) (_hs : w.heap.size ≤ w'.heap.size) (hk : ∀ a, A = some a → a.block < w.heap.size → w'.heap[a.block]? = w.heap[a.block]?) : EOwn E w' B A c L :=
  h.keep fun a ha => hk a ha (h.block a ha).2
structure KB where
  gd : Nat
  gb : Nat
def KB.own (k : KB) (i : Nat) : Prop := i = k.gd ∨ i = k.gb
structure DiskAt (w : World) (B : Nat) (k : KB) (d : DS) : Prop where
  ex : ∃ (cb np cp nf cf : Nat) (Ap Af : Option Addr), np = d.pending.length ∧ nf = d.falls.length ∧ d.pending.length ≤ cp ∧ cp ≤ maxLen ∧ (Ap = none → cp = 0) ∧
    Blk w k.gd 136 [.slice (some ⟨k.gb, 0, none⟩) d.blocks.length cb, .slice Ap np cp, .slice Af nf cf, .int .i64 (d.changes : Nat), .bool d.down] ∧
    EOwn eDB w B (some ⟨k.gb, 0, none⟩) cb d.blocks ∧ EOwn eDW w B Ap cp d.pending ∧ EOwn eDF w B Af cf d.falls ∧ (∀ a, Ap = some a → ¬ k.own a.block) ∧ (∀ a, Af = some a → ¬ k.own a.block)
  lo : B ≤ k.gd
theorem DiskAt.below {w w' : World} {B : Nat} {k : KB} {d : DS} (h : DiskAt w B k d) (hb : Below w.heap.size w w') : DiskAt w' B k d := by
  obtain ⟨⟨cb, np, cp, nf, cf, Ap, Af, h1, h2, h3, h4, h5, h6, h7, h8, h9, h10, h11⟩, lo⟩ := h
  exact ⟨⟨cb, np, cp, nf, cf, Ap, Af, h1, h2, h3, h4, h5, h6.below hb, h7.below hb, h8.below hb, h9.below hb, h10, h11⟩, lo⟩
theorem DiskAt.open_ {w : World} {B : Nat} {k : KB} {d : DS} (h : DiskAt w B k d) : ∃ (cb cp cf : Nat) (Ap Af : Option Addr),
    (w.cell? ⟨k.gd, 0, none⟩ = some (.slice (some ⟨k.gb, 0, none⟩) d.blocks.length cb) ∧ w.cell? ⟨k.gd, 1, none⟩ = some (.slice Ap d.pending.length cp) ∧ w.cell? ⟨k.gd, 2, none⟩ = some (.slice Af d.falls.length cf) ∧
      w.cell? ⟨k.gd, 3, none⟩ = some (.int .i64 (d.changes : Nat)) ∧ w.cell? ⟨k.gd, 4, none⟩ = some (.bool d.down) ∧
      w.frozen? ⟨k.gd, 0, none⟩ = false ∧ w.frozen? ⟨k.gd, 1, none⟩ = false ∧ w.frozen? ⟨k.gd, 2, none⟩ = false ∧ w.frozen? ⟨k.gd, 3, none⟩ = false ∧ w.frozen? ⟨k.gd, 4, none⟩ = false ∧ k.gd < w.heap.size) := by
  obtain ⟨⟨cb, np, cp, nf, cf, Ap, Af, rfl, rfl, h3, h4, h5, h6, _⟩, lo⟩ := h
  exact ⟨cb, cp, cf, Ap, Af, h6.c5⟩
set_option maxHeartbeats 400000 in
theorem down_any (w : World) (B : Nat) (k : KB) (d : DS) (h : DiskAt w B k d) : Calls Tryz.prog 64 #[.pointer (some ⟨k.gd, 0, none⟩)] w fun e w' => e = .returned (.bool d.down) ∧ w = w' := by
  obtain ⟨cb, cp, cf, Ap, Af, hc⟩ := h.open_
  clear h
  go_enter Tryz.func64, Tryz.ntmps64
  go_wp2_with fail
  go_ret
  exact ⟨rfl, rfl⟩
set_option maxHeartbeats 400000 in
theorem blocks_any (w : World) (B : Nat) (k : KB) (d : DS) (h : DiskAt w B k d) : Calls Tryz.prog 66 #[.pointer (some ⟨k.gd, 0, none⟩)] w fun e w' => e = .returned (.int .i64 (d.blocks.length : Nat)) ∧ w = w' := by
  obtain ⟨cb, cp, cf, Ap, Af, hc⟩ := h.open_
  clear h
  go_enter Tryz.func66, Tryz.ntmps66
  go_wp2_with fail
  go_ret
  exact ⟨rfl, rfl⟩
def DS.why (d : DS) (i : Int) : Int := if d.down then 6 else if i < 0 ∨ (d.blocks.length : Int) ≤ i then 2 else 0
set_option maxHeartbeats 1000000 in
theorem has_any (w : World) (B : Nat) (k : KB) (d : DS) (h : DiskAt w B k d) (i : Int) : Calls Tryz.prog 114 #[.pointer (some ⟨k.gd, 0, none⟩), .int .i64 i] w fun e w' => e = .returned (.int .i64 (d.why i)) ∧ w = w' := by
  have HD := Lib.hid (down_any w B k d h)
  obtain ⟨cb, cp, cf, Ap, Af, hc⟩ := h.open_
  clear h
  by_cases hd : d.down = true
  · have HE : Hid (d.why i = 6) := by show _ = _; unfold DS.why; rw [if_pos hd]
    rw [hd] at HD
    clear hd
    go_enter Tryz.func114, Tryz.ntmps114
    go_wp2_with fail
    refine HD.out.mono ?_
    rintro e w1 ⟨rfl, rfl⟩
    go_wp2_with fail
    go_ret
    rw [HE.out]
    exact ⟨rfl, rfl⟩
  · have hdf : d.down = false := by simpa using hd
    rw [hdf] at HD
    by_cases hi : i < 0 ∨ (d.blocks.length : Int) ≤ i
    · have HE : Hid (d.why i = 2) := by show _ = _; unfold DS.why; rw [if_neg hd, if_pos hi]
      clear hd hdf
      rcases hi with hi | hi
      · go_enter Tryz.func114, Tryz.ntmps114
        go_wp2_with fail
        refine HD.out.mono ?_
        rintro e w1 ⟨rfl, rfl⟩
        go_wp2_with fail
        go_ret
        rw [HE.out]
        exact ⟨rfl, rfl⟩
      · have h0 : ¬ i < 0 := by omega
        go_enter Tryz.func114, Tryz.ntmps114
        go_wp2_with fail
        refine HD.out.mono ?_
        rintro e w1 ⟨rfl, rfl⟩
        go_wp2_with fail
        go_ret
        rw [HE.out]
        exact ⟨rfl, rfl⟩
    · have HE : Hid (d.why i = 0) := by show _ = _; unfold DS.why; rw [if_neg hd, if_neg hi]
      have h0 : ¬ i < 0 := by omega
      have h1 : ¬ (d.blocks.length : Int) ≤ i := by omega
      clear hd hdf hi
      go_enter Tryz.func114, Tryz.ntmps114
      go_wp2_with fail
      refine HD.out.mono ?_
      rintro e w1 ⟨rfl, rfl⟩
      go_wp2_with fail
      go_ret
      rw [HE.out]
      exact ⟨rfl, rfl⟩
end Go.Proofs.YtcfoihihinijlaaGreat
end

section
namespace Go.Proofs.YtcfoihihinijlaaGreat
set_option linter.unusedSimpArgs false
set_option linter.unusedVariables false
open Go.RowKit
set_option maxHeartbeats 400000 in
theorem clone_any (w : World) (A : Option Addr) (c : Nat) (l : List UInt8) (hr : BRow w A l) (hl : l.length ≤ 1000000) :
    Calls Tryz.prog 87 #[.slice A l.length c] w (RetB w l) := by
  cases A with
  | none =>
    have hl0 : l = [] := by
      cases l with
      | nil => rfl
      | cons x l => obtain ⟨b, o, h, _⟩ := hr (by simp); cases h
    subst hl0
    have hq := Lib.run_eql_slice_nil (P := Tryz.prog) w 56 5 none 0 c 0 0 Tryz.underlying56
    go_enter Tryz.func87, Tryz.ntmps87
    go_wp2_with fail
    go_ret
    exact ⟨none, 0, rfl, BOwn.nil _ _, Below.refl _ _⟩
  | some a =>
    have hq := Lib.run_eql_slice_nil (P := Tryz.prog) w 56 5 (some a) l.length c 0 0 Tryz.underlying56
    go_enter Tryz.func87, Tryz.ntmps87
    have hoe : BOwn (w.alloc (.cells #[] 5)) w.heap.size (some ⟨w.heap.size, 0, none⟩) 0 [] := BOwn.new w [] (by simp) (Nat.le_refl _)
    go_wp2_with (at_builtin; refine wpList_append_bytes rfl (.tmp 5) (.tmp 6) rfl _ rfl hoe rfl _ rfl (hr.alloc _) rfl (by simp; omega) (by simp) ?_; intro A3 c3 w3 ho3 hb3 _ _)
    go_ret
    rw [List.nil_append] at ho3
    exact ⟨A3, c3, by simp, ho3, ((Below.refl _ _).alloc (Nat.le_refl _) _).trans hb3⟩
end Go.Proofs.YtcfoihihinijlaaGreat
end

section
namespace Go.Proofs.YtcfoihihinijlaaGreat
set_option linter.unusedSimpArgs false
set_option linter.unusedVariables false
open Go.RowKit
section
variable {w w' : World} {B : Nat} {k : KB} {d : DS}
theorem DiskAt.row_now (h : DiskAt w B k d) {i : Nat} (hi : i < d.blocks.length) : BRow w (some ⟨k.gb, i * 1024, none⟩) d.blocks[i].now.l := by
  obtain ⟨⟨cb, np, cp, nf, cf, Ap, Af, _, _, _, _, _, _, h7, _⟩, lo⟩ := h
  intro hl
  refine ⟨k.gb, i * 1024, rfl, (h7.block _ rfl).2, fun j hj => ?_⟩
  have := h7.cell (j := i) (k := j) hi (v := (d.blocks[i].now.l.map bv)[j]) (by
    show (d.blocks[i].now.v ++ d.blocks[i].sure.v)[j]? = _
    rw [List.getElem?_append_left (by simpa [B512.v] using hj)]
    exact List.getElem?_eq_getElem hj)
  exact this
end
set_option maxRecDepth 20000 in
set_option maxHeartbeats 1000000 in
theorem read_bad (w : World) (B : Nat) (k : KB) (d : DS) (h : DiskAt w B k d) (i : Int) (hw : d.why i ≠ 0) :
    Calls Tryz.prog 68 #[.pointer (some ⟨k.gd, 0, none⟩), .int .i64 i] w fun e w' => e = .returned (.tuple #[.slice none 0 0, .int .i64 (d.why i)]) ∧ w = w' := by
  have HH := Lib.hid (has_any w B k d h i)
  have hb : (d.why i != 0) = true := by simpa using hw
  generalize d.why i = e at HH hb hw ⊢
  clear h hw
  go_enter Tryz.func68, Tryz.ntmps68
  go_wp2_with fail
  refine HH.out.mono ?_
  rintro e1 w1 ⟨rfl, rfl⟩
  go_wp2_with fail
  go_ret2
  exact ⟨rfl, rfl⟩
set_option maxRecDepth 20000 in
set_option maxHeartbeats 1000000 in
theorem read_ok (w : World) (B : Nat) (k : KB) (d : DS) (h : DiskAt w B k d) (i : Nat) (hi : i < d.blocks.length) (hd : d.down = false) :
    Calls Tryz.prog 68 #[.pointer (some ⟨k.gd, 0, none⟩), .int .i64 i] w fun e w' => ∃ A c, e = .returned (.tuple #[.slice A 512 c, .int .i64 0]) ∧ BOwn w' w.heap.size A c d.blocks[i].now.l ∧ Below w.heap.size w w' := by
  have hwhy : d.why i = 0 := by unfold DS.why; rw [if_neg (by simp [hd]), if_neg (by omega)]
  have HH := Lib.hid (has_any w B k d h i)
  rw [hwhy] at HH
  have HC := Lib.hid (clone_any w (some ⟨k.gb, i * 1024, none⟩) 512 d.blocks[i].now.l (h.row_now hi) (by rw [d.blocks[i].now.h]; decide))
  rw [d.blocks[i].now.h] at HC
  obtain ⟨cb, cp, cf, Ap, Af, hc⟩ := h.open_
  have hii : (i : Int) < (d.blocks.length : Int) := by omega
  clear h hwhy hd
  go_enter Tryz.func68, Tryz.ntmps68
  go_wp2_with fail
  refine HH.out.mono ?_
  rintro e1 w1 ⟨rfl, rfl⟩
  go_wp2_with fail
  refine HC.out.mono ?_
  rintro e w1 ⟨A1, c1, rfl, ho1, hb1⟩
  have HF := Lib.hid (And.intro ho1 hb1)
  clear ho1 hb1
  rw [d.blocks[i].now.h]
  go_wp2_with fail
  go_ret2
  exact ⟨A1, c1, rfl, HF.out⟩
theorem DiskAt.head {w : World} {B : Nat} {k : KB} {d : DS} (h : DiskAt w B k d) : k.gd ≠ k.gb ∧ k.gd < w.heap.size ∧ k.gb < w.heap.size ∧ B ≤ k.gb := by
  obtain ⟨⟨cb, np, cp, nf, cf, Ap, Af, _, _, _, _, _, h6, h7, _⟩, lo⟩ := h
  refine ⟨fun e => ?_, h6.lt, (h7.block _ rfl).2, (h7.block _ rfl).1⟩
  rcases h7.form with ⟨h, _⟩ | ⟨g, hg, _, _, _, _, cur, hh⟩
  · cases h
  · obtain rfl : k.gb = g := (Addr.mk.inj (Option.some.inj hg)).1
    rw [← e] at hh
    rw [h6] at hh
    simp at hh
    exact absurd hh.2 (by decide)
set_option maxRecDepth 20000 in
set_option maxHeartbeats 1000000 in
theorem up_any (w : World) (B : Nat) (k : KB) (d : DS) (h : DiskAt w B k d) :
    Calls Tryz.prog 17 #[.pointer (some ⟨k.gd, 0, none⟩)] w fun e w' => e = .returned (.bool d.down) ∧ DiskAt w' B k { d with down := false } ∧ w.grownBy w' (some k.gd) := by
  obtain ⟨hne, hlt, hlt2, hB⟩ := h.head
  cases hd : d.down with
  | false =>
    have HH := Lib.hid h
    obtain ⟨cb, cp, cf, Ap, Af, hc⟩ := h.open_
    rw [hd] at hc
    have HD := Lib.hid hd
    clear h hd
    go_enter Tryz.func17, Tryz.ntmps17
    go_wp2_with fail
    go_ret
    refine ⟨rfl, ?_, World.grownBy.refl _ _⟩
    have e : { d with down := false } = d := by cases d; simp only at HD; rw [HD.out]
    rw [e]; exact HH.out
  | true =>
    obtain ⟨⟨cb, np, cp, nf, cf, Ap, Af, rfl, rfl, h3, h4, h5, h6, h7, h8, h9, h10, h11⟩, lo⟩ := h
    rw [hd] at h6
    have hc := h6.c5
    have HS := Lib.hid (And.intro h6 (And.intro h7 (And.intro h8 h9)))
    clear hd h6 h7 h8 h9
    go_enter Tryz.func17, Tryz.ntmps17
    go_wp2_with fail
    go_ret
    obtain ⟨h6, h7, h8, h9⟩ := HS.out
    refine ⟨rfl, ⟨⟨cb, _, cp, _, cf, Ap, Af, rfl, rfl, h3, h4, h5, h6.set 4 (.bool false), ?_, ?_, ?_, h10, h11⟩, lo⟩, grown_store w k.gd 4 _⟩
    · exact h7.set _ (fun a ha => by obtain rfl := Option.some.inj ha; exact fun e => hne e.symm) _
    · exact h8.keep2 (by simp) (fun a ha _ => heap_setCell_other w ⟨k.gd, 4, none⟩ _ _ (fun e => h10 a ha (.inl e)))
    · exact h9.keep2 (by simp) (fun a ha _ => heap_setCell_other w ⟨k.gd, 4, none⟩ _ _ (fun e => h11 a ha (.inl e)))
end Go.Proofs.YtcfoihihinijlaaGreat
end

section
namespace Go.Proofs.YtcfoihihinijlaaGreat
set_option linter.unusedSimpArgs false
set_option linter.unusedVariables false
open Go.RowKit
def RetE {α : Type} (E : Elem α) (W : World) (L : List α) (e : Ending) (w' : World) : Prop :=
  ∃ A c, e = .returned (.slice A L.length c) ∧ EOwn E w' W.heap.size A c L ∧ Below W.heap.size W w'
theorem ERow.none_nil {α : Type} {E : Elem α} {w : World} {L : List α} (h : ERow E w none L) : L = [] := by
  cases L with
  | nil => rfl
  | cons x L => obtain ⟨b, o, h, _⟩ := h (by simp); cases h
set_option maxRecDepth 20000 in
set_option maxHeartbeats 400000 in
theorem clonef_any (w : World) (A : Option Addr) (c : Nat) (L : List DF) (hr : ERow eDF w A L) (hl : L.length ≤ 1000000) : Calls Tryz.prog 65 #[.slice A L.length c] w (RetE eDF w L) := by
  cases A with
  | none =>
    have hl0 := hr.none_nil
    subst hl0
    have hq := Lib.run_eql_slice_nil (P := Tryz.prog) w 23 47 none 0 c 0 0 Tryz.underlying23
    go_enter Tryz.func65, Tryz.ntmps65
    go_wp2_with fail
    go_ret
    exact ⟨none, 0, rfl, EOwn.nil _ _, Below.refl _ _⟩
  | some a =>
    have hq := Lib.run_eql_slice_nil (P := Tryz.prog) w 23 47 (some a) L.length c 0 0 Tryz.underlying23
    have HR := Lib.hid (hr.below (fresh1 (w := w) (a := []) (t := 47) rfl).2.2)
    clear hr
    go_enter Tryz.func65, Tryz.ntmps65
    go_wp2_with (at_builtin; refine wpList_append_elems eDF rfl (.tmp 5) (.tmp 6) rfl 0 rfl ((fresh1 rfl).1.own eDF (B := w.heap.size) [] rfl (by simp) (Nat.le_refl _)) rfl _ rfl HR.out rfl (by simp; omega) (by simp) ?_; intro A3 c3 w3 ho3 hb3 _ _)
    go_ret
    rw [List.nil_append] at ho3
    exact ⟨A3, c3, by simp, ho3, ((Below.refl _ _).alloc (Nat.le_refl _) _).trans hb3⟩
set_option maxRecDepth 20000 in
set_option maxHeartbeats 1000000 in
theorem plan_any (w : World) (B : Nat) (k : KB) (d : DS) (h : DiskAt w B k d) (A : Option Addr) (c : Nat) (L : List DF) (hr : ERow eDF w A L) (hl : L.length ≤ 1000000) :
    Calls Tryz.prog 19 #[.pointer (some ⟨k.gd, 0, none⟩), .slice A L.length c] w fun e w' => e = .returned (.tuple #[]) ∧ DiskAt w' B k { d with falls := L } ∧ w.grownBy w' (some k.gd) := by
  have HC := Lib.hid (clonef_any w A c L hr hl)
  have HH := Lib.hid h
  obtain ⟨hne, hlt, hlt2, hB⟩ := h.head
  clear h hr
  go_enter Tryz.func19, Tryz.ntmps19
  go_wp2_with fail
  refine HC.out.mono ?_
  intro e w1 hI
  obtain ⟨A1, c1, rfl, ho1, hb1⟩ := hI
  obtain ⟨⟨cb, np, cp, nf, cf, Ap, Af, rfl, rfl, h3, h4, h5, h6, h7, h8, h9, h10, h11⟩, lo⟩ := HH.out.below hb1
  have hc := h6.c5
  have HS := Lib.hid (And.intro h6 (And.intro h7 (And.intro h8 (And.intro ho1 hb1))))
  clear h6 h7 h8 h9 ho1 hb1
  go_wp2_with fail
  obtain ⟨h6, h7, h8, ho1, hb1⟩ := HS.out
  go_end0
  refine ⟨rfl, ⟨⟨cb, _, cp, _, c1, Ap, A1, rfl, rfl, h3, h4, h5, h6.set 2 (.slice A1 L.length c1), ?_, ?_, ?_, h10, ?_⟩, lo⟩, (grown_of_below hb1 _).set_ ⟨k.gd, 2, none⟩ rfl _⟩
  · exact h7.set _ (fun a ha => by obtain rfl := Option.some.inj ha; exact fun e => hne e.symm) _
  · exact h8.keep2 (by simp) (fun a ha _ => heap_setCell_other w1 ⟨k.gd, 2, none⟩ _ _ (fun e => h10 a ha (.inl e)))
  · exact (ho1.mono (show B ≤ w.heap.size by omega)).keep2 (by simp) (fun a ha _ => heap_setCell_other w1 ⟨k.gd, 2, none⟩ _ _ (fun e => by have h := (ho1.block a ha).1; rw [e] at h; simp only at h; omega))
  · intro a ha ho
    have h := (ho1.block a ha).1
    rcases ho with e | e <;> omega
end Go.Proofs.YtcfoihihinijlaaGreat
end

section
namespace Go.Proofs.YtcfoihihinijlaaGreat
set_option linter.unusedSimpArgs false
set_option linter.unusedVariables false
open Go.RowKit
def tornN (t : Int) : Nat := (max 0 (min t 512)).toNat
theorem tornN_le (t : Int) : tornN t ≤ 512 := by unfold tornN; omega
def B512.over (b s : B512) (n : Nat) : B512 := ⟨b.l.take n ++ s.l.drop n, by rw [List.length_append, List.length_take, List.length_drop, b.h, s.h]; omega⟩
def keepB (f : DF) (i : Nat) : Bool := decide (i < 64) && (f.keep.testBit i)
def DB.hit (x : DB) (f : DF) (m : Int) (i : Nat) (w : DW) : DB :=
  if keepB f i = true then { x with sure := w.b } else if (i : Int) = m then { x with sure := w.b.over x.sure (tornN f.torn) } else x
def hitAll (f : DF) (m : Int) : List DW → Nat → List DB → List DB
  | [], _, L => L
  | w :: ws, i, L => hitAll f m ws (i + 1) (L.set w.at_.toNat ((L.getD w.at_.toNat default).hit f m i w))
def DS.crash (d : DS) (f : DF) : DS :=
  if d.down = true then d else { d with blocks := (hitAll f ((d.pending.length : Int) - 1) d.pending 0 d.blocks).map (fun x => ⟨x.sure, x.sure⟩), pending := [], down := true }
theorem hitAll_length (f : DF) (m : Int) : ∀ (ws : List DW) (i : Nat) (L : List DB), (hitAll f m ws i L).length = L.length
  | [], _, _ => rfl
  | w :: ws, i, L => by rw [hitAll, hitAll_length f m ws]; simp
theorem crash_length (d : DS) (f : DF) : (d.crash f).blocks.length = d.blocks.length := by
  unfold DS.crash
  split
  · rfl
  · simp [hitAll_length]
theorem hitAll_take (f : DF) (m : Int) (ws : List DW) (i : Nat) (L : List DB) (hi : i < ws.length) : hitAll f m (ws.take (i + 1)) 0 L =
    (hitAll f m (ws.take i) 0 L).set ws[i].at_.toNat (((hitAll f m (ws.take i) 0 L).getD ws[i].at_.toNat default).hit f m i ws[i]) := by
  have key : ∀ (ws : List DW) (w : DW) (k : Nat) (L : List DB), hitAll f m (ws ++ [w]) k L = (hitAll f m ws k L).set w.at_.toNat (((hitAll f m ws k L).getD w.at_.toNat default).hit f m (k + ws.length) w) := by
    intro ws
    induction ws with
    | nil => intro w k L; rfl
    | cons x ws ih => intro w k L; rw [List.cons_append, hitAll, ih, hitAll, List.length_cons, show k + 1 + ws.length = k + (ws.length + 1) from by omega]
  rw [List.take_succ_eq_append_getElem hi, key]
  simp only [Nat.zero_add, List.length_take, Nat.min_eq_left (Nat.le_of_lt hi)]
theorem code_sure (x : DB) (b : B512) : eDB.code { x with sure := b } = setFrom (eDB.code x) 512 b.v := by
  have := setFrom_part b.v x.now.v x.sure.v [] (by rw [b.v_length, x.sure.v_length])
  rw [x.now.v_length, List.append_nil, List.append_nil] at this
  exact this.symm
theorem code_now (x : DB) (b : B512) : eDB.code { x with now := b } = setFrom (eDB.code x) 0 b.v := by
  have := setFrom_part b.v [] x.now.v x.sure.v (by rw [b.v_length, x.now.v_length])
  exact this.symm
theorem code_torn (x : DB) (b : B512) (n : Nat) (hn : n ≤ 512) : eDB.code { x with sure := b.over x.sure n } = setFrom (eDB.code x) 512 (b.v.take n) := by
  have hx : x.sure.v = x.sure.v.take n ++ x.sure.v.drop n := (List.take_append_drop n _).symm
  have := setFrom_part (b.v.take n) x.now.v (x.sure.v.take n) (x.sure.v.drop n) (by rw [List.length_take, List.length_take, b.v_length, x.sure.v_length])
  rw [x.now.v_length, List.append_assoc, ← hx] at this
  rw [show eDB.code x = x.now.v ++ x.sure.v from rfl, this]
  show x.now.v ++ (b.over x.sure n).v = _
  rw [List.append_assoc]
  congr 1
  simp [B512.v, B512.over, List.map_take, List.map_drop]
def settle (L : List DB) (i : Nat) : List DB := (L.take i).map (fun x => ⟨x.sure, x.sure⟩) ++ L.drop i
theorem settle_length (L : List DB) (i : Nat) : (settle L i).length = L.length := by
  unfold settle
  rw [List.length_append, List.length_map, ← List.length_append, List.take_append_drop]
theorem settle_get (L : List DB) (i : Nat) (hi : i < L.length) : (settle L i)[i]? = some L[i] := by
  unfold settle
  rw [List.getElem?_append_right (by simp; omega)]
  simp [Nat.min_eq_left (Nat.le_of_lt hi), hi]
theorem settle_succ (L : List DB) (i : Nat) (hi : i < L.length) : settle L (i + 1) = (settle L i).set i { L[i] with now := L[i].sure } := by
  unfold settle
  rw [List.take_succ_eq_append_getElem hi, List.map_append, List.append_assoc, List.set_append_right _ _ (by simp; omega)]
  congr 1
  rw [List.length_map, List.length_take, Nat.min_eq_left (Nat.le_of_lt hi), Nat.sub_self, List.drop_eq_getElem_cons hi]
  rfl
theorem keep_bit (n i : Nat) (h : n < 18446744073709551616) : (bits BinOp.and IntKind.u64 ((n : Int) / 2 ^ i) 1 == 1) = n.testBit i := by
  have hd : n / 2 ^ i ≤ n := Nat.div_le_self _ _
  have e : ((n : Int) / 2 ^ i) = ((n / 2 ^ i : Nat) : Int) := by simp
  have h1 := u64_and_nat (n / 2 ^ i) 1 (by omega) (by decide)
  rw [Nat.and_one_is_mod] at h1
  rw [e, show (1 : Int) = ((1 : Nat) : Int) from rfl, h1, Nat.testBit_eq_decide_div_mod_eq]
  by_cases hb : n / 2 ^ i % 2 = 1
  · rw [hb]; simp
  · have h0 : n / 2 ^ i % 2 = 0 := by omega
    rw [h0]; simp
end Go.Proofs.YtcfoihihinijlaaGreat
end

section
namespace Go.Proofs.YtcfoihihinijlaaGreat
set_option linter.unusedSimpArgs false
set_option linter.unusedVariables false
open Go.RowKit
structure DGood (d : DS) : Prop where
  b0 : 0 < d.blocks.length
  b1 : d.blocks.length ≤ 4096
  p1 : d.pending.length ≤ 1000000
  f1 : d.falls.length ≤ 1000000
  at_ : ∀ w ∈ d.pending, 0 ≤ w.at_ ∧ w.at_ < d.blocks.length
  fk : ∀ f ∈ d.falls, f.keep < 18446744073709551616 ∧ (-9223372036854775808 ≤ f.torn ∧ f.torn ≤ 9223372036854775807)
theorem zeroDW (w : World) : (zeroValue 139).run Tryz.prog w = .ok eDW.zero w := (zero_of_info (P := Tryz.prog) (t := 139) (v := eDW.zero) (n := 513) (by kernel_rfl)).1 w
theorem infoDW : (Tryz.prog.info? 139).map (·.size) = some 513 := by kernel_rfl
theorem infoArr : (Tryz.prog.info? 137).map (·.size) = some 512 := by kernel_rfl
theorem crash_down (w : World) (B : Nat) (k : KB) (d : DS) (h : DiskAt w B k d) (f : DF) (hd : d.down = true) :
    Calls Tryz.prog 16 #[.pointer (some ⟨k.gd, 0, none⟩), .agg #[.int .i64 f.at_, .int .u64 (f.keep : Nat), .int .i64 f.torn]] w fun e w' => e = .returned (.tuple #[]) ∧ Below w.heap.size w w' := by
  have HD := Lib.hid (fun w' hb => down_any w' B k d (h.below hb))
  rw [hd] at HD
  clear h hd
  go_enter Tryz.func16, Tryz.ntmps16
  go_wp2_with fail
  refine (HD.out _ ((Below.refl _ _).alloc (Nat.le_refl _) _)).mono ?_
  rintro e w1 ⟨rfl, rfl⟩
  go_wp2_with fail
  exact bodyPost_ret (v := .tuple #[]) (results_none rfl _ _ _) rfl ⟨rfl, (Below.refl _ _).alloc (Nat.le_refl _) _⟩
def Crashing (w : World) (B : Nat) (k : KB) (f : DF) (cb : Nat) (L : List DB) (wr : World) : Prop :=
  w.grownBy wr (some k.gb) ∧ EOwn eDB wr B (some ⟨k.gb, 0, none⟩) cb L ∧ Blk wr w.heap.size 47 [.int .i64 f.at_, .int .u64 (f.keep : Nat), .int .i64 f.torn]
set_option maxRecDepth 20000 in
set_option maxHeartbeats 2000000 in
theorem crash_up (w : World) (B : Nat) (k : KB) (d : DS) (h : DiskAt w B k d) (hG : DGood d) (f : DF) (hfk : f.keep < 18446744073709551616) (hd : d.down = false) :
    Calls Tryz.prog 16 #[.pointer (some ⟨k.gd, 0, none⟩), .agg #[.int .i64 f.at_, .int .u64 (f.keep : Nat), .int .i64 f.torn]] w fun e w' => e = .returned (.tuple #[]) ∧ DiskAt w' B k (d.crash f) ∧ Keeps w w' k.own := by
  have HD := Lib.hid (fun w' hb => down_any w' B k d (h.below hb))
  rw [hd] at HD
  have hp1 := hG.p1
  have hb1 := hG.b1
  obtain ⟨hne, hlt, hlt2, hBk⟩ := h.head
  obtain ⟨⟨cb, np, cp, nf, cf, Ap, Af, rfl, rfl, h3, h4, h5, h6, h7, h8, h9, h10, h11⟩, lo⟩ := h
  rw [hd] at h6
  have HDN := Lib.hid hd
  have HAP := Lib.hid (And.intro h10 h11)
  have HW0 := Lib.hid (And.intro h6 (And.intro h8 h9))
  clear hd h10 h11
  go_enter Tryz.func16, Tryz.ntmps16
  go_upto_region 1 with (fail)
  generalize hW0 : World.alloc w (.cells _ _) = W
  obtain ⟨ba0, hz0, hB0⟩ := fresh1 hW0
  clear hW0
  have HS := Lib.hid (And.intro (h6.below hB0) (And.intro (h7.below hB0) (And.intro (h8.below hB0) (And.intro (h9.below hB0) (And.intro ba0 hB0)))))
  have hcc := (h6.below hB0).c5
  clear h6 h7 h8 h9 ba0
  go_wp2_with fail
  refine (HD.out _ hB0).mono ?_
  rintro e w1 ⟨rfl, rfl⟩
  clear hB0
  go_wp2_with fail
  clear hcc
  obtain ⟨s1, s2, s3, s4, s5, s6⟩ := HS.out
  have HI : Hid (Crashing w B k f cb d.blocks W) := ⟨grown_of_below s6 _, s2, s5⟩
  clear s1 s2 s3 s4 s5 s6
  go_loopw [22] (fun iv wr => ∃ i : Nat, i ≤ d.pending.length ∧ iv = .int .i64 i ∧ Hid (Crashing w B k f cb (hitAll f ((d.pending.length : Int) - 1) (d.pending.take i) 0 d.blocks) wr)) (fun iv _ => d.pending.length - (intOf iv).toNat)
  case atStart => exact ⟨0, by omega, rfl, HI.out⟩
  case round =>
    obtain ⟨i, hi, rfl, HJ⟩ := hrel
    clear HI
    obtain ⟨c1, c2, c3⟩ := HJ.out
    have hcc := (HW0.out.1.grown c1 (by simp; exact hne)).c5
    by_cases hlt : i < d.pending.length
    · have hii : (i : Int) < (d.pending.length : Int) := by omega
      obtain ⟨bp, op, rfl, hbp, hrg⟩ := (HW0.out.2.1.keep2 c1.size (fun a ha _ => c1.block _ (by assumption) (by simp; exact fun e => HAP.out.1 a ha (.inr e)))).row.range hlt
      have hat := hG.at_ d.pending[i] (List.getElem_mem hlt)
      have HTK := Lib.hid (hitAll_take f ((d.pending.length : Int) - 1) d.pending i d.blocks hlt)
      have hLlen : (hitAll f ((d.pending.length : Int) - 1) (d.pending.take i) 0 d.blocks).length = d.blocks.length := hitAll_length ..
      generalize d.pending[i] = p at hrg hat HTK
      obtain ⟨pat, pb⟩ := p
      simp only at hat
      obtain ⟨m, rfl⟩ : ∃ m : Nat, pat = (m : Int) := ⟨pat.toNat, by omega⟩
      have hr0 : wr.rangeAt bp (op + i * 513) (Value.int .i64 (m : Int) :: pb.v) := hrg
      have HC := Lib.hid (And.intro c1 (And.intro c2 c3))
      have HR := Lib.hid hr0
      clear hrg hr0 c1 c2 c3
      go_upto_region 6 with (first | (refine wpList_load_mid rfl 139 (.tmp 25) rfl bp (op + i * 513) rfl _ _ HR.out Tryz.underlying139 rfl (infoDW.trans (by rw [List.length_cons, pb.v_length])) ?_) | (refine wpList_alloc_z rfl 139 rfl (zeroDW _) ?_; intro W6 hW6; obtain ⟨ba6, hz6, hB6⟩ := fresh1 (a := Value.int .i64 0 :: zBytes 512) hW6; clear hW6) | (refine wpList_store_blk rfl rfl 139 (.tmp 6) (.tmp 26) rfl wr.heap.size rfl _ rfl ba6 (by simp [B512.v_length, zBytes]) (infoDW.trans (by simp [zBytes])) (eDW.one ⟨(m : Int), pb⟩) ?_; intro W7 hb7 hg7))
      have hc7 := And.intro (hb7.cell 0) (hb7.lt)
      simp only [List.getElem?_cons_zero] at hc7
      obtain ⟨c1, c2, c3⟩ := HC.out
      have g17 : wr.grownBy W7 (some wr.heap.size) := (grown_of_below hB6 _).trans' hg7
      have hz7 : wr.heap.size < W7.heap.size := hb7.lt
      have hgw : w.grownBy W7 (some k.gb) := grown_then c1 ⟨g17.os, g17.tape, g17.output, g17.size, fun i hi _ => g17.block i hi (by simp; omega)⟩
      have hlt3 : k.gb < wr.heap.size := Nat.lt_of_lt_of_le hlt2 c1.size
      have ho7 := c2.keep (fun a ha => by obtain rfl := Option.some.inj ha; exact g17.block _ hlt3 (by simp; omega))
      have hbx7 := c3.grown g17 (by have := c3.lt; simp; omega)
      have hcc7 := And.intro (HW0.out.1.grown hgw (by simp; exact hne)).c5 (And.intro hc7 hbx7.c3)
      have HS7 := Lib.hid (And.intro hgw (And.intro ho7 (And.intro hbx7 hb7)))
      clear hcc hc7 c1 c2 c3 ba6 hB6 hg7 g17 hgw ho7 hbx7 hb7
      have hmi : (m : Int) < (d.blocks.length : Int) := hat.2
      apply wp_region_read (R := fun j x => match j with
        | 0 => x = .pointer (some ⟨k.gd, 0, none⟩)
        | 1 => x = .pointer (some ⟨k.gd, 0, none⟩)
        | 2 => x = .pointer (some ⟨k.gd, 0, none⟩)
        | 3 => x = .slice (some ⟨k.gb, 0, none⟩) d.blocks.length cb
        | 4 => x = .pointer (some ⟨wr.heap.size, 0, none⟩)
        | 5 => x = .int .i64 (m : Int)
        | 6 => x = .pointer (some ⟨k.gb, m * 1024, none⟩)
        | 7 => x = .pointer (some ⟨k.gb, m * 1024 + 512, none⟩)
        | 8 => x = .pointer (some ⟨k.gb, m * 1024 + 512, none⟩)
        | _ => True)
      case hG => (intro v; simp only [regFrame, List.zipIdx_cons, List.zipIdx_nil, List.foldl_cons, List.foldl_nil, Act.put, List.setIfInBounds_toArray, List.set_cons_zero, List.set_cons_succ, Nat.reduceAdd]; rfl)
      case hm => kernel_rfl
      case honce => rfl
      case hlow => kernel_rfl
      case hstep =>
        refine ⟨?_, ?_, ?_, ?_, ?_, ?_, ?_, ?_, ?_, trivial⟩ <;> (intro v hd; simp only [Deps, Region.binds, ↓reduceIte, and_true] at hd) <;> (try (first | exact opDoes_move _ rfl rfl ⟨rfl, rfl⟩ | exact opDoes_assign _ rfl rfl ⟨rfl, rfl⟩ | (refine opDoes_run rfl ?_ ⟨rfl, rfl⟩; go_simp; done) | exact opDoes_gmove _ (wanted_guard rfl rfl rfl (by simp only [hd]; rfl)) rfl ⟨rfl, rfl⟩ | (refine opDoes_grun (wanted_guard rfl rfl rfl (by simp only [hd]; rfl)) ?_ ⟨rfl, rfl⟩; go_simp; done) | exact opDoes_skipped rfl rfl rfl (by simp only [hd]; rfl) ⟨rfl, trivial⟩ | (refine opDoes_assign _ rfl rfl ⟨rfl, ?_⟩; go_simp; done)))
      case hend =>
        intro v h
        simp only [AllOps, Nat.zero_add, Nat.reduceAdd, and_true] at h
        rw [h.2.2.2.2.2.2.2.2]
        clear h
        have HS8 : Hid (w.grownBy W7.drew (some k.gb) ∧ EOwn eDB W7.drew B (some ⟨k.gb, 0, none⟩) cb (hitAll f ((d.pending.length : Int) - 1) (d.pending.take i) 0 d.blocks) ∧ Blk W7.drew w.heap.size 47 [.int .i64 f.at_, .int .u64 (f.keep : Nat), .int .i64 f.torn] ∧ Blk W7.drew wr.heap.size 139 (.int .i64 (m : Int) :: pb.v)) := ⟨⟨HS7.out.1.os, HS7.out.1.tape, HS7.out.1.output, HS7.out.1.size, HS7.out.1.block⟩, HS7.out.2⟩
        generalize W7.drew = W8 at HS8 ⊢
        have hcc8 := HS8.out.2.2.1.c3
        have hz8 : wr.heap.size < W8.heap.size := HS8.out.2.2.2.lt
        clear hcc7 HS7
        have hmL : m < (hitAll f ((d.pending.length : Int) - 1) (d.pending.take i) 0 d.blocks).length := by rw [hLlen]; omega
        have hgetD : (hitAll f ((d.pending.length : Int) - 1) (d.pending.take i) 0 d.blocks).getD m default = (hitAll f ((d.pending.length : Int) - 1) (d.pending.take i) 0 d.blocks)[m] := by simp [hmL]
        have HTK2 : Hid (hitAll f ((d.pending.length : Int) - 1) (d.pending.take (i + 1)) 0 d.blocks = (hitAll f ((d.pending.length : Int) - 1) (d.pending.take i) 0 d.blocks).set m ((hitAll f ((d.pending.length : Int) - 1) (d.pending.take i) 0 d.blocks)[m].hit f ((d.pending.length : Int) - 1) i ⟨(m : Int), pb⟩)) := by
          have := HTK.out
          simp only [Int.toNat_natCast] at this
          rw [hgetD] at this
          exact this
        clear hgetD HTK hLlen
        generalize hLi : hitAll f ((d.pending.length : Int) - 1) (d.pending.take i) 0 d.blocks = Li at HS8 hmL HTK2
        clear hLi
        by_cases hkb : keepB f i = true
        · have h64i : (i : Int) < 64 := by unfold keepB at hkb; simp at hkb; omega
          have hbit : (bits BinOp.and IntKind.u64 ((f.keep : Int) / 2 ^ i) 1 == 1) = true := by
            rw [keep_bit _ _ hfk]; unfold keepB at hkb; simp at hkb; exact hkb.2
          have HX : Hid (Li[m].hit f ((d.pending.length : Int) - 1) i ⟨(m : Int), pb⟩ = { Li[m] with sure := pb }) := by show _ = _; unfold DB.hit; rw [if_pos hkb]
          clear hkb
          go_wp2_with (first | (refine wpList_load_mid rfl 137 (.tmp 47) rfl wr.heap.size 1 rfl pb.v _ (HS8.out.2.2.2.range 1 pb.v (fun j hj => by rw [Nat.add_comm]; rfl)) Tryz.underlying137 rfl (infoArr.trans (by rw [pb.v_length])) ?_) | (refine wpList_store_part eDB rfl rfl 137 (.tmp 49) (.tmp 48) rfl k.gb m 512 (m * 1024 + 512) rfl rfl pb.v rfl HS8.out.2.1 hmL { Li[m] with sure := pb } (by rw [pb.v_length]; decide) (code_sure _ _) (infoArr.trans (by rw [pb.v_length])) pb.v_one ?_; intro W9 ho9 hg9; have HS9 : Hid (Crashing w B k f cb (Li.set m { Li[m] with sure := pb }) W9) := ⟨HS8.out.1.trans' hg9, ho9, HS8.out.2.2.1.grown hg9 (by simp; omega)⟩; clear ho9 hg9))
          go_roundw
          case rel => exact ⟨i + 1, by omega, by go_num, by rw [HTK2.out, HX.out]; exact HS9.out⟩
          case measure => simp [intOf]; omega
        · have HKB := Lib.hid hkb
          by_cases h64 : i < 64
          · have h64i : (i : Int) < 64 := by omega
            have hbit : (bits BinOp.and IntKind.u64 ((f.keep : Int) / 2 ^ i) 1 == 1) = false := by
              rw [keep_bit _ _ hfk]; unfold keepB at hkb; simpa [h64] using hkb
            clear hkb h64
            by_cases hil : (i : Int) = (d.pending.length : Int) - 1
            · have hilb : ((i : Int) == (d.pending.length : Int) - 1) = true := by simpa using hil
              have HX : Hid (Li[m].hit f ((d.pending.length : Int) - 1) i ⟨(m : Int), pb⟩ = { Li[m] with sure := pb.over Li[m].sure (tornN f.torn) }) := by show _ = _; unfold DB.hit; rw [if_neg HKB.out, if_pos hil]
              clear hil
              have hn5 := tornN_le f.torn
              obtain ⟨n5, hn5e⟩ : ∃ n5, tornN f.torn = n5 := ⟨_, rfl⟩
              obtain ⟨mn, hmin⟩ : ∃ mn : Int, (if 512 < f.torn then 512 else f.torn) = mn := ⟨_, rfl⟩
              have hmax : (if 0 < mn then mn else 0) = (n5 : Int) := by
                rw [← hn5e]; unfold tornN
                split at hmin <;> split <;> omega
              rw [hn5e] at hn5 HX
              clear hn5e
              have hn5i2 : (n5 : Int) ≤ 512 := by omega
              go_wp2_with fail
              apply wp_region_lastv (n := 9) (R := fun j x w' => match j with
                | 0 => x = .pointer (some ⟨k.gb, m * 1024 + 512, none⟩)
                | 1 => x = .pointer (some ⟨k.gb, m * 1024 + 512, none⟩)
                | 2 => x = .pointer (some ⟨w.heap.size, 2, none⟩)
                | 3 => x = .int .i64 f.torn
                | 4 => x = .int .i64 mn
                | 5 => x = .int .i64 (n5 : Int)
                | 6 => x = .slice (some ⟨k.gb, m * 1024 + 512, none⟩) n5 512
                | 7 => x = .pointer (some ⟨wr.heap.size, 1, none⟩)
                | 8 => x = .slice (some ⟨wr.heap.size, 1, none⟩) 512 512
                | _ => True) (W := fun w' => w' = W8.drew) (Gr := fun w1 w2 => w2 = w1)
              case hG => (intro v; simp only [regFrame, List.zipIdx_cons, List.zipIdx_nil, List.foldl_cons, List.foldl_nil, Act.put, List.setIfInBounds_toArray, List.set_cons_zero, List.set_cons_succ, Nat.reduceAdd]; rfl)
              case hm => kernel_rfl
              case honce => rfl
              case hlow => kernel_rfl
              case hall => kernel_rfl
              case hn => rfl
              case ho => rfl
              case hog => rfl
              case hR =>
                intro j x w' w'' hb h
                exact h
              case hW => exact fun w w' h hb => hb.trans h
              case h0 => rfl
              case hstep =>
                refine ⟨?_, ?_, ?_, ?_, ?_, ?_, ?_, ?_, ?_, trivial⟩ <;> (intro v w' hw' hd; subst hw'; simp only [Deps, Region.binds, ↓reduceIte, and_true] at hd) <;> (try (first | exact opDoes_move _ rfl rfl ⟨rfl, rfl⟩ | (refine opDoes_run rfl ?_ ⟨rfl, rfl⟩; go_simp; done)))
              case hend =>
                intro v w' hw' h
                subst hw'
                simp only [List.take, AllOps, Nat.zero_add, Nat.reduceAdd, and_true] at h
                obtain ⟨-, -, -, -, -, -, h6, -, h8⟩ := h
                have hcp := run_copy_cells (P := Tryz.prog) W8.drew 56 56 3 5 k.gb (m * 1024 + 512) n5 512 ⟨wr.heap.size, 1, none⟩ 512 512 (pb.v.take n5) Tryz.underlying56 (by kernel_rfl) (by rw [List.length_take, pb.v_length]; exact (Nat.min_comm ..)) (fun j u hu => by
                  rw [Addr.add_mid]
                  refine (HS8.out.2.2.2.range 1 pb.v (fun j hj => by rw [Nat.add_comm]; rfl)) j u ?_
                  rw [List.getElem?_take] at hu
                  split at hu
                  · exact hu
                  · cases hu) (fun j hj => (HS8.out.2.1.there hmL 512 512 (by decide) j (by rw [List.length_take] at hj; omega)).1) (fun j hj => (HS8.out.2.1.there hmL 512 512 (by decide) j (by rw [List.length_take] at hj; omega)).2) (fun u hu => pb.v_one u (List.mem_of_mem_take hu))
                have HS9 : Hid (Crashing w B k f cb (Li.set m { Li[m] with sure := pb.over Li[m].sure n5 }) (W8.drew.setCells k.gb (m * 1024 + 512) (pb.v.take n5))) := by
                  have hg9 := grown_setCells W8.drew k.gb (m * 1024 + 512) (pb.v.take n5)
                  have ho9 := EOwn.storePart (w := W8.drew) (show EOwn eDB W8.drew B (some ⟨k.gb, 0, none⟩) cb Li from HS8.out.2.1) hmL { Li[m] with sure := pb.over Li[m].sure n5 } 512 (pb.v.take n5) (by rw [List.length_take, pb.v_length]; show 512 + min n5 512 ≤ 1024; omega) (code_torn _ _ _ hn5)
                  exact ⟨(⟨HS8.out.1.os, HS8.out.1.tape, HS8.out.1.output, HS8.out.1.size, HS8.out.1.block⟩ : w.grownBy W8.drew (some k.gb)).trans' hg9, ho9, Blk.grown (w := W8.drew) HS8.out.2.2.1 hg9 (by simp; omega)⟩
                refine ⟨goInt (pb.v.take n5).length, W8.drew.setCells k.gb (m * 1024 + 512) (pb.v.take n5), ?_, ?_⟩
                · exact exec_copy rfl h6 h8 hcp
                · clear hcp h6 h8 hcc8
                  generalize (World.setCells W8.drew _ _ _) = W9 at HS9 ⊢
                  go_wp2_with fail
                  go_roundw
                  case rel => exact ⟨i + 1, by omega, by go_num, by rw [HTK2.out, HX.out]; exact HS9.out⟩
                  case measure => simp [intOf]; omega
            · have hilb : ((i : Int) == (d.pending.length : Int) - 1) = false := by simpa using hil
              have HX : Hid (Li[m].hit f ((d.pending.length : Int) - 1) i ⟨(m : Int), pb⟩ = Li[m]) := by show _ = _; unfold DB.hit; rw [if_neg HKB.out, if_neg hil]
              clear hil
              go_wp2_with fail
              go_roundw
              case rel => exact ⟨i + 1, by omega, by go_num, by rw [HTK2.out, HX.out, List.set_getElem_self]; exact ⟨HS8.out.1, HS8.out.2.1, HS8.out.2.2.1⟩⟩
              case measure => simp [intOf]; omega
          · have h64i : ¬ (i : Int) < 64 := by omega
            clear hkb h64
            by_cases hil : (i : Int) = (d.pending.length : Int) - 1
            · have hilb : ((i : Int) == (d.pending.length : Int) - 1) = true := by simpa using hil
              have HX : Hid (Li[m].hit f ((d.pending.length : Int) - 1) i ⟨(m : Int), pb⟩ = { Li[m] with sure := pb.over Li[m].sure (tornN f.torn) }) := by show _ = _; unfold DB.hit; rw [if_neg HKB.out, if_pos hil]
              clear hil
              have hn5 := tornN_le f.torn
              obtain ⟨n5, hn5e⟩ : ∃ n5, tornN f.torn = n5 := ⟨_, rfl⟩
              obtain ⟨mn, hmin⟩ : ∃ mn : Int, (if 512 < f.torn then 512 else f.torn) = mn := ⟨_, rfl⟩
              have hmax : (if 0 < mn then mn else 0) = (n5 : Int) := by
                rw [← hn5e]; unfold tornN
                split at hmin <;> split <;> omega
              rw [hn5e] at hn5 HX
              clear hn5e
              have hn5i2 : (n5 : Int) ≤ 512 := by omega
              go_wp2_with fail
              apply wp_region_lastv (n := 9) (R := fun j x w' => match j with
                | 0 => x = .pointer (some ⟨k.gb, m * 1024 + 512, none⟩)
                | 1 => x = .pointer (some ⟨k.gb, m * 1024 + 512, none⟩)
                | 2 => x = .pointer (some ⟨w.heap.size, 2, none⟩)
                | 3 => x = .int .i64 f.torn
                | 4 => x = .int .i64 mn
                | 5 => x = .int .i64 (n5 : Int)
                | 6 => x = .slice (some ⟨k.gb, m * 1024 + 512, none⟩) n5 512
                | 7 => x = .pointer (some ⟨wr.heap.size, 1, none⟩)
                | 8 => x = .slice (some ⟨wr.heap.size, 1, none⟩) 512 512
                | _ => True) (W := fun w' => w' = W8.drew) (Gr := fun w1 w2 => w2 = w1)
              case hG => (intro v; simp only [regFrame, List.zipIdx_cons, List.zipIdx_nil, List.foldl_cons, List.foldl_nil, Act.put, List.setIfInBounds_toArray, List.set_cons_zero, List.set_cons_succ, Nat.reduceAdd]; rfl)
              case hm => kernel_rfl
              case honce => rfl
              case hlow => kernel_rfl
              case hall => kernel_rfl
              case hn => rfl
              case ho => rfl
              case hog => rfl
              case hR =>
                intro j x w' w'' hb h
                exact h
              case hW => exact fun w w' h hb => hb.trans h
              case h0 => rfl
              case hstep =>
                refine ⟨?_, ?_, ?_, ?_, ?_, ?_, ?_, ?_, ?_, trivial⟩ <;> (intro v w' hw' hd; subst hw'; simp only [Deps, Region.binds, ↓reduceIte, and_true] at hd) <;> (try (first | exact opDoes_move _ rfl rfl ⟨rfl, rfl⟩ | (refine opDoes_run rfl ?_ ⟨rfl, rfl⟩; go_simp; done)))
              case hend =>
                intro v w' hw' h
                subst hw'
                simp only [List.take, AllOps, Nat.zero_add, Nat.reduceAdd, and_true] at h
                obtain ⟨-, -, -, -, -, -, h6, -, h8⟩ := h
                have hcp := run_copy_cells (P := Tryz.prog) W8.drew 56 56 3 5 k.gb (m * 1024 + 512) n5 512 ⟨wr.heap.size, 1, none⟩ 512 512 (pb.v.take n5) Tryz.underlying56 (by kernel_rfl) (by rw [List.length_take, pb.v_length]; exact (Nat.min_comm ..)) (fun j u hu => by
                  rw [Addr.add_mid]
                  refine (HS8.out.2.2.2.range 1 pb.v (fun j hj => by rw [Nat.add_comm]; rfl)) j u ?_
                  rw [List.getElem?_take] at hu
                  split at hu
                  · exact hu
                  · cases hu) (fun j hj => (HS8.out.2.1.there hmL 512 512 (by decide) j (by rw [List.length_take] at hj; omega)).1) (fun j hj => (HS8.out.2.1.there hmL 512 512 (by decide) j (by rw [List.length_take] at hj; omega)).2) (fun u hu => pb.v_one u (List.mem_of_mem_take hu))
                have HS9 : Hid (Crashing w B k f cb (Li.set m { Li[m] with sure := pb.over Li[m].sure n5 }) (W8.drew.setCells k.gb (m * 1024 + 512) (pb.v.take n5))) := by
                  have hg9 := grown_setCells W8.drew k.gb (m * 1024 + 512) (pb.v.take n5)
                  have ho9 := EOwn.storePart (w := W8.drew) (show EOwn eDB W8.drew B (some ⟨k.gb, 0, none⟩) cb Li from HS8.out.2.1) hmL { Li[m] with sure := pb.over Li[m].sure n5 } 512 (pb.v.take n5) (by rw [List.length_take, pb.v_length]; show 512 + min n5 512 ≤ 1024; omega) (code_torn _ _ _ hn5)
                  exact ⟨(⟨HS8.out.1.os, HS8.out.1.tape, HS8.out.1.output, HS8.out.1.size, HS8.out.1.block⟩ : w.grownBy W8.drew (some k.gb)).trans' hg9, ho9, Blk.grown (w := W8.drew) HS8.out.2.2.1 hg9 (by simp; omega)⟩
                refine ⟨goInt (pb.v.take n5).length, W8.drew.setCells k.gb (m * 1024 + 512) (pb.v.take n5), ?_, ?_⟩
                · exact exec_copy rfl h6 h8 hcp
                · clear hcp h6 h8 hcc8
                  generalize (World.setCells W8.drew _ _ _) = W9 at HS9 ⊢
                  go_wp2_with fail
                  go_roundw
                  case rel => exact ⟨i + 1, by omega, by go_num, by rw [HTK2.out, HX.out]; exact HS9.out⟩
                  case measure => simp [intOf]; omega
            · have hilb : ((i : Int) == (d.pending.length : Int) - 1) = false := by simpa using hil
              have HX : Hid (Li[m].hit f ((d.pending.length : Int) - 1) i ⟨(m : Int), pb⟩ = Li[m]) := by show _ = _; unfold DB.hit; rw [if_neg HKB.out, if_neg hil]
              clear hil
              go_wp2_with fail
              go_roundw
              case rel => exact ⟨i + 1, by omega, by go_num, by rw [HTK2.out, HX.out, List.set_getElem_self]; exact ⟨HS8.out.1, HS8.out.2.1, HS8.out.2.2.1⟩⟩
              case measure => simp [intOf]; omega
    · obtain rfl : i = d.pending.length := by omega
      have hii : ¬ (d.pending.length : Int) < (d.pending.length : Int) := by omega
      rw [List.take_length] at c2
      have hLlen : (hitAll f ((d.pending.length : Int) - 1) d.pending 0 d.blocks).length = d.blocks.length := hitAll_length ..
      have HE : Hid ((d.crash f).blocks = (hitAll f ((d.pending.length : Int) - 1) d.pending 0 d.blocks).map (fun x => ⟨x.sure, x.sure⟩) ∧ d.crash f = { d with blocks := (hitAll f ((d.pending.length : Int) - 1) d.pending 0 d.blocks).map (fun x => ⟨x.sure, x.sure⟩), pending := [], down := true }) := by
        constructor <;> (unfold DS.crash; rw [if_neg (by rw [HDN.out]; decide)])
      generalize hitAll f ((d.pending.length : Int) - 1) d.pending 0 d.blocks = L at c2 hLlen HE
      have HC : Hid (w.grownBy wr (some k.gb) ∧ EOwn eDB wr B (some ⟨k.gb, 0, none⟩) cb L) := ⟨c1, c2⟩
      clear c1 c2 c3 HJ
      go_wp2_with fail
      go_loopw [70] (fun iv wr => ∃ i : Nat, i ≤ d.blocks.length ∧ iv = .int .i64 i ∧ Hid (w.grownBy wr (some k.gb) ∧ EOwn eDB wr B (some ⟨k.gb, 0, none⟩) cb (settle L i))) (fun iv _ => d.blocks.length - (intOf iv).toNat)
      case atStart => exact ⟨0, by omega, rfl, HC.out⟩
      case round =>
        obtain ⟨i, hi, rfl, HJ⟩ := hrel
        clear HC hcc
        have hcc := (HW0.out.1.grown HJ.out.1 (by simp; exact hne)).c5
        by_cases hlt : i < d.blocks.length
        · have hii2 : (i : Int) < (d.blocks.length : Int) := by omega
          have hiL : i < L.length := by omega
          have hiS : i < (settle L i).length := by rw [settle_length]; exact hiL
          have hget := settle_get L i hiL
          rw [List.getElem?_eq_getElem hiS] at hget
          have HGET := Lib.hid (Option.some.inj hget)
          have HSUC := Lib.hid (settle_succ L i hiL)
          clear hget
          go_wp2_with fail
          apply wp_region_last (n := 15) (R := fun j x w' => match j with
            | 0 => x = .pointer (some ⟨k.gd, 0, none⟩)
            | 1 => x = .pointer (some ⟨k.gd, 0, none⟩)
            | 2 => x = .pointer (some ⟨k.gd, 0, none⟩)
            | 3 => x = .slice (some ⟨k.gb, 0, none⟩) d.blocks.length cb
            | 4 => x = .int .i64 (i : Nat)
            | 5 => x = .pointer (some ⟨k.gd, 0, none⟩)
            | 6 => x = .pointer (some ⟨k.gd, 0, none⟩)
            | 7 => x = .pointer (some ⟨k.gd, 0, none⟩)
            | 8 => x = .slice (some ⟨k.gb, 0, none⟩) d.blocks.length cb
            | 9 => x = .int .i64 (i : Nat)
            | 10 => x = .pointer (some ⟨k.gb, i * 1024, none⟩)
            | 11 => x = .pointer (some ⟨k.gb, i * 1024 + 512, none⟩)
            | 12 => x = .agg L[i].sure.v.toArray
            | 13 => x = .pointer (some ⟨k.gb, i * 1024, none⟩)
            | 14 => x = .pointer (some ⟨k.gb, i * 1024, none⟩)
            | _ => True) (W := fun w' => w' = wr.drew) (Gr := fun w1 w2 => w2 = w1)
          case hG => (intro v; simp only [regFrame, List.zipIdx_cons, List.zipIdx_nil, List.foldl_cons, List.foldl_nil, Act.put, List.setIfInBounds_toArray, List.set_cons_zero, List.set_cons_succ, Nat.reduceAdd]; rfl)
          case hm => kernel_rfl
          case honce => rfl
          case hlow => kernel_rfl
          case hall => kernel_rfl
          case hn => rfl
          case ho => rfl
          case hog => rfl
          case hod => rfl
          case hR =>
            intro j x w' w'' hb h
            exact h
          case hW => exact fun w w' h hb => hb.trans h
          case h0 => rfl
          case hstep =>
            have hld := run_loadAt_mid (P := Tryz.prog) wr.drew k.gb (i * 1024 + 512) 137 L[i].sure.v _ (EOwn.range (w := wr.drew) (show EOwn eDB wr.drew B (some ⟨k.gb, 0, none⟩) cb (settle L i) from HJ.out.2) hiS 512 L[i].sure.v (fun j hj => by
              rw [HGET.out]
              show (L[i].now.v ++ L[i].sure.v)[512 + j]? = _
              rw [List.getElem?_append_right (by rw [L[i].now.v_length]; omega), L[i].now.v_length, show 512 + j - 512 = j from by omega])) Tryz.underlying137 rfl (infoArr.trans (by rw [L[i].sure.v_length]))
            refine ⟨?_, ?_, ?_, ?_, ?_, ?_, ?_, ?_, ?_, ?_, ?_, ?_, ?_, ?_, ?_, trivial⟩ <;> (intro v w' hw' hd; subst hw'; simp only [Deps, Region.binds, ↓reduceIte, and_true] at hd) <;> (try (first | exact opDoes_move _ rfl rfl ⟨rfl, rfl⟩ | (refine opDoes_run rfl ?_ ⟨rfl, rfl⟩; go_simp; done)))
            exact opDoes_run rfl (exec_load rfl hd hld) ⟨rfl, rfl⟩
          case hend =>
            intro v w' hw' h
            subst hw'
            simp only [List.take, AllOps, Nat.zero_add, Nat.reduceAdd, and_true] at h
            obtain ⟨-, -, -, -, -, -, -, -, -, -, -, -, h12, -, h14⟩ := h
            have ho' : EOwn eDB wr.drew B (some ⟨k.gb, 0, none⟩) cb (settle L i) := HJ.out.2
            have hst := run_store_part (P := Tryz.prog) 137 k.gb i 0 L[i].sure.v ho' hiS (by rw [L[i].sure.v_length]; decide) (infoArr.trans (by rw [L[i].sure.v_length])) L[i].sure.v_one
            have ho9 := ho'.storePart hiS { L[i] with now := L[i].sure } 0 L[i].sure.v (by rw [L[i].sure.v_length]; decide) (by rw [HGET.out]; exact code_now _ _)
            have HS9 : Hid (w.grownBy (wr.drew.setCells k.gb (i * 1024 + 0) L[i].sure.v) (some k.gb) ∧ EOwn eDB (wr.drew.setCells k.gb (i * 1024 + 0) L[i].sure.v) B (some ⟨k.gb, 0, none⟩) cb (settle L (i + 1))) :=
              ⟨(⟨HJ.out.1.os, HJ.out.1.tape, HJ.out.1.output, HJ.out.1.size, HJ.out.1.block⟩ : w.grownBy wr.drew (some k.gb)).trans' (grown_setCells _ _ _ _), by rw [HSUC.out]; exact ho9⟩
            refine ⟨wr.drew.setCells k.gb (i * 1024 + 0) L[i].sure.v, exec_store rfl h14 h12 hst, ?_⟩
            clear hst ho9 h12 h14 ho'
            generalize (World.setCells wr.drew _ _ _) = W9 at HS9 ⊢
            go_wp2_with fail
            go_roundw
            case rel => exact ⟨i + 1, by omega, by go_num, HS9.out⟩
            case measure => simp [intOf]; omega
        · obtain rfl : i = d.blocks.length := by omega
          have hii2 : ¬ (d.blocks.length : Int) < (d.blocks.length : Int) := by omega
          have hset : settle L d.blocks.length = L.map (fun x => ⟨x.sure, x.sure⟩) := by
            unfold settle
            rw [← hLlen, List.take_length, List.drop_length, List.append_nil]
          have HF : Hid (w.grownBy wr (some k.gb) ∧ EOwn eDB wr B (some ⟨k.gb, 0, none⟩) cb (L.map (fun x => ⟨x.sure, x.sure⟩))) := by rw [← hset]; exact HJ.out
          clear hset
          go_wp2_with fail
          go_end0
          obtain ⟨hg, ho⟩ := HF.out
          have hlen2 : (L.map (fun x => (⟨x.sure, x.sure⟩ : DB))).length = d.blocks.length := by rw [List.length_map]; exact hLlen
          have b1 := (((HW0.out.1.grown hg (by simp; exact hne)).set1 (u := .slice none 0 0)).set 4 (.bool true))
          have hne' : ∀ a : Addr, some (⟨k.gb, 0, none⟩ : Addr) = some a → a.block ≠ k.gd := fun a ha => by obtain rfl := Option.some.inj ha; exact fun e => hne e.symm
          have o1 := (ho.set ⟨k.gd, 1, none⟩ hne' (.slice none 0 0)).set ⟨k.gd, 4, none⟩ hne' (.bool true)
          have r1 := (HW0.out.2.2.keep2 hg.size (fun a ha _ => hg.block _ (by assumption) (by simp; exact fun e => HAP.out.2 a ha (.inr e))))
          have r2 := (r1.keep2 (w' := wr.setCell ⟨k.gd, 1, none⟩ (.slice none 0 0)) (by simp) (fun a ha _ => heap_setCell_other wr ⟨k.gd, 1, none⟩ _ _ (fun e => HAP.out.2 a ha (.inl e)))).keep2 (w' := (wr.setCell ⟨k.gd, 1, none⟩ (.slice none 0 0)).setCell ⟨k.gd, 4, none⟩ (.bool true)) (by simp) (fun a ha _ => heap_setCell_other _ ⟨k.gd, 4, none⟩ _ _ (fun e => HAP.out.2 a ha (.inl e)))
          refine ⟨rfl, ?_, (((Keeps.of_grown hg).mono (fun k' e => .inr e)).set ⟨k.gd, 1, none⟩ (.inl (.inl rfl)) _).set ⟨k.gd, 4, none⟩ (.inl (.inl rfl)) _⟩
          rw [HE.out.2]
          exact ⟨⟨cb, 0, 0, _, cf, none, Af, rfl, rfl, Nat.le_refl _, Nat.zero_le _, fun _ => rfl, by simpa [hlen2] using b1, o1, EOwn.nil _ _, r2, (fun a ha => by cases ha), HAP.out.2⟩, lo⟩
theorem crash_any (w : World) (B : Nat) (k : KB) (d : DS) (h : DiskAt w B k d) (hG : DGood d) (f : DF) (hfk : f.keep < 18446744073709551616) :
    Calls Tryz.prog 16 #[.pointer (some ⟨k.gd, 0, none⟩), .agg #[.int .i64 f.at_, .int .u64 (f.keep : Nat), .int .i64 f.torn]] w fun e w' => e = .returned (.tuple #[]) ∧ DiskAt w' B k (d.crash f) ∧ Keeps w w' k.own := by
  cases hd : d.down with
  | false => exact crash_up w B k d h hG f hfk hd
  | true =>
    refine (crash_down w B k d h f hd).mono fun e w' ⟨he, hb⟩ => ⟨he, ?_, Keeps.of_below hb⟩
    have e : d.crash f = d := by unfold DS.crash; rw [if_pos hd]
    rw [e]; exact h.below hb
end Go.Proofs.YtcfoihihinijlaaGreat
end

section
namespace Go.Proofs.YtcfoihihinijlaaGreat
set_option linter.unusedSimpArgs false
set_option linter.unusedVariables false
open Go.RowKit
def DS.strike (d : DS) : DS × Int :=
  match d.falls.find? (fun f => f.at_ == (d.changes : Int)) with
  | some f => (({ d with changes := d.changes + 1 } : DS).crash f, 6)
  | none => ({ d with changes := d.changes + 1 }, 0)
def fallFrom (L : List DF) (n : Int) (i : Nat) : Option DF := (L.drop i).find? (fun f => f.at_ == n)
theorem fallFrom_hit {L : List DF} {n : Int} {i : Nat} (hi : i < L.length) (h : L[i].at_ = n) : fallFrom L n i = some L[i] := by
  unfold fallFrom
  rw [List.drop_eq_getElem_cons hi, List.find?_cons_of_pos (by simpa using h)]
theorem fallFrom_miss {L : List DF} {n : Int} {i : Nat} (hi : i < L.length) (h : L[i].at_ ≠ n) : fallFrom L n i = fallFrom L n (i + 1) := by
  unfold fallFrom
  rw [List.drop_eq_getElem_cons hi, List.find?_cons_of_neg (by simpa using h)]
theorem fallFrom_end {L : List DF} {n : Int} {i : Nat} (hi : L.length ≤ i) : fallFrom L n i = none := by
  unfold fallFrom
  rw [List.drop_eq_nil_of_le hi]; rfl
theorem DiskAt.setChanges {w : World} {B : Nat} {k : KB} {d : DS} (h : DiskAt w B k d) (n : Nat) (x : Int) (hx : x = (n : Int)) : DiskAt (w.setCell ⟨k.gd, 3, none⟩ (.int .i64 x)) B k { d with changes := n } := by
  subst hx
  obtain ⟨hne, hlt, hlt2, hB⟩ := h.head
  obtain ⟨⟨cb, np, cp, nf, cf, Ap, Af, rfl, rfl, h3, h4, h5, h6, h7, h8, h9, h10, h11⟩, lo⟩ := h
  refine ⟨⟨cb, _, cp, _, cf, Ap, Af, rfl, rfl, h3, h4, h5, h6.set3, ?_, ?_, ?_, h10, h11⟩, lo⟩
  · exact h7.set _ (fun a ha => by obtain rfl := Option.some.inj ha; exact fun e => hne e.symm) _
  · exact h8.keep2 (by simp) (fun a ha _ => heap_setCell_other w ⟨k.gd, 3, none⟩ _ _ (fun e => h10 a ha (.inl e)))
  · exact h9.keep2 (by simp) (fun a ha _ => heap_setCell_other w ⟨k.gd, 3, none⟩ _ _ (fun e => h11 a ha (.inl e)))
theorem df_at {w : World} {A : Option Addr} {L : List DF} (h : ERow eDF w A L) {i : Nat} (hi : i < L.length) : ∃ b o, A = some ⟨b, o, none⟩ ∧ b < w.heap.size ∧
    w.cell? ⟨b, o + i * 3, none⟩ = some (.int .i64 L[i].at_) ∧ w.cell? ⟨b, o + i * 3 + 1, none⟩ = some (.int .u64 (L[i].keep : Nat)) ∧ w.cell? ⟨b, o + i * 3 + 2, none⟩ = some (.int .i64 L[i].torn) := by
  obtain ⟨b, o, e, hb, hc⟩ := h.at_ hi
  exact ⟨b, o, e, hb, hc 0 _ rfl, hc 1 _ rfl, hc 2 _ rfl⟩
theorem DiskAt.falls_row {w : World} {B : Nat} {k : KB} {d : DS} (h : DiskAt w B k d) : ∃ cf Af, w.cell? ⟨k.gd, 2, none⟩ = some (.slice Af d.falls.length cf) ∧ ERow eDF w Af d.falls := by
  obtain ⟨⟨cb, np, cp, nf, cf, Ap, Af, rfl, rfl, h3, h4, h5, h6, h7, h8, h9, h10, h11⟩, lo⟩ := h
  exact ⟨cf, Af, h6.cell 2, h9.row⟩
set_option maxRecDepth 20000 in
set_option maxHeartbeats 1000000 in
theorem strike_any (w : World) (B : Nat) (k : KB) (d : DS) (h : DiskAt w B k d) (hG : DGood d) (hch : d.changes < 1000000000) :
    Calls Tryz.prog 151 #[.pointer (some ⟨k.gd, 0, none⟩)] w fun e w' => e = .returned (.int .i64 d.strike.2) ∧ DiskAt w' B k d.strike.1 ∧ Keeps w w' k.own := by
  have hf1 := hG.f1
  obtain ⟨cb, cp, cf, Ap, Af, hc⟩ := h.open_
  have HS := Lib.hid (And.intro (h.setChanges (d.changes + 1) ((d.changes : Int) + 1) (by omega)) ((Keeps.refl w k.own).set ⟨k.gd, 3, none⟩ (.inl (.inl rfl)) (.int .i64 ((d.changes : Int) + 1))))
  have HST : Hid (d.strike = match fallFrom d.falls (d.changes : Int) 0 with
    | some f => (({ d with changes := d.changes + 1 } : DS).crash f, 6)
    | none => ({ d with changes := d.changes + 1 }, 0)) := by show _ = _; unfold DS.strike fallFrom; rfl
  clear h
  go_enter Tryz.func151, Tryz.ntmps151
  go_upto_region 3 with (fail)
  generalize (World.setCell w _ _) = W at HS ⊢
  clear hc
  obtain ⟨cf', Af', hc2, hrow⟩ := HS.out.1.falls_row
  have hlt := HS.out.1.head.2.1
  have HR := Lib.hid hrow
  clear hrow
  go_wp2_with fail
  go_loopw [22] (fun iv wr => ∃ i : Nat, i ≤ d.falls.length ∧ iv = .int .i64 i ∧ Hid (Below W.heap.size W wr ∧ fallFrom d.falls (d.changes : Int) 0 = fallFrom d.falls (d.changes : Int) i)) (fun iv _ => d.falls.length - (intOf iv).toNat)
  case atStart => exact ⟨0, by omega, rfl, Below.refl _ _, rfl⟩
  case round =>
    obtain ⟨i, hi, rfl, HJ⟩ := hrel
    have hz := HJ.out.1.size
    by_cases hlt2 : i < d.falls.length
    · have hii : (i : Int) < (d.falls.length : Int) := by omega
      obtain ⟨b, o, rfl, hb, d0, d1, d2⟩ := df_at (HR.out.below HJ.out.1) hlt2
      have hfk := hG.fk d.falls[i] (List.getElem_mem hlt2)
      by_cases he : d.falls[i].at_ = (d.changes : Int)
      · have heb : (d.falls[i].at_ == (d.changes : Int)) = true := by simpa using he
        have HF := Lib.hid (fallFrom_hit hlt2 he)
        clear he
        have HG' : Hid (DGood { d with changes := d.changes + 1 }) := ⟨hG.b0, hG.b1, hG.p1, hG.f1, hG.at_, hG.fk⟩
        generalize d.falls[i] = f at d0 d1 d2 hfk heb HF
        have HC : Hid (∀ o : Obj, Calls Tryz.prog 16 #[.pointer (some ⟨k.gd, 0, none⟩), .agg #[.int .i64 f.at_, .int .u64 (f.keep : Nat), .int .i64 f.torn]] (wr.alloc o) fun e w' => e = .returned (.tuple #[]) ∧ DiskAt w' B k (({ d with changes := d.changes + 1 } : DS).crash f) ∧ Keeps (wr.alloc o) w' k.own) :=
          fun o => crash_any (wr.alloc o) B k _ ((HS.out.1.below HJ.out.1).below ((Below.refl _ _).alloc (Nat.le_refl _) o)) HG'.out f hfk.1
        go_wp2_with fail
        refine (HC.out _).mono ?_
        rintro e w5 ⟨rfl, hD5, hK5⟩
        have HF5 := Lib.hid (And.intro hD5 ((HS.out.2.trans (Keeps.of_below HJ.out.1)).trans ((Keeps.of_below ((Below.refl _ _).alloc (Nat.le_refl _) _)).trans hK5)))
        clear hD5 hK5
        go_wp2_with fail
        go_ret
        rw [HST.out, HJ.out.2, HF.out]
        exact ⟨rfl, HF5.out⟩
      · have heb : (d.falls[i].at_ == (d.changes : Int)) = false := by simpa using he
        have HF := Lib.hid (fallFrom_miss hlt2 he)
        clear he
        generalize d.falls[i] = f at d0 d1 d2 hfk heb
        go_wp2_with fail
        go_roundw
        case rel => exact ⟨i + 1, by omega, by go_num, HJ.out.1.alloc hz _, HJ.out.2.trans HF.out⟩
        case measure => simp [intOf]; omega
    · have hii : ¬ (i : Int) < (d.falls.length : Int) := by omega
      go_wp2_with fail
      go_ret
      rw [HST.out, HJ.out.2, fallFrom_end (by omega)]
      exact ⟨rfl, HS.out.1.below HJ.out.1, HS.out.2.trans (Keeps.of_below HJ.out.1)⟩
end Go.Proofs.YtcfoihihinijlaaGreat
end

section
namespace Go.Proofs.YtcfoihihinijlaaGreat
set_option linter.unusedSimpArgs false
set_option linter.unusedVariables false
open Go.RowKit
theorem fold_set : ∀ (vs : List Value) (cells : Array Value) (off k : Nat), ((vs.zipIdx k).foldl (fun (cs : Array Value) (p : Value × Nat) => cs.setIfInBounds (off + p.2) p.1) cells).toList = setFrom cells.toList (off + k) vs
  | [], cells, off, k => rfl
  | v :: vs, cells, off, k => by
    rw [List.zipIdx_cons, List.foldl_cons, fold_set vs _ off (k + 1), setFrom]
    simp only [Array.toList_setIfInBounds]
    rw [Nat.add_assoc]
theorem fold_set_arr (v : Value) (cells : Array Value) (off : Nat) : v.cells.zipIdx.foldl (fun (cs : Array Value) (p : Value × Nat) => cs.setIfInBounds (off + p.2) p.1) cells = (setFrom cells.toList off v.cells.toList).toArray := by
  have h := fold_set v.cells.toList cells off 0
  rw [Nat.add_zero] at h
  rw [← h, Array.toArray_toList]
  rw [← Array.foldl_toList]
  congr 1
  simp [Array.toList_zipIdx]
theorem run_buildSlice_one {α : Type} (E : Elem α) (x : α) (v : Value) (hv : v.cells.toList = E.code x) (hbig : E.sz ≤ 65536) (w : World) :
    (Instr.buildSlice E.t 1 #[(0, v)]).run Tryz.prog w = .ok (.slice (some ⟨w.heap.size, 0, none⟩) 1 1) (w.alloc (.cells (E.code x).toArray E.e)) := by
  obtain ⟨i, hi, hz, hsi, hby⟩ := info_parts E.info
  have hsz : v.cells.size = E.sz := by rw [← Array.length_toList, hv, E.len]
  have hpos := E.pos
  have hzero : ((Array.range E.sz).map fun j => E.zero.cells[j % E.zero.cells.size]!).size = E.sz := by simp
  have hfill : Instr.fill (fun i => some (i * E.sz, E.sz)) ((Array.range E.sz).map fun j => E.zero.cells[j % E.zero.cells.size]!) [(0, v)] = some (E.code x).toArray := by
    unfold Instr.fill
    simp only [Nat.zero_mul]
    rw [if_neg (by rw [hsz, hzero]; simp)]
    unfold Instr.fill
    have := fold_set_arr v ((Array.range E.sz).map fun j => E.zero.cells[j % E.zero.cells.size]!) 0
    have e := setFrom_all (E.code x) ((Array.range E.sz).map fun j => E.zero.cells[j % E.zero.cells.size]!).toList [] (by rw [E.len, Array.length_toList, hzero])
    simp only [List.nil_append, List.length_nil] at e
    rw [this, hv, e]
  simp only [Instr.buildSlice, Sem.run_bind, run_underlying E.under, Result.andThen_ok, sizeOf, typeInfo, Sem.run_pure]
  simp [hi, hsi, zeroValue, typeInfo, hz, newRow]
  rw [if_neg (by omega), if_neg (by omega), hfill]
  simp
theorem exec_buildSlice {P : Program} {o : Oper} {a : Act} {w w' : World} {T : TypeId} {x : Operand} {v r : Value} (hop : o.op = .buildSlice T 1 #[(0, x)]) (hx : a.eval x = v) (hrun : (Instr.buildSlice T 1 #[(0, v)]).run P w = .ok r w') : (execOp a.eval o).run P w = .ok (.value r) w' := by
  simp [execOp, hop, hx, hrun, Sem.run_bind]
theorem exec_append {P : Program} {o : Oper} {a : Act} {w w' : World} {d s : Operand} {ts : Array TypeId} {x y r : Value} (hop : o.op = .call { callee := .builtin .append, args := #[d, s], argTypes := ts })
    (hd : a.eval d = x) (hs : a.eval s = y) (hrun : (Builtin.append_ ts o.type #[x, y]).run P w = .ok r w') : (execOp a.eval o).run P w = .ok (.value r) w' := by
  simp [execOp, hop, resolve, invoke, builtin, hd, hs, hrun, Result.andThen]
theorem run_append_full {α : Type} (E : Elem α) {w : World} {A A' : Option Addr} {c' : Nat} {L M : List α} (ty : TypeId) (hr : ERow E w A L) (hr' : ERow E w A' M) (hM : 0 < M.length) (hb : L.length + M.length ≤ 1073741824) (hnone : A = none → L = []) :
    ∃ A1 c1 w1, (Builtin.append_ #[E.t, E.t] ty #[.slice A L.length L.length, .slice A' M.length c']).run Tryz.prog w = .ok (.slice A1 (L.length + M.length) c1) w1 ∧ EOwn E w1 w.heap.size A1 c1 (L ++ M) ∧ Below w.heap.size w w1 := by
  obtain ⟨i, hi, hz, hsi, hby⟩ := info_parts E.info
  obtain ⟨b, o, rfl, hlt, hc⟩ := hr' hM
  have hcells : ∀ j u, (E.cells M)[j]? = some u → w.cell? ((⟨b, o, none⟩ : Addr).add j) = some u := fun j u hu => by rw [Addr.add_lit]; exact hc j u hu
  have hbig : (L.length + M.length) * E.bytes ≤ 140737488355328 := by
    have h1 := Nat.mul_le_mul hb E.few
    omega
  cases A with
  | some ad =>
    have hold : ∀ j u, (E.cells L)[j]? = some u → w.cell? (ad.add j) = some u := by
      intro j u hu
      have hj := (List.getElem?_eq_some_iff.1 hu).1
      rw [E.cells_length] at hj
      obtain ⟨b', o', h, _, hc'⟩ := hr (by
        rcases Nat.eq_zero_or_pos L.length with h0 | h0
        · rw [h0] at hj; simp at hj
        · exact h0)
      obtain rfl := Option.some.inj h
      rw [Addr.add_lit]
      exact hc' j u hu
    obtain ⟨v', w', hrun, r1, r2⟩ := run_append_arg_grows (P := Tryz.prog) w E.t ty E.e i E.zero E.sz E.bytes E.under hi hz hsi hby E.zsz E.pos ad L.length L.length (E.cells L) (E.cells_length L) hold ⟨b, o, none⟩ M.length c' (E.cells M) (E.cells_length M) hcells (by omega) (by simp [maxLen]; omega) hbig
    obtain ⟨A1, c1, rfl⟩ := own_slice r1
    refine ⟨A1, c1, w', hrun, ?_, (Below.refl _ w).grown r2 (Nat.le_refl _) (fun k hk => by cases hk)⟩
    unfold EOwn
    rw [E.cells_append, List.length_append]
    exact r1
  | none =>
    have hl := hnone rfl
    subst hl
    obtain ⟨v', w', hrun, r1, r2, _⟩ := run_append_own (P := Tryz.prog) w w.heap.size E.t ty E.e i E.zero E.sz E.bytes E.under hi hz hsi hby E.zsz E.pos (.slice none 0 0) 0 [] (World.ownsRow_nil w _ E.e E.sz) ⟨b, o, none⟩ M.length c' (E.cells M) (E.cells_length M) hcells (E.cells_one M) (by simp [maxLen]; omega) (by simpa using hbig) (Nat.le_refl _)
    obtain ⟨A1, c1, rfl⟩ := own_slice r1
    refine ⟨A1, c1, w', by simpa using hrun, ?_, (Below.refl _ w).grown r2 (Nat.le_refl _) (fun k hk => by simp [Value.ownBlock] at hk)⟩
    unfold EOwn
    simpa using r1
end Go.Proofs.YtcfoihihinijlaaGreat
end

section
namespace Go.Proofs.YtcfoihihinijlaaGreat
set_option linter.unusedSimpArgs false
set_option linter.unusedVariables false
open Go.RowKit
theorem infoInt : (Tryz.prog.info? 3).map (·.size) = some 1 := by kernel_rfl
theorem sizeOfDW (w : World) : (sizeOf 3).run Tryz.prog w = .ok 1 w ∧ (sizeOf 137).run Tryz.prog w = .ok 512 w := by
  constructor
  · cases hq : Tryz.prog.info? 3 with
    | none => have := infoInt; rw [hq] at this; cases this
    | some i => have := infoInt; rw [hq] at this; simp [sizeOf, typeInfo, hq]; simpa using this
  · cases hq : Tryz.prog.info? 137 with
    | none => have := infoArr; rw [hq] at this; cases this
    | some i => have := infoArr; rw [hq] at this; simp [sizeOf, typeInfo, hq]; simpa using this
theorem build_write (w : World) (n : Int) : (Instr.build 139 #[(0, .int .i64 n)]).run Tryz.prog w = .ok (.agg (Value.int .i64 n :: zBytes 512).toArray) w := by
  obtain ⟨h1, h2⟩ := sizeOfDW w
  have hf : Instr.fill (fun x => ([(0, 1), (1, 512)] : List (Nat × Nat))[x]?) eDW.zero.cells [(0, .int .i64 n)] = some (Value.int .i64 n :: zBytes 512).toArray := by
    unfold Instr.fill
    simp only [List.getElem?_cons_zero]
    rw [if_neg (by rw [eDW.zsz]; exact (by decide : ¬(decide ((1 : Nat) ≠ 1) || decide (0 + 1 > 513)) = true))]
    unfold Instr.fill
    have := fold_set_arr (.int .i64 n) eDW.zero.cells 0
    rw [this]
    rfl
  simp only [Instr.build, Sem.run_bind, zeroDW, Result.andThen_ok, run_underlying Tryz.underlying139]
  simp [List.mapM_cons, Sem.run_bind, h1, h2, hf]
set_option maxHeartbeats 400000 in
theorem clip_any (w : World) (A : Option Addr) (n c : Nat) (hn : n ≤ c) (hc : c ≤ maxLen) (h0 : A = none → c = 0) :
    Calls Tryz.prog 150 #[.slice A n c] w fun e w' => e = .returned (.slice A n n) ∧ w = w' := by
  unfold maxLen at hc
  cases A with
  | none =>
    obtain rfl := h0 rfl
    obtain rfl : n = 0 := by omega
    go_enter Tryz.func150, Tryz.ntmps150
    go_wp2_with fail
    go_ret
    exact ⟨rfl, rfl⟩
  | some a =>
    have hni : (n : Int) ≤ (c : Int) := by omega
    clear h0
    go_enter Tryz.func150, Tryz.ntmps150
    go_wp2_with fail
    go_ret
    exact ⟨rfl, rfl⟩
end Go.Proofs.YtcfoihihinijlaaGreat
end

