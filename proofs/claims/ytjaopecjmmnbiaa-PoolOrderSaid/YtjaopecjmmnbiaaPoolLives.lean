/-
  The contract of dowserlaw05.lives.
-/
import Derived.Test.YtjaopecjmmnbiaaPoolOf
namespace Go.Proofs.Ytjaopecjmmnbiaa
set_option linter.unusedSimpArgs false
set_option linter.unusedVariables false
open Go.RowKit Go.Maps

theorem Keeps.below_pool {w w' : World} {B N : Nat} {b : PB} {q : PS} {w0 : World} (h : Keeps w w' b.own) (hP : PoolOf w B b N q) (hB : Below w0.heap.size w0 w) (h0 : w0.heap.size ≤ B) : Below w0.heap.size w0 w' :=
  h.below hB hB.size fun k hk => Nat.le_trans h0 (hP.lt k hk).1

def liveQ1 : PS := ⟨[⟨1, true, [97], none, 0⟩, fr0], 0, 0, 0⟩
def liveQ2 : PS := ⟨[⟨1, true, [97], none, 0⟩, ⟨2, true, [98], none, 0⟩], 0, 0, 0⟩
def liveQ3 : PS := ⟨[⟨3, true, [99], none, 0⟩, ⟨2, false, [98], none, 0⟩], 1, 0, 0⟩
def liveQ4 : PS := ⟨[⟨3, true, [99], none, 0⟩, ⟨2, true, [98], none, 0⟩], 1, 1, 0⟩
def liveQ5 : PS := ⟨[⟨3, true, [99], none, 0⟩, ⟨2, true, [98], none, 0⟩], 1, 1, 1⟩
theorem live_q1 : (PS.new 2).put 1 ⟨1, true, [97], none, 0⟩ = (-1, liveQ1) := by rfl
theorem live_q2 : liveQ1.put 2 ⟨2, true, [98], none, 0⟩ = (-1, liveQ2) := by rfl
theorem live_q3 : liveQ2.put 3 ⟨3, true, [99], none, 0⟩ = (1, liveQ3) := by rfl
theorem live_q4 : liveQ3.get 2 = (some [98], liveQ4) := by rfl
theorem live_q5 : liveQ4.get 1 = (none, liveQ5) := by rfl

set_option maxRecDepth 20000 in
set_option maxHeartbeats 1000000 in
theorem lives_any (w : World) : Calls Try.prog 8 #[] w fun e w' => e = .returned (.bool true) ∧ Below w.heap.size w w' := by
  have hcv := @run_const_bytes
  go_enter Try.func8, Try.ntmps8
  go_wp2_with fail
  refine (new_of w 2 (by decide) (by decide)).mono ?_
  rintro e w1 ⟨b, rfl, hP, hB⟩
  have HP := Lib.hid hP
  have HB := Lib.hid hB
  have hz := hB.size
  clear hP hB
  go_wp2_with fail
  have halq1 : Below (w1).heap.size w1 ((w1).alloc (.cells #[.int .u8 97] 5 (1, 2))) := (Below.refl _ _).alloc (Nat.le_refl _) _
  have hputq1 := put_of _ _ 0 b (PS.new 2) ((HP).out.below halq1) (by decide) 1 (by decide) (by decide) (some ⟨(w1).heap.size, 0, none⟩) 1 [97] (Row.newMark w1 ([97].map bv) 5 (1, 2)) (by decide) (fun _ a ha ho => by
    obtain rfl := Option.some.inj ha
    have := ((HP).out.lt _ ho).2
    simp at this)
  refine hputq1.mono ?_
  intro e w2 hIq1; obtain ⟨rfl, hPq1, hKq1⟩ := hIq1
  have HBq1 : Hid (Below w.heap.size w w2) := hKq1.below_pool ((HP).out.below halq1) ((HB).out.trans (halq1.mono (HB).out.size)) (Nat.le_refl _)
  rw [live_q1] at hPq1 ⊢
  have HPq1 := Lib.hid hPq1
  clear hPq1 hKq1 hputq1 halq1
  go_wp2_with fail
  have halq2 : Below (w2).heap.size w2 ((w2).alloc (.cells #[.int .u8 98] 5 (1, 2))) := (Below.refl _ _).alloc (Nat.le_refl _) _
  have hputq2 := put_of _ _ 1 b liveQ1 ((HPq1).out.below halq2) (by decide) 2 (by decide) (by decide) (some ⟨(w2).heap.size, 0, none⟩) 1 [98] (Row.newMark w2 ([98].map bv) 5 (1, 2)) (by decide) (fun _ a ha ho => by
    obtain rfl := Option.some.inj ha
    have := ((HPq1).out.lt _ ho).2
    simp at this)
  refine hputq2.mono ?_
  intro e w3 hIq2; obtain ⟨rfl, hPq2, hKq2⟩ := hIq2
  have HBq2 : Hid (Below w.heap.size w w3) := hKq2.below_pool ((HPq1).out.below halq2) ((HBq1).out.trans (halq2.mono (HBq1).out.size)) (Nat.le_refl _)
  rw [live_q2] at hPq2 ⊢
  have HPq2 := Lib.hid hPq2
  clear hPq2 hKq2 hputq2 halq2
  go_wp2_with fail
  have halq3 : Below (w3).heap.size w3 ((w3).alloc (.cells #[.int .u8 99] 5 (1, 2))) := (Below.refl _ _).alloc (Nat.le_refl _) _
  have hputq3 := put_of _ _ 2 b liveQ2 ((HPq2).out.below halq3) (by decide) 3 (by decide) (by decide) (some ⟨(w3).heap.size, 0, none⟩) 1 [99] (Row.newMark w3 ([99].map bv) 5 (1, 2)) (by decide) (fun _ a ha ho => by
    obtain rfl := Option.some.inj ha
    have := ((HPq2).out.lt _ ho).2
    simp at this)
  refine hputq3.mono ?_
  intro e w4 hIq3; obtain ⟨rfl, hPq3, hKq3⟩ := hIq3
  have HBq3 : Hid (Below w.heap.size w w4) := hKq3.below_pool ((HPq2).out.below halq3) ((HBq2).out.trans (halq3.mono (HBq2).out.size)) (Nat.le_refl _)
  rw [live_q3] at hPq3 ⊢
  have HPq3 := Lib.hid hPq3
  clear hPq3 hKq3 hputq3 halq3
  go_wp2_with fail
  have hgetq4 := get_of w4 _ 3 b liveQ3 (HPq3).out (by decide) 2 (by decide) (by decide)
  refine hgetq4.mono ?_
  intro e w5 hIq4; obtain ⟨⟨Aq4, cq4, rfl, hrq4, hfrq4⟩, hPq4, hKq4⟩ := hIq4
  have HBq4 : Hid (Below w.heap.size w w5) := hKq4.below_pool (HPq3).out (HBq3).out (Nat.le_refl _)
  rw [live_q4] at hPq4 hrq4 ⊢
  have HPq4 := Lib.hid hPq4
  have hsq4 := run_string_bytes w5 cq4 hrq4
  simp only [Option.getD_some, Option.getD_none, List.length_cons, List.length_nil, Nat.zero_add, Option.isSome_some, Option.isSome_none] at hsq4 ⊢
  have HFR := Lib.hid (And.intro hrq4 hfrq4)
  clear hPq4 hKq4 hgetq4 hrq4 hfrq4
  go_wp2_with fail
  have hgetq5 := get_of w5 _ 4 b liveQ4 (HPq4).out (by decide) 1 (by decide) (by decide)
  refine hgetq5.mono ?_
  intro e w6 hIq5; obtain ⟨⟨Aq5, cq5, rfl, hrq5, hfrq5⟩, hPq5, hKq5⟩ := hIq5
  have HBq5 : Hid (Below w.heap.size w w6) := hKq5.below_pool (HPq4).out (HBq4).out (Nat.le_refl _)
  rw [live_q5] at hPq5 hrq5 ⊢
  have HPq5 := Lib.hid hPq5
  have hsq5 := run_string_bytes w6 cq5 hrq5
  simp only [Option.getD_some, Option.getD_none, List.length_cons, List.length_nil, Nat.zero_add, Option.isSome_some, Option.isSome_none] at hsq5 ⊢
  (have hs4 := run_string_bytes w6 cq4 (HFR.out.1.kept hKq5 (fun a ha ho => by have h1 := HFR.out.2 a ha; have h2 := (HPq3.out.lt _ ho).2; omega)); simp only [Option.getD_some, List.length_cons, List.length_nil, Nat.zero_add] at hs4; unfold txt at hs4)
  clear hPq5 hKq5 hgetq5 hrq5 hfrq5
  go_wp2_with fail
  go_ret
  exact ⟨rfl, HBq5.out⟩
end Go.Proofs.Ytjaopecjmmnbiaa
