/-
  The walk of DiskSure, whatever comes in.
-/
import Derived.Test.YthbanhedjfpmaaaDiskSure
namespace Go.Proofs.Ythbanhedjfpmaaa
set_option linter.unusedSimpArgs false
set_option linter.unusedVariables false
open Go.RowKit Go.WideShapes Go.ChangeShapes Go.Deep

set_option maxRecDepth 20000 in
theorem fall_in {H : Type} {enc : TypeId × Value → H} {w : World} {base : Nat} {v : Value} {d : DataW H} {p : List MemPlace}
    (hv : Value.okWide Try.prog w .any base 25 v) (h : DataW.Trod enc Try.prog w 0 (fun _ => true) true 25 v d p) : ∃ f : DF, v = .agg (eDF.code f).toArray ∧ f.Fine := by
  obtain ⟨cs, rfl, hlen⟩ := okWide_struct Try.underlying25 hv
  obtain ⟨fuel, hf⟩ := h
  have h3 : Try.prog.cellsOf 25 = 3 := by kernel_rfl
  obtain ⟨f, hc, hF⟩ := open_fall hf (by simpa [Value.cells, h3] using hlen)
  refine ⟨f, ?_, hF⟩
  have : cs.toList = eDF.code f := hc
  rw [← this]
set_option maxRecDepth 20000 in
set_option maxHeartbeats 1000000 in
theorem diskSure_walk (w : World) (v1 : Value) (s1 : ScriptD w v1) (v2 : Value) (s2 : ScriptD w v2) (v3 : Value) (s3 : ∃ f : DF, v3 = .agg (eDF.code f).toArray ∧ f.Fine) :
    Calls Try.prog 3 #[v1, v2, v3] w fun e w' => e = .returned (.bool true) ∧ Below w.heap.size w w' := by
  obtain ⟨A1, c1, L1, rfl, hr1, hf1, -, -⟩ := s1
  obtain ⟨A2, c2, L2, rfl, hr2, hf2, -, -⟩ := s2
  obtain ⟨f, rfl, hf⟩ := s3
  have HF1 := Lib.hid (fun w' (hb : Below w.heap.size w w') => fits_any w' 1 A1 c1 L1 (hr1.below hb) (fun o ho => ⟨(hf1 o ho).s, Nat.le_trans (hf1 o ho).len (hf1 o ho).cap⟩))
  have HF2 := Lib.hid (fun w' (hb : Below w.heap.size w w') => fits_any w' 1 A2 c2 L2 (hr2.below hb) (fun o ho => ⟨(hf2 o ho).s, Nat.le_trans (hf2 o ho).len (hf2 o ho).cap⟩))
  cases h1 : fitsD 1 L1 with
  | false =>
    rw [h1] at HF1
    clear hr1 hf1 hr2 hf2 hf h1 HF2
    obtain ⟨fa, fk, ft⟩ := f
    simp only [eDF]
    go_enter Try.func3, Try.ntmps3
    go_wp2_with fail
    generalize hW0 : World.alloc w (.cells _ _) = W
    obtain ⟨ba0, hz0, hB0⟩ := fresh1 hW0
    clear hW0
    have HB0 := Lib.hid hB0
    clear hB0 ba0
    refine (lives_any W).mono ?_
    rintro e w1 ⟨rfl, hB⟩
    have HB1 := Lib.hid (HB0.out.trans (hB.mono HB0.out.size))
    clear hB HB0
    go_wp2_with fail
    refine (HF1.out w1 HB1.out).mono ?_
    rintro e w2 ⟨rfl, hB⟩
    have HB2 := Lib.hid (HB1.out.trans (hB.mono HB1.out.size))
    clear hB HB1
    go_wp2_with fail
    refine (lives_any w2).mono ?_
    rintro e w9 ⟨rfl, hB⟩
    have HB9 := Lib.hid ((HB2).out.trans (hB.mono (HB2).out.size))
    clear hB
    go_wp2_with fail
    go_ret
    exact ⟨rfl, HB9.out⟩
  | true =>
    cases h2 : fitsD 1 L2 with
    | true => exact diskSure_fit w A1 c1 L1 A2 c2 L2 f hr1 hf1 hr2 hf2 hf h1 h2
    | false =>
      rw [h1] at HF1
      rw [h2] at HF2
      clear hr1 hf1 hr2 hf2 hf h1 h2
      obtain ⟨fa, fk, ft⟩ := f
      simp only [eDF]
      go_enter Try.func3, Try.ntmps3
      go_wp2_with fail
      generalize hW0 : World.alloc w (.cells _ _) = W
      obtain ⟨ba0, hz0, hB0⟩ := fresh1 hW0
      clear hW0
      have HB0 := Lib.hid hB0
      clear hB0 ba0
      refine (lives_any W).mono ?_
      rintro e w1 ⟨rfl, hB⟩
      have HB1 := Lib.hid (HB0.out.trans (hB.mono HB0.out.size))
      clear hB HB0
      go_wp2_with fail
      refine (HF1.out w1 HB1.out).mono ?_
      rintro e w2 ⟨rfl, hB⟩
      have HB2 := Lib.hid (HB1.out.trans (hB.mono HB1.out.size))
      clear hB HB1
      go_wp2_with fail
      refine (HF2.out w2 HB2.out).mono ?_
      rintro e w3 ⟨rfl, hB⟩
      have HB3 := Lib.hid (HB2.out.trans (hB.mono HB2.out.size))
      clear hB HB2
      go_wp2_with fail
      refine (lives_any w3).mono ?_
      rintro e w9 ⟨rfl, hB⟩
      have HB9 := Lib.hid ((HB3).out.trans (hB.mono (HB3).out.size))
      clear hB
      go_wp2_with fail
      go_ret
      exact ⟨rfl, HB9.out⟩
end Go.Proofs.Ythbanhedjfpmaaa
