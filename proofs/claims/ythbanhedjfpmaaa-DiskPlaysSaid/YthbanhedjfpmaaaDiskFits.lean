/-
  The contract of the law's fits.
-/
import Derived.Test.YthbanhedjfpmaaaDiskOps
namespace Go.Proofs.Ythbanhedjfpmaaa
set_option linter.unusedSimpArgs false
set_option linter.unusedVariables false
open Go.RowKit

theorem opd_at {w : World} {A : Option Addr} {L : List OpD} (h : ERow eOpD w A L) {i : Nat} (hi : i < L.length) : ∃ b o, A = some ⟨b, o, none⟩ ∧ b < w.heap.size ∧
    (w.cell? ⟨b, o + i * 9, none⟩ = some (.int .i64 L[i].k) ∧ w.cell? ⟨b, o + i * 9 + 1, none⟩ = some (.int .i64 L[i].at_) ∧ w.cell? ⟨b, o + i * 9 + 2, none⟩ = some (.int .u8 (L[i].c.toNat : Int)) ∧
    w.cell? ⟨b, o + i * 9 + 3, none⟩ = some (txt L[i].s) ∧ w.cell? ⟨b, o + i * 9 + 4, none⟩ = some (.bool L[i].long) ∧ w.cell? ⟨b, o + i * 9 + 5, none⟩ = some (.int .i64 L[i].f.at_) ∧
    w.cell? ⟨b, o + i * 9 + 6, none⟩ = some (.int .u64 (L[i].f.keep : Nat)) ∧ w.cell? ⟨b, o + i * 9 + 7, none⟩ = some (.int .i64 L[i].f.torn) ∧ w.cell? ⟨b, o + i * 9 + 8, none⟩ = some (.slice L[i].A L[i].fs.length L[i].cap)) := by
  obtain ⟨b, o, e, hb, hc⟩ := h.at_ hi
  exact ⟨b, o, e, hb, hc 0 _ rfl, hc 1 _ rfl, hc 2 _ rfl, hc 3 _ rfl, hc 4 _ rfl, hc 5 _ rfl, hc 6 _ rfl, hc 7 _ rfl, hc 8 _ rfl⟩
def OpD.fit (o : OpD) : Bool := decide (o.s.length ≤ 600) && decide (o.fs.length ≤ 20)
def fitsD (n : Int) (L : List OpD) : Bool := decide (1 ≤ n) && decide (n ≤ 12) && decide (L.length ≤ 60) && L.all OpD.fit
set_option maxRecDepth 20000 in
set_option maxHeartbeats 1000000 in
theorem fits_no (w : World) (n : Int) (A : Option Addr) (c : Nat) (L : List OpD) (h : n < 1 ∨ 12 < n ∨ 60 < L.length) :
    Calls Try.prog 14 #[.int .i64 n, .slice A L.length c] w fun e w' => e = .returned (.bool false) ∧ w = w' := by
  by_cases h1 : n < 1
  · go_enter Try.func14, Try.ntmps14
    go_wp2_with fail
    go_ret
    exact ⟨rfl, rfl⟩
  · by_cases h2 : 12 < n
    · go_enter Try.func14, Try.ntmps14
      go_wp2_with fail
      go_ret
      exact ⟨rfl, rfl⟩
    · have h3 : (60 : Int) < (L.length : Int) := by omega
      go_enter Try.func14, Try.ntmps14
      go_wp2_with fail
      go_ret
      exact ⟨rfl, rfl⟩
set_option maxRecDepth 20000 in
set_option maxHeartbeats 1000000 in
theorem fits_any (w : World) (n : Int) (A : Option Addr) (c : Nat) (L : List OpD) (hr : ERow eOpD w A L) (hf : ∀ o ∈ L, o.s.length ≤ maxLen ∧ o.fs.length ≤ maxLen) :
    Calls Try.prog 14 #[.int .i64 n, .slice A L.length c] w fun e w' => e = .returned (.bool (fitsD n L)) ∧ Below w.heap.size w w' := by
  by_cases hno : n < 1 ∨ 12 < n ∨ 60 < L.length
  · refine (fits_no w n A c L hno).mono fun e w' ⟨he, hw⟩ => ⟨?_, hw ▸ Below.refl _ _⟩
    have : fitsD n L = false := by
      unfold fitsD
      rcases hno with h | h | h
      · rw [decide_eq_false (show ¬ 1 ≤ n by omega)]; simp
      · rw [decide_eq_false (show ¬ n ≤ 12 by omega)]; simp
      · rw [decide_eq_false (show ¬ L.length ≤ 60 by omega)]; simp
    rw [this]; exact he
  · have h1 : ¬ n < 1 := by omega
    have h2 : ¬ 12 < n := by omega
    have h3 : ¬ (60 : Int) < (L.length : Int) := by omega
    have h60 : L.length ≤ 60 := by omega
    have hE : fitsD n L = L.all OpD.fit := by
      unfold fitsD
      rw [decide_eq_true (show 1 ≤ n by omega), decide_eq_true (show n ≤ 12 by omega), decide_eq_true (show L.length ≤ 60 by omega)]; simp
    have HE := Lib.hid hE
    unfold maxLen at hf
    have HR := Lib.hid hr
    have HF := Lib.hid hf
    clear hr hf hno hE
    go_enter Try.func14, Try.ntmps14
    go_wp2_with fail
    go_loopw [20] (fun iv wr => ∃ i : Nat, i ≤ L.length ∧ iv = .int .i64 i ∧ Hid (L.all OpD.fit = (L.drop i).all OpD.fit ∧ Below w.heap.size w wr)) (fun iv _ => L.length - (intOf iv).toNat)
    case atStart => exact ⟨0, by omega, rfl, by simp, Below.refl _ _⟩
    case round =>
      obtain ⟨i, hi, rfl, HS⟩ := hrel
      by_cases hlt : i < L.length
      · obtain ⟨b, o, rfl, hb, hcc⟩ := opd_at (HR.out.below HS.out.2) hlt
        have hlti : (i : Int) < (L.length : Int) := by omega
        have hz := HS.out.2.size
        have hll := HF.out L[i] (List.getElem_mem hlt)
        have HD : Hid ((L.drop i).all OpD.fit = (L[i].fit && (L.drop (i + 1)).all OpD.fit)) := by
          show _ = _
          rw [List.drop_eq_getElem_cons hlt, List.all_cons]
        generalize L[i] = q at hcc hll HD
        have hsz : (ByteArray.mk q.s.toArray).size = q.s.length := by simp [ByteArray.size]
        unfold txt at hcc
        by_cases h600 : 600 < q.s.length
        · have h600i : (600 : Int) < (q.s.length : Int) := by omega
          have HDE : Hid (q.fit = false) := by show _ = _; unfold OpD.fit; rw [decide_eq_false (by omega)]; simp
          go_wp2_with fail
          go_ret
          rw [HE.out, HS.out.1, HD.out, HDE.out]
          exact ⟨by simp, HS.out.2.alloc hz _⟩
        · have h600i : ¬ (600 : Int) < (q.s.length : Int) := by omega
          by_cases h20 : 20 < q.fs.length
          · have h20i : (20 : Int) < (q.fs.length : Int) := by omega
            have HDE : Hid (q.fit = false) := by show _ = _; unfold OpD.fit; rw [decide_eq_false (show ¬ q.fs.length ≤ 20 by omega)]; simp
            go_wp2_with fail
            go_ret
            rw [HE.out, HS.out.1, HD.out, HDE.out]
            exact ⟨by simp, HS.out.2.alloc hz _⟩
          · have h20i : ¬ (20 : Int) < (q.fs.length : Int) := by omega
            have HDE : Hid (q.fit = true) := by show _ = _; unfold OpD.fit; rw [decide_eq_true (show q.fs.length ≤ 20 by omega), decide_eq_true (show q.s.length ≤ 600 by omega)]; simp
            go_wp2_with fail
            go_roundw
            case rel => exact ⟨i + 1, by omega, by go_num, by rw [HS.out.1, HD.out, HDE.out]; simp, HS.out.2.alloc hz _⟩
            case measure => simp [intOf]; omega
      · have hlti : ¬ (i : Int) < (L.length : Int) := by omega
        go_wp2_with fail
        go_ret
        rw [HE.out, HS.out.1, List.drop_eq_nil_of_le (by omega)]
        exact ⟨rfl, HS.out.2⟩
end Go.Proofs.Ythbanhedjfpmaaa
