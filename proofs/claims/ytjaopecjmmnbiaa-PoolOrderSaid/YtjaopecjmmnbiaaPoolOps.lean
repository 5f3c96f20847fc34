/-
  The Ops of dowserlaw05 that came in; the contract of fits.
-/
import Derived.Test.YtjaopecjmmnbiaaOpens
import Derived.Test.YtjaopecjmmnbiaaPoolRefPut
namespace Go.Proofs.Ytjaopecjmmnbiaa
set_option linter.unusedSimpArgs false
set_option linter.unusedVariables false
open Go.RowKit Go.Deep Go.WideShapes Go.ChangeShapes

/-- A thing of a script. -/
structure OpB where
  k : Int
  n : Int
  A : Option Addr
  c : Nat
  l : List UInt8
instance : Inhabited OpB := ⟨⟨0, 0, none, 0, []⟩⟩
def eOp : Elem OpB where
  e := 41
  t := 36
  sz := 3
  bytes := 40
  zero := .agg #[.int .i64 0, .int .i64 0, .slice none 0 0]
  code := fun o => [.int .i64 o.k, .int .i64 o.n, .slice o.A o.l.length o.c]
  pos := by decide
  few := by decide
  len := fun _ => rfl
  one := by
    intro x u hu
    simp at hu
    rcases hu with rfl | rfl | rfl <;> rfl
  zsz := rfl
  info := by kernel_rfl
  under := Try.underlying36
/-- What is known of one. -/
def OpB.Fine (w : World) (o : OpB) : Prop := (-9223372036854775808 ≤ o.k ∧ o.k ≤ 9223372036854775807) ∧ (-9223372036854775808 ≤ o.n ∧ o.n ≤ 9223372036854775807) ∧ BRow w o.A o.l ∧ o.l.length ≤ o.c ∧ o.c ≤ maxLen
def ScriptIn (w : World) (v : Value) : Prop := ∃ A c L, v = .slice A (List.length L) c ∧ ERow eOp w A L ∧ (∀ o ∈ L, o.Fine w) ∧ L.length ≤ c ∧ c ≤ maxLen

theorem script_in {H : Type} {enc : TypeId × Value → H} {w : World} {base : Nat} {v : Value} {d : DataW H} {p : List MemPlace}
    (_hv : Value.okWide Try.prog w .any base 36 v) (h : DataW.Trod enc Try.prog w 0 (fun _ => true) true 36 v d p) : ScriptIn w v := by
  obtain ⟨a0, len0, cap0, rfl⟩ := okWide_slice Try.underlying36 _hv
  obtain ⟨fuel, hf⟩ := h
  obtain ⟨A, L, c, h1, h2, h3, h4, h5⟩ := open_elems eOp (by kernel_rfl) (OpB.Fine w) (fun fuel cs x h hlen => by
    obtain ⟨xs, k, rfl, rfl, _, hxl, hfs⟩ := DataW.trod_struct Try.underlying41 h
    match xs, hxl, cs, hlen with
    | [y0, y1, y2], _, [v0, v1, v2], _ =>
      have g0 := hfs 0 _ rfl
      have g1 := hfs 1 _ rfl
      have g2 := hfs 2 _ rfl
      obtain ⟨n0, e0, b0⟩ := open_i64 Try.underlying3 (by simpa using g0)
      obtain ⟨n1, e1, b1⟩ := open_i64 Try.underlying3 (by simpa using g1)
      obtain ⟨A, l, c, e2, hr, hl, hm⟩ := open_bytes (by simpa using g2)
      have q3 : Try.prog.cellsOf 3 = 1 := by kernel_rfl
      have q31 : Try.prog.cellsOf 31 = 1 := by kernel_rfl
      have e0' : v0 = .int .i64 n0 := by simpa [q3] using e0
      have e1' : v1 = .int .i64 n1 := by simpa [q3] using e1
      have e2' : v2 = .slice A l.length c := by simpa [q31] using e2
      subst e0' e1' e2'
      exact ⟨⟨n0, n1, A, c, l⟩, rfl, b0, b1, hr, hl, hm⟩) hf
  simp [Value.cells] at h1
  obtain ⟨rfl, rfl, rfl⟩ := h1
  exact ⟨_, _, L, rfl, h2, h3, h4, h5⟩

theorem op_at {w : World} {A : Option Addr} {L : List OpB} (h : ERow eOp w A L) {i : Nat} (hi : i < L.length) : ∃ b o, A = some ⟨b, o, none⟩ ∧ b < w.heap.size ∧
    w.cell? ⟨b, o + i * 3, none⟩ = some (.int .i64 L[i].k) ∧ w.cell? ⟨b, o + i * 3 + 1, none⟩ = some (.int .i64 L[i].n) ∧ w.cell? ⟨b, o + i * 3 + 2, none⟩ = some (.slice L[i].A L[i].l.length L[i].c) := by
  obtain ⟨b, o, e, hb, hc⟩ := h.at_ hi
  exact ⟨b, o, e, hb, hc 0 _ rfl, hc 1 _ rfl, hc 2 _ rfl⟩

def fitsB (L : List OpB) : Bool := decide (L.length ≤ 300) && L.all fun o => decide (o.l.length ≤ 100)
set_option maxRecDepth 20000 in
set_option maxHeartbeats 1000000 in
theorem fits_any (w : World) (A : Option Addr) (c : Nat) (L : List OpB) (hr : ERow eOp w A L) (hlm : L.length ≤ maxLen) (hf : ∀ o ∈ L, o.l.length ≤ maxLen) :
    Calls Try.prog 13 #[.slice A L.length c] w fun e w' => e = .returned (.bool (fitsB L)) ∧ Below w.heap.size w w' := by
  unfold maxLen at hlm hf
  by_cases h300 : 300 < L.length
  · have h300i : (300 : Int) < (L.length : Int) := by omega
    have HE : Hid (fitsB L = false) := by show _ = _; unfold fitsB; simp; omega
    clear hf hr
    go_enter Try.func13, Try.ntmps13
    go_wp2_with fail
    go_ret
    rw [HE.out]
    exact ⟨rfl, Below.refl _ _⟩
  · have h300i : ¬ (300 : Int) < (L.length : Int) := by omega
    have HR := Lib.hid hr
    have HF := Lib.hid hf
    clear hr hf
    go_enter Try.func13, Try.ntmps13
    go_wp2_with fail
    go_loopw [10] (fun iv wr => ∃ i : Nat, i ≤ L.length ∧ iv = .int .i64 i ∧ Hid (fitsB L = (L.drop i).all (fun o => decide (o.l.length ≤ 100)) ∧ Below w.heap.size w wr)) (fun iv _ => L.length - (intOf iv).toNat)
    case atStart => exact ⟨0, by omega, rfl, by unfold fitsB; rw [decide_eq_true (by omega)]; simp, Below.refl _ _⟩
    case round =>
      obtain ⟨i, hi, rfl, HS⟩ := hrel
      by_cases hlt : i < L.length
      · obtain ⟨b, o, rfl, hb, d0, d1, d2⟩ := op_at (HR.out.below HS.out.2) hlt
        have hlti : (i : Int) < (L.length : Int) := by omega
        have hz := HS.out.2.size
        have hll := HF.out L[i] (List.getElem_mem hlt)
        have HD : Hid ((L.drop i).all (fun o => decide (o.l.length ≤ 100)) = (decide (L[i].l.length ≤ 100) && (L.drop (i + 1)).all (fun o => decide (o.l.length ≤ 100)))) := by
          show _ = _
          rw [List.drop_eq_getElem_cons hlt, List.all_cons]
        by_cases h100 : 100 < L[i].l.length
        · have h100i : (100 : Int) < (L[i].l.length : Int) := by omega
          have hdec : decide (L[i].l.length ≤ 100) = false := by simp; omega
          have HDE := Lib.hid hdec
          clear hdec
          go_wp2_with fail
          go_ret
          rw [HS.out.1, HD.out, HDE.out]
          exact ⟨by simp, HS.out.2.alloc hz _⟩
        · have h100i : ¬ (100 : Int) < (L[i].l.length : Int) := by omega
          have hdec : decide (L[i].l.length ≤ 100) = true := by simp; omega
          have HDE := Lib.hid hdec
          clear hdec
          go_wp2_with fail
          go_roundw
          case rel => exact ⟨i + 1, by omega, by go_num, by rw [HS.out.1, HD.out, HDE.out]; simp, HS.out.2.alloc hz _⟩
          case measure => simp [intOf]; omega
      · have hlti : ¬ (i : Int) < (L.length : Int) := by omega
        go_wp2_with fail
        go_ret
        rw [HS.out.1, List.drop_eq_nil_of_le (by omega)]
        exact ⟨rfl, HS.out.2⟩
end Go.Proofs.Ytjaopecjmmnbiaa
