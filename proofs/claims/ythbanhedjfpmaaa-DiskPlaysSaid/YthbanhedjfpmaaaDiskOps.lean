/-
  The Ops of dowserlaw03 that came in.
-/
import Derived.Test.YthbanhedjfpmaaaDiskLives
import Derived.Test.YthbanhedjfpmaaaOpens
namespace Go.Proofs.Ythbanhedjfpmaaa
set_option linter.unusedSimpArgs false
set_option linter.unusedVariables false
open Go.RowKit Go.Deep Go.WideShapes Go.ChangeShapes

/-- A thing of a script. -/
structure OpD where
  k : Int
  at_ : Int
  c : UInt8
  s : List UInt8
  long : Bool
  f : DF
  A : Option Addr
  cap : Nat
  fs : List DF
instance : Inhabited OpD := ⟨⟨0, 0, 0, [], false, ⟨0, 0, 0⟩, none, 0, []⟩⟩
def eOpD : Elem OpD where
  e := 36
  t := 22
  sz := 9
  bytes := 96
  zero := .agg #[.int .i64 0, .int .i64 0, .int .u8 0, .string ⟨#[]⟩, .bool false, .int .i64 0, .int .u64 0, .int .i64 0, .slice none 0 0]
  code := fun o => [.int .i64 o.k, .int .i64 o.at_, bv o.c, txt o.s, .bool o.long, .int .i64 o.f.at_, .int .u64 (o.f.keep : Nat), .int .i64 o.f.torn, .slice o.A o.fs.length o.cap]
  pos := by decide
  few := by decide
  len := fun _ => rfl
  one := by
    intro x u hu
    simp at hu
    rcases hu with rfl | rfl | rfl | rfl | rfl | rfl | rfl | rfl | rfl <;> rfl
  zsz := rfl
  info := by kernel_rfl
  under := Try.underlying22
def i64B (n : Int) : Prop := -9223372036854775808 ≤ n ∧ n ≤ 9223372036854775807
def DF.Fine (f : DF) : Prop := f.keep < 18446744073709551616 ∧ i64B f.torn
/-- What is known of one. -/
structure OpD.Fine (w : World) (o : OpD) : Prop where
  k : i64B o.k
  at_ : i64B o.at_
  s : o.s.length ≤ maxLen
  f : o.f.Fine
  row : ERow eDF w o.A o.fs
  fs : ∀ f ∈ o.fs, f.Fine
  len : o.fs.length ≤ o.cap
  cap : o.cap ≤ maxLen
def ScriptD (w : World) (v : Value) : Prop := ∃ A c L, v = .slice A (List.length L) c ∧ ERow eOpD w A L ∧ (∀ o ∈ L, o.Fine w) ∧ L.length ≤ c ∧ c ≤ maxLen
section
variable {H : Type} {enc : TypeId × Value → H} {w : World} {base : Nat} {spare : Nat → Bool} {held : Bool} {fuel : Nat} {cs : List Value} {x : DataW H × List MemPlace}
theorem open_u64 {t : TypeId} (ht : Try.prog.underlying t = some (.int .u64)) (h : DataW.trod enc Try.prog w base spare held fuel t cs = some x) : ∃ n : Nat, cs = [.int .u64 (n : Int)] ∧ n < 18446744073709551616 := by
  obtain ⟨n, rfl, _, hw⟩ := DataW.trod_int ht h
  simp [Lit.wf, IntKind.min, IntKind.max, IntKind.signed, IntKind.bits] at hw
  obtain ⟨m, rfl⟩ : ∃ m : Nat, n = (m : Int) := ⟨n.toNat, by omega⟩
  exact ⟨m, rfl, by omega⟩
theorem open_u8 {t : TypeId} (ht : Try.prog.underlying t = some (.int .u8)) (h : DataW.trod enc Try.prog w base spare held fuel t cs = some x) : ∃ c : UInt8, cs = [bv c] := by
  obtain ⟨n, rfl, _, hw⟩ := DataW.trod_int ht h
  simp [Lit.wf, IntKind.min, IntKind.max, IntKind.signed, IntKind.bits] at hw
  refine ⟨UInt8.ofNat n.toNat, ?_⟩
  simp [bv]
  omega
set_option maxRecDepth 20000 in
theorem open_fall (h : DataW.trod enc Try.prog w base spare held fuel 25 cs = some x) (hlen : cs.length = 3) : ∃ f : DF, cs = eDF.code f ∧ f.Fine := by
  obtain ⟨xs, k, rfl, rfl, _, hxl, hfs⟩ := DataW.trod_struct Try.underlying25 h
  match xs, hxl, cs, hlen with
  | [y0, y1, y2], _, [v0, v1, v2], _ =>
    have g0 := hfs 0 _ rfl
    have g1 := hfs 1 _ rfl
    have g2 := hfs 2 _ rfl
    obtain ⟨n0, e0, b0⟩ := open_i64 Try.underlying3 (by simpa using g0)
    obtain ⟨n1, e1, b1⟩ := open_u64 Try.underlying23 (by simpa using g1)
    obtain ⟨n2, e2, b2⟩ := open_i64 Try.underlying3 (by simpa using g2)
    have q3 : Try.prog.cellsOf 3 = 1 := by kernel_rfl
    have q4 : Try.prog.cellsOf 23 = 1 := by kernel_rfl
    have e0' : v0 = .int .i64 n0 := by simpa [q3] using e0
    have e1' : v1 = .int .u64 (n1 : Int) := by simpa [q4] using e1
    have e2' : v2 = .int .i64 n2 := by simpa [q3] using e2
    subst e0' e1' e2'
    exact ⟨⟨n0, n1, n2⟩, rfl, b1, b2⟩
set_option maxRecDepth 20000 in
theorem open_opd (h : DataW.trod enc Try.prog w base spare held fuel 36 cs = some x) (hlen : cs.length = 9) : ∃ o : OpD, cs = eOpD.code o ∧ o.Fine w := by
  obtain ⟨xs, k, rfl, rfl, _, hxl, hfs⟩ := DataW.trod_struct Try.underlying36 h
  match xs, hxl, cs, hlen with
  | [y0, y1, y2, y3, y4, y5, y6], _, [v0, v1, v2, v3, v4, v5, v6, v7, v8], _ =>
    have g0 := hfs 0 _ rfl
    have g1 := hfs 1 _ rfl
    have g2 := hfs 2 _ rfl
    have g3 := hfs 3 _ rfl
    have g4 := hfs 4 _ rfl
    have g5 := hfs 5 _ rfl
    have g6 := hfs 6 _ rfl
    have g6' := g6
    simp at g6'
    have q3 : Try.prog.cellsOf 3 = 1 := by kernel_rfl
    have q4 : Try.prog.cellsOf 5 = 1 := by kernel_rfl
    have q5 : Try.prog.cellsOf 9 = 1 := by kernel_rfl
    have q6 : Try.prog.cellsOf 4 = 1 := by kernel_rfl
    have q7 : Try.prog.cellsOf 25 = 3 := by kernel_rfl
    have q8 : Try.prog.cellsOf 34 = 1 := by kernel_rfl
    obtain ⟨n0, e0, b0⟩ := open_i64 Try.underlying3 (by simpa using g0)
    obtain ⟨n1, e1, b1⟩ := open_i64 Try.underlying3 (by simpa using g1)
    obtain ⟨n2, e2⟩ := open_u8 Try.underlying5 (by simpa using g2)
    obtain ⟨n3, e3, _, b3⟩ := DataW.trod_string Try.underlying9 (by simpa using g3)
    obtain ⟨n4, e4, _⟩ := DataW.trod_bool Try.underlying4 (by simpa using g4)
    obtain ⟨n5, e5, b5⟩ := open_fall (by simpa using g5) (by simp [q7])
    obtain ⟨A, L, c, e6, r6, d6, l6, m6⟩ := open_elems eDF (by kernel_rfl) DF.Fine (fun fuel cs x h hlen => open_fall h hlen) g6'
    have e0' : v0 = .int .i64 n0 := by simpa [q3] using e0
    have e1' : v1 = .int .i64 n1 := by simpa [q3] using e1
    have e2' : v2 = bv n2 := by simpa [q4] using e2
    have e3' : v3 = .string n3 := by simpa [q5] using e3
    have e4' : v4 = .bool n4 := by simpa [q6] using e4
    have e5' : [v5, v6, v7] = eDF.code n5 := by simpa [q7] using e5
    have e6' : v8 = .slice A L.length c := by simpa [q8] using e6
    subst e0' e1' e2' e3' e4' e6'
    obtain ⟨f0, f1, f2⟩ := n5
    simp [eDF] at e5'
    obtain ⟨rfl, rfl, rfl⟩ := e5'
    exact ⟨⟨n0, n1, n2, n3.data.toList, n4, ⟨f0, f1, f2⟩, A, c, L⟩, rfl, b0, b1, by rw [← Lib.size_eq]; exact b3, b5, r6, d6, l6, m6⟩
end
set_option maxRecDepth 20000 in
theorem opd_in {H : Type} {enc : TypeId × Value → H} {w : World} {base : Nat} {v : Value} {d : DataW H} {p : List MemPlace}
    (_hv : Value.okWide Try.prog w .any base 22 v) (h : DataW.Trod enc Try.prog w 0 (fun _ => true) true 22 v d p) : ScriptD w v := by
  obtain ⟨a0, len0, cap0, rfl⟩ := okWide_slice Try.underlying22 _hv
  obtain ⟨fuel, hf⟩ := h
  obtain ⟨A, L, c, h1, h2, h3, h4, h5⟩ := open_elems eOpD (by kernel_rfl) (OpD.Fine w) (fun fuel cs x h hlen => open_opd h hlen) hf
  simp [Value.cells] at h1
  obtain ⟨rfl, rfl, rfl⟩ := h1
  exact ⟨_, _, L, rfl, h2, h3, h4, h5⟩
end Go.Proofs.Ythbanhedjfpmaaa
