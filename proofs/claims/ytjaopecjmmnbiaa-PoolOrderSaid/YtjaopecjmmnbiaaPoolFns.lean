/-
  The contracts of the library's functions that package pool calls: slices.Clone, slices.IndexFunc.
-/
import Derived.Test.YtjaopecjmmnbiaaBase
namespace Go.Proofs.Ytjaopecjmmnbiaa
open Go.RowKit

set_option maxHeartbeats 400000 in
theorem clone_any (w : World) (A : Option Addr) (c : Nat) (l : List UInt8) (hr : BRow w A l) (hl : l.length ≤ 1000000) :
    Calls Try.prog 22 #[.slice A l.length c] w (RetB w l) := by
  cases A with
  | none =>
    have hl0 : l = [] := by
      cases l with
      | nil => rfl
      | cons x l => obtain ⟨b, o, h, _⟩ := hr (by simp); cases h
    subst hl0
    have hq := Lib.run_eql_slice_nil (P := Try.prog) w 31 5 none 0 c 0 0 Try.underlying31
    go_enter Try.func22, Try.ntmps22
    go_wp2_with fail
    go_ret
    exact ⟨none, 0, rfl, BOwn.nil _ _, Below.refl _ _⟩
  | some a =>
    have hq := Lib.run_eql_slice_nil (P := Try.prog) w 31 5 (some a) l.length c 0 0 Try.underlying31
    go_enter Try.func22, Try.ntmps22
    have hoe : BOwn (w.alloc (.cells #[] 5)) w.heap.size (some ⟨w.heap.size, 0, none⟩) 0 [] := BOwn.new w [] (by simp) (Nat.le_refl _)
    go_wp2_with (at_builtin; refine wpList_append_bytes rfl (.tmp 5) (.tmp 6) rfl _ rfl hoe rfl _ rfl (hr.alloc _) rfl (by simp; omega) (by simp) ?_; intro A3 c3 w3 ho3 hb3 _ _)
    go_ret
    rw [List.nil_append] at ho3
    exact ⟨A3, c3, by simp, ho3, ((Below.refl _ _).alloc (Nat.le_refl _) _).trans hb3⟩

/-- A frame of the pool's: its page, its mark, its bytes, where they lie. -/
structure Fr where
  page : Int
  mark : Bool
  s : List UInt8
  A : Option Addr
  c : Nat
/-- A frame's cells. -/
def Fr.cells (f : Fr) : List Value := [.int .i64 f.page, .bool f.mark, .slice f.A f.s.length f.c]
/-- The frames L lie behind the address A, three cells each. -/
def FRow (w : World) (A : Option Addr) (L : List Fr) : Prop :=
  0 < L.length → ∃ b o, A = some ⟨b, o, none⟩ ∧ b < w.heap.size ∧ ∀ j (h : j < L.length),
    w.cell? ⟨b, o + j * 3, none⟩ = some (.int .i64 L[j].page) ∧ w.cell? ⟨b, o + j * 3 + 1, none⟩ = some (.bool L[j].mark) ∧ w.cell? ⟨b, o + j * 3 + 2, none⟩ = some (.slice L[j].A L[j].s.length L[j].c)
theorem FRow.below {w w' : World} {A : Option Addr} {L : List Fr} (h : FRow w A L) (hb : Below w.heap.size w w') : FRow w' A L := fun hl => by
  obtain ⟨b, o, e, hlt, hc⟩ := h hl
  exact ⟨b, o, e, Nat.lt_of_lt_of_le hlt hb.size, fun j hj => ⟨(hb.cell (p := ⟨b, o + j * 3, none⟩) hlt).trans (hc j hj).1, (hb.cell (p := ⟨b, o + j * 3 + 1, none⟩) hlt).trans (hc j hj).2.1, (hb.cell (p := ⟨b, o + j * 3 + 2, none⟩) hlt).trans (hc j hj).2.2⟩⟩
/-- A frame by value. -/
def Fr.v (f : Fr) : Value := .agg #[.int .i64 f.page, .bool f.mark, .slice f.A f.s.length f.c]

set_option maxHeartbeats 400000 in
theorem place1_any (w : World) (f : Fr) : Calls Try.prog 27 #[f.v] w fun e w' => e = .returned (.bool (decide (f.page < 0))) ∧ Below w.heap.size w w' := by
  unfold Fr.v
  go_enter Try.func27, Try.ntmps27
  go_wp2_with fail
  go_ret
  exact ⟨rfl, (Below.refl _ _).alloc (Nat.le_refl _) _⟩

/-- The first frame that is empty. -/
def firstEmpty : List Fr → Nat → Int
  | [], _ => -1
  | f :: L, i => if f.page < 0 then (i : Int) else firstEmpty L (i + 1)

set_option maxHeartbeats 1000000 in
theorem indexFunc_any (w : World) (A : Option Addr) (c : Nat) (L : List Fr) (hr : FRow w A L) (hl : L.length ≤ 1000) :
    Calls Try.prog 26 #[.slice A L.length c, .func (.func 27) #[] #[]] w fun e w' => e = .returned (.int .i64 (firstEmpty L 0)) ∧ Below w.heap.size w w' := by
  go_enter Try.func26, Try.ntmps26
  go_wp2_with fail
  go_loopw [8] (fun iv wr => ∃ i : Nat, i ≤ L.length ∧ iv = .int .i64 i ∧ Below w.heap.size w wr ∧ Hid (firstEmpty L 0 = firstEmpty (L.drop i) i)) (fun iv _ => L.length - (intOf iv).toNat)
  case atStart => exact ⟨0, by omega, rfl, Below.refl _ _, rfl⟩
  case round =>
    obtain ⟨i, hi, rfl, hB, HF⟩ := hrel
    by_cases hlt : i < L.length
    · have hrx := hr.below hB
      obtain ⟨b, o, rfl, hb, hc⟩ := hrx (by omega)
      obtain ⟨h0, h1, h2⟩ := hc i hlt
      have HD : Hid (firstEmpty (L.drop i) i = if L[i].page < 0 then (i : Int) else firstEmpty (L.drop (i + 1)) (i + 1)) := by
        show _ = _
        rw [List.drop_eq_getElem_cons hlt, firstEmpty]
      generalize L[i] = f at h0 h1 h2 HD
      have hlti : (i : Int) < (L.length : Int) := by omega
      clear hc hr hrx
      by_cases hp : f.page < 0
      · have hd : decide (f.page < 0) = true := by simpa using hp
        go_wp2_with fail
        refine (place1_any wr f).mono ?_
        rintro e w2 ⟨rfl, hb2⟩
        rw [hd]
        go_wp2_with fail
        go_ret
        rw [HF.out, HD.out, if_pos hp]
        exact ⟨rfl, hB.trans (hb2.mono hB.size)⟩
      · have hd : decide (f.page < 0) = false := by simpa using hp
        go_wp2_with fail
        refine (place1_any wr f).mono ?_
        rintro e w2 ⟨rfl, hb2⟩
        rw [hd]
        go_wp2_with fail
        go_roundw
        case rel => exact ⟨i + 1, by omega, by go_num, hB.trans (hb2.mono hB.size), by show _ = _; rw [HF.out, HD.out, if_neg (by omega)]⟩
        case measure => simp [intOf]; omega
    · have hlti : ¬ (i : Int) < (L.length : Int) := by omega
      go_wp2_with fail
      go_ret
      rw [HF.out, List.drop_eq_nil_of_le (by omega)]
      exact ⟨rfl, hB⟩
end Go.Proofs.Ytjaopecjmmnbiaa
