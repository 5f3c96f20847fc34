/-
  The contracts of dowserref01.Take, TakeInt, Count, TakeText, TakeBool, End.
-/
import Derived.Test.YtgdlfihiheeniaaWireRef
import Derived.Test.YtgdlfihiheeniaaWireRn
import Derived.Test.YtgdlfihiheeniaaRegionSt
import Derived.Laws.ResultCell
namespace Go.Proofs.Ytgdlfihiheeniaa
open Go.RowKit

/-- A reader of the document's, by value. -/
def rv (r : Wire.RS) : Value := .agg #[txt r.l, .int .i64 r.e]
/-- What is answered; the memory that was there is left alone. -/
def Ans (w : World) (v : Value) (e : Ending) (w' : World) : Prop := e = .returned v ∧ Below w.heap.size w w'

theorem load_rv {w : World} {g : Nat} {x y : Value} (h0 : w.cell? ⟨g, 0, none⟩ = some x) (h1 : w.cell? ⟨g, 1, none⟩ = some y) : (loadVar 55 ⟨g, 0, none⟩).run Try.prog w = .ok (.agg #[x, y]) w := by
  go_simp
/-- The return of a function whose first result is a reader of the document's that lies in memory. -/
theorem ret_rv2 {fn : Func} {R : Ending → World → Prop} {a : Act} {w : World} {p u : Tmp} {g : Nat} {x y v : Value} (h : fn.results = #[.cell p 55, .tmp u]) (hd : a.defers = [])
    (hp : a.tmps.getD p undef = .pointer (some ⟨g, 0, none⟩)) (hu : a.tmps.getD u undef = v) (h0 : w.cell? ⟨g, 0, none⟩ = some x) (h1 : w.cell? ⟨g, 1, none⟩ = some y)
    (hR : R (.returned (.tuple #[.agg #[x, y], v])) w) : bodyPost Try.prog fn R .ret a w := by
  refine bodyPost_ret (v := .tuple #[.agg #[x, y], v]) ?_ hd hR
  rw [results_cell_tmp h, hp, hu]
  have := load_rv h0 h1
  go_simp
theorem ret_rv1 {fn : Func} {R : Ending → World → Prop} {a : Act} {w : World} {p : Tmp} {g : Nat} {x y : Value} (h : fn.results = #[.cell p 55]) (hd : a.defers = [])
    (hp : a.tmps.getD p undef = .pointer (some ⟨g, 0, none⟩)) (h0 : w.cell? ⟨g, 0, none⟩ = some x) (h1 : w.cell? ⟨g, 1, none⟩ = some y)
    (hR : R (.returned (.agg #[x, y])) w) : bodyPost Try.prog fn R .ret a w := by
  refine bodyPost_ret (v := .agg #[x, y]) ?_ hd hR
  have e : (results fn a.tmps).run Try.prog w = ((asAddr (a.tmps.getD p undef)).run Try.prog w).andThen fun b w1 => (loadVar 55 b).run Try.prog w1 := by
    simp only [results, h]
    simp [Sem.run_bind]
  rw [e, hp]
  have := load_rv h0 h1
  go_simp

theorem add_unit (a x i u : Nat) (ha : a < 128 ^ i) (hi : i ≤ 9) (hc : x < 256) (hu : u = 128 ^ i) (h9 : i = 9 → x ≤ 1) :
    IntKind.u64.wrap ((a : Int) + IntKind.u64.wrap ((u : Int) * ((x : Int) % 128))) = ((a + x % 128 * 128 ^ i : Nat) : Int) := by
  subst hu
  have hlt : a + x % 128 * 128 ^ i < 18446744073709551616 := by
    have h1 : x % 128 < 128 := Nat.mod_lt _ (by omega)
    rcases Nat.lt_or_ge i 9 with h | h
    · have h2 : 128 ^ i ≤ 128 ^ 8 := Nat.pow_le_pow_right (by omega) (by omega)
      have h3 : x % 128 * 128 ^ i ≤ 127 * 128 ^ 8 := Nat.mul_le_mul (by omega) h2
      omega
    · obtain rfl : i = 9 := by omega
      have := h9 rfl
      have h3 : x % 128 * 128 ^ 9 ≤ 1 * 128 ^ 9 := Nat.mul_le_mul (by omega) (Nat.le_refl _)
      omega
  have e1 : ((128 ^ i : Nat) : Int) * ((x : Int) % 128) = ((x % 128 * 128 ^ i : Nat) : Int) := by
    rw [Nat.mul_comm]; simp
  rw [e1]
  generalize x % 128 * 128 ^ i = q at hlt
  rw [IntWalk.u64_in (q : Int) (by omega), IntWalk.u64_in _ (by omega)]
  omega
theorem next_unit (i u : Nat) (hi : i < 9) (hu : u = 128 ^ i) : IntKind.u64.wrap ((u : Int) * 128) = ((128 ^ (i + 1) : Nat) : Int) := by
  subst hu
  have h2 : 128 ^ (i + 1) ≤ 128 ^ 9 := Nat.pow_le_pow_right (by omega) (by omega)
  have e1 : ((128 ^ i : Nat) : Int) * 128 = ((128 ^ (i + 1) : Nat) : Int) := by rw [Nat.pow_succ]; simp
  rw [e1]
  generalize 128 ^ (i + 1) = q at h2
  exact IntWalk.u64_in _ (by omega)

theorem ans_err {w w' : World} {l : List UInt8} {er : Nat} (h : (Wire.tk 0 0 l).1 = er) (h0 : er ≠ 0) (hb : Below w.heap.size w w') :
    Ans w (.tuple #[rv (Wire.take ⟨l, 0⟩).1, .int .u64 ((Wire.take ⟨l, 0⟩).2 : Nat)]) (.returned (.tuple #[.agg #[.string ⟨l.toArray⟩, .int .i64 (er : Int)], .int .u64 0])) w' := by
  have e : Wire.take ⟨l, 0⟩ = (⟨l, (er : Int)⟩, 0) := by
    unfold Wire.take
    rw [if_neg (by simp), if_pos (by rw [h]; exact h0), h]
  rw [e]
  exact ⟨rfl, hb⟩
theorem ans_ok {w w' : World} {l : List UInt8} {u v : Nat} (h : Wire.tk 0 0 l = (0, u, v)) (hb : Below w.heap.size w w') (s : ByteArray) (hs : s = ⟨(l.drop u).toArray⟩) (x : Int) (hx : x = (v : Nat)) :
    Ans w (.tuple #[rv (Wire.take ⟨l, 0⟩).1, .int .u64 ((Wire.take ⟨l, 0⟩).2 : Nat)]) (.returned (.tuple #[.agg #[.string s, .int .i64 0], .int .u64 x])) w' := by
  have e : Wire.take ⟨l, 0⟩ = (⟨l.drop u, 0⟩, v) := by
    unfold Wire.take
    rw [if_neg (by simp), if_neg (by rw [h]; simp), h]
  rw [e]
  subst hs hx
  exact ⟨rfl, hb⟩
theorem cut_end (l : List UInt8) (k : Nat) : (ByteArray.mk l.toArray).extract k l.length = ⟨(l.drop k).toArray⟩ := by
  apply ByteArray.ext
  simp
  exact List.take_of_length_le (by simp)

set_option maxRecDepth 20000 in
set_option maxHeartbeats 1000000 in
theorem reftake_any (w : World) (r : Wire.RS) (hl : r.l.length ≤ 1000000) :
    Calls Try.prog 42 #[rv r] w (Ans w (.tuple #[rv (Wire.take r).1, .int .u64 ((Wire.take r).2 : Nat)])) := by
  obtain ⟨l, e⟩ := r
  simp only at hl
  by_cases he : e = 0
  · subst he
    have hb2 : ∀ o o', Below w.heap.size w ((w.alloc o).alloc o') := fun o o' => ((Below.refl _ _).alloc (Nat.le_refl _) _).alloc (by simp) _
    have HB := Lib.hid hb2
    clear hb2
    unfold rv txt
    go_enter Try.func42, Try.ntmps42
    go_wp2_with fail
    go_loop [4, 5, 6] (fun nv uv iv => ∃ i a u : Nat, i ≤ 10 ∧ iv = .int .i64 i ∧ nv = .int .u64 (a : Nat) ∧ uv = .int .u64 (u : Nat) ∧ i ≤ 9 ∧ Hid (u = 128 ^ i) ∧ Acc a i ∧ i ≤ l.length ∧ Hid (Wire.tk 0 0 l = Wire.tk i a (l.drop i))) (fun _ _ iv => 10 - (intOf iv).toNat)
    case atStart => exact ⟨0, 0, 1, by omega, rfl, rfl, rfl, by omega, rfl, ⟨by simp⟩, Nat.zero_le _, rfl⟩
    case round =>
      obtain ⟨i, a, u, hi10, rfl, rfl, rfl, hi, HU, HA, hil, HT⟩ := hrel
      by_cases hlt : i < l.length
      · have HC := Lib.hid (tk_cons i a l hlt)
        have hcl := l[i].toNat_lt
        have hidx : (ByteArray.mk l.toArray)[i]'(by simpa [ByteArray.size] using hlt) = l[i] := rfl
        generalize l[i] = y at hcl hidx HC
        obtain ⟨x, hx⟩ : ∃ x, y.toNat = x := ⟨_, rfl⟩
        rw [hx] at hcl HC
        have hi10l : (i : Int) < 10 := by omega
        have HO0 := Lib.hid (add_unit a x i u HA.lt hi hcl HU.out)
        by_cases hi9 : i = 9
        · have hi9b : ((i : Int) == 9) = true := by simp; omega
          have hi9l : 9 ≤ i := by omega
          clear hi9
          by_cases hx1 : 1 < x
          · have hx1l : (1 : Int) < (x : Int) := by omega
            go_wp2_with fail
            refine ret_rv2 rfl rfl rfl rfl (by go_simp; all_goals rfl) (by go_simp; all_goals rfl) ?_
            refine ans_err (er := 7) ?_ (by omega) (HB.out _ _)
            rw [HT.out, HC.out]
            rw [if_pos ⟨by omega, hx1⟩]
          · have HO := Lib.hid (HO0.out (by omega))
            have hxl : ((x : Int) < 128) := by omega
            by_cases hx0 : x = 0
            · have hx0b : ((x : Int) == 0) = true := by simp; omega
              clear hx0
              go_wp2_with fail
              refine ret_rv2 rfl rfl rfl rfl (by go_simp; all_goals rfl) (by go_simp; all_goals rfl) ?_
              refine ans_err (er := 7) ?_ (by omega) (HB.out _ _)
              rw [HT.out, HC.out]
              rw [if_neg (by omega), if_neg (by omega), if_pos ⟨by simpa using hx0b, by omega⟩]
            · have hx0b : ((x : Int) == 0) = false := by simp; omega
              go_wp2_with fail
              refine ret_rv2 rfl rfl rfl rfl (by go_simp; all_goals rfl) (by go_simp; all_goals rfl) ?_
              refine ans_ok (u := i + 1) ?_ (HB.out _ _) _ ?_ _ HO.out
              · rw [HT.out, HC.out, if_neg (by omega), if_neg (by omega), if_neg (by omega)]
              · exact cut_end l (i + 1)
        · have HO := Lib.hid (HO0.out (by omega))
          have hi9b : ((i : Int) == 9) = false := by simp; omega
          by_cases hx : 128 ≤ x
          · go_wp2_with fail
            go_round
            case rel =>
              refine ⟨i + 1, a + x % 128 * 128 ^ i, 128 ^ (i + 1), by omega, by go_num, by rw [HO.out], by rw [next_unit i u (by omega) HU.out], by omega, rfl, ⟨?_⟩, by omega, ?_⟩
              · have h3 := HA.lt
                have h4 : x % 128 * 128 ^ i ≤ 127 * 128 ^ i := Nat.mul_le_mul (by omega) (Nat.le_refl _)
                rw [Nat.pow_succ]
                omega
              · show _ = _
                rw [HT.out, HC.out, if_neg (by omega), if_pos hx]
            case measure => simp [intOf]; omega
          · have hxl : ((x : Int) < 128) := by omega
            by_cases hx0 : x = 0
            · have hx0b : ((x : Int) == 0) = true := by simp; omega
              clear hx0
              by_cases hi0 : i ≤ 0
              · have hi0b : ¬ (0 : Int) < (i : Int) := by omega
                go_wp2_with fail
                refine ret_rv2 rfl rfl rfl rfl (by go_simp; all_goals rfl) (by go_simp; all_goals rfl) ?_
                refine ans_ok (u := i + 1) ?_ (HB.out _ _) _ ?_ _ HO.out
                · rw [HT.out, HC.out, if_neg (by omega), if_neg (by omega), if_neg (by omega)]
                · exact cut_end l (i + 1)
              · have hi0b : (0 : Int) < (i : Int) := by omega
                go_wp2_with fail
                refine ret_rv2 rfl rfl rfl rfl (by go_simp; all_goals rfl) (by go_simp; all_goals rfl) ?_
                refine ans_err (er := 7) ?_ (by omega) (HB.out _ _)
                rw [HT.out, HC.out]
                rw [if_neg (by omega), if_neg (by omega), if_pos ⟨by simpa using hx0b, by omega⟩]
            · have hx0b : ((x : Int) == 0) = false := by simp; omega
              go_wp2_with fail
              refine ret_rv2 rfl rfl rfl rfl (by go_simp; all_goals rfl) (by go_simp; all_goals rfl) ?_
              refine ans_ok (u := i + 1) ?_ (HB.out _ _) _ ?_ _ HO.out
              · rw [HT.out, HC.out, if_neg (by omega), if_neg (by omega), if_neg (by omega)]
              · exact cut_end l (i + 1)
      · obtain rfl : i = l.length := by omega
        have hni : ¬ (l.length : Int) < (l.length : Int) := by omega
        go_wp2_with fail
        refine ret_rv2 rfl rfl rfl rfl (by go_simp; all_goals rfl) (by go_simp; all_goals rfl) ?_
        refine ans_err (er := 10) ?_ (by omega) (HB.out _ _)
        rw [HT.out, List.drop_length]
        rfl
  · have heb : (e == 0) = false := by simpa using he
    have heb2 : (e != 0) = true := by simpa using he
    have HT : Hid (Wire.take ⟨l, e⟩ = (⟨l, e⟩, 0)) := by
      show _ = _
      unfold Wire.take
      rw [if_pos he]
    clear he
    have hb2 : ∀ o o', Below w.heap.size w ((w.alloc o).alloc o') := fun o o' => ((Below.refl _ _).alloc (Nat.le_refl _) _).alloc (by simp) _
    have HB := Lib.hid hb2
    clear hb2
    unfold rv txt
    go_enter Try.func42, Try.ntmps42
    go_wp2_with fail
    refine ret_rv2 rfl rfl rfl rfl (by go_simp; all_goals rfl) (by go_simp; all_goals rfl) ?_
    rw [HT.out]
    exact ⟨rfl, HB.out _ _⟩
end Go.Proofs.Ytgdlfihiheeniaa
