/-
  The walk of dowserlaw05.PoolOrder.
-/
import Derived.Test.YtjaopecjmmnbiaaPoolOrder0
import Derived.Test.YtjaopecjmmnbiaaPoolLast
namespace Go.Proofs.Ytjaopecjmmnbiaa
set_option linter.unusedSimpArgs false
set_option linter.unusedVariables false
open Go.RowKit Go.Maps

structure OInv (w : World) (B g : Nat) (b : PB) (N : Nat) (q : PS) (is : List Int) (wr : World) : Prop where
  pool : PoolOf wr B b N q
  l : Blk wr g 30 (is.map (Value.int .i64))
  n22 : is.length = 22
  own : ∀ k, b.own k → k < g
  wB : w.heap.size ≤ B
  bel : Below w.heap.size w wr
section
variable {w wr w' : World} {B g N N' : Nat} {b : PB} {q q' : PS} {is : List Int}
theorem OInv.pooled (h : OInv w B g b N q is wr) (hp : PoolOf w' B b N' q') (hk : Keeps wr w' b.own) : OInv w B g b N' q' is w' :=
  ⟨hp, h.l.kept hk (fun ho => by have := h.own _ ho; omega), h.n22, h.own, h.wB, hk.below h.bel h.bel.size (fun k hk => by have := (h.pool.lt k hk).1; have := h.wB; omega)⟩
theorem OInv.set (h : OInv w B g b N q is wr) (m : Nat) (x : Int) : OInv w B g b N q (is.set m x) (wr.setCell ⟨g, m, none⟩ (.int .i64 x)) := by
  have hg := grown_store wr g m (.int .i64 x)
  have hgw : w.heap.size ≤ g := by
    have h1 := h.pool.lt b.gp (.inl rfl)
    have h2 := h.own b.gp (.inl rfl)
    have := h.wB
    omega
  refine ⟨h.pool.aside hg h.l (by simp) (fun ho => by have := h.own _ ho; omega), ?_, by simpa using h.n22, h.own, h.wB, h.bel.setCell (p := ⟨g, m, none⟩) hgw _⟩
  rw [List.map_set]
  exact h.l.set m (.int .i64 x)
end

set_option maxRecDepth 20000 in
set_option maxHeartbeats 2000000 in
theorem poolOrder_main (w : World) (n : Int) (A : Option Addr) (c : Nat) (L : List Int) (hr : ERow eInt w A L) (hL : L.length ≤ 100) :
    Calls Try.prog 3 #[.int .i64 n, .slice A L.length c] w fun e w' => e = .returned (.bool true) ∧ Below w.heap.size w w' := by
  obtain ⟨m, hm, hrem⟩ := u64_rem_any n 20 (by decide)
  simp only [Int.cast_ofNat_Int] at hrem
  have HF := Lib.hid hr
  have hLi : ¬ (100 : Int) < (L.length : Int) := by omega
  clear hr
  go_enter Try.func3, Try.ntmps3
  go_wp2_with fail
  refine (lives_any w).mono ?_
  rintro e w1 ⟨rfl, hB1⟩
  have HB1 := Lib.hid hB1
  clear hB1
  go_wp2_with fail
  have hkk : (2 + (m : Int)) = ((2 + m : Nat) : Int) := by omega
  rw [hkk]
  clear hkk hrem
  obtain ⟨k, hk⟩ : ∃ k, 2 + m = k := ⟨_, rfl⟩
  rw [hk]
  have hk2 : 2 ≤ k := by omega
  have hk21 : k ≤ 21 := by omega
  clear hk hm
  refine (new_of w1 k (by omega) (by omega)).mono ?_
  rintro e w2 ⟨b, rfl, hP2, hB2⟩
  have hz1 := HB1.out.size
  have HP2 := Lib.hid hP2
  have HI : Hid (PoolOf w2 w1.heap.size b 0 (ofill k 0) ∧ Below w.heap.size w w2 ∧ w2.heap.size ≤ w2.heap.size) := ⟨hP2, HB1.out.trans (hB2.mono hz1), Nat.le_refl _⟩
  clear hB2 hP2
  go_wp2_with fail
  go_loopw [34] (fun iv wr => ∃ i : Nat, i ≤ k ∧ iv = .int .i64 i ∧ Hid (PoolOf wr w1.heap.size b i (ofill k i) ∧ Below w.heap.size w wr ∧ w2.heap.size ≤ wr.heap.size)) (fun iv _ => k - (intOf iv).toNat)
  case atStart => exact ⟨0, by omega, rfl, HI⟩
  case round =>
    obtain ⟨i, hi, rfl, HS⟩ := hrel
    clear HI
    by_cases hlt : i < k
    · have hlti : (i : Int) < (k : Int) := by omega
      go_wp2_with fail
      refine (put_anyx (fun _ => False) wr w1.heap.size i b (ofill k i) (HS.out.1.toX (fun _ h => h.elim)) (fun _ h => h.elim) (by omega) i (by omega) none 0 [] BRow.nil (by simp) (fun _ a ha => by cases ha)).mono ?_
      intro e w4 hI4
      obtain ⟨rfl, hP4, hK4⟩ := hI4
      have HS4 : Hid (PoolOf w4 w1.heap.size b (i + 1) (ofill k (i + 1)) ∧ Below w.heap.size w w4 ∧ w2.heap.size ≤ w4.heap.size) :=
        ⟨by rw [ofill_succ]; exact hP4.toOf, hK4.below HS.out.2.1 HS.out.2.1.size (fun k hk => Nat.le_trans hz1 (HS.out.1.lt k hk).1), Nat.le_trans HS.out.2.2 hK4.size⟩
      clear hP4 hK4
      generalize ((ofill k i).putAny (i : Int) []).1 = r4
      go_wp2_with fail
      go_roundw
      case rel => exact ⟨i + 1, by omega, by go_num, HS4.out⟩
      case measure => simp [intOf]; omega
    · obtain rfl : i = k := by omega
      have hlti : ¬ (i : Int) < (i : Int) := by omega
      obtain ⟨o1, o2, o3⟩ := ostart i hk2 hk21
      have HO := Lib.hid (And.intro o2 o3)
      clear o2 o3
      go_wp2_with fail
      refine (put_anyx (fun _ => False) wr w1.heap.size i b (ofill i i) (HS.out.1.toX (fun _ h => h.elim)) (fun _ h => h.elim) (by omega) i (by omega) none 0 [] BRow.nil (by simp) (fun _ a ha => by cases ha)).mono ?_
      intro e w4 hI4
      obtain ⟨rfl, hP4, hK4⟩ := hI4
      generalize (ofill i i).putAny (i : Int) [] = r4 at hP4 HO o1 ⊢
      obtain ⟨g4, q4⟩ := r4
      simp only at o1
      subst o1
      have HS4 : Hid (PoolOf w4 w1.heap.size b (i + 1) q4 ∧ Below w.heap.size w w4 ∧ w2.heap.size ≤ w4.heap.size) :=
        ⟨hP4.toOf, hK4.below HS.out.2.1 HS.out.2.1.size (fun k hk => Nat.le_trans hz1 (HS.out.1.lt k hk).1), Nat.le_trans HS.out.2.2 hK4.size⟩
      clear hP4 hK4
      go_wp2_with fail
      generalize hW0 : World.alloc w4 (.cells _ _) = W
      obtain ⟨ba0, hz0, hB0⟩ := fresh1 hW0
      clear hW0
      have HI : Hid (OInv w w1.heap.size w4.heap.size b (i + 1) q4 (List.replicate 22 0) W) :=
        ⟨HS4.out.1.below hB0, ba0, rfl, fun k hk => (HS4.out.1.lt k hk).2, hz1, HS4.out.2.1.trans (hB0.mono HS4.out.2.1.size)⟩
      clear ba0 hB0
      go_loopw [47] (fun jv wr2 => ∃ (j : Nat) (q : PS) (is : List Int), j ≤ L.length ∧ jv = .int .i64 j ∧ Hid (OInv w w1.heap.size w4.heap.size b (i + 1 + j) q is wr2 ∧ OSt i 1 1 is q ((i : Int) + 1) ∧ ∀ f ∈ q.L, f.page ≠ 0)) (fun jv _ => L.length - (intOf jv).toNat)
      case atStart => exact ⟨0, _, _, by omega, rfl, HI.out, HO.out.1, HO.out.2⟩
      case round =>
        obtain ⟨j, q, is, hj, rfl, HJ⟩ := hrel
        clear HI
        by_cases hjl : j < L.length
        · have hji : (j : Int) < (L.length : Int) := by omega
          obtain ⟨bo, o, rfl, hb, d0⟩ := int_at (HF.out.below HJ.out.1.bel) hjl
          generalize L[j] = pn at d0
          obtain ⟨x, hx, hxr⟩ := u64_rem_any pn i (by omega)
          have hin : ((i : Int) == 0) = false := by simp; omega
          have hin2 : (i : Int) ≠ 0 := by omega
          have hN : i + 1 + j < 1000000 := by omega
          have hxi : (x : Int) < 22 := by omega
          go_wp2_with fail
          refine (get_of wr w1.heap.size (i + 1 + j) b q HJ.out.1.pool hN x (by omega) (by omega)).mono ?_
          intro e w5 hI5
          obtain ⟨⟨A5, c5, rfl, hbr5, hfr5⟩, hP5, hK5⟩ := hI5
          have hos := HJ.out.2.1.get HJ.out.2.2 HJ.out.1.pool.good hx (by rw [HJ.out.1.n22]; omega)
          have HI5 := Lib.hid (HJ.out.1.pooled hP5 hK5)
          have HI6 := Lib.hid (And.intro (HI5.out.set x 1) hos)
          have e8 := HI5.out.l.cell x
          have f8 := HI5.out.l.free x
          have hlt8 := HI5.out.l.lt
          rw [List.getElem?_map, List.getElem?_eq_getElem (by rw [HI5.out.n22]; omega)] at e8
          simp only [Option.map_some] at e8
          clear hbr5 hfr5 hP5 hK5 hos
          generalize (q.get (x : Int)).1 = r5 at ⊢
          generalize (q.get (x : Int)).2 = q5 at HI6 HI5 ⊢
          go_wp2_with fail
          go_roundw
          case rel => exact ⟨j + 1, q5, _, by omega, by go_num, HI6.out.1, HI6.out.2⟩
          case measure => simp [intOf]; omega
        · have hji : ¬ (j : Int) < (L.length : Int) := by omega
          have HJ0 : Hid (OInv w w1.heap.size w4.heap.size b (i + 1 + j) q is wr ∧ OSt i 1 1 is q ((i : Int) + 1)) := ⟨HJ.out.1, HJ.out.2.1⟩
          clear HJ
          go_wp2_with fail
          go_loopw [13, 14] (fun nv tv wr3 => ∃ (t h N : Nat) (q : PS) (nx : Int), 1 ≤ t ∧ t ≤ i ∧ N ≤ i + 101 + t ∧ nv = .int .i64 nx ∧ tv = .int .i64 t ∧ (i : Int) < nx ∧ nx ≤ i + t ∧ Hid (OInv w w1.heap.size w4.heap.size b N q is wr3 ∧ OSt i h t is q nx)) (fun _ tv _ => i - (intOf tv).toNat)
          case atStart => exact ⟨1, 1, i + 1 + j, q, (i : Int) + 1, by omega, by omega, by omega, rfl, rfl, by omega, by omega, HJ0.out⟩
          case round =>
            obtain ⟨t, h, N, q, nx, ht1, hti, hNt, rfl, rfl, hnx1, hnx2, HT⟩ := hrel
            clear HJ0
            by_cases htl : t < i
            · have htli : (t : Int) < (i : Int) := by omega
              have ht22 : (t : Int) < 22 := by omega
              have ht22n : t < is.length := by rw [HT.out.1.n22]; omega
              have e8 := HT.out.1.l.cell t
              rw [List.getElem?_map, List.getElem?_eq_getElem ht22n] at e8
              simp only [Option.map_some] at e8
              by_cases h1 : is[t] = 1
              · have h1b : (is[t] == 1) = true := by simpa using h1
                have HS1 := Lib.hid (HT.out.2.step (by rw [List.getElem?_eq_getElem ht22n, h1]))
                clear h1
                go_wp2_with fail
                go_roundw
                case rel => exact ⟨t + 1, h, N, q, nx, by omega, by omega, by omega, rfl, by go_num, by omega, by omega, HT.out.1, HS1.out⟩
                case measure => simp [intOf]; omega
              · have h1b : (is[t] == 1) = false := by simpa using h1
                have hpp := HT.out.2.put HT.out.1.pool.good htl (by rw [List.getElem?_eq_getElem ht22n]; simpa using h1) (by omega)
                clear h1
                go_wp2_with fail
                refine (put_anyx (fun _ => False) wr w1.heap.size N b q (HT.out.1.pool.toX (fun _ h => h.elim)) (fun _ h => h.elim) (by omega) nx (by omega) none 0 [] BRow.nil (by simp) (fun _ a ha => by cases ha)).mono ?_
                intro e w5 hI5
                obtain ⟨rfl, hP5, hK5⟩ := hI5
                generalize q.putAny nx [] = r5 at hpp hP5 ⊢
                obtain ⟨g5, q5⟩ := r5
                obtain ⟨hg5, hos5⟩ := hpp
                simp only at hg5
                subst hg5
                have HI5 := Lib.hid (And.intro (HT.out.1.pooled hP5.toOf hK5) hos5)
                clear hos5 hP5 hK5 e8
                go_wp2_with fail
                go_roundw
                case rel => exact ⟨t + 1, t + 1, N + 1, q5, nx + 1, by omega, by omega, by omega, rfl, by go_num, by omega, by omega, HI5.out⟩
                case measure => simp [intOf]; omega
            · have htli : ¬ (t : Int) < (i : Int) := by omega
              go_wp2_with fail
              go_ret
              exact ⟨rfl, HT.out.1.bel⟩

set_option maxRecDepth 20000 in
set_option maxHeartbeats 1000000 in
theorem poolOrder_walk (w : World) (n : Int) (_wf : (Lit.int .i64 n).wf = true) (v : Value) (hv : IntsIn w v) :
    Calls Try.prog 3 #[.int .i64 n, v] w fun e w' => e = .returned (.bool true) ∧ Below w.heap.size w w' := by
  obtain ⟨A, c, L, rfl, hr, hf, hlc, hcm⟩ := hv
  by_cases hL : L.length ≤ 100
  · exact poolOrder_main w n A c L hr hL
  · have hLi : (100 : Int) < (L.length : Int) := by omega
    clear hr hf
    go_enter Try.func3, Try.ntmps3
    go_wp2_with fail
    refine (lives_any w).mono ?_
    rintro e w1 ⟨rfl, hB1⟩
    have HB1 := Lib.hid hB1
    clear hB1
    go_wp2_with fail
    refine (lives_any w1).mono ?_
    rintro e w3 ⟨rfl, hB3⟩
    go_wp2_with fail
    go_ret
    exact ⟨rfl, HB1.out.trans (hB3.mono HB1.out.size)⟩
end Go.Proofs.Ytjaopecjmmnbiaa
