/-
  The walk of dowserlaw05.PoolBounds.
-/
import Derived.Test.YtjaopecjmmnbiaaPoolInv
namespace Go.Proofs.Ytjaopecjmmnbiaa
set_option linter.unusedSimpArgs false
set_option linter.unusedVariables false
open Go.RowKit Go.Maps Go.WideShapes Go.ChangeShapes

def IntsIn (w : World) (v : Value) : Prop := ∃ A c L, v = .slice A (List.length L) c ∧ ERow eInt w A L ∧ (∀ n ∈ L, -9223372036854775808 ≤ n ∧ n ≤ 9223372036854775807) ∧ L.length ≤ c ∧ c ≤ maxLen
theorem ints_in {H : Type} {enc : TypeId × Value → H} {w : World} {base : Nat} {v : Value} {d : DataW H} {p : List MemPlace}
    (hv : Value.okWide Try.prog w .any base 22 v) (h : DataW.Trod enc Try.prog w 0 (fun _ => true) true 22 v d p) : IntsIn w v := by
  obtain ⟨a0, len0, cap0, rfl⟩ := okWide_slice Try.underlying22 hv
  obtain ⟨fuel, hf⟩ := h
  obtain ⟨A, L, c, h1, h2, h3, h4, h5⟩ := open_intlist hf
  simp [Value.cells] at h1
  obtain ⟨rfl, rfl, rfl⟩ := h1
  exact ⟨_, _, L, rfl, h2, h3, h4, h5⟩
theorem int_at {w : World} {A : Option Addr} {L : List Int} (h : ERow eInt w A L) {i : Nat} (hi : i < L.length) : ∃ b o, A = some ⟨b, o, none⟩ ∧ b < w.heap.size ∧ w.cell? ⟨b, o + i, none⟩ = some (.int .i64 L[i]) := by
  obtain ⟨b, o, e, hb, hc⟩ := h.at_ hi
  have := hc 0 _ rfl
  simp only [eInt, Nat.mul_one, Nat.add_zero] at this
  exact ⟨b, o, e, hb, this⟩
theorem int_own_at {w : World} {B c g : Nat} {L : List Int} (h : EOwn eInt w B (some ⟨g, 0, none⟩) c L) {i : Nat} (hi : i < L.length) : w.cell? ⟨g, i, none⟩ = some (.int .i64 L[i]) := by
  have := h.cell (j := i) (k := 0) hi rfl
  simpa [eInt] using this
theorem u64_rem_any (k : Int) (m : Nat) (h0 : 0 < m) : ∃ j : Nat, j < m ∧ (IntKind.u64.wrap k).tmod (m : Int) = (j : Int) := by
  have h : 0 ≤ IntKind.u64.wrap k := by
    simp [IntKind.wrap, IntKind.signed, IntKind.bits]
    omega
  rw [Int.tmod_eq_emod_of_nonneg h]
  have h1 := Int.emod_nonneg (IntKind.u64.wrap k) (show (m : Int) ≠ 0 by omega)
  have h2 := Int.emod_lt_of_pos (IntKind.u64.wrap k) (show (0 : Int) < m by omega)
  exact ⟨(IntKind.u64.wrap k % m).toNat, by omega, by omega⟩

/-- No page goes as long as there is an empty frame. -/
theorem gone_neg {q : PS} (hG : Good q) (k : Int) (l : List UInt8) (h : ∃ f ∈ q.L, f.page < 0) : (q.putAny k l).1 < 0 := by
  unfold PS.putAny
  split
  · show (-1 : Int) < 0; decide
  · unfold PS.put
    split
    · show (-1 : Int) < 0; decide
    · have hf : 0 ≤ firstEmpty q.L 0 := by
        rcases Int.lt_or_le (firstEmpty q.L 0) 0 with h1 | h1
        · obtain ⟨f, hf, hn⟩ := h
          have := firstEmpty_none q.L 0 h1 f hf
          omega
        · exact h1
      obtain ⟨j, hj, e, hn⟩ := firstEmpty_at q.L 0 hf
      have e2 : q.place = (j, q) := by unfold PS.place; rw [if_pos hf, e]; simp
      rw [e2]
      simpa [hj] using hn
theorem putAny_len {q : PS} (hG : Good q) (k : Int) (l : List UInt8) : (q.putAny k l).2.L.length = q.L.length := by
  unfold PS.putAny
  split
  · rfl
  · unfold PS.put
    split
    · simp
    · simp [(place_ok hG).1.1]
theorem page_hi {q : PS} (hG : Good q) {i : Nat} (hi : i < q.L.length) : -1 ≤ q.L[i].page ∧ q.L[i].page ≤ 9223372036854775807 := by
  rcases hG.pages _ (List.getElem_mem hi) with h | h <;> omega

set_option maxRecDepth 20000 in
set_option maxHeartbeats 2000000 in
theorem poolBounds_main (w : World) (n : Int) (A : Option Addr) (c : Nat) (L : List Int) (hr : ERow eInt w A L) (hf : ∀ o ∈ L, -9223372036854775808 ≤ o ∧ o ≤ 9223372036854775807) (hL : L.length ≤ 300) :
    Calls Try.prog 4 #[.int .i64 n, .slice A L.length c] w fun e w' => e = .returned (.bool true) ∧ Below w.heap.size w w' := by
  obtain ⟨m, hm, hrem⟩ := u64_rem_any n 9 (by decide)
  simp only [Int.cast_ofNat_Int] at hrem
  have HF := Lib.hid (And.intro hf hr)
  have hLi : ¬ (300 : Int) < (L.length : Int) := by omega
  clear hf hr
  go_enter Try.func4, Try.ntmps4
  go_wp2_with fail
  refine (lives_any w).mono ?_
  rintro e w1 ⟨rfl, hB1⟩
  have HB1 := Lib.hid hB1
  clear hB1
  go_wp2_with fail
  have hkk : (1 + (m : Int)) = ((1 + m : Nat) : Int) := by omega
  rw [hkk]
  clear hkk hrem
  obtain ⟨k, hk⟩ : ∃ k, 1 + m = k := ⟨_, rfl⟩
  rw [hk]
  have hk0 : 0 < k := by omega
  have hk9 : k ≤ 9 := by omega
  clear hk
  refine (new_of w1 k hk0 (by omega)).mono ?_
  rintro e w2 ⟨b, rfl, hP2, hB2⟩
  have HB2 := HB1.out.trans (hB2.mono HB1.out.size)
  have hz1 := HB1.out.size
  have HI : Hid (PoolOf w2 w1.heap.size b 0 (PS.new k) ∧ Below w.heap.size w w2) := ⟨hP2, HB2⟩
  clear HB2 hB2 hP2
  go_wp2_with fail
  go_loopw [39] (fun iv wr => ∃ (i : Nat) (q : PS), i ≤ L.length ∧ iv = .int .i64 i ∧ q.L.length = k ∧ Hid (PoolOf wr w1.heap.size b i q ∧ Below w.heap.size w wr)) (fun iv _ => L.length - (intOf iv).toNat)
  case atStart => exact ⟨0, _, by omega, rfl, by simp [PS.new], HI⟩
  case round =>
    obtain ⟨i, q, hi, rfl, hqk, HS⟩ := hrel
    clear HI
    by_cases hlt : i < L.length
    · have hlti : (i : Int) < (L.length : Int) := by omega
      obtain ⟨bo, o, rfl, hb, d0⟩ := int_at (HF.out.2.below HS.out.2) hlt
      have hfi := HF.out.1 L[i] (List.getElem_mem hlt)
      generalize L[i] = pn at d0 hfi
      have hN : i < 1000000 := by omega
      go_wp2_with fail
      refine (pages_of wr w1.heap.size i b q HS.out.1).mono ?_
      intro e w3 hI3
      obtain ⟨AP, cP, rfl, hoP, hB3⟩ := hI3
      have HO3 := Lib.hid hoP
      have HS3 : Hid (PoolOf w3 w1.heap.size b i q ∧ Below w.heap.size w w3) := ⟨HS.out.1.below hB3, HS.out.2.trans (hB3.mono HS.out.2.size)⟩
      clear hoP hB3 d0
      go_wp2_with fail
      refine (put_anyx (fun _ => False) w3 w1.heap.size i b q (HS3.out.1.toX (fun _ h => h.elim)) (fun _ h => h.elim) hN pn hfi.2 none 0 [] BRow.nil (by simp) (fun _ a ha => by cases ha)).mono ?_
      intro e w4 hI4
      obtain ⟨rfl, hP4, hK4⟩ := hI4
      have hgone := gone_neg HS3.out.1.good pn []
      generalize hmq : q.putAny pn [] = mq at hP4 hgone ⊢
      obtain ⟨m4, q4⟩ := mq
      simp only at hP4 hgone ⊢
      have HS4 : Hid (PoolOf w4 w1.heap.size b (i + 1) q4 ∧ Below w.heap.size w w4) := ⟨hP4.toOf, hK4.below HS3.out.2 HS3.out.2.size (fun k hk => Nat.le_trans hz1 (HS3.out.1.lt k hk).1)⟩
      have HO4 : Hid (EOwn eInt w4 wr.heap.size AP cP (q.L.map (·.page))) := HO3.out.keep (fun a ha => hK4.block _ (HO3.out.block a ha).2 (fun ho => by have h1 := (HO3.out.block a ha).1; have h2 := (HS.out.1.lt _ ho).2; omega))
      have HG := Lib.hid hgone
      have hq4k : q4.L.length = k := by
        have := putAny_len HS3.out.1.good pn []
        rw [hmq] at this
        simp only at this
        omega
      clear hP4 hK4 hgone hmq
      go_wp2_with fail
      refine (pages_of w4 w1.heap.size (i + 1) b q4 HS4.out.1).mono ?_
      intro e w5 hI5
      obtain ⟨AQ, cQ, rfl, hoQ, hB5⟩ := hI5
      have HO5 := Lib.hid hoQ
      have HP5 := Lib.hid (HO4.out.below hB5)
      have HS5 : Hid (PoolOf w5 w1.heap.size b (i + 1) q4 ∧ Below w.heap.size w w5) := ⟨HS4.out.1.below hB5, HS4.out.2.trans (hB5.mono HS4.out.2.size)⟩
      clear hoQ hB5
      rw [hq4k]
      obtain ⟨gP, rfl⟩ : ∃ g, AP = some ⟨g, 0, none⟩ := by
        rcases HP5.out.form with ⟨_, _, e⟩ | ⟨g, e, _⟩
        · have := congrArg List.length e
          rw [List.length_map, hqk] at this
          simp at this
          omega
        · exact ⟨g, e⟩
      obtain ⟨gQ, rfl⟩ : ∃ g, AQ = some ⟨g, 0, none⟩ := by
        rcases HO5.out.form with ⟨_, _, e⟩ | ⟨g, e, _⟩
        · have := congrArg List.length e
          rw [List.length_map, hq4k] at this
          simp at this
          omega
        · exact ⟨g, e⟩
      have hcQ : k ≤ cQ := by have := HO5.out.cap; rw [List.length_map, hq4k] at this; exact this
      have hcQm : cQ ≤ 9223372036854775807 := by have := HO5.out.capMax; simpa [maxLen] using this
      have HQK := Lib.hid (And.intro hqk hq4k)
      clear hqk hq4k
      go_wp2_with fail
      go_loop [13, 14, 62] (fun ev tv jv => ∃ (j e : Nat), j ≤ k ∧ jv = .int .i64 j ∧ ev = .int .i64 e ∧ tv = .int .i64 0 ∧ e ≤ j ∧ Hid (0 < e → ∃ f ∈ q.L, f.page < 0)) (fun _ _ jv => k - (intOf jv).toNat)
      case atStart => exact ⟨0, 0, by omega, rfl, rfl, rfl, by omega, fun h => by omega⟩
      case round =>
        obtain ⟨j, e, hj, rfl, rfl, rfl, hej, HE⟩ := hrel
        by_cases hjk : j < k
        · have hjki : (j : Int) < (k : Int) := by omega
          have hjq : j < q.L.length := by have := HQK.out.1; omega
          have hjq4 : j < q4.L.length := by have := HQK.out.2; omega
          have hp0 := int_own_at HP5.out (i := j) (by simpa using hjq)
          have hp1 := int_own_at HO5.out (i := j) (by simpa using hjq4)
          rw [List.getElem_map] at hp0 hp1
          have hpl := page_hi HS3.out.1.good hjq
          have hpl4 := page_hi HS5.out.1.good hjq4
          have HNEG : Hid (q.L[j].page < 0 → ∃ f ∈ q.L, f.page < 0) := fun h => ⟨_, List.getElem_mem hjq, h⟩
          have HONE : Hid (∀ i (hi : i < q4.L.length), i < j → q4.L[i].page = q4.L[j].page → ¬ 0 ≤ q4.L[i].page) := fun i hi hij he h0 => by have := HS5.out.1.good.once i j hi hjq4 h0 he; omega
          by_cases hneg : q.L[j].page < 0
          · have HE2 : Hid (0 < e + 1 → ∃ f ∈ q.L, f.page < 0) := fun _ => HNEG.out hneg
            go_wp2_with fail
            go_loop [14, 75] (fun tv mv => ∃ m' : Nat, m' ≤ j ∧ mv = .int .i64 m' ∧ tv = .int .i64 0) (fun _ mv => j - (intOf mv).toNat)
            case atStart => exact ⟨0, by omega, rfl, rfl⟩
            case round =>
              obtain ⟨m', hm', rfl, rfl⟩ := hrel
              by_cases hml : m' < j
              · have hmli : (m' : Int) < (j : Int) := by omega
                have hmq4 : m' < q4.L.length := by have := HQK.out.2; omega
                have hp2 := int_own_at HO5.out (i := m') (by simpa using hmq4)
                rw [List.getElem_map] at hp2
                have hone := HONE.out m' hmq4 hml
                by_cases heq : q4.L[m'].page = q4.L[j].page
                · have hlt0 : q4.L[m'].page < 0 := by have := hone heq; omega
                  have heqb : (q4.L[m'].page == q4.L[j].page) = true := by simpa using heq
                  clear hone heq
                  go_wp2_with fail
                  go_round
                  case rel => exact ⟨m' + 1, by omega, by go_num, rfl⟩
                  case measure => simp [intOf]; omega
                · have heqb : (q4.L[m'].page == q4.L[j].page) = false := by simpa using heq
                  clear hone heq
                  go_wp2_with fail
                  go_round
                  case rel => exact ⟨m' + 1, by omega, by go_num, rfl⟩
                  case measure => simp [intOf]; omega
              · have hmli : ¬ (m' : Int) < (j : Int) := by omega
                go_wp2_with fail
                go_round
                case rel => exact ⟨j + 1, (e + 1), by omega, by go_num, by go_num, rfl, by omega, HE2.out⟩
                case measure => simp [intOf]; omega
          · have HE2 := HE
            go_wp2_with fail
            go_loop [14, 75] (fun tv mv => ∃ m' : Nat, m' ≤ j ∧ mv = .int .i64 m' ∧ tv = .int .i64 0) (fun _ mv => j - (intOf mv).toNat)
            case atStart => exact ⟨0, by omega, rfl, rfl⟩
            case round =>
              obtain ⟨m', hm', rfl, rfl⟩ := hrel
              by_cases hml : m' < j
              · have hmli : (m' : Int) < (j : Int) := by omega
                have hmq4 : m' < q4.L.length := by have := HQK.out.2; omega
                have hp2 := int_own_at HO5.out (i := m') (by simpa using hmq4)
                rw [List.getElem_map] at hp2
                have hone := HONE.out m' hmq4 hml
                by_cases heq : q4.L[m'].page = q4.L[j].page
                · have hlt0 : q4.L[m'].page < 0 := by have := hone heq; omega
                  have heqb : (q4.L[m'].page == q4.L[j].page) = true := by simpa using heq
                  clear hone heq
                  go_wp2_with fail
                  go_round
                  case rel => exact ⟨m' + 1, by omega, by go_num, rfl⟩
                  case measure => simp [intOf]; omega
                · have heqb : (q4.L[m'].page == q4.L[j].page) = false := by simpa using heq
                  clear hone heq
                  go_wp2_with fail
                  go_round
                  case rel => exact ⟨m' + 1, by omega, by go_num, rfl⟩
                  case measure => simp [intOf]; omega
              · have hmli : ¬ (m' : Int) < (j : Int) := by omega
                go_wp2_with fail
                go_round
                case rel => exact ⟨j + 1, e, by omega, by go_num, by go_num, rfl, by omega, HE2.out⟩
                case measure => simp [intOf]; omega
        · have hjki : ¬ (j : Int) < (k : Int) := by omega
          by_cases hm4 : 0 ≤ m4
          · have he0 : e = 0 := by
              by_cases h : 0 < e
              · have := HG.out (HE.out h); omega
              · omega
            subst he0
            go_wp2_with fail
            go_roundw
            case rel => exact ⟨i + 1, q4, by omega, by go_num, HQK.out.2, HS5.out⟩
            case measure => simp [intOf]; omega
          · go_wp2_with fail
            go_roundw
            case rel => exact ⟨i + 1, q4, by omega, by go_num, HQK.out.2, HS5.out⟩
            case measure => simp [intOf]; omega
    · have hlti : ¬ (i : Int) < (L.length : Int) := by omega
      go_wp2_with fail
      go_ret
      exact ⟨rfl, HS.out.2⟩

set_option maxRecDepth 20000 in
set_option maxHeartbeats 1000000 in
theorem poolBounds_walk (w : World) (n : Int) (_wf : (Lit.int .i64 n).wf = true) (v : Value) (hv : IntsIn w v) :
    Calls Try.prog 4 #[.int .i64 n, v] w fun e w' => e = .returned (.bool true) ∧ Below w.heap.size w w' := by
  obtain ⟨A, c, L, rfl, hr, hf, hlc, hcm⟩ := hv
  by_cases hL : L.length ≤ 300
  · exact poolBounds_main w n A c L hr hf hL
  · have hLi : (300 : Int) < (L.length : Int) := by omega
    clear hr hf
    go_enter Try.func4, Try.ntmps4
    go_wp2_with fail
    refine (lives_any w).mono ?_
    rintro e w1 ⟨rfl, hB1⟩
    have HB1 := Lib.hid hB1
    clear hB1
    go_wp2_with fail
    refine (lives_any w1).mono ?_
    rintro e w3 ⟨rfl, hB3⟩
    go_wp2_with fail
    go_ret
    exact ⟨rfl, HB1.out.trans (hB3.mono HB1.out.size)⟩
end Go.Proofs.Ytjaopecjmmnbiaa
