/-
  Texts of a proof, one behind the other (each with its own head).
-/
import Derived.Test.YtknfnhmkiooifaaPartFddpgeggd
import Derived.Deep.AppendSrc
import Derived.ArgAppend
section
/-
  Printed by mkinsv.py: the stable sorting of rows.
-/
namespace Go.Proofs.Ytknfnhmkiooifaa
set_option linter.unusedSimpArgs false
set_option linter.unusedVariables false
open Go.RowKit
/-- Two sorted neighbours of at most so many elements are merged. -/
def SymV (g q n c : Nat) (cmp : Rw → Rw → Int) (L : List Rw) (sp : List Value) (N : Nat) : Prop :=
  ∀ (w : World) (P X Y Q : List Rw) (a m b : Nat), X.length + Y.length ≤ N → 0 < X.length → 0 < Y.length → Srt.Sorted cmp X → Srt.Sorted cmp Y → Blk w g 23 ((P ++ X ++ Y ++ Q).map Rw.v ++ sp) → CmpsV w g q cmp L → (∀ z ∈ P ++ X ++ Y ++ Q, z ∈ L) → (P ++ X ++ Y ++ Q).length = n → P.length = a → a + X.length = m → m + Y.length = b →
    Calls Try.prog 103 #[.slice (some ⟨g, 0, none⟩) n c, .int .i64 (a : Int), .int .i64 (m : Int), .int .i64 (b : Int), .func (.func 70) #[] #[.pointer (some ⟨q, 0, none⟩)]] w
      (SortsV w g ((P ++ Srt.mg cmp X Y ++ Q).map Rw.v ++ sp))
theorem CmpsV.grown {w W : World} {g q : Nat} {cmp : Rw → Rw → Int} {L : List Rw} (h : CmpsV w g q cmp L) (hw : w.grownBy W (some g)) : CmpsV W g q cmp L := fun V hV => h V (grown_trans hw hV)
theorem SymV.at {g q n c : Nat} {cmp : Rw → Rw → Int} {L : List Rw} {sp : List Value} {N : Nat} (h : SymV g q n c cmp L sp N) {w W : World} (hw : w.grownBy W (some g)) {P X Y Q R R' : List Rw} {a m b : Nat} (h1 : X.length + Y.length ≤ N) (h2 : 0 < X.length) (h3 : 0 < Y.length) (h4 : Srt.Sorted cmp X) (h5 : Srt.Sorted cmp Y) (h6 : Blk W g 23 (R.map Rw.v ++ sp)) (h7 : CmpsV w g q cmp L) (h8 : ∀ z ∈ R, z ∈ L) (h9 : R.length = n) (h10 : P.length = a) (h11 : a + X.length = m) (h12 : m + Y.length = b) (hR : P ++ X ++ Y ++ Q = R) (hR' : P ++ Srt.mg cmp X Y ++ Q = R') :
    Calls Try.prog 103 #[.slice (some ⟨g, 0, none⟩) n c, .int .i64 (a : Int), .int .i64 (m : Int), .int .i64 (b : Int), .func (.func 70) #[] #[.pointer (some ⟨q, 0, none⟩)]] W
      (SortsV w g (R'.map Rw.v ++ sp)) := by
  subst hR hR'
  exact (h W P X Y Q a m b h1 h2 h3 h4 h5 h6 (h7.grown hw) h8 h9 h10 h11 h12).mono fun e W' h => ⟨h.1, h.2.1, grown_trans hw h.2.2⟩
theorem rotV_at {w W : World} {g q c n a m b : Nat} {P X Y Q R R' : List Rw} {sp : List Value} (hX : 0 < X.length) (hY : 0 < Y.length) (hw : w.grownBy W (some g)) (hb : Blk W g 23 (R.map Rw.v ++ sp)) (hn : R.length = n) (hlen : n ≤ 1000000) (hcap : n ≤ c) (ha : P.length = a) (hm : a + X.length = m) (hb2 : m + Y.length = b) (hR : P ++ X ++ Y ++ Q = R) (hR' : P ++ Y ++ X ++ Q = R') :
    Calls Try.prog 106 #[.slice (some ⟨g, 0, none⟩) n c, .int .i64 (a : Int), .int .i64 (m : Int), .int .i64 (b : Int), .func (.func 70) #[] #[.pointer (some ⟨q, 0, none⟩)]] W
      (SortsV w g (R'.map Rw.v ++ sp)) := by
  subst hR hR' hn ha hm hb2
  exact (rotV_any W g q c P X Y Q sp hX hY hb hlen hcap).mono fun e W' h => ⟨h.1, h.2.1, grown_trans hw h.2.2⟩
set_option maxRecDepth 100000 in
set_option maxHeartbeats 8000000 in
theorem symNV_any (g q n c : Nat) (cmp : Rw → Rw → Int) (ho : Srt.Ord cmp) (L : List Rw) (sp : List Value) (N : Nat) (hI : SymV g q n c cmp L sp N) (hlen : n ≤ 1000000) (hcap : n ≤ c)
    (w : World) (P X Y Q : List Rw) (a m b : Nat) (hN : X.length + Y.length ≤ N + 1) (hX2 : 2 ≤ X.length) (hY2 : 2 ≤ Y.length) (hX : Srt.Sorted cmp X) (hY : Srt.Sorted cmp Y) (hb : Blk w g 23 ((P ++ X ++ Y ++ Q).map Rw.v ++ sp)) (hc : CmpsV w g q cmp L) (hL : ∀ z ∈ P ++ X ++ Y ++ Q, z ∈ L) (hn : (P ++ X ++ Y ++ Q).length = n) (hal : P.length = a) (ham : a + X.length = m) (hmb : m + Y.length = b) :
    Calls Try.prog 103 #[.slice (some ⟨g, 0, none⟩) n c, .int .i64 (a : Int), .int .i64 (m : Int), .int .i64 (b : Int), .func (.func 70) #[] #[.pointer (some ⟨q, 0, none⟩)]] w
      (SortsV w g ((P ++ Srt.mg cmp X Y ++ Q).map Rw.v ++ sp)) := by
  have HI := Lib.hid hI
  have HO := Lib.hid ho
  have HC := Lib.hid hc
  have HBK := Lib.hid hb
  have HXS := Lib.hid hX
  have HYS := Lib.hid hY
  have HLM := Lib.hid hL
  have HAL := Lib.hid hal
  have HAM := Lib.hid ham
  have HMB := Lib.hid hmb
  have HNN := Lib.hid hN
  obtain ⟨d1, hd1⟩ : ∃ d1 : Int, (m : Int) - (a : Int) = d1 := ⟨_, rfl⟩
  have h1 : (d1 == 1) = false := by simp; omega
  obtain ⟨d2, hd2⟩ : ∃ d2 : Int, (b : Int) - (m : Int) = d2 := ⟨_, rfl⟩
  have h0 : (d2 == 1) = false := by simp; omega
  have h2 : a + 2 ≤ m := by omega
  have h3 : m + 2 ≤ b := by omega
  have h4 : b ≤ n := by rw [← hn]; simp; omega
  obtain ⟨d, hd⟩ : ∃ d : Nat, ((a : Int) + (b : Int)) / 2 = (d : Int) := ⟨(a + b) / 2, by omega⟩
  have h5 : 2 * d ≤ a + b := by omega
  have h6 : a + b ≤ 2 * d + 1 := by omega
  obtain ⟨cs, hcs⟩ : ∃ cs, (P ++ Srt.mg cmp X Y ++ Q).map Rw.v ++ sp = cs := ⟨_, rfl⟩
  rw [hcs]
  have HCS := Lib.hid hcs
  obtain ⟨D, hD⟩ : ∃ D, P ++ X ++ Y ++ Q = D := ⟨_, rfl⟩
  have HD := Lib.hid hD
  rw [hD] at hn HBK HLM
  have HDN := Lib.hid hn
  clear hb hc ho hX hY hL hn hcs hD hal ham hmb hX2 hY2 hI hN
  go_enter Try.func103, Try.ntmps103
  go_upto_if 140 with fail
  clear hd1 hd2 h1 h0 hd
  go_cut [20, 21] from 140 to 146 (fun v20 v21 wx => ∃ s0 r0 : Nat, v20 = .int .i64 (s0 : Int) ∧ v21 = .int .i64 (r0 : Int) ∧ a ≤ s0 ∧ s0 ≤ r0 ∧ r0 ≤ m ∧ r0 ≤ d ∧ d + m ≤ b + s0 ∧ (s0 = a ∨ d + m = b + s0) ∧ (r0 = m ∨ r0 = d) ∧ w = wx)
  case first =>
    by_cases hmd : d < m
    · have e1 : (d : Int) < (m : Int) := by omega
      obtain ⟨s0, hs0⟩ : ∃ s0 : Nat, (d : Int) + (m : Int) - (b : Int) = (s0 : Int) := ⟨d + m - b, by omega⟩
      have e2 : a ≤ s0 := by omega
      have e3 : s0 ≤ d := by omega
      have e4 : d + m = b + s0 := by omega
      go_wp2_with fail
      go_meet
      case rel => exact ⟨s0, d, rfl, rfl, e2, e3, by omega, Nat.le_refl _, by omega, .inr e4, .inr rfl, rfl⟩
    · have e1 : ¬ (d : Int) < (m : Int) := by omega
      go_wp2_with fail
      go_meet
      case rel => exact ⟨a, m, rfl, rfl, Nat.le_refl _, by omega, Nat.le_refl _, by omega, by omega, .inl rfl, .inl rfl, rfl⟩
  case rest =>
    obtain ⟨s0, r0, rfl, rfl, k1, k2, k3, k4, k5, k6, k7, rfl⟩ := hcut
    obtain ⟨p, hp⟩ : ∃ p : Nat, (d : Int) + (m : Int) - 1 = (p : Int) := ⟨d + m - 1, by omega⟩
    have hpm : p + 1 = d + m := by omega
    have HPM := Lib.hid hpm
    go_wp2_with fail
    clear hp hpm
    go_loopw [20, 21] (fun iv jv wr => ∃ i j : Nat, s0 ≤ i ∧ i ≤ j ∧ j ≤ r0 ∧ iv = .int .i64 (i : Int) ∧ jv = .int .i64 (j : Int) ∧ Hid ((i = s0 ∨ 0 ≤ cmp (Srt.nth D (p + 1 - i)) (Srt.nth D (i - 1))) ∧ (j = r0 ∨ cmp (Srt.nth D (p - j)) (Srt.nth D j) < 0) ∧ Blk wr g 23 (D.map Rw.v ++ sp) ∧ w.grownBy wr (some g))) (fun iv jv _ => (intOf jv).toNat - (intOf iv).toNat)
    case atStart => exact ⟨s0, r0, Nat.le_refl _, k2, Nat.le_refl _, by go_num, by go_num, .inl rfl, .inl rfl, HBK.out, grown_refl _ _⟩
    case round =>
      obtain ⟨i, j, hai, hij, hjm, rfl, rfl, HJ⟩ := hrel
      clear HBK
      by_cases hlt : i < j
      · have hii : (i : Int) < (j : Int) := by omega
        obtain ⟨k, hk⟩ : ∃ k : Nat, ((i : Int) + (j : Int)) / 2 = (k : Int) := ⟨(i + j) / 2, by omega⟩
        have hk1 : i ≤ k := by omega
        have hk2 : k < j := by omega
        have hkn : k < n := by omega
        obtain ⟨u, hu⟩ : ∃ u : Nat, (p : Int) - (k : Int) = (u : Int) := ⟨p - k, by have := HPM.out; omega⟩
        have hun : u < n := by have := HPM.out; omega
        have huk : p - k = u := by omega
        have HUK := Lib.hid huk
        have hb0 := HJ.out.2.2.1.drew
        have hg0 := Lib.hid (grown_drew HJ.out.2.2.2)
        obtain ⟨q0, q1⟩ := blk_nth hb0 (j := k) (by rw [HDN.out]; exact hkn)
        obtain ⟨q2, q3⟩ := blk_nth hb0 (j := u) (by rw [HDN.out]; exact hun)
        have HDK : Hid (Srt.nth D k ∈ D) := Srt.nth_mem (by rw [HDN.out]; exact hkn)
        have HDU : Hid (Srt.nth D u ∈ D) := Srt.nth_mem (by rw [HDN.out]; exact hun)
        have HB0 := Lib.hid hb0
        clear hb0 huk
        go_upto_region 35 with fail
        clear hk
        generalize hx : Srt.nth D k = x at HDK q0 ⊢
        generalize hy : Srt.nth D u = y at HDU q2 ⊢
        have HX := Lib.hid hx
        have HY := Lib.hid hy
        clear hx hy
        refine wp_region_plan (.take 0 (.take 1 (.take 2 (.take 3 (.take 4 (.take 5 (.take 6 (.take 7 (.take 8 (.take 9 (.take 10 (.run 11 [] (.take 12 (.take 13 .fin)))))))))))))) (by kernel_rfl) (by kernel_rfl) (by kernel_rfl) (by kernel_rfl) ?_
        repeat' (first | (refine hZ _ _ ?_; clear hZ) | (refine hZ _ ?_; clear hZ) | (refine hZ ?_; clear hZ) | rw [again_nil] | rw [walk_fin] | ((first | rw [walk_take] | rw [walk_run] | rw [again_cons]); intro Z hZ; simp only [sel, List.getElem?_toArray, List.getElem?_cons_zero, List.getElem?_cons_succ]; go_wp2_with (fail)))
        refine (HC.out _ hg0.out y (HLM.out _ HDU.out) x (HLM.out _ HDK.out)).mono ?_
        rintro e W ⟨rfl, hB⟩
        have HG := Lib.hid (grown_belowR hg0.out hB)
        have HB := Lib.hid (HB0.out.below hB)
        clear hB q0 q1 q2 q3 hu
        by_cases hyx : cmp y x < 0
        · have HXT := Lib.hid hyx
          obtain ⟨z, hz⟩ : ∃ z, cmp y x = z := ⟨_, rfl⟩
          rw [hz] at hyx ⊢
          clear hz
          go_wp2_with fail
          repeat' (first | (refine hZ _ _ ?_; clear hZ) | (refine hZ _ ?_; clear hZ) | (refine hZ ?_; clear hZ) | rw [again_nil] | rw [walk_fin] | ((first | rw [walk_take] | rw [walk_run] | rw [again_cons]); intro Z hZ; simp only [sel, List.getElem?_toArray, List.getElem?_cons_zero, List.getElem?_cons_succ]; go_wp2_with (fail)))
          go_wp2_with fail
          go_roundw
          case rel => exact ⟨i, k, hai, hk1, by omega, rfl, by go_num, HJ.out.1, .inr (by rw [HUK.out, HY.out, HX.out]; exact HXT.out), HB.out, HG.out⟩
          case measure => simp [intOf]; omega
        · have HXT := Lib.hid hyx
          obtain ⟨z, hz⟩ : ∃ z, cmp y x = z := ⟨_, rfl⟩
          rw [hz] at hyx ⊢
          clear hz
          have hyz : (decide (z < 0)) = false := by simpa using hyx
          go_wp2_with fail
          repeat' (first | (refine hZ _ _ ?_; clear hZ) | (refine hZ _ ?_; clear hZ) | (refine hZ ?_; clear hZ) | rw [again_nil] | rw [walk_fin] | ((first | rw [walk_take] | rw [walk_run] | rw [again_cons]); intro Z hZ; simp only [sel, List.getElem?_toArray, List.getElem?_cons_zero, List.getElem?_cons_succ]; go_wp2_with (fail)))
          go_wp2_with fail
          go_roundw
          case rel => exact ⟨k + 1, j, by omega, by omega, hjm, by go_num, rfl, (.inr (by rw [Nat.add_sub_cancel, Nat.add_sub_add_right, HUK.out, HY.out, HX.out]; have := HXT.out; omega)), HJ.out.2.1, HB.out, HG.out⟩
          case measure => simp [intOf]; omega
      · obtain rfl : i = j := by omega
        have hii : ¬ (i : Int) < (i : Int) := by omega
        obtain ⟨e, he⟩ : ∃ e : Nat, (d : Int) + (m : Int) - (i : Int) = (e : Int) := ⟨d + m - i, by omega⟩
        have he1 : i + e = d + m := by omega
        have HCUT : Hid (∃ X1 X2 Y1 Y2, X = X1 ++ X2 ∧ Y = Y1 ++ Y2 ∧ X1.length = i - a ∧ X2.length = m - i ∧ Y1.length = e - m ∧ Y2.length = b - e ∧ Srt.mg cmp X Y = Srt.mg cmp X1 Y1 ++ Srt.mg cmp X2 Y2) := by
          have hq := HPM.out
          refine Srt.sym_fin HO.out P X Y Q HXS.out HYS.out HAL.out HAM.out HMB.out (by omega) (by omega) (by omega) (by omega) ?_ ?_
          · rw [HD.out]
            rcases HJ.out.2.1 with h | h
            · omega
            · rw [show e - 1 = p - i by omega]; exact .inr (.inr h)
          · rw [HD.out]
            rcases HJ.out.1 with h | h
            · omega
            · rw [show e = p + 1 - i by omega]; exact .inr (.inr (by omega))
        obtain ⟨X1, X2, Y1, Y2, e1, e2, e3, e4, e5, e6, e7⟩ := HCUT.out
        clear HCUT hii
        have HST : Hid (Blk wr g 23 ((P ++ X1 ++ X2 ++ Y1 ++ (Y2 ++ Q)).map Rw.v ++ sp) ∧ w.grownBy wr (some g)) := ⟨by have := HJ.out.2.2.1; rw [← HD.out, e1, e2] at this; simpa using this, HJ.out.2.2.2⟩
        have HL1 : Hid (∀ R : List Rw, R.Perm D → (∀ z ∈ R, z ∈ L) ∧ R.length = n) := fun R hR => ⟨fun z hz => HLM.out z (hR.mem_iff.1 hz), by rw [hR.length_eq, HDN.out]⟩
        have HP1 : Hid ((P ++ X1 ++ X2 ++ Y1 ++ (Y2 ++ Q)) = D) := by show _ = _; rw [← HD.out, e1, e2]; simp
        have HP2 : Hid ((P ++ X1 ++ Y1 ++ X2 ++ (Y2 ++ Q)).Perm D) := by
          rw [← HP1.out]
          simp only [List.append_assoc]
          exact ((List.perm_append_left_iff _).2 ((List.perm_append_left_iff _).2 (List.perm_append_comm_assoc Y1 X2 (Y2 ++ Q))))
        have HP3 : Hid ((P ++ Srt.mg cmp X1 Y1 ++ X2 ++ Y2 ++ Q).Perm D) := by
          refine List.Perm.trans ?_ HP2.out
          simp only [List.append_assoc]
          refine (List.perm_append_left_iff _).2 ?_
          rw [← List.append_assoc X1]
          exact (List.perm_append_right_iff _).2 (Srt.mg_perm cmp _ _)
        have HFI : Hid ((P ++ Srt.mg cmp X1 Y1 ++ Srt.mg cmp X2 Y2 ++ Q).map Rw.v ++ sp = cs) := by show _ = _; rw [← HCS.out, e7]; simp
        have HX1 : Hid (Srt.Sorted cmp X1 ∧ Srt.Sorted cmp X2) := Srt.sorted_part HXS.out e1
        have HY1 : Hid (Srt.Sorted cmp Y1 ∧ Srt.Sorted cmp Y2) := Srt.sorted_part HYS.out e2
        have HPA : Hid ((P ++ X1).length = i) := by show _ = _; rw [List.length_append, HAL.out]; omega
        have HPM2 : Hid ((P ++ Srt.mg cmp X1 Y1).length = d) := by show _ = _; rw [List.length_append, Srt.mg_length, HAL.out]; omega
        have hN1 : (i - a) + (e - m) ≤ N := by have := HNN.out; rw [e1, e2] at this; simp at this; omega
        have hN2 : (m - i) + (b - e) ≤ N := by have := HNN.out; rw [e1, e2] at this; simp at this; omega
        have HE3 := Lib.hid e3
        have HE4 := Lib.hid e4
        have HE5 := Lib.hid e5
        have HE6 := Lib.hid e6
        clear e1 e2 e3 e4 e5 e6 e7 HJ
        go_upto_region 39 with fail
        clear he
        go_cut [185] from 178 to 185 (fun v wx => Hid (v = .bool (decide (i < m ∧ m < e)) ∧ wr = wx))
        case first =>
          by_cases hA : i < m
          · by_cases hB : m < e
            · have c1 : (i : Int) < m := by omega
              have c2 : (m : Int) < e := by omega
              have HAB : Hid (decide (i < m ∧ m < e) = true) := by show _ = _; simp [hA, hB]
              go_wp2_with fail
              go_meet
              case rel => exact ⟨by rw [HAB.out], rfl⟩
            · have c1 : (i : Int) < m := by omega
              have c2 : ¬ (m : Int) < e := by omega
              have HAB : Hid (decide (i < m ∧ m < e) = false) := by show _ = _; simp [hB]
              go_wp2_with fail
              go_meet
              case rel => exact ⟨by rw [HAB.out], rfl⟩
          · have c1 : ¬ (i : Int) < m := by omega
            have HAB : Hid (decide (i < m ∧ m < e) = false) := by show _ = _; simp [hA]
            go_wp2_with fail
            go_meet
            case rel => exact ⟨by rw [HAB.out], rfl⟩
        case rest =>
          obtain ⟨hv, rfl⟩ := hcut.out
          subst hv
          clear hcut
          go_upto_if 185 with fail
          go_cut [] from 185 to 191 (fun wx => Hid (Blk wx g 23 ((P ++ X1 ++ Y1 ++ X2 ++ (Y2 ++ Q)).map Rw.v ++ sp) ∧ w.grownBy wx (some g)))
          case first =>
            by_cases hAB : i < m ∧ m < e
            · have HR := Lib.hid (rotV_at (w := w) (q := q) (c := c) (n := n) (a := i) (m := m) (b := e) (P := P ++ X1) (X := X2) (Y := Y1) (Q := Y2 ++ Q) (by rw [HE4.out]; omega) (by rw [HE5.out]; omega) HST.out.2 HST.out.1 (by rw [HP1.out]; exact HDN.out) hlen hcap HPA.out (by rw [HE4.out]; omega) (by rw [HE5.out]; omega) rfl rfl)
              rw [decide_eq_true hAB]
              go_wp2_with fail
              refine (show Calls _ _ _ _ _ from HR.out).mono ?_
              rintro e W ⟨rfl, hW⟩
              have HW := Lib.hid hW
              clear hW HR
              go_wp2_with fail
              go_meet
              case rel => exact HW.out
            · have HW : Hid (Blk wr g 23 ((P ++ X1 ++ Y1 ++ X2 ++ (Y2 ++ Q)).map Rw.v ++ sp) ∧ w.grownBy wr (some g)) := by
                show _ ∧ _
                have h5 := HE5.out
                have h4 := HE4.out
                have := HST.out
                by_cases hm : i < m
                · obtain rfl : Y1 = [] := List.eq_nil_of_length_eq_zero (by omega)
                  simpa using this
                · obtain rfl : X2 = [] := List.eq_nil_of_length_eq_zero (by omega)
                  simpa using this
              rw [decide_eq_false hAB]
              go_wp2_with fail
              go_meet
              case rel => exact HW.out
          case rest =>
            clear HST
            have HST := hcut
            clear hcut
            go_upto_region 41 with fail
            go_cut [199] from 192 to 199 (fun v wx => Hid (v = .bool (decide (a < i ∧ i < d)) ∧ wc = wx))
            case first =>
              by_cases hA : a < i
              · by_cases hB : i < d
                · have c1 : (a : Int) < i := by omega
                  have c2 : (i : Int) < d := by omega
                  have HAB : Hid (decide (a < i ∧ i < d) = true) := by show _ = _; simp [hA, hB]
                  go_wp2_with fail
                  go_meet
                  case rel => exact ⟨by rw [HAB.out], rfl⟩
                · have c1 : (a : Int) < i := by omega
                  have c2 : ¬ (i : Int) < d := by omega
                  have HAB : Hid (decide (a < i ∧ i < d) = false) := by show _ = _; simp [hB]
                  go_wp2_with fail
                  go_meet
                  case rel => exact ⟨by rw [HAB.out], rfl⟩
              · have c1 : ¬ (a : Int) < i := by omega
                have HAB : Hid (decide (a < i ∧ i < d) = false) := by show _ = _; simp [hA]
                go_wp2_with fail
                go_meet
                case rel => exact ⟨by rw [HAB.out], rfl⟩
            case rest =>
              obtain ⟨hv, rfl⟩ := hcut.out
              subst hv
              clear hcut
              go_upto_if 199 with fail
              go_cut [] from 199 to 205 (fun wx => Hid (Blk wx g 23 ((P ++ Srt.mg cmp X1 Y1 ++ X2 ++ Y2 ++ Q).map Rw.v ++ sp) ∧ w.grownBy wx (some g)))
              case first =>
                by_cases hAB : a < i ∧ i < d
                · have HR := Lib.hid (HI.out.at (w := w) HST.out.2 (P := P) (X := X1) (Y := Y1) (Q := X2 ++ Y2 ++ Q) (a := a) (m := i) (b := d) (R' := P ++ Srt.mg cmp X1 Y1 ++ X2 ++ Y2 ++ Q) (by rw [HE3.out, HE5.out]; exact hN1) (by rw [HE3.out]; omega) (by rw [HE5.out]; omega) HX1.out.1 HY1.out.1 HST.out.1 HC.out (HL1.out _ HP2.out).1 (HL1.out _ HP2.out).2 HAL.out (by rw [HE3.out]; omega) (by rw [HE5.out]; omega) (by simp) (by simp))
                  rw [decide_eq_true hAB]
                  go_wp2_with fail
                  refine (show Calls _ _ _ _ _ from HR.out).mono ?_
                  rintro e W ⟨rfl, hW⟩
                  have HW := Lib.hid hW
                  clear hW HR
                  go_wp2_with fail
                  go_meet
                  case rel => exact HW.out
                · have HW : Hid (Blk wc g 23 ((P ++ Srt.mg cmp X1 Y1 ++ X2 ++ Y2 ++ Q).map Rw.v ++ sp) ∧ w.grownBy wc (some g)) := by
                    show _ ∧ _
                    have h5 := HE5.out
                    have h3 := HE3.out
                    have := HST.out
                    by_cases hm : a < i
                    · obtain rfl : Y1 = [] := List.eq_nil_of_length_eq_zero (by omega)
                      rw [Srt.mg_nil_right]
                      simpa using this
                    · obtain rfl : X1 = [] := List.eq_nil_of_length_eq_zero (by omega)
                      rw [Srt.mg_nil_left]
                      simpa using this
                  rw [decide_eq_false hAB]
                  go_wp2_with fail
                  go_meet
                  case rel => exact HW.out
              case rest =>
                clear HST
                have HST := hcut
                clear hcut
                have HFIN : Hid (∀ W, Blk W g 23 ((P ++ Srt.mg cmp X1 Y1 ++ Srt.mg cmp X2 Y2 ++ Q).map Rw.v ++ sp) → w.grownBy W (some g) → SortsV w g cs (.returned (.tuple #[])) W) := fun W h1 h2 => ⟨rfl, by rw [← HFI.out]; exact h1, h2⟩
                go_upto_region 43 with fail
                go_cut [213] from 206 to 213 (fun v wx => Hid (v = .bool (decide (d < e ∧ e < b)) ∧ wc = wx))
                case first =>
                  by_cases hA : d < e
                  · by_cases hB : e < b
                    · have c1 : (d : Int) < e := by omega
                      have c2 : (e : Int) < b := by omega
                      have HAB : Hid (decide (d < e ∧ e < b) = true) := by show _ = _; simp [hA, hB]
                      go_wp2_with fail
                      go_meet
                      case rel => exact ⟨by rw [HAB.out], rfl⟩
                    · have c1 : (d : Int) < e := by omega
                      have c2 : ¬ (e : Int) < b := by omega
                      have HAB : Hid (decide (d < e ∧ e < b) = false) := by show _ = _; simp [hB]
                      go_wp2_with fail
                      go_meet
                      case rel => exact ⟨by rw [HAB.out], rfl⟩
                  · have c1 : ¬ (d : Int) < e := by omega
                    have HAB : Hid (decide (d < e ∧ e < b) = false) := by show _ = _; simp [hA]
                    go_wp2_with fail
                    go_meet
                    case rel => exact ⟨by rw [HAB.out], rfl⟩
                case rest =>
                  obtain ⟨hv, rfl⟩ := hcut.out
                  subst hv
                  clear hcut
                  go_upto_if 213 with fail
                  by_cases hAB : d < e ∧ e < b
                  · have HR := Lib.hid (HI.out.at (w := w) HST.out.2 (P := P ++ Srt.mg cmp X1 Y1) (X := X2) (Y := Y2) (Q := Q) (a := d) (m := e) (b := b) (by rw [HE4.out, HE6.out]; exact hN2) (by rw [HE4.out]; omega) (by rw [HE6.out]; omega) HX1.out.2 HY1.out.2 HST.out.1 HC.out (HL1.out _ HP3.out).1 (HL1.out _ HP3.out).2 HPM2.out (by rw [HE4.out]; omega) (by rw [HE6.out]; omega) rfl rfl)
                    rw [decide_eq_true hAB]
                    go_wp2_with fail
                    refine (show Calls _ _ _ _ _ from HR.out).mono ?_
                    rintro e W ⟨rfl, hW⟩
                    have HW := Lib.hid (HFIN.out W hW.1 hW.2)
                    clear hW HR
                    go_wp2_with fail
                    go_end0
                    exact HW.out
                  · have HW : Hid (SortsV w g cs (.returned (.tuple #[])) wc) := HFIN.out _ (by
                      have h6 := HE6.out
                      have h4 := HE4.out
                      have := HST.out.1
                      by_cases hm : d < e
                      · obtain rfl : Y2 = [] := List.eq_nil_of_length_eq_zero (by omega)
                        rw [Srt.mg_nil_right]
                        simpa using this
                      · obtain rfl : X2 = [] := List.eq_nil_of_length_eq_zero (by omega)
                        rw [Srt.mg_nil_left]
                        simpa using this) HST.out.2
                    rw [decide_eq_false hAB]
                    go_wp2_with fail
                    go_end0
                    exact HW.out
/-- Two sorted neighbouring ranges are merged. -/
theorem symV_any (g q n c : Nat) (cmp : Rw → Rw → Int) (ho : Srt.Ord cmp) (L : List Rw) (sp : List Value) (hlen : n ≤ 1000000) (hcap : n ≤ c) : ∀ N, SymV g q n c cmp L sp N
  | 0 => fun w P X Y Q a m b h1 h2 => by omega
  | N + 1 => fun w P X Y Q a m b h1 h2 h3 h4 h5 h6 h7 h8 h9 h10 h11 h12 => by
    by_cases hx : X.length = 1
    · obtain ⟨x, rfl⟩ := List.length_eq_one_iff.1 hx
      exact sym1V_any w g q n c a m b cmp ho L P Y Q x sp h5 h6 h7 h8 h9 hlen hcap h10 (by simpa using h11) h12
    · by_cases hy : Y.length = 1
      · obtain ⟨y, rfl⟩ := List.length_eq_one_iff.1 hy
        exact sym2V_any w g q n c a m b cmp ho L P X Q y sp h4 (by omega) h6 h7 h8 h9 hlen hcap h10 h11 (by simpa using h12)
      · exact symNV_any g q n c cmp ho L sp N (symV_any g q n c cmp ho L sp hlen hcap N) hlen hcap w P X Y Q a m b h1 (by omega) (by omega) h4 h5 h6 h7 h8 h9 h10 h11 h12
end Go.Proofs.Ytknfnhmkiooifaa
end

section
/-
  Printed by mkinsv.py: the stable sorting of rows.
-/
namespace Go.Proofs.Ytknfnhmkiooifaa
set_option linter.unusedSimpArgs false
set_option linter.unusedVariables false
open Go.RowKit
/-- Sorted block by block: insV_any with its numbers named. -/
theorem CmpsV.mono {w : World} {g q : Nat} {cmp : Rw → Rw → Int} {L M : List Rw} (h : CmpsV w g q cmp L) (hM : ∀ z ∈ M, z ∈ L) : CmpsV w g q cmp M := fun V hV x hx y hy => h V hV x (hM x hx) y (hM y hy)
theorem insV_at {w W : World} {g q c n a b : Nat} {cmp : Rw → Rw → Int} (ho : Srt.Ord cmp) {L P S Q R R' : List Rw} {sp : List Value} (hw : w.grownBy W (some g)) (hb : Blk W g 23 (R.map Rw.v ++ sp)) (hc : CmpsV w g q cmp L) (hL : ∀ z ∈ R, z ∈ L) (hn : R.length = n) (hlen : n ≤ 1000000) (hcap : n ≤ c) (ha : P.length = a) (hb2 : a + S.length = b) (hR : P ++ S ++ Q = R) (hR' : P ++ Srt.ssort cmp S ++ Q = R') :
    Calls Try.prog 102 #[.slice (some ⟨g, 0, none⟩) n c, .int .i64 (a : Int), .int .i64 (b : Int), .func (.func 70) #[] #[.pointer (some ⟨q, 0, none⟩)]] W
      (SortsV w g (R'.map Rw.v ++ sp)) := by
  subst hR hR' hn ha hb2
  exact (insV_any W g q c cmp ho P S Q sp hb ((hc.grown hw).mono hL) hlen hcap).mono fun e W' h => ⟨h.1, h.2.1, grown_trans hw h.2.2⟩
set_option maxRecDepth 100000 in
set_option maxHeartbeats 8000000 in
theorem stabV_any (w : World) (g q n c : Nat) (cmp : Rw → Rw → Int) (ho : Srt.Ord cmp) (L : List Rw) (sp : List Value) (hb : Blk w g 23 (L.map Rw.v ++ sp)) (hc : CmpsV w g q cmp L) (hn : L.length = n) (hlen : n ≤ 1000000) (hcap : n ≤ c) :
    Calls Try.prog 92 #[.slice (some ⟨g, 0, none⟩) n c, .int .i64 (n : Int), .func (.func 70) #[] #[.pointer (some ⟨q, 0, none⟩)]] w
      (SortsV w g ((Srt.ssort cmp L).map Rw.v ++ sp)) := by
  have HO := Lib.hid ho
  have HC := Lib.hid hc
  have HBK := Lib.hid hb
  have HN := Lib.hid hn
  have HLM : Hid (∀ R : List Rw, R.Perm L → (∀ z ∈ R, z ∈ L) ∧ R.length = n) := fun R hR => ⟨fun z hz => hR.mem_iff.1 hz, by rw [hR.length_eq, hn]⟩
  obtain ⟨cs, hcs⟩ : ∃ cs, (Srt.ssort cmp L).map Rw.v ++ sp = cs := ⟨_, rfl⟩
  rw [hcs]
  have HCS := Lib.hid hcs
  clear hb hc ho hn hcs
  go_enter Try.func92, Try.ntmps92
  go_wp2_with fail
  go_loopw [7, 8] (fun av bv wr => ∃ a : Nat, a ≤ n ∧ av = .int .i64 (a : Int) ∧ bv = .int .i64 ((a + 20 : Nat) : Int) ∧ Hid (∃ LD LR SD : List Rw, L = LD ++ LR ∧ LD.length = a ∧ Srt.Done cmp 20 SD LD ∧ Blk wr g 23 ((SD ++ LR).map Rw.v ++ sp) ∧ w.grownBy wr (some g))) (fun av _ _ => n - (intOf av).toNat)
  case atStart => exact ⟨0, Nat.zero_le _, by go_num, by go_num, [], L, [], rfl, rfl, Srt.Done.nil, HBK.out, grown_refl _ _⟩
  case round =>
    obtain ⟨a, han, rfl, rfl, HJ⟩ := hrel
    clear HBK
    obtain ⟨LD, LR, SD, e1, e2, e3, e4, e5⟩ := HJ.out
    clear HJ
    have hSD : SD.length = a := by rw [e3.len, e2]
    have hLR : a + LR.length = n := by have := HN.out; rw [e1, List.length_append] at this; omega
    have hP : (SD ++ LR).Perm L := by rw [e1]; exact e3.1.append_right _
    by_cases hlt : a + 20 ≤ n
    · have hii : ((a + 20 : Nat) : Int) ≤ (n : Int) := by omega
      have HR := Lib.hid (insV_at (q := q) (c := c) (n := n) (a := a) (b := a + 20) HO.out (P := SD) (S := LR.take 20) (Q := LR.drop 20) e5 e4 HC.out (HLM.out _ hP).1 (HLM.out _ hP).2 hlen hcap hSD (by rw [List.length_take]; omega) (by rw [List.append_assoc, List.take_append_drop]) rfl)
      have HNX : Hid (∀ W, Blk W g 23 ((SD ++ Srt.ssort cmp (LR.take 20) ++ LR.drop 20).map Rw.v ++ sp) → w.grownBy W (some g) → ∃ LD LR SD : List Rw, L = LD ++ LR ∧ LD.length = a + 20 ∧ Srt.Done cmp 20 SD LD ∧ Blk W g 23 ((SD ++ LR).map Rw.v ++ sp) ∧ w.grownBy W (some g)) := fun W h1 h2 =>
        ⟨LD ++ LR.take 20, LR.drop 20, SD ++ Srt.ssort cmp (LR.take 20), by rw [List.append_assoc, List.take_append_drop]; exact e1, by rw [List.length_append, List.length_take, e2]; omega, e3.more _ (by rw [List.length_take]; omega), h1, h2⟩
      clear e1 e2 e3 e4 e5 hSD hLR hP
      go_wp2_with fail
      refine (show Calls _ _ _ _ _ from HR.out).mono ?_
      rintro e W ⟨rfl, hW⟩
      have HW := Lib.hid (HNX.out W hW.1 hW.2)
      clear hW HR HNX
      go_wp2_with fail
      go_roundw
      case rel => exact ⟨a + 20, hlt, by go_num, by go_num, HW.out⟩
      case measure => simp [intOf]; omega
    · have hii : ¬ ((a + 20 : Nat) : Int) ≤ (n : Int) := by omega
      have HR := Lib.hid (insV_at (q := q) (c := c) (n := n) (a := a) (b := n) HO.out (P := SD) (S := LR) (Q := []) e5 e4 HC.out (HLM.out _ hP).1 (HLM.out _ hP).2 hlen hcap hSD hLR (by rw [List.append_nil]) rfl)
      have HNX : Hid (∀ W, Blk W g 23 ((SD ++ Srt.ssort cmp LR ++ []).map Rw.v ++ sp) → w.grownBy W (some g) → ∃ S : List Rw, Srt.Chk cmp 20 S L ∧ Blk W g 23 (S.map Rw.v ++ sp) ∧ w.grownBy W (some g)) := fun W h1 h2 =>
        ⟨SD ++ Srt.ssort cmp LR, by rw [e1]; exact e3.2 _ _ (.last _ (by omega)), by rw [List.append_nil] at h1; exact h1, h2⟩
      clear e1 e2 e3 e4 e5 hSD hLR hP
      go_wp2_with fail
      refine (show Calls _ _ _ _ _ from HR.out).mono ?_
      rintro e W ⟨rfl, hW⟩
      have HW := Lib.hid (HNX.out W hW.1 hW.2)
      clear hW HR HNX hii hlt han
      go_wp2_with fail
      go_loopw [6] (fun bv wr => ∃ bs : Nat, 20 ≤ bs ∧ bv = .int .i64 (bs : Int) ∧ Hid (∃ S : List Rw, Srt.Chk cmp bs S L ∧ Blk wr g 23 (S.map Rw.v ++ sp) ∧ w.grownBy wr (some g))) (fun bv _ => n - (intOf bv).toNat)
      case atStart => exact ⟨20, Nat.le_refl _, by go_num, HW.out⟩
      case round =>
        obtain ⟨bs, hbs, rfl, HJ⟩ := hrel
        clear HW
        by_cases hlt : bs < n
        · have hii : (bs : Int) < (n : Int) := by omega
          go_wp2_with fail
          go_loopw [7, 8] (fun av bv wr => ∃ a : Nat, a ≤ n ∧ av = .int .i64 (a : Int) ∧ bv = .int .i64 ((a + 2 * bs : Nat) : Int) ∧ Hid (∃ LD LR SD SR : List Rw, L = LD ++ LR ∧ LD.length = a ∧ Srt.Done cmp (2 * bs) SD LD ∧ Srt.Chk cmp bs SR LR ∧ Blk wr g 23 ((SD ++ SR).map Rw.v ++ sp) ∧ w.grownBy wr (some g))) (fun av _ _ => n - (intOf av).toNat)
          case atStart =>
            obtain ⟨S, e1, e2, e3⟩ := HJ.out
            exact ⟨0, Nat.zero_le _, by go_num, by go_num, [], L, [], S, rfl, rfl, Srt.Done.nil, e1, e2, e3⟩
          case round =>
            obtain ⟨a, han, rfl, rfl, HJ⟩ := hrel
            obtain ⟨LD, LR, SD, SR, e1, e2, e3, e4, e5, e6⟩ := HJ.out
            clear HJ
            have hSD : SD.length = a := by rw [e3.len, e2]
            have hLR : a + LR.length = n := by have := HN.out; rw [e1, List.length_append] at this; omega
            have hP : (SD ++ SR).Perm L := by rw [e1]; exact e3.1.append e4.perm
            by_cases hle : a + 2 * bs ≤ n
            · have hij : ((a + 2 * bs : Nat) : Int) ≤ (n : Int) := by omega
              obtain ⟨B1, S1, L1, b1, rfl, rfl, c1⟩ := e4.cut (by omega)
              rw [List.length_append] at hLR
              obtain ⟨B2, S2, L2, b2, rfl, rfl, c2⟩ := c1.cut (by omega)
              obtain ⟨m, hm⟩ : ∃ m : Nat, (a : Int) + (bs : Int) = (m : Int) := ⟨a + bs, by omega⟩
              have hm2 : a + bs = m := by omega
              have HR := Lib.hid ((symV_any g q n c cmp HO.out L sp hlen hcap _).at (w := w) e6 (P := SD) (X := Srt.ssort cmp B1) (Y := Srt.ssort cmp B2) (Q := S2) (a := a) (m := m) (b := a + 2 * bs) (R' := (SD ++ Srt.ssort cmp (B1 ++ B2)) ++ S2) (Nat.le_refl _) (by rw [Srt.ssort_length]; omega) (by rw [Srt.ssort_length]; omega) (Srt.ssort_sorted HO.out _) (Srt.ssort_sorted HO.out _) e5 HC.out (HLM.out _ hP).1 (HLM.out _ hP).2 hSD (by rw [Srt.ssort_length]; omega) (by rw [Srt.ssort_length]; omega) (by simp) (by rw [Srt.ssort_append HO.out]))
              have HNX : Hid (∀ W, Blk W g 23 (((SD ++ Srt.ssort cmp (B1 ++ B2)) ++ S2).map Rw.v ++ sp) → w.grownBy W (some g) → ∃ LD LR SD SR : List Rw, L = LD ++ LR ∧ LD.length = a + 2 * bs ∧ Srt.Done cmp (2 * bs) SD LD ∧ Srt.Chk cmp bs SR LR ∧ Blk W g 23 ((SD ++ SR).map Rw.v ++ sp) ∧ w.grownBy W (some g)) := fun W h1 h2 =>
                ⟨LD ++ (B1 ++ B2), L2, SD ++ Srt.ssort cmp (B1 ++ B2), S2, by rw [e1]; simp, by simp; omega, e3.more _ (by simp; omega), c2, h1, h2⟩
              clear e1 e2 e3 e4 e5 e6 hSD hLR hP b1 b2 c1 c2
              go_wp2_with fail
              refine (show Calls _ _ _ _ _ from HR.out).mono ?_
              rintro e W ⟨rfl, hW⟩
              have HW := Lib.hid (HNX.out W hW.1 hW.2)
              clear hW HR HNX hm
              go_wp2_with fail
              go_roundw
              case rel => exact ⟨a + 2 * bs, hle, by go_num, by go_num, HW.out⟩
              case measure => simp [intOf]; omega
            · have hij : ¬ ((a + 2 * bs : Nat) : Int) ≤ (n : Int) := by omega
              obtain ⟨m, hm⟩ : ∃ m : Nat, (a : Int) + (bs : Int) = (m : Int) := ⟨a + bs, by omega⟩
              have hm2 : a + bs = m := by omega
              by_cases hmn : m < n
              · have hmi : (m : Int) < (n : Int) := by omega
                obtain ⟨B1, S1, L1, b1, rfl, rfl, c1⟩ := e4.cut (by omega)
                rw [List.length_append] at hLR
                obtain rfl := c1.small (by omega)
                have HR := Lib.hid ((symV_any g q n c cmp HO.out L sp hlen hcap _).at (w := w) e6 (P := SD) (X := Srt.ssort cmp B1) (Y := Srt.ssort cmp L1) (Q := []) (a := a) (m := m) (b := n) (R' := SD ++ Srt.ssort cmp (B1 ++ L1)) (Nat.le_refl _) (by rw [Srt.ssort_length]; omega) (by rw [Srt.ssort_length]; omega) (Srt.ssort_sorted HO.out _) (Srt.ssort_sorted HO.out _) e5 HC.out (HLM.out _ hP).1 (HLM.out _ hP).2 hSD (by rw [Srt.ssort_length]; omega) (by rw [Srt.ssort_length]; omega) (by simp) (by rw [Srt.ssort_append HO.out, List.append_nil]))
                have HNX : Hid (∀ W, Blk W g 23 ((SD ++ Srt.ssort cmp (B1 ++ L1)).map Rw.v ++ sp) → w.grownBy W (some g) → ∃ S : List Rw, Srt.Chk cmp (2 * bs) S L ∧ Blk W g 23 (S.map Rw.v ++ sp) ∧ w.grownBy W (some g)) := fun W h1 h2 =>
                  ⟨SD ++ Srt.ssort cmp (B1 ++ L1), by rw [e1]; exact e3.2 _ _ (.last _ (by simp; omega)), h1, h2⟩
                clear e1 e2 e3 e4 e5 e6 hSD hLR hP b1 c1
                go_wp2_with fail
                refine (show Calls _ _ _ _ _ from HR.out).mono ?_
                rintro e W ⟨rfl, hW⟩
                have HW := Lib.hid (HNX.out W hW.1 hW.2)
                clear hW HR HNX hm
                go_wp2_with fail
                go_roundw
                case rel => exact ⟨2 * bs, by omega, by go_num, HW.out⟩
                case measure => simp [intOf]; omega
              · have hmi : ¬ (m : Int) < (n : Int) := by omega
                obtain rfl := e4.small (by omega)
                have HW : Hid (∃ S : List Rw, Srt.Chk cmp (2 * bs) S L ∧ Blk wr g 23 (S.map Rw.v ++ sp) ∧ w.grownBy wr (some g)) :=
                  ⟨_, by rw [e1]; exact e3.2 _ _ (.last _ (by omega)), e5, e6⟩
                clear e1 e2 e3 e4 e5 e6 hSD hLR hP
                go_wp2_with fail
                clear hm
                go_roundw
                case rel => exact ⟨2 * bs, by omega, by go_num, HW.out⟩
                case measure => simp [intOf]; omega
        · have hii : ¬ (bs : Int) < (n : Int) := by omega
          have HF : Hid (SortsV w g cs (.returned (.tuple #[])) wr) := by
            obtain ⟨S, e1, e2, e3⟩ := HJ.out
            obtain rfl := e1.small (by have := HN.out; omega)
            exact ⟨rfl, by rw [← HCS.out]; exact e2, e3⟩
          go_wp2_with fail
          go_end0
          exact HF.out
set_option maxRecDepth 100000 in
set_option maxHeartbeats 8000000 in
theorem stableV_any (w : World) (g q n c : Nat) (cmp : Rw → Rw → Int) (ho : Srt.Ord cmp) (L : List Rw) (sp : List Value) (hb : Blk w g 23 (L.map Rw.v ++ sp)) (hc : CmpsV w g q cmp L) (hn : L.length = n) (hlen : n ≤ 1000000) (hcap : n ≤ c) :
    Calls Try.prog 69 #[.slice (some ⟨g, 0, none⟩) n c, .func (.func 70) #[] #[.pointer (some ⟨q, 0, none⟩)]] w
      (SortsV w g ((Srt.ssort cmp L).map Rw.v ++ sp)) := by
  have HR := Lib.hid (stabV_any w g q n c cmp ho L sp hb hc hn hlen hcap)
  obtain ⟨cs, hcs⟩ : ∃ cs, (Srt.ssort cmp L).map Rw.v ++ sp = cs := ⟨_, rfl⟩
  rw [hcs] at HR ⊢
  clear hb hc ho hn hcs
  go_enter Try.func69, Try.ntmps69
  go_wp2_with fail
  refine (show Calls _ _ _ _ _ from HR.out).mono ?_
  rintro e W ⟨rfl, hW⟩
  have HW := Lib.hid hW
  clear hW HR
  go_wp2_with fail
  go_end0
  exact ⟨rfl, HW.out⟩
end Go.Proofs.Ytknfnhmkiooifaa
end

section
/-
  The contracts of what eval's groups and Answer call: a group's first row, Clip, Clone, what compares.
-/
namespace Go.Proofs.Ytknfnhmkiooifaa
set_option linter.unusedSimpArgs false
set_option linter.unusedVariables false
open Go.RowKit

/-- Groups. -/
def eGr : Elem Gr where
  e := 59
  t := 56
  sz := 1
  bytes := 24
  zero := .agg #[.slice none 0 0]
  code := fun x => [x.h]
  pos := by decide
  few := by decide
  len := fun _ => rfl
  one := by
    intro x u hu
    simp at hu
    subst hu
    rfl
  zsz := rfl
  info := by kernel_rfl
  under := Try.underlying56
theorem cells_gr (L : List Gr) : eGr.cells L = L.map Gr.h := by induction L with
  | nil => rfl
  | cons x L ih => show [x.h] ++ eGr.cells L = _; rw [ih]; rfl
theorem cells_rw (L : List Rw) : eRw.cells L = L.map Rw.v := by induction L with
  | nil => rfl
  | cons x L ih => show [x.v] ++ eRw.cells L = _; rw [ih]; rfl
section
variable {α : Type} {E : Elem α} {w : World} {B c g : Nat} {L : List α}
theorem EOwn.toBlk (h : EOwn E w B (some ⟨g, 0, none⟩) c L) : ∃ sp, Blk w g E.e (E.cells L ++ sp) ∧ (E.cells L ++ sp).length = c * E.sz ∧ B ≤ g ∧ L.length ≤ c ∧ c ≤ maxLen := by
  obtain ⟨hl, h | ⟨g', cap, cur, hv, hB, hg, h1, h2, h3, h4⟩⟩ := h
  · exact absurd h.1 (by simp)
  · obtain ⟨rfl, rfl⟩ : g = g' ∧ c = cap := by simpa using hv
    refine ⟨cur.toList.drop (L.length * E.sz), ?_, ?_, hB, h1, h2⟩
    · rw [← h4, List.take_append_drop]
      show _ = some _
      rw [hg]
    · rw [← h4, List.take_append_drop]
      simpa using h3
theorem EOwn.ofBlk {sp : List Value} (hb : Blk w g E.e (E.cells L ++ sp)) (hl : (E.cells L ++ sp).length = c * E.sz) (h1 : L.length ≤ c) (h2 : c ≤ maxLen) (hB : B ≤ g) : EOwn E w B (some ⟨g, 0, none⟩) c L := by
  refine ⟨E.cells_length L, .inr ⟨g, c, (E.cells L ++ sp).toArray, rfl, hB, hb, h1, h2, by simpa using hl, ?_⟩⟩
  show (E.cells L ++ sp).take _ = _
  rw [← E.cells_length L, List.take_left]
/-- append to a row without room: the row is a new one. -/
theorem wpList_append_full (E : Elem α) {w : World} {A : Option Addr} {L M : List α} {c' : Nat} {ops : Array Oper} {rest : List Oper} {o : Oper} {a : Act} {Q : Exit → Act → World → Prop} (hgd : o.guard = none) (s x : Operand)
    (hop : o.op = .call { callee := .builtin .append, args := #[s, x], argTypes := #[E.t, E.t] })
    (n : Nat) (hs : a.eval s = .slice A n n) (ho : ERow E w A L) (hn : n = L.length) (k : Nat) (ad : Addr) (hx : a.eval x = .slice (some ad) k c') (hr : ERow E w (some ad) M) (hk : k = M.length) (hk0 : 0 < k)
    (hb : L.length + M.length ≤ 1073741824) (hnone : A = none → L.length = 0)
    (h : ∀ A1 c1 w1, EOwn E w1 w.heap.size A1 c1 (L ++ M) → Below w.heap.size w w1 →
      wpList Try.prog ops Q rest (a.put o.dst (.slice A1 (L.length + M.length) c1)) w1) : wpList Try.prog ops Q (o :: rest) a w := by
  subst hn hk
  obtain ⟨i, hi, hz, hsi, hby⟩ := info_parts E.info
  have hbig : (L.length + M.length) * E.bytes ≤ 140737488355328 := by
    have h1 := Nat.mul_le_mul hb E.few
    omega
  refine wpList_append_grows (P := Try.prog) w hgd s x E.t hop E.e i E.zero E.sz E.bytes E.under hi hz hsi hby E.zsz E.pos A L.length L.length (E.cells L) hs (fun e => ⟨hnone e, hnone e⟩) (E.cells_length L) ?_ ad M.length c' (E.cells M) hx (E.cells_length M) ?_ (E.cells_one M) (by omega) (by simp [maxLen]; omega) hbig ?_
  · rintro b rfl j u hu
    have hj := (List.getElem?_eq_some_iff.1 hu).1
    rw [E.cells_length] at hj
    obtain ⟨b', o', e, _, hc⟩ := ho (by
      rcases Nat.eq_zero_or_pos L.length with h0 | h0
      · rw [h0] at hj; simp at hj
      · exact h0)
    obtain rfl := Option.some.inj e
    rw [Addr.add_lit]
    exact hc j u hu
  · intro j u hu
    obtain ⟨b', o', e, _, hc⟩ := hr hk0
    obtain rfl := Option.some.inj e
    rw [Addr.add_lit]
    exact hc j u hu
  · intro v' w' hown hgr
    obtain ⟨A1, c1, rfl⟩ := own_slice hown
    have : EOwn E w' w.heap.size A1 c1 (L ++ M) := by
      unfold EOwn
      rw [E.cells_append, List.length_append]
      exact hown
    exact h A1 c1 w' this ⟨hgr.os, hgr.tape, hgr.output, hgr.size, fun k hk => hgr.block k hk (by simp)⟩
end
set_option maxRecDepth 20000 in
theorem clip_any (w : World) (A : Option Addr) (n c : Nat) (hn : n ≤ c) (hm : c ≤ maxLen) : Calls Try.prog 71 #[.slice A n c] w fun e w' => e = .returned (.slice A n n) ∧ w = w' := by
  have hmm : (n : Int) ≤ 9223372036854775807 := by unfold maxLen at hm; omega
  go_enter Try.func71, Try.ntmps71
  go_wp2_with fail
  go_ret
  exact ⟨rfl, rfl⟩
set_option maxRecDepth 20000 in
set_option maxHeartbeats 1000000 in
theorem first_any (w : World) (r : Gr) (h : RowsOk w r.a r.l) : Calls Try.prog 34 #[r.v] w fun e w' => e = .returned (Ev.firstR r.l).v ∧ Below w.heap.size w w' := by
  have HL := Lib.hid h
  clear h
  show Calls _ _ #[.agg #[r.h]] _ _
  go_enter Try.func34, Try.ntmps34
  go_upto_region 1 with fail
  generalize hW1 : World.alloc w (.cells _ _) = W1
  obtain ⟨ba1, hz1, hB1⟩ := fresh1 hW1
  clear hW1
  have HL1 := Lib.hid (HL.out.below hB1)
  have HB1 := Lib.hid hB1
  have q0 := ba1.cell 0
  simp only [List.getElem?_cons_zero] at q0
  clear hB1 ba1 hz1 HL
  obtain ⟨A, L, c⟩ := r
  unfold Gr.h at q0
  cases L with
  | nil =>
    go_wp2_with fail
    go_ret
    exact ⟨rfl, HB1.out⟩
  | cons x L =>
    obtain ⟨bb, oo, rfl, hbl, q1⟩ := rw_at HL1.out.r (j := 0) (by simp)
    rw [Nat.add_zero] at q1
    simp only [List.getElem_cons_zero] at q1
    have hx : (((x :: L).length : Int) == 0) = false := by simp; omega
    have hl1 : (0 : Int) < ((x :: L).length : Int) := by simp
    obtain ⟨n, hn⟩ : ∃ n, (x :: L).length = n := ⟨_, rfl⟩
    simp only [hn] at q0 hx hl1
    clear hn
    go_wp2_with fail
    go_ret
    exact ⟨rfl, HB1.out⟩
set_option maxRecDepth 20000 in
set_option maxHeartbeats 1000000 in
/-- What compares rows: the order's place is told by a variable's block. -/
theorem gcmp_any (w : World) (q : Nat) (A : Option Addr) (l : List So) (c : Nat) (hq : Blk w q 22 [.slice A l.length c]) (hl : ERow eSo w A l) (hin : ∀ s ∈ l, Ev.inB s.at_) (hll : l.length ≤ 9223372036854775807) (x y : Rw) (hx : RowOk w x.a x.l) (hy : RowOk w y.a y.l) :
    Calls Try.prog 70 #[x.v, y.v, .pointer (some ⟨q, 0, none⟩)] w fun e w' => e = .returned (.int .i64 (Ev.rcmp l x y)) ∧ Below w.heap.size w w' := by
  have HO := Lib.hid (pordr_any w A x.a y.a c x.c y.c l x.l y.l hl hin hll hx hy)
  obtain ⟨q0, q1, q2⟩ := Blk.c1 hq
  clear hq hl hin hx hy
  go_enter Try.func70, Try.ntmps70
  go_wp2_with fail
  refine (show Calls _ _ _ _ _ from HO.out).mono ?_
  rintro e W ⟨rfl, hB⟩
  have HB := Lib.hid hB
  clear hB q0 q1 q2 HO
  go_wp2_with fail
  go_ret
  exact ⟨rfl, HB.out⟩
theorem RowsOk.first {w : World} {A : Option Addr} {L : List Rw} (h : RowsOk w A L) : RowOk w (Ev.firstR L).a (Ev.firstR L).l := by
  cases L with
  | nil => exact ⟨ERow.nil, (by intro v hv; cases hv), Nat.zero_le _⟩
  | cons x L => exact h.in_ x (by simp)
set_option maxRecDepth 20000 in
set_option maxHeartbeats 2000000 in
/-- What compares groups. -/
theorem acmp_any (w : World) (q : Nat) (T : TypeId) (cs : List Value) (A : Option Addr) (l : List So) (c : Nat) (hq : Blk w q T cs) (hq7 : cs[7]? = some (.slice A l.length c)) (hl : ERow eSo w A l) (hin : ∀ s ∈ l, Ev.inB s.at_) (hll : l.length ≤ 9223372036854775807) (x y : Gr) (hx : RowsOk w x.a x.l) (hy : RowsOk w y.a y.l) :
    Calls Try.prog 33 #[x.v, y.v, .pointer (some ⟨q, 0, none⟩)] w fun e w' => e = .returned (.int .i64 (Ev.gcmp l x.l y.l)) ∧ Below w.heap.size w w' := by
  have HX := Lib.hid hx
  have HY := Lib.hid hy
  have HL := Lib.hid hl
  have HIN := Lib.hid hin
  have HQ : Hid (∀ W, Below w.heap.size w W → W.cell? ⟨q, 7, none⟩ = some (.slice A l.length c)) := fun W hW => by rw [(hq.below hW).cell, hq7]
  clear hq hq7 hl hin hx hy
  show Calls _ _ #[.agg #[x.h], .agg #[y.h], _] _ _
  go_enter Try.func33, Try.ntmps33
  go_upto_region 1 with fail
  generalize hW1 : ((World.alloc w (.cells _ _)).alloc (.cells _ _)) = W1
  obtain ⟨ba1, bb1, hz1, hB1⟩ := fresh2 hW1
  clear hW1
  have HB1 := Lib.hid hB1.drewR
  have q7 := HQ.out _ HB1.out
  have q0 := ba1.drew.cell 0
  have q1 := bb1.drew.cell 0
  simp only [List.getElem?_cons_zero] at q0 q1
  clear hB1 ba1 bb1 hz1
  refine wp_region_plan (.take 0 (.take 1 (.take 2 (.take 4 (.run 3 [0, 1, 4] (.run 5 [0, 1] (.run 6 [] (.take 7 .fin)))))))) (by kernel_rfl) (by kernel_rfl) (by kernel_rfl) (by kernel_rfl) ?_
  repeat' (first | (refine hZ _ _ ?_; clear hZ) | (refine hZ _ ?_; clear hZ) | (refine hZ ?_; clear hZ) | rw [again_nil] | rw [walk_fin] | ((first | rw [walk_take] | rw [walk_run] | rw [again_cons]); intro Z hZ; simp only [sel, List.getElem?_toArray, List.getElem?_cons_zero, List.getElem?_cons_succ]; go_wp2_with (fail)))
  refine (show Calls _ _ #[.agg #[x.h]] _ _ from first_any _ x (HX.out.below HB1.out)).mono ?_
  rintro e W2 ⟨rfl, hB2⟩
  have HB2 := Lib.hid (HB1.out.trans (hB2.mono HB1.out.size))
  have q1' := cell_later hB2 q1
  have q7' := HQ.out _ HB2.out
  clear hB2 q0 q1 q7
  go_wp2_with fail
  repeat' (first | (refine hZ _ _ ?_; clear hZ) | (refine hZ _ ?_; clear hZ) | (refine hZ ?_; clear hZ) | rw [again_nil] | rw [walk_fin] | ((first | rw [walk_take] | rw [walk_run] | rw [again_cons]); intro Z hZ; simp only [sel, List.getElem?_toArray, List.getElem?_cons_zero, List.getElem?_cons_succ]; go_wp2_with (fail)))
  refine (show Calls _ _ #[.agg #[y.h]] _ _ from first_any _ y (HY.out.below HB2.out)).mono ?_
  rintro e W3 ⟨rfl, hB3⟩
  have HB3 := Lib.hid (HB2.out.trans (hB3.mono HB2.out.size))
  have q7'' := HQ.out _ HB3.out
  clear hB3 q1' q7'
  go_wp2_with fail
  repeat' (first | (refine hZ _ _ ?_; clear hZ) | (refine hZ _ ?_; clear hZ) | (refine hZ ?_; clear hZ) | rw [again_nil] | rw [walk_fin] | ((first | rw [walk_take] | rw [walk_run] | rw [again_cons]); intro Z hZ; simp only [sel, List.getElem?_toArray, List.getElem?_cons_zero, List.getElem?_cons_succ]; go_wp2_with (fail)))
  refine (pordr_any _ A _ _ c (Ev.firstR x.l).c (Ev.firstR y.l).c l (Ev.firstR x.l).l (Ev.firstR y.l).l (HL.out.below HB3.out) HIN.out hll (HX.out.below HB3.out).first (HY.out.below HB3.out).first).mono ?_
  rintro e W4 ⟨rfl, hB4⟩
  have HB4 := Lib.hid (HB3.out.trans (hB4.mono HB3.out.size))
  clear hB4
  go_wp2_with fail
  repeat' (first | (refine hZ _ _ ?_; clear hZ) | (refine hZ _ ?_; clear hZ) | (refine hZ ?_; clear hZ) | rw [again_nil] | rw [walk_fin] | ((first | rw [walk_take] | rw [walk_run] | rw [again_cons]); intro Z hZ; simp only [sel, List.getElem?_toArray, List.getElem?_cons_zero, List.getElem?_cons_succ]; go_wp2_with (fail)))
  go_wp2_with fail
  go_ret
  exact ⟨rfl, HB4.out⟩
set_option maxRecDepth 20000 in
set_option maxHeartbeats 1000000 in
theorem rclone_any (w : World) (A : Option Addr) (c : Nat) (L : List Rw) (hr : ERow eRw w A L) (hl : L.length ≤ 1000000) :
    Calls Try.prog 68 #[.slice A L.length c] w fun e w' => ∃ A1 c1, e = .returned (.slice A1 L.length c1) ∧ EOwn eRw w' w.heap.size A1 c1 L ∧ Below w.heap.size w w' := by
  cases A with
  | none =>
    have hl0 : L = [] := by
      cases L with
      | nil => rfl
      | cons x l => obtain ⟨b, o, h, _⟩ := hr (by simp); cases h
    subst hl0
    have hq := Lib.run_eql_slice_nil (P := Try.prog) w 26 23 none 0 c 0 0 Try.underlying26
    go_enter Try.func68, Try.ntmps68
    go_wp2_with fail
    go_ret
    exact ⟨none, 0, rfl, EOwn.nil _ _, Below.refl _ _⟩
  | some a =>
    have hq := Lib.run_eql_slice_nil (P := Try.prog) w 26 23 (some a) L.length c 0 0 Try.underlying26
    have hoe : EOwn eRw (w.alloc (.cells #[] 23)) w.heap.size (some ⟨w.heap.size, 0, none⟩) 0 [] := EOwn.new w [] (by simp [maxLen]) (Nat.le_refl _) #[] rfl
    have hrr : ERow eRw (w.alloc (.cells #[] 23)) (some a) L := hr.below ((Below.refl _ _).alloc (Nat.le_refl _) _)
    go_enter Try.func68, Try.ntmps68
    go_wp2_with (at_builtin; refine wpList_append_elems eRw rfl (.tmp 5) (.tmp 6) rfl 0 rfl hoe rfl _ rfl hrr rfl (by simp; omega) (by simp) ?_; intro A3 c3 w3 ho3 hb3 _ _)
    go_ret
    rw [List.nil_append] at ho3
    exact ⟨A3, c3, by simp, ho3, ((Below.refl _ _).alloc (Nat.le_refl _) _).trans hb3⟩
end Go.Proofs.Ytknfnhmkiooifaa
end

section
/-
  A query, as it lies in memory.
-/
namespace Go.Proofs.Ytknfnhmkiooifaa
set_option linter.unusedSimpArgs false
set_option linter.unusedVariables false
open Go.RowKit

/-- A query, with the places of its parts. -/
structure Qr where
  tv : Value
  bv : Value
  width : Int
  wa : Option Addr
  where_ : List Nd
  wc : Nat
  ga : Option Addr
  group : List Int
  gc : Nat
  grouped : Bool
  ia : Option Addr
  items : List Nd
  ic : Nat
  oa : Option Addr
  order : List So
  oc : Nat
  lim : Int
def Qr.cells (q : Qr) : List Value := [q.tv, q.bv, .int .i64 q.width, .slice q.wa q.where_.length q.wc, .slice q.ga q.group.length q.gc, .bool q.grouped, .slice q.ia q.items.length q.ic, .slice q.oa q.order.length q.oc, .int .i64 q.lim]
def Qr.v (q : Qr) : Value := .agg q.cells.toArray
/-- A query whose parts can be read. -/
structure QrIn (w : World) (q : Qr) : Prop where
  g : ERow eInt w q.ga q.group
  gin : ∀ n ∈ q.group, Ev.inB n
  gl : q.group.length ≤ 1000000
  i : ERow eNd w q.ia q.items
  iin : ∀ n ∈ q.items, NodeIn w n
  il : q.items.length ≤ 1000000
  o : ERow eSo w q.oa q.order
  oin : ∀ s ∈ q.order, Ev.inB s.at_
  ol : q.order.length ≤ 1000000
  lim : Ev.inB q.lim
theorem node_below {w W : World} {n : Nd} (h : NodeIn w n) (hB : Below w.heap.size w W) : NodeIn W n := by
  induction h with
  | @mk n hr hin hlit hls hk hat hc hm ih => exact .mk (hr.below hB) ih hlit hls hk hat hc hm
theorem QrIn.below {w W : World} {q : Qr} (h : QrIn w q) (hB : Below w.heap.size w W) : QrIn W q :=
  ⟨h.g.below hB, h.gin, h.gl, h.i.below hB, fun n hn => node_below (h.iin n hn) hB, h.il, h.o.below hB, h.oin, h.ol, h.lim⟩
theorem qr_info : (Try.prog.info? 40).map (·.size) = some 9 := by kernel_rfl
section
variable {w : World} {ops : Array Oper} {rest : List Oper} {o : Oper} {a : Act} {Q : Exit → Act → World → Prop}
theorem wpList_box_qr (hgd : o.guard = none) (x : Operand) (hop : o.op = .box 40 x) (b : Qr) (hx : a.eval x = b.v)
    (h : ∀ W, Blk W w.heap.size 40 b.cells → w.heap.size + 1 ≤ W.heap.size → Below w.heap.size w W → wpList Try.prog ops Q rest (a.put o.dst (.pointer (some ⟨w.heap.size, 0, none⟩))) W) : wpList Try.prog ops Q (o :: rest) a w :=
  wpList_plain hgd fun _ hK => by
    unfold Oper.wp execOp
    have e : (Instr.box 40 b.v).run Try.prog w = .ok (.pointer (some ⟨w.heap.size, 0, none⟩)) (w.alloc (.cells b.cells.toArray 40)) := by
      simp [Instr.box, Sem.run_bind, newVar, newRow]
      rfl
    simp only [hop, hx, Sem.run_bind, e, Result.andThen_ok, Sem.run_pure]
    obtain ⟨h1, h2, h3⟩ := fresh1 (w := w) (a := b.cells) (t := 40) rfl
    exact hK _ _ (h _ h1 h2 h3)
theorem wpList_load_qr (hgd : o.guard = none) (x : Operand) (hop : o.op = .load 40 x) (g : Nat) (hx : a.eval x = .pointer (some ⟨g, 0, none⟩)) {T0 : TypeId} {b : Qr} (hb : Blk w g T0 b.cells)
    (h : wpList Try.prog ops Q rest (a.put o.dst b.v) w) : wpList Try.prog ops Q (o :: rest) a w :=
  wpList_load_mid hgd 40 x hop g 0 hx b.cells _ (hb.range 0 b.cells fun j _ => by rw [Nat.zero_add]) Try.underlying40 rfl qr_info h
end
theorem Blk.qr {w : World} {g : Nat} {t : TypeId} {q : Qr} (h : Blk w g t q.cells) :
    w.cell? ⟨g, 4, none⟩ = some (.slice q.ga q.group.length q.gc) ∧ w.cell? ⟨g, 5, none⟩ = some (.bool q.grouped) ∧ w.cell? ⟨g, 6, none⟩ = some (.slice q.ia q.items.length q.ic) ∧ w.cell? ⟨g, 7, none⟩ = some (.slice q.oa q.order.length q.oc) ∧ w.cell? ⟨g, 8, none⟩ = some (.int .i64 q.lim) :=
  ⟨h.cell 4, h.cell 5, h.cell 6, h.cell 7, h.cell 8⟩
end Go.Proofs.Ytknfnhmkiooifaa
end

section
/-
  Stable sorting of a slice that is nil.
-/
namespace Go.Proofs.Ytknfnhmkiooifaa
set_option linter.unusedSimpArgs false
set_option linter.unusedVariables false
open Go.RowKit
set_option maxRecDepth 20000 in
set_option maxHeartbeats 4000000 in
theorem stable0G_any (w : World) (q : Nat) :
    Calls Try.prog 32 #[.slice none 0 0, .func (.func 33) #[] #[.pointer (some ⟨q, 0, none⟩)]] w fun e w' => e = .returned (.tuple #[]) ∧ w = w' := by
  have HI : ∀ w, Hid (Calls Try.prog 93 #[.slice none 0 0, .int .i64 0, .int .i64 0, .func (.func 33) #[] #[.pointer (some ⟨q, 0, none⟩)]] w fun e w' => e = .returned (.tuple #[]) ∧ w = w') := by
    intro w
    show Calls _ _ _ _ _
    go_enter Try.func93, Try.ntmps93
    go_wp2_with fail
    go_loopw [8] (fun iv wr => iv = .int .i64 1 ∧ w = wr) (fun _ _ => 0)
    case atStart => exact ⟨by go_num, rfl⟩
    case round =>
      obtain ⟨rfl, rfl⟩ := hrel
      go_wp2_with fail
      go_end0
      exact ⟨rfl, rfl⟩
  have HS : ∀ w, Hid (Calls Try.prog 72 #[.slice none 0 0, .int .i64 0, .func (.func 33) #[] #[.pointer (some ⟨q, 0, none⟩)]] w fun e w' => e = .returned (.tuple #[]) ∧ w = w') := by
    intro w
    show Calls _ _ _ _ _
    go_enter Try.func72, Try.ntmps72
    go_wp2_with fail
    go_loopw [7, 8] (fun av bv wr => av = .int .i64 0 ∧ bv = .int .i64 20 ∧ w = wr) (fun _ _ _ => 0)
    case atStart => exact ⟨by go_num, by go_num, rfl⟩
    case round =>
      obtain ⟨rfl, rfl, rfl⟩ := hrel
      go_wp2_with fail
      refine (show Calls _ _ _ _ _ from (HI w).out).mono ?_
      rintro e W ⟨rfl, rfl⟩
      go_wp2_with fail
      go_loopw [6] (fun bv wr => bv = .int .i64 20 ∧ w = wr) (fun _ _ => 0)
      case atStart => exact ⟨by go_num, rfl⟩
      case round =>
        obtain ⟨rfl, rfl⟩ := hrel
        go_wp2_with fail
        go_end0
        exact ⟨rfl, rfl⟩
  go_enter Try.func32, Try.ntmps32
  go_wp2_with fail
  refine (show Calls _ _ _ _ _ from (HS w).out).mono ?_
  rintro e W ⟨rfl, rfl⟩
  go_wp2_with fail
  go_end0
  exact ⟨rfl, rfl⟩
set_option maxRecDepth 20000 in
set_option maxHeartbeats 4000000 in
theorem stable0V_any (w : World) (q : Nat) :
    Calls Try.prog 69 #[.slice none 0 0, .func (.func 70) #[] #[.pointer (some ⟨q, 0, none⟩)]] w fun e w' => e = .returned (.tuple #[]) ∧ w = w' := by
  have HI : ∀ w, Hid (Calls Try.prog 102 #[.slice none 0 0, .int .i64 0, .int .i64 0, .func (.func 70) #[] #[.pointer (some ⟨q, 0, none⟩)]] w fun e w' => e = .returned (.tuple #[]) ∧ w = w') := by
    intro w
    show Calls _ _ _ _ _
    go_enter Try.func102, Try.ntmps102
    go_wp2_with fail
    go_loopw [8] (fun iv wr => iv = .int .i64 1 ∧ w = wr) (fun _ _ => 0)
    case atStart => exact ⟨by go_num, rfl⟩
    case round =>
      obtain ⟨rfl, rfl⟩ := hrel
      go_wp2_with fail
      go_end0
      exact ⟨rfl, rfl⟩
  have HS : ∀ w, Hid (Calls Try.prog 92 #[.slice none 0 0, .int .i64 0, .func (.func 70) #[] #[.pointer (some ⟨q, 0, none⟩)]] w fun e w' => e = .returned (.tuple #[]) ∧ w = w') := by
    intro w
    show Calls _ _ _ _ _
    go_enter Try.func92, Try.ntmps92
    go_wp2_with fail
    go_loopw [7, 8] (fun av bv wr => av = .int .i64 0 ∧ bv = .int .i64 20 ∧ w = wr) (fun _ _ _ => 0)
    case atStart => exact ⟨by go_num, by go_num, rfl⟩
    case round =>
      obtain ⟨rfl, rfl, rfl⟩ := hrel
      go_wp2_with fail
      refine (show Calls _ _ _ _ _ from (HI w).out).mono ?_
      rintro e W ⟨rfl, rfl⟩
      go_wp2_with fail
      go_loopw [6] (fun bv wr => bv = .int .i64 20 ∧ w = wr) (fun _ _ => 0)
      case atStart => exact ⟨by go_num, rfl⟩
      case round =>
        obtain ⟨rfl, rfl⟩ := hrel
        go_wp2_with fail
        go_end0
        exact ⟨rfl, rfl⟩
  go_enter Try.func69, Try.ntmps69
  go_wp2_with fail
  refine (show Calls _ _ _ _ _ from (HS w).out).mono ?_
  rintro e W ⟨rfl, rfl⟩
  go_wp2_with fail
  go_end0
  exact ⟨rfl, rfl⟩
end Go.Proofs.Ytknfnhmkiooifaa
end

section
/-
  A row of groups that grows: a group more, a row more in the last group.
-/
namespace Go.Proofs.Ytknfnhmkiooifaa
set_option linter.unusedSimpArgs false
set_option linter.unusedVariables false
open Go.RowKit

/-- Groups in a row of the call's own, their rows elsewhere; the rows' values are those of L. -/
structure GLoop (B : Nat) (L : List Rw) (i : Nat) (W : World) (A : Option Addr) (c : Nat) (G : List Gr) : Prop where
  own : EOwn eGr W B A c G
  rows : ∀ r ∈ G, ERow eRw W r.a r.l
  mem : ∀ r ∈ G, ∀ x ∈ r.l, x ∈ L
  cap : ∀ r ∈ G, r.l.length ≤ r.c ∧ r.c ≤ maxLen
  ne : ∀ r ∈ G, r.l ≠ [] → ∀ a, r.a = some a → ∀ x, A = some x → a.block ≠ x.block
  nil : ∀ r ∈ G, r.a = none → r.l = []
  len : ∀ r ∈ G, r.l.length ≤ i
  size : B ≤ W.heap.size
variable {B i c : Nat} {L : List Rw} {W W' : World} {A : Option Addr} {G : List Gr}
theorem GLoop.start (hB : B ≤ W.heap.size) : GLoop B L 0 W none 0 [] :=
  ⟨EOwn.nil _ _, (by intro r hr; cases hr), (by intro r hr; cases hr), (by intro r hr; cases hr), (by intro r hr; cases hr), (by intro r hr; cases hr), (by intro r hr; cases hr), hB⟩
theorem GLoop.below (h : GLoop B L i W A c G) (hB : Below W.heap.size W W') : GLoop B L i W' A c G :=
  ⟨h.own.below hB, fun r hr => (h.rows r hr).below hB, h.mem, h.cap, h.ne, h.nil, h.len, Nat.le_trans h.size hB.size⟩
theorem erow_lt {w : World} {α : Type} {E : Elem α} {A : Option Addr} {L : List α} (h : ERow E w A L) (hl : L ≠ []) : ∀ a, A = some a → a.block < w.heap.size := by
  intro a ha
  obtain ⟨b, o, e, hb, -⟩ := h (List.length_pos_iff.2 hl)
  rw [ha] at e
  cases e
  exact hb
/-- A new group, of one row. -/
theorem GLoop.one (h : GLoop B L i W A c G) {x : Rw} (hx : x ∈ L) {w2 w3 : World} (hw2 : (W.alloc (.cells #[x.v] 23)).alloc (.cells #[.slice (some ⟨W.heap.size, 0, none⟩) 1 1] 59) = w2) {A3 : Option Addr} {c3 : Nat}
    (ho3 : EOwn eGr w3 B A3 c3 (G ++ [⟨some ⟨W.heap.size, 0, none⟩, [x], 1⟩])) (hg3 : w2.grownBy w3 (A.map (·.block))) (ha3 : A3.map (·.block) = A.map (·.block) ∨ A3.map (·.block) = some w2.heap.size) :
    GLoop B L (i + 1) w3 A3 c3 (G ++ [⟨some ⟨W.heap.size, 0, none⟩, [x], 1⟩]) := by
  have hB1 : Below W.heap.size W (W.alloc (.cells #[x.v] 23)) := (Below.refl _ _).alloc (Nat.le_refl _) _
  have hz1 : (W.alloc (.cells #[x.v] 23)).heap.size = W.heap.size + 1 := by simp
  have hB2 : Below (W.alloc (.cells #[x.v] 23)).heap.size (W.alloc (.cells #[x.v] 23)) w2 := by rw [← hw2]; exact (Below.refl _ _).alloc (Nat.le_refl _) _
  have hz2 : w2.heap.size = W.heap.size + 2 := by rw [← hw2]; simp
  have hrow : ERow eRw w2 (some ⟨W.heap.size, 0, none⟩) [x] := (ERow.lit eRw W x #[x.v] rfl _ rfl).below hB2
  have hAb : ∀ a, A = some a → a.block < W.heap.size := fun a ha => (h.own.block a ha).2
  have keep : ∀ (R : Option Addr) (l : List Rw), ERow eRw w2 R l → (l ≠ [] → ∀ a, R = some a → ∀ y, A = some y → a.block ≠ y.block) → ERow eRw w3 R l := fun R l hr hn hl => by
    refine hr.keep hg3.size (fun a ha hlt => hg3.block _ hlt ?_) hl
    intro e
    cases hA : A with
    | none => rw [hA] at e; simp at e
    | some y => rw [hA] at e; exact hn (List.length_pos_iff.1 hl) a ha y hA (by simpa using e)
  refine ⟨ho3, ?_, ?_, ?_, ?_, ?_, ?_, by have := h.size; have := hg3.size; omega⟩
  · intro r hr
    rcases List.mem_append.1 hr with hr | hr
    · exact keep _ _ ((h.rows r hr).below (hB1.then hB2)) (h.ne r hr)
    · rw [List.mem_singleton.1 hr]
      refine keep _ _ hrow fun _ a ha y hy => ?_
      cases ha
      have := hAb y hy
      show W.heap.size ≠ y.block
      omega
  · intro r hr y hy
    rcases List.mem_append.1 hr with hr | hr
    · exact h.mem r hr y hy
    · rw [List.mem_singleton.1 hr] at hy
      rw [List.mem_singleton.1 hy]; exact hx
  · intro r hr
    rcases List.mem_append.1 hr with hr | hr
    · exact h.cap r hr
    · rw [List.mem_singleton.1 hr]; exact ⟨Nat.le_refl _, by simp [maxLen]⟩
  · intro r hr hne a ha y hy
    have hy3 : some y.block = A.map (·.block) ∨ y.block = w2.heap.size := by
      rw [hy] at ha3
      rcases ha3 with e | e
      · exact .inl e
      · exact .inr (Option.some.inj e)
    rcases List.mem_append.1 hr with hr | hr
    · have hlt := erow_lt (h.rows r hr) hne a ha
      rcases hy3 with e | e
      · cases hA : A with
        | none => rw [hA] at e; simp at e
        | some z =>
          rw [hA] at e
          have := h.ne r hr hne a ha z hA
          simp at e
          omega
      · omega
    · rw [List.mem_singleton.1 hr] at ha
      cases ha
      show W.heap.size ≠ y.block
      rcases hy3 with e | e
      · cases hA : A with
        | none => rw [hA] at e; simp at e
        | some z =>
          rw [hA] at e
          have := hAb z hA
          simp at e
          omega
      · omega
  · intro r hr
    rcases List.mem_append.1 hr with hr | hr
    · exact h.nil r hr
    · rw [List.mem_singleton.1 hr]; intro e; cases e
  · intro r hr
    rcases List.mem_append.1 hr with hr | hr
    · have := h.len r hr; omega
    · rw [List.mem_singleton.1 hr]; simp
/-- A row more in the last group: its rows lie in a new block. -/
theorem GLoop.last {g : Nat} {G : List Gr} {r : Gr} (h : GLoop B L i W (some ⟨g, 0, none⟩) c (G ++ [r])) {x : Rw} (hx : x ∈ L) {w3 : World} (hB3 : Below W.heap.size W w3) {A5 : Option Addr} {c5 : Nat}
    (ho5 : EOwn eRw w3 W.heap.size A5 c5 (r.l ++ [x])) : GLoop B L (i + 1) (w3.setCell ⟨g, G.length, none⟩ (.slice A5 (r.l ++ [x]).length c5)) (some ⟨g, 0, none⟩) c (G ++ [⟨A5, r.l ++ [x], c5⟩]) := by
  have hown := h.own.below hB3
  have hgl : g < W.heap.size := (h.own.block _ rfl).2
  have hgr := grown_store w3 g G.length (.slice A5 (r.l ++ [x]).length c5)
  have keep : ∀ (R : Option Addr) (l : List Rw), ERow eRw w3 R l → (l ≠ [] → ∀ a, R = some a → a.block ≠ g) → ERow eRw (w3.setCell ⟨g, G.length, none⟩ (.slice A5 (r.l ++ [x]).length c5)) R l := fun R l hr hn hl => by
    refine hr.keep hgr.size (fun a ha hlt => hgr.block _ hlt ?_) hl
    have := hn (List.length_pos_iff.1 hl) a ha
    simpa using this
  refine ⟨?_, ?_, ?_, ?_, ?_, ?_, ?_, by have := h.size; have := hB3.size; have := hgr.size; omega⟩
  · have := hown.store (j := G.length) (k := 0) (by simp) (by decide) (⟨A5, r.l ++ [x], c5⟩ : Gr) (.slice A5 (r.l ++ [x]).length c5) rfl
    have e : (G ++ [r]).set G.length (⟨A5, r.l ++ [x], c5⟩ : Gr) = G ++ [⟨A5, r.l ++ [x], c5⟩] := by
      rw [List.set_append_right _ _ (Nat.le_refl _), Nat.sub_self]; rfl
    rw [e, show G.length * eGr.sz + 0 = G.length from Nat.mul_one _] at this
    exact this
  · intro s hs
    rcases List.mem_append.1 hs with hs | hs
    · refine keep _ _ ((h.rows s (by simp [hs])).below hB3) fun hn a ha => ?_
      exact h.ne s (by simp [hs]) hn a ha _ rfl
    · rw [List.mem_singleton.1 hs]
      refine keep _ _ ho5.row fun hn a ha => ?_
      have ha : A5 = some a := ha
      have := (ho5.block a ha).1
      omega
  · intro s hs y hy
    rcases List.mem_append.1 hs with hs | hs
    · exact h.mem s (by simp [hs]) y hy
    · rw [List.mem_singleton.1 hs] at hy
      rcases List.mem_append.1 hy with hy | hy
      · exact h.mem r (by simp) y hy
      · rw [List.mem_singleton.1 hy]; exact hx
  · intro s hs
    rcases List.mem_append.1 hs with hs | hs
    · exact h.cap s (by simp [hs])
    · rw [List.mem_singleton.1 hs]; exact ⟨ho5.cap, ho5.capMax⟩
  · intro s hs hn a ha y hy
    cases hy
    rcases List.mem_append.1 hs with hs | hs
    · exact h.ne s (by simp [hs]) hn a ha _ rfl
    · rw [List.mem_singleton.1 hs] at ha
      have ha : A5 = some a := ha
      have := (ho5.block a ha).1
      show a.block ≠ g
      omega
  · intro s hs hn
    rcases List.mem_append.1 hs with hs | hs
    · exact h.nil s (by simp [hs]) hn
    · rw [List.mem_singleton.1 hs] at hn
      have hn : A5 = none := hn
      rw [hn] at ho5
      rcases ho5.form with ⟨-, -, h⟩ | ⟨g, h, -⟩
      · simp at h
      · cases h
  · intro s hs
    rcases List.mem_append.1 hs with hs | hs
    · have := h.len s (by simp [hs]); omega
    · rw [List.mem_singleton.1 hs]
      have := h.len r (by simp)
      simp
      omega
end Go.Proofs.Ytknfnhmkiooifaa
end

section
/-
  The contract of eval.groups: rows are sorted, and cut where neighbours are unlike.
-/
namespace Go.Proofs.Ytknfnhmkiooifaa
set_option linter.unusedSimpArgs false
set_option linter.unusedVariables false
open Go.RowKit

/-- Groups in the block of a row of their own, their rows elsewhere. -/
structure GrsAt (B : Nat) (W : World) (A : Option Addr) (c : Nat) (G : List Gr) : Prop where
  own : EOwn eGr W B A c G
  rows : ∀ r ∈ G, RowsOk W r.a r.l
  cap : ∀ r ∈ G, r.l.length ≤ r.c ∧ r.c ≤ maxLen
  ne : ∀ r ∈ G, r.l ≠ [] → ∀ a, r.a = some a → ∀ x, A = some x → a.block ≠ x.block
  nil : ∀ r ∈ G, r.a = none → r.l = []
/-- What eval.groups answers. -/
def RetG (w : World) (L : List (List Rw)) (e : Ending) (w' : World) : Prop := ∃ A c G, e = .returned (.slice A (List.length G) c) ∧ GrsAt w.heap.size w' A c G ∧ G.map Gr.l = L ∧ Below w.heap.size w w'
set_option maxRecDepth 100000 in
set_option maxHeartbeats 8000000 in
theorem groups_any (w : World) (q : Qr) (A : Option Addr) (c : Nat) (L : List Rw) (hq : QrIn w q) (hL : RowsOk w A L) (hlc : L.length ≤ c) (hcm : c ≤ maxLen) (hnil : A = none → L = []) :
    Calls Try.prog 31 #[q.v, .slice A L.length c] w (RetG w (Ev.baseG true q.group L)) := by
  have HQ := Lib.hid hq
  have HL := Lib.hid hL
  have HNIL := Lib.hid hnil
  have hlen := hL.len
  have hgl := hq.gl
  obtain ⟨D, hD⟩ : ∃ D, Ev.baseG true q.group L = D := ⟨_, rfl⟩
  rw [hD]
  have HD := Lib.hid hD
  clear hq hL hD hnil
  go_enter Try.func31, Try.ntmps31
  go_upto_region 1 with (refine wpList_box_qr rfl (.tmp 0) rfl q rfl ?_; intro W1 hb1 hz1 hB1)
  have HB1 := Lib.hid hB1
  have hgw : w.heap.size ≤ w.heap.size := Nat.le_refl _
  have hgz : w.heap.size < W1.heap.size := by omega
  clear hB1 hz1
  generalize hg2 : w.heap.size = g2 at hb1 hgw hgz ⊢
  have HG2 := Lib.hid hg2
  clear hg2
  obtain ⟨c4, -⟩ := Blk.qr hb1
  by_cases hg0 : q.group = []
  · have HD2 : Hid (D = [L]) := by show _ = _; rw [← HD.out, hg0]; rfl
    rw [hg0] at c4
    clear hg0
    go_wp2_with fail
    generalize hW2 : World.alloc W1 (.cells _ _) = W2
    obtain ⟨ba2, hz2, hB2⟩ := fresh1 hW2
    clear hW2
    have hgz1 : w.heap.size ≤ W1.heap.size := HB1.out.size
    have HF : Hid (RetG w D (.returned (.slice (some ⟨W1.heap.size, 0, none⟩) 1 1)) W2) := by
      refine ⟨some ⟨W1.heap.size, 0, none⟩, 1, [⟨A, L, c⟩], rfl, ⟨ba2.own eGr [⟨A, L, c⟩] rfl (by simp [maxLen]) hgz1, ?_, ?_, ?_, ?_⟩, by rw [HD2.out]; rfl, HB1.out.then hB2⟩
      · intro r hr
        rw [List.mem_singleton.1 hr]
        exact (HL.out.below (HB1.out.then hB2))
      · intro r hr
        rw [List.mem_singleton.1 hr]
        exact ⟨hlc, hcm⟩
      · intro r hr hne a ha x hx
        rw [List.mem_singleton.1 hr] at hne ha
        cases hx
        obtain ⟨b, o, e, hb, -⟩ := HL.out.r (List.length_pos_iff.2 hne)
        have ha : A = some a := ha
        rw [ha] at e
        cases e
        show b ≠ W1.heap.size
        omega
      · intro r hr
        rw [List.mem_singleton.1 hr]
        exact HNIL.out
    clear hB2 ba2 hz2
    go_ret
    exact HF.out
  · have hgp : 0 < q.group.length := List.length_pos_iff.2 hg0
    have hge : ((q.group.length : Int) == 0) = false := by simpa using hg0
    have HD2 : Hid (D = Ev.runs (Ev.rcmp (Ev.byOf q.group)) (Srt.ssort (Ev.rcmp (Ev.byOf q.group)) L)) := by show _ = _; rw [← HD.out]; unfold Ev.baseG; rw [if_pos rfl, if_neg hg0]
    go_upto_region 4 with fail
    generalize hW2 : World.alloc W1 (.cells _ _) = W2
    obtain ⟨ba2, hz2, hB2⟩ := fresh1 hW2
    clear hW2
    have hb2 := hb1.below hB2
    have HB2 := Lib.hid (HB1.out.then hB2)
    clear hB2 hb1 HB1 c4
    obtain ⟨c4, -⟩ := Blk.qr hb2
    generalize W1.heap.size = g5 at ba2 hz2 hgz ⊢
    have HST : Hid (Blk W2 g2 40 q.cells ∧ (∃ A c, Blk W2 g5 22 [.slice A 0 c] ∧ EOwn eSo W2 (g5 + 1) A c (Ev.byOf (q.group.take 0))) ∧ g5 + 1 ≤ W2.heap.size ∧ Below w.heap.size w W2) := ⟨hb2, ⟨none, 0, ba2, EOwn.nil _ _⟩, hz2, HB2.out⟩
    clear ba2 hz2 hb2 HB2
    go_wp2_with fail
    clear c4
    go_loopw [23] (fun iv wr => ∃ k : Nat, k ≤ q.group.length ∧ iv = .int .i64 (k : Int) ∧ Hid (Blk wr g2 40 q.cells ∧ (∃ A c, Blk wr g5 22 [.slice A k c] ∧ EOwn eSo wr (g5 + 1) A c (Ev.byOf (q.group.take k))) ∧ g5 + 1 ≤ wr.heap.size ∧ Below w.heap.size w wr)) (fun iv _ => q.group.length - (intOf iv).toNat)
    case atStart => exact ⟨0, Nat.zero_le _, by go_num, HST.out⟩
    case round =>
      obtain ⟨k, hk, rfl, HJ⟩ := hrel
      clear HST
      obtain ⟨b2, ⟨A1, c1, b5, ho⟩, hz, hB⟩ := HJ.out
      have HB := Lib.hid hB
      clear HJ hB
      have hbl : (Ev.byOf (q.group.take k)).length = k := by unfold Ev.byOf; rw [List.length_map, List.length_take]; omega
      by_cases hlt : k < q.group.length
      · have hii : (k : Int) < (q.group.length : Int) := by omega
        obtain ⟨ab, ao, ha, habl, q0⟩ := int_at (HQ.out.g.below HB.out) hlt
        have HTK : Hid (Ev.byOf (q.group.take (k + 1)) = Ev.byOf (q.group.take k) ++ [⟨q.group[k], false⟩]) := by show _ = _; unfold Ev.byOf; rw [List.take_succ_eq_append_getElem hlt, List.map_append]; rfl
        generalize q.group[k] = gk at q0 HTK ⊢
        have q5 := b5.cell 0
        simp only [List.getElem?_cons_zero] at q5
        go_upto_region 7 with fail
        have hoA := ho.alloc (.cells #[.int .i64 gk, .bool false] 53)
        have hrA := ERow.lit eSo wr ⟨gk, false⟩ #[.int .i64 gk, .bool false] rfl wr.heap.size rfl
        have hne5 : ∀ a, A1 = some a → g5 + 1 ≤ a.block := fun a ha => (ho.block a ha).1
        have b5A := b5.alloc (.cells #[.int .i64 gk, .bool false] 53)
        have b2A := b2.alloc (.cells #[.int .i64 gk, .bool false] 53)
        have HBA : Hid (Below w.heap.size w (wr.alloc (.cells #[.int .i64 gk, .bool false] 53))) := HB.out.then ((Below.refl wr.heap.size wr).alloc (Nat.le_refl _) _)
        have hnb5 : some g5 ≠ A1.map (·.block) := by
          intro e
          cases hA : A1 with
          | none => rw [hA] at e; simp at e
          | some a => rw [hA] at e; have := hne5 a hA; simp at e; omega
        have hnb2 : some g2 ≠ A1.map (·.block) := by
          intro e
          cases hA : A1 with
          | none => rw [hA] at e; simp at e
          | some a => rw [hA] at e; have := hne5 a hA; simp at e; omega
        clear ha q0 habl hne5
        go_wp2_with (at_builtin; refine wpList_append_elems eSo rfl (.tmp 27) (.tmp 30) rfl k rfl hoA hbl.symm 1 rfl hrA rfl (by simp; omega) (by simp; omega) ?_; intro A3 c3 w3 ho3 hb3 hg3 ha3; have b5B := b5A.grown hg3 hnb5; obtain ⟨p0, p1, p2⟩ := Blk.c1 b5B)
        have HR : Hid (Blk (w3.setCell ⟨g5, 0, none⟩ (.slice A3 (k + 1) c3)) g2 40 q.cells ∧ (∃ A c, Blk (w3.setCell ⟨g5, 0, none⟩ (.slice A3 (k + 1) c3)) g5 22 [.slice A (k + 1) c] ∧ EOwn eSo (w3.setCell ⟨g5, 0, none⟩ (.slice A3 (k + 1) c3)) (g5 + 1) A c (Ev.byOf (q.group.take (k + 1)))) ∧ g5 + 1 ≤ (w3.setCell ⟨g5, 0, none⟩ (.slice A3 (k + 1) c3)).heap.size ∧ Below w.heap.size w (w3.setCell ⟨g5, 0, none⟩ (.slice A3 (k + 1) c3))) := by
          refine ⟨(b2A.grown hg3 hnb2).other ⟨g5, 0, none⟩ (by show g2 ≠ g5; omega) _, ⟨A3, c3, b5B.set0, ?_⟩, ?_, ?_⟩
          · rw [HTK.out]
            refine ho3.set ⟨g5, 0, none⟩ (fun a ha => ?_) _
            have := (ho3.block a ha).1
            show a.block ≠ g5
            omega
          · have h1 := hb3.size
            have h2 := (grown_store w3 g5 0 (.slice A3 (k + 1) c3)).size
            simp at h1
            omega
          · have h1 := HG2.out
            exact below_of_grown (HBA.out.trans (hb3.mono (by omega))) (grown_store w3 g5 0 _) (by omega) (Nat.le_trans HBA.out.size hb3.size)
        have HR := Lib.hid HR
        clear ho3 hb3 hg3 ha3 b5B p0 p1 p2 b5A b2A hoA hrA hnb5 hnb2
        go_roundw
        case rel => exact ⟨k + 1, by omega, by go_num, HR.out⟩
        case measure => simp [intOf]; omega
      · have hii : ¬ (k : Int) < (q.group.length : Int) := by omega
        obtain rfl : k = q.group.length := by omega
        rw [List.take_length] at ho
        go_wp2_with fail
        have hA1 : ∀ a, A1 = some a → g5 + 1 ≤ a.block ∧ a.block < wr.heap.size := ho.block
        refine (rclone_any wr A c L (HL.out.below HB.out).r hlen).mono ?_
        rintro e W3 ⟨A3, c3, rfl, ho3, hB3⟩
        have b2 := b2.below hB3
        have b5 := b5.below hB3
        have ho := ho.below hB3
        have HB3 := Lib.hid (HB.out.then hB3)
        have hz3 : wr.heap.size ≤ W3.heap.size := hB3.size
        have hwz : g5 < wr.heap.size := hz
        clear hB3
        have hW : w.heap.size ≤ wr.heap.size := HB.out.size
        clear HB hz
        generalize wr.heap.size = z at ho3 hz3 hwz hW hA1
        rcases A3 with _ | a3
        · have hL0 : L = [] := by
            rcases ho3.form with ⟨-, -, h⟩ | ⟨g, h, -⟩
            · exact h
            · cases h
          have hc3 : c3 = 0 := by
            rcases ho3.form with ⟨-, h, -⟩ | ⟨g, h, -⟩
            · exact h
            · cases h
          have HF : Hid (RetG w D (.returned (.slice none 0 0)) W3) := ⟨none, 0, [], rfl, ⟨EOwn.nil _ _, (by intro r hr; cases hr), (by intro r hr; cases hr), (by intro r hr; cases hr), (by intro r hr; cases hr)⟩, by rw [HD2.out, hL0]; rfl, HB3.out⟩
          subst hL0 hc3
          clear b2 b5 ho ho3
          go_wp2_with fail
          refine (stable0V_any _ _).mono ?_
          rintro e W4 ⟨rfl, rfl⟩
          go_wp2_with fail
          go_loopw [9, 40] (fun v9 iv wr => v9 = .slice none 0 0 ∧ iv = .int .i64 0 ∧ W3 = wr) (fun _ _ _ => 0)
          case atStart => exact ⟨rfl, by go_num, rfl⟩
          case round =>
            obtain ⟨rfl, rfl, rfl⟩ := hrel
            go_wp2_with fail
            go_ret
            exact HF.out
        · obtain ⟨g, rfl⟩ : ∃ g, a3 = ⟨g, 0, none⟩ := by
            rcases ho3.form with ⟨h, -⟩ | ⟨g, h, -⟩
            · cases h
            · exact ⟨g, Option.some.inj h⟩
          obtain ⟨sp, hbk, hspl, hzg, hLc3, hc3m⟩ := ho3.toBlk
          rw [cells_rw] at hbk hspl
          have hA1g : ∀ a, A1 = some a → a.block ≠ g := fun a ha => by have := (hA1 a ha).2; omega
          have HA1G := Lib.hid hA1g
          have HBY := Lib.hid ho
          have hbyl : (Ev.byOf q.group).length = q.group.length := by unfold Ev.byOf; simp
          have hgb : ∀ W, W3.grownBy W (some g) → Blk W g5 22 [.slice A1 q.group.length c1] ∧ ERow eSo W A1 (Ev.byOf q.group) ∧ Below w.heap.size w W := fun W hW => by
            refine ⟨b5.grown hW (by simp; omega), (HBY.out.kept hW ?_).row, below_of_grown HB3.out hW (by omega) HB3.out.size⟩
            cases hA : A1 with
            | none => exact .inl rfl
            | some a => exact .inr (by simp; exact HA1G.out a hA)
          have HGB := Lib.hid hgb
          have HCMP : Hid (CmpsV W3 g g5 (Ev.rcmp (Ev.byOf q.group)) L) := fun W hW x hx y hy => by
            obtain ⟨k1, k2, k3⟩ := HGB.out W hW
            exact gcmp_any W g5 A1 (Ev.byOf q.group) c1 (by rw [hbyl]; exact k1) k2 (by
              intro s hs
              obtain ⟨n, hn, rfl⟩ := List.mem_map.1 hs
              exact HQ.out.gin n hn) (by rw [hbyl]; omega) x y ((HL.out.in_ x hx).below k3) ((HL.out.in_ y hy).below k3)
          have HSRT := Lib.hid (stableV_any W3 g g5 L.length c3 (Ev.rcmp (Ev.byOf q.group)) (Ev.rcmp_ord _) L sp hbk HCMP.out rfl hlen hLc3)
          clear hbk hgb hA1g hA1 ho ho3
          go_wp2_with fail
          refine (show Calls _ _ _ _ _ from HSRT.out).mono ?_
          rintro e W4 ⟨rfl, hbk, hg4⟩
          obtain ⟨S, hS⟩ : ∃ S, Srt.ssort (Ev.rcmp (Ev.byOf q.group)) L = S := ⟨_, rfl⟩
          have HSP : Hid (S.Perm L) := by show S.Perm L; rw [← hS]; exact Srt.ssort_perm _ L
          have HD3 : Hid (D = Ev.runs (Ev.rcmp (Ev.byOf q.group)) S) := by show _ = _; rw [HD2.out, hS]
          rw [hS] at hbk
          obtain ⟨k5, k6, k7⟩ := HGB.out W4 hg4
          have hsl : S.length = L.length := HSP.out.length_eq
          have HG : Hid (ERow eRw W4 (some ⟨g, 0, none⟩) S) := (EOwn.ofBlk (E := eRw) (B := 0) (c := c3) (sp := sp) (by rw [cells_rw]; exact hbk) (by rw [cells_rw]; simpa [hsl] using hspl) (by omega) hc3m (Nat.zero_le _)).row
          have HS5 := Lib.hid k5
          have HS6 := Lib.hid k6
          have HS7 := Lib.hid k7
          have hzw : w.heap.size ≤ W4.heap.size := k7.size
          clear HSRT hbk hg4 k5 k6 k7 HGB HCMP HBY HA1G b2 b5 hS
          have HSM : Hid (∀ x ∈ S, x ∈ L) := fun x hx => HSP.out.mem_iff.1 hx
          have HST : Hid (GLoop W4.heap.size L 0 W4 none 0 [] ∧ [] = Ev.runs (Ev.rcmp (Ev.byOf q.group)) (S.take 0) ∧ Below W4.heap.size W4 W4) := ⟨GLoop.start (Nat.le_refl _), by simp [Ev.runs], Below.refl _ _⟩
          go_wp2_with fail
          go_loopw [9, 40] (fun v9 iv wr => ∃ (i : Nat) (A9 : Option Addr) (c9 : Nat) (G : List Gr), i ≤ L.length ∧ G.length ≤ i ∧ iv = .int .i64 (i : Int) ∧ v9 = .slice A9 G.length c9 ∧ Hid (GLoop W4.heap.size L i wr A9 c9 G ∧ G.map Gr.l = Ev.runs (Ev.rcmp (Ev.byOf q.group)) (S.take i) ∧ Below W4.heap.size W4 wr)) (fun _ iv _ => L.length - (intOf iv).toNat)
          case atStart => exact ⟨0, none, 0, [], Nat.zero_le _, Nat.le_refl _, by go_num, rfl, HST.out⟩
          case round =>
            obtain ⟨i, A9, c9, G, hi, hGi, rfl, rfl, HJ⟩ := hrel
            clear HST
            by_cases hlt : i < L.length
            · have hii : (i : Int) < (L.length : Int) := by omega
              have hltS : i < S.length := by omega
              obtain ⟨sb, so, e, sbl, q0⟩ := rw_at (HG.out.below HJ.out.2.2) hltS
              cases e
              rw [Nat.zero_add] at q0
              have q5 := (HS5.out.below HJ.out.2.2).cell 0
              simp only [List.getElem?_cons_zero] at q5
              obtain ⟨x, hx⟩ : ∃ x, S[i] = x := ⟨_, rfl⟩
              have HXL : Hid (x ∈ L) := HSM.out x (by rw [← hx]; exact List.getElem_mem hltS)
              have HTK : Hid (S.take (i + 1) = S.take i ++ [x]) := by show _ = _; rw [List.take_succ_eq_append_getElem hltS, hx]
              rw [hx] at q0
              clear hx
              go_upto_region 15 with fail
              go_cut [57] from 45 to 57 (fun v wx => Hid (∃ b : Bool, v = .bool b ∧ Below wr.heap.size wr wx ∧ (b = false → Ev.runs (Ev.rcmp (Ev.byOf q.group)) (S.take (i + 1)) = Ev.runs (Ev.rcmp (Ev.byOf q.group)) (S.take i) ++ [[x]]) ∧ (b = true → Ev.runs (Ev.rcmp (Ev.byOf q.group)) (S.take i) ≠ [] ∧ Ev.runs (Ev.rcmp (Ev.byOf q.group)) (S.take (i + 1)) = (Ev.runs (Ev.rcmp (Ev.byOf q.group)) (S.take i)).dropLast ++ [(Ev.runs (Ev.rcmp (Ev.byOf q.group)) (S.take i)).getLastD [] ++ [x]])))
              case first =>
                rcases Nat.eq_zero_or_pos i with h0 | h0
                · subst h0
                  have HR : Hid (Ev.runs (Ev.rcmp (Ev.byOf q.group)) (S.take (0 + 1)) = Ev.runs (Ev.rcmp (Ev.byOf q.group)) (S.take 0) ++ [[x]]) := by show _ = _; rw [HTK.out]; simp [Ev.runs, Ev.consG]
                  clear q0 q5
                  refine wp_region_plan (.take 0 (.take 1 (.take 2 (.take 3 (.take 4 (.take 5 (.take 6 (.take 7 (.take 8 (.take 9 (.run 10 [] (.take 11 (.take 12 .fin))))))))))))) (by kernel_rfl) (by kernel_rfl) (by kernel_rfl) (by kernel_rfl) ?_
                  repeat' (first | (refine hZ _ _ ?_; clear hZ) | (refine hZ _ ?_; clear hZ) | (refine hZ ?_; clear hZ) | rw [again_nil] | rw [walk_fin] | ((first | rw [walk_take] | rw [walk_run] | rw [again_cons]); intro Z hZ; simp only [sel, List.getElem?_toArray, List.getElem?_cons_zero, List.getElem?_cons_succ]; go_wp2_with (fail)))
                  go_wp2_with fail
                  go_meet
                  case rel => exact ⟨false, rfl, (Below.refl _ _).drewR, fun _ => HR.out, by simp⟩
                · obtain ⟨j, rfl⟩ : ∃ j, i = j + 1 := ⟨i - 1, by omega⟩
                  have hjS : j < S.length := by omega
                  obtain ⟨sb2, so2, e2, -, q1⟩ := rw_at (HG.out.below HJ.out.2.2) hjS
                  cases e2
                  rw [Nat.zero_add] at q1
                  obtain ⟨y, hy⟩ : ∃ y, S[j] = y := ⟨_, rfl⟩
                  have HYL : Hid (y ∈ L) := HSM.out y (by rw [← hy]; exact List.getElem_mem hjS)
                  have HTJ : Hid (S.take (j + 1) = S.take j ++ [y]) := by show _ = _; rw [List.take_succ_eq_append_getElem hjS, hy]
                  have HR : Hid (Ev.runs (Ev.rcmp (Ev.byOf q.group)) (S.take (j + 1 + 1)) = Ev.snocG (Ev.rcmp (Ev.byOf q.group)) (Ev.runs (Ev.rcmp (Ev.byOf q.group)) (S.take (j + 1))) (some y) x) := by
                    show _ = _
                    rw [HTK.out, HTJ.out, List.append_assoc]
                    exact Ev.runs_snoc _ _ _
                  have HNE : Hid (Ev.runs (Ev.rcmp (Ev.byOf q.group)) (S.take (j + 1)) ≠ []) := Ev.runs_ne _ (by rw [HTJ.out]; simp)
                  rw [hy] at q1
                  clear hy
                  have hji : ((j + 1 : Nat) : Int) - 1 = (j : Int) := by omega
                  have HW : Hid (Below w.heap.size w wr) := HS7.out.trans (HJ.out.2.2.mono hzw)
                  have HCALL := Lib.hid (pordr_any wr.drew A1 y.a x.a c1 y.c x.c (Ev.byOf q.group) y.l x.l (HS6.out.below (HJ.out.2.2.trans ((Below.refl _ _).drewR.mono HJ.out.2.2.size))) (by
                    intro s hs
                    obtain ⟨n, hn, rfl⟩ := List.mem_map.1 hs
                    exact HQ.out.gin n hn) (by unfold Ev.byOf; rw [List.length_map]; omega) ((HL.out.in_ y HYL.out).below HW.out.drewR) ((HL.out.in_ x HXL.out).below HW.out.drewR))
                  rw [show (Ev.byOf q.group).length = q.group.length by unfold Ev.byOf; simp] at HCALL
                  refine wp_region_plan (.take 0 (.take 1 (.take 2 (.take 3 (.take 4 (.take 5 (.take 6 (.take 7 (.take 8 (.take 9 (.run 10 [] (.take 11 (.take 12 .fin))))))))))))) (by kernel_rfl) (by kernel_rfl) (by kernel_rfl) (by kernel_rfl) ?_
                  repeat' (first | (refine hZ _ _ ?_; clear hZ) | (refine hZ _ ?_; clear hZ) | (refine hZ ?_; clear hZ) | rw [again_nil] | rw [walk_fin] | ((first | rw [walk_take] | rw [walk_run] | rw [again_cons]); intro Z hZ; simp only [sel, List.getElem?_toArray, List.getElem?_cons_zero, List.getElem?_cons_succ]; go_wp2_with (fail)))
                  refine (show Calls _ _ #[.slice A1 q.group.length c1, y.v, x.v] _ _ from HCALL.out).mono ?_
                  rintro e W5 ⟨rfl, hB5⟩
                  have q5' := cell_later hB5 (show wr.drew.cell? _ = _ from q5)
                  have q1' := cell_later hB5 (show wr.drew.cell? _ = _ from q1)
                  have HB5 := Lib.hid ((Below.refl wr.heap.size wr).drewR.trans (hB5.mono (Nat.le_refl _)))
                  obtain ⟨o, ho⟩ : ∃ o, Ev.ordR (Ev.byOf q.group) y.l x.l = o := ⟨_, rfl⟩
                  have HO : Hid (Ev.rcmp (Ev.byOf q.group) y x = o) := ho
                  rw [ho]
                  clear hB5 q5 q1 q0 HCALL ho
                  by_cases hoz : o = 0
                  · have HRR : Hid (Ev.runs (Ev.rcmp (Ev.byOf q.group)) (S.take (j + 1)) ≠ [] ∧ Ev.runs (Ev.rcmp (Ev.byOf q.group)) (S.take (j + 1 + 1)) = (Ev.runs (Ev.rcmp (Ev.byOf q.group)) (S.take (j + 1))).dropLast ++ [(Ev.runs (Ev.rcmp (Ev.byOf q.group)) (S.take (j + 1))).getLastD [] ++ [x]]) := by
                      refine ⟨HNE.out, ?_⟩
                      rw [HR.out]
                      show (if _ then _ else _) = _
                      rw [if_pos (by rw [HO.out]; exact hoz)]
                    subst hoz
                    go_wp2_with fail
                    repeat' (first | (refine hZ _ _ ?_; clear hZ) | (refine hZ _ ?_; clear hZ) | (refine hZ ?_; clear hZ) | rw [again_nil] | rw [walk_fin] | ((first | rw [walk_take] | rw [walk_run] | rw [again_cons]); intro Z hZ; simp only [sel, List.getElem?_toArray, List.getElem?_cons_zero, List.getElem?_cons_succ]; go_wp2_with (fail)))
                    go_wp2_with fail
                    go_meet
                    case rel => exact ⟨true, rfl, HB5.out, by simp, fun _ => HRR.out⟩
                  · have HRR : Hid (Ev.runs (Ev.rcmp (Ev.byOf q.group)) (S.take (j + 1 + 1)) = Ev.runs (Ev.rcmp (Ev.byOf q.group)) (S.take (j + 1)) ++ [[x]]) := by
                      show _ = _
                      rw [HR.out]
                      show (if _ then _ else _) = _
                      rw [if_neg (by rw [HO.out]; exact hoz)]
                    have hob : (o == 0) = false := by simpa using hoz
                    go_wp2_with fail
                    repeat' (first | (refine hZ _ _ ?_; clear hZ) | (refine hZ _ ?_; clear hZ) | (refine hZ ?_; clear hZ) | rw [again_nil] | rw [walk_fin] | ((first | rw [walk_take] | rw [walk_run] | rw [again_cons]); intro Z hZ; simp only [sel, List.getElem?_toArray, List.getElem?_cons_zero, List.getElem?_cons_succ]; go_wp2_with (fail)))
                    go_wp2_with fail
                    go_meet
                    case rel => exact ⟨false, rfl, HB5.out, fun _ => HRR.out, by simp⟩
              case rest =>
                obtain ⟨b, rfl, hB5, hbf, hbt⟩ := hcut.out
                clear hcut q0 q5
                have HB5 := Lib.hid hB5
                have HJ5 : Hid (GLoop W4.heap.size L i wc A9 c9 G ∧ Below W4.heap.size W4 wc) := ⟨HJ.out.1.below hB5, HJ.out.2.2.trans (hB5.mono HJ.out.2.2.size)⟩
                have HGM : Hid (G.map Gr.l = Ev.runs (Ev.rcmp (Ev.byOf q.group)) (S.take i)) := HJ.out.2.1
                clear hB5 HJ
                cases b with
                | false =>
                  have HRN : Hid (Ev.runs (Ev.rcmp (Ev.byOf q.group)) (S.take (i + 1)) = (G ++ [(⟨some ⟨wc.heap.size, 0, none⟩, [x], 1⟩ : Gr)]).map Gr.l) := by show _ = _; rw [hbf rfl, ← HGM.out]; simp
                  clear hbf hbt
                  go_upto_region 18 with fail
                  have hoA := (HJ5.out.1.own.alloc (.cells #[.slice x.a x.l.length x.c] 23)).alloc (.cells #[.slice (some ⟨wc.heap.size, 0, none⟩) 1 1] 59)
                  have hrA := ERow.lit eGr (wc.alloc (.cells #[.slice x.a x.l.length x.c] 23)) ⟨some ⟨wc.heap.size, 0, none⟩, [x], 1⟩ #[.slice (some ⟨wc.heap.size, 0, none⟩) 1 1] rfl _ rfl
                  have hz1 : (wc.alloc (.cells #[.slice x.a x.l.length x.c] 23)).heap.size = wc.heap.size + 1 := by simp
                  rw [hz1] at hrA
                  unfold Rw.v
                  go_wp2_with (at_builtin; refine wpList_append_elems eGr rfl (.tmp 74) (.tmp 78) rfl _ rfl hoA rfl 1 rfl hrA rfl (by simp; omega) (by have := HJ5.out.1.size; simp; omega) ?_; intro A3 c3' w3 ho3 hb3 hg3 ha3)
                  have HR : Hid (GLoop W4.heap.size L (i + 1) w3 A3 c3' (G ++ [(⟨some ⟨wc.heap.size, 0, none⟩, [x], 1⟩ : Gr)]) ∧ (G ++ [(⟨some ⟨wc.heap.size, 0, none⟩, [x], 1⟩ : Gr)]).map Gr.l = Ev.runs (Ev.rcmp (Ev.byOf q.group)) (S.take (i + 1)) ∧ Below W4.heap.size W4 w3) :=
                    ⟨HJ5.out.1.one HXL.out rfl ho3 hg3 ha3, HRN.out.symm, (HJ5.out.2.trans ((((Below.refl wc.heap.size wc).alloc (Nat.le_refl _) _).then ((Below.refl _ _).alloc (Nat.le_refl _) _)).mono HJ5.out.1.size)).trans hb3⟩
                  clear hoA hrA ho3 hb3 hg3 ha3
                  go_roundw
                  case rel => exact ⟨i + 1, A3, c3', _, by omega, by simp; omega, by go_num, by simp, HR.out⟩
                  case measure => simp [intOf]; omega
                | true =>
                  obtain ⟨hne, hrun⟩ := hbt rfl
                  clear hbf hbt
                  have hG0 : G ≠ [] := fun e => hne (by rw [← HGM.out, e]; rfl)
                  obtain ⟨G', r, rfl⟩ : ∃ G' r, G = G' ++ [r] := ⟨G.dropLast, G.getLast hG0, (List.dropLast_concat_getLast hG0).symm⟩
                  have HRN : Hid (∀ A5 c5, Ev.runs (Ev.rcmp (Ev.byOf q.group)) (S.take (i + 1)) = (G' ++ [(⟨A5, r.l ++ [x], c5⟩ : Gr)]).map Gr.l) := fun A5 c5 => by
                    rw [hrun, ← HGM.out]
                    simp
                  clear hne hrun hG0
                  obtain ⟨g9, rfl⟩ : ∃ g9, A9 = some ⟨g9, 0, none⟩ := by
                    rcases HJ5.out.1.own.form with ⟨-, -, h⟩ | ⟨g9, h, -⟩
                    · simp at h
                    · exact ⟨g9, h⟩
                  have q9 : wc.cell? ⟨g9, G'.length, none⟩ = some r.h := by
                    have := HJ5.out.1.own.cell (j := G'.length) (k := 0) (v := r.h) (by simp) (by simp; rfl)
                    rw [show G'.length * eGr.sz + 0 = G'.length from Nat.mul_one _] at this
                    exact this
                  have hrc := HJ5.out.1.cap r (by simp)
                  have hrl := HJ5.out.1.len r (by simp)
                  have hGl : (G' ++ [r]).length = G'.length + 1 := by simp
                  rw [hGl] at hGi ⊢
                  unfold Gr.h at q9
                  unfold Rw.v
                  go_wp2_with fail
                  refine (clip_any _ r.a r.l.length r.c hrc.1 hrc.2).mono ?_
                  rintro e W6 ⟨rfl, rfl⟩
                  have hroA := (HJ5.out.1.rows r (by simp)).below ((Below.refl wc.heap.size wc).alloc (Nat.le_refl _) (.cells #[.slice x.a x.l.length x.c] 23))
                  have hrA := ERow.lit eRw wc x #[.slice x.a x.l.length x.c] rfl wc.heap.size rfl
                  have hBA : Below wc.heap.size wc (wc.alloc (.cells #[.slice x.a x.l.length x.c] 23)) := (Below.refl wc.heap.size wc).alloc (Nat.le_refl _) _
                  have q9a := cell_later hBA q9
                  have hnl : r.a = none → r.l.length = 0 := fun e => by rw [HJ5.out.1.nil r (by simp) e]; rfl
                  have hoG := HJ5.out.1.own.alloc (.cells #[.slice x.a x.l.length x.c] 23)
                  go_wp2_with (at_builtin; refine wpList_append_full eRw rfl (.tmp 68) (.tmp 70) rfl r.l.length rfl hroA rfl 1 ⟨wc.heap.size, 0, none⟩ rfl hrA rfl (by decide) (by simp; omega) hnl ?_; intro A5 c5 w5 ho5 hb5; have q9b := cell_later hb5 q9a; have f9b := (hoG.below hb5).free G'.length)
                  have HR : Hid (GLoop W4.heap.size L (i + 1) (w5.setCell ⟨g9, G'.length, none⟩ (.slice A5 (r.l.length + 1) c5)) (some ⟨g9, 0, none⟩) c9 (G' ++ [(⟨A5, r.l ++ [x], c5⟩ : Gr)]) ∧ (G' ++ [(⟨A5, r.l ++ [x], c5⟩ : Gr)]).map Gr.l = Ev.runs (Ev.rcmp (Ev.byOf q.group)) (S.take (i + 1)) ∧ Below W4.heap.size W4 (w5.setCell ⟨g9, G'.length, none⟩ (.slice A5 (r.l.length + 1) c5))) := by
                    have hbb : Below wc.heap.size wc w5 := hBA.then hb5
                    have h1 := HJ5.out.1.last HXL.out hbb (ho5.mono (by simp))
                    rw [show (r.l ++ [x]).length = r.l.length + 1 by simp] at h1
                    refine ⟨h1, (HRN.out A5 c5).symm, ?_⟩
                    have hg9 : W4.heap.size ≤ g9 := (HJ5.out.1.own.block _ rfl).1
                    have := HJ5.out.1.size
                    exact below_of_grown (HJ5.out.2.trans (hbb.mono HJ5.out.1.size)) (grown_store w5 g9 G'.length _) hg9 (Nat.le_trans HJ5.out.1.size hbb.size)
                  clear hoG hroA hrA hBA q9 q9a q9b f9b ho5 hb5 hnl
                  go_roundw
                  case rel => exact ⟨i + 1, _, c9, _, by omega, by simp; omega, by go_num, by simp, HR.out⟩
                  case measure => simp [intOf]; omega
            · have hii : ¬ (i : Int) < (L.length : Int) := by omega
              obtain rfl : i = L.length := by omega
              have HF : Hid (RetG w D (.returned (.slice A9 G.length c9)) wr) := by
                obtain ⟨h1, h2, h3⟩ := HJ.out
                have hb := HS7.out.trans (h3.mono hzw)
                refine ⟨A9, c9, G, rfl, ⟨h1.own.mono hzw, fun r hr => ⟨h1.rows r hr, fun x hx => (HL.out.in_ x (h1.mem r hr x hx)).below hb, by have := h1.len r hr; omega⟩, h1.cap, h1.ne, h1.nil⟩, ?_, hb⟩
                rw [h2, HD3.out, List.take_of_length_le (by omega)]
              go_wp2_with fail
              go_ret
              exact HF.out
end Go.Proofs.Ytknfnhmkiooifaa
end

section
/-
  A row of rows that grows: each row lies in a block of its own.
-/
namespace Go.Proofs.Ytknfnhmkiooifaa
set_option linter.unusedSimpArgs false
set_option linter.unusedVariables false
open Go.RowKit

/-- Rows of the call's own, in a row of the call's own. -/
structure RLoop (B : Nat) (W : World) (A : Option Addr) (c : Nat) (R : List Rw) : Prop where
  own : EOwn eRw W B A c R
  rows : ∀ r ∈ R, ERow eVa W r.a r.l
  cap : ∀ r ∈ R, r.l.length ≤ r.c ∧ r.c ≤ maxLen
  ok : ∀ r ∈ R, ∀ v ∈ r.l, v.ok
  ne : ∀ r ∈ R, r.l ≠ [] → ∀ a, r.a = some a → ∀ x, A = some x → a.block ≠ x.block
  size : B ≤ W.heap.size
variable {B c : Nat} {W W' : World} {A : Option Addr} {R : List Rw}
theorem RLoop.start (hB : B ≤ W.heap.size) : RLoop B W none 0 [] :=
  ⟨EOwn.nil _ _, (by intro r hr; cases hr), (by intro r hr; cases hr), (by intro r hr; cases hr), (by intro r hr; cases hr), hB⟩
theorem RLoop.below (h : RLoop B W A c R) (hB : Below W.heap.size W W') : RLoop B W' A c R :=
  ⟨h.own.below hB, fun r hr => (h.rows r hr).below hB, h.cap, h.ok, h.ne, Nat.le_trans h.size hB.size⟩
/-- Behind a row that came since. -/
theorem RLoop.one (h : RLoop B W A c R) {w1 w2 w3 : World} (hB1 : Below W.heap.size W w1) {r : Rw} (hr : EOwn eVa w1 W.heap.size r.a r.c r.l) (hok : ∀ v ∈ r.l, v.ok) (hw2 : w1.alloc (.cells #[r.v] 23) = w2) {A3 : Option Addr} {c3 : Nat}
    (ho3 : EOwn eRw w3 B A3 c3 (R ++ [r])) (hg3 : w2.grownBy w3 (A.map (·.block))) (ha3 : A3.map (·.block) = A.map (·.block) ∨ A3.map (·.block) = some w2.heap.size) :
    RLoop B w3 A3 c3 (R ++ [r]) := by
  have hB2 : Below w1.heap.size w1 w2 := by rw [← hw2]; exact (Below.refl _ _).alloc (Nat.le_refl _) _
  have hz1 := hB1.size
  have hz2 := hB2.size
  have hAb : ∀ a, A = some a → a.block < W.heap.size := fun a ha => (h.own.block a ha).2
  have keep : ∀ (P : Option Addr) (l : List Va), ERow eVa w2 P l → (l ≠ [] → ∀ a, P = some a → ∀ y, A = some y → a.block ≠ y.block) → ERow eVa w3 P l := fun P l hr hn hl => by
    refine hr.keep hg3.size (fun a ha hlt => hg3.block _ hlt ?_) hl
    intro e
    cases hA : A with
    | none => rw [hA] at e; simp at e
    | some y => rw [hA] at e; exact hn (List.length_pos_iff.1 hl) a ha y hA (by simpa using e)
  refine ⟨ho3, ?_, ?_, ?_, ?_, by have := h.size; have := hg3.size; omega⟩
  · intro s hs
    rcases List.mem_append.1 hs with hs | hs
    · exact keep _ _ ((h.rows s hs).below (hB1.then hB2)) (h.ne s hs)
    · rw [List.mem_singleton.1 hs]
      refine keep _ _ (hr.row.below hB2) fun _ a ha y hy => ?_
      have := hAb y hy
      have := (hr.block a ha).1
      omega
  · intro s hs
    rcases List.mem_append.1 hs with hs | hs
    · exact h.cap s hs
    · rw [List.mem_singleton.1 hs]; exact ⟨hr.cap, hr.capMax⟩
  · intro s hs
    rcases List.mem_append.1 hs with hs | hs
    · exact h.ok s hs
    · rw [List.mem_singleton.1 hs]; exact hok
  · intro s hs hne a ha y hy
    have hy3 : some y.block = A.map (·.block) ∨ y.block = w2.heap.size := by
      rw [hy] at ha3
      rcases ha3 with e | e
      · exact .inl e
      · exact .inr (Option.some.inj e)
    rcases List.mem_append.1 hs with hs | hs
    · have hlt := erow_lt (h.rows s hs) hne a ha
      rcases hy3 with e | e
      · cases hA : A with
        | none => rw [hA] at e; simp at e
        | some z =>
          rw [hA] at e
          have := h.ne s hs hne a ha z hA
          simp at e
          omega
      · omega
    · rw [List.mem_singleton.1 hs] at ha
      have hb := hr.block a ha
      rcases hy3 with e | e
      · cases hA : A with
        | none => rw [hA] at e; simp at e
        | some z =>
          rw [hA] at e
          have := hAb z hA
          simp at e
          omega
      · omega
/-- What a call answers: rows of values. -/
def RetRows (w : World) (P : List (List Va) → Prop) (e : Ending) (w' : World) : Prop := ∃ A c R, e = .returned (.slice A (List.length R) c) ∧ RLoop w.heap.size w' A c R ∧ P (R.map Rw.l) ∧ Below w.heap.size w w'
namespace Ev
theorem mg_on {α β : Type} {cmp : β → β → Int} (f : α → β) : ∀ (X Y : List α), (Srt.mg (fun x y => cmp (f x) (f y)) X Y).map f = Srt.mg cmp (X.map f) (Y.map f)
  | [], Y => by rw [List.map_nil, Srt.mg_nil_left, Srt.mg_nil_left]
  | x :: X, [] => by rw [List.map_nil, Srt.mg_nil_right, Srt.mg_nil_right]
  | x :: X, y :: Y => by
    rw [List.map_cons, List.map_cons, Srt.mg_cons, Srt.mg_cons]
    split
    · rw [List.map_cons, mg_on f (x :: X) Y]; rfl
    · rw [List.map_cons, mg_on f X (y :: Y)]; rfl
termination_by X Y => X.length + Y.length
theorem ssort_on {α β : Type} {cmp : β → β → Int} (f : α → β) (L : List α) : (Srt.ssort (fun x y => cmp (f x) (f y)) L).map f = Srt.ssort cmp (L.map f) := by
  induction L using Srt.list_snoc with
  | h0 => rfl
  | h1 L z ih => rw [Srt.ssort_snoc, mg_on, ih, List.map_append, List.map_cons, List.map_nil, Srt.ssort_snoc]
theorem runs_flatten (cmp : Rw → Rw → Int) (S : List Rw) : (runs cmp S).flatten = S := by
  induction S with
  | nil => rfl
  | cons x S ih =>
    show (consG cmp x (runs cmp S)).flatten = x :: S
    unfold consG
    revert ih
    cases runs cmp S with
    | nil => intro ih; rw [← ih]; rfl
    | cons g G =>
      intro ih
      dsimp only
      split
      · rw [← ih]; rfl
      · rw [← ih]; rfl
theorem baseG_mem {gr : Bool} {group : List Int} {L : List Rw} : ∀ g ∈ baseG gr group L, ∀ x ∈ g, x ∈ L := by
  intro g hg x hx
  unfold baseG at hg
  split at hg
  · split at hg
    · rw [List.mem_singleton.1 hg] at hx; exact hx
    · have : x ∈ (runs (rcmp (byOf group)) (Srt.ssort (rcmp (byOf group)) L)).flatten := List.mem_flatten.2 ⟨g, hg, hx⟩
      rw [runs_flatten] at this
      exact (Srt.ssort_perm _ _).mem_iff.1 this
  · obtain ⟨r, hr, rfl⟩ := List.mem_map.1 hg
    rw [List.mem_singleton.1 hx]; exact hr
end Ev
end Go.Proofs.Ytknfnhmkiooifaa
end

section
/-
  The contract of eval.Answer.
-/
namespace Go.Proofs.Ytknfnhmkiooifaa
set_option linter.unusedSimpArgs false
set_option linter.unusedVariables false
open Go.RowKit

namespace Ev
theorem runs_len (cmp : Rw → Rw → Int) (S : List Rw) : (runs cmp S).length ≤ S.length := by
  induction S with
  | nil => exact Nat.le_refl _
  | cons x S ih =>
    show (consG cmp x (runs cmp S)).length ≤ _
    unfold consG
    revert ih
    cases runs cmp S with
    | nil => intro _; simp
    | cons g G =>
      intro ih
      dsimp only
      split <;> simp at ih ⊢ <;> omega
theorem baseG_len (gr : Bool) (group : List Int) (L : List Rw) : (baseG gr group L).length ≤ max L.length 1 := by
  unfold baseG
  split
  · split
    · simp; omega
    · have := runs_len (rcmp (byOf group)) (Srt.ssort (rcmp (byOf group)) L)
      rw [Srt.ssort_length] at this
      omega
  · simp; omega
theorem limit_map {α β : Type} (f : α → β) (n : Int) (l : List α) : limit n (l.map f) = (limit n l).map f := by
  unfold limit
  rw [List.length_map]
  split
  · rw [List.map_take]
  · rfl
theorem limit_len {α : Type} (n : Int) (l : List α) : (limit n l).length = if 0 ≤ n ∧ n < (l.length : Int) then n.toNat else l.length := by
  unfold limit
  split
  · next h => rw [List.length_take]; omega
  · rfl
theorem limit_get {α : Type} (n : Int) (l : List α) (i : Nat) (h : i < (limit n l).length) : ∃ h' : i < l.length, (limit n l)[i] = l[i] := by
  have h1 := limit_len n l
  by_cases hc : 0 ≤ n ∧ n < (l.length : Int)
  · rw [if_pos hc] at h1
    refine ⟨by omega, ?_⟩
    simp only [limit, if_pos hc, List.getElem_take]
  · rw [if_neg hc] at h1
    refine ⟨by omega, ?_⟩
    simp only [limit, if_neg hc]
end Ev
theorem Ev.foldV_ok {w W : World} {n : Nd} (hn : NodeIn w n) {A : Option Addr} {L : List Rw} (hL : RowsOk W A L) : (Ev.foldV n L).ok := by
  have hv : ∀ v ∈ Ev.argsV n L, v.ok := fun v hv => by
    obtain ⟨y, hy, rfl⟩ := List.mem_map.1 hv
    exact Ev.argV_ok (hL.in_ y hy).ok hn
  unfold Ev.foldV
  split
  · generalize hm : min L.length 2147483647 = m
    have hm2 : m ≤ 2147483647 := by omega
    refine ⟨by show (-9223372036854775808 : Int) ≤ 1; decide, by show (1 : Int) ≤ 9223372036854775807; decide, by show (-9223372036854775808 : Int) ≤ (m : Int); omega, by show (m : Int) ≤ 9223372036854775807; omega, by show 0 < 18446744073709551616; decide⟩
  · split
    · unfold Ev.sumV
      split
      · exact Ev.nul_ok
      · exact Ev.intV_ok
    · exact Ev.bestV_ok _ _ hv
theorem Ev.itemV_ok {w W : World} {n : Nd} (hn : NodeIn w n) {A : Option Addr} {L : List Rw} (hL : RowsOk W A L) : (Ev.itemV n L).ok := by
  unfold Ev.itemV
  split
  · exact Ev.foldV_ok hn hL
  · exact Ev.eval_ok hL.first.ok hn
theorem GLoop.start0 {W : World} {L : List Rw} {B : Nat} (hB : B ≤ W.heap.size) : GLoop B L 0 (W.alloc (.cells #[] 59)) (some ⟨W.heap.size, 0, none⟩) 0 [] :=
  ⟨EOwn.new W [] (by simp [maxLen]) hB #[] rfl, (by intro r hr; cases hr), (by intro r hr; cases hr), (by intro r hr; cases hr), (by intro r hr; cases hr), (by intro r hr; cases hr), (by intro r hr; cases hr), by simp; omega⟩
theorem GLoop.grs {w W : World} {B B' i c : Nat} {L : List Rw} {A : Option Addr} {G : List Gr} (h : GLoop B L i W A c G) (hB : B' ≤ B) (hi : i ≤ 1000000) (hL : ∀ x ∈ L, RowOk w x.a x.l) (hb : Below w.heap.size w W) : GrsAt B' W A c G :=
  ⟨h.own.mono hB, fun r hr => ⟨h.rows r hr, fun x hx => (hL x (h.mem r hr x hx)).below hb, by have := h.len r hr; omega⟩, h.cap, h.ne, h.nil⟩
theorem GrsAt.below {B : Nat} {W W' : World} {A : Option Addr} {c : Nat} {G : List Gr} (h : GrsAt B W A c G) (hB : Below W.heap.size W W') : GrsAt B W' A c G :=
  ⟨h.own.below hB, fun r hr => (h.rows r hr).below hB, h.cap, h.ne, h.nil⟩
set_option maxRecDepth 100000 in
set_option maxHeartbeats 16000000 in
theorem answer_any (w : World) (q : Qr) (A : Option Addr) (c : Nat) (L : List Rw) (hq : QrIn w q) (hL : RowsOk w A L) (hlc : L.length ≤ c) (hcm : c ≤ maxLen) (hnil : A = none → L = []) :
    Calls Try.prog 15 #[q.v, .slice A L.length c] w (RetRows w (fun R => R = Ev.answerV q.grouped q.group q.items q.order q.lim L)) := by
  have HQ := Lib.hid hq
  have HL := Lib.hid hL
  have HNIL := Lib.hid hnil
  have hlen := hL.len
  obtain ⟨D, hD⟩ : ∃ D, Ev.answerV q.grouped q.group q.items q.order q.lim L = D := ⟨_, rfl⟩
  rw [hD]
  have HD := Lib.hid hD
  clear hq hL hD hnil
  go_enter Try.func15, Try.ntmps15
  go_upto_region 1 with (refine wpList_box_qr rfl (.tmp 0) rfl q rfl ?_; intro W1 hb1 hz1 hB1)
  have HB1 := Lib.hid hB1
  have hw1 : w.heap.size ≤ W1.heap.size := hB1.size
  clear hB1
  have hg2lt : w.heap.size < W1.heap.size := by omega
  generalize hg2 : w.heap.size = g2 at hb1 hg2lt ⊢
  have HG2 := Lib.hid hg2
  clear hg2 hz1
  go_upto_region 2 with fail
  have hB2 : Below W1.heap.size W1 (W1.alloc (.cells #[] 59)) := (Below.refl _ _).alloc (Nat.le_refl _) _
  have HST : Hid (GLoop (g2 + 1) L 0 (W1.alloc (.cells #[] 59)) (some ⟨W1.heap.size, 0, none⟩) 0 []) := GLoop.start0 hg2lt
  have HBK : Hid (Blk (W1.alloc (.cells #[] 59)) g2 40 q.cells) := hb1.below hB2
  have HB2 := Lib.hid (HB1.out.then hB2)
  have hz2 : g2 < (W1.alloc (.cells #[] 59)).heap.size := by simp; omega
  clear hb1 hB2 HB1
  generalize (W1.alloc (.cells #[] 59)) = W2 at HST HBK HB2 hz2 ⊢
  generalize W1.heap.size = g5 at HST ⊢
  obtain ⟨-, c5, -⟩ := Blk.qr HBK.out
  go_upto_if 16 with fail
  go_cut [5] (fun v5 wx => ∃ (A5 : Option Addr) (c5 : Nat) (G : List Gr), v5 = .slice A5 G.length c5 ∧ Hid (GrsAt (g2 + 1) wx A5 c5 G ∧ G.map Gr.l = Ev.baseG q.grouped q.group L ∧ Blk wx g2 40 q.cells ∧ Below w.heap.size w wx))
  case first =>
    cases hgr : q.grouped with
    | true =>
      go_wp2_with (refine wpList_load_qr rfl (.tmp 2) rfl g2 rfl HBK.out ?_)
      refine (groups_any W2 q A c L (HQ.out.below HB2.out) (HL.out.below HB2.out) hlc hcm HNIL.out).mono ?_
      rintro e W3 ⟨A3, c3, G, rfl, h1, h2, h3⟩
      have HR : Hid (GrsAt (g2 + 1) W3 A3 c3 G ∧ G.map Gr.l = Ev.baseG true q.group L ∧ Blk W3 g2 40 q.cells ∧ Below w.heap.size w W3) :=
        ⟨⟨h1.own.mono hz2, h1.rows, h1.cap, h1.ne, h1.nil⟩, h2, HBK.out.below h3, HB2.out.then h3⟩
      clear h1 h2 h3 c5
      go_wp2_with fail
      go_meet
      case rel => exact ⟨A3, c3, G, rfl, by rw [hgr]; exact HR.out⟩
    | false =>
      have HST2 : Hid (GLoop (g2 + 1) L 0 W2 (some ⟨g5, 0, none⟩) 0 [] ∧ [] = (L.take 0).map (fun r => [r]) ∧ Blk W2 g2 40 q.cells ∧ Below w.heap.size w W2) := ⟨HST.out, by simp, HBK.out, HB2.out⟩
      clear HST HBK HB2 hz2 c5
      go_wp2_with fail
      go_loopw [5, 22] (fun v5 iv wr => ∃ (i : Nat) (A5 : Option Addr) (c5 : Nat) (G : List Gr), i ≤ L.length ∧ G.length ≤ i ∧ iv = .int .i64 (i : Int) ∧ v5 = .slice A5 G.length c5 ∧ Hid (GLoop (g2 + 1) L i wr A5 c5 G ∧ G.map Gr.l = (L.take i).map (fun r => [r]) ∧ Blk wr g2 40 q.cells ∧ Below w.heap.size w wr)) (fun _ iv _ => L.length - (intOf iv).toNat)
      case atStart => exact ⟨0, _, 0, [], Nat.zero_le _, Nat.le_refl _, by go_num, rfl, HST2.out⟩
      case round =>
        obtain ⟨i, A5, c5, G, hi, hGi, rfl, rfl, HJ⟩ := hrel
        clear HST2
        by_cases hlt : i < L.length
        · have hii : (i : Int) < (L.length : Int) := by omega
          obtain ⟨sb, so, rfl, sbl, q0⟩ := rw_at (HL.out.r.below HJ.out.2.2.2) hlt
          obtain ⟨x, hx⟩ : ∃ x, L[i] = x := ⟨_, rfl⟩
          have HXL : Hid (x ∈ L) := by show x ∈ L; rw [← hx]; exact List.getElem_mem hlt
          have HTK : Hid (L.take (i + 1) = L.take i ++ [x]) := by show _ = _; rw [List.take_succ_eq_append_getElem hlt, hx]
          rw [hx] at q0
          clear hx
          go_upto_region 7 with fail
          have hoA := (HJ.out.1.own.alloc (.cells #[.slice x.a x.l.length x.c] 23)).alloc (.cells #[.slice (some ⟨wr.heap.size, 0, none⟩) 1 1] 59)
          have hrA := ERow.lit eGr (wr.alloc (.cells #[.slice x.a x.l.length x.c] 23)) ⟨some ⟨wr.heap.size, 0, none⟩, [x], 1⟩ #[.slice (some ⟨wr.heap.size, 0, none⟩) 1 1] rfl _ rfl
          have hz1 : (wr.alloc (.cells #[.slice x.a x.l.length x.c] 23)).heap.size = wr.heap.size + 1 := by simp
          rw [hz1] at hrA
          unfold Rw.v
          clear q0
          go_wp2_with (at_builtin; refine wpList_append_elems eGr rfl (.tmp 26) (.tmp 30) rfl _ rfl hoA rfl 1 rfl hrA rfl (by simp; omega) (by have := HJ.out.1.size; simp; omega) ?_; intro A3 c3' w3 ho3 hb3 hg3 ha3)
          have HR : Hid (GLoop (g2 + 1) L (i + 1) w3 A3 c3' (G ++ [(⟨some ⟨wr.heap.size, 0, none⟩, [x], 1⟩ : Gr)]) ∧ (G ++ [(⟨some ⟨wr.heap.size, 0, none⟩, [x], 1⟩ : Gr)]).map Gr.l = (L.take (i + 1)).map (fun r => [r]) ∧ Blk w3 g2 40 q.cells ∧ Below w.heap.size w w3) := by
            have hb2 : Below wr.heap.size wr ((wr.alloc (.cells #[.slice x.a x.l.length x.c] 23)).alloc (.cells #[.slice (some ⟨wr.heap.size, 0, none⟩) 1 1] 59)) := ((Below.refl wr.heap.size wr).alloc (Nat.le_refl _) _).then ((Below.refl _ _).alloc (Nat.le_refl _) _)
            refine ⟨HJ.out.1.one HXL.out rfl ho3 hg3 ha3, ?_, ?_, ((HJ.out.2.2.2).trans (hb2.mono HJ.out.2.2.2.size)).trans (hb3.mono (by have := HG2.out; omega))⟩
            · rw [List.map_append, HJ.out.2.1, HTK.out, List.map_append]; rfl
            · refine (HJ.out.2.2.1.below hb2).grown hg3 ?_
              intro e
              cases hA : A5 with
              | none => rw [hA] at e; simp at e
              | some a =>
                rw [hA] at e
                have h1 := (HJ.out.1.own.block a hA).1
                simp at e
                omega
          clear hoA hrA ho3 hb3 hg3 ha3
          go_roundw
          case rel => exact ⟨i + 1, A3, c3', _, by omega, by simp; omega, by go_num, by simp, HR.out⟩
          case measure => simp [intOf]; omega
        · have hii : ¬ (i : Int) < (L.length : Int) := by omega
          obtain rfl : i = L.length := by omega
          have HR : Hid (GrsAt (g2 + 1) wr A5 c5 G ∧ G.map Gr.l = Ev.baseG q.grouped q.group L ∧ Blk wr g2 40 q.cells ∧ Below w.heap.size w wr) := by
            obtain ⟨h1, h2, h3, h4⟩ := HJ.out
            refine ⟨h1.grs (Nat.le_refl _) (by omega) HL.out.in_ h4, ?_, h3, h4⟩
            rw [h2, List.take_length, hgr]
            rfl
          go_wp2_with fail
          go_meet
          case rel => exact ⟨A5, c5, G, rfl, HR.out⟩
  case rest =>
    obtain ⟨A5, c5', G, rfl, HG⟩ := hcut
    clear HST HBK HB2 hz2 c5
    obtain ⟨V, hV⟩ : ∃ V, Ev.groupsV q.grouped q.group q.order L = V := ⟨_, rfl⟩
    have HV : Hid (Srt.ssort (Ev.gcmp q.order) (G.map Gr.l) = V) := by show _ = _; rw [← hV, HG.out.2.1]; rfl
    have HDV : Hid (D = (Ev.limit q.lim V).map (Ev.rowV q.items)) := by show _ = _; rw [← HD.out, ← hV]; rfl
    clear hV
    have hGl : G.length ≤ 1000000 := by
      have h1 : (G.map Gr.l).length = G.length := List.length_map _
      rw [← h1, HG.out.2.1]
      exact Nat.le_trans (Ev.baseG_len _ _ _) (by omega)
    go_upto_region 9 with fail
    go_cut [] from 33 to 35 (fun wx => Hid (∃ G' : List Gr, GrsAt (g2 + 1) wx A5 c5' G' ∧ G'.length = G.length ∧ G'.map Gr.l = V ∧ Blk wx g2 40 q.cells ∧ Below w.heap.size w wx))
    case first =>
      have hbs := HG.out.1.own
      rcases A5 with _ | a5
      · have hG0 : G = [] := by
          rcases hbs.form with ⟨-, -, h⟩ | ⟨g, h, -⟩
          · exact h
          · cases h
        have hc0 : c5' = 0 := by
          rcases hbs.form with ⟨-, h, -⟩ | ⟨g, h, -⟩
          · exact h
          · cases h
        subst hG0 hc0
        clear hbs
        have HR : Hid (∃ G' : List Gr, GrsAt (g2 + 1) wc none 0 G' ∧ G'.length = [].length ∧ G'.map Gr.l = V ∧ Blk wc g2 40 q.cells ∧ Below w.heap.size w wc) :=
          ⟨[], HG.out.1, rfl, by rw [← HV.out]; rfl, HG.out.2.2⟩
        go_wp2_with fail
        refine (stable0G_any _ _).mono ?_
        rintro e W4 ⟨rfl, rfl⟩
        go_wp2_with fail
        go_meet
        case rel => exact HR.out
      · obtain ⟨g, rfl⟩ : ∃ g, a5 = ⟨g, 0, none⟩ := by
          rcases hbs.form with ⟨h, -⟩ | ⟨g, h, -⟩
          · cases h
          · exact ⟨g, Option.some.inj h⟩
        obtain ⟨sp, hbk, hspl, hzg, hLc3, hc3m⟩ := hbs.toBlk
        rw [cells_gr] at hbk hspl
        clear hbs
        have hgb : ∀ W, wc.grownBy W (some g) → Blk W g2 40 q.cells ∧ Below w.heap.size w W ∧ ∀ r ∈ G, RowsOk W r.a r.l := fun W hW => by
          obtain ⟨h1, h2, h3, h4⟩ := HG.out
          have hB : Below w.heap.size w W := below_of_grown h4 hW (by have := HG2.out; omega) h4.size
          refine ⟨h3.grown hW (by simp; omega), hB, fun r hr => ⟨?_, fun x hx => ?_, (h1.rows r hr).len⟩⟩
          · intro hl
            refine (h1.rows r hr).r.keep hW.size (fun a ha hlt => hW.block _ hlt ?_) hl
            have := h1.ne r hr (List.length_pos_iff.1 hl) a ha _ rfl
            simpa using this
          · refine (HL.out.in_ x ?_).below hB
            refine Ev.baseG_mem (gr := q.grouped) (group := q.group) r.l ?_ x hx
            rw [← h2]
            exact List.mem_map.2 ⟨r, hr, rfl⟩
        have HGB := Lib.hid hgb
        have HCMP : Hid (CmpsG wc g g2 (fun x y => Ev.gcmp q.order x.l y.l) G) := fun W hW x hx y hy => by
          obtain ⟨k1, k2, k3⟩ := HGB.out W hW
          exact acmp_any W g2 _ q.cells q.oa q.order q.oc k1 rfl (HQ.out.below k2).o HQ.out.oin (by have := HQ.out.ol; omega) x y (k3 x hx) (k3 y hy)
        have HSRT := Lib.hid (stableG_any wc g g2 G.length c5' (fun x y => Ev.gcmp q.order x.l y.l) ((Ev.gcmp_ord q.order).on Gr.l) G sp hbk HCMP.out rfl hGl hLc3)
        clear hbk hgb HCMP
        go_wp2_with fail
        refine (show Calls _ _ _ _ _ from HSRT.out).mono ?_
        rintro e W4 ⟨rfl, hbk, hg4⟩
        have HR : Hid (∃ G' : List Gr, GrsAt (g2 + 1) W4 (some ⟨g, 0, none⟩) c5' G' ∧ G'.length = G.length ∧ G'.map Gr.l = V ∧ Blk W4 g2 40 q.cells ∧ Below w.heap.size w W4) := by
          obtain ⟨k1, k2, k3⟩ := HGB.out W4 hg4
          have hp := Srt.ssort_perm (fun x y : Gr => Ev.gcmp q.order x.l y.l) G
          have hm : ∀ r ∈ Srt.ssort (fun x y : Gr => Ev.gcmp q.order x.l y.l) G, r ∈ G := fun r hr => hp.mem_iff.1 hr
          refine ⟨Srt.ssort (fun x y => Ev.gcmp q.order x.l y.l) G, ⟨?_, fun r hr => k3 r (hm r hr), fun r hr => HG.out.1.cap r (hm r hr), fun r hr => HG.out.1.ne r (hm r hr), fun r hr => HG.out.1.nil r (hm r hr)⟩, hp.length_eq, ?_, k1, k2⟩
          · exact EOwn.ofBlk (E := eGr) (sp := sp) (by rw [cells_gr]; exact hbk) (by rw [cells_gr]; rw [List.length_append, List.length_map, hp.length_eq]; simpa using hspl) (by rw [hp.length_eq]; exact hLc3) hc3m hzg
          · rw [← HV.out]
            exact Ev.ssort_on Gr.l G
        clear hbk hg4
        go_wp2_with fail
        go_meet
        case rel => exact HR.out
    case rest =>
      obtain ⟨G', hG', hl', hV', hQ', hB'⟩ := hcut.out
      have hcap : (G.length : Int) ≤ (c5' : Int) := by have := hG'.own.cap; omega
      have hcapm : c5' ≤ maxLen := hG'.own.capMax
      obtain ⟨-, -, -, -, c8⟩ := Blk.qr hQ'
      have HGX : Hid (GrsAt (g2 + 1) wc A5 c5' G' ∧ G'.map Gr.l = V ∧ Blk wc g2 40 q.cells ∧ Below w.heap.size w wc) := ⟨hG', hV', hQ', hB'⟩
      have HGL := Lib.hid hl'
      clear hcut hG' hV' hQ' hB' hl' HG HV
      go_upto_region 10 with fail
      go_cut [45] from 36 to 45 (fun v wx => Hid (v = .bool (decide (0 ≤ q.lim ∧ q.lim < (G.length : Int))) ∧ wc = wx))
      case first =>
        by_cases h0 : 0 ≤ q.lim
        · by_cases h1 : q.lim < (G.length : Int)
          · have HC : Hid (decide (0 ≤ q.lim ∧ q.lim < (G.length : Int)) = true) := by show _ = _; rw [decide_eq_true_iff]; exact ⟨h0, h1⟩
            go_wp2_with fail
            go_meet
            case rel => exact ⟨by rw [HC.out], rfl⟩
          · have HC : Hid (decide (0 ≤ q.lim ∧ q.lim < (G.length : Int)) = false) := by show _ = _; rw [decide_eq_false_iff_not]; omega
            go_wp2_with fail
            go_meet
            case rel => exact ⟨by rw [HC.out], rfl⟩
        · have HC : Hid (decide (0 ≤ q.lim ∧ q.lim < (G.length : Int)) = false) := by show _ = _; rw [decide_eq_false_iff_not]; omega
          go_wp2_with fail
          go_meet
          case rel => exact ⟨by rw [HC.out], rfl⟩
      case rest =>
        obtain ⟨hv, rfl⟩ := hcut.out
        subst hv
        clear hcut
        go_upto_if 45 with fail
        go_cut [5] from 45 to 49 (fun v wx => ∃ n c6 : Nat, v = .slice A5 n c6 ∧ Hid (n = (Ev.limit q.lim G').length ∧ wc = wx))
        case first =>
          by_cases hC : 0 ≤ q.lim ∧ q.lim < (G.length : Int)
          · obtain ⟨m, hm⟩ := Int.eq_ofNat_of_zero_le hC.1
            have HM : Hid (m = (Ev.limit q.lim G').length) := by show _ = _; rw [Ev.limit_len, HGL.out, if_pos hC]; omega
            rw [decide_eq_true hC]
            have hmG : (m : Int) ≤ (c5' : Int) := by omega
            rw [hm] at c8
            clear hC hm
            go_wp2_with fail
            go_meet
            case rel => exact ⟨m, c5', rfl, HM.out, rfl⟩
          · have HM : Hid (G.length = (Ev.limit q.lim G').length) := by show _ = _; rw [Ev.limit_len, HGL.out, if_neg hC]
            rw [decide_eq_false hC]
            clear hC
            go_wp2_with fail
            go_meet
            case rel => exact ⟨G.length, c5', rfl, HM.out, rfl⟩
        case rest =>
          obtain ⟨n, c6, rfl, hnn⟩ := hcut
          obtain ⟨hn, rfl⟩ := hnn.out
          clear hnn
          obtain ⟨T, hT⟩ : ∃ T, Ev.limit q.lim G' = T := ⟨_, rfl⟩
          have HDT : Hid (D = (T.map Gr.l).map (Ev.rowV q.items)) := by show _ = _; rw [HDV.out, ← HGX.out.2.1, Ev.limit_map, hT]
          have HTG : Hid (∀ i (h : i < T.length), ∃ g, A5 = some ⟨g, 0, none⟩ ∧ g < wc.heap.size ∧ wc.cell? ⟨g, i, none⟩ = some T[i].h ∧ RowsOk wc T[i].a T[i].l ∧ T[i].l.length ≤ T[i].c ∧ (T[i].a = none → T[i].l = [])) := fun i h => by
            subst hT
            obtain ⟨h', e⟩ := Ev.limit_get q.lim G' i h
            rw [e]
            have hm : G'[i] ∈ G' := List.getElem_mem h'
            obtain ⟨gg, hgg⟩ : ∃ g, A5 = some ⟨g, 0, none⟩ := by
              rcases HGX.out.1.own.form with ⟨-, -, h⟩ | ⟨g, h, -⟩
              · rw [h] at h'; simp at h'
              · exact ⟨g, h⟩
            subst hgg
            refine ⟨gg, rfl, (HGX.out.1.own.block _ rfl).2, ?_, HGX.out.1.rows _ hm, (HGX.out.1.cap _ hm).1, HGX.out.1.nil _ hm⟩
            have := HGX.out.1.own.cell (j := i) (k := 0) (v := G'[i].h) h' rfl
            rwa [show i * eGr.sz + 0 = i from Nat.mul_one _] at this
          have hTn : n = T.length := by rw [hn, hT]
          have hTl : T.length ≤ 1000000 := by rw [← hT, Ev.limit_len, HGL.out]; split <;> omega
          have HQX : Hid (Blk wc g2 40 q.cells ∧ Below w.heap.size w wc) := HGX.out.2.2
          clear hn hT HGX HGL HDV hcap hcapm c8
          subst hTn
          have HST : Hid (([] : List Rw).length = 0 ∧ RLoop wc.heap.size wc none 0 [] ∧ [] = ((T.take 0).map Gr.l).map (Ev.rowV q.items) ∧ Below wc.heap.size wc wc) := ⟨rfl, RLoop.start (Nat.le_refl _), by simp, Below.refl _ _⟩
          go_wp2_with fail
          go_loopw [8, 52] (fun v8 iv wr => ∃ (i : Nat) (A8 : Option Addr) (c8 : Nat) (R : List Rw), i ≤ T.length ∧ iv = .int .i64 (i : Int) ∧ v8 = .slice A8 i c8 ∧ Hid (R.length = i ∧ RLoop wc.heap.size wr A8 c8 R ∧ R.map Rw.l = ((T.take i).map Gr.l).map (Ev.rowV q.items) ∧ Below wc.heap.size wc wr)) (fun _ iv _ => T.length - (intOf iv).toNat)
          case atStart => exact ⟨0, none, 0, [], Nat.zero_le _, by go_num, rfl, HST.out⟩
          case round =>
            obtain ⟨i, A8, c8, R, hi, rfl, rfl, HJ⟩ := hrel
            clear HST
            by_cases hlt : i < T.length
            · have hii : (i : Int) < (T.length : Int) := by omega
              obtain ⟨g, rfl, hgl, q0, hrok, hrc, hrn⟩ := HTG.out i hlt
              have q0 := cell_later HJ.out.2.2.2 q0
              have HTK : Hid (T.take (i + 1) = T.take i ++ [T[i]]) := List.take_succ_eq_append_getElem hlt
              obtain ⟨r, hr⟩ : ∃ r, T[i] = r := ⟨_, rfl⟩
              rw [hr] at q0 HTK hrok hrc hrn
              have HRO := Lib.hid hrok
              clear hr hrok
              unfold Gr.h at q0
              go_upto_region 16 with fail
              have hzw : g2 < wr.heap.size := Nat.lt_of_lt_of_le HQX.out.1.lt HJ.out.2.2.2.size
              generalize hW5 : World.alloc wr (.cells _ _) = W5
              obtain ⟨ba5, hz5, hB5⟩ := fresh1 hW5
              clear hW5
              have h10 := ba5
              have HB5 := Lib.hid hB5
              have hwz : wr.heap.size < W5.heap.size := by omega
              have HQ5 : Hid (Blk W5 g2 40 q.cells ∧ Below w.heap.size w W5) := ⟨(HQX.out.1.below HJ.out.2.2.2).below hB5, (HQX.out.2.trans (HJ.out.2.2.2.mono HQX.out.2.size)).then hB5⟩
              have HR5 : Hid (RowsOk W5 r.a r.l) := (HRO.out.below HJ.out.2.2.2).below hB5
              have HIT : Hid (ERow eNd W5 q.ia q.items) := HQ.out.i.below HQ5.out.2
              have hil := HQ.out.il
              have HONE : Hid (∀ (w1 w3 : World) (s : Rw) (A3 : Option Addr) (c3 : Nat), Below W5.heap.size W5 w1 → EOwn eVa w1 W5.heap.size s.a s.c s.l → (∀ v ∈ s.l, v.ok) → s.l = Ev.rowV q.items r.l → EOwn eRw w3 wc.heap.size A3 c3 (R ++ [s]) → Below wc.heap.size (w1.alloc (.cells #[s.v] 23)) w3 → (w1.alloc (.cells #[s.v] 23)).grownBy w3 (A8.map (·.block)) → (A3.map (·.block) = A8.map (·.block) ∨ A3.map (·.block) = some (w1.alloc (.cells #[s.v] 23)).heap.size) →
                  (R ++ [s]).length = i + 1 ∧ RLoop wc.heap.size w3 A3 c3 (R ++ [s]) ∧ (R ++ [s]).map Rw.l = ((T.take (i + 1)).map Gr.l).map (Ev.rowV q.items) ∧ Below wc.heap.size wc w3) := fun w1 w3 s A3 c3 h1 h2 h3 h4 h5 h6 h7 h8 => by
                obtain ⟨k1, k2, k3, k4⟩ := HJ.out
                have hbb : Below wr.heap.size wr w1 := HB5.out.trans (h1.mono HB5.out.size)
                refine ⟨by simp [k1], k2.one hbb (h2.mono HB5.out.size) h3 rfl h5 h7 h8, ?_, ((k4.trans (hbb.mono k4.size)).trans (((Below.refl w1.heap.size w1).alloc (Nat.le_refl _) _).mono (Nat.le_trans k4.size hbb.size))).trans h6⟩
                rw [List.map_append, k3, HTK.out, List.map_append, List.map_append, List.map_cons, List.map_nil, h4]
                rfl
              have HOUT : Hid (R.length = i ∧ EOwn eRw W5 wc.heap.size A8 c8 R ∧ wc.heap.size ≤ W5.heap.size) := ⟨HJ.out.1, HJ.out.2.1.own.below HB5.out, Nat.le_trans HJ.out.2.2.2.size HB5.out.size⟩
              clear ba5 hB5 hz5 q0
              generalize hg10 : wr.heap.size = g10 at h10 hzw hwz ⊢
              have HG10 := Lib.hid hg10
              clear hg10
              obtain ⟨-, -, c6, -⟩ := Blk.qr HQ5.out.1
              have HST2 : Hid (EOwn eVa W5 W5.heap.size none 0 [] ∧ [] = (q.items.take 0).map (fun n => Ev.itemV n r.l) ∧ Below W5.heap.size W5 W5) := ⟨EOwn.nil _ _, by simp, Below.refl _ _⟩
              go_wp2_with fail
              clear c6
              go_loopw [11, 59] (fun v11 kv wq => ∃ (k : Nat) (A11 : Option Addr) (c11 : Nat) (vs : List Va), k ≤ q.items.length ∧ kv = .int .i64 (k : Int) ∧ v11 = .slice A11 k c11 ∧ Hid (vs.length = k ∧ EOwn eVa wq W5.heap.size A11 c11 vs ∧ vs = (q.items.take k).map (fun n => Ev.itemV n r.l) ∧ Below W5.heap.size W5 wq)) (fun _ kv _ => q.items.length - (intOf kv).toNat)
              case atStart => exact ⟨0, none, 0, [], Nat.zero_le _, by go_num, rfl, rfl, HST2.out⟩
              case round =>
                obtain ⟨k, A11, c11, vs, hk, rfl, rfl, HK⟩ := hrel
                clear HST2
                by_cases hkl : k < q.items.length
                · have hki : (k : Int) < (q.items.length : Int) := by omega
                  have HTI : Hid (q.items.take (k + 1) = q.items.take k ++ [q.items[k]]) := List.take_succ_eq_append_getElem hkl
                  have HNI : Hid (NodeIn w q.items[k]) := HQ.out.iin _ (List.getElem_mem hkl)
                  obtain ⟨ib, io, hia, -⟩ := HIT.out.at_ hkl
                  have HIW : Hid (ERow eNd wr (some ⟨ib, io, none⟩) q.items) := by show ERow _ _ _ _; rw [← hia]; exact HIT.out.below HK.out.2.2.2
                  rw [hia]
                  clear hia
                  have h10' := h10.below HK.out.2.2.2
                  go_upto_region 20 with (first | (refine wpList_load_nd_at rfl (.tmp 61) rfl HIW.out hkl rfl ?_) | (refine wpList_alloc_nd rfl rfl ?_; intro W6 hb6 hz6 hB6) | (refine wpList_store_nd rfl rfl (.tmp 13) (.tmp 62) rfl wr.heap.size rfl q.items[k] rfl hb6 ?_; intro W7 hb7 hg7))
                  have hwr : W5.heap.size ≤ wr.heap.size := HK.out.2.2.2.size
                  have hB7 : Below wr.heap.size wr W7 := below_of_grown hB6 hg7 (Nat.le_refl _) hB6.size
                  have HB7 := Lib.hid hB7
                  have H10 : Hid (Blk W7 g10 59 [.slice r.a r.l.length r.c]) := h10'.below hB7
                  have HOWN : Hid (vs.length = k ∧ EOwn eVa W7 W5.heap.size A11 c11 vs ∧ Below W5.heap.size W5 W7) := ⟨HK.out.1, HK.out.2.1.below hB7, HK.out.2.2.2.trans (hB7.mono hwr)⟩
                  have HIO : Hid ((Ev.itemV q.items[k] r.l).ok) := Ev.itemV_ok HNI.out HR5.out
                  have HVS : Hid (vs ++ [Ev.itemV q.items[k] r.l] = (q.items.take (k + 1)).map (fun n => Ev.itemV n r.l)) := by show _ = _; rw [HTI.out, List.map_append, ← HK.out.2.2.1]; rfl
                  clear hb6 hz6 hB6 hg7 hB7 h10' HIW HK HTI
                  have hz7 : wr.heap.size < W7.heap.size := hb7.lt
                  generalize q.items[k] = n at hb7 HNI HIO HVS ⊢
                  generalize wr.heap.size = g13 at hb7 hz7 hwr ⊢
                  obtain ⟨c0, -⟩ := Blk.c10 hb7
                  have HWW : Hid (Below w.heap.size w W7) := HQ5.out.2.trans (HOWN.out.2.2.mono HQ5.out.2.size)
                  have HRW : Hid (RowsOk W7 r.a r.l) := HR5.out.below HOWN.out.2.2
                  simp only [Act.put, List.setIfInBounds_toArray, List.set_cons_zero, List.set_cons_succ]
                  go_cut [71] from 63 to 71 (fun v wx => Hid (v = .bool (decide (10 ≤ n.k ∧ n.k ≤ 13)) ∧ W7 = wx))
                  case first =>
                    go_wp2_with fail
                    refine (cmpint_any _ n.k 10).mono ?_
                    rintro e W8 ⟨rfl, rfl⟩
                    have hck : (0 ≤ Ev.cmpI n.k 10) ↔ 10 ≤ n.k := by unfold Ev.cmpI; (repeat' split) <;> omega
                    generalize Ev.cmpI n.k 10 = o at hck ⊢
                    by_cases h0 : 10 ≤ n.k
                    · have ho : 0 ≤ o := hck.2 h0
                      clear hck
                      by_cases h1 : n.k ≤ 13
                      · have HC : Hid (decide (10 ≤ n.k ∧ n.k ≤ 13) = true) := by show _ = _; rw [decide_eq_true_iff]; exact ⟨h0, h1⟩
                        go_wp2_with fail
                        go_meet
                        case rel => exact ⟨by rw [HC.out], rfl⟩
                      · have HC : Hid (decide (10 ≤ n.k ∧ n.k ≤ 13) = false) := by show _ = _; rw [decide_eq_false_iff_not]; omega
                        go_wp2_with fail
                        go_meet
                        case rel => exact ⟨by rw [HC.out, decide_eq_false (show ¬ n.k ≤ 13 by omega)], rfl⟩
                    · have ho : o < 0 := by omega
                      clear hck
                      have HC : Hid (decide (10 ≤ n.k ∧ n.k ≤ 13) = false) := by show _ = _; rw [decide_eq_false_iff_not]; omega
                      go_wp2_with fail
                      go_meet
                      case rel => exact ⟨by rw [HC.out], rfl⟩
                  case rest =>
                    obtain ⟨hv, rfl⟩ := hcut.out
                    subst hv
                    clear hcut c0
                    by_cases hC : 10 ≤ n.k ∧ n.k ≤ 13
                    · have HIV : Hid (Ev.itemV n r.l = Ev.foldV n r.l) := by show _ = _; unfold Ev.itemV; rw [if_pos hC]
                      rw [decide_eq_true hC]
                      clear hC
                      have d0 := H10.out.cell 0
                      simp only [List.getElem?_cons_zero] at d0
                      go_wp2_with (refine wpList_load_nd rfl (.tmp 13) rfl g13 rfl hb7 ?_)
                      refine (fold_any _ n r.a r.c r.l (node_below HNI.out HWW.out) HRW.out hrc).mono ?_
                      rintro e W8 ⟨rfl, hB8⟩
                      rw [← HIV.out]
                      generalize Ev.itemV n r.l = d at HIO HVS ⊢
                      have hoA := (HOWN.out.2.1.below hB8).alloc (.cells #[.int .i64 d.k, .int .i64 d.n, .float .f64 d.f, txt d.s] 32)
                      have hrA := ERow.lit eVa W8 d #[.int .i64 d.k, .int .i64 d.n, .float .f64 d.f, txt d.s] rfl W8.heap.size rfl
                      have HBA : Hid (Below W5.heap.size W5 (W8.alloc (.cells #[.int .i64 d.k, .int .i64 d.n, .float .f64 d.f, txt d.s] 32)) ∧ W5.heap.size ≤ (W8.alloc (.cells #[.int .i64 d.k, .int .i64 d.n, .float .f64 d.f, txt d.s] 32)).heap.size) := by
                        have hx := (HOWN.out.2.2.then (hB8.mono (Nat.le_refl _))).then ((Below.refl W8.heap.size W8).alloc (Nat.le_refl _) (.cells #[.int .i64 d.k, .int .i64 d.n, .float .f64 d.f, txt d.s] 32))
                        exact ⟨hx, hx.size⟩
                      clear hB8 d0 hb7
                      unfold Va.v
                      go_wp2_with (at_builtin; refine wpList_append_elems eVa rfl (.tmp 72) (.tmp 77) rfl k rfl hoA HOWN.out.1.symm 1 rfl hrA rfl (by have := HOWN.out.1; simp; omega) HBA.out.2 ?_; intro A3 c3 w3 ho3 hb3 hg3 ha3)
                      have HR : Hid ((vs ++ [d]).length = k + 1 ∧ EOwn eVa w3 W5.heap.size A3 c3 (vs ++ [d]) ∧ vs ++ [d] = (q.items.take (k + 1)).map (fun n => Ev.itemV n r.l) ∧ Below W5.heap.size W5 w3) := ⟨by simp [HOWN.out.1], ho3, HVS.out, HBA.out.1.trans hb3⟩
                      clear hoA hrA ho3 hb3 hg3 ha3
                      go_roundw
                      case rel => exact ⟨k + 1, A3, c3, _, by omega, by go_num, by rw [HOWN.out.1], HR.out⟩
                      case measure => simp [intOf]; omega
                    · have HIV : Hid (Ev.itemV n r.l = Ev.eval (Ev.firstR r.l).l n) := by show _ = _; unfold Ev.itemV; rw [if_neg hC]
                      rw [decide_eq_false hC]
                      clear hC
                      have d0 := H10.out.cell 0
                      simp only [List.getElem?_cons_zero] at d0
                      go_upto_region 22 with fail
                      refine wp_region_plan (.take 0 (.take 1 (.take 2 (.run 3 [0, 1] (.run 4 [0] (.run 5 [0] (.run 6 [] (.take 7 .fin)))))))) (by kernel_rfl) (by kernel_rfl) (by kernel_rfl) (by kernel_rfl) ?_
                      repeat' (first | (refine hZ _ _ ?_; clear hZ) | (refine hZ _ ?_; clear hZ) | (refine hZ ?_; clear hZ) | rw [again_nil] | rw [walk_fin] | ((first | rw [walk_take] | rw [walk_run] | rw [again_cons]); intro Z hZ; simp only [sel, List.getElem?_toArray, List.getElem?_cons_zero, List.getElem?_cons_succ]; go_wp2_with (refine wpList_load_nd rfl (.tmp 13) rfl g13 rfl hb7 ?_)))
                      refine (show Calls _ _ #[.agg #[r.h]] _ _ from first_any _ r (HRW.out.below (Below.refl _ _).drewR)).mono ?_
                      rintro e W8 ⟨rfl, hB8⟩
                      have hB8' : Below W7.heap.size W7 W8 := (Below.refl _ _).drewR.trans (hB8.mono (Nat.le_refl _))
                      have hb8 := hb7.below hB8'
                      have d8 := cell_later hB8' d0
                      have HB8 := Lib.hid hB8'
                      clear hB8 hB8' d0 hb7
                      go_wp2_with fail
                      repeat' (first | (refine hZ _ _ ?_; clear hZ) | (refine hZ _ ?_; clear hZ) | (refine hZ ?_; clear hZ) | rw [again_nil] | rw [walk_fin] | ((first | rw [walk_take] | rw [walk_run] | rw [again_cons]); intro Z hZ; simp only [sel, List.getElem?_toArray, List.getElem?_cons_zero, List.getElem?_cons_succ]; go_wp2_with (refine wpList_load_nd rfl (.tmp 13) rfl g13 rfl hb8 ?_)))
                      refine (eval_any W8 _ (Ev.firstR r.l).c (Ev.firstR r.l).l (HRW.out.below HB8.out).first.r (HRW.out.below HB8.out).first.ok (HRW.out.below HB8.out).first.len n (node_below (node_below HNI.out HWW.out) HB8.out) W8 (Below.refl _ _)).mono ?_
                      rintro e W9 ⟨rfl, hB9⟩
                      rw [← HIV.out]
                      generalize Ev.itemV n r.l = d at HIO HVS ⊢
                      have hB9' : Below W7.heap.size W7 W9 := HB8.out.then hB9
                      have hb9 := hb8.below hB9
                      have d9 := cell_later hB9 d8
                      have hoA := (HOWN.out.2.1.below hB9').alloc (.cells #[.int .i64 d.k, .int .i64 d.n, .float .f64 d.f, txt d.s] 32)
                      have hrA := ERow.lit eVa W9 d #[.int .i64 d.k, .int .i64 d.n, .float .f64 d.f, txt d.s] rfl W9.heap.size rfl
                      have HBA : Hid (Below W5.heap.size W5 (W9.alloc (.cells #[.int .i64 d.k, .int .i64 d.n, .float .f64 d.f, txt d.s] 32)) ∧ W5.heap.size ≤ (W9.alloc (.cells #[.int .i64 d.k, .int .i64 d.n, .float .f64 d.f, txt d.s] 32)).heap.size) := by
                        have hx := (HOWN.out.2.2.then (hB9'.mono (Nat.le_refl _))).then ((Below.refl W9.heap.size W9).alloc (Nat.le_refl _) (.cells #[.int .i64 d.k, .int .i64 d.n, .float .f64 d.f, txt d.s] 32))
                        exact ⟨hx, hx.size⟩
                      clear hB9 hB9' d8 hb8
                      unfold Va.v
                      go_wp2_with fail
                      repeat' (first | (refine hZ _ _ ?_; clear hZ) | (refine hZ _ ?_; clear hZ) | (refine hZ ?_; clear hZ) | rw [again_nil] | rw [walk_fin] | ((first | rw [walk_take] | rw [walk_run] | rw [again_cons]); intro Z hZ; simp only [sel, List.getElem?_toArray, List.getElem?_cons_zero, List.getElem?_cons_succ]; go_wp2_with (first | (refine wpList_load_nd rfl (.tmp 13) rfl g13 rfl hb9 ?_) | (at_builtin; refine wpList_append_elems eVa rfl (.tmp 79) (.tmp 84) rfl k rfl hoA HOWN.out.1.symm 1 rfl hrA rfl (by have := HOWN.out.1; simp; omega) HBA.out.2 ?_; intro A3 c3 w3 ho3 hb3 hg3 ha3))))
                      have HR : Hid ((vs ++ [d]).length = k + 1 ∧ EOwn eVa w3 W5.heap.size A3 c3 (vs ++ [d]) ∧ vs ++ [d] = (q.items.take (k + 1)).map (fun n => Ev.itemV n r.l) ∧ Below W5.heap.size W5 w3) := ⟨by simp [HOWN.out.1], ho3, HVS.out, HBA.out.1.trans hb3⟩
                      clear hoA hrA ho3 hb3 hg3 ha3
                      go_wp2_with fail
                      go_roundw
                      case rel => exact ⟨k + 1, A3, c3, _, by omega, by go_num, by rw [HOWN.out.1], HR.out⟩
                      case measure => simp [intOf]; omega
                · have hki : ¬ (k : Int) < (q.items.length : Int) := by omega
                  obtain rfl : k = q.items.length := by omega
                  obtain ⟨k1, k2, k3, k4⟩ := HK.out
                  rw [List.take_length] at k3
                  have HVK : Hid ((∀ v ∈ vs, v.ok) ∧ vs = Ev.rowV q.items r.l ∧ Below W5.heap.size W5 wr ∧ EOwn eVa wr W5.heap.size A11 c11 vs) := by
                    refine ⟨fun v hv => ?_, k3, k4, k2⟩
                    rw [k3] at hv
                    obtain ⟨n, hn, rfl⟩ := List.mem_map.1 hv
                    exact Ev.itemV_ok (HQ.out.iin n hn) HR5.out
                  have hoA := (HOUT.out.2.1.below k4).alloc (.cells #[.slice A11 q.items.length c11] 23)
                  have hrA := ERow.lit eRw wr ⟨A11, vs, c11⟩ #[.slice A11 q.items.length c11] (by show _ = [Value.slice A11 vs.length c11]; rw [k1]) wr.heap.size rfl
                  have hzo : wc.heap.size ≤ (wr.alloc (.cells #[.slice A11 q.items.length c11] 23)).heap.size := by
                    have := k4.size
                    have := HOUT.out.2.2
                    simp
                    omega
                  have HKL := Lib.hid k1
                  clear k1 k2 k3 k4 HK
                  go_wp2_with (at_builtin; refine wpList_append_elems eRw rfl (.tmp 87) (.tmp 89) rfl i rfl hoA HOUT.out.1.symm 1 rfl hrA rfl (by have := HOUT.out.1; simp; omega) hzo ?_; intro A3 c3 w3 ho3 hb3 hg3 ha3)
                  have HR := Lib.hid (HONE.out wr w3 ⟨A11, vs, c11⟩ A3 c3 HVK.out.2.2.1 HVK.out.2.2.2 HVK.out.1 HVK.out.2.1 ho3 (by show Below _ (wr.alloc (.cells #[.slice A11 vs.length c11] _)) _; rw [HKL.out]; exact hb3) (by show (wr.alloc (.cells #[.slice A11 vs.length c11] _)).grownBy _ _; rw [HKL.out]; exact hg3) (by show _ ∨ _ = some (wr.alloc (.cells #[.slice A11 vs.length c11] _)).heap.size; rw [HKL.out]; exact ha3))
                  clear hoA hrA ho3 hb3 hg3 ha3
                  go_roundw
                  case rel => exact ⟨i + 1, A3, c3, _, by omega, by go_num, by rw [HOUT.out.1], HR.out⟩
                  case measure => simp [intOf]; omega
            · have hii : ¬ (i : Int) < (T.length : Int) := by omega
              obtain rfl : i = T.length := by omega
              have HF : Hid (RetRows w (fun R => R = D) (.returned (.slice A8 T.length c8)) wr) := by
                obtain ⟨h0, h1, h2, h3⟩ := HJ.out
                rw [← h0]
                have hz := HQX.out.2.size
                refine ⟨A8, c8, R, rfl, ⟨h1.own.mono hz, h1.rows, h1.cap, h1.ok, h1.ne, Nat.le_trans hz h1.size⟩, ?_, HQX.out.2.trans (h3.mono hz)⟩
                rw [HDT.out, h2, List.take_length]
              go_wp2_with fail
              go_ret
              exact HF.out
end Go.Proofs.Ytknfnhmkiooifaa
end

section
/-
  The contract of the laws' lives: a sum of two rows.
-/
namespace Go.Proofs.Ytknfnhmkiooifaa
set_option linter.unusedSimpArgs false
set_option linter.unusedVariables false
open Go.RowKit

theorem ret_nd {fn : Func} {R : Ending → World → Prop} {a : Act} {w : World} {p : Tmp} {g : Nat} {T0 : TypeId} {b : Nd} (hb : Blk w g T0 b.cells) (h : fn.results = #[.cell p 35]) (hd : a.defers = [])
    (hp : a.tmps.getD p undef = .pointer (some ⟨g, 0, none⟩)) (hR : R (.returned b.v) w) : bodyPost Try.prog fn R .ret a w :=
  ret_mem1 h hd hp (run_loadVar_mid w g 0 35 b.cells _ (hb.range 0 b.cells fun j _ => by rw [Nat.zero_add]) Try.underlying35 rfl nd_info) hR
set_option maxRecDepth 20000 in
theorem col_any (w : World) (i : Int) : Calls Try.prog 13 #[.int .i64 i] w fun e w' => e = .returned (.agg #[.int .i64 2, txt [], .int .i64 0, .int .i64 0, .float .f64 0, txt [], .int .i64 i, .bool false, .int .i64 0, .slice none 0 0]) ∧ Below w.heap.size w w' := by
  go_enter Try.func13, Try.ntmps13
  go_wp2_with (first | (refine wpList_alloc_nd rfl rfl ?_; intro W6 hb6 hz6 hB6) | (refine wpList_store_nd rfl rfl (.tmp 2) (.tmp 4) rfl w.heap.size rfl (Nd.mk 2 [] Key.nul i false 0 none [] 0) rfl hb6 ?_; intro W7 hb7 hg7))
  exact ret_nd hb7 rfl rfl rfl ⟨rfl, below_of_grown hB6 hg7 (Nat.le_refl _) hB6.size⟩
theorem node_col {w : World} (i : Int) (hi : Ev.inB i) : NodeIn w (.mk 2 [] Key.nul i false 0 none [] 0) :=
  NodeIn.mk ERow.nil (by intro m hm; simp [Nd.args] at hm) Ev.nul_ok (Nat.zero_le _) (by show Ev.inB 2; exact ⟨by decide, by decide⟩) hi (Nat.le_refl _) (Nat.zero_le _)
/-- A fold of a column. -/
def foldN (k : Int) (a : Option Addr) (i : Int) : Nd := .mk k [] Key.nul 0 false 0 a [.mk 2 [] Key.nul i false 0 none [] 0] 1
theorem node_fold {w : World} {k : Int} {a : Option Addr} {i : Int} (hk : Ev.inB k) (hi : Ev.inB i) (h : ERow eNd w a [.mk 2 [] Key.nul i false 0 none [] 0]) : NodeIn w (foldN k a i) :=
  NodeIn.mk h (by intro m hm; rw [List.mem_singleton.1 hm]; exact node_col i hi) Ev.nul_ok (Nat.zero_le _) hk (show Ev.inB 0 from ⟨by decide, by decide⟩) (Nat.le_refl _) (by show 1 ≤ maxLen; decide)
theorem lives_val (a : Option Addr) (r1 r2 : Rw) (h1 : r1.l = [⟨1, 2, 0, []⟩]) (h2 : r2.l = [⟨1, 3, 0, []⟩]) : Ev.answerV true [] [foldN 11 a 0] [] (-1) [r1, r2] = [[⟨1, 5, 0, []⟩]] := by
  unfold Ev.answerV Ev.groupsV Ev.baseG
  rw [if_pos rfl, if_pos rfl, Ev.ssort_one]
  show [[Ev.itemV (foldN 11 a 0) [r1, r2]]] = _
  congr 2
  unfold Ev.itemV
  rw [if_pos (show 10 ≤ (foldN 11 a 0).k ∧ (foldN 11 a 0).k ≤ 13 from ⟨(by decide : (10 : Int) ≤ 11), (by decide : (11 : Int) ≤ 13)⟩)]
  unfold Ev.foldV Ev.argsV Ev.argV
  rw [if_neg (show ¬ (foldN 11 a 0).k = 10 from (by decide : ¬ (11 : Int) = 10)), if_pos (show (foldN 11 a 0).k = 11 from rfl)]
  simp only [List.map_cons, List.map_nil, h1, h2]
  rfl
set_option maxRecDepth 100000 in
set_option maxHeartbeats 8000000 in
theorem elives_any (w : World) : Calls Try.prog 9 #[] w fun e w' => e = .returned (.bool true) ∧ Below w.heap.size w w' := by
  go_enter Try.func9, Try.ntmps9
  go_upto_region 2 with fail
  generalize hW1 : (((World.alloc w (.cells _ _)).alloc (.cells _ _)).alloc (.cells _ _)) = W1
  obtain ⟨ba1, bb1, bc1, hz1, hB1⟩ := fresh3 hW1
  clear hW1
  obtain ⟨r1, hr1⟩ : ∃ r1 : Rw, r1 = ⟨some ⟨w.heap.size, 0, none⟩, [⟨1, 2, 0, []⟩], 1⟩ := ⟨_, rfl⟩
  obtain ⟨r2, hr2⟩ : ∃ r2 : Rw, r2 = ⟨some ⟨w.heap.size + 1, 0, none⟩, [⟨1, 3, 0, []⟩], 1⟩ := ⟨_, rfl⟩
  have HR1 : Hid (RowOk W1 r1.a r1.l) := by
    rw [hr1]
    exact ⟨Blk.row eVa ba1 [⟨1, 2, 0, []⟩] rfl (by simp [maxLen]), by intro v hv; rw [List.mem_singleton.1 hv]; exact ⟨by decide, by decide, by decide, by decide, by decide⟩, by show 1 ≤ 9223372036854775807; decide⟩
  have HR2 : Hid (RowOk W1 r2.a r2.l) := by
    rw [hr2]
    exact ⟨Blk.row eVa bb1 [⟨1, 3, 0, []⟩] rfl (by simp [maxLen]), by intro v hv; rw [List.mem_singleton.1 hv]; exact ⟨by decide, by decide, by decide, by decide, by decide⟩, by show 1 ≤ 9223372036854775807; decide⟩
  have HRS : Hid (RowsOk W1 (some ⟨w.heap.size + 1 + 1, 0, none⟩) [r1, r2]) := by
    refine ⟨Blk.row eRw bc1 [r1, r2] (by rw [hr1, hr2]; rfl) (by simp [maxLen]), ?_, by show 2 ≤ 1000000; decide⟩
    intro x hx
    rcases List.mem_cons.1 hx with rfl | hx
    · exact HR1.out
    · rw [List.mem_singleton.1 hx]; exact HR2.out
  have HB1 := Lib.hid hB1
  have H1L : Hid (r1.l = [⟨1, 2, 0, []⟩]) := by show _ = _; rw [hr1]
  have H2L : Hid (r2.l = [⟨1, 3, 0, []⟩]) := by show _ = _; rw [hr2]
  clear ba1 bb1 bc1 hz1 hB1 hr1 hr2
  go_wp2_with fail
  refine (col_any W1 0).mono ?_
  rintro e W2 ⟨rfl, hB2⟩
  have HRS2 := Lib.hid (HRS.out.below hB2)
  have HB2 := Lib.hid (HB1.out.then hB2)
  have HR12 := Lib.hid (HR1.out.below hB2)
  have HR22 := Lib.hid (HR2.out.below hB2)
  clear hB2 HRS HB1 HR1 HR2
  go_wp2_with fail
  generalize hW3 : ((World.alloc W2 (.cells _ _)).alloc (.cells _ _)) = W3
  obtain ⟨ba3, bb3, hz3, hB3⟩ := fresh2 hW3
  clear hW3
  have HN3 : Hid (ERow eNd W3 (some ⟨W2.heap.size + 1, 0, none⟩) [foldN 11 (some ⟨W2.heap.size, 0, none⟩) 0] ∧ NodeIn W3 (foldN 11 (some ⟨W2.heap.size, 0, none⟩) 0)) :=
    ⟨Blk.row eNd bb3 _ rfl (by simp [maxLen]), node_fold ⟨by decide, by decide⟩ ⟨by decide, by decide⟩ (Blk.row eNd ba3 [.mk 2 [] Key.nul 0 false 0 none [] 0] rfl (by simp [maxLen]))⟩
  have HRS3 := Lib.hid (HRS2.out.below hB3)
  have HB3 := Lib.hid (HB2.out.then hB3)
  have HR13 := Lib.hid (HR12.out.below hB3)
  have HR23 := Lib.hid (HR22.out.below hB3)
  clear ba3 bb3 hz3 hB3 HRS2 HB2 HR12 HR22
  generalize W2.heap.size = z at HN3 ⊢
  have HQ : Hid (QrIn W3 ⟨.slice none 0 0, .slice none 0 0, 0, none, [], 0, none, [], 0, true, some ⟨z + 1, 0, none⟩, [foldN 11 (some ⟨z, 0, none⟩) 0], 1, none, [], 0, -1⟩) :=
    ⟨ERow.nil, (by intro n hn; cases hn), Nat.zero_le _, HN3.out.1, (by intro n hn; rw [List.mem_singleton.1 hn]; exact HN3.out.2), (by show 1 ≤ 1000000; decide), ERow.nil, (by intro n hn; cases hn), Nat.zero_le _, (show Ev.inB (-1) from ⟨by decide, by decide⟩)⟩
  have HA := Lib.hid (answer_any W3 _ _ 2 [r1, r2] HQ.out HRS3.out (Nat.le_refl 2) (by show 2 ≤ maxLen; decide) (by intro h; cases h))
  refine (show Calls _ _ _ _ _ from HA.out).mono ?_
  rintro e W4 ⟨A4, c4, R, rfl, hR, hRv, hB4⟩
  have hRv : R.map Rw.l = [[⟨1, 5, 0, []⟩]] := by rw [hRv]; exact lives_val _ r1 r2 H1L.out H2L.out
  obtain ⟨r, rfl⟩ : ∃ r, R = [r] := by
    have := congrArg List.length hRv
    rw [List.length_map] at this
    exact List.length_eq_one_iff.1 this
  have hrl : r.l = [⟨1, 5, 0, []⟩] := by simpa using hRv
  obtain ⟨g4, rfl⟩ : ∃ g4, A4 = some ⟨g4, 0, none⟩ := by
    rcases hR.own.form with ⟨-, -, h⟩ | ⟨g, h, -⟩
    · cases h
    · exact ⟨g, h⟩
  have q0 : W4.cell? ⟨g4, 0, none⟩ = some r.v := hR.own.cell (j := 0) (k := 0) (v := r.v) (by simp) rfl
  obtain ⟨bb, oo, ha, -, hcell⟩ := (hR.rows r (by simp)).at_ (j := 0) (by rw [hrl]; simp)
  have q1 : W4.cell? ⟨bb, oo + 1, none⟩ = some (.int .i64 5) := by
    have := hcell 1 (.int .i64 5) (by simp only [hrl]; rfl)
    simpa using this
  unfold Rw.v at q0
  rw [ha, hrl] at q0
  have HB4 := Lib.hid (HB3.out.then hB4)
  have HRS4 := Lib.hid (HRS3.out.below hB4)
  have HR14 := Lib.hid (HR13.out.below hB4)
  have HR24 := Lib.hid (HR23.out.below hB4)
  clear hB4 hR hRv hrl ha hcell HA HQ HRS3 HR13 HR23 HB3 HN3
  obtain ⟨b2, o2, e2, -, q2⟩ := rw_at HRS4.out.r (j := 0) (by simp)
  cases e2
  obtain ⟨b3, o3, e3, -, q3⟩ := rw_at HRS4.out.r (j := 1) (by simp)
  cases e3
  simp only [List.getElem_cons_zero, List.getElem_cons_succ, Nat.add_zero] at q2 q3
  have hB5 : Below W4.heap.size W4 (W4.alloc (.cells #[.int .i64 0, .bool false] 53)).drew := ((Below.refl W4.heap.size W4).alloc (Nat.le_refl _) _).drewR
  have p0 := cell_later hB5 q0
  have p1 := cell_later hB5 q1
  have p2 := cell_later hB5 q2
  have p3 := cell_later hB5 q3
  have hla : ERow eSo (W4.alloc (.cells #[.int .i64 0, .bool false] 53)).drew (some ⟨W4.heap.size, 0, none⟩) [⟨0, false⟩] := (ERow.lit eSo W4 ⟨0, false⟩ #[.int .i64 0, .bool false] rfl _ rfl).below (Below.refl _ _).drewR
  have HO := Lib.hid (pordr_any _ (some ⟨W4.heap.size, 0, none⟩) r2.a r1.a 1 r2.c r1.c [⟨0, false⟩] r2.l r1.l hla (by intro s hs; rw [List.mem_singleton.1 hs]; exact ⟨by decide, by decide⟩) (by show 1 ≤ 9223372036854775807; decide) (HR24.out.below hB5) (HR14.out.below hB5))
  have HOV : Hid (Ev.ordR [⟨0, false⟩] r2.l r1.l = 1) := by show _ = _; rw [H1L.out, H2L.out]; rfl
  have HB5 := Lib.hid (HB4.out.then hB5)
  clear hB5 hla HR24 HR14 HRS4
  have q0 : W4.drew.cell? _ = _ := q0
  have q1 : W4.drew.cell? _ = _ := q1
  have q2 : W4.drew.cell? _ = _ := q2
  have q3 : W4.drew.cell? _ = _ := q3
  go_upto_region 3 with fail
  refine wp_region_plan (.take 0 (.take 1 (.take 2 (.take 3 (.take 4 (.take 5 (.take 6 (.take 7 (.take 8 (.take 9 (.take 10 (.take 11 (.take 12 (.take 13 (.take 14 (.take 15 (.take 16 (.take 17 (.take 18 (.take 19 (.take 20 (.take 22 (.take 23 (.take 24 (.take 25 (.take 26 (.take 27 (.run 21 [22, 23, 24, 25, 26, 27] (.run 28 [] (.take 29 (.take 30 (.take 31 .fin)))))))))))))))))))))))))))))))) (by kernel_rfl) (by kernel_rfl) (by kernel_rfl) (by kernel_rfl) ?_
  repeat' (first | (refine hZ _ _ ?_; clear hZ) | (refine hZ _ ?_; clear hZ) | (refine hZ ?_; clear hZ) | rw [again_nil] | rw [walk_fin] | ((first | rw [walk_take] | rw [walk_run] | rw [again_cons]); intro Z hZ; simp only [sel, List.getElem?_toArray, List.getElem?_cons_zero, List.getElem?_cons_succ]; go_wp2_with (fail)))
  refine (show Calls _ _ #[_, r2.v, r1.v] _ _ from HO.out).mono ?_
  rintro e W6 ⟨rfl, hB6⟩
  rw [HOV.out]
  have s0 := cell_later hB6 p0
  have s1 := cell_later hB6 p1
  have s2 := cell_later hB6 p2
  have s3 := cell_later hB6 p3
  have HB6 := Lib.hid (HB5.out.then hB6)
  clear hB6 p0 p1 p2 p3 q0 q1 q2 q3 HO
  go_wp2_with fail
  repeat' (first | (refine hZ _ _ ?_; clear hZ) | (refine hZ _ ?_; clear hZ) | (refine hZ ?_; clear hZ) | rw [again_nil] | rw [walk_fin] | ((first | rw [walk_take] | rw [walk_run] | rw [again_cons]); intro Z hZ; simp only [sel, List.getElem?_toArray, List.getElem?_cons_zero, List.getElem?_cons_succ]; go_wp2_with (fail)))
  go_wp2_with fail
  go_ret
  exact ⟨rfl, HB6.out⟩
end Go.Proofs.Ytknfnhmkiooifaa
end

section
/-
  The contracts of the laws' size, few, small.
-/
namespace Go.Proofs.Ytknfnhmkiooifaa
set_option linter.unusedSimpArgs false
set_option linter.unusedVariables false
open Go.RowKit

theorem RowIn.below {w W : World} {r : Rw} (h : RowIn w r) (hB : Below w.heap.size w W) : RowIn W r := ⟨h.row.below hB, h.ok, h.len, h.cap⟩
/-- A truth; if it is so, P is. -/
def RetIf (w : World) (P : Prop) (e : Ending) (w' : World) : Prop := ∃ b : Bool, e = .returned (.bool b) ∧ (b = true → P) ∧ Below w.heap.size w w'
/-- Some number. -/
def RetNum (w : World) (e : Ending) (w' : World) : Prop := ∃ r : Int, e = .returned (.int .i64 r) ∧ Below w.heap.size w w'
/-- size answers some number. -/
def SizesTo (w : World) (n : Nd) : Prop := ∀ W, Below w.heap.size w W → ∀ m : Int, Calls Try.prog 42 #[n.v, .int .i64 m] W (RetNum W)
set_option maxRecDepth 20000 in
set_option maxHeartbeats 4000000 in
theorem size_any (w : World) (n : Nd) (hn : NodeIn w n) : SizesTo w n := by
  induction hn with
  | @mk n hr hin hlit hls hk hat hc hm ih =>
  have HR := Lib.hid hr
  have HI := Lib.hid ih
  have hcm : n.args.length ≤ 9223372036854775807 := by unfold maxLen at hm; omega
  clear hr hin hlit hls hk hat hc hm ih
  intro W hB m
  have HB := Lib.hid hB
  clear hB
  go_enter Try.func42, Try.ntmps42
  go_upto_region 1 with (refine wpList_box_nd rfl (.tmp 0) rfl n rfl ?_; intro W1 hb1 hz1 hB1)
  have HB1 := Lib.hid hB1
  obtain ⟨-, -, -, -, -, c5, -, -, -, c9, -⟩ := Blk.c10 hb1
  clear hB1 hb1 hz1
  generalize W.heap.size = g2 at c5 c9 ⊢
  unfold txt at c5
  go_wp2_with fail
  clear c5 c9
  go_loopw [5, 16] (fun v5 iv wr => ∃ (r : Int) (i : Nat), v5 = .int .i64 r ∧ i ≤ n.args.length ∧ iv = .int .i64 (i : Int) ∧ Hid (Below W.heap.size W wr)) (fun _ iv _ => n.args.length - (intOf iv).toNat)
  case atStart => exact ⟨_, 0, rfl, Nat.zero_le _, by go_num, HB1.out⟩
  case round =>
    obtain ⟨r, i, rfl, hi, rfl, HJ⟩ := hrel
    by_cases hlt : i < n.args.length
    · have hii : (i : Int) < (n.args.length : Int) := by omega
      obtain ⟨bb, oo, ha, -, -⟩ := HR.out.at_ hlt
      have HIW : Hid (ERow eNd wr (some ⟨bb, oo, none⟩) n.args) := by show ERow _ _ _ _; rw [← ha]; exact HR.out.below (HB.out.then HJ.out)
      rw [ha]
      clear ha
      go_upto_region 5 with (first | (refine wpList_load_nd_at rfl (.tmp 18) rfl HIW.out hlt rfl ?_) | (refine wpList_alloc_nd rfl rfl ?_; intro W6 hb6 hz6 hB6) | (refine wpList_store_nd rfl rfl (.tmp 7) (.tmp 19) rfl wr.heap.size rfl n.args[i] rfl hb6 ?_; intro W7 hb7 hg7))
      have HB7 := Lib.hid (below_of_grown (HJ.out.then hB6) hg7 HJ.out.size (Nat.le_trans HJ.out.size hB6.size))
      clear hb6 hz6 hB6 hg7 HIW
      generalize wr.heap.size = g7 at hb7 ⊢
      by_cases hrm : m < r
      · go_wp2_with fail
        go_ret
        exact ⟨r, rfl, HB7.out⟩
      · go_wp2_with (refine wpList_load_nd rfl (.tmp 7) rfl g7 rfl hb7 ?_)
        refine (HI.out _ (List.getElem_mem hlt) W7 (HB.out.then HB7.out) _).mono ?_
        rintro e W8 ⟨r2, rfl, hB8⟩
        have HB8 := Lib.hid (HB7.out.then hB8)
        clear hB8 hb7
        go_wp2_with fail
        go_roundw
        case rel => exact ⟨_, i + 1, rfl, by omega, by go_num, HB8.out⟩
        case measure => simp [intOf]; omega
    · have hii : ¬ (i : Int) < (n.args.length : Int) := by omega
      go_wp2_with fail
      go_ret
      exact ⟨r, rfl, HJ.out⟩
set_option maxRecDepth 20000 in
set_option maxHeartbeats 4000000 in
theorem few_any (w : World) (A : Option Addr) (c : Nat) (L : List Nd) (hL : ERow eNd w A L) (hin : ∀ n ∈ L, NodeIn w n) (hlc : L.length ≤ c) (hcm : c ≤ maxLen) :
    Calls Try.prog 21 #[.slice A L.length c] w (RetIf w (L.length ≤ 12)) := by
  have HL := Lib.hid hL
  have HIN := Lib.hid hin
  have hlen : L.length ≤ 9223372036854775807 := by unfold maxLen at hcm; omega
  clear hL hin
  go_enter Try.func21, Try.ntmps21
  by_cases h12 : 12 < L.length
  · have hi12 : (12 : Int) < (L.length : Int) := by omega
    go_wp2_with fail
    go_ret
    exact ⟨false, rfl, by simp, Below.refl _ _⟩
  · have hi12 : ¬ (12 : Int) < (L.length : Int) := by omega
    go_wp2_with fail
    go_loopw [10] (fun iv wr => ∃ i : Nat, i ≤ L.length ∧ iv = .int .i64 (i : Int) ∧ Hid (Below w.heap.size w wr)) (fun iv _ => L.length - (intOf iv).toNat)
    case atStart => exact ⟨0, Nat.zero_le _, by go_num, Below.refl _ _⟩
    case round =>
      obtain ⟨i, hi, rfl, HJ⟩ := hrel
      by_cases hlt : i < L.length
      · have hii : (i : Int) < (L.length : Int) := by omega
        obtain ⟨bb, oo, rfl, -⟩ := nd_at HL.out hlt
        have HIW : Hid (ERow eNd wr (some ⟨bb, oo, none⟩) L) := HL.out.below HJ.out
        go_upto_region 6 with (first | (refine wpList_load_nd_at rfl (.tmp 12) rfl HIW.out hlt rfl ?_) | (refine wpList_alloc_nd rfl rfl ?_; intro W6 hb6 hz6 hB6) | (refine wpList_store_nd rfl rfl (.tmp 4) (.tmp 13) rfl wr.heap.size rfl L[i] rfl hb6 ?_; intro W7 hb7 hg7))
        have HB7 := Lib.hid (below_of_grown (HJ.out.then hB6) hg7 HJ.out.size (Nat.le_trans HJ.out.size hB6.size))
        clear hb6 hz6 hB6 hg7 HIW
        generalize wr.heap.size = g7 at hb7 ⊢
        go_wp2_with (refine wpList_load_nd rfl (.tmp 4) rfl g7 rfl hb7 ?_)
        refine (size_any w _ (HIN.out _ (List.getElem_mem hlt)) W7 HB7.out _).mono ?_
        rintro e W8 ⟨r2, rfl, hB8⟩
        have HB8 := Lib.hid (HB7.out.then hB8)
        clear hB8 hb7
        by_cases h300 : 300 < r2
        · go_wp2_with fail
          go_ret
          exact ⟨false, rfl, by simp, HB8.out⟩
        · go_wp2_with fail
          go_roundw
          case rel => exact ⟨i + 1, by omega, by go_num, HB8.out⟩
          case measure => simp [intOf]; omega
      · have hii : ¬ (i : Int) < (L.length : Int) := by omega
        go_wp2_with fail
        go_ret
        exact ⟨true, rfl, fun _ => by omega, HJ.out⟩
/-- Rows as small says. -/
def SmallR (L : List Rw) : Prop := L.length ≤ 60 ∧ ∀ r ∈ L, r.l.length ≤ 30 ∧ ∀ v ∈ r.l, v.s.length ≤ 100
set_option maxRecDepth 20000 in
set_option maxHeartbeats 4000000 in
theorem small_any (w : World) (A : Option Addr) (c : Nat) (L : List Rw) (hL : ERow eRw w A L) (hin : ∀ r ∈ L, RowIn w r) (hlc : L.length ≤ c) (hcm : c ≤ maxLen) :
    Calls Try.prog 10 #[.slice A L.length c] w (RetIf w (SmallR L)) := by
  have HL := Lib.hid hL
  have HIN := Lib.hid hin
  have hlen : L.length ≤ 9223372036854775807 := by unfold maxLen at hcm; omega
  clear hL hin
  go_enter Try.func10, Try.ntmps10
  by_cases h12 : 60 < L.length
  · have hi12 : (60 : Int) < (L.length : Int) := by omega
    go_wp2_with fail
    go_ret
    exact ⟨false, rfl, by simp, Below.refl _ _⟩
  · have hi12 : ¬ (60 : Int) < (L.length : Int) := by omega
    go_wp2_with fail
    go_loopw [12] (fun iv wr => ∃ i : Nat, i ≤ L.length ∧ iv = .int .i64 (i : Int) ∧ Hid ((∀ r ∈ L.take i, r.l.length ≤ 30 ∧ ∀ v ∈ r.l, v.s.length ≤ 100) ∧ Below w.heap.size w wr)) (fun iv _ => L.length - (intOf iv).toNat)
    case atStart => exact ⟨0, Nat.zero_le _, by go_num, by simp, Below.refl _ _⟩
    case round =>
      obtain ⟨i, hi, rfl, HJ⟩ := hrel
      by_cases hlt : i < L.length
      · have hii : (i : Int) < (L.length : Int) := by omega
        obtain ⟨bb, oo, rfl, hbl, q0⟩ := rw_at (HL.out.below HJ.out.2) hlt
        have HRI := Lib.hid (HIN.out L[i] (List.getElem_mem hlt))
        have HTK : Hid (L.take (i + 1) = L.take i ++ [L[i]]) := List.take_succ_eq_append_getElem hlt
        generalize L[i] = r at q0 HRI HTK
        have hrl : r.l.length ≤ 9223372036854775807 := by have := HRI.out.len; have := HRI.out.cap; unfold maxLen at this; omega
        unfold Rw.v at q0
        by_cases h30 : 30 < r.l.length
        · have hi30 : (30 : Int) < (r.l.length : Int) := by omega
          go_wp2_with fail
          go_ret
          exact ⟨false, rfl, by simp, HJ.out.2⟩
        · have hi30 : ¬ (30 : Int) < (r.l.length : Int) := by omega
          have HRW : Hid (ERow eVa w r.a r.l) := HRI.out.row
          go_wp2_with fail
          clear q0
          go_loopw [21] (fun jv wq => ∃ j : Nat, j ≤ r.l.length ∧ jv = .int .i64 (j : Int) ∧ Hid ((∀ v ∈ r.l.take j, v.s.length ≤ 100) ∧ Below w.heap.size w wq)) (fun jv _ => r.l.length - (intOf jv).toNat)
          case atStart => exact ⟨0, Nat.zero_le _, by go_num, by simp, HJ.out.2⟩
          case round =>
            obtain ⟨j, hj, rfl, HK⟩ := hrel
            by_cases hjt : j < r.l.length
            · have hji : (j : Int) < (r.l.length : Int) := by omega
              have HVI := Lib.hid (HRI.out.ok r.l[j] (List.getElem_mem hjt))
              have HTJ : Hid (r.l.take (j + 1) = r.l.take j ++ [r.l[j]]) := List.take_succ_eq_append_getElem hjt
              have HRR : Hid (ERow eVa wr r.a r.l) := HRW.out.below HK.out.2
              obtain ⟨b2, o2, ha, -, -⟩ := HRW.out.at_ hjt
              rw [ha] at HRR ⊢
              clear ha
              go_upto_region 11 with (first | (refine wpList_load_va_at rfl (.tmp 23) rfl HRR.out hjt rfl ?_) | (refine wpList_alloc_va rfl rfl ?_; intro W6 hb6 hz6 hB6) | (refine wpList_store_va rfl rfl (.tmp 6) (.tmp 24) rfl wr.heap.size rfl r.l[j] rfl hb6 ?_; intro W7 hb7 hg7))
              have HB7 := Lib.hid (below_of_grown (HK.out.2.then hB6) hg7 HK.out.2.size (Nat.le_trans HK.out.2.size hB6.size))
              clear hb6 hz6 hB6 hg7 HRR
              generalize wr.heap.size = g7 at hb7 ⊢
              generalize r.l[j] = v at hb7 HVI HTJ
              have q3 := hb7.cell 3
              simp only [Va.cells, List.getElem?_cons_zero, List.getElem?_cons_succ] at q3
              unfold txt at q3
              have hvl : v.s.length ≤ 9223372036854775807 := by have := HVI.out.len; unfold maxLen at this; omega
              have hsz : (ByteArray.mk v.s.toArray).size = v.s.length := slen_size v.s
              by_cases h100 : 100 < v.s.length
              · have hi100 : (100 : Int) < (v.s.length : Int) := by omega
                go_wp2_with fail
                go_ret
                exact ⟨false, rfl, by simp, HB7.out⟩
              · have hi100 : ¬ (100 : Int) < (v.s.length : Int) := by omega
                go_wp2_with fail
                go_roundw
                case rel =>
                  refine ⟨j + 1, by omega, by go_num, ?_, HB7.out⟩
                  intro u hu
                  rw [HTJ.out] at hu
                  rcases List.mem_append.1 hu with hu | hu
                  · exact HK.out.1 u hu
                  · rw [List.mem_singleton.1 hu]; omega
                case measure => simp [intOf]; omega
            · have hji : ¬ (j : Int) < (r.l.length : Int) := by omega
              obtain rfl : j = r.l.length := by omega
              go_wp2_with fail
              go_roundw
              case rel =>
                refine ⟨i + 1, by omega, by go_num, ?_, HK.out.2⟩
                intro u hu
                rw [HTK.out] at hu
                rcases List.mem_append.1 hu with hu | hu
                · exact HJ.out.1 u hu
                · rw [List.mem_singleton.1 hu]
                  have := HK.out.1
                  rw [List.take_length] at this
                  exact ⟨by omega, this⟩
              case measure => simp [intOf]; omega
      · have hii : ¬ (i : Int) < (L.length : Int) := by omega
        obtain rfl : i = L.length := by omega
        go_wp2_with fail
        go_ret
        exact ⟨true, rfl, fun _ => ⟨by omega, by have := HJ.out.1; rw [List.take_length] at this; exact this⟩, HJ.out.2⟩
end Go.Proofs.Ytknfnhmkiooifaa
end

section
/-
  The contract of key.Row.
-/
namespace Go.Proofs.Ytknfnhmkiooifaa
set_option linter.unusedSimpArgs false
set_option linter.unusedVariables false
open Go.RowKit

namespace Key
/-- A clean value's bytes in a row. -/
def pay (v : Va) : List UInt8 :=
  if v.k = 1 then Wire.num (Wire.ofInt v.n) else if v.k = 2 then Wire.num (pbits v.f) else if v.k = 3 then Wire.text v.s else if v.k = 4 then [if v.n = 1 then 1 else 0] else []
def rowOf (v : Va) : List UInt8 := UInt8.ofNat v.k.toNat :: pay v
def row (L : List Va) : List UInt8 := Wire.num L.length ++ L.flatMap fun v => rowOf (clean v)
theorem real1_idem (f : Nat) : real1 (real1 f) = real1 f := by
  unfold real1
  split
  · rfl
  · next h =>
    split
    · rfl
    · rfl
theorem clean_idem (v : Va) : clean (clean v) = clean v := by
  by_cases k1 : v.k = 1
  · rw [Va.clean1 k1]; rfl
  by_cases k2 : v.k = 2
  · rw [Va.clean2 k2]; show (⟨2, 0, real1 (real1 v.f), []⟩ : Va) = _; rw [real1_idem]
  by_cases k3 : v.k = 3
  · rw [Va.clean3 k3]; rfl
  by_cases k4 : v.k = 4
  · rw [Va.clean4 k4]; by_cases hn : v.n = 0 <;> simp [hn] <;> rfl
  · rw [Va.clean0 k1 k2 k3 k4]; rfl
theorem row_snoc (L : List Va) (k : Nat) (hk : k < L.length) : (L.take (k + 1)).flatMap (fun v => rowOf (clean v)) = (L.take k).flatMap (fun v => rowOf (clean v)) ++ rowOf (clean L[k]) := by
  rw [List.take_succ_eq_append_getElem hk, List.flatMap_append]
  simp
theorem text_len (s : List UInt8) : (Wire.text s).length ≤ 10 + s.length := by
  unfold Wire.text
  rw [List.length_append]
  have := (Wire.num_length s.length).2
  omega
theorem rowOf_len (v : Va) (h : v.s.length ≤ 1000) : (rowOf (clean v)).length ≤ 1011 := by
  by_cases k1 : v.k = 1
  · rw [Va.clean1 k1]; have := (Wire.num_length (Wire.ofInt v.n)).2; simp [rowOf, pay]; omega
  by_cases k2 : v.k = 2
  · rw [Va.clean2 k2]; have := (Wire.num_length (pbits (real1 v.f))).2; simp [rowOf, pay]; omega
  by_cases k3 : v.k = 3
  · rw [Va.clean3 k3]; have := text_len v.s; simp [rowOf, pay]; omega
  by_cases k4 : v.k = 4
  · rw [Va.clean4 k4]; simp [rowOf, pay]
  · rw [Va.clean0 k1 k2 k3 k4]; simp [rowOf, pay, nul]
theorem rows_len (L : List Va) (h : ∀ v ∈ L, v.s.length ≤ 1000) : (L.flatMap fun v => rowOf (clean v)).length ≤ 1011 * L.length := by
  induction L with
  | nil => simp
  | cons v L ih =>
    have h1 := rowOf_len v (h v (by simp))
    have h2 := ih fun u hu => h u (by simp [hu])
    rw [List.flatMap_cons, List.length_append, List.length_cons]
    omega
end Key
end Go.Proofs.Ytknfnhmkiooifaa
end

section
/-
  The contracts of dowserlaw08.clean and exact, of dowserref07.Exact and math.Signbit.
-/
namespace Go.Proofs.Ytknfnhmkiooifaa
set_option linter.unusedSimpArgs false
set_option linter.unusedVariables false
open Go.RowKit

set_option maxRecDepth 20000 in
set_option maxHeartbeats 1000000 in
theorem signbit_any (w : World) (f : Nat) (hf : f < two64) : Calls Try.prog 44 #[.float .f64 f] w fun e w' => e = .returned (.bool (decide (9223372036854775808 ≤ f))) ∧ w' = w := by
  have h1 : (f : Int) < 18446744073709551616 := by have := two64_eq; omega
  go_enter Try.func44, Try.ntmps44
  have hx : (Extern.MathFloatBits.float64bits #[.float .f64 f]).run Try.prog w = .ok (.int .u64 (f : Int)) w := rfl
  go_wp2_with fail
  rw [run_callFunc_extern Try.func80 (by kernel_rfl) (by kernel_rfl) (by kernel_rfl) (e := Extern.MathFloatBits.float64bits) (by kernel_rfl), hx]
  simp only [Result.andThen]
  rw [Oper.upon_value]
  by_cases ht : 9223372036854775808 ≤ f
  · have HD : Hid (decide (9223372036854775808 ≤ f) = true) := decide_eq_true ht
    have hi : wrap64 (f : Int) < 0 := by unfold wrap64; omega
    clear ht hf
    go_wp2_with fail
    go_ret
    exact ⟨by rw [HD.out]; rfl, rfl⟩
  · have HD : Hid (decide (9223372036854775808 ≤ f) = false) := decide_eq_false ht
    have hi : ¬ wrap64 (f : Int) < 0 := by unfold wrap64; omega
    clear ht hf
    go_wp2_with fail
    go_ret
    exact ⟨by rw [HD.out]; rfl, rfl⟩
/-- Two clean values are one, field by field. -/
def eqV (x y : Va) : Prop := x.k = y.k ∧ x.n = y.n ∧ x.s = y.s ∧ (fnan x.f ↔ fnan y.f) ∧ (fnan x.f ∨ x.f = y.f)
instance (x y : Va) : Decidable (eqV x y) := by unfold eqV; infer_instance
theorem xstr_eq (l m : List UInt8) (w : World) : (binOp .eql 9 (txt l) (txt m)).run Try.prog w = .ok (.bool (l == m)) w := by
  unfold txt
  rw [binOp_string_eql, txt_bytes, txt_bytes]
  rfl
theorem xeqg (t : TypeId) (x y : Operand) (l m : List UInt8) : eqGuard .eql t x y (txt l) (txt m) = pure () := rfl
set_option maxRecDepth 20000 in
set_option maxHeartbeats 8000000 in
theorem vexact_any (w : World) (x y : Va) (hx : x.ok) (hy : y.ok) (cx : Key.Clean x) (cy : Key.Clean y) : Calls Try.prog 22 #[x.v, y.v] w fun e w' => e = .returned (.bool (decide (eqV x y))) ∧ Below w.heap.size w w' := by
  have HX := Lib.hid hx
  have HY := Lib.hid hy
  have HCX := Lib.hid cx.zz
  have HCY := Lib.hid cy.zz
  clear hx hy cx cy
  go_enter Try.func22, Try.ntmps22
  go_upto_region 1 with (first | (refine wpList_box_va rfl (.tmp 0) rfl x rfl ?_; intro W1 hb1 hz1 hB1) | (refine wpList_box_va rfl (.tmp 1) rfl y rfl ?_; intro W2 hb2 hz2 hB2))
  have h12 := hb1.below hB2
  have HB := Lib.hid (hB1.trans (hB2.mono hB1.size))
  clear hb1 hB1 hB2
  obtain ⟨c0, c1, c2, c3, -⟩ := Blk.c4 h12
  obtain ⟨d0, d1, d2, d3, -⟩ := Blk.c4 hb2
  have keq := xstr_eq
  have geq := xeqg
  clear h12 hb2 hz1 hz2
  by_cases e1 : x.k = y.k
  · rw [e1] at c0
    by_cases e2 : x.n = y.n
    · rw [e2] at c1
      by_cases e3 : x.s = y.s
      · rw [e3] at c3
        have hss : (y.s == y.s) = true := by simp
        by_cases nx : fnan x.f <;> by_cases ny : fnan y.f
        · have HV : Hid (decide (eqV x y) = true) := decide_eq_true ⟨e1, e2, e3, ⟨fun _ => ny, fun _ => nx⟩, .inl nx⟩
          have hdx : (!decide (fnan x.f)) = false := by simp [nx]
          have hdy : (!decide (fnan y.f)) = false := by simp [ny]
          clear e1 e2 e3 nx ny
          refine wp_region_plan (.take 0 (.take 1 (.take 2 (.take 3 (.take 4 (.take 5 (.take 6 (.take 7 (.take 8 (.take 9 (.take 10 (.take 11 (.take 12 (.take 13 (.take 14 (.take 15 (.take 16 (.take 17 (.take 18 (.take 19 (.take 20 (.take 21 (.take 23 (.take 24 (.run 22 [23, 24] (.run 25 [] (.take 26 (.take 27 (.take 28 (.take 29 (.run 30 [] (.take 31 (.take 32 (.take 33 (.take 34 (.take 35 (.take 36 (.take 37 (.take 38 (.take 39 (.take 40 (.take 42 (.take 43 (.run 41 [42, 43] (.run 44 [] (.take 45 (.take 46 (.take 47 (.take 48 (.take 49 (.take 50 .fin))))))))))))))))))))))))))))))))))))))))))))))))))) (by kernel_rfl) (by kernel_rfl) (by kernel_rfl) (by kernel_rfl) ?_
          repeat' (first | (refine hZ _ _ ?_; clear hZ) | (refine hZ _ ?_; clear hZ) | (refine hZ ?_; clear hZ) | rw [again_nil] | rw [walk_fin] | ((first | rw [walk_take] | rw [walk_run] | rw [again_cons]); intro Z hZ; simp only [sel, List.getElem?_toArray, List.getElem?_cons_zero, List.getElem?_cons_succ]; go_wp2_with (fail)))
          refine (number_any _ x.f HX.out.f1).mono ?_
          rintro e wq ⟨rfl, hwq⟩
          rw [hwq, hdx]
          clear hwq wq
          go_wp2_with fail
          repeat' (first | (refine hZ _ _ ?_; clear hZ) | (refine hZ _ ?_; clear hZ) | (refine hZ ?_; clear hZ) | rw [again_nil] | rw [walk_fin] | ((first | rw [walk_take] | rw [walk_run] | rw [again_cons]); intro Z hZ; simp only [sel, List.getElem?_toArray, List.getElem?_cons_zero, List.getElem?_cons_succ]; go_wp2_with (fail)))
          refine (number_any _ y.f HY.out.f1).mono ?_
          rintro e wq ⟨rfl, hwq⟩
          rw [hwq, hdy]
          clear hwq wq
          go_wp2_with fail
          repeat' (first | (refine hZ _ _ ?_; clear hZ) | (refine hZ _ ?_; clear hZ) | (refine hZ ?_; clear hZ) | rw [again_nil] | rw [walk_fin] | ((first | rw [walk_take] | rw [walk_run] | rw [again_cons]); intro Z hZ; simp only [sel, List.getElem?_toArray, List.getElem?_cons_zero, List.getElem?_cons_succ]; go_wp2_with (fail)))
          refine (number_any _ x.f HX.out.f1).mono ?_
          rintro e wq ⟨rfl, hwq⟩
          rw [hwq, hdx]
          clear hwq wq
          go_wp2_with fail
          repeat' (first | (refine hZ _ _ ?_; clear hZ) | (refine hZ _ ?_; clear hZ) | (refine hZ ?_; clear hZ) | rw [again_nil] | rw [walk_fin] | ((first | rw [walk_take] | rw [walk_run] | rw [again_cons]); intro Z hZ; simp only [sel, List.getElem?_toArray, List.getElem?_cons_zero, List.getElem?_cons_succ]; go_wp2_with (fail)))
          go_wp2_with fail
          go_ret
          exact ⟨by rw [HV.out]; rfl, HB.out.drewR⟩
        · have HV : Hid (decide (eqV x y) = false) := decide_eq_false fun h => ny (h.2.2.2.1.1 nx)
          have hdx : (!decide (fnan x.f)) = false := by simp [nx]
          have hdy : (!decide (fnan y.f)) = true := by simp [ny]
          clear e1 e2 e3 nx ny
          refine wp_region_plan (.take 0 (.take 1 (.take 2 (.take 3 (.take 4 (.take 5 (.take 6 (.take 7 (.take 8 (.take 9 (.take 10 (.take 11 (.take 12 (.take 13 (.take 14 (.take 15 (.take 16 (.take 17 (.take 18 (.take 19 (.take 20 (.take 21 (.take 23 (.take 24 (.run 22 [23, 24] (.run 25 [] (.take 26 (.take 27 (.take 28 (.take 29 (.run 30 [] (.take 31 (.take 32 (.take 33 (.take 34 (.take 35 (.take 36 (.take 37 (.take 38 (.take 39 (.take 40 (.take 42 (.take 43 (.run 41 [42, 43] (.run 44 [] (.take 45 (.take 46 (.take 47 (.take 48 (.take 49 (.take 50 .fin))))))))))))))))))))))))))))))))))))))))))))))))))) (by kernel_rfl) (by kernel_rfl) (by kernel_rfl) (by kernel_rfl) ?_
          repeat' (first | (refine hZ _ _ ?_; clear hZ) | (refine hZ _ ?_; clear hZ) | (refine hZ ?_; clear hZ) | rw [again_nil] | rw [walk_fin] | ((first | rw [walk_take] | rw [walk_run] | rw [again_cons]); intro Z hZ; simp only [sel, List.getElem?_toArray, List.getElem?_cons_zero, List.getElem?_cons_succ]; go_wp2_with (fail)))
          refine (number_any _ x.f HX.out.f1).mono ?_
          rintro e wq ⟨rfl, hwq⟩
          rw [hwq, hdx]
          clear hwq wq
          go_wp2_with fail
          repeat' (first | (refine hZ _ _ ?_; clear hZ) | (refine hZ _ ?_; clear hZ) | (refine hZ ?_; clear hZ) | rw [again_nil] | rw [walk_fin] | ((first | rw [walk_take] | rw [walk_run] | rw [again_cons]); intro Z hZ; simp only [sel, List.getElem?_toArray, List.getElem?_cons_zero, List.getElem?_cons_succ]; go_wp2_with (fail)))
          refine (number_any _ y.f HY.out.f1).mono ?_
          rintro e wq ⟨rfl, hwq⟩
          rw [hwq, hdy]
          clear hwq wq
          go_wp2_with fail
          repeat' (first | (refine hZ _ _ ?_; clear hZ) | (refine hZ _ ?_; clear hZ) | (refine hZ ?_; clear hZ) | rw [again_nil] | rw [walk_fin] | ((first | rw [walk_take] | rw [walk_run] | rw [again_cons]); intro Z hZ; simp only [sel, List.getElem?_toArray, List.getElem?_cons_zero, List.getElem?_cons_succ]; go_wp2_with (fail)))
          go_wp2_with fail
          go_ret
          exact ⟨by rw [HV.out]; rfl, HB.out.drewR⟩
        · have HV : Hid (decide (eqV x y) = false) := decide_eq_false fun h => nx (h.2.2.2.1.2 ny)
          have hdx : (!decide (fnan x.f)) = true := by simp [nx]
          have hdy : (!decide (fnan y.f)) = false := by simp [ny]
          clear e1 e2 e3 nx ny
          refine wp_region_plan (.take 0 (.take 1 (.take 2 (.take 3 (.take 4 (.take 5 (.take 6 (.take 7 (.take 8 (.take 9 (.take 10 (.take 11 (.take 12 (.take 13 (.take 14 (.take 15 (.take 16 (.take 17 (.take 18 (.take 19 (.take 20 (.take 21 (.take 23 (.take 24 (.run 22 [23, 24] (.run 25 [] (.take 26 (.take 27 (.take 28 (.take 29 (.run 30 [] (.take 31 (.take 32 (.take 33 (.take 34 (.take 35 (.take 36 (.take 37 (.take 38 (.take 39 (.take 40 (.take 42 (.take 43 (.run 41 [42, 43] (.run 44 [] (.take 45 (.take 46 (.take 47 (.take 48 (.take 49 (.take 50 .fin))))))))))))))))))))))))))))))))))))))))))))))))))) (by kernel_rfl) (by kernel_rfl) (by kernel_rfl) (by kernel_rfl) ?_
          repeat' (first | (refine hZ _ _ ?_; clear hZ) | (refine hZ _ ?_; clear hZ) | (refine hZ ?_; clear hZ) | rw [again_nil] | rw [walk_fin] | ((first | rw [walk_take] | rw [walk_run] | rw [again_cons]); intro Z hZ; simp only [sel, List.getElem?_toArray, List.getElem?_cons_zero, List.getElem?_cons_succ]; go_wp2_with (fail)))
          refine (number_any _ x.f HX.out.f1).mono ?_
          rintro e wq ⟨rfl, hwq⟩
          rw [hwq, hdx]
          clear hwq wq
          go_wp2_with fail
          repeat' (first | (refine hZ _ _ ?_; clear hZ) | (refine hZ _ ?_; clear hZ) | (refine hZ ?_; clear hZ) | rw [again_nil] | rw [walk_fin] | ((first | rw [walk_take] | rw [walk_run] | rw [again_cons]); intro Z hZ; simp only [sel, List.getElem?_toArray, List.getElem?_cons_zero, List.getElem?_cons_succ]; go_wp2_with (fail)))
          refine (number_any _ y.f HY.out.f1).mono ?_
          rintro e wq ⟨rfl, hwq⟩
          rw [hwq, hdy]
          clear hwq wq
          go_wp2_with fail
          repeat' (first | (refine hZ _ _ ?_; clear hZ) | (refine hZ _ ?_; clear hZ) | (refine hZ ?_; clear hZ) | rw [again_nil] | rw [walk_fin] | ((first | rw [walk_take] | rw [walk_run] | rw [again_cons]); intro Z hZ; simp only [sel, List.getElem?_toArray, List.getElem?_cons_zero, List.getElem?_cons_succ]; go_wp2_with (fail)))
          go_wp2_with fail
          go_ret
          exact ⟨by rw [HV.out]; rfl, HB.out.drewR⟩
        · have hdx : (!decide (fnan x.f)) = true := by simp [nx]
          have hdy : (!decide (fnan y.f)) = true := by simp [ny]
          have ho : FloatKind.f64.format.order x.f y.f = some (compare (fsg x.f) (fsg y.f)) := ford_some HX.out.f1 HY.out.f1 nx ny
          by_cases hf : x.f = y.f
          · have HV : Hid (decide (eqV x y) = true) := decide_eq_true ⟨e1, e2, e3, ⟨fun h => absurd h nx, fun h => absurd h ny⟩, .inr hf⟩
            have hord : FloatKind.f64.format.order y.f y.f = some .eq := by rw [hf, Std.compare_self] at ho; exact ho
            rw [hf] at c2 hdx
            have hsb : (decide (9223372036854775808 ≤ y.f) == decide (9223372036854775808 ≤ y.f)) = true := by simp
            clear e1 e2 e3 nx ny ho hf
            refine wp_region_plan (.take 0 (.take 1 (.take 2 (.take 3 (.take 4 (.take 5 (.take 6 (.take 7 (.take 8 (.take 9 (.take 10 (.take 11 (.take 12 (.take 13 (.take 14 (.take 15 (.take 16 (.take 17 (.take 18 (.take 19 (.take 20 (.take 21 (.take 23 (.take 24 (.run 22 [23, 24] (.run 25 [] (.take 26 (.take 27 (.take 28 (.take 29 (.run 30 [] (.take 31 (.take 32 (.take 33 (.take 34 (.take 35 (.take 36 (.take 37 (.take 38 (.take 39 (.take 40 (.take 42 (.take 43 (.run 41 [42, 43] (.run 44 [] (.take 45 (.take 46 (.take 47 (.take 48 (.take 49 (.take 50 .fin))))))))))))))))))))))))))))))))))))))))))))))))))) (by kernel_rfl) (by kernel_rfl) (by kernel_rfl) (by kernel_rfl) ?_
            repeat' (first | (refine hZ _ _ ?_; clear hZ) | (refine hZ _ ?_; clear hZ) | (refine hZ ?_; clear hZ) | rw [again_nil] | rw [walk_fin] | ((first | rw [walk_take] | rw [walk_run] | rw [again_cons]); intro Z hZ; simp only [sel, List.getElem?_toArray, List.getElem?_cons_zero, List.getElem?_cons_succ]; go_wp2_with (fail)))
            refine (number_any _ y.f HY.out.f1).mono ?_
            rintro e wq ⟨rfl, hwq⟩
            rw [hwq, hdy]
            clear hwq wq
            go_wp2_with fail
            repeat' (first | (refine hZ _ _ ?_; clear hZ) | (refine hZ _ ?_; clear hZ) | (refine hZ ?_; clear hZ) | rw [again_nil] | rw [walk_fin] | ((first | rw [walk_take] | rw [walk_run] | rw [again_cons]); intro Z hZ; simp only [sel, List.getElem?_toArray, List.getElem?_cons_zero, List.getElem?_cons_succ]; go_wp2_with (fail)))
            refine (number_any _ y.f HY.out.f1).mono ?_
            rintro e wq ⟨rfl, hwq⟩
            rw [hwq, hdy]
            clear hwq wq
            go_wp2_with fail
            repeat' (first | (refine hZ _ _ ?_; clear hZ) | (refine hZ _ ?_; clear hZ) | (refine hZ ?_; clear hZ) | rw [again_nil] | rw [walk_fin] | ((first | rw [walk_take] | rw [walk_run] | rw [again_cons]); intro Z hZ; simp only [sel, List.getElem?_toArray, List.getElem?_cons_zero, List.getElem?_cons_succ]; go_wp2_with (fail)))
            refine (number_any _ y.f HY.out.f1).mono ?_
            rintro e wq ⟨rfl, hwq⟩
            rw [hwq, hdy]
            clear hwq wq
            go_wp2_with fail
            repeat' (first | (refine hZ _ _ ?_; clear hZ) | (refine hZ _ ?_; clear hZ) | (refine hZ ?_; clear hZ) | rw [again_nil] | rw [walk_fin] | ((first | rw [walk_take] | rw [walk_run] | rw [again_cons]); intro Z hZ; simp only [sel, List.getElem?_toArray, List.getElem?_cons_zero, List.getElem?_cons_succ]; go_wp2_with (fail)))
            refine (signbit_any _ y.f HY.out.f1).mono ?_
            rintro e wq ⟨rfl, hwq⟩
            rw [hwq]
            clear hwq wq
            go_wp2_with fail
            repeat' (first | (refine hZ _ _ ?_; clear hZ) | (refine hZ _ ?_; clear hZ) | (refine hZ ?_; clear hZ) | rw [again_nil] | rw [walk_fin] | ((first | rw [walk_take] | rw [walk_run] | rw [again_cons]); intro Z hZ; simp only [sel, List.getElem?_toArray, List.getElem?_cons_zero, List.getElem?_cons_succ]; go_wp2_with (fail)))
            refine (signbit_any _ y.f HY.out.f1).mono ?_
            rintro e wq ⟨rfl, hwq⟩
            rw [hwq]
            clear hwq wq
            go_wp2_with fail
            repeat' (first | (refine hZ _ _ ?_; clear hZ) | (refine hZ _ ?_; clear hZ) | (refine hZ ?_; clear hZ) | rw [again_nil] | rw [walk_fin] | ((first | rw [walk_take] | rw [walk_run] | rw [again_cons]); intro Z hZ; simp only [sel, List.getElem?_toArray, List.getElem?_cons_zero, List.getElem?_cons_succ]; go_wp2_with (fail)))
            go_wp2_with fail
            go_ret
            exact ⟨by rw [HV.out]; rfl, HB.out.drewR⟩
          · have HV : Hid (decide (eqV x y) = false) := decide_eq_false fun h => by rcases h.2.2.2.2 with h' | h'; exact nx h'; exact hf h'
            have hne : fsg x.f ≠ fsg y.f := fun h => hf (Key.fsg_inj HX.out.f1 HY.out.f1 HCX.out HCY.out h)
            have hc : compare (fsg x.f) (fsg y.f) ≠ .eq := fun h => hne (Std.compare_eq_iff_eq.1 h)
            cases hcc : compare (fsg x.f) (fsg y.f) with
            | eq => exact absurd hcc hc
            | lt =>
              rw [hcc] at ho
              clear e1 e2 e3 nx ny hf hne hc hcc
              refine wp_region_plan (.take 0 (.take 1 (.take 2 (.take 3 (.take 4 (.take 5 (.take 6 (.take 7 (.take 8 (.take 9 (.take 10 (.take 11 (.take 12 (.take 13 (.take 14 (.take 15 (.take 16 (.take 17 (.take 18 (.take 19 (.take 20 (.take 21 (.take 23 (.take 24 (.run 22 [23, 24] (.run 25 [] (.take 26 (.take 27 (.take 28 (.take 29 (.run 30 [] (.take 31 (.take 32 (.take 33 (.take 34 (.take 35 (.take 36 (.take 37 (.take 38 (.take 39 (.take 40 (.take 42 (.take 43 (.run 41 [42, 43] (.run 44 [] (.take 45 (.take 46 (.take 47 (.take 48 (.take 49 (.take 50 .fin))))))))))))))))))))))))))))))))))))))))))))))))))) (by kernel_rfl) (by kernel_rfl) (by kernel_rfl) (by kernel_rfl) ?_
              repeat' (first | (refine hZ _ _ ?_; clear hZ) | (refine hZ _ ?_; clear hZ) | (refine hZ ?_; clear hZ) | rw [again_nil] | rw [walk_fin] | ((first | rw [walk_take] | rw [walk_run] | rw [again_cons]); intro Z hZ; simp only [sel, List.getElem?_toArray, List.getElem?_cons_zero, List.getElem?_cons_succ]; go_wp2_with (fail)))
              refine (number_any _ x.f HX.out.f1).mono ?_
              rintro e wq ⟨rfl, hwq⟩
              rw [hwq, hdx]
              clear hwq wq
              go_wp2_with fail
              repeat' (first | (refine hZ _ _ ?_; clear hZ) | (refine hZ _ ?_; clear hZ) | (refine hZ ?_; clear hZ) | rw [again_nil] | rw [walk_fin] | ((first | rw [walk_take] | rw [walk_run] | rw [again_cons]); intro Z hZ; simp only [sel, List.getElem?_toArray, List.getElem?_cons_zero, List.getElem?_cons_succ]; go_wp2_with (fail)))
              refine (number_any _ y.f HY.out.f1).mono ?_
              rintro e wq ⟨rfl, hwq⟩
              rw [hwq, hdy]
              clear hwq wq
              go_wp2_with fail
              repeat' (first | (refine hZ _ _ ?_; clear hZ) | (refine hZ _ ?_; clear hZ) | (refine hZ ?_; clear hZ) | rw [again_nil] | rw [walk_fin] | ((first | rw [walk_take] | rw [walk_run] | rw [again_cons]); intro Z hZ; simp only [sel, List.getElem?_toArray, List.getElem?_cons_zero, List.getElem?_cons_succ]; go_wp2_with (fail)))
              refine (number_any _ x.f HX.out.f1).mono ?_
              rintro e wq ⟨rfl, hwq⟩
              rw [hwq, hdx]
              clear hwq wq
              go_wp2_with fail
              repeat' (first | (refine hZ _ _ ?_; clear hZ) | (refine hZ _ ?_; clear hZ) | (refine hZ ?_; clear hZ) | rw [again_nil] | rw [walk_fin] | ((first | rw [walk_take] | rw [walk_run] | rw [again_cons]); intro Z hZ; simp only [sel, List.getElem?_toArray, List.getElem?_cons_zero, List.getElem?_cons_succ]; go_wp2_with (fail)))
              go_wp2_with fail
              go_ret
              exact ⟨by rw [HV.out]; rfl, HB.out.drewR⟩
            | gt =>
              rw [hcc] at ho
              clear e1 e2 e3 nx ny hf hne hc hcc
              refine wp_region_plan (.take 0 (.take 1 (.take 2 (.take 3 (.take 4 (.take 5 (.take 6 (.take 7 (.take 8 (.take 9 (.take 10 (.take 11 (.take 12 (.take 13 (.take 14 (.take 15 (.take 16 (.take 17 (.take 18 (.take 19 (.take 20 (.take 21 (.take 23 (.take 24 (.run 22 [23, 24] (.run 25 [] (.take 26 (.take 27 (.take 28 (.take 29 (.run 30 [] (.take 31 (.take 32 (.take 33 (.take 34 (.take 35 (.take 36 (.take 37 (.take 38 (.take 39 (.take 40 (.take 42 (.take 43 (.run 41 [42, 43] (.run 44 [] (.take 45 (.take 46 (.take 47 (.take 48 (.take 49 (.take 50 .fin))))))))))))))))))))))))))))))))))))))))))))))))))) (by kernel_rfl) (by kernel_rfl) (by kernel_rfl) (by kernel_rfl) ?_
              repeat' (first | (refine hZ _ _ ?_; clear hZ) | (refine hZ _ ?_; clear hZ) | (refine hZ ?_; clear hZ) | rw [again_nil] | rw [walk_fin] | ((first | rw [walk_take] | rw [walk_run] | rw [again_cons]); intro Z hZ; simp only [sel, List.getElem?_toArray, List.getElem?_cons_zero, List.getElem?_cons_succ]; go_wp2_with (fail)))
              refine (number_any _ x.f HX.out.f1).mono ?_
              rintro e wq ⟨rfl, hwq⟩
              rw [hwq, hdx]
              clear hwq wq
              go_wp2_with fail
              repeat' (first | (refine hZ _ _ ?_; clear hZ) | (refine hZ _ ?_; clear hZ) | (refine hZ ?_; clear hZ) | rw [again_nil] | rw [walk_fin] | ((first | rw [walk_take] | rw [walk_run] | rw [again_cons]); intro Z hZ; simp only [sel, List.getElem?_toArray, List.getElem?_cons_zero, List.getElem?_cons_succ]; go_wp2_with (fail)))
              refine (number_any _ y.f HY.out.f1).mono ?_
              rintro e wq ⟨rfl, hwq⟩
              rw [hwq, hdy]
              clear hwq wq
              go_wp2_with fail
              repeat' (first | (refine hZ _ _ ?_; clear hZ) | (refine hZ _ ?_; clear hZ) | (refine hZ ?_; clear hZ) | rw [again_nil] | rw [walk_fin] | ((first | rw [walk_take] | rw [walk_run] | rw [again_cons]); intro Z hZ; simp only [sel, List.getElem?_toArray, List.getElem?_cons_zero, List.getElem?_cons_succ]; go_wp2_with (fail)))
              refine (number_any _ x.f HX.out.f1).mono ?_
              rintro e wq ⟨rfl, hwq⟩
              rw [hwq, hdx]
              clear hwq wq
              go_wp2_with fail
              repeat' (first | (refine hZ _ _ ?_; clear hZ) | (refine hZ _ ?_; clear hZ) | (refine hZ ?_; clear hZ) | rw [again_nil] | rw [walk_fin] | ((first | rw [walk_take] | rw [walk_run] | rw [again_cons]); intro Z hZ; simp only [sel, List.getElem?_toArray, List.getElem?_cons_zero, List.getElem?_cons_succ]; go_wp2_with (fail)))
              go_wp2_with fail
              go_ret
              exact ⟨by rw [HV.out]; rfl, HB.out.drewR⟩
      · have HV : Hid (decide (eqV x y) = false) := decide_eq_false fun h => e3 h.2.2.1
        have hss : (x.s == y.s) = false := by simpa using e3
        clear e1 e2
        refine wp_region_plan (.take 0 (.take 1 (.take 2 (.take 3 (.take 4 (.take 5 (.take 6 (.take 7 (.take 8 (.take 9 (.take 10 (.take 11 (.take 12 (.take 13 (.take 14 (.take 15 (.take 16 (.take 17 (.take 18 (.take 19 (.take 20 (.take 21 (.take 23 (.take 24 (.run 22 [23, 24] (.run 25 [] (.take 26 (.take 27 (.take 28 (.take 29 (.run 30 [] (.take 31 (.take 32 (.take 33 (.take 34 (.take 35 (.take 36 (.take 37 (.take 38 (.take 39 (.take 40 (.take 42 (.take 43 (.run 41 [42, 43] (.run 44 [] (.take 45 (.take 46 (.take 47 (.take 48 (.take 49 (.take 50 .fin))))))))))))))))))))))))))))))))))))))))))))))))))) (by kernel_rfl) (by kernel_rfl) (by kernel_rfl) (by kernel_rfl) ?_
        repeat' (first | (refine hZ _ _ ?_; clear hZ) | (refine hZ _ ?_; clear hZ) | (refine hZ ?_; clear hZ) | rw [again_nil] | rw [walk_fin] | ((first | rw [walk_take] | rw [walk_run] | rw [again_cons]); intro Z hZ; simp only [sel, List.getElem?_toArray, List.getElem?_cons_zero, List.getElem?_cons_succ]; go_wp2_with (fail)))
        go_wp2_with fail
        go_ret
        exact ⟨by rw [HV.out]; rfl, HB.out.drewR⟩
    · have HV : Hid (decide (eqV x y) = false) := decide_eq_false fun h => e2 h.2.1
      clear e1
      refine wp_region_plan (.take 0 (.take 1 (.take 2 (.take 3 (.take 4 (.take 5 (.take 6 (.take 7 (.take 8 (.take 9 (.take 10 (.take 11 (.take 12 (.take 13 (.take 14 (.take 15 (.take 16 (.take 17 (.take 18 (.take 19 (.take 20 (.take 21 (.take 23 (.take 24 (.run 22 [23, 24] (.run 25 [] (.take 26 (.take 27 (.take 28 (.take 29 (.run 30 [] (.take 31 (.take 32 (.take 33 (.take 34 (.take 35 (.take 36 (.take 37 (.take 38 (.take 39 (.take 40 (.take 42 (.take 43 (.run 41 [42, 43] (.run 44 [] (.take 45 (.take 46 (.take 47 (.take 48 (.take 49 (.take 50 .fin))))))))))))))))))))))))))))))))))))))))))))))))))) (by kernel_rfl) (by kernel_rfl) (by kernel_rfl) (by kernel_rfl) ?_
      repeat' (first | (refine hZ _ _ ?_; clear hZ) | (refine hZ _ ?_; clear hZ) | (refine hZ ?_; clear hZ) | rw [again_nil] | rw [walk_fin] | ((first | rw [walk_take] | rw [walk_run] | rw [again_cons]); intro Z hZ; simp only [sel, List.getElem?_toArray, List.getElem?_cons_zero, List.getElem?_cons_succ]; go_wp2_with (fail)))
      go_wp2_with fail
      go_ret
      exact ⟨by rw [HV.out]; rfl, HB.out.drewR⟩
  · have HV : Hid (decide (eqV x y) = false) := decide_eq_false fun h => e1 h.1
    refine wp_region_plan (.take 0 (.take 1 (.take 2 (.take 3 (.take 4 (.take 5 (.take 6 (.take 7 (.take 8 (.take 9 (.take 10 (.take 11 (.take 12 (.take 13 (.take 14 (.take 15 (.take 16 (.take 17 (.take 18 (.take 19 (.take 20 (.take 21 (.take 23 (.take 24 (.run 22 [23, 24] (.run 25 [] (.take 26 (.take 27 (.take 28 (.take 29 (.run 30 [] (.take 31 (.take 32 (.take 33 (.take 34 (.take 35 (.take 36 (.take 37 (.take 38 (.take 39 (.take 40 (.take 42 (.take 43 (.run 41 [42, 43] (.run 44 [] (.take 45 (.take 46 (.take 47 (.take 48 (.take 49 (.take 50 .fin))))))))))))))))))))))))))))))))))))))))))))))))))) (by kernel_rfl) (by kernel_rfl) (by kernel_rfl) (by kernel_rfl) ?_
    repeat' (first | (refine hZ _ _ ?_; clear hZ) | (refine hZ _ ?_; clear hZ) | (refine hZ ?_; clear hZ) | rw [again_nil] | rw [walk_fin] | ((first | rw [walk_take] | rw [walk_run] | rw [again_cons]); intro Z hZ; simp only [sel, List.getElem?_toArray, List.getElem?_cons_zero, List.getElem?_cons_succ]; go_wp2_with (fail)))
    go_wp2_with fail
    go_ret
    exact ⟨by rw [HV.out]; rfl, HB.out.drewR⟩
end Go.Proofs.Ytknfnhmkiooifaa
end

section
/-
  The walk of EvalNodes: what any node comes to in any row, and whether some hold.
-/
namespace Go.Proofs.Ytknfnhmkiooifaa
set_option linter.unusedSimpArgs false
set_option linter.unusedVariables false
open Go.RowKit

namespace Ev
theorem clean_is (v : Va) : Key.Clean (Key.clean v) := by
  unfold Key.clean Key.cleanF
  by_cases h1 : v.k = 1
  · rw [if_pos h1]; constructor <;> simp
  rw [if_neg h1]
  by_cases h2 : v.k = 2
  · rw [if_pos h2]; constructor <;> simp
    unfold Key.real1
    split
    · intro h; omega
    · split <;> omega
  rw [if_neg h2]
  by_cases h3 : v.k = 3
  · rw [if_pos h3]; constructor <;> simp
  rw [if_neg h3]
  by_cases h4 : v.k = 4
  · rw [if_pos h4]; constructor <;> simp
    exact Decidable.em _
  rw [if_neg h4]; constructor <;> simp [Key.nul]
theorem eqV_clean {v : Va} (h : Key.Clean v) : eqV (Key.clean v) v := by
  unfold Key.clean Key.cleanF
  by_cases h1 : v.k = 1
  · rw [if_pos h1]
    have e1 := h.ff (by omega)
    have e2 := h.ss (by omega)
    exact ⟨h1.symm, rfl, e2.symm, by rw [e1], .inr e1.symm⟩
  rw [if_neg h1]
  by_cases h2 : v.k = 2
  · rw [if_pos h2]
    have e1 := h.nn (by omega) (by omega)
    have e2 := h.ss (by omega)
    refine ⟨h2.symm, e1.symm, e2.symm, ?_, ?_⟩
    · show fnan (Key.real1 v.f) ↔ fnan v.f
      unfold Key.real1
      by_cases hn : fnan v.f
      · rw [if_pos hn]; simp only [hn, iff_true]; decide
      · rw [if_neg hn]
        split
        · next hz => simp only [hn, iff_false]; decide
        · rfl
    · show fnan (Key.real1 v.f) ∨ Key.real1 v.f = v.f
      unfold Key.real1
      by_cases hn : fnan v.f
      · rw [if_pos hn]; left; decide
      · rw [if_neg hn]
        split
        · next hz => right; exact (h.zz hz).symm
        · right; rfl
  rw [if_neg h2]
  by_cases h3 : v.k = 3
  · rw [if_pos h3]
    have e1 := h.ff (by omega)
    have e2 := h.nn (by omega) (by omega)
    exact ⟨h3.symm, e2.symm, rfl, by rw [e1], .inr e1.symm⟩
  rw [if_neg h3]
  by_cases h4 : v.k = 4
  · rw [if_pos h4]
    have e1 := h.ff (by omega)
    have e2 := h.ss (by omega)
    refine ⟨h4.symm, ?_, e2.symm, by rw [e1], .inr e1.symm⟩
    rcases h.bb h4 with e | e <;> rw [e] <;> rfl
  rw [if_neg h4]
  have h0 : v.k = 0 := by have := h.kind; omega
  have e1 := h.ff (by omega)
  have e2 := h.ss (by omega)
  have e3 := h.nn (by omega) (by omega)
  exact ⟨h0.symm, e3.symm, e2.symm, by rw [e1]; rfl, .inr e1.symm⟩
theorem Dv.eqV {s v : Va} (h : Dv s v) : eqV s v := by
  have := eqV_clean h.cl
  rw [h.eq] at this
  exact this
end Ev
set_option maxRecDepth 20000 in
set_option maxHeartbeats 8000000 in
theorem evalNodes_walk (w : World) (v0 : Value) (h0 : NodesW w v0) (v1 : Value) (h1 : RowW w v1) :
    Calls Try.prog 8 #[v0, v1] w fun e w' => e = .returned (.bool true) ∧ Below w.heap.size w w' := by
  obtain ⟨A, c, L, rfl, hl, hin, hlc, hcm⟩ := h0
  obtain ⟨r, rfl, hr⟩ := h1
  have HL := Lib.hid hl
  have HIN := Lib.hid hin
  have HR := Lib.hid hr
  have HRO : Hid (RowOk w r.a r.l) := hr.rok
  have hlen : L.length ≤ 9223372036854775807 := by unfold maxLen at hcm; omega
  clear hl hin hr
  go_enter Try.func8, Try.ntmps8
  go_wp2_with fail
  refine (elives_any w).mono ?_
  rintro e W1 ⟨rfl, hB⟩
  have HB1 := Lib.hid hB
  clear hB
  go_wp2_with fail
  refine (few_any W1 A c L (HL.out.below HB1.out) (fun n hn => node_below (HIN.out n hn) HB1.out) hlc hcm).mono ?_
  rintro e W2 ⟨b, rfl, hfew, hB⟩
  have HB2 := Lib.hid (HB1.out.then hB)
  have HFEW := Lib.hid hfew
  clear hB hfew
  cases b with
  | false =>
    go_wp2_with fail
    refine (elives_any W2).mono ?_
    rintro e W3 ⟨rfl, hB⟩
    have HB3 := Lib.hid (HB2.out.then hB)
    clear hB
    go_wp2_with fail
    go_ret
    exact ⟨rfl, HB3.out⟩
  | true =>
    unfold Rw.v
    go_wp2_with fail
    generalize hW3 : World.alloc W2 (.cells _ _) = W3
    obtain ⟨ba3, hz3, hB3⟩ := fresh1 hW3
    clear hW3
    have HS := Lib.hid (small_any W3 (some ⟨W2.heap.size, 0, none⟩) 1 [r] (Blk.row eRw ba3 [r] rfl (by simp [maxLen])) (by
      intro x hx
      rw [List.mem_singleton.1 hx]; exact (HR.out.below HB2.out).below hB3) (Nat.le_refl _) (by simp [maxLen]))
    have HB3 := Lib.hid (HB2.out.then hB3)
    clear ba3 hz3 hB3
    refine (show Calls _ _ _ _ _ from HS.out).mono ?_
    rintro e W4 ⟨b, rfl, hsm, hB4⟩
    have HB4 := Lib.hid (HB3.out.then hB4)
    clear hB4 hsm HS
    cases b with
    | false =>
      go_wp2_with fail
      refine (elives_any W4).mono ?_
      rintro e W5 ⟨rfl, hB⟩
      have HB5 := Lib.hid (HB4.out.then hB)
      clear hB
      go_wp2_with fail
      go_ret
      exact ⟨rfl, HB5.out⟩
    | true =>
      go_wp2_with fail
      go_loopw [23] (fun iv wr => ∃ i : Nat, i ≤ L.length ∧ iv = .int .i64 (i : Int) ∧ Hid (Below w.heap.size w wr)) (fun iv _ => L.length - (intOf iv).toNat)
      case atStart => exact ⟨0, Nat.zero_le _, by go_num, HB4.out⟩
      case round =>
        obtain ⟨i, hi, rfl, HJ⟩ := hrel
        by_cases hlt : i < L.length
        · have hii : (i : Int) < (L.length : Int) := by omega
          obtain ⟨bb, oo, rfl, -⟩ := nd_at HL.out hlt
          have HIW : Hid (ERow eNd wr (some ⟨bb, oo, none⟩) L) := HL.out.below HJ.out
          have HNI := Lib.hid (HIN.out L[i] (List.getElem_mem hlt))
          go_upto_region 6 with (first | (refine wpList_load_nd_at rfl (.tmp 25) rfl HIW.out hlt rfl ?_) | (refine wpList_alloc_nd rfl rfl ?_; intro W6 hb6 hz6 hB6) | (refine wpList_store_nd rfl rfl (.tmp 6) (.tmp 26) rfl wr.heap.size rfl L[i] rfl hb6 ?_; intro W7 hb7 hg7))
          have HB7 := Lib.hid (below_of_grown (HJ.out.then hB6) hg7 HJ.out.size (Nat.le_trans HJ.out.size hB6.size))
          clear hb6 hz6 hB6 hg7 HIW
          generalize wr.heap.size = g7 at hb7 ⊢
          generalize L[i] = n at hb7 HNI ⊢
          have HSO : Hid ((Ev.eval r.l n).ok) := Ev.eval_ok HRO.out.ok HNI.out
          have HSC : Hid (Key.Clean (Ev.eval r.l n)) := by rw [← Ev.clean_eval]; exact Ev.clean_is _
          have HE := Lib.hid (eval_any w r.a r.c r.l HRO.out.r HRO.out.ok HRO.out.len n HNI.out)
          have HD := Lib.hid (reval_any w r.a r.c r.l HRO.out.r HRO.out.ok HRO.out.len n HNI.out)
          simp only [Act.put, List.setIfInBounds_toArray, List.set_cons_zero, List.set_cons_succ]
          have hb7' := hb7.drew
          refine wp_region_plan (.take 0 (.take 1 (.take 3 (.take 4 (.run 2 [3, 4] (.run 5 [] (.run 6 [] (.take 7 .fin)))))))) (by kernel_rfl) (by kernel_rfl) (by kernel_rfl) (by kernel_rfl) ?_
          repeat' (first | (refine hZ _ _ ?_; clear hZ) | (refine hZ _ ?_; clear hZ) | (refine hZ ?_; clear hZ) | rw [again_nil] | rw [walk_fin] | ((first | rw [walk_take] | rw [walk_run] | rw [again_cons]); intro Z hZ; simp only [sel, List.getElem?_toArray, List.getElem?_cons_zero, List.getElem?_cons_succ]; go_wp2_with (refine wpList_load_nd rfl (.tmp 6) rfl g7 rfl hb7' ?_)))
          refine (HE.out _ HB7.out.drewR).mono ?_
          rintro e W8 ⟨rfl, hB8⟩
          have hb8 := hb7'.below hB8
          have HB8 := Lib.hid (HB7.out.drewR.trans (hB8.mono HB7.out.size))
          clear hB8 hb7 hb7'
          go_wp2_with fail
          repeat' (first | (refine hZ _ _ ?_; clear hZ) | (refine hZ _ ?_; clear hZ) | (refine hZ ?_; clear hZ) | rw [again_nil] | rw [walk_fin] | ((first | rw [walk_take] | rw [walk_run] | rw [again_cons]); intro Z hZ; simp only [sel, List.getElem?_toArray, List.getElem?_cons_zero, List.getElem?_cons_succ]; go_wp2_with (refine wpList_load_nd rfl (.tmp 6) rfl g7 rfl hb8 ?_)))
          refine (HD.out _ HB8.out).mono ?_
          rintro e W9 ⟨d, rfl, hd, hB9⟩
          have hb9 := hb8.below hB9
          have HB9 := Lib.hid (HB8.out.then hB9)
          have HEQ := Lib.hid (Ev.Dv.eqV hd)
          have HDO : Hid (d.ok ∧ Key.Clean d) := ⟨hd.ok, hd.cl⟩
          clear hB9 hb8 hd
          go_wp2_with fail
          repeat' (first | (refine hZ _ _ ?_; clear hZ) | (refine hZ _ ?_; clear hZ) | (refine hZ ?_; clear hZ) | rw [again_nil] | rw [walk_fin] | ((first | rw [walk_take] | rw [walk_run] | rw [again_cons]); intro Z hZ; simp only [sel, List.getElem?_toArray, List.getElem?_cons_zero, List.getElem?_cons_succ]; go_wp2_with (refine wpList_load_nd rfl (.tmp 6) rfl g7 rfl hb9 ?_)))
          refine (vexact_any _ _ d HSO.out HDO.out.1 HSC.out HDO.out.2).mono ?_
          rintro e W10 ⟨rfl, hB10⟩
          rw [decide_eq_true HEQ.out]
          have hb10 := hb9.below hB10
          have HB10 := Lib.hid (HB9.out.then hB10)
          clear hB10 hb9
          go_wp2_with fail
          repeat' (first | (refine hZ _ _ ?_; clear hZ) | (refine hZ _ ?_; clear hZ) | (refine hZ ?_; clear hZ) | rw [again_nil] | rw [walk_fin] | ((first | rw [walk_take] | rw [walk_run] | rw [again_cons]); intro Z hZ; simp only [sel, List.getElem?_toArray, List.getElem?_cons_zero, List.getElem?_cons_succ]; go_wp2_with (refine wpList_load_nd rfl (.tmp 6) rfl g7 rfl hb10 ?_)))
          go_wp2_with fail
          go_roundw
          case rel => exact ⟨i + 1, by omega, by go_num, HB10.out⟩
          case measure => simp [intOf]; omega
        · have hii : ¬ (i : Int) < (L.length : Int) := by omega
          go_wp2_with fail
          refine (pholds_any wr A r.a c r.c L r.l (HL.out.below HJ.out) (fun n hn => node_below (HIN.out n hn) HJ.out) hlen (HRO.out.below HJ.out)).mono ?_
          rintro e W5 ⟨rfl, hB⟩
          have HB5 := Lib.hid (HJ.out.then hB)
          clear hB
          go_wp2_with fail
          refine (rholds_any W5 A r.a c r.c L r.l (HL.out.below HB5.out) (fun n hn => node_below (HIN.out n hn) HB5.out) hlen (HRO.out.below HB5.out)).mono ?_
          rintro e W6 ⟨rfl, hB⟩
          have HB6 := Lib.hid (HB5.out.then hB)
          clear hB
          go_wp2_with fail
          go_ret
          exact ⟨by simp, HB6.out⟩
end Go.Proofs.Ytknfnhmkiooifaa
end

