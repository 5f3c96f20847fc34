/-
  Texts of a proof, one behind the other (each with its own head).
-/
import Derived.Test.YtpahkaffknnjhaaGreatDoorPartEfbnookpf
import Derived.Deep.AppendSrc
import Derived.ArgAppend
import Derived.Test.YtpahkaffknnjhaaGreatDoorProg
import Derived.Shelf.SlLaysF0
import Derived.Shelf.SlGeneric
import Derived.Shelf.SlSortCmp.WholeK
import Derived.Shelf.SlSortCmp.NoneTotal
import Derived.Shelf.SlLaysF
import Derived.Shelf.SlSortCmp.Whole1
section
namespace Go.Proofs.YtpahkaffknnjhaaGreatDoor
set_option linter.unusedSimpArgs false
set_option linter.unusedVariables false
open Go.RowKit
def SymV (g q n c : Nat) (cmp : Rw → Rw → Int) (L : List Rw) (sp : List Value) (N : Nat) : Prop :=
  ∀ (w : World) (P X Y Q : List Rw) (a m b : Nat), X.length + Y.length ≤ N → 0 < X.length → 0 < Y.length → Srt.Sorted cmp X → Srt.Sorted cmp Y → Blk w g 37 ((P ++ X ++ Y ++ Q).map Rw.v ++ sp) → CmpsV w g q cmp L → (∀ z ∈ P ++ X ++ Y ++ Q, z ∈ L) → (P ++ X ++ Y ++ Q).length = n → P.length = a → a + X.length = m → m + Y.length = b →
    Calls Tryz.prog 173 #[.slice (some ⟨g, 0, none⟩) n c, .int .i64 (a : Int), .int .i64 (m : Int), .int .i64 (b : Int), .func (.func 117) #[] #[.pointer (some ⟨q, 0, none⟩)]] w
      (SortsV w g ((P ++ Srt.mg cmp X Y ++ Q).map Rw.v ++ sp))
theorem CmpsV.grown {w W : World} {g q : Nat} {cmp : Rw → Rw → Int} {L : List Rw} (h : CmpsV w g q cmp L) (hw : w.grownBy W (some g)) : CmpsV W g q cmp L := fun V hV => h V (grown_trans hw hV)
theorem SymV.at {g q n c : Nat} {cmp : Rw → Rw → Int} {L : List Rw} {sp : List Value} {N : Nat} (h : SymV g q n c cmp L sp N) {w W : World} (hw : w.grownBy W (some g)) {P X Y Q R R' : List Rw} {a m b : Nat} (h1 : X.length + Y.length ≤ N) (h2 : 0 < X.length) (h3 : 0 < Y.length) (h4 : Srt.Sorted cmp X) (h5 : Srt.Sorted cmp Y) (h6 : Blk W g 37 (R.map Rw.v ++ sp)) (h7 : CmpsV w g q cmp L) (h8 : ∀ z ∈ R, z ∈ L) (h9 : R.length = n) (h10 : P.length = a) (h11 : a + X.length = m) (h12 : m + Y.length = b) (hR : P ++ X ++ Y ++ Q = R) (hR' : P ++ Srt.mg cmp X Y ++ Q = R') :
    Calls Tryz.prog 173 #[.slice (some ⟨g, 0, none⟩) n c, .int .i64 (a : Int), .int .i64 (m : Int), .int .i64 (b : Int), .func (.func 117) #[] #[.pointer (some ⟨q, 0, none⟩)]] W
      (SortsV w g (R'.map Rw.v ++ sp)) := by
  subst hR hR'
  exact (h W P X Y Q a m b h1 h2 h3 h4 h5 h6 (h7.grown hw) h8 h9 h10 h11 h12).mono fun e W' h => ⟨h.1, h.2.1, grown_trans hw h.2.2⟩
theorem rotV_at {w W : World} {g q c n a m b : Nat} {P X Y Q R R' : List Rw} {sp : List Value} (hX : 0 < X.length) (hY : 0 < Y.length) (hw : w.grownBy W (some g)) (hb : Blk W g 37 (R.map Rw.v ++ sp)) (hn : R.length = n) (hlen : n ≤ 1000000) (hcap : n ≤ c) (ha : P.length = a) (hm : a + X.length = m) (hb2 : m + Y.length = b) (hR : P ++ X ++ Y ++ Q = R) (hR' : P ++ Y ++ X ++ Q = R') :
    Calls Tryz.prog 184 #[.slice (some ⟨g, 0, none⟩) n c, .int .i64 (a : Int), .int .i64 (m : Int), .int .i64 (b : Int), .func (.func 117) #[] #[.pointer (some ⟨q, 0, none⟩)]] W
      (SortsV w g (R'.map Rw.v ++ sp)) := by
  subst hR hR' hn ha hm hb2
  exact (rotV_any W g q c P X Y Q sp hX hY hb hlen hcap).mono fun e W' h => ⟨h.1, h.2.1, grown_trans hw h.2.2⟩
set_option maxRecDepth 100000 in
set_option maxHeartbeats 8000000 in
theorem symNV_any (g q n c : Nat) (cmp : Rw → Rw → Int) (ho : Srt.Ord cmp) (L : List Rw) (sp : List Value) (N : Nat) (hI : SymV g q n c cmp L sp N) (hlen : n ≤ 1000000) (hcap : n ≤ c)
    (w : World) (P X Y Q : List Rw) (a m b : Nat) (hN : X.length + Y.length ≤ N + 1) (hX2 : 2 ≤ X.length) (hY2 : 2 ≤ Y.length) (hX : Srt.Sorted cmp X) (hY : Srt.Sorted cmp Y) (hb : Blk w g 37 ((P ++ X ++ Y ++ Q).map Rw.v ++ sp)) (hc : CmpsV w g q cmp L) (hL : ∀ z ∈ P ++ X ++ Y ++ Q, z ∈ L) (hn : (P ++ X ++ Y ++ Q).length = n) (hal : P.length = a) (ham : a + X.length = m) (hmb : m + Y.length = b) :
    Calls Tryz.prog 173 #[.slice (some ⟨g, 0, none⟩) n c, .int .i64 (a : Int), .int .i64 (m : Int), .int .i64 (b : Int), .func (.func 117) #[] #[.pointer (some ⟨q, 0, none⟩)]] w
      (SortsV w g ((P ++ Srt.mg cmp X Y ++ Q).map Rw.v ++ sp)) := by
  have HI := Lib.hid hI
  have HO := Lib.hid ho
  have HC := Lib.hid hc
  have HBK := Lib.hid hb
  have HXS := Lib.hid hX
  have HYS := Lib.hid hY
  have HLM := Lib.hid hL
  have HAL := Lib.hid hal
  have HAM := Lib.hid ham
  have HMB := Lib.hid hmb
  have HNN := Lib.hid hN
  obtain ⟨d1, hd1⟩ : ∃ d1 : Int, (m : Int) - (a : Int) = d1 := ⟨_, rfl⟩
  have h1 : (d1 == 1) = false := by simp; omega
  obtain ⟨d2, hd2⟩ : ∃ d2 : Int, (b : Int) - (m : Int) = d2 := ⟨_, rfl⟩
  have h0 : (d2 == 1) = false := by simp; omega
  have h2 : a + 2 ≤ m := by omega
  have h3 : m + 2 ≤ b := by omega
  have h4 : b ≤ n := by rw [← hn]; simp; omega
  obtain ⟨d, hd⟩ : ∃ d : Nat, ((a : Int) + (b : Int)) / 2 = (d : Int) := ⟨(a + b) / 2, by omega⟩
  have h5 : 2 * d ≤ a + b := by omega
  have h6 : a + b ≤ 2 * d + 1 := by omega
  obtain ⟨cs, hcs⟩ : ∃ cs, (P ++ Srt.mg cmp X Y ++ Q).map Rw.v ++ sp = cs := ⟨_, rfl⟩
  rw [hcs]
  have HCS := Lib.hid hcs
  obtain ⟨D, hD⟩ : ∃ D, P ++ X ++ Y ++ Q = D := ⟨_, rfl⟩
  have HD := Lib.hid hD
  rw [hD] at hn HBK HLM
  have HDN := Lib.hid hn
  clear hb hc ho hX hY hL hn hcs hD hal ham hmb hX2 hY2 hI hN
  go_enter Tryz.func173, Tryz.ntmps173
  go_upto_if 140 with fail
  clear hd1 hd2 h1 h0 hd
  go_cut [20, 21] from 140 to 146 (fun v20 v21 wx => ∃ s0 r0 : Nat, v20 = .int .i64 (s0 : Int) ∧ v21 = .int .i64 (r0 : Int) ∧ a ≤ s0 ∧ s0 ≤ r0 ∧ r0 ≤ m ∧ r0 ≤ d ∧ d + m ≤ b + s0 ∧ (s0 = a ∨ d + m = b + s0) ∧ (r0 = m ∨ r0 = d) ∧ w = wx)
  case first =>
    by_cases hmd : d < m
    · have e1 : (d : Int) < (m : Int) := by omega
      obtain ⟨s0, hs0⟩ : ∃ s0 : Nat, (d : Int) + (m : Int) - (b : Int) = (s0 : Int) := ⟨d + m - b, by omega⟩
      have e2 : a ≤ s0 := by omega
      have e3 : s0 ≤ d := by omega
      have e4 : d + m = b + s0 := by omega
      go_wp2_with fail
      go_meet
      case rel => exact ⟨s0, d, rfl, rfl, e2, e3, by omega, Nat.le_refl _, by omega, .inr e4, .inr rfl, rfl⟩
    · have e1 : ¬ (d : Int) < (m : Int) := by omega
      go_wp2_with fail
      go_meet
      case rel => exact ⟨a, m, rfl, rfl, Nat.le_refl _, by omega, Nat.le_refl _, by omega, by omega, .inl rfl, .inl rfl, rfl⟩
  case rest =>
    obtain ⟨s0, r0, rfl, rfl, k1, k2, k3, k4, k5, k6, k7, rfl⟩ := hcut
    obtain ⟨p, hp⟩ : ∃ p : Nat, (d : Int) + (m : Int) - 1 = (p : Int) := ⟨d + m - 1, by omega⟩
    have hpm : p + 1 = d + m := by omega
    have HPM := Lib.hid hpm
    go_wp2_with fail
    clear hp hpm
    go_loopw [20, 21] (fun iv jv wr => ∃ i j : Nat, s0 ≤ i ∧ i ≤ j ∧ j ≤ r0 ∧ iv = .int .i64 (i : Int) ∧ jv = .int .i64 (j : Int) ∧ Hid ((i = s0 ∨ 0 ≤ cmp (Srt.nth D (p + 1 - i)) (Srt.nth D (i - 1))) ∧ (j = r0 ∨ cmp (Srt.nth D (p - j)) (Srt.nth D j) < 0) ∧ Blk wr g 37 (D.map Rw.v ++ sp) ∧ w.grownBy wr (some g))) (fun iv jv _ => (intOf jv).toNat - (intOf iv).toNat)
    case atStart => exact ⟨s0, r0, Nat.le_refl _, k2, Nat.le_refl _, by go_num, by go_num, .inl rfl, .inl rfl, HBK.out, grown_refl _ _⟩
    case round =>
      obtain ⟨i, j, hai, hij, hjm, rfl, rfl, HJ⟩ := hrel
      clear HBK
      by_cases hlt : i < j
      · have hii : (i : Int) < (j : Int) := by omega
        obtain ⟨k, hk⟩ : ∃ k : Nat, ((i : Int) + (j : Int)) / 2 = (k : Int) := ⟨(i + j) / 2, by omega⟩
        have hk1 : i ≤ k := by omega
        have hk2 : k < j := by omega
        have hkn : k < n := by omega
        obtain ⟨u, hu⟩ : ∃ u : Nat, (p : Int) - (k : Int) = (u : Int) := ⟨p - k, by have := HPM.out; omega⟩
        have hun : u < n := by have := HPM.out; omega
        have huk : p - k = u := by omega
        have HUK := Lib.hid huk
        have hb0 := HJ.out.2.2.1.drew
        have hg0 := Lib.hid (grown_drew HJ.out.2.2.2)
        obtain ⟨q0, q1⟩ := blk_nth hb0 (j := k) (by rw [HDN.out]; exact hkn)
        obtain ⟨q2, q3⟩ := blk_nth hb0 (j := u) (by rw [HDN.out]; exact hun)
        have HDK : Hid (Srt.nth D k ∈ D) := Srt.nth_mem (by rw [HDN.out]; exact hkn)
        have HDU : Hid (Srt.nth D u ∈ D) := Srt.nth_mem (by rw [HDN.out]; exact hun)
        have HB0 := Lib.hid hb0
        clear hb0 huk
        go_upto_region 35 with fail
        clear hk
        generalize hx : Srt.nth D k = x at HDK q0 ⊢
        generalize hy : Srt.nth D u = y at HDU q2 ⊢
        have HX := Lib.hid hx
        have HY := Lib.hid hy
        clear hx hy
        refine wp_region_plan (.take 0 (.take 1 (.take 2 (.take 3 (.take 4 (.take 5 (.take 6 (.take 7 (.take 8 (.take 9 (.take 10 (.run 11 [] (.take 12 (.take 13 .fin)))))))))))))) (by kernel_rfl) (by kernel_rfl) (by kernel_rfl) (by kernel_rfl) ?_
        repeat' (first | (refine hZ _ _ ?_; clear hZ) | (refine hZ _ ?_; clear hZ) | (refine hZ ?_; clear hZ) | rw [again_nil] | rw [walk_fin] | ((first | rw [walk_take] | rw [walk_run] | rw [again_cons]); intro Z hZ; simp only [sel, List.getElem?_toArray, List.getElem?_cons_zero, List.getElem?_cons_succ]; go_wp2_with (fail)))
        refine (HC.out _ hg0.out y (HLM.out _ HDU.out) x (HLM.out _ HDK.out)).mono ?_
        rintro e W ⟨rfl, hB⟩
        have HG := Lib.hid (grown_belowR hg0.out hB)
        have HB := Lib.hid (HB0.out.below hB)
        clear hB q0 q1 q2 q3 hu
        by_cases hyx : cmp y x < 0
        · have HXT := Lib.hid hyx
          obtain ⟨z, hz⟩ : ∃ z, cmp y x = z := ⟨_, rfl⟩
          rw [hz] at hyx ⊢
          clear hz
          go_wp2_with fail
          repeat' (first | (refine hZ _ _ ?_; clear hZ) | (refine hZ _ ?_; clear hZ) | (refine hZ ?_; clear hZ) | rw [again_nil] | rw [walk_fin] | ((first | rw [walk_take] | rw [walk_run] | rw [again_cons]); intro Z hZ; simp only [sel, List.getElem?_toArray, List.getElem?_cons_zero, List.getElem?_cons_succ]; go_wp2_with (fail)))
          go_wp2_with fail
          go_roundw
          case rel => exact ⟨i, k, hai, hk1, by omega, rfl, by go_num, HJ.out.1, .inr (by rw [HUK.out, HY.out, HX.out]; exact HXT.out), HB.out, HG.out⟩
          case measure => simp [intOf]; omega
        · have HXT := Lib.hid hyx
          obtain ⟨z, hz⟩ : ∃ z, cmp y x = z := ⟨_, rfl⟩
          rw [hz] at hyx ⊢
          clear hz
          have hyz : (decide (z < 0)) = false := by simpa using hyx
          go_wp2_with fail
          repeat' (first | (refine hZ _ _ ?_; clear hZ) | (refine hZ _ ?_; clear hZ) | (refine hZ ?_; clear hZ) | rw [again_nil] | rw [walk_fin] | ((first | rw [walk_take] | rw [walk_run] | rw [again_cons]); intro Z hZ; simp only [sel, List.getElem?_toArray, List.getElem?_cons_zero, List.getElem?_cons_succ]; go_wp2_with (fail)))
          go_wp2_with fail
          go_roundw
          case rel => exact ⟨k + 1, j, by omega, by omega, hjm, by go_num, rfl, (.inr (by rw [Nat.add_sub_cancel, Nat.add_sub_add_right, HUK.out, HY.out, HX.out]; have := HXT.out; omega)), HJ.out.2.1, HB.out, HG.out⟩
          case measure => simp [intOf]; omega
      · obtain rfl : i = j := by omega
        have hii : ¬ (i : Int) < (i : Int) := by omega
        obtain ⟨e, he⟩ : ∃ e : Nat, (d : Int) + (m : Int) - (i : Int) = (e : Int) := ⟨d + m - i, by omega⟩
        have he1 : i + e = d + m := by omega
        have HCUT : Hid (∃ X1 X2 Y1 Y2, X = X1 ++ X2 ∧ Y = Y1 ++ Y2 ∧ X1.length = i - a ∧ X2.length = m - i ∧ Y1.length = e - m ∧ Y2.length = b - e ∧ Srt.mg cmp X Y = Srt.mg cmp X1 Y1 ++ Srt.mg cmp X2 Y2) := by
          have hq := HPM.out
          refine Srt.sym_fin HO.out P X Y Q HXS.out HYS.out HAL.out HAM.out HMB.out (by omega) (by omega) (by omega) (by omega) ?_ ?_
          · rw [HD.out]
            rcases HJ.out.2.1 with h | h
            · omega
            · rw [show e - 1 = p - i by omega]; exact .inr (.inr h)
          · rw [HD.out]
            rcases HJ.out.1 with h | h
            · omega
            · rw [show e = p + 1 - i by omega]; exact .inr (.inr (by omega))
        obtain ⟨X1, X2, Y1, Y2, e1, e2, e3, e4, e5, e6, e7⟩ := HCUT.out
        clear HCUT hii
        have HST : Hid (Blk wr g 37 ((P ++ X1 ++ X2 ++ Y1 ++ (Y2 ++ Q)).map Rw.v ++ sp) ∧ w.grownBy wr (some g)) := ⟨by have := HJ.out.2.2.1; rw [← HD.out, e1, e2] at this; simpa using this, HJ.out.2.2.2⟩
        have HL1 : Hid (∀ R : List Rw, R.Perm D → (∀ z ∈ R, z ∈ L) ∧ R.length = n) := fun R hR => ⟨fun z hz => HLM.out z (hR.mem_iff.1 hz), by rw [hR.length_eq, HDN.out]⟩
        have HP1 : Hid ((P ++ X1 ++ X2 ++ Y1 ++ (Y2 ++ Q)) = D) := by show _ = _; rw [← HD.out, e1, e2]; simp
        have HP2 : Hid ((P ++ X1 ++ Y1 ++ X2 ++ (Y2 ++ Q)).Perm D) := by
          rw [← HP1.out]
          simp only [List.append_assoc]
          exact ((List.perm_append_left_iff _).2 ((List.perm_append_left_iff _).2 (List.perm_append_comm_assoc Y1 X2 (Y2 ++ Q))))
        have HP3 : Hid ((P ++ Srt.mg cmp X1 Y1 ++ X2 ++ Y2 ++ Q).Perm D) := by
          refine List.Perm.trans ?_ HP2.out
          simp only [List.append_assoc]
          refine (List.perm_append_left_iff _).2 ?_
          rw [← List.append_assoc X1]
          exact (List.perm_append_right_iff _).2 (Srt.mg_perm cmp _ _)
        have HFI : Hid ((P ++ Srt.mg cmp X1 Y1 ++ Srt.mg cmp X2 Y2 ++ Q).map Rw.v ++ sp = cs) := by show _ = _; rw [← HCS.out, e7]; simp
        have HX1 : Hid (Srt.Sorted cmp X1 ∧ Srt.Sorted cmp X2) := Srt.sorted_part HXS.out e1
        have HY1 : Hid (Srt.Sorted cmp Y1 ∧ Srt.Sorted cmp Y2) := Srt.sorted_part HYS.out e2
        have HPA : Hid ((P ++ X1).length = i) := by show _ = _; rw [List.length_append, HAL.out]; omega
        have HPM2 : Hid ((P ++ Srt.mg cmp X1 Y1).length = d) := by show _ = _; rw [List.length_append, Srt.mg_length, HAL.out]; omega
        have hN1 : (i - a) + (e - m) ≤ N := by have := HNN.out; rw [e1, e2] at this; simp at this; omega
        have hN2 : (m - i) + (b - e) ≤ N := by have := HNN.out; rw [e1, e2] at this; simp at this; omega
        have HE3 := Lib.hid e3
        have HE4 := Lib.hid e4
        have HE5 := Lib.hid e5
        have HE6 := Lib.hid e6
        clear e1 e2 e3 e4 e5 e6 e7 HJ
        go_upto_region 39 with fail
        clear he
        go_cut [185] from 178 to 185 (fun v wx => Hid (v = .bool (decide (i < m ∧ m < e)) ∧ wr = wx))
        case first =>
          by_cases hA : i < m
          · by_cases hB : m < e
            · have c1 : (i : Int) < m := by omega
              have c2 : (m : Int) < e := by omega
              have HAB : Hid (decide (i < m ∧ m < e) = true) := by show _ = _; simp [hA, hB]
              go_wp2_with fail
              go_meet
              case rel => exact ⟨by rw [HAB.out], rfl⟩
            · have c1 : (i : Int) < m := by omega
              have c2 : ¬ (m : Int) < e := by omega
              have HAB : Hid (decide (i < m ∧ m < e) = false) := by show _ = _; simp [hB]
              go_wp2_with fail
              go_meet
              case rel => exact ⟨by rw [HAB.out], rfl⟩
          · have c1 : ¬ (i : Int) < m := by omega
            have HAB : Hid (decide (i < m ∧ m < e) = false) := by show _ = _; simp [hA]
            go_wp2_with fail
            go_meet
            case rel => exact ⟨by rw [HAB.out], rfl⟩
        case rest =>
          obtain ⟨hv, rfl⟩ := hcut.out
          subst hv
          clear hcut
          go_upto_if 185 with fail
          go_cut [] from 185 to 191 (fun wx => Hid (Blk wx g 37 ((P ++ X1 ++ Y1 ++ X2 ++ (Y2 ++ Q)).map Rw.v ++ sp) ∧ w.grownBy wx (some g)))
          case first =>
            by_cases hAB : i < m ∧ m < e
            · have HR := Lib.hid (rotV_at (w := w) (q := q) (c := c) (n := n) (a := i) (m := m) (b := e) (P := P ++ X1) (X := X2) (Y := Y1) (Q := Y2 ++ Q) (by rw [HE4.out]; omega) (by rw [HE5.out]; omega) HST.out.2 HST.out.1 (by rw [HP1.out]; exact HDN.out) hlen hcap HPA.out (by rw [HE4.out]; omega) (by rw [HE5.out]; omega) rfl rfl)
              rw [decide_eq_true hAB]
              go_wp2_with fail
              refine (show Calls _ _ _ _ _ from HR.out).mono ?_
              rintro e W ⟨rfl, hW⟩
              have HW := Lib.hid hW
              clear hW HR
              go_wp2_with fail
              go_meet
              case rel => exact HW.out
            · have HW : Hid (Blk wr g 37 ((P ++ X1 ++ Y1 ++ X2 ++ (Y2 ++ Q)).map Rw.v ++ sp) ∧ w.grownBy wr (some g)) := by
                show _ ∧ _
                have h5 := HE5.out
                have h4 := HE4.out
                have := HST.out
                by_cases hm : i < m
                · obtain rfl : Y1 = [] := List.eq_nil_of_length_eq_zero (by omega)
                  simpa using this
                · obtain rfl : X2 = [] := List.eq_nil_of_length_eq_zero (by omega)
                  simpa using this
              rw [decide_eq_false hAB]
              go_wp2_with fail
              go_meet
              case rel => exact HW.out
          case rest =>
            clear HST
            have HST := hcut
            clear hcut
            go_upto_region 41 with fail
            go_cut [199] from 192 to 199 (fun v wx => Hid (v = .bool (decide (a < i ∧ i < d)) ∧ wc = wx))
            case first =>
              by_cases hA : a < i
              · by_cases hB : i < d
                · have c1 : (a : Int) < i := by omega
                  have c2 : (i : Int) < d := by omega
                  have HAB : Hid (decide (a < i ∧ i < d) = true) := by show _ = _; simp [hA, hB]
                  go_wp2_with fail
                  go_meet
                  case rel => exact ⟨by rw [HAB.out], rfl⟩
                · have c1 : (a : Int) < i := by omega
                  have c2 : ¬ (i : Int) < d := by omega
                  have HAB : Hid (decide (a < i ∧ i < d) = false) := by show _ = _; simp [hB]
                  go_wp2_with fail
                  go_meet
                  case rel => exact ⟨by rw [HAB.out], rfl⟩
              · have c1 : ¬ (a : Int) < i := by omega
                have HAB : Hid (decide (a < i ∧ i < d) = false) := by show _ = _; simp [hA]
                go_wp2_with fail
                go_meet
                case rel => exact ⟨by rw [HAB.out], rfl⟩
            case rest =>
              obtain ⟨hv, rfl⟩ := hcut.out
              subst hv
              clear hcut
              go_upto_if 199 with fail
              go_cut [] from 199 to 205 (fun wx => Hid (Blk wx g 37 ((P ++ Srt.mg cmp X1 Y1 ++ X2 ++ Y2 ++ Q).map Rw.v ++ sp) ∧ w.grownBy wx (some g)))
              case first =>
                by_cases hAB : a < i ∧ i < d
                · have HR := Lib.hid (HI.out.at (w := w) HST.out.2 (P := P) (X := X1) (Y := Y1) (Q := X2 ++ Y2 ++ Q) (a := a) (m := i) (b := d) (R' := P ++ Srt.mg cmp X1 Y1 ++ X2 ++ Y2 ++ Q) (by rw [HE3.out, HE5.out]; exact hN1) (by rw [HE3.out]; omega) (by rw [HE5.out]; omega) HX1.out.1 HY1.out.1 HST.out.1 HC.out (HL1.out _ HP2.out).1 (HL1.out _ HP2.out).2 HAL.out (by rw [HE3.out]; omega) (by rw [HE5.out]; omega) (by simp) (by simp))
                  rw [decide_eq_true hAB]
                  go_wp2_with fail
                  refine (show Calls _ _ _ _ _ from HR.out).mono ?_
                  rintro e W ⟨rfl, hW⟩
                  have HW := Lib.hid hW
                  clear hW HR
                  go_wp2_with fail
                  go_meet
                  case rel => exact HW.out
                · have HW : Hid (Blk wc g 37 ((P ++ Srt.mg cmp X1 Y1 ++ X2 ++ Y2 ++ Q).map Rw.v ++ sp) ∧ w.grownBy wc (some g)) := by
                    show _ ∧ _
                    have h5 := HE5.out
                    have h3 := HE3.out
                    have := HST.out
                    by_cases hm : a < i
                    · obtain rfl : Y1 = [] := List.eq_nil_of_length_eq_zero (by omega)
                      rw [Srt.mg_nil_right]
                      simpa using this
                    · obtain rfl : X1 = [] := List.eq_nil_of_length_eq_zero (by omega)
                      rw [Srt.mg_nil_left]
                      simpa using this
                  rw [decide_eq_false hAB]
                  go_wp2_with fail
                  go_meet
                  case rel => exact HW.out
              case rest =>
                clear HST
                have HST := hcut
                clear hcut
                have HFIN : Hid (∀ W, Blk W g 37 ((P ++ Srt.mg cmp X1 Y1 ++ Srt.mg cmp X2 Y2 ++ Q).map Rw.v ++ sp) → w.grownBy W (some g) → SortsV w g cs (.returned (.tuple #[])) W) := fun W h1 h2 => ⟨rfl, by rw [← HFI.out]; exact h1, h2⟩
                go_upto_region 43 with fail
                go_cut [213] from 206 to 213 (fun v wx => Hid (v = .bool (decide (d < e ∧ e < b)) ∧ wc = wx))
                case first =>
                  by_cases hA : d < e
                  · by_cases hB : e < b
                    · have c1 : (d : Int) < e := by omega
                      have c2 : (e : Int) < b := by omega
                      have HAB : Hid (decide (d < e ∧ e < b) = true) := by show _ = _; simp [hA, hB]
                      go_wp2_with fail
                      go_meet
                      case rel => exact ⟨by rw [HAB.out], rfl⟩
                    · have c1 : (d : Int) < e := by omega
                      have c2 : ¬ (e : Int) < b := by omega
                      have HAB : Hid (decide (d < e ∧ e < b) = false) := by show _ = _; simp [hB]
                      go_wp2_with fail
                      go_meet
                      case rel => exact ⟨by rw [HAB.out], rfl⟩
                  · have c1 : ¬ (d : Int) < e := by omega
                    have HAB : Hid (decide (d < e ∧ e < b) = false) := by show _ = _; simp [hA]
                    go_wp2_with fail
                    go_meet
                    case rel => exact ⟨by rw [HAB.out], rfl⟩
                case rest =>
                  obtain ⟨hv, rfl⟩ := hcut.out
                  subst hv
                  clear hcut
                  go_upto_if 213 with fail
                  by_cases hAB : d < e ∧ e < b
                  · have HR := Lib.hid (HI.out.at (w := w) HST.out.2 (P := P ++ Srt.mg cmp X1 Y1) (X := X2) (Y := Y2) (Q := Q) (a := d) (m := e) (b := b) (by rw [HE4.out, HE6.out]; exact hN2) (by rw [HE4.out]; omega) (by rw [HE6.out]; omega) HX1.out.2 HY1.out.2 HST.out.1 HC.out (HL1.out _ HP3.out).1 (HL1.out _ HP3.out).2 HPM2.out (by rw [HE4.out]; omega) (by rw [HE6.out]; omega) rfl rfl)
                    rw [decide_eq_true hAB]
                    go_wp2_with fail
                    refine (show Calls _ _ _ _ _ from HR.out).mono ?_
                    rintro e W ⟨rfl, hW⟩
                    have HW := Lib.hid (HFIN.out W hW.1 hW.2)
                    clear hW HR
                    go_wp2_with fail
                    go_end0
                    exact HW.out
                  · have HW : Hid (SortsV w g cs (.returned (.tuple #[])) wc) := HFIN.out _ (by
                      have h6 := HE6.out
                      have h4 := HE4.out
                      have := HST.out.1
                      by_cases hm : d < e
                      · obtain rfl : Y2 = [] := List.eq_nil_of_length_eq_zero (by omega)
                        rw [Srt.mg_nil_right]
                        simpa using this
                      · obtain rfl : X2 = [] := List.eq_nil_of_length_eq_zero (by omega)
                        rw [Srt.mg_nil_left]
                        simpa using this) HST.out.2
                    rw [decide_eq_false hAB]
                    go_wp2_with fail
                    go_end0
                    exact HW.out
theorem symV_any (g q n c : Nat) (cmp : Rw → Rw → Int) (ho : Srt.Ord cmp) (L : List Rw) (sp : List Value) (hlen : n ≤ 1000000) (hcap : n ≤ c) : ∀ N, SymV g q n c cmp L sp N
  | 0 => fun w P X Y Q a m b h1 h2 => by omega
  | N + 1 => fun w P X Y Q a m b h1 h2 h3 h4 h5 h6 h7 h8 h9 h10 h11 h12 => by
    by_cases hx : X.length = 1
    · obtain ⟨x, rfl⟩ := List.length_eq_one_iff.1 hx
      exact sym1V_any w g q n c a m b cmp ho L P Y Q x sp h5 h6 h7 h8 h9 hlen hcap h10 (by simpa using h11) h12
    · by_cases hy : Y.length = 1
      · obtain ⟨y, rfl⟩ := List.length_eq_one_iff.1 hy
        exact sym2V_any w g q n c a m b cmp ho L P X Q y sp h4 (by omega) h6 h7 h8 h9 hlen hcap h10 h11 (by simpa using h12)
      · exact symNV_any g q n c cmp ho L sp N (symV_any g q n c cmp ho L sp hlen hcap N) hlen hcap w P X Y Q a m b h1 (by omega) (by omega) h4 h5 h6 h7 h8 h9 h10 h11 h12
end Go.Proofs.YtpahkaffknnjhaaGreatDoor
end

section
namespace Go.Proofs.YtpahkaffknnjhaaGreatDoor
set_option linter.unusedSimpArgs false
set_option linter.unusedVariables false
open Go.RowKit
theorem CmpsV.mono {w : World} {g q : Nat} {cmp : Rw → Rw → Int} {L M : List Rw} (h : CmpsV w g q cmp L) (hM : ∀ z ∈ M, z ∈ L) : CmpsV w g q cmp M := fun V hV x hx y hy => h V hV x (hM x hx) y (hM y hy)
theorem insV_at {w W : World} {g q c n a b : Nat} {cmp : Rw → Rw → Int} (ho : Srt.Ord cmp) {L P S Q R R' : List Rw} {sp : List Value} (hw : w.grownBy W (some g)) (hb : Blk W g 37 (R.map Rw.v ++ sp)) (hc : CmpsV w g q cmp L) (hL : ∀ z ∈ R, z ∈ L) (hn : R.length = n) (hlen : n ≤ 1000000) (hcap : n ≤ c) (ha : P.length = a) (hb2 : a + S.length = b) (hR : P ++ S ++ Q = R) (hR' : P ++ Srt.ssort cmp S ++ Q = R') :
    Calls Tryz.prog 172 #[.slice (some ⟨g, 0, none⟩) n c, .int .i64 (a : Int), .int .i64 (b : Int), .func (.func 117) #[] #[.pointer (some ⟨q, 0, none⟩)]] W
      (SortsV w g (R'.map Rw.v ++ sp)) := by
  subst hR hR' hn ha hb2
  exact (insV_any W g q c cmp ho P S Q sp hb ((hc.grown hw).mono hL) hlen hcap).mono fun e W' h => ⟨h.1, h.2.1, grown_trans hw h.2.2⟩
set_option maxRecDepth 100000 in
set_option maxHeartbeats 8000000 in
theorem stabV_any (w : World) (g q n c : Nat) (cmp : Rw → Rw → Int) (ho : Srt.Ord cmp) (L : List Rw) (sp : List Value) (hb : Blk w g 37 (L.map Rw.v ++ sp)) (hc : CmpsV w g q cmp L) (hn : L.length = n) (hlen : n ≤ 1000000) (hcap : n ≤ c) :
    Calls Tryz.prog 149 #[.slice (some ⟨g, 0, none⟩) n c, .int .i64 (n : Int), .func (.func 117) #[] #[.pointer (some ⟨q, 0, none⟩)]] w
      (SortsV w g ((Srt.ssort cmp L).map Rw.v ++ sp)) := by
  have HO := Lib.hid ho
  have HC := Lib.hid hc
  have HBK := Lib.hid hb
  have HN := Lib.hid hn
  have HLM : Hid (∀ R : List Rw, R.Perm L → (∀ z ∈ R, z ∈ L) ∧ R.length = n) := fun R hR => ⟨fun z hz => hR.mem_iff.1 hz, by rw [hR.length_eq, hn]⟩
  obtain ⟨cs, hcs⟩ : ∃ cs, (Srt.ssort cmp L).map Rw.v ++ sp = cs := ⟨_, rfl⟩
  rw [hcs]
  have HCS := Lib.hid hcs
  clear hb hc ho hn hcs
  go_enter Tryz.func149, Tryz.ntmps149
  go_wp2_with fail
  go_loopw [7, 8] (fun av bv wr => ∃ a : Nat, a ≤ n ∧ av = .int .i64 (a : Int) ∧ bv = .int .i64 ((a + 20 : Nat) : Int) ∧ Hid (∃ LD LR SD : List Rw, L = LD ++ LR ∧ LD.length = a ∧ Srt.Done cmp 20 SD LD ∧ Blk wr g 37 ((SD ++ LR).map Rw.v ++ sp) ∧ w.grownBy wr (some g))) (fun av _ _ => n - (intOf av).toNat)
  case atStart => exact ⟨0, Nat.zero_le _, by go_num, by go_num, [], L, [], rfl, rfl, Srt.Done.nil, HBK.out, grown_refl _ _⟩
  case round =>
    obtain ⟨a, han, rfl, rfl, HJ⟩ := hrel
    clear HBK
    obtain ⟨LD, LR, SD, e1, e2, e3, e4, e5⟩ := HJ.out
    clear HJ
    have hSD : SD.length = a := by rw [e3.len, e2]
    have hLR : a + LR.length = n := by have := HN.out; rw [e1, List.length_append] at this; omega
    have hP : (SD ++ LR).Perm L := by rw [e1]; exact e3.1.append_right _
    by_cases hlt : a + 20 ≤ n
    · have hii : ((a + 20 : Nat) : Int) ≤ (n : Int) := by omega
      have HR := Lib.hid (insV_at (q := q) (c := c) (n := n) (a := a) (b := a + 20) HO.out (P := SD) (S := LR.take 20) (Q := LR.drop 20) e5 e4 HC.out (HLM.out _ hP).1 (HLM.out _ hP).2 hlen hcap hSD (by rw [List.length_take]; omega) (by rw [List.append_assoc, List.take_append_drop]) rfl)
      have HNX : Hid (∀ W, Blk W g 37 ((SD ++ Srt.ssort cmp (LR.take 20) ++ LR.drop 20).map Rw.v ++ sp) → w.grownBy W (some g) → ∃ LD LR SD : List Rw, L = LD ++ LR ∧ LD.length = a + 20 ∧ Srt.Done cmp 20 SD LD ∧ Blk W g 37 ((SD ++ LR).map Rw.v ++ sp) ∧ w.grownBy W (some g)) := fun W h1 h2 =>
        ⟨LD ++ LR.take 20, LR.drop 20, SD ++ Srt.ssort cmp (LR.take 20), by rw [List.append_assoc, List.take_append_drop]; exact e1, by rw [List.length_append, List.length_take, e2]; omega, e3.more _ (by rw [List.length_take]; omega), h1, h2⟩
      clear e1 e2 e3 e4 e5 hSD hLR hP
      go_wp2_with fail
      refine (show Calls _ _ _ _ _ from HR.out).mono ?_
      rintro e W ⟨rfl, hW⟩
      have HW := Lib.hid (HNX.out W hW.1 hW.2)
      clear hW HR HNX
      go_wp2_with fail
      go_roundw
      case rel => exact ⟨a + 20, hlt, by go_num, by go_num, HW.out⟩
      case measure => simp [intOf]; omega
    · have hii : ¬ ((a + 20 : Nat) : Int) ≤ (n : Int) := by omega
      have HR := Lib.hid (insV_at (q := q) (c := c) (n := n) (a := a) (b := n) HO.out (P := SD) (S := LR) (Q := []) e5 e4 HC.out (HLM.out _ hP).1 (HLM.out _ hP).2 hlen hcap hSD hLR (by rw [List.append_nil]) rfl)
      have HNX : Hid (∀ W, Blk W g 37 ((SD ++ Srt.ssort cmp LR ++ []).map Rw.v ++ sp) → w.grownBy W (some g) → ∃ S : List Rw, Srt.Chk cmp 20 S L ∧ Blk W g 37 (S.map Rw.v ++ sp) ∧ w.grownBy W (some g)) := fun W h1 h2 =>
        ⟨SD ++ Srt.ssort cmp LR, by rw [e1]; exact e3.2 _ _ (.last _ (by omega)), by rw [List.append_nil] at h1; exact h1, h2⟩
      clear e1 e2 e3 e4 e5 hSD hLR hP
      go_wp2_with fail
      refine (show Calls _ _ _ _ _ from HR.out).mono ?_
      rintro e W ⟨rfl, hW⟩
      have HW := Lib.hid (HNX.out W hW.1 hW.2)
      clear hW HR HNX hii hlt han
      go_wp2_with fail
      go_loopw [6] (fun bv wr => ∃ bs : Nat, 20 ≤ bs ∧ bv = .int .i64 (bs : Int) ∧ Hid (∃ S : List Rw, Srt.Chk cmp bs S L ∧ Blk wr g 37 (S.map Rw.v ++ sp) ∧ w.grownBy wr (some g))) (fun bv _ => n - (intOf bv).toNat)
      case atStart => exact ⟨20, Nat.le_refl _, by go_num, HW.out⟩
      case round =>
        obtain ⟨bs, hbs, rfl, HJ⟩ := hrel
        clear HW
        by_cases hlt : bs < n
        · have hii : (bs : Int) < (n : Int) := by omega
          go_wp2_with fail
          go_loopw [7, 8] (fun av bv wr => ∃ a : Nat, a ≤ n ∧ av = .int .i64 (a : Int) ∧ bv = .int .i64 ((a + 2 * bs : Nat) : Int) ∧ Hid (∃ LD LR SD SR : List Rw, L = LD ++ LR ∧ LD.length = a ∧ Srt.Done cmp (2 * bs) SD LD ∧ Srt.Chk cmp bs SR LR ∧ Blk wr g 37 ((SD ++ SR).map Rw.v ++ sp) ∧ w.grownBy wr (some g))) (fun av _ _ => n - (intOf av).toNat)
          case atStart =>
            obtain ⟨S, e1, e2, e3⟩ := HJ.out
            exact ⟨0, Nat.zero_le _, by go_num, by go_num, [], L, [], S, rfl, rfl, Srt.Done.nil, e1, e2, e3⟩
          case round =>
            obtain ⟨a, han, rfl, rfl, HJ⟩ := hrel
            obtain ⟨LD, LR, SD, SR, e1, e2, e3, e4, e5, e6⟩ := HJ.out
            clear HJ
            have hSD : SD.length = a := by rw [e3.len, e2]
            have hLR : a + LR.length = n := by have := HN.out; rw [e1, List.length_append] at this; omega
            have hP : (SD ++ SR).Perm L := by rw [e1]; exact e3.1.append e4.perm
            by_cases hle : a + 2 * bs ≤ n
            · have hij : ((a + 2 * bs : Nat) : Int) ≤ (n : Int) := by omega
              obtain ⟨B1, S1, L1, b1, rfl, rfl, c1⟩ := e4.cut (by omega)
              rw [List.length_append] at hLR
              obtain ⟨B2, S2, L2, b2, rfl, rfl, c2⟩ := c1.cut (by omega)
              obtain ⟨m, hm⟩ : ∃ m : Nat, (a : Int) + (bs : Int) = (m : Int) := ⟨a + bs, by omega⟩
              have hm2 : a + bs = m := by omega
              have HR := Lib.hid ((symV_any g q n c cmp HO.out L sp hlen hcap _).at (w := w) e6 (P := SD) (X := Srt.ssort cmp B1) (Y := Srt.ssort cmp B2) (Q := S2) (a := a) (m := m) (b := a + 2 * bs) (R' := (SD ++ Srt.ssort cmp (B1 ++ B2)) ++ S2) (Nat.le_refl _) (by rw [Srt.ssort_length]; omega) (by rw [Srt.ssort_length]; omega) (Srt.ssort_sorted HO.out _) (Srt.ssort_sorted HO.out _) e5 HC.out (HLM.out _ hP).1 (HLM.out _ hP).2 hSD (by rw [Srt.ssort_length]; omega) (by rw [Srt.ssort_length]; omega) (by simp) (by rw [Srt.ssort_append HO.out]))
              have HNX : Hid (∀ W, Blk W g 37 (((SD ++ Srt.ssort cmp (B1 ++ B2)) ++ S2).map Rw.v ++ sp) → w.grownBy W (some g) → ∃ LD LR SD SR : List Rw, L = LD ++ LR ∧ LD.length = a + 2 * bs ∧ Srt.Done cmp (2 * bs) SD LD ∧ Srt.Chk cmp bs SR LR ∧ Blk W g 37 ((SD ++ SR).map Rw.v ++ sp) ∧ w.grownBy W (some g)) := fun W h1 h2 =>
                ⟨LD ++ (B1 ++ B2), L2, SD ++ Srt.ssort cmp (B1 ++ B2), S2, by rw [e1]; simp, by simp; omega, e3.more _ (by simp; omega), c2, h1, h2⟩
              clear e1 e2 e3 e4 e5 e6 hSD hLR hP b1 b2 c1 c2
              go_wp2_with fail
              refine (show Calls _ _ _ _ _ from HR.out).mono ?_
              rintro e W ⟨rfl, hW⟩
              have HW := Lib.hid (HNX.out W hW.1 hW.2)
              clear hW HR HNX hm
              go_wp2_with fail
              go_roundw
              case rel => exact ⟨a + 2 * bs, hle, by go_num, by go_num, HW.out⟩
              case measure => simp [intOf]; omega
            · have hij : ¬ ((a + 2 * bs : Nat) : Int) ≤ (n : Int) := by omega
              obtain ⟨m, hm⟩ : ∃ m : Nat, (a : Int) + (bs : Int) = (m : Int) := ⟨a + bs, by omega⟩
              have hm2 : a + bs = m := by omega
              by_cases hmn : m < n
              · have hmi : (m : Int) < (n : Int) := by omega
                obtain ⟨B1, S1, L1, b1, rfl, rfl, c1⟩ := e4.cut (by omega)
                rw [List.length_append] at hLR
                obtain rfl := c1.small (by omega)
                have HR := Lib.hid ((symV_any g q n c cmp HO.out L sp hlen hcap _).at (w := w) e6 (P := SD) (X := Srt.ssort cmp B1) (Y := Srt.ssort cmp L1) (Q := []) (a := a) (m := m) (b := n) (R' := SD ++ Srt.ssort cmp (B1 ++ L1)) (Nat.le_refl _) (by rw [Srt.ssort_length]; omega) (by rw [Srt.ssort_length]; omega) (Srt.ssort_sorted HO.out _) (Srt.ssort_sorted HO.out _) e5 HC.out (HLM.out _ hP).1 (HLM.out _ hP).2 hSD (by rw [Srt.ssort_length]; omega) (by rw [Srt.ssort_length]; omega) (by simp) (by rw [Srt.ssort_append HO.out, List.append_nil]))
                have HNX : Hid (∀ W, Blk W g 37 ((SD ++ Srt.ssort cmp (B1 ++ L1)).map Rw.v ++ sp) → w.grownBy W (some g) → ∃ S : List Rw, Srt.Chk cmp (2 * bs) S L ∧ Blk W g 37 (S.map Rw.v ++ sp) ∧ w.grownBy W (some g)) := fun W h1 h2 =>
                  ⟨SD ++ Srt.ssort cmp (B1 ++ L1), by rw [e1]; exact e3.2 _ _ (.last _ (by simp; omega)), h1, h2⟩
                clear e1 e2 e3 e4 e5 e6 hSD hLR hP b1 c1
                go_wp2_with fail
                refine (show Calls _ _ _ _ _ from HR.out).mono ?_
                rintro e W ⟨rfl, hW⟩
                have HW := Lib.hid (HNX.out W hW.1 hW.2)
                clear hW HR HNX hm
                go_wp2_with fail
                go_roundw
                case rel => exact ⟨2 * bs, by omega, by go_num, HW.out⟩
                case measure => simp [intOf]; omega
              · have hmi : ¬ (m : Int) < (n : Int) := by omega
                obtain rfl := e4.small (by omega)
                have HW : Hid (∃ S : List Rw, Srt.Chk cmp (2 * bs) S L ∧ Blk wr g 37 (S.map Rw.v ++ sp) ∧ w.grownBy wr (some g)) :=
                  ⟨_, by rw [e1]; exact e3.2 _ _ (.last _ (by omega)), e5, e6⟩
                clear e1 e2 e3 e4 e5 e6 hSD hLR hP
                go_wp2_with fail
                clear hm
                go_roundw
                case rel => exact ⟨2 * bs, by omega, by go_num, HW.out⟩
                case measure => simp [intOf]; omega
        · have hii : ¬ (bs : Int) < (n : Int) := by omega
          have HF : Hid (SortsV w g cs (.returned (.tuple #[])) wr) := by
            obtain ⟨S, e1, e2, e3⟩ := HJ.out
            obtain rfl := e1.small (by have := HN.out; omega)
            exact ⟨rfl, by rw [← HCS.out]; exact e2, e3⟩
          go_wp2_with fail
          go_end0
          exact HF.out
set_option maxRecDepth 100000 in
set_option maxHeartbeats 8000000 in
theorem stableV_any (w : World) (g q n c : Nat) (cmp : Rw → Rw → Int) (ho : Srt.Ord cmp) (L : List Rw) (sp : List Value) (hb : Blk w g 37 (L.map Rw.v ++ sp)) (hc : CmpsV w g q cmp L) (hn : L.length = n) (hlen : n ≤ 1000000) (hcap : n ≤ c) :
    Calls Tryz.prog 116 #[.slice (some ⟨g, 0, none⟩) n c, .func (.func 117) #[] #[.pointer (some ⟨q, 0, none⟩)]] w
      (SortsV w g ((Srt.ssort cmp L).map Rw.v ++ sp)) := by
  have HR := Lib.hid (stabV_any w g q n c cmp ho L sp hb hc hn hlen hcap)
  obtain ⟨cs, hcs⟩ : ∃ cs, (Srt.ssort cmp L).map Rw.v ++ sp = cs := ⟨_, rfl⟩
  rw [hcs] at HR ⊢
  clear hb hc ho hn hcs
  go_enter Tryz.func116, Tryz.ntmps116
  go_wp2_with fail
  refine (show Calls _ _ _ _ _ from HR.out).mono ?_
  rintro e W ⟨rfl, hW⟩
  have HW := Lib.hid hW
  clear hW HR
  go_wp2_with fail
  go_end0
  exact ⟨rfl, HW.out⟩
end Go.Proofs.YtpahkaffknnjhaaGreatDoor
end

section
namespace Go.Proofs.YtpahkaffknnjhaaGreatDoor
set_option linter.unusedSimpArgs false
set_option linter.unusedVariables false
open Go.RowKit
def eGr : Elem Gr where
  e := 126
  t := 123
  sz := 1
  bytes := 24
  zero := .agg #[.slice none 0 0]
  code := fun x => [x.h]
  pos := by decide
  few := by decide
  len := fun _ => rfl
  one := by
    intro x u hu
    simp at hu
    subst hu
    rfl
  zsz := rfl
  info := by kernel_rfl
  under := Tryz.underlying123
theorem cells_gr (L : List Gr) : eGr.cells L = L.map Gr.h := by induction L with
  | nil => rfl
  | cons x L ih => show [x.h] ++ eGr.cells L = _; rw [ih]; rfl
theorem cells_rw (L : List Rw) : eRw.cells L = L.map Rw.v := by induction L with
  | nil => rfl
  | cons x L ih => show [x.v] ++ eRw.cells L = _; rw [ih]; rfl
section
variable {α : Type} {E : Elem α} {w : World} {B c g : Nat} {L : List α}
theorem EOwn.toBlk (h : EOwn E w B (some ⟨g, 0, none⟩) c L) : ∃ sp, Blk w g E.e (E.cells L ++ sp) ∧ (E.cells L ++ sp).length = c * E.sz ∧ B ≤ g ∧ L.length ≤ c ∧ c ≤ maxLen := by
  obtain ⟨hl, h | ⟨g', cap, cur, hv, hB, hg, h1, h2, h3, h4⟩⟩ := h
  · exact absurd h.1 (by simp)
  · obtain ⟨rfl, rfl⟩ : g = g' ∧ c = cap := by simpa using hv
    refine ⟨cur.toList.drop (L.length * E.sz), ?_, ?_, hB, h1, h2⟩
    · rw [← h4, List.take_append_drop]
      show _ = some _
      rw [hg]
    · rw [← h4, List.take_append_drop]
      simpa using h3
theorem EOwn.ofBlk {sp : List Value} (hb : Blk w g E.e (E.cells L ++ sp)) (hl : (E.cells L ++ sp).length = c * E.sz) (h1 : L.length ≤ c) (h2 : c ≤ maxLen) (hB : B ≤ g) : EOwn E w B (some ⟨g, 0, none⟩) c L := by
  refine ⟨E.cells_length L, .inr ⟨g, c, (E.cells L ++ sp).toArray, rfl, hB, hb, h1, h2, by simpa using hl, ?_⟩⟩
  show (E.cells L ++ sp).take _ = _
  rw [← E.cells_length L, List.take_left]
theorem wpList_append_full (E : Elem α) {w : World} {A : Option Addr} {L M : List α} {c' : Nat} {ops : Array Oper} {rest : List Oper} {o : Oper} {a : Act} {Q : Exit → Act → World → Prop} (hgd : o.guard = none) (s x : Operand)
    (hop : o.op = .call { callee := .builtin .append, args := #[s, x], argTypes := #[E.t, E.t] })
    (n : Nat) (hs : a.eval s = .slice A n n) (ho : ERow E w A L) (hn : n = L.length) (k : Nat) (ad : Addr) (hx : a.eval x = .slice (some ad) k c') (hr : ERow E w (some ad) M) (hk : k = M.length) (hk0 : 0 < k)
    (hb : L.length + M.length ≤ 1073741824) (hnone : A = none → L.length = 0)
    (h : ∀ A1 c1 w1, EOwn E w1 w.heap.size A1 c1 (L ++ M) → Below w.heap.size w w1 →
      wpList Tryz.prog ops Q rest (a.put o.dst (.slice A1 (L.length + M.length) c1)) w1) : wpList Tryz.prog ops Q (o :: rest) a w := by
  subst hn hk
  obtain ⟨i, hi, hz, hsi, hby⟩ := info_parts E.info
  have hbig : (L.length + M.length) * E.bytes ≤ 140737488355328 := by
    have h1 := Nat.mul_le_mul hb E.few
    omega
  refine wpList_append_grows (P := Tryz.prog) w hgd s x E.t hop E.e i E.zero E.sz E.bytes E.under hi hz hsi hby E.zsz E.pos A L.length L.length (E.cells L) hs (fun e => ⟨hnone e, hnone e⟩) (E.cells_length L) ?_ ad M.length c' (E.cells M) hx (E.cells_length M) ?_ (E.cells_one M) (by omega) (by simp [maxLen]; omega) hbig ?_
  · rintro b rfl j u hu
    have hj := (List.getElem?_eq_some_iff.1 hu).1
    rw [E.cells_length] at hj
    obtain ⟨b', o', e, _, hc⟩ := ho (by
      rcases Nat.eq_zero_or_pos L.length with h0 | h0
      · rw [h0] at hj; simp at hj
      · exact h0)
    obtain rfl := Option.some.inj e
    rw [Addr.add_lit]
    exact hc j u hu
  · intro j u hu
    obtain ⟨b', o', e, _, hc⟩ := hr hk0
    obtain rfl := Option.some.inj e
    rw [Addr.add_lit]
    exact hc j u hu
  · intro v' w' hown hgr
    obtain ⟨A1, c1, rfl⟩ := own_slice hown
    have : EOwn E w' w.heap.size A1 c1 (L ++ M) := by
      unfold EOwn
      rw [E.cells_append, List.length_append]
      exact hown
    exact h A1 c1 w' this ⟨hgr.os, hgr.tape, hgr.output, hgr.size, fun k hk => hgr.block k hk (by simp)⟩
end
set_option maxRecDepth 20000 in
theorem clip_any (w : World) (A : Option Addr) (n c : Nat) (hn : n ≤ c) (hm : c ≤ maxLen) : Calls Tryz.prog 118 #[.slice A n c] w fun e w' => e = .returned (.slice A n n) ∧ w = w' := by
  have hmm : (n : Int) ≤ 9223372036854775807 := by unfold maxLen at hm; omega
  go_enter Tryz.func118, Tryz.ntmps118
  go_wp2_with fail
  go_ret
  exact ⟨rfl, rfl⟩
set_option maxRecDepth 20000 in
set_option maxHeartbeats 1000000 in
theorem first_any (w : World) (r : Gr) (h : RowsOk w r.a r.l) : Calls Tryz.prog 78 #[r.v] w fun e w' => e = .returned (Ev.firstR r.l).v ∧ Below w.heap.size w w' := by
  have HL := Lib.hid h
  clear h
  show Calls _ _ #[.agg #[r.h]] _ _
  go_enter Tryz.func78, Tryz.ntmps78
  go_upto_region 1 with fail
  generalize hW1 : World.alloc w (.cells _ _) = W1
  obtain ⟨ba1, hz1, hB1⟩ := fresh1 hW1
  clear hW1
  have HL1 := Lib.hid (HL.out.below hB1)
  have HB1 := Lib.hid hB1
  have q0 := ba1.cell 0
  simp only [List.getElem?_cons_zero] at q0
  clear hB1 ba1 hz1 HL
  obtain ⟨A, L, c⟩ := r
  unfold Gr.h at q0
  cases L with
  | nil =>
    go_wp2_with fail
    go_ret
    exact ⟨rfl, HB1.out⟩
  | cons x L =>
    obtain ⟨bb, oo, rfl, hbl, q1⟩ := rw_at HL1.out.r (j := 0) (by simp)
    rw [Nat.add_zero] at q1
    simp only [List.getElem_cons_zero] at q1
    have hx : (((x :: L).length : Int) == 0) = false := by simp; omega
    have hl1 : (0 : Int) < ((x :: L).length : Int) := by simp
    obtain ⟨n, hn⟩ : ∃ n, (x :: L).length = n := ⟨_, rfl⟩
    simp only [hn] at q0 hx hl1
    clear hn
    go_wp2_with fail
    go_ret
    exact ⟨rfl, HB1.out⟩
set_option maxRecDepth 20000 in
set_option maxHeartbeats 1000000 in
theorem gcmp_any (w : World) (q : Nat) (A : Option Addr) (l : List So) (c : Nat) (hq : Blk w q 24 [.slice A l.length c]) (hl : ERow eSo w A l) (hin : ∀ s ∈ l, Ev.inB s.at_) (hll : l.length ≤ 9223372036854775807) (x y : Rw) (hx : RowOk w x.a x.l) (hy : RowOk w y.a y.l) :
    Calls Tryz.prog 117 #[x.v, y.v, .pointer (some ⟨q, 0, none⟩)] w fun e w' => e = .returned (.int .i64 (Ev.rcmp l x y)) ∧ Below w.heap.size w w' := by
  have HO := Lib.hid (pordr_any w A x.a y.a c x.c y.c l x.l y.l hl hin hll hx hy)
  obtain ⟨q0, q1, q2⟩ := Blk.c1 hq
  clear hq hl hin hx hy
  go_enter Tryz.func117, Tryz.ntmps117
  go_wp2_with fail
  refine (show Calls _ _ _ _ _ from HO.out).mono ?_
  rintro e W ⟨rfl, hB⟩
  have HB := Lib.hid hB
  clear hB q0 q1 q2 HO
  go_wp2_with fail
  go_ret
  exact ⟨rfl, HB.out⟩
theorem RowsOk.first {w : World} {A : Option Addr} {L : List Rw} (h : RowsOk w A L) : RowOk w (Ev.firstR L).a (Ev.firstR L).l := by
  cases L with
  | nil => exact ⟨ERow.nil, (by intro v hv; cases hv), Nat.zero_le _⟩
  | cons x L => exact h.in_ x (by simp)
set_option maxRecDepth 20000 in
set_option maxHeartbeats 2000000 in
theorem acmp_any (w : World) (q : Nat) (T : TypeId) (cs : List Value) (A : Option Addr) (l : List So) (c : Nat) (hq : Blk w q T cs) (hq7 : cs[7]? = some (.slice A l.length c)) (hl : ERow eSo w A l) (hin : ∀ s ∈ l, Ev.inB s.at_) (hll : l.length ≤ 9223372036854775807) (x y : Gr) (hx : RowsOk w x.a x.l) (hy : RowsOk w y.a y.l) :
    Calls Tryz.prog 76 #[x.v, y.v, .pointer (some ⟨q, 0, none⟩)] w fun e w' => e = .returned (.int .i64 (Ev.gcmp l x.l y.l)) ∧ Below w.heap.size w w' := by
  have HX := Lib.hid hx
  have HY := Lib.hid hy
  have HL := Lib.hid hl
  have HIN := Lib.hid hin
  have HQ : Hid (∀ W, Below w.heap.size w W → W.cell? ⟨q, 7, none⟩ = some (.slice A l.length c)) := fun W hW => by rw [(hq.below hW).cell, hq7]
  clear hq hq7 hl hin hx hy
  show Calls _ _ #[.agg #[x.h], .agg #[y.h], _] _ _
  go_enter Tryz.func76, Tryz.ntmps76
  go_upto_region 1 with fail
  generalize hW1 : ((World.alloc w (.cells _ _)).alloc (.cells _ _)) = W1
  obtain ⟨ba1, bb1, hz1, hB1⟩ := fresh2 hW1
  clear hW1
  have HB1 := Lib.hid hB1.drewR
  have q7 := HQ.out _ HB1.out
  have q0 := ba1.drew.cell 0
  have q1 := bb1.drew.cell 0
  simp only [List.getElem?_cons_zero] at q0 q1
  clear hB1 ba1 bb1 hz1
  refine wp_region_plan (.take 0 (.take 1 (.take 2 (.take 4 (.run 3 [0, 1, 4] (.run 5 [0, 1] (.run 6 [] (.take 7 .fin)))))))) (by kernel_rfl) (by kernel_rfl) (by kernel_rfl) (by kernel_rfl) ?_
  repeat' (first | (refine hZ _ _ ?_; clear hZ) | (refine hZ _ ?_; clear hZ) | (refine hZ ?_; clear hZ) | rw [again_nil] | rw [walk_fin] | ((first | rw [walk_take] | rw [walk_run] | rw [again_cons]); intro Z hZ; simp only [sel, List.getElem?_toArray, List.getElem?_cons_zero, List.getElem?_cons_succ]; go_wp2_with (fail)))
  refine (show Calls _ _ #[.agg #[x.h]] _ _ from first_any _ x (HX.out.below HB1.out)).mono ?_
  rintro e W2 ⟨rfl, hB2⟩
  have HB2 := Lib.hid (HB1.out.trans (hB2.mono HB1.out.size))
  have q1' := cell_later hB2 q1
  have q7' := HQ.out _ HB2.out
  clear hB2 q0 q1 q7
  go_wp2_with fail
  repeat' (first | (refine hZ _ _ ?_; clear hZ) | (refine hZ _ ?_; clear hZ) | (refine hZ ?_; clear hZ) | rw [again_nil] | rw [walk_fin] | ((first | rw [walk_take] | rw [walk_run] | rw [again_cons]); intro Z hZ; simp only [sel, List.getElem?_toArray, List.getElem?_cons_zero, List.getElem?_cons_succ]; go_wp2_with (fail)))
  refine (show Calls _ _ #[.agg #[y.h]] _ _ from first_any _ y (HY.out.below HB2.out)).mono ?_
  rintro e W3 ⟨rfl, hB3⟩
  have HB3 := Lib.hid (HB2.out.trans (hB3.mono HB2.out.size))
  have q7'' := HQ.out _ HB3.out
  clear hB3 q1' q7'
  go_wp2_with fail
  repeat' (first | (refine hZ _ _ ?_; clear hZ) | (refine hZ _ ?_; clear hZ) | (refine hZ ?_; clear hZ) | rw [again_nil] | rw [walk_fin] | ((first | rw [walk_take] | rw [walk_run] | rw [again_cons]); intro Z hZ; simp only [sel, List.getElem?_toArray, List.getElem?_cons_zero, List.getElem?_cons_succ]; go_wp2_with (fail)))
  refine (pordr_any _ A _ _ c (Ev.firstR x.l).c (Ev.firstR y.l).c l (Ev.firstR x.l).l (Ev.firstR y.l).l (HL.out.below HB3.out) HIN.out hll (HX.out.below HB3.out).first (HY.out.below HB3.out).first).mono ?_
  rintro e W4 ⟨rfl, hB4⟩
  have HB4 := Lib.hid (HB3.out.trans (hB4.mono HB3.out.size))
  clear hB4
  go_wp2_with fail
  repeat' (first | (refine hZ _ _ ?_; clear hZ) | (refine hZ _ ?_; clear hZ) | (refine hZ ?_; clear hZ) | rw [again_nil] | rw [walk_fin] | ((first | rw [walk_take] | rw [walk_run] | rw [again_cons]); intro Z hZ; simp only [sel, List.getElem?_toArray, List.getElem?_cons_zero, List.getElem?_cons_succ]; go_wp2_with (fail)))
  go_wp2_with fail
  go_ret
  exact ⟨rfl, HB4.out⟩
set_option maxRecDepth 20000 in
set_option maxHeartbeats 1000000 in
theorem rclone_any (w : World) (A : Option Addr) (c : Nat) (L : List Rw) (hr : ERow eRw w A L) (hl : L.length ≤ 1000000) :
    Calls Tryz.prog 115 #[.slice A L.length c] w fun e w' => ∃ A1 c1, e = .returned (.slice A1 L.length c1) ∧ EOwn eRw w' w.heap.size A1 c1 L ∧ Below w.heap.size w w' := by
  cases A with
  | none =>
    have hl0 : L = [] := by
      cases L with
      | nil => rfl
      | cons x l => obtain ⟨b, o, h, _⟩ := hr (by simp); cases h
    subst hl0
    have hq := Lib.run_eql_slice_nil (P := Tryz.prog) w 43 37 none 0 c 0 0 Tryz.underlying43
    go_enter Tryz.func115, Tryz.ntmps115
    go_wp2_with fail
    go_ret
    exact ⟨none, 0, rfl, EOwn.nil _ _, Below.refl _ _⟩
  | some a =>
    have hq := Lib.run_eql_slice_nil (P := Tryz.prog) w 43 37 (some a) L.length c 0 0 Tryz.underlying43
    have hoe : EOwn eRw (w.alloc (.cells #[] 37)) w.heap.size (some ⟨w.heap.size, 0, none⟩) 0 [] := EOwn.new w [] (by simp [maxLen]) (Nat.le_refl _) #[] rfl
    have hrr : ERow eRw (w.alloc (.cells #[] 37)) (some a) L := hr.below ((Below.refl _ _).alloc (Nat.le_refl _) _)
    go_enter Tryz.func115, Tryz.ntmps115
    go_wp2_with (at_builtin; refine wpList_append_elems eRw rfl (.tmp 5) (.tmp 6) rfl 0 rfl hoe rfl _ rfl hrr rfl (by simp; omega) (by simp) ?_; intro A3 c3 w3 ho3 hb3 _ _)
    go_ret
    rw [List.nil_append] at ho3
    exact ⟨A3, c3, by simp, ho3, ((Below.refl _ _).alloc (Nat.le_refl _) _).trans hb3⟩
end Go.Proofs.YtpahkaffknnjhaaGreatDoor
end

section
namespace Go.Proofs.YtpahkaffknnjhaaGreatDoor
set_option linter.unusedSimpArgs false
set_option linter.unusedVariables false
open Go.RowKit
def eKy : Elem Part where
  e := 32
  t := 77
  sz := 1
  bytes := 24
  zero := .slice none 0 0
  code := fun p => [p.v]
  pos := by decide
  few := by decide
  len := fun _ => rfl
  one := by
    intro x u hu
    simp at hu
    subst hu
    rfl
  zsz := rfl
  info := by kernel_rfl
  under := Tryz.underlying77
structure Ks where
  a : Option Addr
  l : List Part
  c : Nat
instance : Inhabited Ks := ⟨⟨none, [], 0⟩⟩
def Ks.h (k : Ks) : Value := .slice k.a k.l.length k.c
def eKs : Elem Ks where
  e := 77
  t := 73
  sz := 1
  bytes := 24
  zero := .slice none 0 0
  code := fun x => [x.h]
  pos := by decide
  few := by decide
  len := fun _ => rfl
  one := by
    intro x u hu
    simp at hu
    subst hu
    rfl
  zsz := rfl
  info := by kernel_rfl
  under := Tryz.underlying73
def eT3 : Elem Gr where
  e := 43
  t := 27
  sz := 1
  bytes := 24
  zero := .slice none 0 0
  code := fun x => [x.h]
  pos := by decide
  few := by decide
  len := fun _ => rfl
  one := by
    intro x u hu
    simp at hu
    subst hu
    rfl
  zsz := rfl
  info := by kernel_rfl
  under := Tryz.underlying27
def isK (w : World) (T : TypeId) (g : Nat) : Prop := ∃ cur fr, w.heap[g]? = some (.cells cur T fr)
theorem isK.one {w : World} {T T' : TypeId} {g : Nat} (h : isK w T g) (h' : isK w T' g) : T = T' := by
  obtain ⟨_, _, h⟩ := h
  obtain ⟨_, _, h'⟩ := h'
  rw [h] at h'
  simp only [Option.some.injEq, Obj.cells.injEq] at h'
  exact h'.2.1
theorem EOwn.kind {α : Type} {E : Elem α} {w : World} {B c : Nat} {A : Option Addr} {L : List α} (h : EOwn E w B A c L) : ∀ a, A = some a → isK w E.e a.block := by
  intro a ha
  rcases h.form with ⟨rfl, _⟩ | ⟨g, rfl, _, _, _, _, cur, hc⟩
  · cases ha
  · obtain rfl := Option.some.inj ha
    exact ⟨cur, _, hc⟩
theorem BOwn.kind {w : World} {B c : Nat} {A : Option Addr} {l : List UInt8} (h : BOwn w B A c l) : ∀ a, A = some a → isK w 5 a.block := by
  intro a ha
  rcases h.2 with ⟨hv, -⟩ | ⟨g, cap, cur, hv, -, hg, -⟩
  · simp only [Value.slice.injEq] at hv
    rw [hv.1] at ha
    cases ha
  · simp only [Value.slice.injEq] at hv
    obtain rfl := Option.some.inj (hv.1.symm.trans ha)
    exact ⟨cur, _, hg⟩
theorem Blk.kind {w : World} {g : Nat} {T : TypeId} {cs : List Value} (h : Blk w g T cs) : isK w T g := ⟨_, _, h⟩
theorem EOwn.apart {α : Type} {E : Elem α} {w w' : World} {B c : Nat} {A : Option Addr} {L : List α} (h : EOwn E w B A c L) {row : Option Nat} {T : TypeId} (hg : w.grownBy w' row) (hr : ∀ x, row = some x → isK w T x) (hT : E.e ≠ T) : EOwn E w' B A c L := by
  refine h.kept hg ?_
  cases A with
  | none => exact .inl rfl
  | some a =>
    refine .inr fun e => hT ?_
    exact (h.kind a rfl).one (hr _ e.symm)
theorem BOwn.apart {w w' : World} {B c : Nat} {A : Option Addr} {l : List UInt8} (h : BOwn w B A c l) {row : Option Nat} {T : TypeId} (hg : w.grownBy w' row) (hr : ∀ x, row = some x → isK w T x) (hT : 5 ≠ T) : BOwn w' B A c l := by
  refine h.kept hg ?_
  cases A with
  | none => exact .inl rfl
  | some a =>
    refine .inr fun e => hT ?_
    exact (h.kind a rfl).one (hr _ e.symm)
theorem EOwn.turns {α : Type} {E : Elem α} {w : World} {B c : Nat} {A : Option Addr} {L : List α} (h : EOwn E w B A c L) : ∀ x, A.map (·.block) = some x → isK w E.e x := by
  intro x hx
  cases A with
  | none => cases hx
  | some a => obtain rfl := Option.some.inj hx; exact h.kind a rfl
theorem BRow.keepX {w w' : World} {A : Option Addr} {l : List UInt8} (h : BRow w A l) (hs : w.heap.size ≤ w'.heap.size) (hk : l ≠ [] → ∀ a, A = some a → w'.heap[a.block]? = w.heap[a.block]?) : BRow w' A l := fun hl => by
  obtain ⟨b, o, rfl, hlt, hc⟩ := h hl
  exact ⟨b, o, rfl, Nat.lt_of_lt_of_le hlt hs, fun j hj => (World.cell?_of_block (a := ⟨b, o + j, none⟩) (hk (by rintro rfl; simp at hl) ⟨b, o, none⟩ rfl)).trans (hc j hj)⟩
structure RwOwn (B : Nat) (W : World) (A : Option Addr) (c : Nat) (R : List Rw) : Prop where
  own : EOwn eRw W B A c R
  rows : ∀ r ∈ R, EOwn eVa W B r.a r.c r.l
namespace RwOwn
variable {B c : Nat} {W W' : World} {A : Option Addr} {R : List Rw}
theorem start : RwOwn B W none 0 [] := ⟨EOwn.nil _ _, by intro r hr; cases hr⟩
theorem below (h : RwOwn B W A c R) (hB : Below W.heap.size W W') : RwOwn B W' A c R := ⟨h.own.below hB, fun r hr => (h.rows r hr).below hB⟩
theorem mono {B' : Nat} (h : RwOwn B W A c R) (hB : B' ≤ B) : RwOwn B' W A c R := ⟨h.own.mono hB, fun r hr => (h.rows r hr).mono hB⟩
theorem apart (h : RwOwn B W A c R) {row : Option Nat} {T : TypeId} (hg : W.grownBy W' row) (hr : ∀ x, row = some x → isK W T x) (h1 : 37 ≠ T) (h2 : 64 ≠ T) : RwOwn B W' A c R :=
  ⟨h.own.apart hg hr h1, fun r hx => (h.rows r hx).apart hg hr h2⟩
theorem one (h : RwOwn B W A c R) {r : Rw} (hr : EOwn eVa W B r.a r.c r.l) {A3 : Option Addr} {c3 : Nat} (ho3 : EOwn eRw W' B A3 c3 (R ++ [r])) (hg : W.grownBy W' (A.map (·.block))) : RwOwn B W' A3 c3 (R ++ [r]) := by
  refine ⟨ho3, fun s hs => ?_⟩
  have hk := h.own.turns
  rcases List.mem_append.1 hs with hs | hs
  · exact (h.rows s hs).apart hg hk (by decide)
  · rw [List.mem_singleton.1 hs]; exact hr.apart hg hk (by decide)
end RwOwn
structure KyOwn (B : Nat) (W : World) (A : Option Addr) (c : Nat) (P : List Part) : Prop where
  own : EOwn eKy W B A c P
  rows : ∀ p ∈ P, BOwn W B p.a p.c p.l
namespace KyOwn
variable {B c : Nat} {W W' : World} {A : Option Addr} {P : List Part}
theorem start : KyOwn B W none 0 [] := ⟨EOwn.nil _ _, by intro r hr; cases hr⟩
theorem below (h : KyOwn B W A c P) (hB : Below W.heap.size W W') : KyOwn B W' A c P := ⟨h.own.below hB, fun r hr => (h.rows r hr).below hB⟩
theorem mono {B' : Nat} (h : KyOwn B W A c P) (hB : B' ≤ B) : KyOwn B' W A c P := ⟨h.own.mono hB, fun r hr => (h.rows r hr).mono hB⟩
theorem apart (h : KyOwn B W A c P) {row : Option Nat} {T : TypeId} (hg : W.grownBy W' row) (hr : ∀ x, row = some x → isK W T x) (h1 : 32 ≠ T) (h2 : 5 ≠ T) : KyOwn B W' A c P :=
  ⟨h.own.apart hg hr h1, fun r hx => (h.rows r hx).apart hg hr h2⟩
theorem turn (h : KyOwn B W A c P) {P' : List Part} (hp : ∀ p ∈ P', p ∈ P) {A3 : Option Addr} {c3 : Nat} (ho3 : EOwn eKy W' B A3 c3 P') (hg : W.grownBy W' (A.map (·.block))) : KyOwn B W' A3 c3 P' :=
  ⟨ho3, fun s hs => (h.rows s (hp s hs)).apart hg h.own.turns (by decide)⟩
theorem one (h : KyOwn B W A c P) {r : Part} (hr : BOwn W B r.a r.c r.l) {A3 : Option Addr} {c3 : Nat} (ho3 : EOwn eKy W' B A3 c3 (P ++ [r])) (hg : W.grownBy W' (A.map (·.block))) : KyOwn B W' A3 c3 (P ++ [r]) := by
  refine ⟨ho3, fun s hs => ?_⟩
  have hk := h.own.turns
  rcases List.mem_append.1 hs with hs | hs
  · exact (h.rows s hs).apart hg hk (by decide)
  · rw [List.mem_singleton.1 hs]; exact hr.apart hg hk (by decide)
end KyOwn
structure TbOwn (B : Nat) (W : World) (A : Option Addr) (c : Nat) (G : List Gr) : Prop where
  own : EOwn eT3 W B A c G
  rows : ∀ g ∈ G, RwOwn B W g.a g.c g.l
namespace TbOwn
variable {B c : Nat} {W W' : World} {A : Option Addr} {G : List Gr}
theorem start : TbOwn B W none 0 [] := ⟨EOwn.nil _ _, by intro r hr; cases hr⟩
theorem below (h : TbOwn B W A c G) (hB : Below W.heap.size W W') : TbOwn B W' A c G := ⟨h.own.below hB, fun r hr => (h.rows r hr).below hB⟩
theorem apart (h : TbOwn B W A c G) {row : Option Nat} {T : TypeId} (hg : W.grownBy W' row) (hr : ∀ x, row = some x → isK W T x) (h0 : 43 ≠ T) (h1 : 37 ≠ T) (h2 : 64 ≠ T) : TbOwn B W' A c G :=
  ⟨h.own.apart hg hr h0, fun r hx => (h.rows r hx).apart hg hr h1 h2⟩
theorem one (h : TbOwn B W A c G) {g : Gr} (hr : RwOwn B W g.a g.c g.l) {A3 : Option Addr} {c3 : Nat} (ho3 : EOwn eT3 W' B A3 c3 (G ++ [g])) (hg : W.grownBy W' (A.map (·.block))) : TbOwn B W' A3 c3 (G ++ [g]) := by
  refine ⟨ho3, fun s hs => ?_⟩
  have hk := h.own.turns
  rcases List.mem_append.1 hs with hs | hs
  · exact (h.rows s hs).apart hg hk (by decide) (by decide)
  · rw [List.mem_singleton.1 hs]; exact hr.apart hg hk (by decide) (by decide)
end TbOwn
structure KsOwn (B : Nat) (W : World) (A : Option Addr) (c : Nat) (K : List Ks) : Prop where
  own : EOwn eKs W B A c K
  rows : ∀ k ∈ K, KyOwn B W k.a k.c k.l
namespace KsOwn
variable {B c : Nat} {W W' : World} {A : Option Addr} {K : List Ks}
theorem start : KsOwn B W none 0 [] := ⟨EOwn.nil _ _, by intro r hr; cases hr⟩
theorem below (h : KsOwn B W A c K) (hB : Below W.heap.size W W') : KsOwn B W' A c K := ⟨h.own.below hB, fun r hr => (h.rows r hr).below hB⟩
theorem apart (h : KsOwn B W A c K) {row : Option Nat} {T : TypeId} (hg : W.grownBy W' row) (hr : ∀ x, row = some x → isK W T x) (h0 : 77 ≠ T) (h1 : 32 ≠ T) (h2 : 5 ≠ T) : KsOwn B W' A c K :=
  ⟨h.own.apart hg hr h0, fun r hx => (h.rows r hx).apart hg hr h1 h2⟩
theorem one (h : KsOwn B W A c K) {g : Ks} (hr : KyOwn B W g.a g.c g.l) {A3 : Option Addr} {c3 : Nat} (ho3 : EOwn eKs W' B A3 c3 (K ++ [g])) (hg : W.grownBy W' (A.map (·.block))) : KsOwn B W' A3 c3 (K ++ [g]) := by
  refine ⟨ho3, fun s hs => ?_⟩
  have hk := h.own.turns
  rcases List.mem_append.1 hs with hs | hs
  · exact (h.rows s hs).apart hg hk (by decide) (by decide)
  · rw [List.mem_singleton.1 hs]; exact hr.apart hg hk (by decide) (by decide)
end KsOwn
structure TbIn (w : World) (A : Option Addr) (G : List Gr) : Prop where
  r : ERow eT3 w A G
  in_ : ∀ g ∈ G, RowsOk w g.a g.l
  few : G.length ≤ 1000
  gl : ∀ g ∈ G, g.l.length ≤ 1000
  rl : ∀ g ∈ G, ∀ r ∈ g.l, r.l.length ≤ 1000
  vl : ∀ g ∈ G, ∀ r ∈ g.l, ∀ v ∈ r.l, v.s.length ≤ 1000
theorem TbIn.below {w W : World} {A : Option Addr} {G : List Gr} (h : TbIn w A G) (hB : Below w.heap.size w W) : TbIn W A G := ⟨h.r.below hB, fun g hg => (h.in_ g hg).below hB, h.few, h.gl, h.rl, h.vl⟩
structure KsIn (w : World) (A : Option Addr) (K : List Ks) : Prop where
  r : ERow eKs w A K
  rows : ∀ k ∈ K, ERow eKy w k.a k.l
  by_ : ∀ k ∈ K, ∀ p ∈ k.l, BRow w p.a p.l
  few : K.length ≤ 1000
  kl : ∀ k ∈ K, k.l.length ≤ 1000
  pl : ∀ k ∈ K, ∀ p ∈ k.l, p.l.length ≤ 200000
theorem KsIn.below {w W : World} {A : Option Addr} {K : List Ks} (h : KsIn w A K) (hB : Below w.heap.size w W) : KsIn W A K := ⟨h.r.below hB, fun k hk => (h.rows k hk).below hB, fun k hk p hp => (h.by_ k hk p hp).below hB, h.few, h.kl, h.pl⟩
structure MemAt (w : World) (g : Nat) (G : List Gr) (K : List Ks) : Prop where
  at_ : ∃ ta tc ka kc, Blk w g 75 [.slice ta G.length tc, .slice ka K.length kc] ∧ TbIn w ta G ∧ KsIn w ka K
theorem MemAt.below {w W : World} {g : Nat} {G : List Gr} {K : List Ks} (h : MemAt w g G K) (hB : Below w.heap.size w W) : MemAt W g G K := by
  obtain ⟨ta, tc, ka, kc, h1, h2, h3⟩ := h.at_
  exact ⟨ta, tc, ka, kc, h1.below hB, h2.below hB, h3.below hB⟩
theorem T3_at {w : World} {A : Option Addr} {L : List Gr} (h : ERow eT3 w A L) {j : Nat} (hj : j < L.length) : ∃ b o, A = some ⟨b, o, none⟩ ∧ b < w.heap.size ∧ w.cell? ⟨b, o + j, none⟩ = some L[j].h := by
  obtain ⟨b, o, e, hb, hc⟩ := h.at_ hj
  refine ⟨b, o, e, hb, ?_⟩
  have := hc 0 _ rfl
  rwa [show o + (j * eT3.sz + 0) = o + j by show o + (j * 1 + 0) = _; omega] at this
theorem Ks_at {w : World} {A : Option Addr} {L : List Ks} (h : ERow eKs w A L) {j : Nat} (hj : j < L.length) : ∃ b o, A = some ⟨b, o, none⟩ ∧ b < w.heap.size ∧ w.cell? ⟨b, o + j, none⟩ = some L[j].h := by
  obtain ⟨b, o, e, hb, hc⟩ := h.at_ hj
  refine ⟨b, o, e, hb, ?_⟩
  have := hc 0 _ rfl
  rwa [show o + (j * eKs.sz + 0) = o + j by show o + (j * 1 + 0) = _; omega] at this
theorem Ky_at {w : World} {A : Option Addr} {L : List Part} (h : ERow eKy w A L) {j : Nat} (hj : j < L.length) : ∃ b o, A = some ⟨b, o, none⟩ ∧ b < w.heap.size ∧ w.cell? ⟨b, o + j, none⟩ = some L[j].v := by
  obtain ⟨b, o, e, hb, hc⟩ := h.at_ hj
  refine ⟨b, o, e, hb, ?_⟩
  have := hc 0 _ rfl
  rwa [show o + (j * eKy.sz + 0) = o + j by show o + (j * 1 + 0) = _; omega] at this
set_option maxRecDepth 20000 in
set_option maxHeartbeats 1000000 in
theorem vclone_any (w : World) (A : Option Addr) (c : Nat) (L : List Va) (hr : ERow eVa w A L) (hl : L.length ≤ 1000000) :
    Calls Tryz.prog 22 #[.slice A L.length c] w fun e w' => ∃ A1 c1, e = .returned (.slice A1 L.length c1) ∧ EOwn eVa w' w.heap.size A1 c1 L ∧ Below w.heap.size w w' := by
  cases A with
  | none =>
    have hl0 : L = [] := by
      cases L with
      | nil => rfl
      | cons x l => obtain ⟨b, o, h, _⟩ := hr (by simp); cases h
    subst hl0
    have hq := Lib.run_eql_slice_nil (P := Tryz.prog) w 37 64 none 0 c 0 0 Tryz.underlying37
    go_enter Tryz.func22, Tryz.ntmps22
    go_wp2_with fail
    go_ret
    exact ⟨none, 0, rfl, EOwn.nil _ _, Below.refl _ _⟩
  | some a =>
    have hq := Lib.run_eql_slice_nil (P := Tryz.prog) w 37 64 (some a) L.length c 0 0 Tryz.underlying37
    have hoe : EOwn eVa (w.alloc (.cells #[] 64)) w.heap.size (some ⟨w.heap.size, 0, none⟩) 0 [] := EOwn.new w [] (by simp [maxLen]) (Nat.le_refl _) #[] rfl
    have hrr : ERow eVa (w.alloc (.cells #[] 64)) (some a) L := hr.below ((Below.refl _ _).alloc (Nat.le_refl _) _)
    go_enter Tryz.func22, Tryz.ntmps22
    go_wp2_with (at_builtin; refine wpList_append_elems eVa rfl (.tmp 5) (.tmp 6) rfl 0 rfl hoe rfl _ rfl hrr rfl (by simp; omega) (by simp) ?_; intro A3 c3 w3 ho3 hb3 _ _)
    go_ret
    rw [List.nil_append] at ho3
    exact ⟨A3, c3, by simp, ho3, ((Below.refl _ _).alloc (Nat.le_refl _) _).trans hb3⟩
end Go.Proofs.YtpahkaffknnjhaaGreatDoor
end

section
namespace Go.Proofs.YtpahkaffknnjhaaGreatDoor
set_option linter.unusedSimpArgs false
set_option linter.unusedVariables false
open Go.RowKit
theorem run_cmpRow {w : World} {A B : Option Addr} {l m : List UInt8} (c d : Nat) (hl : BRow w A l) (hm : BRow w B m) : (Extern.BytealgCompare.compare #[.slice A l.length c, .slice B m.length d]).run Tryz.prog w = .ok (.int .i64 (Run.cmp l m)) w := by
  change Sem.run Tryz.prog (do pure (goInt (Extern.BytealgCompare.cmp (← Extern.Bytes.bytesOf (.slice A l.length c)) (← Extern.Bytes.bytesOf (.slice B m.length d))))) w = _
  simp only [Sem.run_bind, run_rowBytes c hl, run_rowBytes d hm, Sem.run_pure, Result.andThen]
  rw [Lib.cmp_eq]
  rfl
set_option maxRecDepth 20000 in
theorem bcompare_any (w : World) (A B : Option Addr) (c d : Nat) (l m : List UInt8) (hl : BRow w A l) (hm : BRow w B m) : Calls Tryz.prog 24 #[.slice A l.length c, .slice B m.length d] w fun e w' => e = .returned (.int .i64 (Run.cmp l m)) ∧ w' = w := by
  have hx := run_cmpRow c d hl hm
  go_enter Tryz.func24, Tryz.ntmps24
  go_wp2_with fail
  rw [run_callFunc_extern Tryz.func42 (by kernel_rfl) (by kernel_rfl) (by kernel_rfl) (e := Extern.BytealgCompare.compare) (by kernel_rfl), hx]
  simp only [Result.andThen]
  rw [Oper.upon_value]
  go_wp2_with fail
  go_ret
  exact ⟨rfl, rfl⟩
end Go.Proofs.YtpahkaffknnjhaaGreatDoor
end

section
namespace Go.Proofs.YtpahkaffknnjhaaGreatDoor
set_option linter.unusedSimpArgs false
set_option linter.unusedVariables false
open Go.RowKit
theorem cut_one (l : List UInt8) (i : Nat) (h : i < l.length) : (ByteArray.mk l.toArray).extract i (i + 1) = ⟨#[l[i]]⟩ := by
  apply ByteArray.ext
  simp only [ByteArray.data_extract]
  apply Array.ext'
  simp
  rw [← List.getElem_cons_drop h]
  rfl
end Go.Proofs.YtpahkaffknnjhaaGreatDoor
end

section
namespace Go.Proofs.YtpahkaffknnjhaaGreatDoor
set_option linter.unusedSimpArgs false
set_option linter.unusedVariables false
open Go.RowKit
namespace Key
end Key
end Go.Proofs.YtpahkaffknnjhaaGreatDoor
end

section
namespace Go.Proofs.YtpahkaffknnjhaaGreatDoor
set_option linter.unusedSimpArgs false
set_option linter.unusedVariables false
open Go.RowKit
namespace Key
end Key
end Go.Proofs.YtpahkaffknnjhaaGreatDoor
end

section
namespace Go.Proofs.YtpahkaffknnjhaaGreatDoor
set_option linter.unusedSimpArgs false
set_option linter.unusedVariables false
open Go.RowKit
namespace Key
def pay (v : Va) : List UInt8 :=
  if v.k = 1 then Wire.num (Wire.ofInt v.n) else if v.k = 2 then Wire.num (pbits v.f) else if v.k = 3 then Wire.text v.s else if v.k = 4 then [if v.n = 1 then 1 else 0] else []
def rowOf (v : Va) : List UInt8 := UInt8.ofNat v.k.toNat :: pay v
def row (L : List Va) : List UInt8 := Wire.num L.length ++ L.flatMap fun v => rowOf (clean v)
theorem real1_idem (f : Nat) : real1 (real1 f) = real1 f := by
  unfold real1
  split
  · rfl
  · next h =>
    split
    · rfl
    · rfl
end Key
end Go.Proofs.YtpahkaffknnjhaaGreatDoor
end

section
namespace Go.Proofs.YtpahkaffknnjhaaGreatDoor
set_option linter.unusedSimpArgs false
set_option linter.unusedVariables false
open Go.RowKit
end Go.Proofs.YtpahkaffknnjhaaGreatDoor
end

section
namespace Go.Proofs.YtpahkaffknnjhaaGreatDoor
set_option linter.unusedSimpArgs false
set_option linter.unusedVariables false
open Go.RowKit
end Go.Proofs.YtpahkaffknnjhaaGreatDoor
end

section
namespace Go.Proofs.YtpahkaffknnjhaaGreatDoor
set_option linter.unusedSimpArgs false
set_option linter.unusedVariables false
open Go.RowKit
def AftB (w : World) (l : List UInt8) (e : Ending) (w' : World) : Prop :=
  ∃ r, Key.IsAfter l r ∧ Below w.heap.size w w' ∧ ((r = none ∧ e = .returned (.tuple #[.slice none 0 0, .bool false])) ∨ ∃ a A c, r = some a ∧ e = .returned (.tuple #[.slice A a.length c, .bool true]) ∧ BRow w' A a ∧ a.length ≤ c)
def slcLen : Value → Nat
  | .slice _ n _ => n
  | _ => 0
theorem after_hit {l : List UInt8} {m : Nat} (hm : m < l.length) (hx : l[m] < 255) (ht : ∀ d ∈ l.drop (m + 1), d = 255) : Key.IsAfter l (some (l.take m ++ [l[m] + 1])) :=
  .inr ⟨l.take m, l[m], l.drop (m + 1), by rw [List.getElem_cons_drop, List.take_append_drop], hx, ht, rfl⟩
theorem after_step {l : List UInt8} {m : Nat} (hm : m < l.length) (hx : ¬ l[m] < 255) (ht : ∀ d ∈ l.drop (m + 1), d = 255) : ∀ d ∈ l.drop m, d = 255 := by
  intro d hd
  rw [← List.getElem_cons_drop hm] at hd
  rcases List.mem_cons.1 hd with rfl | hd
  · have := l[m].toNat_lt
    rw [UInt8.lt_iff_toNat_lt] at hx
    have e0 : (255 : UInt8).toNat = 255 := rfl
    exact UInt8.toNat_inj.1 (by omega)
  · exact ht d hd
theorem after_none {l : List UInt8} (h : ∀ d ∈ l.drop 0, d = 255) : Key.IsAfter l none := .inl ⟨rfl, by simpa using h⟩
theorem take_set {l : List UInt8} {m : Nat} (hm : m < l.length) (x : UInt8) : (l.set m x).take (m + 1) = l.take m ++ [x] := by
  rw [List.take_succ_eq_append_getElem (by simpa using hm), List.take_set_of_le (Nat.le_refl _)]
  simp
theorem add_one_u8 {x : UInt8} (h : x < 255) : bv (x + 1) = .int .u8 ((x.toNat : Int) + 1) := by
  rw [UInt8.lt_iff_toNat_lt] at h
  have e0 : (255 : UInt8).toNat = 255 := rfl
  unfold bv
  rw [UInt8.toNat_add]
  have e1 : (1 : UInt8).toNat = 1 := rfl
  rw [e1, Nat.mod_eq_of_lt (by omega)]
  rfl
set_option maxRecDepth 20000 in
set_option maxHeartbeats 2000000 in
theorem kafter_any (w : World) (A : Option Addr) (c : Nat) (l : List UInt8) (hr : BRow w A l) (hl : l.length ≤ 1000000) : Calls Tryz.prog 145 #[.slice A l.length c] w (AftB w l) := by
  have HR := Lib.hid hr
  clear hr
  go_enter Tryz.func145, Tryz.ntmps145
  go_wp2_with fail
  refine (clone_any _ A c l HR.out hl).mono ?_
  rintro e w1 ⟨A1, c1, rfl, ho, hb⟩
  have HO := Lib.hid (And.intro ho hb)
  have hcap := ho.cap
  clear ho hb
  go_wp2_with fail
  go_loop [4] (fun ov => ∃ k : Nat, k ≤ l.length ∧ ov = .slice A1 k c1 ∧ Hid (∀ d ∈ l.drop k, d = 255)) (fun ov => slcLen ov)
  case atStart => exact ⟨l.length, Nat.le_refl _, rfl, by show ∀ _, _; simp⟩
  case round =>
    obtain ⟨k, hk, rfl, HK⟩ := hrel
    by_cases h0 : 0 < k
    · obtain ⟨m, rfl⟩ : ∃ m, k = m + 1 := ⟨k - 1, by omega⟩
      have hm : m < l.length := by omega
      have hi : (0 : Int) < ((m + 1 : Nat) : Int) := by omega
      rcases HO.out.1.form with ⟨_, _, rfl⟩ | ⟨g, rfl, hBg, hg, hlc, _⟩
      · simp at hm
      · have hc0 := HO.out.1.cell (j := m) hm
        have hf0 := HO.out.1.free m
        have hx := l[m].toNat_lt
        have HS := Lib.hid (after_step hm)
        have HH := Lib.hid (after_hit hm)
        have HT := Lib.hid (take_set hm (l[m] + 1))
        have HST := Lib.hid (fun (v : Value) (hv : bv (l[m] + 1) = v) => HO.out.1.store m (l[m] + 1) v hv)
        by_cases h5 : l[m] < 255
        · have HV := Lib.hid (add_one_u8 h5)
          have H5 := Lib.hid h5
          have h5i : (l[m].toNat : Int) < 255 := by rw [UInt8.lt_iff_toNat_lt] at h5; have e0 : (255 : UInt8).toNat = 255 := rfl; omega
          clear h5
          generalize l[m].toNat = x at hc0 hx h5i HV
          go_wp2_with fail
          go_ret2
          have hln : (l.take m ++ [l[m] + 1]).length = m + 1 := by simp; omega
          refine ⟨some (l.take m ++ [l[m] + 1]), HH.out H5.out HK.out, HO.out.2.setCell (p := ⟨g, m, none⟩) hBg _, .inr ⟨_, some ⟨g, 0, none⟩, c1, rfl, ?_, ?_, ?_⟩⟩
          · rw [hln]; rfl
          · rw [← HT.out]; exact (HST.out _ HV.out).row.take (m + 1)
          · rw [hln]; omega
        · have H5 := Lib.hid h5
          have h5i : ¬ (l[m].toNat : Int) < 255 := by rw [UInt8.lt_iff_toNat_lt] at h5; have e0 : (255 : UInt8).toNat = 255 := rfl; omega
          clear h5
          generalize l[m].toNat = x at hc0 hx h5i
          go_wp2_with fail
          go_round
          case rel => exact ⟨m, by omega, by go_num, HS.out H5.out HK.out⟩
          case measure => simp [slcLen]
    · obtain rfl : k = 0 := by omega
      go_wp2_with fail
      go_ret2
      exact ⟨none, after_none HK.out, HO.out.2, .inl ⟨rfl, rfl⟩⟩
end Go.Proofs.YtpahkaffknnjhaaGreatDoor
end

section
namespace Go.Proofs.YtpahkaffknnjhaaGreatDoor
set_option linter.unusedSimpArgs false
set_option linter.unusedVariables false
open Go.RowKit
end Go.Proofs.YtpahkaffknnjhaaGreatDoor
end

section
namespace Go.Proofs.YtpahkaffknnjhaaGreatDoor
set_option linter.unusedSimpArgs false
set_option linter.unusedVariables false
open Go.RowKit
namespace Key
end Key
end Go.Proofs.YtpahkaffknnjhaaGreatDoor
end

section
namespace Go.Proofs.YtpahkaffknnjhaaGreatDoor
set_option linter.unusedSimpArgs false
set_option linter.unusedVariables false
open Go.RowKit
namespace Key
end Key
end Go.Proofs.YtpahkaffknnjhaaGreatDoor
end

section
namespace Go.Proofs.YtpahkaffknnjhaaGreatDoor
set_option linter.unusedSimpArgs false
set_option linter.unusedVariables false
open Go.RowKit
theorem bv_ofNat' (m : Int) (h : 0 ≤ m) (h2 : m < 256) : bv (UInt8.ofNat m.toNat) = .int .u8 m := by simp [bv]; omega
def RetS (w : World) (l : List UInt8) (e : Ending) (w' : World) : Prop := e = .returned (txt l) ∧ Below w.heap.size w w'
set_option maxRecDepth 20000 in
set_option maxHeartbeats 4000000 in
theorem refpart8_any (w : World) (v : Va) (hv : v.ok) (hs : v.s.length ≤ 1000) : Calls Tryz.prog 34 #[v.v] w (RetS w (Key.part (Key.dclean v))) := by
  have HV := Lib.hid hv
  have HOK := Lib.hid (Key.dclean_ok hv)
  have HCL := Lib.hid (Key.clean_of v)
  have hsl : (Key.dclean v).s.length ≤ 1000 := by
    unfold Key.dclean Key.cleanF Key.nul
    (repeat' split) <;> simp only <;> first | exact hs | exact Nat.zero_le _
  clear hv hs
  go_enter Tryz.func34, Tryz.ntmps34
  go_upto_region 1 with (refine wpList_box_va rfl (.tmp 0) rfl v rfl ?_; intro W1 hb1 hz1 hB1)
  go_wp2_with (refine wpList_load_va rfl (.tmp 1) rfl w.heap.size rfl hb1 ?_)
  refine (dclean_any _ v HV.out).mono ?_
  rintro e W2 ⟨rfl, hB2⟩
  have hb2 := hb1.below hB2
  have HB2 := Lib.hid (hB1.then hB2)
  clear hb1 hB2 hB1 hz1
  generalize hd : Key.dclean v = d at HOK HCL hsl ⊢
  have HD := Lib.hid hd
  clear hd
  go_upto_region 2 with (refine wpList_store_va rfl rfl (.tmp 1) (.tmp 6) rfl w.heap.size rfl d rfl hb2 ?_; intro W3 hb3 hg3)
  have HB3 := Lib.hid (below_of_grown HB2.out hg3 (Nat.le_refl _) HB2.out.size)
  clear hg3 hb2 HB2
  obtain ⟨c0, c1, c2, c3, -, -, -, -, -⟩ := Blk.c4 hb3
  obtain ⟨k, n, f, s⟩ := d
  simp only at c0 c1 c2 c3 hsl
  have hcat := run_cat
  rcases HCL.out.kind with rfl | rfl | rfl | rfl | rfl
  · have HP : Hid (Key.part ⟨0, n, f, s⟩ = [0]) := rfl
    clear hcat c1 c2 c3
    go_wp2_with fail
    go_ret
    exact ⟨congrArg (fun l => Ending.returned (txt l)) (HP.out.symm.trans (congrArg Key.part HD.out.symm)), HB3.out⟩
  · have HP : Hid (Key.part ⟨1, n, f, s⟩ = [1] ++ Key.id n) := rfl
    have HIL := Lib.hid (Key.id_length n)
    clear c2 c3
    have hj := fun w => hcat w [1] (Key.id n) (by rw [HIL.out]; decide)
    clear hcat
    go_wp2_with fail
    refine (refid_any _ n HOK.out.n1 HOK.out.n2).mono ?_
    rintro e W4 ⟨rfl, hB4⟩
    have HB4 := Lib.hid (HB3.out.then hB4)
    clear c0 c1 hB4
    have hj2 : (binOp .add 9 (.string ⟨#[1]⟩) (txt (Key.id n))).run Tryz.prog W4 = .ok (txt ([1] ++ Key.id n)) W4 := hj W4
    clear hj
    go_wp2_with fail
    go_ret
    exact ⟨congrArg (fun l => Ending.returned (txt l)) (HP.out.symm.trans (congrArg Key.part HD.out.symm)), HB4.out⟩
  · have HP : Hid (Key.part ⟨2, n, f, s⟩ = [1] ++ Wal.hi8 (Key.pbits f)) := rfl
    have HPT := Lib.hid (Key.pbits_top HOK.out.f1)
    clear c1 c3
    go_wp2_with fail
    refine (refbits_any _ f HOK.out.f1).mono ?_
    rintro e wq ⟨rfl, rfl⟩
    go_wp2_with fail
    refine (refhigh8 _ (Key.pbits f) HPT.out).mono ?_
    rintro e W4 ⟨rfl, hB4⟩
    have HB4 := Lib.hid (HB3.out.then hB4)
    clear c0 c2 hB4
    have hj2 : (binOp .add 9 (.string ⟨#[1]⟩) (txt (Wal.hi8 (Key.pbits f)))).run Tryz.prog W4 = .ok (txt ([1] ++ Wal.hi8 (Key.pbits f))) W4 := hcat W4 [1] _ (by rw [Wal.hi8_length]; decide)
    clear hcat
    go_wp2_with fail
    go_ret
    exact ⟨congrArg (fun l => Ending.returned (txt l)) (HP.out.symm.trans (congrArg Key.part HD.out.symm)), HB4.out⟩
  · have HP : Hid (Key.part ⟨3, n, f, s⟩ = 1 :: (Key.esc s ++ [0, 0])) := rfl
    have hsz : (ByteArray.mk s.toArray).size = s.length := by simp [ByteArray.size]
    have HE : Hid ((Key.esc s).length ≤ 2000) := Nat.le_trans (Key.esc_length s) (by omega)
    have HCAT := Lib.hid hcat
    clear c1 c2 hcat
    unfold txt at c3
    go_wp2_with fail
    go_loopw [3, 4] (fun sv iv wr => ∃ i : Nat, i ≤ s.length ∧ sv = txt (1 :: Key.esc (s.take i)) ∧ iv = .int .i64 (i : Int) ∧ Hid (wr = W3)) (fun _ iv _ => s.length - (intOf iv).toNat)
    case atStart => exact ⟨0, Nat.zero_le _, by simp; rfl, rfl, rfl⟩
    case round =>
      obtain ⟨i, hi, rfl, rfl, HJ⟩ := hrel
      obtain rfl : wr = W3 := HJ.out
      clear HJ
      have HEL : Hid ((1 :: Key.esc (s.take i)).length ≤ 2001) := by
        show _ ≤ _
        have := Key.esc_length (s.take i)
        rw [List.length_take] at this
        simp only [List.length_cons]; omega
      by_cases hlt : i < s.length
      · have hii : (i : Int) < (s.length : Int) := by omega
        have HT : Hid (1 :: Key.esc (s.take (i + 1)) = 1 :: (Key.esc (s.take i)) ++ (if s[i] = 0 then [0, 255] else [s[i]])) := by
          show _ = _
          rw [List.take_succ_eq_append_getElem hlt, Key.esc_append, Key.esc_cons, Key.esc_nil, List.append_nil]; rfl
        have hget : (ByteArray.mk s.toArray).data[i]? = some s[i] := by simp [hlt]
        have hi2 : i < (ByteArray.mk s.toArray).size := by rw [hsz]; exact hlt
        have hb : (ByteArray.mk s.toArray)[i]'hi2 = s[i] := by rfl
        have hx := s[i].toNat_lt
        have hcut := cut_one s i hlt
        have hcut2 : ByteArray.extract ⟨s.toArray⟩ i (i + 1) = ⟨[s[i]].toArray⟩ := hcut
        generalize Key.esc (s.take i) = acc at HEL HT ⊢
        by_cases h0 : s[i] = 0
        · have HT2 : Hid (1 :: Key.esc (s.take (i + 1)) = 1 :: acc ++ [0] ++ [255]) := by show _ = _; rw [HT.out, if_pos h0]; simp
          clear HT hcut
          obtain ⟨X, hX⟩ : ∃ X, 1 :: acc ++ [0] = X := ⟨_, rfl⟩
          obtain ⟨Y, hY⟩ : ∃ Y, X ++ [255] = Y := ⟨_, rfl⟩
          have hlX : X.length ≤ 2002 := by have := HEL.out; rw [← hX]; simp at this ⊢; omega
          have hj : (binOp .add 9 (txt (1 :: acc)) (.string ⟨#[0]⟩)).run Tryz.prog wr = .ok (txt X) wr := by rw [← hX]; exact HCAT.out wr (1 :: acc) [0] (by have := HEL.out; simp at this ⊢; omega)
          have hj2 : (binOp .add 9 (txt X) (.string ⟨#[255]⟩)).run Tryz.prog wr = .ok (txt Y) wr := by rw [← hY]; exact HCAT.out wr X [255] (by simp; omega)
          have HY : Hid (1 :: Key.esc (s.take (i + 1)) = Y) := by show _ = _; rw [HT2.out, hX, hY]
          clear hX hY hlX
          rw [h0] at hget hb hcut2
          clear h0
          have hx : (0 : UInt8).toNat = 0 := rfl
          go_wp2_with fail
          go_roundw
          case rel => exact ⟨i + 1, by omega, by rw [HY.out], by go_num, trivial⟩
          case measure => simp [intOf]; omega
        · have HT2 : Hid (1 :: Key.esc (s.take (i + 1)) = 1 :: acc ++ [s[i]]) := by show _ = _; rw [HT.out, if_neg h0]
          have n0 : ¬ (s[i].toNat : Int) = 0 := fun h => h0 (UInt8.toNat_inj.1 (by have e0 : (0 : UInt8).toNat = 0 := rfl; omega))
          clear h0 HT hcut
          have hj : (binOp .add 9 (txt (1 :: acc)) (.string ⟨[s[i]].toArray⟩)).run Tryz.prog wr = .ok (txt (1 :: acc ++ [s[i]])) wr := HCAT.out wr (1 :: acc) [s[i]] (by have := HEL.out; simp at this ⊢; omega)
          generalize s[i] = x at hget hb hx hcut2 HT2 n0 hj
          go_wp2_with fail
          go_roundw
          case rel => exact ⟨i + 1, by omega, by rw [HT2.out]; simp, by go_num, trivial⟩
          case measure => simp [intOf]; omega
      · obtain rfl : i = s.length := by omega
        have hts : s.take s.length = s := List.take_length
        rw [hts] at HEL ⊢
        clear hts
        have hj : (binOp .add 9 (txt (1 :: Key.esc s)) (.string ⟨#[0, 0]⟩)).run Tryz.prog wr = .ok (txt (1 :: Key.esc s ++ [0, 0])) wr := HCAT.out wr (1 :: Key.esc s) [0, 0] (by have := HEL.out; simp at this ⊢; omega)
        go_wp2_with fail
        go_ret
        exact ⟨congrArg (fun l => Ending.returned (txt l)) (HP.out.symm.trans (congrArg Key.part HD.out.symm)), HB3.out⟩
  · have hn : 0 ≤ n ∧ n < 256 := by have := HCL.out.bb rfl; simp only at this; omega
    have HP : Hid (Key.part ⟨4, n, f, s⟩ = [1, UInt8.ofNat n.toNat]) := rfl
    have hw8 : IntKind.u8.wrap n = n := IntWalk.u8_in _ (by omega)
    have hrow := BRow.one W3 (UInt8.ofNat n.toNat) (.int .u8 n) 5 (bv_ofNat' n hn.1 hn.2)
    have hcv := run_string_bytes _ 1 hrow
    simp only [List.length_singleton] at hcv
    have HB4 := Lib.hid (HB3.out.then (Below.alloc1 W3 (.cells #[.int .u8 n] 5)))
    have hj : ByteArray.mk #[1] ++ ByteArray.mk #[UInt8.ofNat n.toNat] = ⟨#[1, UInt8.ofNat n.toNat]⟩ := cut_join [1] [UInt8.ofNat n.toNat]
    clear hrow c2 c3
    unfold txt at hcv
    clear hcat
    go_wp2_with fail
    go_ret
    exact ⟨congrArg (fun l => Ending.returned (txt l)) (HP.out.symm.trans (congrArg Key.part HD.out.symm)), HB4.out⟩
end Go.Proofs.YtpahkaffknnjhaaGreatDoor
end

section
namespace Go.Proofs.YtpahkaffknnjhaaGreatDoor
set_option linter.unusedSimpArgs false
set_option linter.unusedVariables false
open Go.RowKit
namespace Run
def col (c : Int) : Nd := .mk 2 [] Key.nul c false 0 none [] 0
theorem eval_col (row : List Va) (c : Int) : Ev.eval row (col c) = Ev.atV row c := rfl
theorem col_in (w : World) {c : Int} (h : Ev.inB c) : NodeIn w (col c) := by
  refine .mk ERow.nil (by intro m hm; cases hm) Ev.nul_ok (Nat.zero_le _) ⟨?_, ?_⟩ h (Nat.le_refl 0) (Nat.zero_le _)
  · show (-9223372036854775808 : Int) ≤ 2; decide
  · show (2 : Int) ≤ 9223372036854775807; decide
theorem part_len2 {v : Va} (h : v.s.length ≤ 1000) (hc : Key.clean v = v) : (Key.part v).length ≤ 2003 := by rw [← hc]; exact part_len v h
theorem parts_len (cols : List Int) (row : List Va) (h : ∀ v ∈ row, v.s.length ≤ 1000) : (parts cols row).length ≤ 2003 * cols.length := by
  unfold parts
  induction cols with
  | nil => simp
  | cons c l ih =>
    have h1 := part_len2 (at_small h c) (Ev.clean_at row c)
    rw [List.flatMap_cons, List.length_append, List.length_cons]
    omega
theorem key_len (cols : List Int) (row : List Va) (id : Int) (h : ∀ v ∈ row, v.s.length ≤ 1000) : (key cols row id).length ≤ 2003 * cols.length + 8 := by
  have := parts_len cols row h
  unfold key
  rw [List.length_append, Key.id_length]
  omega
end Run
set_option maxRecDepth 20000 in
set_option maxHeartbeats 4000000 in
theorem rkey_any (w : World) (ca : Option Addr) (cc : Nat) (cols : List Int) (hc : ERow eInt w ca cols) (hci : ∀ c ∈ cols, Ev.inB c) (hcl : cols.length ≤ 1000) (R : Option Addr) (rc : Nat) (row : List Va) (hr : RowOk w R row) (hs : ∀ v ∈ row, v.s.length ≤ 1000) (id : Int) (h1 : -9223372036854775808 ≤ id) (h2 : id ≤ 9223372036854775807) :
    Calls Tryz.prog 18 #[.slice ca cols.length cc, .slice R row.length rc, .int .i64 id] w (RetB w (Run.key cols row id)) := by
  have HC := Lib.hid hc
  have HCI := Lib.hid hci
  have HR := Lib.hid hr
  have HS := Lib.hid hs
  have HID := Lib.hid (And.intro h1 h2)
  clear hc hci hr hs h1 h2
  go_enter Tryz.func18, Tryz.ntmps18
  go_wp2_with fail
  go_loopw [7, 12] (fun bv_ iv wr => ∃ (k : Nat) (A1 : Option Addr) (c1 : Nat), k ≤ cols.length ∧ bv_ = .slice A1 (Run.parts (cols.take k) row).length c1 ∧ iv = .int .i64 (k : Int) ∧ Hid (BOwn wr w.heap.size A1 c1 (Run.parts (cols.take k) row) ∧ Below w.heap.size w wr)) (fun _ iv _ => cols.length - (intOf iv).toNat)
  case atStart => exact ⟨0, none, 0, Nat.zero_le _, rfl, rfl, BOwn.nil _ _, Below.refl _ _⟩
  case round =>
    obtain ⟨k, A1, c1, hk, rfl, rfl, HJ⟩ := hrel
    have HKL : Hid ((Run.parts (cols.take k) row).length ≤ 2003000) := by
      show _ ≤ _
      have := Run.parts_len (cols.take k) row HS.out
      rw [List.length_take] at this
      omega
    by_cases hlt : k < cols.length
    · have hii : (k : Int) < (cols.length : Int) := by omega
      obtain ⟨b, o, rfl, hb, hcell⟩ := int_at (HC.out.below HJ.out.2) hlt
      have HSN := Lib.hid (Run.parts_take cols row k hlt)
      have HCB := Lib.hid (HCI.out _ (List.getElem_mem hlt))
      generalize cols[k] = cv at hcell HSN HCB
      go_wp2_with fail
      refine ((eval_any w R rc row HR.out.r HR.out.ok HR.out.len (Run.col cv) (Run.col_in _ HCB.out)) wr HJ.out.2).mono ?_
      rintro e W3 ⟨rfl, hB3⟩
      rw [Run.eval_col]
      have HB3 : Hid (BOwn W3 w.heap.size A1 c1 (Run.parts (cols.take k) row) ∧ Below w.heap.size w W3) := ⟨HJ.out.1.below hB3, HJ.out.2.then hB3⟩
      have HAT : Hid ((Ev.atV row cv).ok ∧ (Ev.atV row cv).s.length ≤ 1000 ∧ Key.clean (Ev.atV row cv) = Ev.atV row cv) := ⟨Ev.at_ok HR.out.ok cv, Run.at_small HS.out cv, Ev.clean_at row cv⟩
      clear hB3 hcell hb
      generalize Ev.atV row cv = v at HAT HSN ⊢
      go_wp2_with fail
      refine (part_any W3 v HAT.out.1 HAT.out.2.1).mono ?_
      rw [HAT.out.2.2]
      rintro e W4 ⟨A4, c4, rfl, hr4, hc4, hB4⟩
      have HB : Hid (BOwn W4 w.heap.size A1 c1 (Run.parts (cols.take k) row) ∧ Below w.heap.size w W4) := ⟨HB3.out.1.below hB4, HB3.out.2.then hB4⟩
      have H4 := Lib.hid hr4
      have HPL := Lib.hid (Run.part_len2 HAT.out.2.1 HAT.out.2.2)
      clear hr4 hB4
      go_wp2_with (at_builtin; refine wpList_append_bytes rfl (.tmp 16) (.tmp 21) rfl _ rfl HB.out.1 rfl _ rfl H4.out rfl (by have := HKL.out; have := HPL.out; omega) HB.out.2.size ?_; intro A5 c5 W5 ho5 hb5 _ _)
      go_roundw
      case rel =>
        refine ⟨k + 1, A5, c5, by omega, ?_, by go_num, ?_⟩
        · rw [HSN.out, List.length_append]
        · rw [HSN.out]; exact ⟨ho5, HB.out.2.trans hb5⟩
      case measure => simp [intOf]; omega
    · obtain rfl : k = cols.length := by omega
      have hlt2 : cols.take cols.length = cols := List.take_length
      rw [hlt2] at HJ HKL ⊢
      clear hlt2
      go_wp2_with fail
      refine (kid_any wr id HID.out.1 HID.out.2).mono ?_
      rintro e W4 ⟨A4, c4, rfl, hr4, hc4, hB4⟩
      have HB : Hid (BOwn W4 w.heap.size A1 c1 (Run.parts cols row) ∧ Below w.heap.size w W4) := ⟨HJ.out.1.below hB4, HJ.out.2.then hB4⟩
      have H4 := Lib.hid hr4
      have HIL := Lib.hid (Key.id_length id)
      clear hr4 hB4
      go_wp2_with (at_builtin; refine wpList_append_bytes rfl (.tmp 24) (.tmp 26) rfl _ rfl HB.out.1 rfl _ rfl H4.out rfl (by have := HKL.out; have := HIL.out; omega) HB.out.2.size ?_; intro A5 c5 W5 ho5 hb5 _ _)
      go_ret
      have e : (Run.key cols row id).length = (Run.parts cols row).length + (Key.id id).length := by unfold Run.key; rw [List.length_append]
      exact ⟨A5, c5, by rw [e]; rfl, ho5, HB.out.2.trans hb5⟩
set_option maxRecDepth 20000 in
set_option maxHeartbeats 4000000 in
theorem refrkey_any (w : World) (ca : Option Addr) (cc : Nat) (cols : List Int) (hc : ERow eInt w ca cols) (hcl : cols.length ≤ 1000) (R : Option Addr) (rc : Nat) (row : List Va) (hr : RowOk w R row) (hs : ∀ v ∈ row, v.s.length ≤ 1000) (id : Int) (h1 : -9223372036854775808 ≤ id) (h2 : id ≤ 9223372036854775807) :
    Calls Tryz.prog 19 #[.slice ca cols.length cc, .slice R row.length rc, .int .i64 id] w (RetS w (Run.key cols row id)) := by
  have HC := Lib.hid hc
  have HR := Lib.hid hr
  have HS := Lib.hid hs
  have HID := Lib.hid (And.intro h1 h2)
  clear hc hr hs h1 h2
  go_enter Tryz.func19, Tryz.ntmps19
  go_wp2_with fail
  go_loopw [7, 8] (fun sv iv wr => ∃ k : Nat, k ≤ cols.length ∧ sv = txt (Run.parts (cols.take k) row) ∧ iv = .int .i64 (k : Int) ∧ Hid (Below w.heap.size w wr)) (fun _ iv _ => cols.length - (intOf iv).toNat)
  case atStart => exact ⟨0, Nat.zero_le _, rfl, rfl, Below.refl _ _⟩
  case round =>
    obtain ⟨k, hk, rfl, rfl, HB⟩ := hrel
    have HKL : Hid ((Run.parts (cols.take k) row).length ≤ 2003000) := by
      show _ ≤ _
      have := Run.parts_len (cols.take k) row HS.out
      rw [List.length_take] at this
      omega
    by_cases hlt : k < cols.length
    · have hii : (k : Int) < (cols.length : Int) := by omega
      obtain ⟨b, o, rfl, hb, hcell⟩ := int_at (HC.out.below HB.out) hlt
      have HSN := Lib.hid (Run.parts_take cols row k hlt)
      generalize cols[k] = cv at hcell HSN
      go_wp2_with fail
      refine (rat_any wr R rc row cv (HR.out.r.below HB.out) HR.out.ok HR.out.len).mono ?_
      rintro e W3 ⟨v, rfl, hdv, hB3⟩
      have hsm := Run.dv_small hdv (Run.at_small HS.out cv)
      have HV : Hid (v.ok ∧ v.s.length ≤ 1000) := ⟨hdv.ok, hsm.1⟩
      have HPE := Lib.hid hsm.2
      have HB3 := Lib.hid (HB.out.then hB3)
      clear hB3 hcell hb hdv hsm
      go_wp2_with fail
      refine (refpart8_any W3 v HV.out.1 HV.out.2).mono ?_
      rw [HPE.out]
      rintro e W4 ⟨rfl, hB4⟩
      have HPL : Hid ((Key.part (Ev.atV row cv)).length ≤ 2003) := Run.part_len2 (Run.at_small HS.out cv) (Ev.clean_at row cv)
      have HB4 := Lib.hid (HB3.out.then hB4)
      have hj := run_cat W4 (Run.parts (cols.take k) row) (Key.part (Ev.atV row cv)) (by have := HKL.out; have := HPL.out; omega)
      clear hB4
      go_wp2_with fail
      go_roundw
      case rel => exact ⟨k + 1, by omega, by rw [HSN.out], by go_num, HB4.out⟩
      case measure => simp [intOf]; omega
    · obtain rfl : k = cols.length := by omega
      have hts : cols.take cols.length = cols := List.take_length
      rw [hts] at HKL ⊢
      clear hts
      go_wp2_with fail
      refine (refid_any wr id HID.out.1 HID.out.2).mono ?_
      rintro e W4 ⟨rfl, hB4⟩
      have HIL := Lib.hid (Key.id_length id)
      have HB4 := Lib.hid (HB.out.then hB4)
      have hj := run_cat W4 (Run.parts cols row) (Key.id id) (by have := HKL.out; have := HIL.out; omega)
      clear hB4
      go_wp2_with fail
      go_ret
      exact ⟨rfl, HB4.out⟩
end Go.Proofs.YtpahkaffknnjhaaGreatDoor
end

section
namespace Go.Proofs.YtpahkaffknnjhaaGreatDoor
set_option linter.unusedSimpArgs false
set_option linter.unusedVariables false
open Go.RowKit
namespace Run
def find (L : List Bs) (m : Bs) : Nat := (L.takeWhile fun x => decide (cmp x m < 0)).length
theorem find_at {L : List Bs} {m : Bs} {i : Nat} (hi : i ≤ L.length) (h1 : ∀ t (h : t < L.length), t < i → cmp L[t] m < 0) (h2 : ∀ t (h : t < L.length), i ≤ t → ¬ cmp L[t] m < 0) : find L m = i := by
  induction L generalizing i with
  | nil => simp at hi; simp [find, hi]
  | cons x L ih =>
    unfold find
    rw [List.takeWhile_cons]
    cases i with
    | zero =>
      have := h2 0 (by simp) (Nat.le_refl _)
      rw [if_neg (by simpa using this)]
      rfl
    | succ i =>
      have := h1 0 (by simp) (by omega)
      rw [if_pos (by simpa using this), List.length_cons]
      have := ih (i := i) (by simpa using hi) (fun t h k => h1 (t + 1) (by simpa using h) (by omega)) (fun t h k => h2 (t + 1) (by simpa using h) (by omega))
      unfold find at this
      rw [this]
abbrev rowsG (g : Gr) : List (List Va) := g.l.map (·.l)
abbrev keysG (k : Ks) : List Bs := k.l.map (·.l)
theorem find_le (L : List Bs) (m : Bs) : find L m ≤ L.length := by
  unfold find
  exact (List.takeWhile_sublist _).length_le
end Run
def RetFind (w : World) (n : Nat) (e : Ending) (w' : World) : Prop := (∃ b : Bool, e = .returned (.tuple #[.int .i64 n, .bool b])) ∧ w' = w
set_option maxRecDepth 20000 in
set_option maxHeartbeats 4000000 in
theorem searchk_any (w : World) (A : Option Addr) (c : Nat) (P : List Part) (hp : ERow eKy w A P) (hb : ∀ p ∈ P, BRow w p.a p.l) (hl : P.length ≤ 1000000) (B : Option Addr) (d : Nat) (m : List UInt8) (hm : BRow w B m) (hs : Srt.Sorted Run.cmp (P.map (·.l))) :
    Calls Tryz.prog 26 #[.slice A P.length c, .slice B m.length d, .func (.func 24) #[] #[]] w (RetFind w (Run.find (P.map (·.l)) m)) := by
  have HP := Lib.hid hp
  have HB := Lib.hid hb
  have HM := Lib.hid hm
  have HS : Hid (∀ i j (h : j < P.length) (hij : i ≤ j), Run.cmp P[j].l m < 0 → Run.cmp (P[i]'(Nat.lt_of_le_of_lt hij h)).l m < 0) := by
    intro i j h hij hlt
    have := Srt.sorted_le Run.cmp_ord hs hij (by simpa using h)
    simp only [List.getElem_map] at this
    exact Run.cmp_ord.lt_of_le_of_lt this hlt
  obtain ⟨F, hF⟩ : ∃ F, Run.find (P.map (·.l)) m = F := ⟨_, rfl⟩
  have HF := Lib.hid hF
  rw [hF]
  clear hp hb hm hs hF
  go_enter Tryz.func26, Tryz.ntmps26
  go_wp2_with fail
  go_loopw [9, 10] (fun iv jv wr => ∃ lo hi : Nat, iv = .int .i64 (lo : Int) ∧ jv = .int .i64 (hi : Int) ∧ lo ≤ hi ∧ hi ≤ P.length ∧ wr = w ∧ Hid ((∀ t (h : t < P.length), t < lo → Run.cmp P[t].l m < 0) ∧ (∀ t (h : t < P.length), hi ≤ t → 0 ≤ Run.cmp P[t].l m))) (fun iv jv _ => (intOf jv).toNat - (intOf iv).toNat)
  case atStart => exact ⟨0, P.length, rfl, rfl, Nat.zero_le _, Nat.le_refl _, rfl, fun t _ h => absurd h (by omega), fun t h k => absurd k (by omega)⟩
  case round =>
    obtain ⟨lo, hi, rfl, rfl, hlh, hip, rfl, HI⟩ := hrel
    by_cases hlt : lo < hi
    · have hii : (lo : Int) < (hi : Int) := by omega
      obtain ⟨h, hh⟩ : ∃ h : Nat, (lo + hi) / 2 = h := ⟨_, rfl⟩
      have hh1 : h < P.length := by omega
      have hwr : ((lo : Int) + (hi : Int)) / 2 = (h : Int) := by omega
      obtain ⟨b, o, rfl, hb, hcell⟩ := Ky_at HP.out hh1
      have HBH := Lib.hid (HB.out _ (List.getElem_mem hh1))
      have HST : Hid ((Run.cmp P[h].l m < 0 → ∀ t (k : t < P.length), t < h + 1 → Run.cmp P[t].l m < 0) ∧ (0 ≤ Run.cmp P[h].l m → ∀ t (k : t < P.length), h ≤ t → 0 ≤ Run.cmp P[t].l m)) :=
        ⟨fun k t kt ht => HS.out t h hh1 (by omega) k, fun k t kt ht => by
          have := HS.out h t kt ht
          omega⟩
      generalize P[h] = p at hcell HBH HST
      unfold Part.v at hcell
      go_wp2_with fail
      refine (bcompare_any wr p.a B p.c d p.l m HBH.out HM.out).mono ?_
      rintro e wq ⟨rfl, rfl⟩
      generalize Run.cmp p.l m = r at HST ⊢
      by_cases hr : r < 0
      · go_wp2_with fail
        go_roundw
        case rel => exact ⟨h + 1, hi, by go_num, rfl, by omega, hip, trivial, HST.out.1 hr, HI.out.2⟩
        case measure => simp [intOf]; omega
      · go_wp2_with fail
        go_roundw
        case rel => exact ⟨lo, h, rfl, rfl, by omega, by omega, trivial, HI.out.1, HST.out.2 (by omega)⟩
        case measure => simp [intOf]; omega
    · obtain rfl : lo = hi := by omega
      have HFF : Hid (F = lo) := by
        show _ = _
        rw [← HF.out]
        exact Run.find_at (by simpa using hip) (fun t h k => by simpa using HI.out.1 t (by simpa using h) k) (fun t h k => by
          have := HI.out.2 t (by simpa using h) k
          simpa using this)
      by_cases hlp : lo < P.length
      · have hlpi : (lo : Int) < (P.length : Int) := by omega
        obtain ⟨b, o, rfl, hb, hcell⟩ := Ky_at HP.out hlp
        have HBH := Lib.hid (HB.out _ (List.getElem_mem hlp))
        generalize P[lo] = p at hcell HBH
        unfold Part.v at hcell
        go_wp2_with fail
        refine (bcompare_any wr p.a B p.c d p.l m HBH.out HM.out).mono ?_
        rintro e wq ⟨rfl, rfl⟩
        go_wp2_with fail
        go_ret2
        exact ⟨⟨_, by rw [HFF.out]; rfl⟩, rfl⟩
      · have hlpi : ¬ (lo : Int) < (P.length : Int) := by omega
        go_wp2_with fail
        go_ret2
        exact ⟨⟨false, by rw [HFF.out]; rfl⟩, rfl⟩
def RetSNext (w : World) (x : Option (Nat × List Va)) (e : Ending) (w' : World) : Prop :=
  Below w.heap.size w w' ∧ match x with
  | none => e = .returned (.tuple #[.int .i64 0, .slice none 0 0, .bool false, .int .i64 0])
  | some (n, l) => ∃ A c, e = .returned (.tuple #[.int .i64 (n : Int), .slice A l.length c, .bool true, .int .i64 0]) ∧ EOwn eVa w' w.heap.size A c l
def RetSRow (w : World) (x : Option (List Va)) (e : Ending) (w' : World) : Prop :=
  Below w.heap.size w w' ∧ match x with
  | none => e = .returned (.tuple #[.slice none 0 0, .bool false, .int .i64 0])
  | some l => ∃ A c, e = .returned (.tuple #[.slice A l.length c, .bool true, .int .i64 0]) ∧ EOwn eVa w' w.heap.size A c l
def RetSSeek (w : World) (x : Option (List UInt8)) (e : Ending) (w' : World) : Prop :=
  Below w.heap.size w w' ∧ match x with
  | none => e = .returned (.tuple #[.slice none 0 0, .bool false, .int .i64 0])
  | some l => ∃ A c, e = .returned (.tuple #[.slice A l.length c, .bool true, .int .i64 0]) ∧ BOwn w' w.heap.size A c l
theorem results_tmp4 {fn : Func} {t u v x : Tmp} (h : fn.results = #[.tmp t, .tmp u, .tmp v, .tmp x]) (tmps : Array Value) (P : Program) (w : World) :
    (results fn tmps).run P w = .ok (.tuple #[tmps.getD t undef, tmps.getD u undef, tmps.getD v undef, tmps.getD x undef]) w := by
  simp [results, h]
namespace Run
def rowOf (T : List (List (List Va))) (t i : Int) : Option (List Va) := if 0 ≤ t ∧ t < (T.length : Int) ∧ 0 ≤ i ∧ i < ((T.getD t.toNat []).length : Int) then some ((T.getD t.toNat []).getD i.toNat []) else none
def nextOf (T : List (List (List Va))) (t a : Int) : Option (Nat × List Va) := (rowOf T t (max a 0)).map fun l => ((max a 0).toNat + 1, l)
theorem rowOf_at {G : List Gr} {t i : Nat} (ht : t < G.length) (hi : i < G[t].l.length) : rowOf (G.map rowsG) t i = some G[t].l[i].l := by
  unfold rowOf rowsG
  rw [if_pos ⟨by omega, by simpa using ht, by omega, by simp [List.getD, ht]; omega⟩]
  simp [List.getD, ht, hi]
theorem rowOf_no {T : List (List (List Va))} {t i : Int} (h : ¬ (0 ≤ t ∧ t < (T.length : Int) ∧ 0 ≤ i ∧ i < ((T.getD t.toNat []).length : Int))) : rowOf T t i = none := by unfold rowOf; rw [if_neg h]
def seekOf (K : List (List Bs)) (i : Int) (k : Bs) : Option Bs := if 0 ≤ i ∧ i < (K.length : Int) then (K.getD i.toNat [])[find (K.getD i.toNat []) k]? else none
end Run
set_option maxRecDepth 20000 in
set_option maxHeartbeats 4000000 in
theorem mnext_any (w : World) (g : Nat) (G : List Gr) (K : List Ks) (hm : MemAt w g G K) (t a : Int) (ha : a ≤ 9223372036854775806) : Calls Tryz.prog 9 #[.pointer (some ⟨g, 0, none⟩), .int .i64 t, .int .i64 a] w (RetSNext w (Run.nextOf (G.map Run.rowsG) t a)) := by
  obtain ⟨ta, tc, ka, kc, hb, HT, -⟩ := hm.at_
  have HT := Lib.hid HT
  clear hm
  obtain ⟨c0, -, -, -, hg⟩ := Blk.c2 hb
  have hgl := HT.out.few
  obtain ⟨i, hi⟩ : ∃ i : Nat, max a 0 = (i : Int) := ⟨(max a 0).toNat, by omega⟩
  have hmx : (if a < 0 then (0 : Int) else a) = (i : Int) := by rw [← hi]; split <;> omega
  have hi6 : (i : Int) ≤ 9223372036854775806 := by omega
  have HV : Hid (Run.nextOf (G.map Run.rowsG) t a = (Run.rowOf (G.map Run.rowsG) t i).map fun l => (i + 1, l)) := by show _ = _; unfold Run.nextOf; rw [hi]; rfl
  by_cases h1 : t < 0
  · rw [HV.out, Run.rowOf_no (by omega)]
    clear HV HT hb
    go_enter Tryz.func9, Tryz.ntmps9
    go_wp2_with fail
    (try simp only [Exit.inBlock, Exit.then])
    refine bodyPost_ret (results_tmp4 rfl _ _ _) rfl ?_
    exact ⟨Below.refl _ _, rfl⟩
  by_cases h2 : (G.length : Int) ≤ t
  · rw [HV.out, Run.rowOf_no (by simp; omega)]
    clear HV HT hb
    go_enter Tryz.func9, Tryz.ntmps9
    go_wp2_with fail
    (try simp only [Exit.inBlock, Exit.then])
    refine bodyPost_ret (results_tmp4 rfl _ _ _) rfl ?_
    exact ⟨Below.refl _ _, rfl⟩
  obtain ⟨n, rfl⟩ : ∃ n : Nat, t = (n : Int) := ⟨t.toNat, by omega⟩
  have hn : n < G.length := by omega
  obtain ⟨b, o, rfl, -, hc⟩ := T3_at HT.out.r hn
  have HG := Lib.hid (HT.out.in_ _ (List.getElem_mem hn))
  have hrl := HT.out.gl _ (List.getElem_mem hn)
  have HRL := Lib.hid (HT.out.rl _ (List.getElem_mem hn))
  have HRO : Hid (∀ h : i < G[n].l.length, Run.rowOf (G.map Run.rowsG) n i = some G[n].l[i].l) := fun h => Run.rowOf_at hn h
  have HRN : Hid (¬ i < G[n].l.length → Run.rowOf (G.map Run.rowsG) n i = none) := fun h => Run.rowOf_no (by
    rintro ⟨-, -, -, h4⟩
    simp [List.getD, hn] at h4
    omega)
  generalize G[n] = gr at hc HG hrl HRO HRN HRL
  unfold Gr.h at hc
  by_cases h3 : i < gr.l.length
  · have h3i : (i : Int) < (gr.l.length : Int) := by omega
    have HR := Lib.hid (HRO.out h3)
    obtain ⟨b2, o2, ha2, -, hc2⟩ := rw_at HG.out.r h3
    have HIN := Lib.hid (HG.out.in_ _ (List.getElem_mem h3))
    have hln := HRL.out _ (List.getElem_mem h3)
    rw [HV.out, HR.out]
    rw [ha2] at hc
    clear HRO HRN HR HRL ha2 HV HT hb HG
    generalize gr.l[i] = r at hc2 HIN hln
    unfold Rw.v at hc2
    go_enter Tryz.func9, Tryz.ntmps9
    go_wp2_with fail
    refine (vclone_any w r.a r.c r.l HIN.out.r (by omega)).mono ?_
    rintro e w1 ⟨A1, c1, rfl, ho, hB⟩
    have HO := Lib.hid ho
    have HB := Lib.hid hB
    clear ho hB
    go_wp2_with fail
    (try simp only [Exit.inBlock, Exit.then])
    refine bodyPost_ret (results_tmp4 rfl _ _ _) rfl ?_
    exact ⟨HB.out, A1, c1, rfl, HO.out⟩
  · have h3i : (gr.l.length : Int) ≤ (i : Int) := by omega
    rw [HV.out, HRN.out h3]
    clear HRO HRN HRL HV HT hb HG
    go_enter Tryz.func9, Tryz.ntmps9
    go_wp2_with fail
    (try simp only [Exit.inBlock, Exit.then])
    refine bodyPost_ret (results_tmp4 rfl _ _ _) rfl ?_
    exact ⟨Below.refl _ _, rfl⟩
set_option maxRecDepth 20000 in
set_option maxHeartbeats 4000000 in
theorem mrow_any (w : World) (g : Nat) (G : List Gr) (K : List Ks) (hm : MemAt w g G K) (t a : Int) (ha : -9223372036854775808 ≤ a) : Calls Tryz.prog 10 #[.pointer (some ⟨g, 0, none⟩), .int .i64 t, .int .i64 a] w (RetSRow w (Run.rowOf (G.map Run.rowsG) t (a - 1))) := by
  obtain ⟨ta, tc, ka, kc, hb, HT, -⟩ := hm.at_
  have HT := Lib.hid HT
  clear hm
  obtain ⟨c0, -, -, -, hg⟩ := Blk.c2 hb
  have hgl := HT.out.few
  by_cases h1 : t < 0
  · rw [Run.rowOf_no (by omega)]
    clear HT hb
    go_enter Tryz.func10, Tryz.ntmps10
    go_wp2_with fail
    go_ret3
    exact ⟨Below.refl _ _, rfl⟩
  by_cases h2 : (G.length : Int) ≤ t
  · rw [Run.rowOf_no (by simp; omega)]
    clear HT hb
    go_enter Tryz.func10, Tryz.ntmps10
    go_wp2_with fail
    go_ret3
    exact ⟨Below.refl _ _, rfl⟩
  by_cases h0 : a < 1
  · rw [Run.rowOf_no (by omega)]
    clear HT hb
    go_enter Tryz.func10, Tryz.ntmps10
    go_wp2_with fail
    go_ret3
    exact ⟨Below.refl _ _, rfl⟩
  obtain ⟨n, rfl⟩ : ∃ n : Nat, t = (n : Int) := ⟨t.toNat, by omega⟩
  obtain ⟨i, rfl⟩ : ∃ i : Nat, a = (i : Int) + 1 := ⟨(a - 1).toNat, by omega⟩
  rw [show (i : Int) + 1 - 1 = (i : Int) by omega]
  have hn : n < G.length := by omega
  obtain ⟨b, o, rfl, -, hc⟩ := T3_at HT.out.r hn
  have HG := Lib.hid (HT.out.in_ _ (List.getElem_mem hn))
  have hrl := HT.out.gl _ (List.getElem_mem hn)
  have HRL := Lib.hid (HT.out.rl _ (List.getElem_mem hn))
  have HRO : Hid (∀ h : i < G[n].l.length, Run.rowOf (G.map Run.rowsG) n i = some G[n].l[i].l) := fun h => Run.rowOf_at hn h
  have HRN : Hid (¬ i < G[n].l.length → Run.rowOf (G.map Run.rowsG) n i = none) := fun h => Run.rowOf_no (by
    rintro ⟨-, -, -, h4⟩
    simp [List.getD, hn] at h4
    omega)
  generalize G[n] = gr at hc HG hrl HRO HRN HRL
  unfold Gr.h at hc
  by_cases h3 : i < gr.l.length
  · have h3i : (i : Int) < (gr.l.length : Int) := by omega
    have HR := Lib.hid (HRO.out h3)
    obtain ⟨b2, o2, ha2, -, hc2⟩ := rw_at HG.out.r h3
    have HIN := Lib.hid (HG.out.in_ _ (List.getElem_mem h3))
    have hln := HRL.out _ (List.getElem_mem h3)
    rw [HR.out]
    rw [ha2] at hc
    clear HRO HRN HR HRL ha2 HT hb HG
    generalize gr.l[i] = r at hc2 HIN hln
    unfold Rw.v at hc2
    go_enter Tryz.func10, Tryz.ntmps10
    go_wp2_with fail
    refine (vclone_any w r.a r.c r.l HIN.out.r (by omega)).mono ?_
    rintro e w1 ⟨A1, c1, rfl, ho, hB⟩
    have HO := Lib.hid ho
    have HB := Lib.hid hB
    clear ho hB
    go_wp2_with fail
    go_ret3
    exact ⟨HB.out, A1, c1, rfl, HO.out⟩
  · have h3i : (gr.l.length : Int) < (i : Int) + 1 := by omega
    rw [HRN.out h3]
    clear HRO HRN HRL HT hb HG
    go_enter Tryz.func10, Tryz.ntmps10
    go_wp2_with fail
    go_ret3
    exact ⟨Below.refl _ _, rfl⟩
set_option maxRecDepth 20000 in
set_option maxHeartbeats 4000000 in
theorem mseek_any (w : World) (g : Nat) (G : List Gr) (K : List Ks) (hm : MemAt w g G K) (hs : ∀ k ∈ K, Srt.Sorted Run.cmp (Run.keysG k)) (t : Int) (B : Option Addr) (d : Nat) (m : List UInt8) (hmr : BRow w B m) : Calls Tryz.prog 12 #[.pointer (some ⟨g, 0, none⟩), .int .i64 t, .slice B m.length d] w (RetSSeek w (Run.seekOf (K.map Run.keysG) t m)) := by
  obtain ⟨ta, tc, ka, kc, hb, -, HT⟩ := hm.at_
  have HT := Lib.hid HT
  have HMR := Lib.hid hmr
  clear hm hmr
  obtain ⟨-, c0, -, -, hg⟩ := Blk.c2 hb
  have hgl := HT.out.few
  by_cases h1 : t < 0
  · rw [show Run.seekOf (K.map Run.keysG) t m = none from if_neg (by omega)]
    clear HT hb HMR hs
    go_enter Tryz.func12, Tryz.ntmps12
    go_wp2_with fail
    go_ret3
    exact ⟨Below.refl _ _, rfl⟩
  by_cases h2 : (K.length : Int) ≤ t
  · rw [show Run.seekOf (K.map Run.keysG) t m = none from if_neg (by simp; omega)]
    clear HT hb HMR hs
    go_enter Tryz.func12, Tryz.ntmps12
    go_wp2_with fail
    go_ret3
    exact ⟨Below.refl _ _, rfl⟩
  obtain ⟨n, rfl⟩ : ∃ n : Nat, t = (n : Int) := ⟨t.toNat, by omega⟩
  have hn : n < K.length := by omega
  obtain ⟨b, o, rfl, -, hc⟩ := Ks_at HT.out.r hn
  have HG : Hid (ERow eKy w K[n].a K[n].l ∧ ∀ p ∈ K[n].l, BRow w p.a p.l) := ⟨HT.out.rows _ (List.getElem_mem hn), HT.out.by_ _ (List.getElem_mem hn)⟩
  have hrl := HT.out.kl _ (List.getElem_mem hn)
  have HPL := Lib.hid (HT.out.pl _ (List.getElem_mem hn))
  have HSO := Lib.hid (hs _ (List.getElem_mem hn))
  have HV : Hid (Run.seekOf (K.map Run.keysG) n m = (Run.keysG K[n])[Run.find (Run.keysG K[n]) m]?) := by
    show _ = _
    unfold Run.seekOf
    rw [if_pos ⟨by omega, by simpa using hn⟩]
    simp [List.getD, hn]
  rw [HV.out]
  clear HV HT hb hs
  generalize K[n] = ks at hc HG hrl HPL HSO ⊢
  unfold Ks.h at hc
  have hfl : Run.find (Run.keysG ks) m ≤ ks.l.length := by have := Run.find_le (Run.keysG ks) m; simpa using this
  have HSE := Lib.hid (searchk_any w ks.a ks.c ks.l HG.out.1 HG.out.2 (by omega) B d m HMR.out HSO.out)
  unfold Run.keysG at hfl ⊢
  generalize Run.find (ks.l.map (·.l)) m = F at hfl HSE ⊢
  by_cases h3 : F < ks.l.length
  · have h3i : (F : Int) < (ks.l.length : Int) := by omega
    have h3n : ((F : Int) == (ks.l.length : Int)) = false := by rw [beq_eq_false_iff_ne]; omega
    obtain ⟨b2, o2, ha2, -, hc2⟩ := Ky_at HG.out.1 h3
    have HIN := Lib.hid (HG.out.2 _ (List.getElem_mem h3))
    have hln := HPL.out _ (List.getElem_mem h3)
    have HR : Hid ((ks.l.map (·.l))[F]? = some ks.l[F].l) := by show _ = _; simp [h3]
    rw [HR.out]
    rw [ha2] at hc HSE
    clear HR HPL HSO ha2 HG
    generalize ks.l[F] = p at hc2 HIN hln ⊢
    unfold Part.v at hc2
    go_enter Tryz.func12, Tryz.ntmps12
    go_wp2_with fail
    refine HSE.out.mono ?_
    rintro e w1 ⟨⟨bb, rfl⟩, rfl⟩
    go_wp2_with fail
    refine (clone_any w1 p.a p.c p.l HIN.out (by omega)).mono ?_
    rintro e w2 ⟨A1, c1, rfl, ho, hB⟩
    have HO := Lib.hid ho
    have HB := Lib.hid hB
    clear ho hB
    go_wp2_with fail
    go_ret3
    exact ⟨HB.out, A1, c1, rfl, HO.out⟩
  · obtain rfl : F = ks.l.length := by omega
    rw [show (ks.l.map (·.l))[ks.l.length]? = none by simp]
    clear HPL HSO HG
    go_enter Tryz.func12, Tryz.ntmps12
    go_wp2_with fail
    refine HSE.out.mono ?_
    rintro e w1 ⟨⟨bb, rfl⟩, rfl⟩
    go_wp2_with fail
    go_ret3
    exact ⟨Below.refl _ _, rfl⟩
end Go.Proofs.YtpahkaffknnjhaaGreatDoor
end

section
namespace Go.Proofs.YtpahkaffknnjhaaGreatDoor
set_option linter.unusedSimpArgs false
set_option linter.unusedVariables false
open Go.RowKit
section
variable {w : World} {ops : Array Oper} {rest : List Oper} {o : Oper} {a : Act} {Q : Exit → Act → World → Prop}
end
end Go.Proofs.YtpahkaffknnjhaaGreatDoor
end

section
namespace Go.Proofs.YtpahkaffknnjhaaGreatDoor
set_option linter.unusedSimpArgs false
set_option linter.unusedVariables false
open Go.RowKit
section
variable {α : Type} {E : Elem α} {w : World} {B c g : Nat} {L : List α}
end
namespace Key
end Key
namespace Ev
open Key
end Ev
end Go.Proofs.YtpahkaffknnjhaaGreatDoor
end

section
namespace Go.Proofs.YtpahkaffknnjhaaGreatDoor
set_option linter.unusedSimpArgs false
set_option linter.unusedVariables false
open Go.Shelf
end Go.Proofs.YtpahkaffknnjhaaGreatDoor
end

section
namespace Go.Proofs.YtpahkaffknnjhaaGreatDoor
set_option linter.unusedSimpArgs false
set_option linter.unusedVariables false
open Go.RowKit Go.Shelf Go.Sort
namespace Srt
theorem sorted_unique {α : Type} {cmp : α → α → Int} (ho : Ord cmp) : ∀ (X Y : List α), Sorted cmp X → Sorted cmp Y → X.Perm Y → (∀ x ∈ X, ∀ y ∈ X, cmp x y = 0 → x = y) → X = Y
  | [], Y, _, _, hp, _ => hp.symm.eq_nil.symm
  | x :: X, [], _, _, hp, _ => by cases hp.eq_nil
  | x :: X, y :: Y, hX, hY, hp, he => by
    obtain ⟨h1, h2⟩ := List.pairwise_cons.1 hX
    obtain ⟨k1, k2⟩ := List.pairwise_cons.1 hY
    have hy : y ∈ x :: X := hp.mem_iff.2 (by simp)
    have hx : x ∈ y :: Y := hp.mem_iff.1 (by simp)
    have e : x = y := by
      refine he x (by simp) y hy ?_
      have a : ¬ cmp y x < 0 := by
        rcases List.mem_cons.1 hy with e | hy
        · rw [e, ho.self]; omega
        · exact h1 y hy
      have b : ¬ cmp x y < 0 := by
        rcases List.mem_cons.1 hx with e | hx
        · rw [e, ho.self]; omega
        · exact k1 x hx
      have := ho.anti x y
      omega
    subst e
    rw [sorted_unique ho X Y h2 k2 ((List.perm_cons x).1 hp) (fun a ha b hb => he a (by simp [ha]) b (by simp [hb]))]
end Srt
end Go.Proofs.YtpahkaffknnjhaaGreatDoor
end

section
namespace Go.Proofs.YtpahkaffknnjhaaGreatDoor
set_option linter.unusedSimpArgs false
set_option linter.unusedVariables false
open Go.Shelf
def laySortKy_ren : Go.Shelf.Ren := ⟨fun | 6 => 23 | 15 => 41 | 14 => 40 | 28 => 89 | 29 => 90 | 20 => 81 | 21 => 82 | 22 => 83 | 23 => 84 | 24 => 85 | 25 => 86 | 26 => 87 | 27 => 88 | 46 => 124 | 47 => 125 | 48 => 126 | 49 => 127 | 50 => 128 | 57 => 153 | n => n, fun | 22 => 77 | 24 => 32 | 25 => 79 | 3 => 3 | 39 => 98 | 0 => 0 | 53 => 141 | 55 => 108 | 4 => 4 | 46 => 135 | 45 => 134 | 50 => 81 | 5 => 5 | 9 => 9 | 66 => 174 | 70 => 178 | 76 => 205 | 77 => 206 | n => n, fun | n => n⟩
theorem laySortKy : Go.Proofs.SlLaysF.n6 Tryz.prog laySortKy_ren := {
  mixed := by kernel_rfl
  f6 := ⟨Tryz.f23.name, by decide, Tryz.func23.trans (congrArg some (by kernel_rfl))⟩
  f14 := ⟨Tryz.f40.name, by decide, Tryz.func40.trans (congrArg some (by kernel_rfl))⟩
  f15 := Tryz.func41.trans (congrArg some (by kernel_rfl))
  f20 := ⟨Tryz.f81.name, by decide, Tryz.func81.trans (congrArg some (by kernel_rfl))⟩
  f21 := ⟨Tryz.f82.name, by decide, Tryz.func82.trans (congrArg some (by kernel_rfl))⟩
  f22 := ⟨Tryz.f83.name, by decide, Tryz.func83.trans (congrArg some (by kernel_rfl))⟩
  f23 := ⟨Tryz.f84.name, by decide, Tryz.func84.trans (congrArg some (by kernel_rfl))⟩
  f24 := ⟨Tryz.f85.name, by decide, Tryz.func85.trans (congrArg some (by kernel_rfl))⟩
  f25 := ⟨Tryz.f86.name, by decide, Tryz.func86.trans (congrArg some (by kernel_rfl))⟩
  f26 := ⟨Tryz.f87.name, by decide, Tryz.func87.trans (congrArg some (by kernel_rfl))⟩
  f27 := ⟨Tryz.f88.name, by decide, Tryz.func88.trans (congrArg some (by kernel_rfl))⟩
  f28 := Tryz.func89.trans (congrArg some (by kernel_rfl))
  f29 := Tryz.func90.trans (congrArg some (by kernel_rfl))
  f46 := ⟨Tryz.f124.name, by decide, Tryz.func124.trans (congrArg some (by kernel_rfl))⟩
  f47 := Tryz.func125.trans (congrArg some (by kernel_rfl))
  f48 := Tryz.func126.trans (congrArg some (by kernel_rfl))
  f49 := ⟨Tryz.f127.name, by decide, Tryz.func127.trans (congrArg some (by kernel_rfl))⟩
  f50 := ⟨Tryz.f128.name, by decide, Tryz.func128.trans (congrArg some (by kernel_rfl))⟩
  f57 := ⟨Tryz.f153.name, by decide, Tryz.func153.trans (congrArg some (by kernel_rfl))⟩
  t0 := Tryz.underlying0
  a0 := Tryz.isAgg0
  z0 := Tryz.sizeOf0
  v0 := Tryz.zeroValue0
  t3 := Tryz.underlying3
  a3 := Tryz.isAgg3
  z3 := Tryz.sizeOf3
  v3 := Tryz.zeroValue3
  t4 := Tryz.underlying4
  a4 := Tryz.isAgg4
  z4 := Tryz.sizeOf4
  v4 := Tryz.zeroValue4
  t5 := Tryz.underlying5
  a5 := Tryz.isAgg5
  z5 := Tryz.sizeOf5
  v5 := Tryz.zeroValue5
  t9 := Tryz.underlying9
  a9 := Tryz.isAgg9
  z9 := Tryz.sizeOf9
  v9 := Tryz.zeroValue9
  t22 := Tryz.underlying77
  a22 := Tryz.isAgg77
  z22 := Tryz.sizeOf77
  v22 := Tryz.zeroValue77
  a24 := Tryz.isAgg32
  z24 := Tryz.sizeOf32
  t25 := Tryz.underlying79
  a25 := Tryz.isAgg79
  z25 := Tryz.sizeOf79
  v25 := Tryz.zeroValue79
  t39 := Tryz.underlying98
  a39 := Tryz.isAgg98
  z39 := Tryz.sizeOf98
  v39 := Tryz.zeroValue98
  t45 := Tryz.underlying134
  a45 := Tryz.isAgg134
  z45 := Tryz.sizeOf134
  v45 := Tryz.zeroValue134
  t46 := Tryz.underlying135
  a46 := Tryz.isAgg135
  z46 := Tryz.sizeOf135
  v46 := Tryz.zeroValue135
  t50 := Tryz.underlying81
  a50 := Tryz.isAgg81
  z50 := Tryz.sizeOf81
  v50 := Tryz.zeroValue81
  t53 := Tryz.underlying141
  a53 := Tryz.isAgg141
  z53 := Tryz.sizeOf141
  v53 := Tryz.zeroValue141
  t55 := Tryz.underlying108
  a55 := Tryz.isAgg108
  z55 := Tryz.sizeOf108
  v55 := Tryz.zeroValue108
  t66 := Tryz.underlying174
  a66 := Tryz.isAgg174
  z66 := Tryz.sizeOf174
  v66 := Tryz.zeroValue174
  t70 := Tryz.underlying178
  a70 := Tryz.isAgg178
  z70 := Tryz.sizeOf178
  v70 := Tryz.zeroValue178
  t76 := Tryz.underlying205
  a76 := Tryz.isAgg205
  z76 := Tryz.sizeOf205
  v76 := Tryz.zeroValue205
  t77 := Tryz.underlying206
  a77 := Tryz.isAgg206
  z77 := Tryz.sizeOf206
  v77 := Tryz.zeroValue206 }
end Go.Proofs.YtpahkaffknnjhaaGreatDoor
end

section
namespace Go.Proofs.YtpahkaffknnjhaaGreatDoor
set_option linter.unusedSimpArgs false
set_option linter.unusedVariables false
open Go.RowKit Go.Shelf Go.Sort
structure OkP (w : World) where
  p : Part
  ok : BRow w p.a p.l
  u8 : p.l ≠ [] → ∀ a, p.a = some a → isK w 5 a.block
instance (w : World) : Inhabited (OkP w) := ⟨⟨⟨none, 0, []⟩, BRow.nil, fun h => absurd rfl h⟩⟩
def OkP.cmp {w : World} (x y : OkP w) : Int := Run.cmp x.p.l y.p.l
theorem okp_ord (w : World) : Srt.Ord (OkP.cmp (w := w)) := Run.cmp_ord.on fun x : OkP w => x.p.l
theorem okp_swo (w : World) : Go.Sort.SWO (ltOf (OkP.cmp (w := w))) where
  irrefl x := by unfold ltOf; rw [(okp_ord w).self]; rfl
  trans x y z h1 h2 := by
    unfold ltOf at *
    rw [decide_eq_true_iff] at *
    exact (okp_ord w).lt_trans h1 h2
  ntrans x y z h1 h2 := by
    unfold ltOf at *
    rw [decide_eq_false_iff_not] at *
    exact (okp_ord w).le_trans h2 h1
def OkP.enc {w : World} (x : OkP w) : Value := x.p.v
theorem sortWorld_keeps {α : Type} [Inhabited α] (enc : α → Value) (w : World) (g n : Nat) (d : Array α) (os : Array Obj) (k : Nat) (hk : k < w.heap.size) (hne : g ≠ k) : (sortWorld enc w g 0 n d os).heap[k]? = w.heap[k]? := by
  unfold sortWorld Go.Sort.putRow Go.Sort.mapBlock Go.Sort.grow
  show ((w.heap.modify g _) ++ os)[k]? = _
  rw [Array.getElem?_append_left (by simpa using hk), Array.getElem?_modify, if_neg hne]
theorem sortWorld_size {α : Type} [Inhabited α] (enc : α → Value) (w : World) (g n : Nat) (d : Array α) (os : Array Obj) : w.heap.size ≤ (sortWorld enc w g 0 n d os).heap.size := by
  unfold sortWorld Go.Sort.putRow Go.Sort.mapBlock Go.Sort.grow
  show _ ≤ ((w.heap.modify g _) ++ os).size
  simp
theorem ky_lays (w : World) (g size : Nat) (hg : isK w 32 g) : CmpLays1 Tryz.prog 24 #[] (OkP.enc (w := w)) OkP.cmp g 0 size w := by
  intro m os dk _ x y
  have hk : ∀ z : OkP w, BRow (sortWorld (OkP.enc (w := w)) w g 0 m dk os) z.p.a z.p.l := fun z => z.ok.keepX (sortWorld_size _ _ _ _ _ _) fun hl a ha => by
    obtain ⟨b, o, e, hlt⟩ := z.ok.lt (by cases hz : z.p.l with | nil => exact absurd hz hl | cons _ _ => simp)
    rw [ha] at e
    cases e
    refine sortWorld_keeps _ w g m dk os b hlt ?_
    rintro rfl
    have := (z.u8 hl _ ha).one hg
    exact absurd this (by decide)
  refine (show Calls Tryz.prog 24 #[x.p.v, y.p.v] _ _ from bcompare_any _ x.p.a y.p.a x.p.c y.p.c x.p.l y.p.l (hk x) (hk y)).mono ?_
  rintro e w' ⟨rfl, rfl⟩
  exact ⟨rfl, 0, #[], by simp [Go.Sort.grow, World.drewN]⟩
set_option maxHeartbeats 2000000 in
theorem sortk_any (w : World) (B : Nat) (A : Option Addr) (c : Nat) (P : List Part) (ho : KyOwn B w A c P) (hlen : P.length ≤ 1000000) :
    Calls Tryz.prog 23 #[.slice A P.length c, .func (.func 24) #[] #[]] w fun e w' => ∃ P', e = .returned (.tuple #[]) ∧ KyOwn B w' A c P' ∧ P'.Perm P ∧ P'.map (·.l) = Srt.ssort Run.cmp (P.map (·.l)) ∧ w.grownBy w' (A.map (·.block)) := by
  rcases ho.own.form with ⟨rfl, rfl, rfl⟩ | ⟨g, rfl, hBg, hgl, -, -, -⟩
  · refine (AnyF.slices_SortFunc_none { laySortKy with } none 0 (.func (.func 24) #[] #[]) w).mono ?_
    rintro e w' ⟨rfl, hw⟩
    subst hw
    exact ⟨[], rfl, ho, List.Perm.refl _, rfl, grown_refl _ _⟩
  · obtain ⟨sp, hb, hsl, -, hlc, hcm⟩ := ho.own.toBlk
    have hok : ∀ p ∈ P, BRow w p.a p.l ∧ (p.l ≠ [] → ∀ a, p.a = some a → isK w 5 a.block) := fun p hp => ⟨(ho.rows p hp).row, fun _ => (ho.rows p hp).kind⟩
    obtain ⟨d, hd⟩ : ∃ d : Array (OkP w), d = (P.pmap (fun p h => OkP.mk p h.1 h.2) hok).toArray := ⟨_, rfl⟩
    have hds : d.size = P.length := by rw [hd]; simp
    have hdm : d.toList.map (·.p) = P := by rw [hd]; simp [List.map_pmap]
    have hdg : ∀ (i : Nat) (h : i < d.size), d[i].p = P[i]'(by omega) := fun i h => by
      have e : (d.toList.map (·.p))[i]? = P[i]? := by rw [hdm]
      simpa [h, show i < P.length by omega] using e
    have hcell : ∀ (L : List Part) (k : Nat) (h : k < L.length), (eKy.cells L)[k]? = some (L[k].v) := fun L k h => by
      have := eKy.cells_get L k 0 h (by decide)
      rw [show k * eKy.sz + 0 = k from by show k * 1 + 0 = k; omega] at this
      exact this
    have hH : Holds (OkP.enc (w := w)) w g 0 d := by
      intro j hj
      refine ⟨?_, hb.free _⟩
      rw [hb.cell, Nat.zero_add, List.getElem?_append_left (by rw [Elem.cells_length]; show j < P.length * 1; omega), hcell P j (by omega), ← hdg j hj]
      unfold OkP.enc
      rw [getElem!_pos d j hj]
    have eg : ∀ args w, (callFunc 24 args).run Tryz.prog w = .ok (.enter 24 args) w := enters_of Tryz.func24 (by kernel_rfl) rfl
    have hcon := Any.slices_SortFunc laySortKy OkP.enc (fun _ => rfl) OkP.cmp (okp_swo w) 24 #[] g 0 c d w eg (ky_lays w g d.size ⟨_, _, hb⟩) hH hgl (by omega)
    rw [hds] at hcon
    refine (show Calls Tryz.prog 23 _ _ _ from hcon).mono ?_
    rintro e w' ⟨rfl, d', n, os, hp, hs, rfl⟩
    have hd's : d'.size = P.length := hp.1.trans hds
    have hperm : (d'.toList.map (·.p)).Perm P := by
      have h := hp.2.2
      rw [show d'.extract 0 P.length = d' by rw [← hd's]; simp, show d.extract 0 P.length = d by rw [← hds]; simp] at h
      rw [← hdm]
      exact h.map _
    have hsort : Srt.Sorted Run.cmp ((d'.toList.map (·.p)).map (·.l)) := by
      refine List.pairwise_iff_getElem.2 fun i j hi hj hij => ?_
      simp only [List.length_map, Array.length_toList] at hi hj
      have h := hs i j (Nat.zero_le _) hij (by omega)
      rw [getElem!_pos d' i hi, getElem!_pos d' j hj] at h
      unfold ltOf OkP.cmp at h
      rw [decide_eq_false_iff_not] at h
      simpa using h
    have hL' : (d'.toList.map (·.p)).map (·.l) = Srt.ssort Run.cmp (P.map (·.l)) :=
      Srt.sorted_unique Run.cmp_ord _ _ hsort (Srt.ssort_sorted Run.cmp_ord _) ((hperm.map _).trans (Srt.ssort_perm _ _).symm) fun x _ y _ h0 => Run.cmp_eq h0
    have hl4 : (d'.toList.map (·.p)).length = P.length := by simpa using hd's
    have hgr : w.grownBy (sortWorld OkP.enc w g 0 n d' os) (some g) := ⟨rfl, rfl, rfl, sortWorld_size _ _ _ _ _ _, fun k hk hne => sortWorld_keeps _ w g n d' os k hk (fun e => hne (by rw [e]))⟩
    refine ⟨d'.toList.map (·.p), rfl, ?_, hperm, hL', hgr⟩
    refine ho.turn (fun p hp => hperm.mem_iff.1 hp) ?_ hgr
    rw [← hl4] at hlc
    refine EOwn.ofBlk (sp := sp) ?_ ?_ hlc hcm hBg
    · show (sortWorld OkP.enc w g 0 n d' os).heap[g]? = _
      have : (sortWorld OkP.enc w g 0 n d' os).heap[g]? = (w.heap[g]?).map (Go.Sort.onCells (Go.Sort.putCells OkP.enc 0 d')) := by
        unfold sortWorld Go.Sort.putRow Go.Sort.mapBlock Go.Sort.grow
        show ((w.heap.modify g _) ++ os)[g]? = _
        rw [Array.getElem?_append_left (by simpa using hgl), Array.getElem?_modify, if_pos rfl]
      rw [this, show w.heap[g]? = _ from hb]
      show some (Go.Obj.cells _ _ _) = _
      congr 2
      apply Array.ext_getElem?
      intro k
      unfold Go.Sort.putCells
      rw [Array.getElem?_mapIdx, List.getElem?_toArray, List.getElem?_toArray]
      by_cases hk : k < P.length
      · rw [List.getElem?_append_left (by rw [Elem.cells_length]; show k < P.length * 1; omega), List.getElem?_append_left (by rw [Elem.cells_length, hl4]; show k < P.length * 1; omega), hcell P k hk, hcell _ k (by omega), Option.map_some, if_pos ⟨Nat.zero_le _, by omega⟩]
        congr 1
        unfold OkP.enc
        rw [Nat.sub_zero, getElem!_pos d' k (by omega)]
        simp
      · rw [List.getElem?_append_right (by rw [Elem.cells_length]; show P.length * 1 ≤ k; omega), List.getElem?_append_right (by rw [Elem.cells_length, hl4]; show P.length * 1 ≤ k; omega), Elem.cells_length, Elem.cells_length, hl4]
        cases sp[k - P.length * eKy.sz]? with
        | none => rfl
        | some x => rw [Option.map_some, if_neg (by omega)]
    · have : (eKy.cells (d'.toList.map (·.p)) ++ sp).length = (eKy.cells P ++ sp).length := by rw [List.length_append, List.length_append, Elem.cells_length, Elem.cells_length, hl4]
      rw [this]; exact hsl
end Go.Proofs.YtpahkaffknnjhaaGreatDoor
end

section
namespace Go.Proofs.YtpahkaffknnjhaaGreatDoor
set_option linter.unusedSimpArgs false
set_option linter.unusedVariables false
open Go.RowKit Go.Deep Go.WideShapes Go.ChangeShapes
structure Df where
  t : Int
  a : Option Addr
  cols : List Int
  c : Nat
  real : Bool
def Df.cells (d : Df) : List Value := [.int .i64 d.t, .slice d.a d.cols.length d.c, .bool d.real]
def Df.v (d : Df) : Value := .agg d.cells.toArray
instance : Inhabited Df := ⟨⟨0, none, [], 0, false⟩⟩
def eDf : Elem Df where
  e := 46
  t := 28
  sz := 3
  bytes := 40
  zero := .agg #[.int .i64 0, .slice none 0 0, .bool false]
  code := Df.cells
  pos := by decide
  few := by decide
  len := fun _ => rfl
  one := by
    intro x u hu
    simp [Df.cells] at hu
    rcases hu with rfl | rfl | rfl <;> rfl
  zsz := rfl
  info := by kernel_rfl
  under := Tryz.underlying28
structure DfsIn (w : World) (A : Option Addr) (L : List Df) : Prop where
  r : ERow eDf w A L
  cr : ∀ d ∈ L, ERow eInt w d.a d.cols
  cl : ∀ d ∈ L, d.cols.length ≤ 1000
  ci : ∀ d ∈ L, ∀ c ∈ d.cols, Ev.inB c
  cp : ∀ d ∈ L, d.cols.length ≤ d.c ∧ d.c ≤ maxLen
  len : L.length ≤ 1000
theorem DfsIn.below {w W : World} {A : Option Addr} {L : List Df} (h : DfsIn w A L) (hB : Below w.heap.size w W) : DfsIn W A L := ⟨h.r.below hB, fun d hd => (h.cr d hd).below hB, h.cl, h.ci, h.cp, h.len⟩
theorem df_at {w : World} {A : Option Addr} {L : List Df} (h : ERow eDf w A L) {i : Nat} (hi : i < L.length) : ∃ b o, A = some ⟨b, o, none⟩ ∧ b < w.heap.size ∧ w.cell? ⟨b, o + i * 3, none⟩ = some (.int .i64 L[i].t) ∧ w.cell? ⟨b, o + i * 3 + 1, none⟩ = some (.slice L[i].a L[i].cols.length L[i].c) := by
  obtain ⟨b, o, e, hb, hc⟩ := h.at_ hi
  exact ⟨b, o, e, hb, hc 0 _ rfl, hc 1 _ rfl⟩
theorem df_info : (Tryz.prog.info? 46).map (·.size) = some 3 := by kernel_rfl
def Df.nul : Df := ⟨0, none, [], 0, false⟩
theorem df_zero (W : World) : (zeroValue 46).run Tryz.prog W = .ok Df.nul.v W := (zero_of_info (P := Tryz.prog) (t := 46) (v := Df.nul.v) (n := 3) (by kernel_rfl)).1 W
section
variable {w : World} {ops : Array Oper} {rest : List Oper} {o : Oper} {a : Act} {Q : Exit → Act → World → Prop}
theorem wpList_alloc_df (hgd : o.guard = none) (hop : o.op = .alloc 46)
    (h : ∀ W, Blk W w.heap.size 46 Df.nul.cells → w.heap.size + 1 ≤ W.heap.size → Below w.heap.size w W → wpList Tryz.prog ops Q rest (a.put o.dst (.pointer (some ⟨w.heap.size, 0, none⟩))) W) : wpList Tryz.prog ops Q (o :: rest) a w :=
  wpList_alloc_z hgd 46 hop (df_zero _) fun W hW => by
    obtain ⟨h1, h2, h3⟩ := fresh1 (a := Df.nul.cells) hW
    exact h W h1 h2 h3
theorem wpList_store_df (hgd : o.guard = none) (hod : o.dst = none) (x y : Operand) (hop : o.op = .store 46 x y) (g : Nat) (hx : a.eval x = .pointer (some ⟨g, 0, none⟩)) (b : Df) (hy : a.eval y = b.v) {T0 : TypeId} {old : Df} (hb : Blk w g T0 old.cells)
    (h : ∀ W, Blk W g T0 b.cells → w.grownBy W (some g) → wpList Tryz.prog ops Q rest a W) : wpList Tryz.prog ops Q (o :: rest) a w :=
  wpList_store_blk hgd hod 46 x y hop g hx b.cells hy hb rfl df_info (eDf.one b) h
theorem wpList_load_df_at (hgd : o.guard = none) (x : Operand) (hop : o.op = .load 46 x) {b off : Nat} {L : List Df} (hr : ERow eDf w (some ⟨b, off, none⟩) L) {j : Nat} (hj : j < L.length) (p : Df) (hp : L[j] = p) (hx : a.eval x = .pointer (some ⟨b, off + j * 3, none⟩))
    (h : wpList Tryz.prog ops Q rest (a.put o.dst p.v) w) : wpList Tryz.prog ops Q (o :: rest) a w := by
  subst hp
  obtain ⟨b', off', e, hb, hrg⟩ := hr.range hj
  cases e
  exact wpList_load_mid hgd 46 x hop b (off + j * 3) hx L[j].cells _ hrg Tryz.underlying46 rfl df_info h
end
end Go.Proofs.YtpahkaffknnjhaaGreatDoor
end

section
namespace Go.Proofs.YtpahkaffknnjhaaGreatDoor
set_option linter.unusedSimpArgs false
set_option linter.unusedVariables false
open Go.RowKit
namespace Run
def rowsAt (T : List (List (List Va))) (t : Int) : List (List Va) := if 0 ≤ t ∧ t < (T.length : Int) then T.getD t.toNat [] else []
theorem rows_back {G G' : List Gr} (h : G'.map rowsG = G.map rowsG) {g : Gr} (hg : g ∈ G') : ∃ g0 ∈ G, rowsG g0 = rowsG g := by
  have : rowsG g ∈ G.map rowsG := by rw [← h]; exact List.mem_map.2 ⟨g, hg, rfl⟩
  obtain ⟨g0, h1, h2⟩ := List.mem_map.1 this
  exact ⟨g0, h1, h2⟩
theorem row_back {g0 g : Gr} (h : rowsG g0 = rowsG g) {r : Rw} (hr : r ∈ g.l) : ∃ r0 ∈ g0.l, r0.l = r.l := by
  have : r.l ∈ rowsG g0 := by rw [h]; exact List.mem_map.2 ⟨r, hr, rfl⟩
  obtain ⟨r0, h1, h2⟩ := List.mem_map.1 this
  exact ⟨r0, h1, h2⟩
def keysD (T : List (List (List Va))) (d : Df) : List Bs := keys d.cols (rowsAt T d.t)
end Run
structure NewT (w W : World) (gm : Nat) (T : List (List (List Va))) (A : Option Addr) (c : Nat) (G : List Gr) : Prop where
  blk : Blk W gm 75 [.slice A G.length c, .slice none 0 0]
  own : TbOwn w.heap.size W A c G
  rows : G.map Run.rowsG = T
  b : Below w.heap.size w W
  lo : w.heap.size ≤ gm
structure NewK (w W : World) (gm : Nat) (T : List (List (List Va))) (KK : List (List Run.Bs)) (A : Option Addr) (c : Nat) (G : List Gr) (A2 : Option Addr) (c2 : Nat) (K : List Ks) : Prop where
  blk : Blk W gm 75 [.slice A G.length c, .slice A2 K.length c2]
  own : TbOwn w.heap.size W A c G
  rows : G.map Run.rowsG = T
  ks : KsOwn w.heap.size W A2 c2 K
  keys : K.map Run.keysG = KK
  kl : ∀ k ∈ K, k.l.length ≤ 1000
  pl : ∀ k ∈ K, ∀ p ∈ k.l, p.l.length ≤ 200000
  b : Below w.heap.size w W
  lo : w.heap.size ≤ gm
theorem grown_setb {w : World} {g : Nat} (i : Nat) (u : Value) : w.grownBy (w.setCell ⟨g, i, none⟩ u) (some g) := grown_set (grown_refl w _) i u
theorem Blk.apart {w w' : World} {g : Nat} {T T' : TypeId} {cs : List Value} (h : Blk w g T cs) {row : Option Nat} (hg : w.grownBy w' row) (hr : ∀ x, row = some x → isK w T' x) (hT : T ≠ T') : Blk w' g T cs :=
  h.grown hg fun e => hT (h.kind.one (hr _ e.symm))
theorem isK.alloc {w : World} {T : TypeId} {g : Nat} (h : isK w T g) (o : Obj) : isK (w.alloc o) T g := by
  obtain ⟨cur, fr, h⟩ := h
  exact ⟨cur, fr, ((Below.refl w.heap.size w).alloc (Nat.le_refl _) o).block _ (Array.getElem?_eq_some_iff.1 h).1 |>.trans h⟩
theorem isK.below {w w' : World} {T : TypeId} {g : Nat} (h : isK w T g) (hB : Below w.heap.size w w') : isK w' T g := by
  obtain ⟨cur, fr, h⟩ := h
  exact ⟨cur, fr, (hB.block _ (Array.getElem?_eq_some_iff.1 h).1).trans h⟩
section
variable {w W wq w4 : World} {gm c c4 : Nat} {T : List (List (List Va))} {A A4 : Option Addr} {G : List Gr} {g : Gr}
theorem NewT.blk4 (h : NewT w W gm T A c G) (hB : Below W.heap.size W wq) (hgr : (wq.alloc (.cells #[g.h] 43)).grownBy w4 (A.map (·.block))) : Blk w4 gm 75 [.slice A G.length c, .slice none 0 0] :=
  ((h.blk.below hB).alloc _).apart hgr (fun x hx => ((h.own.own.turns x hx).below hB).alloc _) (by decide)
theorem NewT.one (h : NewT w W gm T A c G) (hB : Below W.heap.size W wq) (hg : RwOwn W.heap.size wq g.a g.c g.l) (ho : EOwn eT3 w4 w.heap.size A4 c4 (G ++ [g])) (hgr : (wq.alloc (.cells #[g.h] 43)).grownBy w4 (A.map (·.block))) :
    NewT w (w4.setCell ⟨gm, 0, none⟩ (.slice A4 (G.length + 1) c4)) gm (T ++ [Run.rowsG g]) A4 c4 (G ++ [g]) := by
  have hb4 := h.blk4 hB hgr
  have hal : Below wq.heap.size wq (wq.alloc (.cells #[g.h] 43)) := (Below.refl _ _).alloc (Nat.le_refl _) _
  have hBa := hB.trans (hal.mono hB.size)
  have ht := ((h.own.below hB).below hal).one ((hg.mono h.b.size).below hal) ho hgr
  have hlt := hb4.lt
  refine ⟨?_, ?_, ?_, ?_, h.lo⟩
  · rw [List.length_append]
    exact hb4.set0
  · exact ht.apart (grown_setb 0 _) (fun x hx => by cases hx; exact hb4.kind) (by decide) (by decide) (by decide)
  · rw [List.map_append, h.rows]; rfl
  · have h1 : Below w.heap.size w (wq.alloc (.cells #[g.h] 43)) := h.b.then hBa
    have h2 : Below w.heap.size w w4 := h1.grown hgr h1.size fun k hk => by
      cases hA : A with
      | none => rw [hA] at hk; cases hk
      | some a => rw [hA] at hk; cases hk; exact (h.own.own.block a hA).1
    exact h2.grown (grown_setb 0 _) h2.size fun k hk => by cases hk; exact h.lo
end
section
variable {w W wq w4 : World} {gm c c2 c4 : Nat} {T : List (List (List Va))} {KK : List (List Run.Bs)} {A A2 A4 : Option Addr} {G : List Gr} {K : List Ks} {g : Ks}
theorem NewK.below (h : NewK w W gm T KK A c G A2 c2 K) (hB : Below W.heap.size W wq) : NewK w wq gm T KK A c G A2 c2 K :=
  ⟨h.blk.below hB, h.own.below hB, h.rows, h.ks.below hB, h.keys, h.kl, h.pl, h.b.then hB, h.lo⟩
theorem NewK.blk4 (h : NewK w W gm T KK A c G A2 c2 K) (hgr : (W.alloc (.cells #[g.h] 77)).grownBy w4 (A2.map (·.block))) : Blk w4 gm 75 [.slice A G.length c, .slice A2 K.length c2] :=
  (h.blk.alloc _).apart hgr (fun x hx => (h.ks.own.turns x hx).alloc _) (by decide)
theorem NewK.one (h : NewK w W gm T KK A c G A2 c2 K) (hg : KyOwn w.heap.size W g.a g.c g.l) (hkl : g.l.length ≤ 1000) (hpl : ∀ p ∈ g.l, p.l.length ≤ 200000) (ho : EOwn eKs w4 w.heap.size A4 c4 (K ++ [g])) (hgr : (W.alloc (.cells #[g.h] 77)).grownBy w4 (A2.map (·.block))) :
    NewK w (w4.setCell ⟨gm, 1, none⟩ (.slice A4 (K.length + 1) c4)) gm T (KK ++ [Run.keysG g]) A c G A4 c4 (K ++ [g]) := by
  have hb4 := h.blk4 hgr
  have hal : Below W.heap.size W (W.alloc (.cells #[g.h] 77)) := (Below.refl _ _).alloc (Nat.le_refl _) _
  have hka : ∀ x, A2.map (·.block) = some x → isK (W.alloc (.cells #[g.h] 77)) 77 x := fun x hx => (h.ks.own.turns x hx).alloc _
  have hks := (h.ks.below hal).one (hg.below hal) ho hgr
  have hts := (h.own.below hal).apart hgr hka (by decide) (by decide) (by decide)
  have hgk : ∀ x, some gm = some x → isK w4 75 x := fun x hx => by cases hx; exact hb4.kind
  refine ⟨?_, hts.apart (grown_setb 1 _) hgk (by decide) (by decide) (by decide), h.rows, hks.apart (grown_setb 1 _) hgk (by decide) (by decide) (by decide), by rw [List.map_append, h.keys]; rfl, ?_, ?_, ?_, h.lo⟩
  · rw [List.length_append]
    exact hb4.set1
  · intro k hk
    rcases List.mem_append.1 hk with hk | hk
    · exact h.kl k hk
    · rw [List.mem_singleton.1 hk]; exact hkl
  · intro k hk
    rcases List.mem_append.1 hk with hk | hk
    · exact h.pl k hk
    · rw [List.mem_singleton.1 hk]; exact hpl
  · have h1 : Below w.heap.size w (W.alloc (.cells #[g.h] 77)) := h.b.then hal
    have h2 : Below w.heap.size w w4 := h1.grown hgr h1.size fun k hk => by
      cases hA : A2 with
      | none => rw [hA] at hk; cases hk
      | some a => rw [hA] at hk; cases hk; exact (h.ks.own.block a hA).1
    exact h2.grown (grown_setb 1 _) h2.size fun k hk => by cases hk; exact h.lo
end
def RetMem (w : World) (T : List (List (List Va))) (KK : List (List Run.Bs)) (e : Ending) (w' : World) : Prop := ∃ gm G' K, e = .returned (.pointer (some ⟨gm, 0, none⟩)) ∧ MemAt w' gm G' K ∧ G'.map Run.rowsG = T ∧ K.map Run.keysG = KK ∧ Below w.heap.size w w'
set_option maxRecDepth 20000 in
set_option maxHeartbeats 4000000 in
theorem newmem_any (w : World) (ta : Option Addr) (tc : Nat) (G : List Gr) (ht : TbIn w ta G) (da : Option Addr) (dc : Nat) (D : List Df) (hd : DfsIn w da D) (hdl : D.length ≤ 100) (hcl : ∀ d ∈ D, d.cols.length ≤ 90) :
    Calls Tryz.prog 8 #[.slice ta G.length tc, .slice da D.length dc] w (RetMem w (G.map Run.rowsG) (D.map (Run.keysD (G.map Run.rowsG)))) := by
  have HT := Lib.hid ht
  have HD := Lib.hid hd
  have HCL := Lib.hid hcl
  have hgl := ht.few
  clear ht hd hcl
  go_enter Tryz.func8, Tryz.ntmps8
  go_upto_region 2 with fail
  generalize hW1 : World.alloc w (.cells #[_, _] 75) = W1
  obtain ⟨hb1, hz1, hB1⟩ := fresh1 (a := [.slice none 0 0, .slice none 0 0]) hW1
  have HI : Hid (NewT w W1 w.heap.size [] none 0 []) := ⟨hb1, TbOwn.start, rfl, hB1, Nat.le_refl _⟩
  clear hW1 hb1 hz1 hB1
  generalize w.heap.size = gm at HI ⊢
  go_wp2_with fail
  go_loopw [20] (fun iv wr => ∃ (k : Nat) (A : Option Addr) (c : Nat) (G' : List Gr), k ≤ G.length ∧ iv = .int .i64 (k : Int) ∧ Hid (NewT w wr gm ((G.map Run.rowsG).take k) A c G')) (fun iv _ => G.length - (intOf iv).toNat)
  case atStart => exact ⟨0, none, 0, [], Nat.zero_le _, by go_num, HI.out⟩
  case round =>
    obtain ⟨k, A, c, G', hk, rfl, HN⟩ := hrel
    obtain ⟨wo, rfl⟩ : ∃ x, x = wr := ⟨_, rfl⟩
    clear HI
    by_cases hlt : k < G.length
    · have hki : (k : Int) < (G.length : Int) := by omega
      obtain ⟨b, o, rfl, -, hc⟩ := T3_at (HT.out.r.below HN.out.b) hlt
      have HTK : Hid ((G.map Run.rowsG).take (k + 1) = (G.map Run.rowsG).take k ++ [Run.rowsG G[k]]) := by
        show _ = _
        rw [List.take_succ_eq_append_getElem (by simpa using hlt)]
        simp
      have HG := Lib.hid (HT.out.in_ _ (List.getElem_mem hlt))
      have hrl := HT.out.gl _ (List.getElem_mem hlt)
      have HRL := Lib.hid (HT.out.rl _ (List.getElem_mem hlt))
      have hG' : G'.length = k := by
        have := congrArg List.length HN.out.rows
        simpa [Nat.min_eq_left (Nat.le_of_lt hlt)] using this
      generalize G[k] = gr at hc HTK HG hrl HRL
      unfold Gr.h at hc
      go_upto_region 7 with fail
      go_loopw [8, 26] (fun rv jv wq => ∃ (j : Nat) (A2 : Option Addr) (c2 : Nat) (R : List Rw), j ≤ gr.l.length ∧ rv = .slice A2 (j : Int).toNat c2 ∧ jv = .int .i64 (j : Int) ∧ Hid (RwOwn wo.heap.size wq A2 c2 R ∧ R.map (·.l) = (gr.l.map (·.l)).take j ∧ R.length = j ∧ Below wo.heap.size wo wq)) (fun _ jv _ => gr.l.length - (intOf jv).toNat)
      case atStart => exact ⟨0, none, 0, [], Nat.zero_le _, rfl, by go_num, RwOwn.start, rfl, rfl, Below.refl _ _⟩
      case round =>
        obtain ⟨j, A2, c2, R, hj, rfl, rfl, HR⟩ := hrel
        rw [Int.toNat_natCast]
        by_cases hjt : j < gr.l.length
        · have hji : (j : Int) < (gr.l.length : Int) := by omega
          obtain ⟨b2, o2, ha2, -, hc2⟩ := rw_at ((HG.out.r.below HN.out.b).below HR.out.2.2.2) hjt
          have HTJ : Hid ((gr.l.map (·.l)).take (j + 1) = (gr.l.map (·.l)).take j ++ [gr.l[j].l]) := by
            show _ = _
            rw [List.take_succ_eq_append_getElem (by simpa using hjt)]
            simp
          have HIN := Lib.hid ((HG.out.in_ _ (List.getElem_mem hjt)).below (HN.out.b.then HR.out.2.2.2))
          have hln := HRL.out _ (List.getElem_mem hjt)
          rw [ha2]
          clear ha2
          generalize gr.l[j] = r at hc2 HTJ HIN hln
          unfold Rw.v at hc2
          go_wp2_with fail
          refine (vclone_any wr r.a r.c r.l HIN.out.r (by omega)).mono ?_
          rintro e W3 ⟨A3, c3, rfl, ho, hB⟩
          have HR3 : Hid (RwOwn wo.heap.size W3 A2 c2 R ∧ Below wo.heap.size wo W3) := ⟨HR.out.1.below hB, HR.out.2.2.2.then hB⟩
          have HO3 : Hid (EOwn eVa W3 wo.heap.size A3 c3 r.l) := ho.mono HR.out.2.2.2.size
          have HRE : Hid (R.map (·.l) = (gr.l.map (·.l)).take j ∧ R.length = j) := ⟨HR.out.2.1, HR.out.2.2.1⟩
          clear ho hB hc2 HIN HR
          have hoA : EOwn eRw (W3.alloc (.cells #[.slice A3 r.l.length c3] 37)) wo.heap.size (some ⟨W3.heap.size, 0, none⟩) 1 [⟨A3, r.l, c3⟩] := EOwn.new (E := eRw) W3 [(⟨A3, r.l, c3⟩ : Rw)] (by simp [maxLen]) HR3.out.2.size #[.slice A3 r.l.length c3] rfl
          have hbA : Below W3.heap.size W3 (W3.alloc (.cells #[.slice A3 r.l.length c3] 37)) := (Below.refl _ _).alloc (Nat.le_refl _) _
          have HRA : Hid (RwOwn wo.heap.size (W3.alloc (.cells #[.slice A3 r.l.length c3] 37)) A2 c2 R ∧ EOwn eVa (W3.alloc (.cells #[.slice A3 r.l.length c3] 37)) wo.heap.size A3 c3 r.l ∧ Below wo.heap.size wo (W3.alloc (.cells #[.slice A3 r.l.length c3] 37))) := ⟨HR3.out.1.below hbA, HO3.out.below hbA, HR3.out.2.then hbA⟩
          clear hbA HR3 HO3
          go_wp2_with (at_builtin; refine wpList_append_elems eRw rfl (.tmp 30) (.tmp 33) rfl j rfl HRA.out.1.own HRE.out.2.symm 1 rfl hoA.row rfl (by have := HRE.out.2; simp; omega) HRA.out.2.2.size ?_; intro A5 c5 W5 ho5 hb5 hg5 _)
          have HR5 := Lib.hid (HRA.out.1.one HRA.out.2.1 ho5 hg5)
          have HB5 := Lib.hid (HRA.out.2.2.trans hb5)
          clear ho5 hb5 hg5 hoA HRA
          go_roundw
          case rel => exact ⟨j + 1, A5, c5, R ++ [⟨A3, r.l, c3⟩], by omega, by rw [HRE.out.2]; rfl, by go_num, HR5.out, by rw [HTJ.out, List.map_append, HRE.out.1]; rfl, by rw [List.length_append, HRE.out.2]; rfl, HB5.out⟩
          case measure => simp [intOf]; omega
        · obtain rfl : j = gr.l.length := by omega
          have HRE : Hid (R.map (·.l) = gr.l.map (·.l) ∧ R.length = gr.l.length) := ⟨by rw [HR.out.2.1, ← List.length_map (f := (·.l)), List.take_length], HR.out.2.2.1⟩
          have HR3 : Hid (RwOwn wo.heap.size wr A2 c2 R ∧ Below wo.heap.size wo wr) := ⟨HR.out.1, HR.out.2.2.2⟩
          clear HR hc
          obtain ⟨c0, -, hf0, -, hgm⟩ := Blk.c2 (HN.out.blk.below HR3.out.2)
          rw [← HRE.out.2]
          rw [hG'] at c0
          have hoA : EOwn eT3 (wr.alloc (.cells #[.slice A2 R.length c2] 43)) w.heap.size (some ⟨wr.heap.size, 0, none⟩) 1 [⟨A2, R, c2⟩] := EOwn.new (E := eT3) wr [(⟨A2, R, c2⟩ : Gr)] (by simp [maxLen]) (HN.out.b.then HR3.out.2).size #[.slice A2 R.length c2] rfl
          go_upto_region 12 with (at_builtin; refine wpList_append_elems eT3 rfl (.tmp 40) (.tmp 42) rfl k rfl ((HN.out.own.own.below HR3.out.2).alloc _) hG'.symm 1 rfl hoA.row rfl (by rw [hG']; simp; omega) (by have := (HN.out.b.then HR3.out.2).size; simp; omega) ?_; intro A5 c5 W5 ho5 hb5 hg5 _; have HN5 := Lib.hid (HN.out.one (g := ⟨A2, R, c2⟩) HR3.out.2 HR3.out.1 ho5 hg5); obtain ⟨d0, -, df0, -, dg⟩ := Blk.c2 (HN.out.blk4 (g := ⟨A2, R, c2⟩) HR3.out.2 hg5); clear ho5 hb5 hg5 c0 hf0 hgm)
          rw [hG'] at HN5
          generalize World.setCell W5 _ _ = W6 at HN5 ⊢
          clear HR3 HN hoA d0 df0 dg
          go_wp2_with fail
          go_roundw
          case rel => exact ⟨k + 1, A5, c5, G' ++ [⟨A2, R, c2⟩], by omega, by go_num, by rw [HTK.out, show Run.rowsG gr = Run.rowsG ⟨A2, R, c2⟩ from HRE.out.1.symm]; exact HN5.out⟩
          case measure => simp [intOf]; omega
    · obtain rfl : k = G.length := by omega
      have HK : Hid (NewK w wo gm (G.map Run.rowsG) [] A c G' none 0 []) := by
        have h := HN.out
        have e : (G.map Run.rowsG).take G.length = G.map Run.rowsG := by rw [← List.length_map (f := Run.rowsG), List.take_length]
        rw [e] at h
        exact ⟨h.blk, h.own, h.rows, KsOwn.start, rfl, (by intro k hk; cases hk), (by intro k hk; cases hk), h.b, h.lo⟩
      clear HN
      go_wp2_with fail
      go_loopw [49] (fun iv wr => ∃ (k : Nat) (A2 : Option Addr) (c2 : Nat) (K : List Ks), k ≤ D.length ∧ iv = .int .i64 (k : Int) ∧ Hid (NewK w wr gm (G.map Run.rowsG) ((D.map (Run.keysD (G.map Run.rowsG))).take k) A c G' A2 c2 K)) (fun iv _ => D.length - (intOf iv).toNat)
      case atStart => exact ⟨0, none, 0, [], Nat.zero_le _, by go_num, HK.out⟩
      case round =>
        obtain ⟨k, A2, c2, K, hk, rfl, HN⟩ := hrel
        obtain ⟨w1, rfl⟩ : ∃ x, x = wr := ⟨_, rfl⟩
        clear HK
        by_cases hlt : k < D.length
        · have hki : (k : Int) < (D.length : Int) := by omega
          obtain ⟨b, o, rfl, -⟩ := HD.out.r.at_ hlt
          have HDR := Lib.hid (HD.out.r.below HN.out.b)
          have HTK : Hid ((D.map (Run.keysD (G.map Run.rowsG))).take (k + 1) = (D.map (Run.keysD (G.map Run.rowsG))).take k ++ [Run.keysD (G.map Run.rowsG) D[k]]) := by
            show _ = _
            rw [List.take_succ_eq_append_getElem (by simpa using hlt)]
            simp
          have hdm := List.getElem_mem hlt
          have HDI : Hid (ERow eInt w D[k].a D[k].cols ∧ (∀ c ∈ D[k].cols, Ev.inB c) ∧ D[k].cols.length ≤ 90) := ⟨HD.out.cr _ hdm, HD.out.ci _ hdm, HCL.out _ hdm⟩
          have hK : K.length = k := by
            have := congrArg List.length HN.out.keys
            simpa [Nat.min_eq_left (Nat.le_of_lt hlt)] using this
          clear hdm
          obtain ⟨d, hd⟩ : ∃ d, D[k] = d := ⟨_, rfl⟩
          have HDK := Lib.hid hd
          rw [hd] at HTK HDI
          clear hd
          go_upto_region 16 with (first | (refine wpList_load_df_at (j := k) rfl (.tmp 51) rfl HDR.out hlt d HDK.out rfl ?_) | (refine wpList_alloc_df rfl rfl ?_; intro W2 hb2 hz2 hB2) | (refine wpList_store_df rfl rfl (.tmp 12) (.tmp 52) rfl _ rfl d rfl hb2 ?_; intro W3 hb3 hg3))
          have HN3 := Lib.hid (HN.out.below (below_of_grown hB2 hg3 (Nat.le_refl _) hB2.size))
          have H12 := Lib.hid hb3
          clear hb2 hz2 hB2 hg3 hb3
          generalize w1.heap.size = g12 at H12 ⊢
          obtain ⟨d0, d1, -⟩ := Blk.c3 H12.out
          by_cases hin : 0 ≤ d.t ∧ d.t < (G.length : Int)
          · obtain ⟨hi0, hi1⟩ := hin
            obtain ⟨n, hn⟩ : ∃ n : Nat, d.t = (n : Int) := ⟨d.t.toNat, by omega⟩
            have hnl : n < G.length := by omega
            have HKD : Hid (Run.keysD (G.map Run.rowsG) d = Run.keys d.cols (Run.rowsG G[n])) := by
              show _ = _
              unfold Run.keysD Run.rowsAt
              rw [hn, if_pos ⟨by omega, by simpa using hnl⟩]
              simp [List.getD, hnl]
            obtain ⟨b4, o4, rfl, -, hc⟩ := T3_at (HT.out.r.below HN3.out.b) hnl
            have HG := Lib.hid (HT.out.in_ _ (List.getElem_mem hnl))
            have hrl := HT.out.gl _ (List.getElem_mem hnl)
            have HVL := Lib.hid (HT.out.vl _ (List.getElem_mem hnl))
            generalize G[n] = gr at hc HG hrl HVL HKD
            unfold Gr.h at hc
            rw [hn] at d0
            clear hi0 hi1 hn
            go_upto_region 19 with fail
            clear d0 d1 hc
            go_loopw [13, 69] (fun rv jv wq => ∃ (j : Nat) (A3 : Option Addr) (c3 : Nat) (P : List Part), j ≤ gr.l.length ∧ rv = .slice A3 j c3 ∧ jv = .int .i64 (j : Int) ∧ Hid (KyOwn W3.heap.size wq A3 c3 P ∧ P.map (·.l) = Run.keysU d.cols 0 ((Run.rowsG gr).take j) ∧ P.length = j ∧ (∀ p ∈ P, p.l.length ≤ 200000) ∧ Below W3.heap.size W3 wq)) (fun _ jv _ => gr.l.length - (intOf jv).toNat)
            case atStart => exact ⟨0, none, 0, [], Nat.zero_le _, rfl, by go_num, KyOwn.start, rfl, rfl, (by intro p hp; cases hp), Below.refl _ _⟩
            case round =>
              obtain ⟨j, A3, c3, P, hj, rfl, rfl, HR⟩ := hrel
              by_cases hjt : j < gr.l.length
              · have hji : (j : Int) < (gr.l.length : Int) := by omega
                obtain ⟨b2, o2, ha2, -, hc2⟩ := rw_at ((HG.out.r.below HN3.out.b).below HR.out.2.2.2.2) hjt
                have HTJ : Hid (Run.keysU d.cols 0 ((Run.rowsG gr).take (j + 1)) = Run.keysU d.cols 0 ((Run.rowsG gr).take j) ++ [Run.key d.cols gr.l[j].l ((j : Int) + 1)]) := by
                  show _ = _
                  rw [Run.keysU_take d.cols (Run.rowsG gr) j (by simpa using hjt)]
                  simp
                have HIN := Lib.hid ((HG.out.in_ _ (List.getElem_mem hjt)).below (HN3.out.b.then HR.out.2.2.2.2))
                have HSV := Lib.hid (HVL.out _ (List.getElem_mem hjt))
                obtain ⟨-, d1, -⟩ := Blk.c3 (H12.out.below HR.out.2.2.2.2)
                rw [ha2]
                clear ha2
                generalize gr.l[j] = r at hc2 HTJ HIN HSV
                unfold Rw.v at hc2
                go_wp2_with fail
                refine (rkey_any wr d.a d.c d.cols ((HDI.out.1.below HN3.out.b).below HR.out.2.2.2.2) HDI.out.2.1 (by have := HDI.out.2.2; omega) r.a r.c r.l HIN.out HSV.out ((j : Int) + 1) (by omega) (by omega)).mono ?_
                rintro e W4 ⟨A4, c4, rfl, ho, hB⟩
                have HKL : Hid ((Run.key d.cols r.l ((j : Int) + 1)).length ≤ 200000) := by
                  have h1 := Run.key_len d.cols r.l ((j : Int) + 1) HSV.out
                  have h2 := HDI.out.2.2
                  show _ ≤ _
                  omega
                obtain ⟨kv, hkv⟩ : ∃ x, Run.key d.cols r.l ((j : Int) + 1) = x := ⟨_, rfl⟩
                rw [hkv] at HTJ HKL ho ⊢
                have HR4 : Hid (KyOwn W3.heap.size W4 A3 c3 P ∧ Below W3.heap.size W3 W4 ∧ BOwn W4 W3.heap.size A4 c4 kv) := ⟨HR.out.1.below hB, HR.out.2.2.2.2.then hB, ho.mono HR.out.2.2.2.2.size⟩
                have HRE : Hid (P.map (·.l) = Run.keysU d.cols 0 ((Run.rowsG gr).take j) ∧ P.length = j ∧ ∀ p ∈ P, p.l.length ≤ 200000) := ⟨HR.out.2.1, HR.out.2.2.1, HR.out.2.2.2.1⟩
                clear ho hB hc2 HIN HR hkv d1 HSV
                have hoA : EOwn eKy (W4.alloc (.cells #[.slice A4 kv.length c4] 32)) W3.heap.size (some ⟨W4.heap.size, 0, none⟩) 1 [⟨A4, c4, kv⟩] := EOwn.new (E := eKy) W4 [(⟨A4, c4, kv⟩ : Part)] (by simp [maxLen]) HR4.out.2.1.size #[.slice A4 kv.length c4] rfl
                have hbA : Below W4.heap.size W4 (W4.alloc (.cells #[.slice A4 kv.length c4] 32)) := (Below.refl _ _).alloc (Nat.le_refl _) _
                have HRA : Hid (KyOwn W3.heap.size (W4.alloc (.cells #[.slice A4 kv.length c4] 32)) A3 c3 P ∧ BOwn (W4.alloc (.cells #[.slice A4 kv.length c4] 32)) W3.heap.size A4 c4 kv ∧ Below W3.heap.size W3 (W4.alloc (.cells #[.slice A4 kv.length c4] 32))) := ⟨HR4.out.1.below hbA, HR4.out.2.2.below hbA, HR4.out.2.1.then hbA⟩
                clear hbA HR4
                go_wp2_with (at_builtin; refine wpList_append_elems eKy rfl (.tmp 74) (.tmp 81) rfl j rfl HRA.out.1.own HRE.out.2.1.symm 1 rfl hoA.row rfl (by have := HRE.out.2.1; simp; omega) HRA.out.2.2.size ?_; intro A5 c5 W5 ho5 hb5 hg5 _)
                have HR5 := Lib.hid (HRA.out.1.one HRA.out.2.1 ho5 hg5)
                have HB5 := Lib.hid (HRA.out.2.2.trans hb5)
                clear ho5 hb5 hg5 hoA HRA
                go_roundw
                case rel =>
                  refine ⟨j + 1, A5, c5, P ++ [⟨A4, c4, kv⟩], by omega, by rw [HRE.out.2.1], by go_num, HR5.out, by rw [HTJ.out, List.map_append, HRE.out.1]; rfl, by rw [List.length_append, HRE.out.2.1]; rfl, ?_, HB5.out⟩
                  intro p hp
                  rcases List.mem_append.1 hp with hp | hp
                  · exact HRE.out.2.2 p hp
                  · rw [List.mem_singleton.1 hp]; exact HKL.out
                case measure => simp [intOf]; omega
              · obtain rfl : j = gr.l.length := by omega
                have HZ : Hid (KyOwn W3.heap.size wr A3 c3 P ∧ P.map (·.l) = Run.keysU d.cols 0 (Run.rowsG gr) ∧ P.length ≤ 1000 ∧ (∀ p ∈ P, p.l.length ≤ 200000) ∧ Below W3.heap.size W3 wr) := by
                  obtain ⟨h1, h2, h3, h4, h5⟩ := HR.out
                  refine ⟨h1, ?_, by omega, h4, h5⟩
                  rw [h2, ← List.length_map (f := (·.l)), List.take_length]
                have hPl : P.length = gr.l.length := HR.out.2.2.1
                clear HR
                rw [← hPl]
                clear hPl
                have HSO := Lib.hid (sortk_any wr W3.heap.size A3 c3 P HZ.out.1 (by have := HZ.out.2.2.1; omega))
                go_wp2_with fail
                refine HSO.out.mono ?_
                rintro e W7 ⟨P', rfl, hky, hperm, hmap, hgr⟩
                skip
                have HB7 : Hid (Below W3.heap.size W3 W7) := HZ.out.2.2.2.2.grown hgr HZ.out.2.2.2.2.size fun x hx => by
                  cases hA : (A3 : Option Addr) with
                  | none => rw [hA] at hx; cases hx
                  | some a => rw [hA] at hx; cases hx; exact (HZ.out.1.own.block a hA).1
                have HP7 : Hid (KyOwn w.heap.size W7 A3 c3 (P' : List Part) ∧ (P' : List Part).length = (P : List Part).length ∧ (P' : List Part).length ≤ 1000 ∧ (∀ p ∈ (P' : List Part), p.l.length ≤ 200000) ∧ Run.keysG ⟨A3, P', c3⟩ = Run.keysD (G.map Run.rowsG) d) := by
                  refine ⟨hky.mono HN3.out.b.size, hperm.length_eq, by rw [hperm.length_eq]; exact HZ.out.2.2.1, fun p hp => HZ.out.2.2.2.1 p (hperm.mem_iff.1 hp), ?_⟩
                  show (P' : List Part).map (·.l) = _
                  rw [hmap, HZ.out.2.1, HKD.out]
                  rfl
                have HN7 := Lib.hid (HN3.out.below HB7.out)
                clear hky hperm hmap hgr HSO HZ HKD HN3 HN HB7
                rw [← HP7.out.2.1]
                obtain ⟨-, c1, -, hf1, hgm⟩ := Blk.c2 HN7.out.blk
                rw [hK] at c1
                have hoA : EOwn eKs (W7.alloc (.cells #[.slice A3 (P' : List Part).length c3] 77)) w.heap.size (some ⟨W7.heap.size, 0, none⟩) 1 [⟨A3, P', c3⟩] := EOwn.new (E := eKs) W7 [(⟨A3, P', c3⟩ : Ks)] (by simp [maxLen]) HN7.out.b.size #[.slice A3 (P' : List Part).length c3] rfl
                go_upto_region 25 with (at_builtin; refine wpList_append_elems eKs rfl (.tmp 90) (.tmp 92) rfl k rfl (HN7.out.ks.own.alloc _) hK.symm 1 rfl hoA.row rfl (by rw [hK]; simp; omega) (by have := HN7.out.b.size; simp; omega) ?_; intro A5 c5 W5 ho5 hb5 hg5 _; have HN5 := Lib.hid (HN7.out.one (g := ⟨A3, P', c3⟩) HP7.out.1 HP7.out.2.2.1 HP7.out.2.2.2.1 ho5 hg5); obtain ⟨-, d1, -, df1, dg⟩ := Blk.c2 (HN7.out.blk4 (g := ⟨A3, P', c3⟩) hg5); clear ho5 hb5 hg5 c1 hf1 hgm)
                rw [hK] at HN5
                generalize World.setCell W5 _ _ = W6 at HN5 ⊢
                clear HN7 hoA d1 df1 dg
                go_wp2_with fail
                go_roundw
                case rel => exact ⟨k + 1, A5, c5, K ++ [⟨A3, P', c3⟩], by omega, by go_num, by rw [HTK.out, ← HP7.out.2.2.2.2]; exact HN5.out⟩
                case measure => simp [intOf]; omega
          · have HKD : Hid (Run.keysD (G.map Run.rowsG) d = Run.keys d.cols []) := by
              show _ = _
              unfold Run.keysD Run.rowsAt
              rw [if_neg (by simpa using hin)]
            have HZ : Hid (KyOwn W3.heap.size W3 none 0 [] ∧ ([] : List Part).map (·.l) = Run.keysU d.cols 0 [] ∧ ([] : List Part).length ≤ 1000 ∧ (∀ p ∈ ([] : List Part), p.l.length ≤ 200000) ∧ Below W3.heap.size W3 W3) :=
              ⟨KyOwn.start, rfl, Nat.zero_le _, (by intro p hp; cases hp), Below.refl _ _⟩
            by_cases hneg : d.t < 0
            · have hneg' : ¬ 0 ≤ d.t := by omega
              have HSO := Lib.hid (sortk_any W3 W3.heap.size none 0 [] HZ.out.1 (by have := HZ.out.2.2.1; omega))
              go_wp2_with fail
              refine HSO.out.mono ?_
              rintro e W7 ⟨P', rfl, hky, hperm, hmap, hgr⟩
              obtain rfl := hperm.eq_nil
              have HB7 : Hid (Below W3.heap.size W3 W7) := HZ.out.2.2.2.2.grown hgr HZ.out.2.2.2.2.size fun x hx => by
                cases hA : (none : Option Addr) with
                | none => rw [hA] at hx; cases hx
                | some a => rw [hA] at hx; cases hx; exact (HZ.out.1.own.block a hA).1
              have HP7 : Hid (KyOwn w.heap.size W7 none 0 ([] : List Part) ∧ ([] : List Part).length = ([] : List Part).length ∧ ([] : List Part).length ≤ 1000 ∧ (∀ p ∈ ([] : List Part), p.l.length ≤ 200000) ∧ Run.keysG ⟨none, [], 0⟩ = Run.keysD (G.map Run.rowsG) d) := by
                refine ⟨hky.mono HN3.out.b.size, hperm.length_eq, by rw [hperm.length_eq]; exact HZ.out.2.2.1, fun p hp => HZ.out.2.2.2.1 p (hperm.mem_iff.1 hp), ?_⟩
                show ([] : List Part).map (·.l) = _
                rw [hmap, HZ.out.2.1, HKD.out]
                rfl
              have HN7 := Lib.hid (HN3.out.below HB7.out)
              clear hky hperm hmap hgr HSO HZ HKD HN3 HN HB7
              skip
              obtain ⟨-, c1, -, hf1, hgm⟩ := Blk.c2 HN7.out.blk
              rw [hK] at c1
              have hoA : EOwn eKs (W7.alloc (.cells #[.slice none ([] : List Part).length 0] 77)) w.heap.size (some ⟨W7.heap.size, 0, none⟩) 1 [⟨none, [], 0⟩] := EOwn.new (E := eKs) W7 [(⟨none, [], 0⟩ : Ks)] (by simp [maxLen]) HN7.out.b.size #[.slice none ([] : List Part).length 0] rfl
              go_upto_region 25 with (at_builtin; refine wpList_append_elems eKs rfl (.tmp 90) (.tmp 92) rfl k rfl (HN7.out.ks.own.alloc _) hK.symm 1 rfl hoA.row rfl (by rw [hK]; simp; omega) (by have := HN7.out.b.size; simp; omega) ?_; intro A5 c5 W5 ho5 hb5 hg5 _; have HN5 := Lib.hid (HN7.out.one (g := ⟨none, [], 0⟩) HP7.out.1 HP7.out.2.2.1 HP7.out.2.2.2.1 ho5 hg5); obtain ⟨-, d1, -, df1, dg⟩ := Blk.c2 (HN7.out.blk4 (g := ⟨none, [], 0⟩) hg5); clear ho5 hb5 hg5 c1 hf1 hgm)
              rw [hK] at HN5
              generalize World.setCell W5 _ _ = W6 at HN5 ⊢
              clear HN7 hoA d1 df1 dg
              go_wp2_with fail
              go_roundw
              case rel => exact ⟨k + 1, A5, c5, K ++ [⟨none, [], 0⟩], by omega, by go_num, by rw [HTK.out, ← HP7.out.2.2.2.2]; exact HN5.out⟩
              case measure => simp [intOf]; omega
            · have hpos : 0 ≤ d.t := by omega
              have hbig : ¬ d.t < (G.length : Int) := fun h => hin ⟨hpos, h⟩
              have HSO := Lib.hid (sortk_any W3 W3.heap.size none 0 [] HZ.out.1 (by have := HZ.out.2.2.1; omega))
              go_wp2_with fail
              refine HSO.out.mono ?_
              rintro e W7 ⟨P', rfl, hky, hperm, hmap, hgr⟩
              obtain rfl := hperm.eq_nil
              have HB7 : Hid (Below W3.heap.size W3 W7) := HZ.out.2.2.2.2.grown hgr HZ.out.2.2.2.2.size fun x hx => by
                cases hA : (none : Option Addr) with
                | none => rw [hA] at hx; cases hx
                | some a => rw [hA] at hx; cases hx; exact (HZ.out.1.own.block a hA).1
              have HP7 : Hid (KyOwn w.heap.size W7 none 0 ([] : List Part) ∧ ([] : List Part).length = ([] : List Part).length ∧ ([] : List Part).length ≤ 1000 ∧ (∀ p ∈ ([] : List Part), p.l.length ≤ 200000) ∧ Run.keysG ⟨none, [], 0⟩ = Run.keysD (G.map Run.rowsG) d) := by
                refine ⟨hky.mono HN3.out.b.size, hperm.length_eq, by rw [hperm.length_eq]; exact HZ.out.2.2.1, fun p hp => HZ.out.2.2.2.1 p (hperm.mem_iff.1 hp), ?_⟩
                show ([] : List Part).map (·.l) = _
                rw [hmap, HZ.out.2.1, HKD.out]
                rfl
              have HN7 := Lib.hid (HN3.out.below HB7.out)
              clear hky hperm hmap hgr HSO HZ HKD HN3 HN HB7
              skip
              obtain ⟨-, c1, -, hf1, hgm⟩ := Blk.c2 HN7.out.blk
              rw [hK] at c1
              have hoA : EOwn eKs (W7.alloc (.cells #[.slice none ([] : List Part).length 0] 77)) w.heap.size (some ⟨W7.heap.size, 0, none⟩) 1 [⟨none, [], 0⟩] := EOwn.new (E := eKs) W7 [(⟨none, [], 0⟩ : Ks)] (by simp [maxLen]) HN7.out.b.size #[.slice none ([] : List Part).length 0] rfl
              go_upto_region 25 with (at_builtin; refine wpList_append_elems eKs rfl (.tmp 90) (.tmp 92) rfl k rfl (HN7.out.ks.own.alloc _) hK.symm 1 rfl hoA.row rfl (by rw [hK]; simp; omega) (by have := HN7.out.b.size; simp; omega) ?_; intro A5 c5 W5 ho5 hb5 hg5 _; have HN5 := Lib.hid (HN7.out.one (g := ⟨none, [], 0⟩) HP7.out.1 HP7.out.2.2.1 HP7.out.2.2.2.1 ho5 hg5); obtain ⟨-, d1, -, df1, dg⟩ := Blk.c2 (HN7.out.blk4 (g := ⟨none, [], 0⟩) hg5); clear ho5 hb5 hg5 c1 hf1 hgm)
              rw [hK] at HN5
              generalize World.setCell W5 _ _ = W6 at HN5 ⊢
              clear HN7 hoA d1 df1 dg
              go_wp2_with fail
              go_roundw
              case rel => exact ⟨k + 1, A5, c5, K ++ [⟨none, [], 0⟩], by omega, by go_num, by rw [HTK.out, ← HP7.out.2.2.2.2]; exact HN5.out⟩
              case measure => simp [intOf]; omega
        · obtain rfl : k = D.length := by omega
          have hkeys : K.map Run.keysG = D.map (Run.keysD (G.map Run.rowsG)) := by
            rw [HN.out.keys, ← List.length_map (f := Run.keysD (G.map Run.rowsG)), List.take_length]
          have HE : Hid (RetMem w (G.map Run.rowsG) (D.map (Run.keysD (G.map Run.rowsG))) (.returned (.pointer (some ⟨gm, 0, none⟩))) w1) := by
            have h := HN.out
            have hlG : G'.length = G.length := by have := congrArg List.length h.rows; simpa using this
            have hlK : K.length = D.length := by have := congrArg List.length hkeys; simpa using this
            refine ⟨gm, G', K, rfl, ⟨⟨A, c, A2, c2, h.blk, ?_, ?_⟩⟩, h.rows, hkeys, h.b⟩
            · refine ⟨h.own.own.row, fun g hg => ?_, by omega, fun g hg => ?_, fun g hg r hr => ?_, fun g hg r hr v hv => ?_⟩
              all_goals
                obtain ⟨g0, hg0, e0⟩ := Run.rows_back h.rows hg
              · have hgl0 := HT.out.gl g0 hg0
                have hle : g.l.length = g0.l.length := by have := congrArg List.length e0; simpa using this.symm
                refine ⟨(h.own.rows g hg).own.row, fun r hr => ?_, by omega⟩
                obtain ⟨r0, hr0, e1⟩ := Run.row_back e0 hr
                have hro := (HT.out.in_ g0 hg0).in_ r0 hr0
                exact ⟨((h.own.rows g hg).rows r hr).row, by rw [← e1]; exact hro.ok, by rw [← e1]; exact hro.len⟩
              · have hle : g.l.length = g0.l.length := by have := congrArg List.length e0; simpa using this.symm
                have := HT.out.gl g0 hg0
                omega
              · obtain ⟨r0, hr0, e1⟩ := Run.row_back e0 hr
                rw [← e1]; exact HT.out.rl g0 hg0 r0 hr0
              · obtain ⟨r0, hr0, e1⟩ := Run.row_back e0 hr
                exact HT.out.vl g0 hg0 r0 hr0 v (by rw [e1]; exact hv)
            · exact ⟨h.ks.own.row, fun k hk => (h.ks.rows k hk).own.row, fun k hk p hp => ((h.ks.rows k hk).rows p hp).row, by omega, h.kl, h.pl⟩
          clear HN
          go_wp2_with fail
          go_ret
          exact HE.out
end Go.Proofs.YtpahkaffknnjhaaGreatDoor
end

section
namespace Go.Proofs.YtpahkaffknnjhaaGreatDoor
set_option linter.unusedSimpArgs false
set_option linter.unusedVariables false
open Go.RowKit
def eI64 : Elem Int where
  e := 2
  t := 52
  sz := 1
  bytes := 8
  zero := .int .i64 0
  code := fun x => [.int .i64 x]
  pos := by decide
  few := by decide
  len := fun _ => rfl
  one := by
    intro x u hu
    simp at hu
    subst hu
    rfl
  zsz := rfl
  info := by kernel_rfl
  under := Tryz.underlying52
theorem i64_at {w : World} {A : Option Addr} {L : List Int} (h : ERow eI64 w A L) {j : Nat} (hj : j < L.length) : ∃ b o, A = some ⟨b, o, none⟩ ∧ b < w.heap.size ∧ w.cell? ⟨b, o + j, none⟩ = some (.int .i64 L[j]) := by
  obtain ⟨b, o, e, hb, hc⟩ := h.at_ hj
  refine ⟨b, o, e, hb, ?_⟩
  have := hc 0 _ rfl
  rwa [show o + (j * eI64.sz + 0) = o + j by show o + (j * 1 + 0) = _; omega] at this
structure Cs where
  d : Int
  n : Int
  a : Option Addr
  b : List Int
  c : Nat
def Cs.cells (x : Cs) : List Value := [.int .i64 x.d, .int .i64 x.n, .slice x.a x.b.length x.c]
def Cs.v (x : Cs) : Value := .agg x.cells.toArray
def Cs.nul : Cs := ⟨0, 0, none, [], 0⟩
def eCs : Elem Cs where
  e := 257
  t := 217
  sz := 3
  bytes := 40
  zero := .agg #[.int .i64 0, .int .i64 0, .slice none 0 0]
  code := Cs.cells
  pos := by decide
  few := by decide
  len := fun _ => rfl
  one := by
    intro x u hu
    simp [Cs.cells] at hu
    rcases hu with rfl | rfl | rfl <;> rfl
  zsz := rfl
  info := by kernel_rfl
  under := Tryz.underlying217
theorem Cs.cells_one (a : Cs) : ∀ u ∈ a.cells, u.oneCell' = true := eCs.one a
theorem load_cs {w : World} {g o : Nat} {a : Cs} (h0 : w.cell? ⟨g, o, none⟩ = some (.int .i64 a.d)) (h1 : w.cell? ⟨g, o + 1, none⟩ = some (.int .i64 a.n)) (h2 : w.cell? ⟨g, o + 2, none⟩ = some (.slice a.a a.b.length a.c)) :
    (loadVar 257 ⟨g, o, none⟩).run Tryz.prog w = .ok a.v w := by
  unfold Cs.v Cs.cells
  go_simp
theorem Blk.cs {w : World} {g : Nat} {t : TypeId} {a : Cs} (h : Blk w g t a.cells) : (loadVar 257 ⟨g, 0, none⟩).run Tryz.prog w = .ok a.v w := load_cs (h.cell 0) (h.cell 1) (h.cell 2)
section
variable {w : World} {ops : Array Oper} {rest : List Oper} {o : Oper} {a : Act} {Q : Exit → Act → World → Prop}
end
namespace Ev
end Ev
end Go.Proofs.YtpahkaffknnjhaaGreatDoor
end

section
namespace Go.Proofs.YtpahkaffknnjhaaGreatDoor
set_option linter.unusedSimpArgs false
set_option linter.unusedVariables false
open Go.RowKit
structure Qr where
  tv : Value
  bv : Value
  width : Int
  wa : Option Addr
  where_ : List Nd
  wc : Nat
  ga : Option Addr
  group : List Int
  gc : Nat
  grouped : Bool
  ia : Option Addr
  items : List Nd
  ic : Nat
  oa : Option Addr
  order : List So
  oc : Nat
  lim : Int
def Qr.cells (q : Qr) : List Value := [q.tv, q.bv, .int .i64 q.width, .slice q.wa q.where_.length q.wc, .slice q.ga q.group.length q.gc, .bool q.grouped, .slice q.ia q.items.length q.ic, .slice q.oa q.order.length q.oc, .int .i64 q.lim]
def Qr.v (q : Qr) : Value := .agg q.cells.toArray
structure QrIn (w : World) (q : Qr) : Prop where
  g : ERow eInt w q.ga q.group
  gin : ∀ n ∈ q.group, Ev.inB n
  gl : q.group.length ≤ 1000000
  i : ERow eNd w q.ia q.items
  iin : ∀ n ∈ q.items, NodeIn w n
  il : q.items.length ≤ 1000000
  o : ERow eSo w q.oa q.order
  oin : ∀ s ∈ q.order, Ev.inB s.at_
  ol : q.order.length ≤ 1000000
  lim : Ev.inB q.lim
theorem node_below {w W : World} {n : Nd} (h : NodeIn w n) (hB : Below w.heap.size w W) : NodeIn W n := by
  induction h with
  | @mk n hr hin hlit hls hk hat hc hm ih => exact .mk (hr.below hB) ih hlit hls hk hat hc hm
theorem QrIn.below {w W : World} {q : Qr} (h : QrIn w q) (hB : Below w.heap.size w W) : QrIn W q :=
  ⟨h.g.below hB, h.gin, h.gl, h.i.below hB, fun n hn => node_below (h.iin n hn) hB, h.il, h.o.below hB, h.oin, h.ol, h.lim⟩
theorem qr_info : (Tryz.prog.info? 26).map (·.size) = some 9 := by kernel_rfl
section
variable {w : World} {ops : Array Oper} {rest : List Oper} {o : Oper} {a : Act} {Q : Exit → Act → World → Prop}
theorem wpList_box_qr (hgd : o.guard = none) (x : Operand) (hop : o.op = .box 26 x) (b : Qr) (hx : a.eval x = b.v)
    (h : ∀ W, Blk W w.heap.size 26 b.cells → w.heap.size + 1 ≤ W.heap.size → Below w.heap.size w W → wpList Tryz.prog ops Q rest (a.put o.dst (.pointer (some ⟨w.heap.size, 0, none⟩))) W) : wpList Tryz.prog ops Q (o :: rest) a w :=
  wpList_plain hgd fun _ hK => by
    unfold Oper.wp execOp
    have e : (Instr.box 26 b.v).run Tryz.prog w = .ok (.pointer (some ⟨w.heap.size, 0, none⟩)) (w.alloc (.cells b.cells.toArray 26)) := by
      simp [Instr.box, Sem.run_bind, newVar, newRow]
      rfl
    simp only [hop, hx, Sem.run_bind, e, Result.andThen_ok, Sem.run_pure]
    obtain ⟨h1, h2, h3⟩ := fresh1 (w := w) (a := b.cells) (t := 26) rfl
    exact hK _ _ (h _ h1 h2 h3)
theorem wpList_load_qr (hgd : o.guard = none) (x : Operand) (hop : o.op = .load 26 x) (g : Nat) (hx : a.eval x = .pointer (some ⟨g, 0, none⟩)) {T0 : TypeId} {b : Qr} (hb : Blk w g T0 b.cells)
    (h : wpList Tryz.prog ops Q rest (a.put o.dst b.v) w) : wpList Tryz.prog ops Q (o :: rest) a w :=
  wpList_load_mid hgd 26 x hop g 0 hx b.cells _ (hb.range 0 b.cells fun j _ => by rw [Nat.zero_add]) Tryz.underlying26 rfl qr_info h
end
theorem Blk.qr {w : World} {g : Nat} {t : TypeId} {q : Qr} (h : Blk w g t q.cells) :
    w.cell? ⟨g, 4, none⟩ = some (.slice q.ga q.group.length q.gc) ∧ w.cell? ⟨g, 5, none⟩ = some (.bool q.grouped) ∧ w.cell? ⟨g, 6, none⟩ = some (.slice q.ia q.items.length q.ic) ∧ w.cell? ⟨g, 7, none⟩ = some (.slice q.oa q.order.length q.oc) ∧ w.cell? ⟨g, 8, none⟩ = some (.int .i64 q.lim) :=
  ⟨h.cell 4, h.cell 5, h.cell 6, h.cell 7, h.cell 8⟩
end Go.Proofs.YtpahkaffknnjhaaGreatDoor
end

section
namespace Go.Proofs.YtpahkaffknnjhaaGreatDoor
set_option linter.unusedSimpArgs false
set_option linter.unusedVariables false
open Go.RowKit
namespace Run
def allFrom (L : List Nd) (i : Nat) : List (List Va) → List (Nat × List Va)
  | [] => []
  | r :: l => if Ev.holds r L then (i + 1, r) :: allFrom L (i + 1) l else allFrom L (i + 1) l
theorem allFrom_snoc (L : List Nd) : ∀ (l : List (List Va)) (r : List Va) (i : Nat), allFrom L i (l ++ [r]) = allFrom L i l ++ if Ev.holds r L then [(i + l.length + 1, r)] else []
  | [], r, i => by simp [allFrom]
  | x :: l, r, i => by
    have ih := allFrom_snoc L l r (i + 1)
    rw [show i + 1 + l.length + 1 = i + (x :: l).length + 1 by simp; omega] at ih
    show (if Ev.holds x L then (i + 1, x) :: allFrom L (i + 1) (l ++ [r]) else allFrom L (i + 1) (l ++ [r])) = (if Ev.holds x L then (i + 1, x) :: allFrom L (i + 1) l else allFrom L (i + 1) l) ++ _
    rw [ih]
    split <;> rfl
theorem allFrom_len (L : List Nd) : ∀ (l : List (List Va)) (i : Nat), (allFrom L i l).length ≤ l.length
  | [], _ => Nat.zero_le _
  | r :: l, i => by
    have := allFrom_len L l (i + 1)
    show (if Ev.holds r L then (i + 1, r) :: allFrom L (i + 1) l else allFrom L (i + 1) l).length ≤ l.length + 1
    split
    · rw [List.length_cons]; omega
    · omega
theorem allFrom_take (L : List Nd) (l : List (List Va)) (k : Nat) (hk : k < l.length) : allFrom L 0 (l.take (k + 1)) = allFrom L 0 (l.take k) ++ if Ev.holds l[k] L then [(k + 1, l[k])] else [] := by
  rw [List.take_succ_eq_append_getElem hk, allFrom_snoc, List.length_take, Nat.min_eq_left (Nat.le_of_lt hk), Nat.zero_add]
end Run
theorem meth_next (p : Option Addr) (w : World) : (method 359 35 (.pointer p) "Next").run Tryz.prog w = .ok (9, .pointer p) w := by kernel_rfl
theorem meth_row (p : Option Addr) (w : World) : (method 359 35 (.pointer p) "Row").run Tryz.prog w = .ok (10, .pointer p) w := by kernel_rfl
theorem meth_seek (p : Option Addr) (w : World) : (method 359 35 (.pointer p) "Seek").run Tryz.prog w = .ok (12, .pointer p) w := by kernel_rfl
set_option maxRecDepth 20000 in
theorem all_nil (w : World) (t : Int) (v : Value) : Calls Tryz.prog 14 #[.int .i64 t, v, .nilIface] w fun e w' => e = .returned (.tuple #[.slice none 0 0, .slice none 0 0, .int .i64 1]) ∧ w' = w := by
  go_enter Tryz.func14, Tryz.ntmps14
  go_wp2_with fail
  go_ret3
  exact ⟨rfl, rfl⟩
namespace Run
theorem rowOf_rows (T : List (List (List Va))) (t : Int) (k : Nat) : rowOf T t k = (rowsAt T t)[k]? := by
  unfold rowOf rowsAt
  by_cases h : 0 ≤ t ∧ t < (T.length : Int)
  · rw [if_pos h]
    by_cases hk : k < (T.getD t.toNat []).length
    · rw [if_pos ⟨h.1, h.2, by omega, by omega⟩, List.getElem?_eq_getElem hk]
      rw [show ((k : Int)).toNat = k by omega, List.getD_eq_getElem?_getD, List.getElem?_eq_getElem hk]
      rfl
    · rw [if_neg (by omega), List.getElem?_eq_none (by omega)]
  · rw [if_neg h, if_neg (by omega)]
    rfl
theorem nextOf_rows (T : List (List (List Va))) (t : Int) (k : Nat) : nextOf T t k = ((rowsAt T t)[k]?).map fun l => (k + 1, l) := by
  unfold nextOf
  rw [show max (k : Int) 0 = (k : Int) by omega, rowOf_rows]
  rfl
end Run
theorem TbIn.row {w : World} {A : Option Addr} {G : List Gr} (h : TbIn w A G) {t : Int} {l : List Va} (hl : l ∈ Run.rowsAt (G.map Run.rowsG) t) : (∀ v ∈ l, v.ok) ∧ l.length ≤ 1000 ∧ (∀ v ∈ l, v.s.length ≤ 1000) ∧ (Run.rowsAt (G.map Run.rowsG) t).length ≤ 1000 := by
  unfold Run.rowsAt at hl ⊢
  by_cases ht : 0 ≤ t ∧ t < ((G.map Run.rowsG).length : Int)
  · rw [if_pos ht] at hl ⊢
    obtain ⟨n, rfl⟩ : ∃ n : Nat, t = (n : Int) := ⟨t.toNat, by omega⟩
    have hn : n < G.length := by simpa using ht.2
    have e : (G.map Run.rowsG).getD (n : Int).toNat [] = Run.rowsG G[n] := by simp [List.getD, hn]
    rw [e] at hl ⊢
    obtain ⟨r, hr, rfl⟩ := List.mem_map.1 hl
    have hm := List.getElem_mem hn
    exact ⟨((h.in_ _ hm).in_ r hr).ok, h.rl _ hm r hr, h.vl _ hm r hr, by have := h.gl _ hm; simpa using this⟩
  · rw [if_neg ht] at hl
    cases hl
def RetAll (w : World) (X : List (Nat × List Va)) (e : Ending) (w' : World) : Prop := ∃ A1 c1 A2 c2 R, e = .returned (.tuple #[.slice A1 (List.length R) c1, .slice A2 (List.length R) c2, .int .i64 0]) ∧ EOwn eI64 w' w.heap.size A1 c1 (X.map fun p => (p.1 : Int)) ∧ RwOwn w.heap.size w' A2 c2 R ∧ R.map Rw.l = X.map (·.2) ∧ Below w.heap.size w w'
def okOf : Value → Nat → Nat
  | .bool true, n => n
  | _, _ => 0
set_option maxRecDepth 20000 in
set_option maxHeartbeats 4000000 in
theorem all_any (w : World) (g : Nat) (G : List Gr) (K : List Ks) (hm : MemAt w g G K) (t : Int) (wa : Option Addr) (wc : Nat) (L : List Nd) (hl : ERow eNd w wa L) (hin : ∀ n ∈ L, NodeIn w n) (hll : L.length ≤ 1000000) :
    Calls Tryz.prog 14 #[.int .i64 t, .slice wa L.length wc, .iface 35 (.pointer (some ⟨g, 0, none⟩))] w (RetAll w (Run.allFrom L 0 (Run.rowsAt (G.map Run.rowsG) t))) := by
  have hmt := meth_next
  have HM := Lib.hid hm
  have HL := Lib.hid hl
  have HIN := Lib.hid hin
  obtain ⟨ta, tc, ka, kc, -, hT, -⟩ := hm.at_
  have HROW : Hid (∀ l ∈ Run.rowsAt (G.map Run.rowsG) t, (∀ v ∈ l, v.ok) ∧ l.length ≤ 1000 ∧ (∀ v ∈ l, v.s.length ≤ 1000) ∧ (Run.rowsAt (G.map Run.rowsG) t).length ≤ 1000) := fun l h => hT.row h
  have HNXA : Hid (∀ k : Nat, Run.nextOf (G.map Run.rowsG) t k = ((Run.rowsAt (G.map Run.rowsG) t)[k]?).map fun l => (k + 1, l)) := fun k => Run.nextOf_rows _ t k
  have hrs : (Run.rowsAt (G.map Run.rowsG) t).length ≤ 1000 := by
    cases h : Run.rowsAt (G.map Run.rowsG) t with
    | nil => simp
    | cons x l =>
      have := (HROW.out x (by rw [h]; simp)).2.2.2
      rw [h] at this
      exact this
  clear hm hl hin hT
  generalize hRS : Run.rowsAt (G.map Run.rowsG) t = RS at HROW HNXA hrs ⊢
  clear hRS
  go_enter Tryz.func14, Tryz.ntmps14
  go_wp2_with fail
  have h0 := mnext_any w g G K HM.out t ((0 : Nat) : Int) (by omega)
  rw [HNXA.out 0] at h0
  refine h0.mono ?_
  clear h0
  rintro e W1 hret
  obtain ⟨hB1, hret⟩ := hret
  have hstart : ∃ v1 v2 v3, e = .returned (.tuple #[v1, v2, .bool v3, .int .i64 0]) ∧ ((∃ h : 0 < RS.length, ∃ A c, v1 = .int .i64 ((0 : Int) + 1) ∧ v2 = .slice A RS[0].length c ∧ v3 = true ∧ EOwn eVa W1 w.heap.size A c RS[0]) ∨ 0 = RS.length ∧ v3 = false) := by
    by_cases h : 0 < RS.length
    · rw [List.getElem?_eq_getElem h] at hret
      obtain ⟨A, c, e1, ho⟩ := hret
      exact ⟨_, _, _, e1, .inl ⟨h, A, c, rfl, rfl, rfl, ho⟩⟩
    · rw [List.getElem?_eq_none (by omega)] at hret
      exact ⟨_, _, _, hret, .inr ⟨by omega, rfl⟩⟩
  obtain ⟨v1, v2, v3, rfl, hst⟩ := hstart
  have HST := Lib.hid hst
  have HB1 := Lib.hid hB1
  clear hret hst hB1
  go_wp2_with fail
  go_loopw [9, 10, 11, 12, 13, 14] (fun v9 v10 v11 v12 v13 v14 wr => ∃ (i : Nat) (A1 : Option Addr) (c1 : Nat) (A2 : Option Addr) (c2 : Nat) (R : List Rw), i ≤ RS.length ∧ v9 = .slice A1 R.length c1 ∧ v10 = .slice A2 R.length c2 ∧ v14 = .int .i64 0 ∧
    Hid (EOwn eI64 wr w.heap.size A1 c1 ((Run.allFrom L 0 (RS.take i)).map fun p => (p.1 : Int)) ∧ RwOwn w.heap.size wr A2 c2 R ∧ R.map Rw.l = (Run.allFrom L 0 (RS.take i)).map (·.2) ∧ Below w.heap.size w wr) ∧
    ((∃ h : i < RS.length, ∃ A c, v11 = .int .i64 ((i : Int) + 1) ∧ v12 = .slice A RS[i].length c ∧ v13 = .bool true ∧ Hid (EOwn eVa wr w.heap.size A c RS[i])) ∨ i = RS.length ∧ v13 = .bool false)) (fun _ _ v11 _ v13 _ _ => okOf v13 (RS.length + 2 - (intOf v11).toNat))
  case atStart =>
    refine ⟨0, none, 0, none, 0, [], Nat.zero_le _, rfl, rfl, rfl, ⟨EOwn.nil _ _, RwOwn.start, rfl, HB1.out⟩, ?_⟩
    rcases HST.out with ⟨h, A, c, rfl, rfl, rfl, ho⟩ | ⟨h, rfl⟩
    · exact .inl ⟨h, A, c, rfl, rfl, rfl, ho⟩
    · exact .inr ⟨h, rfl⟩
  case round =>
    obtain ⟨i, A1, c1, A2, c2, R, hi, rfl, rfl, rfl, HA, hcase⟩ := hrel
    rcases hcase with ⟨hlt, A, c, rfl, rfl, rfl, HO⟩ | ⟨hie, rfl⟩
    · have HTK := Lib.hid (Run.allFrom_take L RS i hlt)
      have HNX : Hid (Run.nextOf (G.map Run.rowsG) t ((i : Int) + 1) = (RS[i + 1]?).map fun l => (i + 1 + 1, l)) := HNXA.out (i + 1)
      have HRI := Lib.hid (HROW.out _ (List.getElem_mem hlt))
      obtain ⟨row, hrow⟩ : ∃ row, RS[i] = row := ⟨_, rfl⟩
      rw [hrow] at HTK HRI HO ⊢
      clear hrow HST
      have hrl := HRI.out.2.1
      have HRL : Hid (R.length = (Run.allFrom L 0 (RS.take i)).length) := by
        have := congrArg List.length HA.out.2.2.1
        show _ = _
        simpa using this
      have hRl : R.length ≤ 1000 := by
        have := Run.allFrom_len L (RS.take i) 0
        rw [List.length_take] at this
        have := HRL.out
        omega
      go_wp2_with fail
      refine (pholds_any wr wa A wc c L row (HL.out.below HA.out.2.2.2) (fun n hn => node_below (HIN.out n hn) HA.out.2.2.2) (by omega) ⟨HO.out.row, HRI.out.1, by omega⟩).mono ?_
      rintro e W2 ⟨rfl, hB2⟩
      have HA2 : Hid (EOwn eI64 W2 w.heap.size A1 c1 ((Run.allFrom L 0 (RS.take i)).map fun p => (p.1 : Int)) ∧ RwOwn w.heap.size W2 A2 c2 R ∧ R.map Rw.l = (Run.allFrom L 0 (RS.take i)).map (·.2) ∧ Below w.heap.size w W2) := ⟨HA.out.1.below hB2, HA.out.2.1.below hB2, HA.out.2.2.1, HA.out.2.2.2.then hB2⟩
      have HO2 := Lib.hid (HO.out.below hB2)
      clear hB2 HO HA
      by_cases hh : Ev.holds row L = true
      · rw [hh]
        rw [if_pos hh] at HTK
        have hoI : EOwn eI64 (W2.alloc (.cells #[.int .i64 ((i : Int) + 1)] 2)) w.heap.size (some ⟨W2.heap.size, 0, none⟩) 1 [(i : Int) + 1] := EOwn.new (E := eI64) W2 [(i : Int) + 1] (by simp [maxLen]) HA2.out.2.2.2.size #[.int .i64 ((i : Int) + 1)] rfl
        have hbA : Below W2.heap.size W2 (W2.alloc (.cells #[.int .i64 ((i : Int) + 1)] 2)) := (Below.refl _ _).alloc (Nat.le_refl _) _
        have HA3 : Hid (EOwn eI64 (W2.alloc (.cells #[.int .i64 ((i : Int) + 1)] 2)) w.heap.size A1 c1 ((Run.allFrom L 0 (RS.take i)).map fun p => (p.1 : Int)) ∧ RwOwn w.heap.size (W2.alloc (.cells #[.int .i64 ((i : Int) + 1)] 2)) A2 c2 R ∧ EOwn eVa (W2.alloc (.cells #[.int .i64 ((i : Int) + 1)] 2)) w.heap.size A c row ∧ Below w.heap.size w (W2.alloc (.cells #[.int .i64 ((i : Int) + 1)] 2))) := ⟨HA2.out.1.below hbA, HA2.out.2.1.below hbA, HO2.out.below hbA, HA2.out.2.2.2.then hbA⟩
        have HRE := Lib.hid HA2.out.2.2.1
        clear hbA HA2 HO2
        go_upto_region 10 with (at_builtin; refine wpList_append_elems eI64 rfl (.tmp 42) (.tmp 44) rfl R.length rfl HA3.out.1 (by have := HRL.out; simpa using this) 1 rfl hoI.row rfl (by have := HRL.out; simp; omega) HA3.out.2.2.2.size ?_; intro A5 c5 W5 ho5 hb5 hg5 _)
        have HA5 : Hid (EOwn eI64 W5 w.heap.size A5 c5 (((Run.allFrom L 0 (RS.take i)).map fun p => (p.1 : Int)) ++ [(i : Int) + 1]) ∧ RwOwn w.heap.size W5 A2 c2 R ∧ EOwn eVa W5 w.heap.size A c row ∧ Below w.heap.size w W5) := ⟨ho5, HA3.out.2.1.apart hg5 HA3.out.1.turns (by decide) (by decide), HA3.out.2.2.1.apart hg5 HA3.out.1.turns (by decide), HA3.out.2.2.2.trans hb5⟩
        clear ho5 hb5 hg5 hoI HA3
        go_wp2_with fail
        refine (vclone_any W5 A c row HA5.out.2.2.1.row (by omega)).mono ?_
        rintro e W6 ⟨A6, c6, rfl, ho6, hB6⟩
        have hoA : EOwn eRw (W6.alloc (.cells #[.slice A6 row.length c6] 37)) w.heap.size (some ⟨W6.heap.size, 0, none⟩) 1 [⟨A6, row, c6⟩] := EOwn.new (E := eRw) W6 [(⟨A6, row, c6⟩ : Rw)] (by simp [maxLen]) (HA5.out.2.2.2.then hB6).size #[.slice A6 row.length c6] rfl
        have hbA : Below W6.heap.size W6 (W6.alloc (.cells #[.slice A6 row.length c6] 37)) := (Below.refl _ _).alloc (Nat.le_refl _) _
        have HA7 : Hid (EOwn eI64 (W6.alloc (.cells #[.slice A6 row.length c6] 37)) w.heap.size A5 c5 (((Run.allFrom L 0 (RS.take i)).map fun p => (p.1 : Int)) ++ [(i : Int) + 1]) ∧ RwOwn w.heap.size (W6.alloc (.cells #[.slice A6 row.length c6] 37)) A2 c2 R ∧ EOwn eVa (W6.alloc (.cells #[.slice A6 row.length c6] 37)) w.heap.size A6 c6 row ∧ Below w.heap.size w (W6.alloc (.cells #[.slice A6 row.length c6] 37))) :=
          ⟨(HA5.out.1.below hB6).below hbA, (HA5.out.2.1.below hB6).below hbA, (ho6.mono HA5.out.2.2.2.size).below hbA, (HA5.out.2.2.2.then hB6).then hbA⟩
        clear ho6 hB6 hbA HA5
        go_upto_region 7 with (at_builtin; refine wpList_append_elems eRw rfl (.tmp 46) (.tmp 49) rfl R.length rfl HA7.out.2.1.own rfl 1 rfl hoA.row rfl (by simp; omega) HA7.out.2.2.2.size ?_; intro A8 c8 W8 ho8 hb8 hg8 _)
        obtain ⟨R', hR'⟩ : ∃ R', R ++ [(⟨A6, row, c6⟩ : Rw)] = R' := ⟨_, rfl⟩
        have HA : Hid (EOwn eI64 W8 w.heap.size A5 c5 ((Run.allFrom L 0 (RS.take (i + 1))).map fun p => (p.1 : Int)) ∧ RwOwn w.heap.size W8 A8 c8 R' ∧ R'.map Rw.l = (Run.allFrom L 0 (RS.take (i + 1))).map (·.2) ∧ Below w.heap.size w W8) := by
          refine ⟨?_, hR' ▸ HA7.out.2.1.one (r := ⟨A6, row, c6⟩) HA7.out.2.2.1 ho8 hg8, ?_, HA7.out.2.2.2.trans hb8⟩
          · have h := HA7.out.1.apart hg8 HA7.out.2.1.own.turns (by decide)
            rw [HTK.out]
            simpa using h
          · rw [HTK.out, ← hR', List.map_append, HRE.out, List.map_append]
            rfl
        have HR1 : Hid (R'.length = R.length + 1) := by show _ = _; rw [← hR']; simp
        clear ho8 hb8 hg8 hoA HA7 HRE hR'
        go_wp2_with fail
        refine (mnext_any W8 g G K (HM.out.below HA.out.2.2.2) t ((i : Int) + 1) (by omega)).mono ?_
        rw [HNX.out]
        by_cases hnx : i + 1 < RS.length
        · rw [List.getElem?_eq_getElem hnx]
          rintro e W9 ⟨hB9, A9, c9, rfl, ho9⟩
          have HA9 : Hid (EOwn eI64 W9 w.heap.size A5 c5 ((Run.allFrom L 0 (RS.take (i + 1))).map fun p => (p.1 : Int)) ∧ RwOwn w.heap.size W9 A8 c8 R' ∧ (R' : List Rw).map Rw.l = (Run.allFrom L 0 (RS.take (i + 1))).map (·.2) ∧ Below w.heap.size w W9) := ⟨HA.out.1.below hB9, HA.out.2.1.below hB9, HA.out.2.2.1, HA.out.2.2.2.then hB9⟩
          have HO9 : Hid (EOwn eVa W9 w.heap.size A9 c9 RS[i + 1]) := ho9.mono HA.out.2.2.2.size
          clear hB9 ho9 HA
          go_wp2_with fail
          go_roundw
          case rel => exact ⟨i + 1, A5, c5, A8, c8, R', by omega, by rw [HR1.out, HRL.out], by rw [HR1.out], rfl, HA9.out, .inl ⟨hnx, A9, c9, by go_num, rfl, rfl, HO9.out⟩⟩
          case measure => simp [okOf, intOf]; omega
        · have hie : i + 1 = RS.length := by omega
          rw [List.getElem?_eq_none (by omega)]
          rintro e W9 ⟨hB9, rfl⟩
          have HA9 : Hid (EOwn eI64 W9 w.heap.size A5 c5 ((Run.allFrom L 0 (RS.take (i + 1))).map fun p => (p.1 : Int)) ∧ RwOwn w.heap.size W9 A8 c8 R' ∧ (R' : List Rw).map Rw.l = (Run.allFrom L 0 (RS.take (i + 1))).map (·.2) ∧ Below w.heap.size w W9) := ⟨HA.out.1.below hB9, HA.out.2.1.below hB9, HA.out.2.2.1, HA.out.2.2.2.then hB9⟩
          clear hB9 HA
          go_wp2_with fail
          go_roundw
          case rel => exact ⟨i + 1, A5, c5, A8, c8, R', by omega, by rw [HR1.out, HRL.out], by rw [HR1.out], rfl, HA9.out, .inr ⟨hie, rfl⟩⟩
          case measure => simp [okOf, intOf]; omega
      · have hh' : Ev.holds row L = false := by simpa using hh
        rw [hh'] at HTK ⊢
        have HA : Hid (EOwn eI64 W2 w.heap.size A1 c1 ((Run.allFrom L 0 (RS.take (i + 1))).map fun p => (p.1 : Int)) ∧ RwOwn w.heap.size W2 A2 c2 R ∧ R.map Rw.l = (Run.allFrom L 0 (RS.take (i + 1))).map (·.2) ∧ Below w.heap.size w W2) := by
          show _ ∧ _
          rw [HTK.out]
          simpa using HA2.out
        clear HA2 HO2 hh hh'
        go_wp2_with fail
        refine (mnext_any W2 g G K (HM.out.below HA.out.2.2.2) t ((i : Int) + 1) (by omega)).mono ?_
        rw [HNX.out]
        by_cases hnx : i + 1 < RS.length
        · rw [List.getElem?_eq_getElem hnx]
          rintro e W9 ⟨hB9, A9, c9, rfl, ho9⟩
          have HA9 : Hid (EOwn eI64 W9 w.heap.size A1 c1 ((Run.allFrom L 0 (RS.take (i + 1))).map fun p => (p.1 : Int)) ∧ RwOwn w.heap.size W9 A2 c2 R ∧ (R : List Rw).map Rw.l = (Run.allFrom L 0 (RS.take (i + 1))).map (·.2) ∧ Below w.heap.size w W9) := ⟨HA.out.1.below hB9, HA.out.2.1.below hB9, HA.out.2.2.1, HA.out.2.2.2.then hB9⟩
          have HO9 : Hid (EOwn eVa W9 w.heap.size A9 c9 RS[i + 1]) := ho9.mono HA.out.2.2.2.size
          clear hB9 ho9 HA
          go_wp2_with fail
          go_roundw
          case rel => exact ⟨i + 1, A1, c1, A2, c2, R, by omega, rfl, rfl, rfl, HA9.out, .inl ⟨hnx, A9, c9, by go_num, rfl, rfl, HO9.out⟩⟩
          case measure => simp [okOf, intOf]; omega
        · have hie : i + 1 = RS.length := by omega
          rw [List.getElem?_eq_none (by omega)]
          rintro e W9 ⟨hB9, rfl⟩
          have HA9 : Hid (EOwn eI64 W9 w.heap.size A1 c1 ((Run.allFrom L 0 (RS.take (i + 1))).map fun p => (p.1 : Int)) ∧ RwOwn w.heap.size W9 A2 c2 R ∧ (R : List Rw).map Rw.l = (Run.allFrom L 0 (RS.take (i + 1))).map (·.2) ∧ Below w.heap.size w W9) := ⟨HA.out.1.below hB9, HA.out.2.1.below hB9, HA.out.2.2.1, HA.out.2.2.2.then hB9⟩
          clear hB9 HA
          go_wp2_with fail
          go_roundw
          case rel => exact ⟨i + 1, A1, c1, A2, c2, R, by omega, rfl, rfl, rfl, HA9.out, .inr ⟨hie, rfl⟩⟩
          case measure => simp [okOf, intOf]; omega
    · have hts : RS.take i = RS := by rw [hie, List.take_length]
      rw [hts] at HA
      clear HST hts
      go_wp2_with fail
      go_ret3
      exact ⟨A1, c1, A2, c2, R, rfl, HA.out.1, HA.out.2.1, HA.out.2.2.1, HA.out.2.2.2⟩
end Go.Proofs.YtpahkaffknnjhaaGreatDoor
end

section
namespace Go.Proofs.YtpahkaffknnjhaaGreatDoor
set_option linter.unusedSimpArgs false
set_option linter.unusedVariables false
open Go.Op
namespace Run
theorem cmp_snoc0 : ∀ (x y : Bs), cmp x (y ++ [0]) < 0 ↔ ¬ cmp y x < 0
  | [], [] => by decide
  | [], b :: y => by simp [cmp, Lib.compareBytes]
  | a :: x, [] => by
    have h0 : ¬ a < 0 := by rw [UInt8.lt_iff_toNat_lt]; simp
    show Lib.compareBytes (a :: x) [0] < 0 ↔ _
    unfold Lib.compareBytes
    rw [if_neg h0]
    constructor
    · intro h
      exfalso
      split at h
      · simp at h
      · cases x <;> simp [Lib.compareBytes] at h
    · intro h
      exfalso
      exact h (by simp [cmp, Lib.compareBytes])
  | a :: x, b :: y => by
    have ih := cmp_snoc0 x y
    unfold cmp at ih ⊢
    rw [List.cons_append]
    unfold Lib.compareBytes
    by_cases h1 : a < b
    · have h2 : ¬ b < a := by rw [UInt8.lt_iff_toNat_lt] at *; omega
      simp [h1, h2]
    · by_cases h2 : b < a
      · simp [h1, h2]
      · simp only [if_neg h1, if_neg h2]
        exact ih
def Strict (L : List Bs) : Prop := L.Pairwise fun a b => cmp a b < 0
theorem Strict.sorted {L : List Bs} (h : Strict L) : Srt.Sorted cmp L := h.imp fun {a b} hab => by
  have := cmp_ord.anti a b
  omega
theorem find_zero (L : List Bs) : find L [] = 0 := by
  refine find_at (Nat.zero_le _) (fun t h k => absurd k (Nat.not_lt_zero _)) fun t h _ => ?_
  cases L[t] <;> simp [cmp, Lib.compareBytes]
theorem find_next {L : List Bs} (h : Strict L) {i : Nat} (hi : i < L.length) : find L (L[i] ++ [0]) = i + 1 := by
  refine find_at (by omega) (fun t ht k => ?_) fun t ht k => ?_
  · rw [cmp_snoc0]
    exact Srt.sorted_le cmp_ord h.sorted (by omega) hi
  · rw [cmp_snoc0]
    intro hc
    exact hc (List.pairwise_iff_getElem.1 h i t hi ht (by omega))
theorem id_inj {a b : Int} (ha1 : -9223372036854775808 ≤ a) (ha2 : a ≤ 9223372036854775807) (hb1 : -9223372036854775808 ≤ b) (hb2 : b ≤ 9223372036854775807) (h : Key.id a = Key.id b) : a = b := by
  have h1 := Key.lo_id ha1 ha2
  have h2 := Key.lo_id hb1 hb2
  rw [h, h2] at h1
  unfold Key.idn at h1
  omega
theorem key_inj {cols cols' : List Int} {r r' : List Va} {a b : Int} (ha1 : -9223372036854775808 ≤ a) (ha2 : a ≤ 9223372036854775807) (hb1 : -9223372036854775808 ≤ b) (hb2 : b ≤ 9223372036854775807) (h : key cols r a = key cols' r' b) : a = b := by
  refine id_inj ha1 ha2 hb1 hb2 ?_
  unfold key at h
  have := List.append_inj_right' h (by rw [Key.id_length, Key.id_length])
  exact this
theorem keysU_mem {cols : List Int} : ∀ {l : List (List Va)} {i : Nat} {x : Bs}, x ∈ keysU cols i l → ∃ r j, x = key cols r (j : Nat) ∧ i < j ∧ j ≤ i + l.length
  | [], i, x, h => by cases h
  | r :: l, i, x, h => by
    rcases List.mem_cons.1 h with rfl | h
    · exact ⟨r, i + 1, rfl, by omega, by simp⟩
    · obtain ⟨r', j, e, h1, h2⟩ := keysU_mem h
      exact ⟨r', j, e, by omega, by simp; omega⟩
theorem keysU_nodup (cols : List Int) : ∀ (l : List (List Va)) (i : Nat), i + l.length ≤ 9223372036854775807 → (keysU cols i l).Pairwise (· ≠ ·)
  | [], _, _ => List.Pairwise.nil
  | r :: l, i, hi => by
    simp only [List.length_cons] at hi
    refine List.pairwise_cons.2 ⟨fun x hx e => ?_, keysU_nodup cols l (i + 1) (by omega)⟩
    obtain ⟨r', j, rfl, h1, h2⟩ := keysU_mem hx
    have := key_inj (by omega) (by omega) (by omega) (by omega) e
    omega
theorem keys_strict (cols : List Int) (l : List (List Va)) (hl : l.length ≤ 1000000) : Strict (keys cols l) := by
  have hn : (keys cols l).Pairwise (· ≠ ·) := by
    have := keysU_nodup cols l 0 (by omega)
    exact (List.Perm.pairwise_iff (fun h => h.symm) (Srt.ssort_perm cmp (keysU cols 0 l))).2 this
  have hs : Srt.Sorted cmp (keys cols l) := Srt.ssort_sorted cmp_ord _
  refine List.pairwise_iff_getElem.2 fun i j hi hj hij => ?_
  have h1 := List.pairwise_iff_getElem.1 hn i j hi hj hij
  have h2 := List.pairwise_iff_getElem.1 hs i j hi hj hij
  have h3 := cmp_ord.anti (keys cols l)[i] (keys cols l)[j]
  have h4 : cmp (keys cols l)[i] (keys cols l)[j] ≠ 0 := fun e => h1 (cmp_eq e)
  omega
theorem keys_length (cols : List Int) (l : List (List Va)) : (keys cols l).length = l.length := by unfold keys; rw [Srt.ssort_length, keysU_len]
def keysAt (K : List (List Bs)) (i : Int) : List Bs := if 0 ≤ i ∧ i < (K.length : Int) then K.getD i.toNat [] else []
theorem seekOf_at (K : List (List Bs)) (i : Int) (k : Bs) : seekOf K i k = (keysAt K i)[find (keysAt K i) k]? := by
  unfold seekOf keysAt
  split
  · rfl
  · rfl
theorem keysAt_mem {K : List (List Bs)} {P : List Bs → Prop} (h0 : P []) (h : ∀ l ∈ K, P l) (i : Int) : P (keysAt K i) := by
  unfold keysAt
  split
  · next hi =>
    have hn : i.toNat < K.length := by omega
    rw [List.getD_eq_getElem?_getD, List.getElem?_eq_getElem hn]
    exact h _ (List.getElem_mem hn)
  · exact h0
theorem allFrom_nil : ∀ (l : List (List Va)) (i : Nat), allFrom [] i l = (l.zipIdx (i + 1)).map fun p => (p.2, p.1)
  | [], _ => rfl
  | r :: l, i => by
    show (if Ev.holds r [] then (i + 1, r) :: allFrom [] (i + 1) l else _) = _
    rw [if_pos (show Ev.holds r [] = true from rfl), allFrom_nil l (i + 1)]
    rfl
end Run
end Go.Proofs.YtpahkaffknnjhaaGreatDoor
end

