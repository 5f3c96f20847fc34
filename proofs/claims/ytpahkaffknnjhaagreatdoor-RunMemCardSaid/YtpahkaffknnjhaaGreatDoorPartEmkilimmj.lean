/-
  Texts of a proof, one behind the other (each with its own head).
-/
import Derived.Test.YtpahkaffknnjhaaGreatDoorPartDebioooff
import Derived.Deep.AppendSrc
import Derived.ArgAppend
import Derived.Test.YtpahkaffknnjhaaGreatDoorProg
import Derived.Shelf.SlLaysF0
import Derived.Shelf.SlGeneric
import Derived.Shelf.SlSortCmp.WholeK
import Derived.Shelf.SlSortCmp.NoneTotal
import Derived.Shelf.SlLaysF
import Derived.Shelf.SlSortCmp.Whole1
section
/-
  Printed by mkinsv.py: the stable sorting of rows.
-/
namespace Go.Proofs.YtpahkaffknnjhaaGreatDoor
set_option linter.unusedSimpArgs false
set_option linter.unusedVariables false
open Go.RowKit
/-- What compares two elements: see SortIns. (What follows is of the group's headers alone.) -/
theorem setV_mid (A R : List Rw) (u v : Rw) (sp : List Value) {j : Nat} (hj : A.length = j) : ((A ++ u :: R).map Rw.v ++ sp).set j v.v = (A ++ v :: R).map Rw.v ++ sp := by
  rw [List.map_append, List.append_assoc, List.set_append_right _ _ (by simp; omega), List.length_map, hj, Nat.sub_self]
  simp
set_option maxRecDepth 100000 in
set_option maxHeartbeats 8000000 in
theorem swapV_any (w : World) (g q c : Nat) (P X M Y Q : List Rw) (sp : List Value) (hXY : X.length = Y.length) (hb : Blk w g 37 ((P ++ X ++ M ++ Y ++ Q).map Rw.v ++ sp)) (hlen : (P ++ X ++ M ++ Y ++ Q).length ≤ 1000000) (hcap : (P ++ X ++ M ++ Y ++ Q).length ≤ c) :
    Calls Tryz.prog 188 #[.slice (some ⟨g, 0, none⟩) (P ++ X ++ M ++ Y ++ Q).length c, .int .i64 (P.length : Int), .int .i64 ((P.length + X.length + M.length : Nat) : Int), .int .i64 (X.length : Int), .func (.func 117) #[] #[.pointer (some ⟨q, 0, none⟩)]] w
      (SortsV w g ((P ++ Y ++ M ++ X ++ Q).map Rw.v ++ sp)) := by
  have HBK := Lib.hid hb
  have hl3 : (P ++ X ++ M ++ Y ++ Q).length = P.length + X.length + M.length + Y.length + Q.length := by simp; omega
  obtain ⟨n, hn⟩ : ∃ n, (P ++ X ++ M ++ Y ++ Q).length = n := ⟨_, rfl⟩
  rw [hn] at hlen hcap hl3 ⊢
  obtain ⟨cs, hcs⟩ : ∃ cs, (P ++ Y ++ M ++ X ++ Q).map Rw.v ++ sp = cs := ⟨_, rfl⟩
  rw [hcs]
  have HCS := Lib.hid hcs
  obtain ⟨al, hal⟩ : ∃ al, P.length = al := ⟨_, rfl⟩
  obtain ⟨ml, hml⟩ : ∃ ml, X.length = ml := ⟨_, rfl⟩
  rw [hal, hml] at hl3 ⊢
  obtain ⟨bl, hbl⟩ : ∃ bl, al + ml + M.length = bl := ⟨_, rfl⟩
  rw [hbl] at hl3 ⊢
  have hbm : bl + ml ≤ n := by omega
  have ham : al + ml ≤ bl := by omega
  have HAL := Lib.hid hal
  have HML := Lib.hid hml
  have HBL := Lib.hid hbl
  have HXY := Lib.hid hXY
  clear hb hn hcs hl3 hal hml hbl hXY
  go_enter Tryz.func188, Tryz.ntmps188
  go_wp2_with fail
  go_loopw [10] (fun iv wr => ∃ i : Nat, i ≤ ml ∧ iv = .int .i64 (i : Int) ∧ Hid (∃ X1 X2 Y1 Y2 : List Rw, X1.length = i ∧ Y1.length = i ∧ X = X1 ++ X2 ∧ Y = Y1 ++ Y2 ∧ Blk wr g 37 ((P ++ (Y1 ++ X2) ++ M ++ (X1 ++ Y2) ++ Q).map Rw.v ++ sp) ∧ w.grownBy wr (some g))) (fun iv _ => ml - (intOf iv).toNat)
  case atStart => exact ⟨0, by omega, rfl, [], X, [], Y, rfl, rfl, rfl, rfl, HBK.out, grown_refl _ _⟩
  case round =>
    obtain ⟨i, hi, rfl, HJ⟩ := hrel
    clear HBK
    by_cases hlt : i < ml
    · obtain ⟨X1, X2, Y1, Y2, h1, h2, h3, h4, h5, h6⟩ := HJ.out
      clear HJ
      rcases X2 with _ | ⟨x, X2⟩
      · have := HML.out
        rw [h3] at this
        simp at this
        omega
      rcases Y2 with _ | ⟨y, Y2⟩
      · have h7 := HML.out
        have h8 := HXY.out
        rw [h4] at h8
        simp at h8
        omega
      have HP2 : Hid (P ++ (Y1 ++ x :: X2) ++ M ++ (X1 ++ y :: Y2) ++ Q = (P ++ Y1) ++ x :: (X2 ++ M ++ X1 ++ y :: (Y2 ++ Q))) := by show _ = _; simp
      have HP3 : Hid (P ++ (Y1 ++ y :: X2) ++ M ++ (X1 ++ x :: Y2) ++ Q = (P ++ (Y1 ++ [y])  ++ X2) ++ M ++ X1 ++ x :: (Y2 ++ Q)) := by show _ = _; simp
      have HP4 : Hid (P ++ (Y1 ++ x :: X2) ++ M ++ (X1 ++ y :: Y2) ++ Q = (P ++ Y1 ++ x :: X2 ++ M ++ X1) ++ y :: (Y2 ++ Q)) := by show _ = _; simp
      have HX2 : i + 1 + X2.length = ml := by have := HML.out; rw [h3] at this; simp at this; omega
      have hA : (P ++ Y1).length = al + i := by rw [List.length_append, HAL.out, h2]
      have hB : (P ++ Y1 ++ x :: X2 ++ M ++ X1).length = bl + i := by
        have := HBL.out
        have := HAL.out
        simp
        omega
      have hcA : ∀ W, Blk W g 37 ((P ++ (Y1 ++ x :: X2) ++ M ++ (X1 ++ y :: Y2) ++ Q).map Rw.v ++ sp) → W.cell? ⟨g, al + i, none⟩ = some x.v ∧ W.frozen? ⟨g, al + i, none⟩ = false := fun W h => by
        refine ⟨?_, h.free _⟩
        rw [HP2.out] at h
        rw [h.cell, List.map_append, List.append_assoc, List.getElem?_append_right (by simp at hA ⊢; omega)]
        rw [List.length_map, hA, Nat.sub_self]
        rfl
      have hcB : ∀ W, Blk W g 37 ((P ++ (Y1 ++ x :: X2) ++ M ++ (X1 ++ y :: Y2) ++ Q).map Rw.v ++ sp) → W.cell? ⟨g, bl + i, none⟩ = some y.v ∧ W.frozen? ⟨g, bl + i, none⟩ = false := fun W h => by
        refine ⟨?_, h.free _⟩
        rw [HP4.out] at h
        rw [h.cell, List.map_append, List.append_assoc, List.getElem?_append_right (by rw [List.length_map, hB]; omega)]
        rw [List.length_map, hB, Nat.sub_self]
        rfl
      obtain ⟨q0, q1⟩ := hcA _ h5.drew
      obtain ⟨q2, q3⟩ := hcB _ h5.drew
      have hq4 := (h5.set (al + i) y.v).drew
      have q4 : ((wr.setCell ⟨g, al + i, none⟩ y.v).drew).cell? ⟨g, bl + i, none⟩ = some y.v := by
        rw [hq4.cell, List.getElem?_set_ne (by omega), ← h5.cell]
        exact q2
      have q5 := hq4.free (bl + i)
      have HNW : Blk ((wr.setCell ⟨g, al + i, none⟩ y.v).setCell ⟨g, bl + i, none⟩ x.v) g 37 ((P ++ ((Y1 ++ [y]) ++ X2) ++ M ++ ((X1 ++ [x]) ++ Y2) ++ Q).map Rw.v ++ sp) := by
        have h := (h5.set (al + i) y.v).set (bl + i) x.v
        have hB2 : (P ++ Y1 ++ y :: X2 ++ M ++ X1).length = bl + i := by simp at hB ⊢; omega
        rw [HP2.out, setV_mid (P ++ Y1) _ x y sp hA, show (P ++ Y1) ++ y :: (X2 ++ M ++ X1 ++ y :: (Y2 ++ Q)) = (P ++ Y1 ++ y :: X2 ++ M ++ X1) ++ y :: (Y2 ++ Q) by simp, setV_mid _ _ y x sp hB2] at h
        have e : (P ++ Y1 ++ y :: X2 ++ M ++ X1) ++ x :: (Y2 ++ Q) = P ++ ((Y1 ++ [y]) ++ X2) ++ M ++ ((X1 ++ [x]) ++ Y2) ++ Q := by simp
        rw [e] at h
        exact h
      have HST : Hid (∃ X1 X2 Y1 Y2 : List Rw, X1.length = i + 1 ∧ Y1.length = i + 1 ∧ X = X1 ++ X2 ∧ Y = Y1 ++ Y2 ∧ Blk ((wr.setCell ⟨g, al + i, none⟩ y.v).setCell ⟨g, bl + i, none⟩ x.v).drew g 37 ((P ++ (Y1 ++ X2) ++ M ++ (X1 ++ Y2) ++ Q).map Rw.v ++ sp) ∧ w.grownBy ((wr.setCell ⟨g, al + i, none⟩ y.v).setCell ⟨g, bl + i, none⟩ x.v).drew (some g)) :=
        ⟨X1 ++ [x], X2, Y1 ++ [y], Y2, by simp [h1], by simp [h2], by rw [h3]; simp, by rw [h4]; simp, HNW.drew, grown_drew (grown_set (grown_set h6 _ _) _ _)⟩
      clear hq4 HNW hcA hcB hA hB HP2 HP3 HP4 h1 h2 h3 h4 h5 h6
      have hii : (i : Int) < (ml : Int) := by omega
      go_upto_region 3 with fail
      have hst : ∀ (w : World) (a : Addr) (r : Rw), (store a r.v).run Tryz.prog w = stored Tryz.prog w a r.v .plain := fun w a r => run_store Tryz.prog w a r.v .plain rfl
      unfold Rw.v at q0 q2 q4 q5
      refine wp_region_plan (.take 0 (.take 1 (.take 2 (.take 3 (.take 4 (.take 5 (.take 6 (.take 7 (.take 8 (.take 9 (.take 10 (.take 11 (.take 12 (.take 13 (.take 14 (.take 15 (.take 16 (.take 17 (.take 18 (.take 19 (.take 20 (.run 21 [4, 5, 6, 7] (.take 22 (.run 23 [] .fin)))))))))))))))))))))))) (by kernel_rfl) (by kernel_rfl) (by kernel_rfl) (by kernel_rfl) ?_
      repeat' (first | (refine hZ _ _ ?_; clear hZ) | (refine hZ _ ?_; clear hZ) | (refine hZ ?_; clear hZ) | rw [again_nil] | rw [walk_fin] | ((first | rw [walk_take] | rw [walk_run] | rw [again_cons]); intro Z hZ; simp only [sel, List.getElem?_toArray, List.getElem?_cons_zero, List.getElem?_cons_succ]; go_wp2_with (fail)))
      clear hst
      go_wp2_with fail
      go_roundw
      case rel => exact ⟨i + 1, by omega, by go_num, HST.out⟩
      case measure => simp [intOf]; omega
    · have hii : ¬ (i : Int) < (ml : Int) := by omega
      have HF : Hid (Blk wr g 37 cs ∧ w.grownBy wr (some g)) := by
        obtain ⟨X1, X2, Y1, Y2, h1, h2, h3, h4, h5, h6⟩ := HJ.out
        have hx := HML.out
        have hy := HXY.out
        rw [h3, List.length_append] at hx hy
        rw [h4, List.length_append] at hy
        have e1 : X2 = [] := List.eq_nil_of_length_eq_zero (by omega)
        have e2 : Y2 = [] := List.eq_nil_of_length_eq_zero (by omega)
        rw [e1, e2, List.append_nil, List.append_nil] at h5
        refine ⟨?_, h6⟩
        rw [← HCS.out, h3, h4, e1, e2, List.append_nil, List.append_nil]
        exact h5
      clear HJ
      go_wp2_with fail
      go_end0
      exact ⟨rfl, HF.out⟩
end Go.Proofs.YtpahkaffknnjhaaGreatDoor
end

section
/-
  Printed by mkinsv.py: the stable sorting of rows.
-/
namespace Go.Proofs.YtpahkaffknnjhaaGreatDoor
set_option linter.unusedSimpArgs false
set_option linter.unusedVariables false
open Go.RowKit
/-- swapV_any with its numbers named. -/
theorem swapV_at (w W : World) (g q c n i j k : Nat) (P X M Y Q : List Rw) (sp : List Value) (hXY : X.length = Y.length) (hb : Blk W g 37 ((P ++ X ++ M ++ Y ++ Q).map Rw.v ++ sp)) (hw : w.grownBy W (some g)) (hn : (P ++ X ++ M ++ Y ++ Q).length = n) (hlen : n ≤ 1000000) (hcap : n ≤ c)
    (hi : P.length = i) (hj : P.length + X.length + M.length = j) (hk : X.length = k) :
    Calls Tryz.prog 188 #[.slice (some ⟨g, 0, none⟩) n c, .int .i64 (i : Int), .int .i64 (j : Int), .int .i64 (k : Int), .func (.func 117) #[] #[.pointer (some ⟨q, 0, none⟩)]] W
      (SortsV w g ((P ++ Y ++ M ++ X ++ Q).map Rw.v ++ sp)) := by
  subst hn hi hj hk
  exact (swapV_any W g q c P X M Y Q sp hXY hb hlen hcap).mono fun e W' h => ⟨h.1, h.2.1, grown_trans hw h.2.2⟩
set_option maxRecDepth 100000 in
set_option maxHeartbeats 8000000 in
theorem rotV_any (w : World) (g q c : Nat) (P X Y Q : List Rw) (sp : List Value) (hX : 0 < X.length) (hY : 0 < Y.length) (hb : Blk w g 37 ((P ++ X ++ Y ++ Q).map Rw.v ++ sp)) (hlen : (P ++ X ++ Y ++ Q).length ≤ 1000000) (hcap : (P ++ X ++ Y ++ Q).length ≤ c) :
    Calls Tryz.prog 184 #[.slice (some ⟨g, 0, none⟩) (P ++ X ++ Y ++ Q).length c, .int .i64 (P.length : Int), .int .i64 ((P.length + X.length : Nat) : Int), .int .i64 ((P.length + X.length + Y.length : Nat) : Int), .func (.func 117) #[] #[.pointer (some ⟨q, 0, none⟩)]] w
      (SortsV w g ((P ++ Y ++ X ++ Q).map Rw.v ++ sp)) := by
  have HBK := Lib.hid hb
  obtain ⟨n, hn⟩ : ∃ n, (P ++ X ++ Y ++ Q).length = n := ⟨_, rfl⟩
  have hl3 : n = P.length + X.length + Y.length + Q.length := by rw [← hn]; simp; omega
  rw [hn] at hlen hcap ⊢
  obtain ⟨cs, hcs⟩ : ∃ cs, (P ++ Y ++ X ++ Q).map Rw.v ++ sp = cs := ⟨_, rfl⟩
  rw [hcs]
  have HCS := Lib.hid hcs
  obtain ⟨al, hal⟩ : ∃ al, P.length = al := ⟨_, rfl⟩
  obtain ⟨xl, hxl⟩ : ∃ xl, X.length = xl := ⟨_, rfl⟩
  obtain ⟨yl, hyl⟩ : ∃ yl, Y.length = yl := ⟨_, rfl⟩
  rw [hal, hxl, hyl] at hl3 ⊢
  rw [hxl] at hX
  rw [hyl] at hY
  obtain ⟨m, hm⟩ : ∃ m, al + xl = m := ⟨_, rfl⟩
  rw [hm] at hl3 ⊢
  obtain ⟨b, hb2⟩ : ∃ b, m + yl = b := ⟨_, rfl⟩
  rw [hb2] at hl3 ⊢
  have h1 : al + xl ≤ m := by omega
  have h2 : m ≤ al + xl := by omega
  have h3 : m + yl ≤ b := by omega
  have h4 : b ≤ m + yl := by omega
  have h5 : b ≤ n := by omega
  have HL3 := Lib.hid hl3
  have HN := Lib.hid hn
  have HAL := Lib.hid hal
  have HXL := Lib.hid hxl
  have HYL := Lib.hid hyl
  have HM := Lib.hid hm
  clear hb hn hcs hl3 hal hxl hyl hm hb2
  go_enter Tryz.func184, Tryz.ntmps184
  go_wp2_with fail
  go_loopw [10, 11] (fun iv jv wr => ∃ i j : Nat, 0 < i ∧ 0 < j ∧ i ≤ m ∧ m + j ≤ b ∧ al + i ≤ m ∧ iv = .int .i64 (i : Int) ∧ jv = .int .i64 (j : Int) ∧ Hid (∃ A X1 Y1 B : List Rw, X1.length = i ∧ Y1.length = j ∧ al + A.length + i = m ∧ A ++ (Y1 ++ X1) ++ B = Y ++ X ∧ m + j + B.length + Q.length = n ∧ Blk wr g 37 ((P ++ A ++ X1 ++ Y1 ++ B ++ Q).map Rw.v ++ sp) ∧ w.grownBy wr (some g))) (fun iv jv _ => (intOf iv).toNat + (intOf jv).toNat)
  case atStart =>
    refine ⟨xl, yl, hX, hY, by omega, by omega, by omega, by go_num, by go_num, [], X, Y, [], HXL.out, HYL.out, by simpa using HM.out, by simp, ?_, ?_, grown_refl _ _⟩
    · have := HL3.out
      simp
      omega
    · simpa using HBK.out
  case round =>
    obtain ⟨i, j, hi0, hj0, him, hjb, hai, rfl, rfl, HJ⟩ := hrel
    clear HBK
    rcases Nat.lt_trichotomy i j with hij | hij | hij
    · obtain ⟨A, X1, Y1, B, k1, k2, k3, k4, k5, k6, k7⟩ := HJ.out
      clear HJ
      obtain ⟨a1, ha1⟩ : ∃ a1 : Nat, a1 + i = m := ⟨m - i, by omega⟩
      obtain ⟨d, hd⟩ : ∃ d : Nat, d + i = j := ⟨j - i, by omega⟩
      have e1 : (m : Int) - (i : Int) = (a1 : Int) := by omega
      have e2 : (m : Int) + (j : Int) - (i : Int) = ((m + d : Nat) : Int) := by omega
      obtain ⟨Y2, Y3, rfl, hY2, hY3⟩ : ∃ Y2 Y3, Y1 = Y2 ++ Y3 ∧ Y2.length = d ∧ Y3.length = i := ⟨Y1.take d, Y1.drop d, (List.take_append_drop d Y1).symm, by rw [List.length_take]; omega, by rw [List.length_drop]; omega⟩
      have HCALL : Hid (Calls Tryz.prog 188 #[.slice (some ⟨g, 0, none⟩) n c, .int .i64 (a1 : Int), .int .i64 ((m + d : Nat) : Int), .int .i64 (i : Int), .func (.func 117) #[] #[.pointer (some ⟨q, 0, none⟩)]] wr
          (SortsV w g (((P ++ A) ++ Y3 ++ Y2 ++ X1 ++ (B ++ Q)).map Rw.v ++ sp))) :=
        swapV_at w wr g q c n a1 (m + d) i (P ++ A) X1 Y2 Y3 (B ++ Q) sp (by omega) (by rw [show (P ++ A) ++ X1 ++ Y2 ++ Y3 ++ (B ++ Q) = P ++ A ++ X1 ++ (Y2 ++ Y3) ++ B ++ Q by simp]; exact k6) k7 (by have := HAL.out; simp; omega) hlen hcap (by have := HAL.out; simp; omega) (by have := HAL.out; simp; omega) k1
      have HNX : Hid (∀ W, Blk W g 37 (((P ++ A) ++ Y3 ++ Y2 ++ X1 ++ (B ++ Q)).map Rw.v ++ sp) ∧ w.grownBy W (some g) → ∃ A X1 Y1 B : List Rw, X1.length = i ∧ Y1.length = d ∧ al + A.length + i = m ∧ A ++ (Y1 ++ X1) ++ B = Y ++ X ∧ m + d + B.length + Q.length = n ∧ Blk W g 37 ((P ++ A ++ X1 ++ Y1 ++ B ++ Q).map Rw.v ++ sp) ∧ w.grownBy W (some g)) := fun W h =>
        ⟨A, Y3, Y2, X1 ++ B, hY3, hY2, k3, by rw [← k4]; simp, by simp; omega, by rw [show P ++ A ++ Y3 ++ Y2 ++ (X1 ++ B) ++ Q = (P ++ A) ++ Y3 ++ Y2 ++ X1 ++ (B ++ Q) by simp]; exact h.1, h.2⟩
      clear k1 k2 k3 k4 k5 k6 k7 hY2 hY3
      go_wp2_with fail
      rw [show (m : Int) + (d : Int) = ((m + d : Nat) : Int) by omega]
      refine HCALL.out.mono ?_
      rintro e W ⟨rfl, hW⟩
      have HW := Lib.hid (HNX.out W hW)
      clear hW HCALL HNX
      go_wp2_with fail
      go_roundw
      case rel => exact ⟨i, d, hi0, by omega, him, by omega, hai, rfl, by go_num, HW.out⟩
      case measure => simp [intOf]; omega
    · subst hij
      obtain ⟨A, X1, Y1, B, k1, k2, k3, k4, k5, k6, k7⟩ := HJ.out
      clear HJ
      obtain ⟨a1, ha1⟩ : ∃ a1 : Nat, a1 + i = m := ⟨m - i, by omega⟩
      have e1 : (m : Int) - (i : Int) = (a1 : Int) := by omega
      have HCALL : Hid (Calls Tryz.prog 188 #[.slice (some ⟨g, 0, none⟩) n c, .int .i64 (a1 : Int), .int .i64 (m : Int), .int .i64 (i : Int), .func (.func 117) #[] #[.pointer (some ⟨q, 0, none⟩)]] wr
          (SortsV w g (((P ++ A) ++ Y1 ++ [] ++ X1 ++ (B ++ Q)).map Rw.v ++ sp))) :=
        swapV_at w wr g q c n a1 m i (P ++ A) X1 [] Y1 (B ++ Q) sp (by omega) (by rw [show (P ++ A) ++ X1 ++ [] ++ Y1 ++ (B ++ Q) = P ++ A ++ X1 ++ Y1 ++ B ++ Q by simp]; exact k6) k7 (by have := HAL.out; simp; omega) hlen hcap (by have := HAL.out; simp; omega) (by have := HAL.out; simp; omega) k1
      have HNX : Hid (((P ++ A) ++ Y1 ++ [] ++ X1 ++ (B ++ Q)).map Rw.v ++ sp = cs) := by
        show _ = _
        rw [← HCS.out, show (P ++ A) ++ Y1 ++ [] ++ X1 ++ (B ++ Q) = P ++ (A ++ (Y1 ++ X1) ++ B) ++ Q by simp, k4]
        simp
      rw [HNX.out] at HCALL
      clear k1 k2 k3 k4 k5 k6 k7 HNX
      go_wp2_with fail
      refine HCALL.out.mono ?_
      rintro e W ⟨rfl, hW⟩
      have HW := Lib.hid hW
      clear hW HCALL
      go_wp2_with fail
      go_end0
      exact ⟨rfl, HW.out⟩
    · obtain ⟨A, X1, Y1, B, k1, k2, k3, k4, k5, k6, k7⟩ := HJ.out
      clear HJ
      obtain ⟨a1, ha1⟩ : ∃ a1 : Nat, a1 + i = m := ⟨m - i, by omega⟩
      obtain ⟨d, hd⟩ : ∃ d : Nat, d + j = i := ⟨i - j, by omega⟩
      have e1 : (m : Int) - (i : Int) = (a1 : Int) := by omega
      obtain ⟨X2, X3, rfl, hX2, hX3⟩ : ∃ X2 X3, X1 = X2 ++ X3 ∧ X2.length = j ∧ X3.length = d := ⟨X1.take j, X1.drop j, (List.take_append_drop j X1).symm, by rw [List.length_take]; omega, by rw [List.length_drop]; omega⟩
      have HCALL : Hid (Calls Tryz.prog 188 #[.slice (some ⟨g, 0, none⟩) n c, .int .i64 (a1 : Int), .int .i64 (m : Int), .int .i64 (j : Int), .func (.func 117) #[] #[.pointer (some ⟨q, 0, none⟩)]] wr
          (SortsV w g (((P ++ A) ++ Y1 ++ X3 ++ X2 ++ (B ++ Q)).map Rw.v ++ sp))) :=
        swapV_at w wr g q c n a1 m j (P ++ A) X2 X3 Y1 (B ++ Q) sp (by omega) (by rw [show (P ++ A) ++ X2 ++ X3 ++ Y1 ++ (B ++ Q) = P ++ A ++ (X2 ++ X3) ++ Y1 ++ B ++ Q by simp]; exact k6) k7 (by have := HAL.out; simp; omega) hlen hcap (by have := HAL.out; simp; omega) (by have := HAL.out; simp; omega) hX2
      have HNX : Hid (∀ W, Blk W g 37 (((P ++ A) ++ Y1 ++ X3 ++ X2 ++ (B ++ Q)).map Rw.v ++ sp) ∧ w.grownBy W (some g) → ∃ A X1 Y1 B : List Rw, X1.length = d ∧ Y1.length = j ∧ al + A.length + d = m ∧ A ++ (Y1 ++ X1) ++ B = Y ++ X ∧ m + j + B.length + Q.length = n ∧ Blk W g 37 ((P ++ A ++ X1 ++ Y1 ++ B ++ Q).map Rw.v ++ sp) ∧ w.grownBy W (some g)) := fun W h =>
        ⟨A ++ Y1, X3, X2, B, hX3, hX2, by simp; omega, by rw [← k4]; simp, k5, by rw [show P ++ (A ++ Y1) ++ X3 ++ X2 ++ B ++ Q = (P ++ A) ++ Y1 ++ X3 ++ X2 ++ (B ++ Q) by simp]; exact h.1, h.2⟩
      clear k1 k2 k3 k4 k5 k6 k7 hX2 hX3
      go_wp2_with fail
      refine HCALL.out.mono ?_
      rintro e W ⟨rfl, hW⟩
      have HW := Lib.hid (HNX.out W hW)
      clear hW HCALL HNX
      go_wp2_with fail
      go_roundw
      case rel => exact ⟨d, j, by omega, hj0, by omega, hjb, by omega, by go_num, rfl, HW.out⟩
      case measure => simp [intOf]; omega
end Go.Proofs.YtpahkaffknnjhaaGreatDoor
end

section
/-
  Printed by mkinsv.py: the stable sorting of rows.
-/
namespace Go.Proofs.YtpahkaffknnjhaaGreatDoor
set_option linter.unusedSimpArgs false
set_option linter.unusedVariables false
open Go.RowKit
/-- Two neighbours change places: the first one is stored first. -/
theorem nbV_up {W : World} {g J : Nat} {A R : List Rw} {u v : Rw} {sp : List Value} (h : Blk W g 37 ((A ++ u :: v :: R).map Rw.v ++ sp)) (hA : A.length = J) :
    W.drew.cell? ⟨g, J, none⟩ = some u.v ∧ W.drew.frozen? ⟨g, J, none⟩ = false ∧ W.drew.cell? ⟨g, J + 1, none⟩ = some v.v ∧ W.drew.frozen? ⟨g, J + 1, none⟩ = false
    ∧ (W.setCell ⟨g, J, none⟩ v.v).drew.cell? ⟨g, J + 1, none⟩ = some v.v ∧ (W.setCell ⟨g, J, none⟩ v.v).drew.frozen? ⟨g, J + 1, none⟩ = false
    ∧ Blk ((W.setCell ⟨g, J, none⟩ v.v).setCell ⟨g, J + 1, none⟩ u.v).drew g 37 ((A ++ v :: u :: R).map Rw.v ++ sp) := by
  have hd := h.drew
  have h2 := (h.set J v.v).drew
  have c0 : ((A ++ u :: v :: R).map Rw.v ++ sp)[J]? = some u.v := by
    rw [List.map_append, List.append_assoc, List.getElem?_append_right (by simp; omega)]
    simp [hA]
  have c1 : ((A ++ u :: v :: R).map Rw.v ++ sp)[J + 1]? = some v.v := by
    rw [List.map_append, List.append_assoc, List.getElem?_append_right (by simp; omega), List.length_map, hA, Nat.add_sub_cancel_left]
    rfl
  refine ⟨by rw [hd.cell, c0], hd.free _, by rw [hd.cell, c1], hd.free _, ?_, h2.free _, ?_⟩
  · rw [h2.cell, List.getElem?_set_ne (by omega), c1]
  · have h3 := (h.set J v.v).set (J + 1) u.v
    rw [setV_mid A _ u v sp hA, show A ++ v :: v :: R = (A ++ [v]) ++ v :: R by simp, setV_mid (A ++ [v]) _ v u sp (by simp [hA])] at h3
    rw [show A ++ v :: u :: R = (A ++ [v]) ++ u :: R by simp]
    exact h3.drew
/-- Two neighbours change places: the second one is stored first. -/
theorem nbV_down {W : World} {g J : Nat} {A R : List Rw} {u v : Rw} {sp : List Value} (h : Blk W g 37 ((A ++ u :: v :: R).map Rw.v ++ sp)) (hA : A.length = J) :
    W.drew.cell? ⟨g, J, none⟩ = some u.v ∧ W.drew.frozen? ⟨g, J, none⟩ = false ∧ W.drew.cell? ⟨g, J + 1, none⟩ = some v.v ∧ W.drew.frozen? ⟨g, J + 1, none⟩ = false
    ∧ (W.setCell ⟨g, J + 1, none⟩ u.v).drew.cell? ⟨g, J, none⟩ = some u.v ∧ (W.setCell ⟨g, J + 1, none⟩ u.v).drew.frozen? ⟨g, J, none⟩ = false
    ∧ Blk ((W.setCell ⟨g, J + 1, none⟩ u.v).setCell ⟨g, J, none⟩ v.v).drew g 37 ((A ++ v :: u :: R).map Rw.v ++ sp) := by
  have hd := h.drew
  have h2 := (h.set (J + 1) u.v).drew
  have c0 : ((A ++ u :: v :: R).map Rw.v ++ sp)[J]? = some u.v := by
    rw [List.map_append, List.append_assoc, List.getElem?_append_right (by simp; omega)]
    simp [hA]
  have c1 : ((A ++ u :: v :: R).map Rw.v ++ sp)[J + 1]? = some v.v := by
    rw [List.map_append, List.append_assoc, List.getElem?_append_right (by simp; omega), List.length_map, hA, Nat.add_sub_cancel_left]
    rfl
  refine ⟨by rw [hd.cell, c0], hd.free _, by rw [hd.cell, c1], hd.free _, ?_, h2.free _, ?_⟩
  · rw [h2.cell, List.getElem?_set_ne (by omega), c0]
  · have h3 := (h.set (J + 1) u.v).set J v.v
    rw [show A ++ u :: v :: R = (A ++ [u]) ++ v :: R by simp, setV_mid (A ++ [u]) _ v u sp (by simp [hA]), show (A ++ [u]) ++ u :: R = A ++ u :: u :: R by simp, setV_mid A _ u v sp hA] at h3
    exact h3.drew
set_option maxRecDepth 100000 in
set_option maxHeartbeats 8000000 in
theorem sym1V_any (w : World) (g q n c a m b : Nat) (cmp : Rw → Rw → Int) (ho : Srt.Ord cmp) (L P Y Q : List Rw) (x : Rw) (sp : List Value) (hY : Srt.Sorted cmp Y) (hb : Blk w g 37 ((P ++ [x] ++ Y ++ Q).map Rw.v ++ sp)) (hc : CmpsV w g q cmp L) (hL : ∀ z ∈ P ++ [x] ++ Y ++ Q, z ∈ L) (hn : (P ++ [x] ++ Y ++ Q).length = n) (hlen : n ≤ 1000000) (hcap : n ≤ c) (hal : P.length = a) (ham : a + 1 = m) (hmb : m + Y.length = b) :
    Calls Tryz.prog 173 #[.slice (some ⟨g, 0, none⟩) n c, .int .i64 (a : Int), .int .i64 (m : Int), .int .i64 (b : Int), .func (.func 117) #[] #[.pointer (some ⟨q, 0, none⟩)]] w
      (SortsV w g ((P ++ Srt.mg cmp [x] Y ++ Q).map Rw.v ++ sp)) := by
  have HO := Lib.hid ho
  have HC := Lib.hid hc
  have HBK := Lib.hid hb
  have HYS := Lib.hid hY
  have HLM := Lib.hid hL
  have HN := Lib.hid hn
  have HAL := Lib.hid hal
  have HAM := Lib.hid ham
  have HMB := Lib.hid hmb
  have h1 : (m : Int) - (a : Int) = 1 := by omega
  have h2 : a < m := by omega
  have h3 : m ≤ b := by omega
  have h4 : b ≤ n := by rw [← hn]; simp; omega
  obtain ⟨cs, hcs⟩ : ∃ cs, (P ++ Srt.mg cmp [x] Y ++ Q).map Rw.v ++ sp = cs := ⟨_, rfl⟩
  rw [hcs]
  have HCS := Lib.hid hcs
  obtain ⟨D, hD⟩ : ∃ D, P ++ [x] ++ Y ++ Q = D := ⟨_, rfl⟩
  have HD := Lib.hid hD
  rw [hD] at hn HBK HLM
  have HDN := Lib.hid hn
  clear hb hc ho hY hL hn hcs hD hal ham hmb
  go_enter Tryz.func173, Tryz.ntmps173
  go_wp2_with fail
  go_loopw [10, 11] (fun iv jv wr => ∃ i j : Nat, m ≤ i ∧ i ≤ j ∧ j ≤ b ∧ iv = .int .i64 (i : Int) ∧ jv = .int .i64 (j : Int) ∧ Hid ((i = m ∨ cmp (Srt.nth D (i - 1)) x < 0) ∧ (j = b ∨ 0 ≤ cmp (Srt.nth D j) x) ∧ Blk wr g 37 (D.map Rw.v ++ sp) ∧ w.grownBy wr (some g))) (fun iv jv _ => (intOf jv).toNat - (intOf iv).toNat)
  case atStart => exact ⟨m, b, Nat.le_refl _, h3, Nat.le_refl _, by go_num, by go_num, .inl rfl, .inl rfl, HBK.out, grown_refl _ _⟩
  case round =>
    obtain ⟨i, j, hmi, hij, hjb, rfl, rfl, HJ⟩ := hrel
    clear HBK
    by_cases hlt : i < j
    · have hii : (i : Int) < (j : Int) := by omega
      obtain ⟨k, hk⟩ : ∃ k : Nat, ((i : Int) + (j : Int)) / 2 = (k : Int) := ⟨(i + j) / 2, by omega⟩
      have hk1 : i ≤ k := by omega
      have hk2 : k < j := by omega
      have hkn : k < n := by omega
      have han : a < n := by omega
      have HX : Hid (Srt.nth D a = x) := by
        show _ = _
        rw [← HD.out, Srt.nth_fst (k := a) (by have := HAL.out; omega) (by have := HAL.out; simp; omega)]
        simp [HAL.out]
      have hb0 := HJ.out.2.2.1.drew
      have hg0 := Lib.hid (grown_drew HJ.out.2.2.2)
      obtain ⟨q0, q1⟩ := blk_nth hb0 (j := k) (by rw [HDN.out]; exact hkn)
      obtain ⟨q2, q3⟩ := blk_nth hb0 (j := a) (by rw [HDN.out]; exact han)
      rw [HX.out] at q2
      have HDK : Hid (Srt.nth D k ∈ D) := Srt.nth_mem (by rw [HDN.out]; exact hkn)
      have HDA : Hid (x ∈ D) := by show _ ∈ _; rw [← HX.out]; exact Srt.nth_mem (by rw [HDN.out]; exact han)
      have HB0 := Lib.hid hb0
      clear hb0
      go_upto_region 5 with fail
      clear hk
      generalize hy : Srt.nth D k = y at HDK q0 ⊢
      have HY := Lib.hid hy
      clear hy
      refine wp_region_plan (.take 0 (.take 1 (.take 2 (.take 3 (.take 4 (.take 5 (.take 6 (.take 7 (.take 8 (.run 9 [] (.take 10 .fin))))))))))) (by kernel_rfl) (by kernel_rfl) (by kernel_rfl) (by kernel_rfl) ?_
      repeat' (first | (refine hZ _ _ ?_; clear hZ) | (refine hZ _ ?_; clear hZ) | (refine hZ ?_; clear hZ) | rw [again_nil] | rw [walk_fin] | ((first | rw [walk_take] | rw [walk_run] | rw [again_cons]); intro Z hZ; simp only [sel, List.getElem?_toArray, List.getElem?_cons_zero, List.getElem?_cons_succ]; go_wp2_with (fail)))
      refine (HC.out _ hg0.out y (HLM.out _ HDK.out) x (HLM.out _ HDA.out)).mono ?_
      rintro e W ⟨rfl, hB⟩
      have HG := Lib.hid (grown_belowR hg0.out hB)
      have HB := Lib.hid (HB0.out.below hB)
      clear hB q0 q1 q2 q3
      by_cases hyx : cmp y x < 0
      · have HXT := Lib.hid hyx
        obtain ⟨z, hz⟩ : ∃ z, cmp y x = z := ⟨_, rfl⟩
        rw [hz] at hyx ⊢
        clear hz
        go_wp2_with fail
        repeat' (first | (refine hZ _ _ ?_; clear hZ) | (refine hZ _ ?_; clear hZ) | (refine hZ ?_; clear hZ) | rw [again_nil] | rw [walk_fin] | ((first | rw [walk_take] | rw [walk_run] | rw [again_cons]); intro Z hZ; simp only [sel, List.getElem?_toArray, List.getElem?_cons_zero, List.getElem?_cons_succ]; go_wp2_with (fail)))
        go_wp2_with fail
        go_roundw
        case rel => exact ⟨k + 1, j, by omega, by omega, hjb, by go_num, rfl, .inr (by rw [Nat.add_sub_cancel, HY.out]; exact HXT.out), HJ.out.2.1, HB.out, HG.out⟩
        case measure => simp [intOf]; omega
      · have HXT := Lib.hid hyx
        obtain ⟨z, hz⟩ : ∃ z, cmp y x = z := ⟨_, rfl⟩
        rw [hz] at hyx ⊢
        clear hz
        go_wp2_with fail
        repeat' (first | (refine hZ _ _ ?_; clear hZ) | (refine hZ _ ?_; clear hZ) | (refine hZ ?_; clear hZ) | rw [again_nil] | rw [walk_fin] | ((first | rw [walk_take] | rw [walk_run] | rw [again_cons]); intro Z hZ; simp only [sel, List.getElem?_toArray, List.getElem?_cons_zero, List.getElem?_cons_succ]; go_wp2_with (fail)))
        go_wp2_with fail
        go_roundw
        case rel => exact ⟨i, k, hmi, hk1, by omega, rfl, by go_num, HJ.out.1, (.inr (by rw [HY.out]; have := HXT.out; omega)), HB.out, HG.out⟩
        case measure => simp [intOf]; omega
    · obtain rfl : i = j := by omega
      have hii : ¬ (i : Int) < (i : Int) := by omega
      have HCUT : Hid (∃ Y1 Y2, Y = Y1 ++ Y2 ∧ Y1.length = i - m ∧ Srt.mg cmp [x] Y = Y1 ++ x :: Y2) := Srt.one_fin HO.out P Y Q x HYS.out (by rw [HAL.out, HAM.out]) HMB.out hmi hjb (by rw [HD.out]; exact HJ.out.1) (by rw [HD.out]; exact HJ.out.2.1.imp id fun h => by omega)
      obtain ⟨Y1, Y2, e1, e2, e3⟩ := HCUT.out
      clear HCUT hii
      have HST : Hid (Blk wr g 37 ((P ++ x :: (Y1 ++ (Y2 ++ Q))).map Rw.v ++ sp) ∧ w.grownBy wr (some g)) := ⟨by have := HJ.out.2.2.1; rw [← HD.out, e1] at this; simpa using this, HJ.out.2.2.2⟩
      have HFI : Hid (((P ++ (Y1 ++ x :: (Y2 ++ Q))).map Rw.v ++ sp) = cs) := by show _ = _; rw [← HCS.out, e3]; simp
      have HY1 : Hid (m + Y1.length = i) := by show _ = _; omega
      clear e1 e2 e3 HJ
      have him : (i : Int) - 1 = ((i - 1 : Nat) : Int) := by omega
      go_wp2_with fail
      go_loopw [13] (fun kv wq => ∃ Y3 Y4 : List Rw, Hid (Y1 = Y3 ++ Y4 ∧ Blk wq g 37 ((P ++ Y3 ++ x :: (Y4 ++ (Y2 ++ Q))).map Rw.v ++ sp) ∧ w.grownBy wq (some g)) ∧ kv = .int .i64 ((a + Y3.length : Nat) : Int)) (fun kv _ => i - (intOf kv).toNat)
      case atStart => exact ⟨[], Y1, ⟨rfl, by simpa using HST.out.1, HST.out.2⟩, by go_num⟩
      case round =>
        obtain ⟨Y3, Y4, HK, rfl⟩ := hrel
        clear HST
        cases Y4 with
        | nil =>
          have hY3 : a + Y3.length + 1 = i := by have := HY1.out; have := HK.out.1; have := HAM.out; simp_all; omega
          have hii : ¬ ((a + Y3.length : Nat) : Int) < (i : Int) - 1 := by omega
          have HF : Hid (SortsV w g cs (.returned (.tuple #[])) wr) := ⟨rfl, by have := HK.out.2.1; rw [← HFI.out, HK.out.1]; simpa using this, HK.out.2.2⟩
          go_wp2_with fail
          go_end0
          exact HF.out
        | cons y Y4 =>
          have hY3 : a + Y3.length + 2 ≤ i := by have := HY1.out; have := HK.out.1; have := HAM.out; simp_all; omega
          have hii : ((a + Y3.length : Nat) : Int) < (i : Int) - 1 := by omega
          obtain ⟨J, hJ⟩ : ∃ J, a + Y3.length = J := ⟨_, rfl⟩
          have HPJ : Hid ((P ++ Y3).length = J) := by show _ = _; rw [List.length_append, HAL.out]; exact hJ
          have HJA := Lib.hid hJ
          rw [hJ] at hY3 hii ⊢
          clear hJ
          obtain ⟨k1, k2, k3⟩ := HK.out
          obtain ⟨q0, q1, q2, q3, q4, q5, q6⟩ := nbV_up (A := P ++ Y3) (u := x) (v := y) (R := Y4 ++ (Y2 ++ Q)) k2 HPJ.out
          have HNW : Hid (Y1 = (Y3 ++ [y]) ++ Y4 ∧ Blk ((wr.setCell ⟨g, J, none⟩ y.v).setCell ⟨g, J + 1, none⟩ x.v).drew g 37 ((P ++ (Y3 ++ [y]) ++ x :: (Y4 ++ (Y2 ++ Q))).map Rw.v ++ sp) ∧ w.grownBy ((wr.setCell ⟨g, J, none⟩ y.v).setCell ⟨g, J + 1, none⟩ x.v).drew (some g)) :=
            ⟨by rw [k1]; simp, by simpa using q6, grown_drew (grown_set (grown_set k3 _ _) _ _)⟩
          clear q6 k1 k2 k3 HK
          go_upto_region 11 with fail
          have hst : ∀ (w : World) (a : Addr) (r : Rw), (store a r.v).run Tryz.prog w = stored Tryz.prog w a r.v .plain := fun w a r => run_store Tryz.prog w a r.v .plain rfl
          unfold Rw.v at q0 q2 q4 q5
          refine wp_region_plan (.take 0 (.take 1 (.take 2 (.take 3 (.take 4 (.take 5 (.take 6 (.take 7 (.take 8 (.take 9 (.take 10 (.take 11 (.take 12 (.take 13 (.take 14 (.run 15 [2, 3, 4] (.take 16 (.run 17 [] .fin)))))))))))))))))) (by kernel_rfl) (by kernel_rfl) (by kernel_rfl) (by kernel_rfl) ?_
          repeat' (first | (refine hZ _ _ ?_; clear hZ) | (refine hZ _ ?_; clear hZ) | (refine hZ ?_; clear hZ) | rw [again_nil] | rw [walk_fin] | ((first | rw [walk_take] | rw [walk_run] | rw [again_cons]); intro Z hZ; simp only [sel, List.getElem?_toArray, List.getElem?_cons_zero, List.getElem?_cons_succ]; go_wp2_with (fail)))
          clear hst
          go_wp2_with fail
          go_roundw
          case rel => exact ⟨Y3 ++ [y], Y4, HNW.out, by have := HJA.out; simp; omega⟩
          case measure => simp [intOf]; omega
set_option maxRecDepth 100000 in
set_option maxHeartbeats 8000000 in
theorem sym2V_any (w : World) (g q n c a m b : Nat) (cmp : Rw → Rw → Int) (ho : Srt.Ord cmp) (L P X Q : List Rw) (y : Rw) (sp : List Value) (hX : Srt.Sorted cmp X) (hX2 : 2 ≤ X.length) (hb : Blk w g 37 ((P ++ X ++ [y] ++ Q).map Rw.v ++ sp)) (hc : CmpsV w g q cmp L) (hL : ∀ z ∈ P ++ X ++ [y] ++ Q, z ∈ L) (hn : (P ++ X ++ [y] ++ Q).length = n) (hlen : n ≤ 1000000) (hcap : n ≤ c) (hal : P.length = a) (ham : a + X.length = m) (hmb : m + 1 = b) :
    Calls Tryz.prog 173 #[.slice (some ⟨g, 0, none⟩) n c, .int .i64 (a : Int), .int .i64 (m : Int), .int .i64 (b : Int), .func (.func 117) #[] #[.pointer (some ⟨q, 0, none⟩)]] w
      (SortsV w g ((P ++ Srt.mg cmp X [y] ++ Q).map Rw.v ++ sp)) := by
  have HO := Lib.hid ho
  have HC := Lib.hid hc
  have HBK := Lib.hid hb
  have HXS := Lib.hid hX
  have HLM := Lib.hid hL
  have HN := Lib.hid hn
  have HAL := Lib.hid hal
  have HAM := Lib.hid ham
  have HMB := Lib.hid hmb
  obtain ⟨d, hd⟩ : ∃ d : Int, (m : Int) - (a : Int) = d := ⟨_, rfl⟩
  have h1 : (d == 1) = false := by simp; omega
  have h0 : (b : Int) - (m : Int) = 1 := by omega
  have h2 : a < m := by omega
  have h4 : m < n := by rw [← hn]; simp; omega
  obtain ⟨cs, hcs⟩ : ∃ cs, (P ++ Srt.mg cmp X [y] ++ Q).map Rw.v ++ sp = cs := ⟨_, rfl⟩
  rw [hcs]
  have HCS := Lib.hid hcs
  obtain ⟨D, hD⟩ : ∃ D, P ++ X ++ [y] ++ Q = D := ⟨_, rfl⟩
  have HD := Lib.hid hD
  rw [hD] at hn HBK HLM
  have HDN := Lib.hid hn
  clear hb hc ho hX hL hn hcs hD hal ham hmb hX2
  go_enter Tryz.func173, Tryz.ntmps173
  go_wp2_with fail
  clear h1 hd
  go_loopw [14, 15] (fun iv jv wr => ∃ i j : Nat, a ≤ i ∧ i ≤ j ∧ j ≤ m ∧ iv = .int .i64 (i : Int) ∧ jv = .int .i64 (j : Int) ∧ Hid ((i = a ∨ 0 ≤ cmp y (Srt.nth D (i - 1))) ∧ (j = m ∨ cmp y (Srt.nth D j) < 0) ∧ Blk wr g 37 (D.map Rw.v ++ sp) ∧ w.grownBy wr (some g))) (fun iv jv _ => (intOf jv).toNat - (intOf iv).toNat)
  case atStart => exact ⟨a, m, Nat.le_refl _, by omega, Nat.le_refl _, by go_num, by go_num, .inl rfl, .inl rfl, HBK.out, grown_refl _ _⟩
  case round =>
    obtain ⟨i, j, hai, hij, hjm, rfl, rfl, HJ⟩ := hrel
    clear HBK
    by_cases hlt : i < j
    · have hii : (i : Int) < (j : Int) := by omega
      obtain ⟨k, hk⟩ : ∃ k : Nat, ((i : Int) + (j : Int)) / 2 = (k : Int) := ⟨(i + j) / 2, by omega⟩
      have hk1 : i ≤ k := by omega
      have hk2 : k < j := by omega
      have hkn : k < n := by omega
      have HX : Hid (Srt.nth D m = y) := by
        show _ = _
        rw [← HD.out, Srt.nth_snd (k := m) (by have := HAL.out; have := HAM.out; omega) (by have := HAL.out; have := HAM.out; simp; omega)]
        simp [HAL.out, HAM.out]
      have hb0 := HJ.out.2.2.1.drew
      have hg0 := Lib.hid (grown_drew HJ.out.2.2.2)
      obtain ⟨q0, q1⟩ := blk_nth hb0 (j := k) (by rw [HDN.out]; exact hkn)
      obtain ⟨q2, q3⟩ := blk_nth hb0 (j := m) (by rw [HDN.out]; exact h4)
      rw [HX.out] at q2
      have HDK : Hid (Srt.nth D k ∈ D) := Srt.nth_mem (by rw [HDN.out]; exact hkn)
      have HDA : Hid (y ∈ D) := by show _ ∈ _; rw [← HX.out]; exact Srt.nth_mem (by rw [HDN.out]; exact h4)
      have HB0 := Lib.hid hb0
      clear hb0
      go_upto_region 17 with fail
      clear hk
      generalize hy : Srt.nth D k = x at HDK q0 ⊢
      have HY := Lib.hid hy
      clear hy
      refine wp_region_plan (.take 0 (.take 1 (.take 2 (.take 3 (.take 4 (.take 5 (.take 6 (.take 7 (.take 8 (.run 9 [] (.take 10 (.take 11 .fin)))))))))))) (by kernel_rfl) (by kernel_rfl) (by kernel_rfl) (by kernel_rfl) ?_
      repeat' (first | (refine hZ _ _ ?_; clear hZ) | (refine hZ _ ?_; clear hZ) | (refine hZ ?_; clear hZ) | rw [again_nil] | rw [walk_fin] | ((first | rw [walk_take] | rw [walk_run] | rw [again_cons]); intro Z hZ; simp only [sel, List.getElem?_toArray, List.getElem?_cons_zero, List.getElem?_cons_succ]; go_wp2_with (fail)))
      refine (HC.out _ hg0.out y (HLM.out _ HDA.out) x (HLM.out _ HDK.out)).mono ?_
      rintro e W ⟨rfl, hB⟩
      have HG := Lib.hid (grown_belowR hg0.out hB)
      have HB := Lib.hid (HB0.out.below hB)
      clear hB q0 q1 q2 q3
      by_cases hyx : cmp y x < 0
      · have HXT := Lib.hid hyx
        obtain ⟨z, hz⟩ : ∃ z, cmp y x = z := ⟨_, rfl⟩
        rw [hz] at hyx ⊢
        clear hz
        go_wp2_with fail
        repeat' (first | (refine hZ _ _ ?_; clear hZ) | (refine hZ _ ?_; clear hZ) | (refine hZ ?_; clear hZ) | rw [again_nil] | rw [walk_fin] | ((first | rw [walk_take] | rw [walk_run] | rw [again_cons]); intro Z hZ; simp only [sel, List.getElem?_toArray, List.getElem?_cons_zero, List.getElem?_cons_succ]; go_wp2_with (fail)))
        go_wp2_with fail
        go_roundw
        case rel => exact ⟨i, k, hai, hk1, by omega, rfl, by go_num, HJ.out.1, .inr (by rw [HY.out]; exact HXT.out), HB.out, HG.out⟩
        case measure => simp [intOf]; omega
      · have HXT := Lib.hid hyx
        obtain ⟨z, hz⟩ : ∃ z, cmp y x = z := ⟨_, rfl⟩
        rw [hz] at hyx ⊢
        clear hz
        have hyz : (decide (z < 0)) = false := by simpa using hyx
        go_wp2_with fail
        repeat' (first | (refine hZ _ _ ?_; clear hZ) | (refine hZ _ ?_; clear hZ) | (refine hZ ?_; clear hZ) | rw [again_nil] | rw [walk_fin] | ((first | rw [walk_take] | rw [walk_run] | rw [again_cons]); intro Z hZ; simp only [sel, List.getElem?_toArray, List.getElem?_cons_zero, List.getElem?_cons_succ]; go_wp2_with (fail)))
        go_wp2_with fail
        go_roundw
        case rel => exact ⟨k + 1, j, by omega, by omega, hjm, by go_num, rfl, (.inr (by rw [Nat.add_sub_cancel, HY.out]; have := HXT.out; omega)), HJ.out.2.1, HB.out, HG.out⟩
        case measure => simp [intOf]; omega
    · obtain rfl : i = j := by omega
      have hii : ¬ (i : Int) < (i : Int) := by omega
      have HCUT : Hid (∃ X1 X2, X = X1 ++ X2 ∧ X1.length = i - a ∧ Srt.mg cmp X [y] = X1 ++ y :: X2) := Srt.fin_one HO.out P X Q y HXS.out HAL.out HAM.out hai hjm (by rw [HD.out]; exact HJ.out.2.1) (by rw [HD.out]; exact HJ.out.1.imp id fun h => by omega)
      obtain ⟨X1, X2, e1, e2, e3⟩ := HCUT.out
      clear HCUT hii
      have HST : Hid (Blk wr g 37 ((P ++ X1 ++ X2 ++ y :: Q).map Rw.v ++ sp) ∧ w.grownBy wr (some g)) := ⟨by have := HJ.out.2.2.1; rw [← HD.out, e1] at this; simpa using this, HJ.out.2.2.2⟩
      have HFI : Hid (((P ++ X1 ++ y :: (X2 ++ Q)).map Rw.v ++ sp) = cs) := by show _ = _; rw [← HCS.out, e3]; simp
      have HX1 : Hid ((P ++ X1).length = i) := by show _ = _; rw [List.length_append, HAL.out]; omega
      have HX2 : Hid (i + X2.length = m) := by have := HAM.out; rw [e1, List.length_append] at this; show _ = _; omega
      clear e1 e2 e3 HJ
      go_wp2_with fail
      go_loopw [17] (fun kv wq => ∃ X3 X4 : List Rw, Hid (X2 = X3 ++ X4 ∧ Blk wq g 37 ((P ++ X1 ++ X3 ++ y :: (X4 ++ Q)).map Rw.v ++ sp) ∧ w.grownBy wq (some g)) ∧ kv = .int .i64 ((i + X3.length : Nat) : Int)) (fun kv _ => (intOf kv).toNat)
      case atStart => exact ⟨X2, [], ⟨by simp, HST.out.1, HST.out.2⟩, by have := HX2.out; go_num⟩
      case round =>
        obtain ⟨X3, X4, HK, rfl⟩ := hrel
        clear HST
        rcases List.eq_nil_or_concat X3 with rfl | ⟨X3', x, rfl⟩
        · have HF : Hid (SortsV w g cs (.returned (.tuple #[])) wr) := ⟨rfl, by have := HK.out.2.1; rw [← HFI.out, HK.out.1]; simpa using this, HK.out.2.2⟩
          simp only [List.length_nil, Nat.add_zero]
          go_wp2_with fail
          go_end0
          exact HF.out
        · rw [List.concat_eq_append] at HK
          have hl1 : (X3'.concat x).length = X3'.length + 1 := by simp
          have hmx : i + X3'.length + 1 ≤ m := by have := HX2.out; rw [HK.out.1] at this; simp at this; omega
          rw [hl1]
          obtain ⟨J, hJ⟩ : ∃ J, i + X3'.length = J := ⟨_, rfl⟩
          have HPJ : Hid ((P ++ X1 ++ X3').length = J) := by show _ = _; rw [List.length_append, HX1.out]; exact hJ
          have HJA := Lib.hid hJ
          rw [show i + (X3'.length + 1) = J + 1 by omega]
          have hiJ : i ≤ J := by omega
          rw [hJ] at hmx
          clear hJ hl1
          obtain ⟨k1, k2, k3⟩ := HK.out
          obtain ⟨q0, q1, q2, q3, q4, q5, q6⟩ := nbV_down (A := P ++ X1 ++ X3') (u := x) (v := y) (R := X4 ++ Q) (by simpa using k2) HPJ.out
          have HNW : Hid (X2 = X3' ++ (x :: X4) ∧ Blk ((wr.setCell ⟨g, J + 1, none⟩ x.v).setCell ⟨g, J, none⟩ y.v).drew g 37 ((P ++ X1 ++ X3' ++ y :: ((x :: X4) ++ Q)).map Rw.v ++ sp) ∧ w.grownBy ((wr.setCell ⟨g, J + 1, none⟩ x.v).setCell ⟨g, J, none⟩ y.v).drew (some g)) :=
            ⟨by rw [k1]; simp, by simpa using q6, grown_drew (grown_set (grown_set k3 _ _) _ _)⟩
          clear q6 k1 k2 k3 HK
          have hii : (i : Int) < ((J + 1 : Nat) : Int) := by omega
          go_upto_region 23 with fail
          have hst : ∀ (w : World) (a : Addr) (r : Rw), (store a r.v).run Tryz.prog w = stored Tryz.prog w a r.v .plain := fun w a r => run_store Tryz.prog w a r.v .plain rfl
          unfold Rw.v at q0 q2 q4 q5
          refine wp_region_plan (.take 0 (.take 1 (.take 2 (.take 3 (.take 4 (.take 5 (.take 6 (.take 7 (.take 8 (.take 9 (.take 10 (.take 11 (.take 12 (.take 13 (.take 14 (.run 15 [2, 3, 4] (.take 16 (.run 17 [] .fin)))))))))))))))))) (by kernel_rfl) (by kernel_rfl) (by kernel_rfl) (by kernel_rfl) ?_
          repeat' (first | (refine hZ _ _ ?_; clear hZ) | (refine hZ _ ?_; clear hZ) | (refine hZ ?_; clear hZ) | rw [again_nil] | rw [walk_fin] | ((first | rw [walk_take] | rw [walk_run] | rw [again_cons]); intro Z hZ; simp only [sel, List.getElem?_toArray, List.getElem?_cons_zero, List.getElem?_cons_succ]; go_wp2_with (fail)))
          clear hst
          go_wp2_with fail
          go_roundw
          case rel => exact ⟨X3', x :: X4, HNW.out, by have := HJA.out; go_num⟩
          case measure => simp [intOf]
end Go.Proofs.YtpahkaffknnjhaaGreatDoor
end

section
/-
  Printed by mkinsv.py: the stable sorting of rows.
-/
namespace Go.Proofs.YtpahkaffknnjhaaGreatDoor
set_option linter.unusedSimpArgs false
set_option linter.unusedVariables false
open Go.RowKit
/-- Two sorted neighbours of at most so many elements are merged. -/
def SymV (g q n c : Nat) (cmp : Rw → Rw → Int) (L : List Rw) (sp : List Value) (N : Nat) : Prop :=
  ∀ (w : World) (P X Y Q : List Rw) (a m b : Nat), X.length + Y.length ≤ N → 0 < X.length → 0 < Y.length → Srt.Sorted cmp X → Srt.Sorted cmp Y → Blk w g 37 ((P ++ X ++ Y ++ Q).map Rw.v ++ sp) → CmpsV w g q cmp L → (∀ z ∈ P ++ X ++ Y ++ Q, z ∈ L) → (P ++ X ++ Y ++ Q).length = n → P.length = a → a + X.length = m → m + Y.length = b →
    Calls Tryz.prog 173 #[.slice (some ⟨g, 0, none⟩) n c, .int .i64 (a : Int), .int .i64 (m : Int), .int .i64 (b : Int), .func (.func 117) #[] #[.pointer (some ⟨q, 0, none⟩)]] w
      (SortsV w g ((P ++ Srt.mg cmp X Y ++ Q).map Rw.v ++ sp))
theorem CmpsV.grown {w W : World} {g q : Nat} {cmp : Rw → Rw → Int} {L : List Rw} (h : CmpsV w g q cmp L) (hw : w.grownBy W (some g)) : CmpsV W g q cmp L := fun V hV => h V (grown_trans hw hV)
theorem SymV.at {g q n c : Nat} {cmp : Rw → Rw → Int} {L : List Rw} {sp : List Value} {N : Nat} (h : SymV g q n c cmp L sp N) {w W : World} (hw : w.grownBy W (some g)) {P X Y Q R R' : List Rw} {a m b : Nat} (h1 : X.length + Y.length ≤ N) (h2 : 0 < X.length) (h3 : 0 < Y.length) (h4 : Srt.Sorted cmp X) (h5 : Srt.Sorted cmp Y) (h6 : Blk W g 37 (R.map Rw.v ++ sp)) (h7 : CmpsV w g q cmp L) (h8 : ∀ z ∈ R, z ∈ L) (h9 : R.length = n) (h10 : P.length = a) (h11 : a + X.length = m) (h12 : m + Y.length = b) (hR : P ++ X ++ Y ++ Q = R) (hR' : P ++ Srt.mg cmp X Y ++ Q = R') :
    Calls Tryz.prog 173 #[.slice (some ⟨g, 0, none⟩) n c, .int .i64 (a : Int), .int .i64 (m : Int), .int .i64 (b : Int), .func (.func 117) #[] #[.pointer (some ⟨q, 0, none⟩)]] W
      (SortsV w g (R'.map Rw.v ++ sp)) := by
  subst hR hR'
  exact (h W P X Y Q a m b h1 h2 h3 h4 h5 h6 (h7.grown hw) h8 h9 h10 h11 h12).mono fun e W' h => ⟨h.1, h.2.1, grown_trans hw h.2.2⟩
theorem rotV_at {w W : World} {g q c n a m b : Nat} {P X Y Q R R' : List Rw} {sp : List Value} (hX : 0 < X.length) (hY : 0 < Y.length) (hw : w.grownBy W (some g)) (hb : Blk W g 37 (R.map Rw.v ++ sp)) (hn : R.length = n) (hlen : n ≤ 1000000) (hcap : n ≤ c) (ha : P.length = a) (hm : a + X.length = m) (hb2 : m + Y.length = b) (hR : P ++ X ++ Y ++ Q = R) (hR' : P ++ Y ++ X ++ Q = R') :
    Calls Tryz.prog 184 #[.slice (some ⟨g, 0, none⟩) n c, .int .i64 (a : Int), .int .i64 (m : Int), .int .i64 (b : Int), .func (.func 117) #[] #[.pointer (some ⟨q, 0, none⟩)]] W
      (SortsV w g (R'.map Rw.v ++ sp)) := by
  subst hR hR' hn ha hm hb2
  exact (rotV_any W g q c P X Y Q sp hX hY hb hlen hcap).mono fun e W' h => ⟨h.1, h.2.1, grown_trans hw h.2.2⟩
set_option maxRecDepth 100000 in
set_option maxHeartbeats 8000000 in
theorem symNV_any (g q n c : Nat) (cmp : Rw → Rw → Int) (ho : Srt.Ord cmp) (L : List Rw) (sp : List Value) (N : Nat) (hI : SymV g q n c cmp L sp N) (hlen : n ≤ 1000000) (hcap : n ≤ c)
    (w : World) (P X Y Q : List Rw) (a m b : Nat) (hN : X.length + Y.length ≤ N + 1) (hX2 : 2 ≤ X.length) (hY2 : 2 ≤ Y.length) (hX : Srt.Sorted cmp X) (hY : Srt.Sorted cmp Y) (hb : Blk w g 37 ((P ++ X ++ Y ++ Q).map Rw.v ++ sp)) (hc : CmpsV w g q cmp L) (hL : ∀ z ∈ P ++ X ++ Y ++ Q, z ∈ L) (hn : (P ++ X ++ Y ++ Q).length = n) (hal : P.length = a) (ham : a + X.length = m) (hmb : m + Y.length = b) :
    Calls Tryz.prog 173 #[.slice (some ⟨g, 0, none⟩) n c, .int .i64 (a : Int), .int .i64 (m : Int), .int .i64 (b : Int), .func (.func 117) #[] #[.pointer (some ⟨q, 0, none⟩)]] w
      (SortsV w g ((P ++ Srt.mg cmp X Y ++ Q).map Rw.v ++ sp)) := by
  have HI := Lib.hid hI
  have HO := Lib.hid ho
  have HC := Lib.hid hc
  have HBK := Lib.hid hb
  have HXS := Lib.hid hX
  have HYS := Lib.hid hY
  have HLM := Lib.hid hL
  have HAL := Lib.hid hal
  have HAM := Lib.hid ham
  have HMB := Lib.hid hmb
  have HNN := Lib.hid hN
  obtain ⟨d1, hd1⟩ : ∃ d1 : Int, (m : Int) - (a : Int) = d1 := ⟨_, rfl⟩
  have h1 : (d1 == 1) = false := by simp; omega
  obtain ⟨d2, hd2⟩ : ∃ d2 : Int, (b : Int) - (m : Int) = d2 := ⟨_, rfl⟩
  have h0 : (d2 == 1) = false := by simp; omega
  have h2 : a + 2 ≤ m := by omega
  have h3 : m + 2 ≤ b := by omega
  have h4 : b ≤ n := by rw [← hn]; simp; omega
  obtain ⟨d, hd⟩ : ∃ d : Nat, ((a : Int) + (b : Int)) / 2 = (d : Int) := ⟨(a + b) / 2, by omega⟩
  have h5 : 2 * d ≤ a + b := by omega
  have h6 : a + b ≤ 2 * d + 1 := by omega
  obtain ⟨cs, hcs⟩ : ∃ cs, (P ++ Srt.mg cmp X Y ++ Q).map Rw.v ++ sp = cs := ⟨_, rfl⟩
  rw [hcs]
  have HCS := Lib.hid hcs
  obtain ⟨D, hD⟩ : ∃ D, P ++ X ++ Y ++ Q = D := ⟨_, rfl⟩
  have HD := Lib.hid hD
  rw [hD] at hn HBK HLM
  have HDN := Lib.hid hn
  clear hb hc ho hX hY hL hn hcs hD hal ham hmb hX2 hY2 hI hN
  go_enter Tryz.func173, Tryz.ntmps173
  go_upto_if 140 with fail
  clear hd1 hd2 h1 h0 hd
  go_cut [20, 21] from 140 to 146 (fun v20 v21 wx => ∃ s0 r0 : Nat, v20 = .int .i64 (s0 : Int) ∧ v21 = .int .i64 (r0 : Int) ∧ a ≤ s0 ∧ s0 ≤ r0 ∧ r0 ≤ m ∧ r0 ≤ d ∧ d + m ≤ b + s0 ∧ (s0 = a ∨ d + m = b + s0) ∧ (r0 = m ∨ r0 = d) ∧ w = wx)
  case first =>
    by_cases hmd : d < m
    · have e1 : (d : Int) < (m : Int) := by omega
      obtain ⟨s0, hs0⟩ : ∃ s0 : Nat, (d : Int) + (m : Int) - (b : Int) = (s0 : Int) := ⟨d + m - b, by omega⟩
      have e2 : a ≤ s0 := by omega
      have e3 : s0 ≤ d := by omega
      have e4 : d + m = b + s0 := by omega
      go_wp2_with fail
      go_meet
      case rel => exact ⟨s0, d, rfl, rfl, e2, e3, by omega, Nat.le_refl _, by omega, .inr e4, .inr rfl, rfl⟩
    · have e1 : ¬ (d : Int) < (m : Int) := by omega
      go_wp2_with fail
      go_meet
      case rel => exact ⟨a, m, rfl, rfl, Nat.le_refl _, by omega, Nat.le_refl _, by omega, by omega, .inl rfl, .inl rfl, rfl⟩
  case rest =>
    obtain ⟨s0, r0, rfl, rfl, k1, k2, k3, k4, k5, k6, k7, rfl⟩ := hcut
    obtain ⟨p, hp⟩ : ∃ p : Nat, (d : Int) + (m : Int) - 1 = (p : Int) := ⟨d + m - 1, by omega⟩
    have hpm : p + 1 = d + m := by omega
    have HPM := Lib.hid hpm
    go_wp2_with fail
    clear hp hpm
    go_loopw [20, 21] (fun iv jv wr => ∃ i j : Nat, s0 ≤ i ∧ i ≤ j ∧ j ≤ r0 ∧ iv = .int .i64 (i : Int) ∧ jv = .int .i64 (j : Int) ∧ Hid ((i = s0 ∨ 0 ≤ cmp (Srt.nth D (p + 1 - i)) (Srt.nth D (i - 1))) ∧ (j = r0 ∨ cmp (Srt.nth D (p - j)) (Srt.nth D j) < 0) ∧ Blk wr g 37 (D.map Rw.v ++ sp) ∧ w.grownBy wr (some g))) (fun iv jv _ => (intOf jv).toNat - (intOf iv).toNat)
    case atStart => exact ⟨s0, r0, Nat.le_refl _, k2, Nat.le_refl _, by go_num, by go_num, .inl rfl, .inl rfl, HBK.out, grown_refl _ _⟩
    case round =>
      obtain ⟨i, j, hai, hij, hjm, rfl, rfl, HJ⟩ := hrel
      clear HBK
      by_cases hlt : i < j
      · have hii : (i : Int) < (j : Int) := by omega
        obtain ⟨k, hk⟩ : ∃ k : Nat, ((i : Int) + (j : Int)) / 2 = (k : Int) := ⟨(i + j) / 2, by omega⟩
        have hk1 : i ≤ k := by omega
        have hk2 : k < j := by omega
        have hkn : k < n := by omega
        obtain ⟨u, hu⟩ : ∃ u : Nat, (p : Int) - (k : Int) = (u : Int) := ⟨p - k, by have := HPM.out; omega⟩
        have hun : u < n := by have := HPM.out; omega
        have huk : p - k = u := by omega
        have HUK := Lib.hid huk
        have hb0 := HJ.out.2.2.1.drew
        have hg0 := Lib.hid (grown_drew HJ.out.2.2.2)
        obtain ⟨q0, q1⟩ := blk_nth hb0 (j := k) (by rw [HDN.out]; exact hkn)
        obtain ⟨q2, q3⟩ := blk_nth hb0 (j := u) (by rw [HDN.out]; exact hun)
        have HDK : Hid (Srt.nth D k ∈ D) := Srt.nth_mem (by rw [HDN.out]; exact hkn)
        have HDU : Hid (Srt.nth D u ∈ D) := Srt.nth_mem (by rw [HDN.out]; exact hun)
        have HB0 := Lib.hid hb0
        clear hb0 huk
        go_upto_region 35 with fail
        clear hk
        generalize hx : Srt.nth D k = x at HDK q0 ⊢
        generalize hy : Srt.nth D u = y at HDU q2 ⊢
        have HX := Lib.hid hx
        have HY := Lib.hid hy
        clear hx hy
        refine wp_region_plan (.take 0 (.take 1 (.take 2 (.take 3 (.take 4 (.take 5 (.take 6 (.take 7 (.take 8 (.take 9 (.take 10 (.run 11 [] (.take 12 (.take 13 .fin)))))))))))))) (by kernel_rfl) (by kernel_rfl) (by kernel_rfl) (by kernel_rfl) ?_
        repeat' (first | (refine hZ _ _ ?_; clear hZ) | (refine hZ _ ?_; clear hZ) | (refine hZ ?_; clear hZ) | rw [again_nil] | rw [walk_fin] | ((first | rw [walk_take] | rw [walk_run] | rw [again_cons]); intro Z hZ; simp only [sel, List.getElem?_toArray, List.getElem?_cons_zero, List.getElem?_cons_succ]; go_wp2_with (fail)))
        refine (HC.out _ hg0.out y (HLM.out _ HDU.out) x (HLM.out _ HDK.out)).mono ?_
        rintro e W ⟨rfl, hB⟩
        have HG := Lib.hid (grown_belowR hg0.out hB)
        have HB := Lib.hid (HB0.out.below hB)
        clear hB q0 q1 q2 q3 hu
        by_cases hyx : cmp y x < 0
        · have HXT := Lib.hid hyx
          obtain ⟨z, hz⟩ : ∃ z, cmp y x = z := ⟨_, rfl⟩
          rw [hz] at hyx ⊢
          clear hz
          go_wp2_with fail
          repeat' (first | (refine hZ _ _ ?_; clear hZ) | (refine hZ _ ?_; clear hZ) | (refine hZ ?_; clear hZ) | rw [again_nil] | rw [walk_fin] | ((first | rw [walk_take] | rw [walk_run] | rw [again_cons]); intro Z hZ; simp only [sel, List.getElem?_toArray, List.getElem?_cons_zero, List.getElem?_cons_succ]; go_wp2_with (fail)))
          go_wp2_with fail
          go_roundw
          case rel => exact ⟨i, k, hai, hk1, by omega, rfl, by go_num, HJ.out.1, .inr (by rw [HUK.out, HY.out, HX.out]; exact HXT.out), HB.out, HG.out⟩
          case measure => simp [intOf]; omega
        · have HXT := Lib.hid hyx
          obtain ⟨z, hz⟩ : ∃ z, cmp y x = z := ⟨_, rfl⟩
          rw [hz] at hyx ⊢
          clear hz
          have hyz : (decide (z < 0)) = false := by simpa using hyx
          go_wp2_with fail
          repeat' (first | (refine hZ _ _ ?_; clear hZ) | (refine hZ _ ?_; clear hZ) | (refine hZ ?_; clear hZ) | rw [again_nil] | rw [walk_fin] | ((first | rw [walk_take] | rw [walk_run] | rw [again_cons]); intro Z hZ; simp only [sel, List.getElem?_toArray, List.getElem?_cons_zero, List.getElem?_cons_succ]; go_wp2_with (fail)))
          go_wp2_with fail
          go_roundw
          case rel => exact ⟨k + 1, j, by omega, by omega, hjm, by go_num, rfl, (.inr (by rw [Nat.add_sub_cancel, Nat.add_sub_add_right, HUK.out, HY.out, HX.out]; have := HXT.out; omega)), HJ.out.2.1, HB.out, HG.out⟩
          case measure => simp [intOf]; omega
      · obtain rfl : i = j := by omega
        have hii : ¬ (i : Int) < (i : Int) := by omega
        obtain ⟨e, he⟩ : ∃ e : Nat, (d : Int) + (m : Int) - (i : Int) = (e : Int) := ⟨d + m - i, by omega⟩
        have he1 : i + e = d + m := by omega
        have HCUT : Hid (∃ X1 X2 Y1 Y2, X = X1 ++ X2 ∧ Y = Y1 ++ Y2 ∧ X1.length = i - a ∧ X2.length = m - i ∧ Y1.length = e - m ∧ Y2.length = b - e ∧ Srt.mg cmp X Y = Srt.mg cmp X1 Y1 ++ Srt.mg cmp X2 Y2) := by
          have hq := HPM.out
          refine Srt.sym_fin HO.out P X Y Q HXS.out HYS.out HAL.out HAM.out HMB.out (by omega) (by omega) (by omega) (by omega) ?_ ?_
          · rw [HD.out]
            rcases HJ.out.2.1 with h | h
            · omega
            · rw [show e - 1 = p - i by omega]; exact .inr (.inr h)
          · rw [HD.out]
            rcases HJ.out.1 with h | h
            · omega
            · rw [show e = p + 1 - i by omega]; exact .inr (.inr (by omega))
        obtain ⟨X1, X2, Y1, Y2, e1, e2, e3, e4, e5, e6, e7⟩ := HCUT.out
        clear HCUT hii
        have HST : Hid (Blk wr g 37 ((P ++ X1 ++ X2 ++ Y1 ++ (Y2 ++ Q)).map Rw.v ++ sp) ∧ w.grownBy wr (some g)) := ⟨by have := HJ.out.2.2.1; rw [← HD.out, e1, e2] at this; simpa using this, HJ.out.2.2.2⟩
        have HL1 : Hid (∀ R : List Rw, R.Perm D → (∀ z ∈ R, z ∈ L) ∧ R.length = n) := fun R hR => ⟨fun z hz => HLM.out z (hR.mem_iff.1 hz), by rw [hR.length_eq, HDN.out]⟩
        have HP1 : Hid ((P ++ X1 ++ X2 ++ Y1 ++ (Y2 ++ Q)) = D) := by show _ = _; rw [← HD.out, e1, e2]; simp
        have HP2 : Hid ((P ++ X1 ++ Y1 ++ X2 ++ (Y2 ++ Q)).Perm D) := by
          rw [← HP1.out]
          simp only [List.append_assoc]
          exact ((List.perm_append_left_iff _).2 ((List.perm_append_left_iff _).2 (List.perm_append_comm_assoc Y1 X2 (Y2 ++ Q))))
        have HP3 : Hid ((P ++ Srt.mg cmp X1 Y1 ++ X2 ++ Y2 ++ Q).Perm D) := by
          refine List.Perm.trans ?_ HP2.out
          simp only [List.append_assoc]
          refine (List.perm_append_left_iff _).2 ?_
          rw [← List.append_assoc X1]
          exact (List.perm_append_right_iff _).2 (Srt.mg_perm cmp _ _)
        have HFI : Hid ((P ++ Srt.mg cmp X1 Y1 ++ Srt.mg cmp X2 Y2 ++ Q).map Rw.v ++ sp = cs) := by show _ = _; rw [← HCS.out, e7]; simp
        have HX1 : Hid (Srt.Sorted cmp X1 ∧ Srt.Sorted cmp X2) := Srt.sorted_part HXS.out e1
        have HY1 : Hid (Srt.Sorted cmp Y1 ∧ Srt.Sorted cmp Y2) := Srt.sorted_part HYS.out e2
        have HPA : Hid ((P ++ X1).length = i) := by show _ = _; rw [List.length_append, HAL.out]; omega
        have HPM2 : Hid ((P ++ Srt.mg cmp X1 Y1).length = d) := by show _ = _; rw [List.length_append, Srt.mg_length, HAL.out]; omega
        have hN1 : (i - a) + (e - m) ≤ N := by have := HNN.out; rw [e1, e2] at this; simp at this; omega
        have hN2 : (m - i) + (b - e) ≤ N := by have := HNN.out; rw [e1, e2] at this; simp at this; omega
        have HE3 := Lib.hid e3
        have HE4 := Lib.hid e4
        have HE5 := Lib.hid e5
        have HE6 := Lib.hid e6
        clear e1 e2 e3 e4 e5 e6 e7 HJ
        go_upto_region 39 with fail
        clear he
        go_cut [185] from 178 to 185 (fun v wx => Hid (v = .bool (decide (i < m ∧ m < e)) ∧ wr = wx))
        case first =>
          by_cases hA : i < m
          · by_cases hB : m < e
            · have c1 : (i : Int) < m := by omega
              have c2 : (m : Int) < e := by omega
              have HAB : Hid (decide (i < m ∧ m < e) = true) := by show _ = _; simp [hA, hB]
              go_wp2_with fail
              go_meet
              case rel => exact ⟨by rw [HAB.out], rfl⟩
            · have c1 : (i : Int) < m := by omega
              have c2 : ¬ (m : Int) < e := by omega
              have HAB : Hid (decide (i < m ∧ m < e) = false) := by show _ = _; simp [hB]
              go_wp2_with fail
              go_meet
              case rel => exact ⟨by rw [HAB.out], rfl⟩
          · have c1 : ¬ (i : Int) < m := by omega
            have HAB : Hid (decide (i < m ∧ m < e) = false) := by show _ = _; simp [hA]
            go_wp2_with fail
            go_meet
            case rel => exact ⟨by rw [HAB.out], rfl⟩
        case rest =>
          obtain ⟨hv, rfl⟩ := hcut.out
          subst hv
          clear hcut
          go_upto_if 185 with fail
          go_cut [] from 185 to 191 (fun wx => Hid (Blk wx g 37 ((P ++ X1 ++ Y1 ++ X2 ++ (Y2 ++ Q)).map Rw.v ++ sp) ∧ w.grownBy wx (some g)))
          case first =>
            by_cases hAB : i < m ∧ m < e
            · have HR := Lib.hid (rotV_at (w := w) (q := q) (c := c) (n := n) (a := i) (m := m) (b := e) (P := P ++ X1) (X := X2) (Y := Y1) (Q := Y2 ++ Q) (by rw [HE4.out]; omega) (by rw [HE5.out]; omega) HST.out.2 HST.out.1 (by rw [HP1.out]; exact HDN.out) hlen hcap HPA.out (by rw [HE4.out]; omega) (by rw [HE5.out]; omega) rfl rfl)
              rw [decide_eq_true hAB]
              go_wp2_with fail
              refine (show Calls _ _ _ _ _ from HR.out).mono ?_
              rintro e W ⟨rfl, hW⟩
              have HW := Lib.hid hW
              clear hW HR
              go_wp2_with fail
              go_meet
              case rel => exact HW.out
            · have HW : Hid (Blk wr g 37 ((P ++ X1 ++ Y1 ++ X2 ++ (Y2 ++ Q)).map Rw.v ++ sp) ∧ w.grownBy wr (some g)) := by
                show _ ∧ _
                have h5 := HE5.out
                have h4 := HE4.out
                have := HST.out
                by_cases hm : i < m
                · obtain rfl : Y1 = [] := List.eq_nil_of_length_eq_zero (by omega)
                  simpa using this
                · obtain rfl : X2 = [] := List.eq_nil_of_length_eq_zero (by omega)
                  simpa using this
              rw [decide_eq_false hAB]
              go_wp2_with fail
              go_meet
              case rel => exact HW.out
          case rest =>
            clear HST
            have HST := hcut
            clear hcut
            go_upto_region 41 with fail
            go_cut [199] from 192 to 199 (fun v wx => Hid (v = .bool (decide (a < i ∧ i < d)) ∧ wc = wx))
            case first =>
              by_cases hA : a < i
              · by_cases hB : i < d
                · have c1 : (a : Int) < i := by omega
                  have c2 : (i : Int) < d := by omega
                  have HAB : Hid (decide (a < i ∧ i < d) = true) := by show _ = _; simp [hA, hB]
                  go_wp2_with fail
                  go_meet
                  case rel => exact ⟨by rw [HAB.out], rfl⟩
                · have c1 : (a : Int) < i := by omega
                  have c2 : ¬ (i : Int) < d := by omega
                  have HAB : Hid (decide (a < i ∧ i < d) = false) := by show _ = _; simp [hB]
                  go_wp2_with fail
                  go_meet
                  case rel => exact ⟨by rw [HAB.out], rfl⟩
              · have c1 : ¬ (a : Int) < i := by omega
                have HAB : Hid (decide (a < i ∧ i < d) = false) := by show _ = _; simp [hA]
                go_wp2_with fail
                go_meet
                case rel => exact ⟨by rw [HAB.out], rfl⟩
            case rest =>
              obtain ⟨hv, rfl⟩ := hcut.out
              subst hv
              clear hcut
              go_upto_if 199 with fail
              go_cut [] from 199 to 205 (fun wx => Hid (Blk wx g 37 ((P ++ Srt.mg cmp X1 Y1 ++ X2 ++ Y2 ++ Q).map Rw.v ++ sp) ∧ w.grownBy wx (some g)))
              case first =>
                by_cases hAB : a < i ∧ i < d
                · have HR := Lib.hid (HI.out.at (w := w) HST.out.2 (P := P) (X := X1) (Y := Y1) (Q := X2 ++ Y2 ++ Q) (a := a) (m := i) (b := d) (R' := P ++ Srt.mg cmp X1 Y1 ++ X2 ++ Y2 ++ Q) (by rw [HE3.out, HE5.out]; exact hN1) (by rw [HE3.out]; omega) (by rw [HE5.out]; omega) HX1.out.1 HY1.out.1 HST.out.1 HC.out (HL1.out _ HP2.out).1 (HL1.out _ HP2.out).2 HAL.out (by rw [HE3.out]; omega) (by rw [HE5.out]; omega) (by simp) (by simp))
                  rw [decide_eq_true hAB]
                  go_wp2_with fail
                  refine (show Calls _ _ _ _ _ from HR.out).mono ?_
                  rintro e W ⟨rfl, hW⟩
                  have HW := Lib.hid hW
                  clear hW HR
                  go_wp2_with fail
                  go_meet
                  case rel => exact HW.out
                · have HW : Hid (Blk wc g 37 ((P ++ Srt.mg cmp X1 Y1 ++ X2 ++ Y2 ++ Q).map Rw.v ++ sp) ∧ w.grownBy wc (some g)) := by
                    show _ ∧ _
                    have h5 := HE5.out
                    have h3 := HE3.out
                    have := HST.out
                    by_cases hm : a < i
                    · obtain rfl : Y1 = [] := List.eq_nil_of_length_eq_zero (by omega)
                      rw [Srt.mg_nil_right]
                      simpa using this
                    · obtain rfl : X1 = [] := List.eq_nil_of_length_eq_zero (by omega)
                      rw [Srt.mg_nil_left]
                      simpa using this
                  rw [decide_eq_false hAB]
                  go_wp2_with fail
                  go_meet
                  case rel => exact HW.out
              case rest =>
                clear HST
                have HST := hcut
                clear hcut
                have HFIN : Hid (∀ W, Blk W g 37 ((P ++ Srt.mg cmp X1 Y1 ++ Srt.mg cmp X2 Y2 ++ Q).map Rw.v ++ sp) → w.grownBy W (some g) → SortsV w g cs (.returned (.tuple #[])) W) := fun W h1 h2 => ⟨rfl, by rw [← HFI.out]; exact h1, h2⟩
                go_upto_region 43 with fail
                go_cut [213] from 206 to 213 (fun v wx => Hid (v = .bool (decide (d < e ∧ e < b)) ∧ wc = wx))
                case first =>
                  by_cases hA : d < e
                  · by_cases hB : e < b
                    · have c1 : (d : Int) < e := by omega
                      have c2 : (e : Int) < b := by omega
                      have HAB : Hid (decide (d < e ∧ e < b) = true) := by show _ = _; simp [hA, hB]
                      go_wp2_with fail
                      go_meet
                      case rel => exact ⟨by rw [HAB.out], rfl⟩
                    · have c1 : (d : Int) < e := by omega
                      have c2 : ¬ (e : Int) < b := by omega
                      have HAB : Hid (decide (d < e ∧ e < b) = false) := by show _ = _; simp [hB]
                      go_wp2_with fail
                      go_meet
                      case rel => exact ⟨by rw [HAB.out], rfl⟩
                  · have c1 : ¬ (d : Int) < e := by omega
                    have HAB : Hid (decide (d < e ∧ e < b) = false) := by show _ = _; simp [hA]
                    go_wp2_with fail
                    go_meet
                    case rel => exact ⟨by rw [HAB.out], rfl⟩
                case rest =>
                  obtain ⟨hv, rfl⟩ := hcut.out
                  subst hv
                  clear hcut
                  go_upto_if 213 with fail
                  by_cases hAB : d < e ∧ e < b
                  · have HR := Lib.hid (HI.out.at (w := w) HST.out.2 (P := P ++ Srt.mg cmp X1 Y1) (X := X2) (Y := Y2) (Q := Q) (a := d) (m := e) (b := b) (by rw [HE4.out, HE6.out]; exact hN2) (by rw [HE4.out]; omega) (by rw [HE6.out]; omega) HX1.out.2 HY1.out.2 HST.out.1 HC.out (HL1.out _ HP3.out).1 (HL1.out _ HP3.out).2 HPM2.out (by rw [HE4.out]; omega) (by rw [HE6.out]; omega) rfl rfl)
                    rw [decide_eq_true hAB]
                    go_wp2_with fail
                    refine (show Calls _ _ _ _ _ from HR.out).mono ?_
                    rintro e W ⟨rfl, hW⟩
                    have HW := Lib.hid (HFIN.out W hW.1 hW.2)
                    clear hW HR
                    go_wp2_with fail
                    go_end0
                    exact HW.out
                  · have HW : Hid (SortsV w g cs (.returned (.tuple #[])) wc) := HFIN.out _ (by
                      have h6 := HE6.out
                      have h4 := HE4.out
                      have := HST.out.1
                      by_cases hm : d < e
                      · obtain rfl : Y2 = [] := List.eq_nil_of_length_eq_zero (by omega)
                        rw [Srt.mg_nil_right]
                        simpa using this
                      · obtain rfl : X2 = [] := List.eq_nil_of_length_eq_zero (by omega)
                        rw [Srt.mg_nil_left]
                        simpa using this) HST.out.2
                    rw [decide_eq_false hAB]
                    go_wp2_with fail
                    go_end0
                    exact HW.out
/-- Two sorted neighbouring ranges are merged. -/
theorem symV_any (g q n c : Nat) (cmp : Rw → Rw → Int) (ho : Srt.Ord cmp) (L : List Rw) (sp : List Value) (hlen : n ≤ 1000000) (hcap : n ≤ c) : ∀ N, SymV g q n c cmp L sp N
  | 0 => fun w P X Y Q a m b h1 h2 => by omega
  | N + 1 => fun w P X Y Q a m b h1 h2 h3 h4 h5 h6 h7 h8 h9 h10 h11 h12 => by
    by_cases hx : X.length = 1
    · obtain ⟨x, rfl⟩ := List.length_eq_one_iff.1 hx
      exact sym1V_any w g q n c a m b cmp ho L P Y Q x sp h5 h6 h7 h8 h9 hlen hcap h10 (by simpa using h11) h12
    · by_cases hy : Y.length = 1
      · obtain ⟨y, rfl⟩ := List.length_eq_one_iff.1 hy
        exact sym2V_any w g q n c a m b cmp ho L P X Q y sp h4 (by omega) h6 h7 h8 h9 hlen hcap h10 h11 (by simpa using h12)
      · exact symNV_any g q n c cmp ho L sp N (symV_any g q n c cmp ho L sp hlen hcap N) hlen hcap w P X Y Q a m b h1 (by omega) (by omega) h4 h5 h6 h7 h8 h9 h10 h11 h12
end Go.Proofs.YtpahkaffknnjhaaGreatDoor
end

section
/-
  Printed by mkinsv.py: the stable sorting of rows.
-/
namespace Go.Proofs.YtpahkaffknnjhaaGreatDoor
set_option linter.unusedSimpArgs false
set_option linter.unusedVariables false
open Go.RowKit
/-- Sorted block by block: insV_any with its numbers named. -/
theorem CmpsV.mono {w : World} {g q : Nat} {cmp : Rw → Rw → Int} {L M : List Rw} (h : CmpsV w g q cmp L) (hM : ∀ z ∈ M, z ∈ L) : CmpsV w g q cmp M := fun V hV x hx y hy => h V hV x (hM x hx) y (hM y hy)
theorem insV_at {w W : World} {g q c n a b : Nat} {cmp : Rw → Rw → Int} (ho : Srt.Ord cmp) {L P S Q R R' : List Rw} {sp : List Value} (hw : w.grownBy W (some g)) (hb : Blk W g 37 (R.map Rw.v ++ sp)) (hc : CmpsV w g q cmp L) (hL : ∀ z ∈ R, z ∈ L) (hn : R.length = n) (hlen : n ≤ 1000000) (hcap : n ≤ c) (ha : P.length = a) (hb2 : a + S.length = b) (hR : P ++ S ++ Q = R) (hR' : P ++ Srt.ssort cmp S ++ Q = R') :
    Calls Tryz.prog 172 #[.slice (some ⟨g, 0, none⟩) n c, .int .i64 (a : Int), .int .i64 (b : Int), .func (.func 117) #[] #[.pointer (some ⟨q, 0, none⟩)]] W
      (SortsV w g (R'.map Rw.v ++ sp)) := by
  subst hR hR' hn ha hb2
  exact (insV_any W g q c cmp ho P S Q sp hb ((hc.grown hw).mono hL) hlen hcap).mono fun e W' h => ⟨h.1, h.2.1, grown_trans hw h.2.2⟩
set_option maxRecDepth 100000 in
set_option maxHeartbeats 8000000 in
theorem stabV_any (w : World) (g q n c : Nat) (cmp : Rw → Rw → Int) (ho : Srt.Ord cmp) (L : List Rw) (sp : List Value) (hb : Blk w g 37 (L.map Rw.v ++ sp)) (hc : CmpsV w g q cmp L) (hn : L.length = n) (hlen : n ≤ 1000000) (hcap : n ≤ c) :
    Calls Tryz.prog 149 #[.slice (some ⟨g, 0, none⟩) n c, .int .i64 (n : Int), .func (.func 117) #[] #[.pointer (some ⟨q, 0, none⟩)]] w
      (SortsV w g ((Srt.ssort cmp L).map Rw.v ++ sp)) := by
  have HO := Lib.hid ho
  have HC := Lib.hid hc
  have HBK := Lib.hid hb
  have HN := Lib.hid hn
  have HLM : Hid (∀ R : List Rw, R.Perm L → (∀ z ∈ R, z ∈ L) ∧ R.length = n) := fun R hR => ⟨fun z hz => hR.mem_iff.1 hz, by rw [hR.length_eq, hn]⟩
  obtain ⟨cs, hcs⟩ : ∃ cs, (Srt.ssort cmp L).map Rw.v ++ sp = cs := ⟨_, rfl⟩
  rw [hcs]
  have HCS := Lib.hid hcs
  clear hb hc ho hn hcs
  go_enter Tryz.func149, Tryz.ntmps149
  go_wp2_with fail
  go_loopw [7, 8] (fun av bv wr => ∃ a : Nat, a ≤ n ∧ av = .int .i64 (a : Int) ∧ bv = .int .i64 ((a + 20 : Nat) : Int) ∧ Hid (∃ LD LR SD : List Rw, L = LD ++ LR ∧ LD.length = a ∧ Srt.Done cmp 20 SD LD ∧ Blk wr g 37 ((SD ++ LR).map Rw.v ++ sp) ∧ w.grownBy wr (some g))) (fun av _ _ => n - (intOf av).toNat)
  case atStart => exact ⟨0, Nat.zero_le _, by go_num, by go_num, [], L, [], rfl, rfl, Srt.Done.nil, HBK.out, grown_refl _ _⟩
  case round =>
    obtain ⟨a, han, rfl, rfl, HJ⟩ := hrel
    clear HBK
    obtain ⟨LD, LR, SD, e1, e2, e3, e4, e5⟩ := HJ.out
    clear HJ
    have hSD : SD.length = a := by rw [e3.len, e2]
    have hLR : a + LR.length = n := by have := HN.out; rw [e1, List.length_append] at this; omega
    have hP : (SD ++ LR).Perm L := by rw [e1]; exact e3.1.append_right _
    by_cases hlt : a + 20 ≤ n
    · have hii : ((a + 20 : Nat) : Int) ≤ (n : Int) := by omega
      have HR := Lib.hid (insV_at (q := q) (c := c) (n := n) (a := a) (b := a + 20) HO.out (P := SD) (S := LR.take 20) (Q := LR.drop 20) e5 e4 HC.out (HLM.out _ hP).1 (HLM.out _ hP).2 hlen hcap hSD (by rw [List.length_take]; omega) (by rw [List.append_assoc, List.take_append_drop]) rfl)
      have HNX : Hid (∀ W, Blk W g 37 ((SD ++ Srt.ssort cmp (LR.take 20) ++ LR.drop 20).map Rw.v ++ sp) → w.grownBy W (some g) → ∃ LD LR SD : List Rw, L = LD ++ LR ∧ LD.length = a + 20 ∧ Srt.Done cmp 20 SD LD ∧ Blk W g 37 ((SD ++ LR).map Rw.v ++ sp) ∧ w.grownBy W (some g)) := fun W h1 h2 =>
        ⟨LD ++ LR.take 20, LR.drop 20, SD ++ Srt.ssort cmp (LR.take 20), by rw [List.append_assoc, List.take_append_drop]; exact e1, by rw [List.length_append, List.length_take, e2]; omega, e3.more _ (by rw [List.length_take]; omega), h1, h2⟩
      clear e1 e2 e3 e4 e5 hSD hLR hP
      go_wp2_with fail
      refine (show Calls _ _ _ _ _ from HR.out).mono ?_
      rintro e W ⟨rfl, hW⟩
      have HW := Lib.hid (HNX.out W hW.1 hW.2)
      clear hW HR HNX
      go_wp2_with fail
      go_roundw
      case rel => exact ⟨a + 20, hlt, by go_num, by go_num, HW.out⟩
      case measure => simp [intOf]; omega
    · have hii : ¬ ((a + 20 : Nat) : Int) ≤ (n : Int) := by omega
      have HR := Lib.hid (insV_at (q := q) (c := c) (n := n) (a := a) (b := n) HO.out (P := SD) (S := LR) (Q := []) e5 e4 HC.out (HLM.out _ hP).1 (HLM.out _ hP).2 hlen hcap hSD hLR (by rw [List.append_nil]) rfl)
      have HNX : Hid (∀ W, Blk W g 37 ((SD ++ Srt.ssort cmp LR ++ []).map Rw.v ++ sp) → w.grownBy W (some g) → ∃ S : List Rw, Srt.Chk cmp 20 S L ∧ Blk W g 37 (S.map Rw.v ++ sp) ∧ w.grownBy W (some g)) := fun W h1 h2 =>
        ⟨SD ++ Srt.ssort cmp LR, by rw [e1]; exact e3.2 _ _ (.last _ (by omega)), by rw [List.append_nil] at h1; exact h1, h2⟩
      clear e1 e2 e3 e4 e5 hSD hLR hP
      go_wp2_with fail
      refine (show Calls _ _ _ _ _ from HR.out).mono ?_
      rintro e W ⟨rfl, hW⟩
      have HW := Lib.hid (HNX.out W hW.1 hW.2)
      clear hW HR HNX hii hlt han
      go_wp2_with fail
      go_loopw [6] (fun bv wr => ∃ bs : Nat, 20 ≤ bs ∧ bv = .int .i64 (bs : Int) ∧ Hid (∃ S : List Rw, Srt.Chk cmp bs S L ∧ Blk wr g 37 (S.map Rw.v ++ sp) ∧ w.grownBy wr (some g))) (fun bv _ => n - (intOf bv).toNat)
      case atStart => exact ⟨20, Nat.le_refl _, by go_num, HW.out⟩
      case round =>
        obtain ⟨bs, hbs, rfl, HJ⟩ := hrel
        clear HW
        by_cases hlt : bs < n
        · have hii : (bs : Int) < (n : Int) := by omega
          go_wp2_with fail
          go_loopw [7, 8] (fun av bv wr => ∃ a : Nat, a ≤ n ∧ av = .int .i64 (a : Int) ∧ bv = .int .i64 ((a + 2 * bs : Nat) : Int) ∧ Hid (∃ LD LR SD SR : List Rw, L = LD ++ LR ∧ LD.length = a ∧ Srt.Done cmp (2 * bs) SD LD ∧ Srt.Chk cmp bs SR LR ∧ Blk wr g 37 ((SD ++ SR).map Rw.v ++ sp) ∧ w.grownBy wr (some g))) (fun av _ _ => n - (intOf av).toNat)
          case atStart =>
            obtain ⟨S, e1, e2, e3⟩ := HJ.out
            exact ⟨0, Nat.zero_le _, by go_num, by go_num, [], L, [], S, rfl, rfl, Srt.Done.nil, e1, e2, e3⟩
          case round =>
            obtain ⟨a, han, rfl, rfl, HJ⟩ := hrel
            obtain ⟨LD, LR, SD, SR, e1, e2, e3, e4, e5, e6⟩ := HJ.out
            clear HJ
            have hSD : SD.length = a := by rw [e3.len, e2]
            have hLR : a + LR.length = n := by have := HN.out; rw [e1, List.length_append] at this; omega
            have hP : (SD ++ SR).Perm L := by rw [e1]; exact e3.1.append e4.perm
            by_cases hle : a + 2 * bs ≤ n
            · have hij : ((a + 2 * bs : Nat) : Int) ≤ (n : Int) := by omega
              obtain ⟨B1, S1, L1, b1, rfl, rfl, c1⟩ := e4.cut (by omega)
              rw [List.length_append] at hLR
              obtain ⟨B2, S2, L2, b2, rfl, rfl, c2⟩ := c1.cut (by omega)
              obtain ⟨m, hm⟩ : ∃ m : Nat, (a : Int) + (bs : Int) = (m : Int) := ⟨a + bs, by omega⟩
              have hm2 : a + bs = m := by omega
              have HR := Lib.hid ((symV_any g q n c cmp HO.out L sp hlen hcap _).at (w := w) e6 (P := SD) (X := Srt.ssort cmp B1) (Y := Srt.ssort cmp B2) (Q := S2) (a := a) (m := m) (b := a + 2 * bs) (R' := (SD ++ Srt.ssort cmp (B1 ++ B2)) ++ S2) (Nat.le_refl _) (by rw [Srt.ssort_length]; omega) (by rw [Srt.ssort_length]; omega) (Srt.ssort_sorted HO.out _) (Srt.ssort_sorted HO.out _) e5 HC.out (HLM.out _ hP).1 (HLM.out _ hP).2 hSD (by rw [Srt.ssort_length]; omega) (by rw [Srt.ssort_length]; omega) (by simp) (by rw [Srt.ssort_append HO.out]))
              have HNX : Hid (∀ W, Blk W g 37 (((SD ++ Srt.ssort cmp (B1 ++ B2)) ++ S2).map Rw.v ++ sp) → w.grownBy W (some g) → ∃ LD LR SD SR : List Rw, L = LD ++ LR ∧ LD.length = a + 2 * bs ∧ Srt.Done cmp (2 * bs) SD LD ∧ Srt.Chk cmp bs SR LR ∧ Blk W g 37 ((SD ++ SR).map Rw.v ++ sp) ∧ w.grownBy W (some g)) := fun W h1 h2 =>
                ⟨LD ++ (B1 ++ B2), L2, SD ++ Srt.ssort cmp (B1 ++ B2), S2, by rw [e1]; simp, by simp; omega, e3.more _ (by simp; omega), c2, h1, h2⟩
              clear e1 e2 e3 e4 e5 e6 hSD hLR hP b1 b2 c1 c2
              go_wp2_with fail
              refine (show Calls _ _ _ _ _ from HR.out).mono ?_
              rintro e W ⟨rfl, hW⟩
              have HW := Lib.hid (HNX.out W hW.1 hW.2)
              clear hW HR HNX hm
              go_wp2_with fail
              go_roundw
              case rel => exact ⟨a + 2 * bs, hle, by go_num, by go_num, HW.out⟩
              case measure => simp [intOf]; omega
            · have hij : ¬ ((a + 2 * bs : Nat) : Int) ≤ (n : Int) := by omega
              obtain ⟨m, hm⟩ : ∃ m : Nat, (a : Int) + (bs : Int) = (m : Int) := ⟨a + bs, by omega⟩
              have hm2 : a + bs = m := by omega
              by_cases hmn : m < n
              · have hmi : (m : Int) < (n : Int) := by omega
                obtain ⟨B1, S1, L1, b1, rfl, rfl, c1⟩ := e4.cut (by omega)
                rw [List.length_append] at hLR
                obtain rfl := c1.small (by omega)
                have HR := Lib.hid ((symV_any g q n c cmp HO.out L sp hlen hcap _).at (w := w) e6 (P := SD) (X := Srt.ssort cmp B1) (Y := Srt.ssort cmp L1) (Q := []) (a := a) (m := m) (b := n) (R' := SD ++ Srt.ssort cmp (B1 ++ L1)) (Nat.le_refl _) (by rw [Srt.ssort_length]; omega) (by rw [Srt.ssort_length]; omega) (Srt.ssort_sorted HO.out _) (Srt.ssort_sorted HO.out _) e5 HC.out (HLM.out _ hP).1 (HLM.out _ hP).2 hSD (by rw [Srt.ssort_length]; omega) (by rw [Srt.ssort_length]; omega) (by simp) (by rw [Srt.ssort_append HO.out, List.append_nil]))
                have HNX : Hid (∀ W, Blk W g 37 ((SD ++ Srt.ssort cmp (B1 ++ L1)).map Rw.v ++ sp) → w.grownBy W (some g) → ∃ S : List Rw, Srt.Chk cmp (2 * bs) S L ∧ Blk W g 37 (S.map Rw.v ++ sp) ∧ w.grownBy W (some g)) := fun W h1 h2 =>
                  ⟨SD ++ Srt.ssort cmp (B1 ++ L1), by rw [e1]; exact e3.2 _ _ (.last _ (by simp; omega)), h1, h2⟩
                clear e1 e2 e3 e4 e5 e6 hSD hLR hP b1 c1
                go_wp2_with fail
                refine (show Calls _ _ _ _ _ from HR.out).mono ?_
                rintro e W ⟨rfl, hW⟩
                have HW := Lib.hid (HNX.out W hW.1 hW.2)
                clear hW HR HNX hm
                go_wp2_with fail
                go_roundw
                case rel => exact ⟨2 * bs, by omega, by go_num, HW.out⟩
                case measure => simp [intOf]; omega
              · have hmi : ¬ (m : Int) < (n : Int) := by omega
                obtain rfl := e4.small (by omega)
                have HW : Hid (∃ S : List Rw, Srt.Chk cmp (2 * bs) S L ∧ Blk wr g 37 (S.map Rw.v ++ sp) ∧ w.grownBy wr (some g)) :=
                  ⟨_, by rw [e1]; exact e3.2 _ _ (.last _ (by omega)), e5, e6⟩
                clear e1 e2 e3 e4 e5 e6 hSD hLR hP
                go_wp2_with fail
                clear hm
                go_roundw
                case rel => exact ⟨2 * bs, by omega, by go_num, HW.out⟩
                case measure => simp [intOf]; omega
        · have hii : ¬ (bs : Int) < (n : Int) := by omega
          have HF : Hid (SortsV w g cs (.returned (.tuple #[])) wr) := by
            obtain ⟨S, e1, e2, e3⟩ := HJ.out
            obtain rfl := e1.small (by have := HN.out; omega)
            exact ⟨rfl, by rw [← HCS.out]; exact e2, e3⟩
          go_wp2_with fail
          go_end0
          exact HF.out
set_option maxRecDepth 100000 in
set_option maxHeartbeats 8000000 in
theorem stableV_any (w : World) (g q n c : Nat) (cmp : Rw → Rw → Int) (ho : Srt.Ord cmp) (L : List Rw) (sp : List Value) (hb : Blk w g 37 (L.map Rw.v ++ sp)) (hc : CmpsV w g q cmp L) (hn : L.length = n) (hlen : n ≤ 1000000) (hcap : n ≤ c) :
    Calls Tryz.prog 116 #[.slice (some ⟨g, 0, none⟩) n c, .func (.func 117) #[] #[.pointer (some ⟨q, 0, none⟩)]] w
      (SortsV w g ((Srt.ssort cmp L).map Rw.v ++ sp)) := by
  have HR := Lib.hid (stabV_any w g q n c cmp ho L sp hb hc hn hlen hcap)
  obtain ⟨cs, hcs⟩ : ∃ cs, (Srt.ssort cmp L).map Rw.v ++ sp = cs := ⟨_, rfl⟩
  rw [hcs] at HR ⊢
  clear hb hc ho hn hcs
  go_enter Tryz.func116, Tryz.ntmps116
  go_wp2_with fail
  refine (show Calls _ _ _ _ _ from HR.out).mono ?_
  rintro e W ⟨rfl, hW⟩
  have HW := Lib.hid hW
  clear hW HR
  go_wp2_with fail
  go_end0
  exact ⟨rfl, HW.out⟩
end Go.Proofs.YtpahkaffknnjhaaGreatDoor
end

section
/-
  The contracts of what eval's groups and Answer call: a group's first row, Clip, Clone, what compares.
-/
namespace Go.Proofs.YtpahkaffknnjhaaGreatDoor
set_option linter.unusedSimpArgs false
set_option linter.unusedVariables false
open Go.RowKit

/-- Groups. -/
def eGr : Elem Gr where
  e := 126
  t := 123
  sz := 1
  bytes := 24
  zero := .agg #[.slice none 0 0]
  code := fun x => [x.h]
  pos := by decide
  few := by decide
  len := fun _ => rfl
  one := by
    intro x u hu
    simp at hu
    subst hu
    rfl
  zsz := rfl
  info := by kernel_rfl
  under := Tryz.underlying123
theorem cells_gr (L : List Gr) : eGr.cells L = L.map Gr.h := by induction L with
  | nil => rfl
  | cons x L ih => show [x.h] ++ eGr.cells L = _; rw [ih]; rfl
theorem cells_rw (L : List Rw) : eRw.cells L = L.map Rw.v := by induction L with
  | nil => rfl
  | cons x L ih => show [x.v] ++ eRw.cells L = _; rw [ih]; rfl
section
variable {α : Type} {E : Elem α} {w : World} {B c g : Nat} {L : List α}
theorem EOwn.toBlk (h : EOwn E w B (some ⟨g, 0, none⟩) c L) : ∃ sp, Blk w g E.e (E.cells L ++ sp) ∧ (E.cells L ++ sp).length = c * E.sz ∧ B ≤ g ∧ L.length ≤ c ∧ c ≤ maxLen := by
  obtain ⟨hl, h | ⟨g', cap, cur, hv, hB, hg, h1, h2, h3, h4⟩⟩ := h
  · exact absurd h.1 (by simp)
  · obtain ⟨rfl, rfl⟩ : g = g' ∧ c = cap := by simpa using hv
    refine ⟨cur.toList.drop (L.length * E.sz), ?_, ?_, hB, h1, h2⟩
    · rw [← h4, List.take_append_drop]
      show _ = some _
      rw [hg]
    · rw [← h4, List.take_append_drop]
      simpa using h3
theorem EOwn.ofBlk {sp : List Value} (hb : Blk w g E.e (E.cells L ++ sp)) (hl : (E.cells L ++ sp).length = c * E.sz) (h1 : L.length ≤ c) (h2 : c ≤ maxLen) (hB : B ≤ g) : EOwn E w B (some ⟨g, 0, none⟩) c L := by
  refine ⟨E.cells_length L, .inr ⟨g, c, (E.cells L ++ sp).toArray, rfl, hB, hb, h1, h2, by simpa using hl, ?_⟩⟩
  show (E.cells L ++ sp).take _ = _
  rw [← E.cells_length L, List.take_left]
/-- append to a row without room: the row is a new one. -/
theorem wpList_append_full (E : Elem α) {w : World} {A : Option Addr} {L M : List α} {c' : Nat} {ops : Array Oper} {rest : List Oper} {o : Oper} {a : Act} {Q : Exit → Act → World → Prop} (hgd : o.guard = none) (s x : Operand)
    (hop : o.op = .call { callee := .builtin .append, args := #[s, x], argTypes := #[E.t, E.t] })
    (n : Nat) (hs : a.eval s = .slice A n n) (ho : ERow E w A L) (hn : n = L.length) (k : Nat) (ad : Addr) (hx : a.eval x = .slice (some ad) k c') (hr : ERow E w (some ad) M) (hk : k = M.length) (hk0 : 0 < k)
    (hb : L.length + M.length ≤ 1073741824) (hnone : A = none → L.length = 0)
    (h : ∀ A1 c1 w1, EOwn E w1 w.heap.size A1 c1 (L ++ M) → Below w.heap.size w w1 →
      wpList Tryz.prog ops Q rest (a.put o.dst (.slice A1 (L.length + M.length) c1)) w1) : wpList Tryz.prog ops Q (o :: rest) a w := by
  subst hn hk
  obtain ⟨i, hi, hz, hsi, hby⟩ := info_parts E.info
  have hbig : (L.length + M.length) * E.bytes ≤ 140737488355328 := by
    have h1 := Nat.mul_le_mul hb E.few
    omega
  refine wpList_append_grows (P := Tryz.prog) w hgd s x E.t hop E.e i E.zero E.sz E.bytes E.under hi hz hsi hby E.zsz E.pos A L.length L.length (E.cells L) hs (fun e => ⟨hnone e, hnone e⟩) (E.cells_length L) ?_ ad M.length c' (E.cells M) hx (E.cells_length M) ?_ (E.cells_one M) (by omega) (by simp [maxLen]; omega) hbig ?_
  · rintro b rfl j u hu
    have hj := (List.getElem?_eq_some_iff.1 hu).1
    rw [E.cells_length] at hj
    obtain ⟨b', o', e, _, hc⟩ := ho (by
      rcases Nat.eq_zero_or_pos L.length with h0 | h0
      · rw [h0] at hj; simp at hj
      · exact h0)
    obtain rfl := Option.some.inj e
    rw [Addr.add_lit]
    exact hc j u hu
  · intro j u hu
    obtain ⟨b', o', e, _, hc⟩ := hr hk0
    obtain rfl := Option.some.inj e
    rw [Addr.add_lit]
    exact hc j u hu
  · intro v' w' hown hgr
    obtain ⟨A1, c1, rfl⟩ := own_slice hown
    have : EOwn E w' w.heap.size A1 c1 (L ++ M) := by
      unfold EOwn
      rw [E.cells_append, List.length_append]
      exact hown
    exact h A1 c1 w' this ⟨hgr.os, hgr.tape, hgr.output, hgr.size, fun k hk => hgr.block k hk (by simp)⟩
end
set_option maxRecDepth 20000 in
theorem clip_any (w : World) (A : Option Addr) (n c : Nat) (hn : n ≤ c) (hm : c ≤ maxLen) : Calls Tryz.prog 118 #[.slice A n c] w fun e w' => e = .returned (.slice A n n) ∧ w = w' := by
  have hmm : (n : Int) ≤ 9223372036854775807 := by unfold maxLen at hm; omega
  go_enter Tryz.func118, Tryz.ntmps118
  go_wp2_with fail
  go_ret
  exact ⟨rfl, rfl⟩
set_option maxRecDepth 20000 in
set_option maxHeartbeats 1000000 in
theorem first_any (w : World) (r : Gr) (h : RowsOk w r.a r.l) : Calls Tryz.prog 78 #[r.v] w fun e w' => e = .returned (Ev.firstR r.l).v ∧ Below w.heap.size w w' := by
  have HL := Lib.hid h
  clear h
  show Calls _ _ #[.agg #[r.h]] _ _
  go_enter Tryz.func78, Tryz.ntmps78
  go_upto_region 1 with fail
  generalize hW1 : World.alloc w (.cells _ _) = W1
  obtain ⟨ba1, hz1, hB1⟩ := fresh1 hW1
  clear hW1
  have HL1 := Lib.hid (HL.out.below hB1)
  have HB1 := Lib.hid hB1
  have q0 := ba1.cell 0
  simp only [List.getElem?_cons_zero] at q0
  clear hB1 ba1 hz1 HL
  obtain ⟨A, L, c⟩ := r
  unfold Gr.h at q0
  cases L with
  | nil =>
    go_wp2_with fail
    go_ret
    exact ⟨rfl, HB1.out⟩
  | cons x L =>
    obtain ⟨bb, oo, rfl, hbl, q1⟩ := rw_at HL1.out.r (j := 0) (by simp)
    rw [Nat.add_zero] at q1
    simp only [List.getElem_cons_zero] at q1
    have hx : (((x :: L).length : Int) == 0) = false := by simp; omega
    have hl1 : (0 : Int) < ((x :: L).length : Int) := by simp
    obtain ⟨n, hn⟩ : ∃ n, (x :: L).length = n := ⟨_, rfl⟩
    simp only [hn] at q0 hx hl1
    clear hn
    go_wp2_with fail
    go_ret
    exact ⟨rfl, HB1.out⟩
set_option maxRecDepth 20000 in
set_option maxHeartbeats 1000000 in
/-- What compares rows: the order's place is told by a variable's block. -/
theorem gcmp_any (w : World) (q : Nat) (A : Option Addr) (l : List So) (c : Nat) (hq : Blk w q 24 [.slice A l.length c]) (hl : ERow eSo w A l) (hin : ∀ s ∈ l, Ev.inB s.at_) (hll : l.length ≤ 9223372036854775807) (x y : Rw) (hx : RowOk w x.a x.l) (hy : RowOk w y.a y.l) :
    Calls Tryz.prog 117 #[x.v, y.v, .pointer (some ⟨q, 0, none⟩)] w fun e w' => e = .returned (.int .i64 (Ev.rcmp l x y)) ∧ Below w.heap.size w w' := by
  have HO := Lib.hid (pordr_any w A x.a y.a c x.c y.c l x.l y.l hl hin hll hx hy)
  obtain ⟨q0, q1, q2⟩ := Blk.c1 hq
  clear hq hl hin hx hy
  go_enter Tryz.func117, Tryz.ntmps117
  go_wp2_with fail
  refine (show Calls _ _ _ _ _ from HO.out).mono ?_
  rintro e W ⟨rfl, hB⟩
  have HB := Lib.hid hB
  clear hB q0 q1 q2 HO
  go_wp2_with fail
  go_ret
  exact ⟨rfl, HB.out⟩
theorem RowsOk.first {w : World} {A : Option Addr} {L : List Rw} (h : RowsOk w A L) : RowOk w (Ev.firstR L).a (Ev.firstR L).l := by
  cases L with
  | nil => exact ⟨ERow.nil, (by intro v hv; cases hv), Nat.zero_le _⟩
  | cons x L => exact h.in_ x (by simp)
set_option maxRecDepth 20000 in
set_option maxHeartbeats 2000000 in
/-- What compares groups. -/
theorem acmp_any (w : World) (q : Nat) (T : TypeId) (cs : List Value) (A : Option Addr) (l : List So) (c : Nat) (hq : Blk w q T cs) (hq7 : cs[7]? = some (.slice A l.length c)) (hl : ERow eSo w A l) (hin : ∀ s ∈ l, Ev.inB s.at_) (hll : l.length ≤ 9223372036854775807) (x y : Gr) (hx : RowsOk w x.a x.l) (hy : RowsOk w y.a y.l) :
    Calls Tryz.prog 76 #[x.v, y.v, .pointer (some ⟨q, 0, none⟩)] w fun e w' => e = .returned (.int .i64 (Ev.gcmp l x.l y.l)) ∧ Below w.heap.size w w' := by
  have HX := Lib.hid hx
  have HY := Lib.hid hy
  have HL := Lib.hid hl
  have HIN := Lib.hid hin
  have HQ : Hid (∀ W, Below w.heap.size w W → W.cell? ⟨q, 7, none⟩ = some (.slice A l.length c)) := fun W hW => by rw [(hq.below hW).cell, hq7]
  clear hq hq7 hl hin hx hy
  show Calls _ _ #[.agg #[x.h], .agg #[y.h], _] _ _
  go_enter Tryz.func76, Tryz.ntmps76
  go_upto_region 1 with fail
  generalize hW1 : ((World.alloc w (.cells _ _)).alloc (.cells _ _)) = W1
  obtain ⟨ba1, bb1, hz1, hB1⟩ := fresh2 hW1
  clear hW1
  have HB1 := Lib.hid hB1.drewR
  have q7 := HQ.out _ HB1.out
  have q0 := ba1.drew.cell 0
  have q1 := bb1.drew.cell 0
  simp only [List.getElem?_cons_zero] at q0 q1
  clear hB1 ba1 bb1 hz1
  refine wp_region_plan (.take 0 (.take 1 (.take 2 (.take 4 (.run 3 [0, 1, 4] (.run 5 [0, 1] (.run 6 [] (.take 7 .fin)))))))) (by kernel_rfl) (by kernel_rfl) (by kernel_rfl) (by kernel_rfl) ?_
  repeat' (first | (refine hZ _ _ ?_; clear hZ) | (refine hZ _ ?_; clear hZ) | (refine hZ ?_; clear hZ) | rw [again_nil] | rw [walk_fin] | ((first | rw [walk_take] | rw [walk_run] | rw [again_cons]); intro Z hZ; simp only [sel, List.getElem?_toArray, List.getElem?_cons_zero, List.getElem?_cons_succ]; go_wp2_with (fail)))
  refine (show Calls _ _ #[.agg #[x.h]] _ _ from first_any _ x (HX.out.below HB1.out)).mono ?_
  rintro e W2 ⟨rfl, hB2⟩
  have HB2 := Lib.hid (HB1.out.trans (hB2.mono HB1.out.size))
  have q1' := cell_later hB2 q1
  have q7' := HQ.out _ HB2.out
  clear hB2 q0 q1 q7
  go_wp2_with fail
  repeat' (first | (refine hZ _ _ ?_; clear hZ) | (refine hZ _ ?_; clear hZ) | (refine hZ ?_; clear hZ) | rw [again_nil] | rw [walk_fin] | ((first | rw [walk_take] | rw [walk_run] | rw [again_cons]); intro Z hZ; simp only [sel, List.getElem?_toArray, List.getElem?_cons_zero, List.getElem?_cons_succ]; go_wp2_with (fail)))
  refine (show Calls _ _ #[.agg #[y.h]] _ _ from first_any _ y (HY.out.below HB2.out)).mono ?_
  rintro e W3 ⟨rfl, hB3⟩
  have HB3 := Lib.hid (HB2.out.trans (hB3.mono HB2.out.size))
  have q7'' := HQ.out _ HB3.out
  clear hB3 q1' q7'
  go_wp2_with fail
  repeat' (first | (refine hZ _ _ ?_; clear hZ) | (refine hZ _ ?_; clear hZ) | (refine hZ ?_; clear hZ) | rw [again_nil] | rw [walk_fin] | ((first | rw [walk_take] | rw [walk_run] | rw [again_cons]); intro Z hZ; simp only [sel, List.getElem?_toArray, List.getElem?_cons_zero, List.getElem?_cons_succ]; go_wp2_with (fail)))
  refine (pordr_any _ A _ _ c (Ev.firstR x.l).c (Ev.firstR y.l).c l (Ev.firstR x.l).l (Ev.firstR y.l).l (HL.out.below HB3.out) HIN.out hll (HX.out.below HB3.out).first (HY.out.below HB3.out).first).mono ?_
  rintro e W4 ⟨rfl, hB4⟩
  have HB4 := Lib.hid (HB3.out.trans (hB4.mono HB3.out.size))
  clear hB4
  go_wp2_with fail
  repeat' (first | (refine hZ _ _ ?_; clear hZ) | (refine hZ _ ?_; clear hZ) | (refine hZ ?_; clear hZ) | rw [again_nil] | rw [walk_fin] | ((first | rw [walk_take] | rw [walk_run] | rw [again_cons]); intro Z hZ; simp only [sel, List.getElem?_toArray, List.getElem?_cons_zero, List.getElem?_cons_succ]; go_wp2_with (fail)))
  go_wp2_with fail
  go_ret
  exact ⟨rfl, HB4.out⟩
set_option maxRecDepth 20000 in
set_option maxHeartbeats 1000000 in
theorem rclone_any (w : World) (A : Option Addr) (c : Nat) (L : List Rw) (hr : ERow eRw w A L) (hl : L.length ≤ 1000000) :
    Calls Tryz.prog 115 #[.slice A L.length c] w fun e w' => ∃ A1 c1, e = .returned (.slice A1 L.length c1) ∧ EOwn eRw w' w.heap.size A1 c1 L ∧ Below w.heap.size w w' := by
  cases A with
  | none =>
    have hl0 : L = [] := by
      cases L with
      | nil => rfl
      | cons x l => obtain ⟨b, o, h, _⟩ := hr (by simp); cases h
    subst hl0
    have hq := Lib.run_eql_slice_nil (P := Tryz.prog) w 43 37 none 0 c 0 0 Tryz.underlying43
    go_enter Tryz.func115, Tryz.ntmps115
    go_wp2_with fail
    go_ret
    exact ⟨none, 0, rfl, EOwn.nil _ _, Below.refl _ _⟩
  | some a =>
    have hq := Lib.run_eql_slice_nil (P := Tryz.prog) w 43 37 (some a) L.length c 0 0 Tryz.underlying43
    have hoe : EOwn eRw (w.alloc (.cells #[] 37)) w.heap.size (some ⟨w.heap.size, 0, none⟩) 0 [] := EOwn.new w [] (by simp [maxLen]) (Nat.le_refl _) #[] rfl
    have hrr : ERow eRw (w.alloc (.cells #[] 37)) (some a) L := hr.below ((Below.refl _ _).alloc (Nat.le_refl _) _)
    go_enter Tryz.func115, Tryz.ntmps115
    go_wp2_with (at_builtin; refine wpList_append_elems eRw rfl (.tmp 5) (.tmp 6) rfl 0 rfl hoe rfl _ rfl hrr rfl (by simp; omega) (by simp) ?_; intro A3 c3 w3 ho3 hb3 _ _)
    go_ret
    rw [List.nil_append] at ho3
    exact ⟨A3, c3, by simp, ho3, ((Below.refl _ _).alloc (Nat.le_refl _) _).trans hb3⟩
end Go.Proofs.YtpahkaffknnjhaaGreatDoor
end

section
/-
  A source in memory, as it lies in memory: its tables, its keys.
-/
namespace Go.Proofs.YtpahkaffknnjhaaGreatDoor
set_option linter.unusedSimpArgs false
set_option linter.unusedVariables false
open Go.RowKit

/-- Slices of bytes as elements. -/
def eKy : Elem Part where
  e := 32
  t := 77
  sz := 1
  bytes := 24
  zero := .slice none 0 0
  code := fun p => [p.v]
  pos := by decide
  few := by decide
  len := fun _ => rfl
  one := by
    intro x u hu
    simp at hu
    subst hu
    rfl
  zsz := rfl
  info := by kernel_rfl
  under := Tryz.underlying77
/-- The keys of an index, as their slice's header tells it. -/
structure Ks where
  a : Option Addr
  l : List Part
  c : Nat
instance : Inhabited Ks := ⟨⟨none, [], 0⟩⟩
def Ks.h (k : Ks) : Value := .slice k.a k.l.length k.c
def eKs : Elem Ks where
  e := 77
  t := 73
  sz := 1
  bytes := 24
  zero := .slice none 0 0
  code := fun x => [x.h]
  pos := by decide
  few := by decide
  len := fun _ => rfl
  one := by
    intro x u hu
    simp at hu
    subst hu
    rfl
  zsz := rfl
  info := by kernel_rfl
  under := Tryz.underlying73
/-- Tables, as rows of rows. -/
def eT3 : Elem Gr where
  e := 43
  t := 27
  sz := 1
  bytes := 24
  zero := .slice none 0 0
  code := fun x => [x.h]
  pos := by decide
  few := by decide
  len := fun _ => rfl
  one := by
    intro x u hu
    simp at hu
    subst hu
    rfl
  zsz := rfl
  info := by kernel_rfl
  under := Tryz.underlying27
/-- A block of elements of one type. -/
def isK (w : World) (T : TypeId) (g : Nat) : Prop := ∃ cur fr, w.heap[g]? = some (.cells cur T fr)
theorem isK.one {w : World} {T T' : TypeId} {g : Nat} (h : isK w T g) (h' : isK w T' g) : T = T' := by
  obtain ⟨_, _, h⟩ := h
  obtain ⟨_, _, h'⟩ := h'
  rw [h] at h'
  simp only [Option.some.injEq, Obj.cells.injEq] at h'
  exact h'.2.1
theorem EOwn.kind {α : Type} {E : Elem α} {w : World} {B c : Nat} {A : Option Addr} {L : List α} (h : EOwn E w B A c L) : ∀ a, A = some a → isK w E.e a.block := by
  intro a ha
  rcases h.form with ⟨rfl, _⟩ | ⟨g, rfl, _, _, _, _, cur, hc⟩
  · cases ha
  · obtain rfl := Option.some.inj ha
    exact ⟨cur, _, hc⟩
theorem BOwn.kind {w : World} {B c : Nat} {A : Option Addr} {l : List UInt8} (h : BOwn w B A c l) : ∀ a, A = some a → isK w 5 a.block := by
  intro a ha
  rcases h.2 with ⟨hv, -⟩ | ⟨g, cap, cur, hv, -, hg, -⟩
  · simp only [Value.slice.injEq] at hv
    rw [hv.1] at ha
    cases ha
  · simp only [Value.slice.injEq] at hv
    obtain rfl := Option.some.inj (hv.1.symm.trans ha)
    exact ⟨cur, _, hg⟩
theorem Blk.kind {w : World} {g : Nat} {T : TypeId} {cs : List Value} (h : Blk w g T cs) : isK w T g := ⟨_, _, h⟩
/-- The block that is turned is of another type. -/
theorem EOwn.apart {α : Type} {E : Elem α} {w w' : World} {B c : Nat} {A : Option Addr} {L : List α} (h : EOwn E w B A c L) {row : Option Nat} {T : TypeId} (hg : w.grownBy w' row) (hr : ∀ x, row = some x → isK w T x) (hT : E.e ≠ T) : EOwn E w' B A c L := by
  refine h.kept hg ?_
  cases A with
  | none => exact .inl rfl
  | some a =>
    refine .inr fun e => hT ?_
    exact (h.kind a rfl).one (hr _ e.symm)
theorem BOwn.apart {w w' : World} {B c : Nat} {A : Option Addr} {l : List UInt8} (h : BOwn w B A c l) {row : Option Nat} {T : TypeId} (hg : w.grownBy w' row) (hr : ∀ x, row = some x → isK w T x) (hT : 5 ≠ T) : BOwn w' B A c l := by
  refine h.kept hg ?_
  cases A with
  | none => exact .inl rfl
  | some a =>
    refine .inr fun e => hT ?_
    exact (h.kind a rfl).one (hr _ e.symm)
theorem EOwn.turns {α : Type} {E : Elem α} {w : World} {B c : Nat} {A : Option Addr} {L : List α} (h : EOwn E w B A c L) : ∀ x, A.map (·.block) = some x → isK w E.e x := by
  intro x hx
  cases A with
  | none => cases hx
  | some a => obtain rfl := Option.some.inj hx; exact h.kind a rfl
theorem BRow.keepX {w w' : World} {A : Option Addr} {l : List UInt8} (h : BRow w A l) (hs : w.heap.size ≤ w'.heap.size) (hk : l ≠ [] → ∀ a, A = some a → w'.heap[a.block]? = w.heap[a.block]?) : BRow w' A l := fun hl => by
  obtain ⟨b, o, rfl, hlt, hc⟩ := h hl
  exact ⟨b, o, rfl, Nat.lt_of_lt_of_le hlt hs, fun j hj => (World.cell?_of_block (a := ⟨b, o + j, none⟩) (hk (by rintro rfl; simp at hl) ⟨b, o, none⟩ rfl)).trans (hc j hj)⟩
/-- Rows of values of the call's own. -/
structure RwOwn (B : Nat) (W : World) (A : Option Addr) (c : Nat) (R : List Rw) : Prop where
  own : EOwn eRw W B A c R
  rows : ∀ r ∈ R, EOwn eVa W B r.a r.c r.l
namespace RwOwn
variable {B c : Nat} {W W' : World} {A : Option Addr} {R : List Rw}
theorem start : RwOwn B W none 0 [] := ⟨EOwn.nil _ _, by intro r hr; cases hr⟩
theorem below (h : RwOwn B W A c R) (hB : Below W.heap.size W W') : RwOwn B W' A c R := ⟨h.own.below hB, fun r hr => (h.rows r hr).below hB⟩
theorem mono {B' : Nat} (h : RwOwn B W A c R) (hB : B' ≤ B) : RwOwn B' W A c R := ⟨h.own.mono hB, fun r hr => (h.rows r hr).mono hB⟩
theorem apart (h : RwOwn B W A c R) {row : Option Nat} {T : TypeId} (hg : W.grownBy W' row) (hr : ∀ x, row = some x → isK W T x) (h1 : 37 ≠ T) (h2 : 64 ≠ T) : RwOwn B W' A c R :=
  ⟨h.own.apart hg hr h1, fun r hx => (h.rows r hx).apart hg hr h2⟩
/-- A row more. -/
theorem one (h : RwOwn B W A c R) {r : Rw} (hr : EOwn eVa W B r.a r.c r.l) {A3 : Option Addr} {c3 : Nat} (ho3 : EOwn eRw W' B A3 c3 (R ++ [r])) (hg : W.grownBy W' (A.map (·.block))) : RwOwn B W' A3 c3 (R ++ [r]) := by
  refine ⟨ho3, fun s hs => ?_⟩
  have hk := h.own.turns
  rcases List.mem_append.1 hs with hs | hs
  · exact (h.rows s hs).apart hg hk (by decide)
  · rw [List.mem_singleton.1 hs]; exact hr.apart hg hk (by decide)
end RwOwn
/-- Keys of the call's own. -/
structure KyOwn (B : Nat) (W : World) (A : Option Addr) (c : Nat) (P : List Part) : Prop where
  own : EOwn eKy W B A c P
  rows : ∀ p ∈ P, BOwn W B p.a p.c p.l
namespace KyOwn
variable {B c : Nat} {W W' : World} {A : Option Addr} {P : List Part}
theorem start : KyOwn B W none 0 [] := ⟨EOwn.nil _ _, by intro r hr; cases hr⟩
theorem below (h : KyOwn B W A c P) (hB : Below W.heap.size W W') : KyOwn B W' A c P := ⟨h.own.below hB, fun r hr => (h.rows r hr).below hB⟩
theorem mono {B' : Nat} (h : KyOwn B W A c P) (hB : B' ≤ B) : KyOwn B' W A c P := ⟨h.own.mono hB, fun r hr => (h.rows r hr).mono hB⟩
theorem apart (h : KyOwn B W A c P) {row : Option Nat} {T : TypeId} (hg : W.grownBy W' row) (hr : ∀ x, row = some x → isK W T x) (h1 : 32 ≠ T) (h2 : 5 ≠ T) : KyOwn B W' A c P :=
  ⟨h.own.apart hg hr h1, fun r hx => (h.rows r hx).apart hg hr h2⟩
/-- The row of keys turned, the keys themselves not. -/
theorem turn (h : KyOwn B W A c P) {P' : List Part} (hp : ∀ p ∈ P', p ∈ P) {A3 : Option Addr} {c3 : Nat} (ho3 : EOwn eKy W' B A3 c3 P') (hg : W.grownBy W' (A.map (·.block))) : KyOwn B W' A3 c3 P' :=
  ⟨ho3, fun s hs => (h.rows s (hp s hs)).apart hg h.own.turns (by decide)⟩
theorem one (h : KyOwn B W A c P) {r : Part} (hr : BOwn W B r.a r.c r.l) {A3 : Option Addr} {c3 : Nat} (ho3 : EOwn eKy W' B A3 c3 (P ++ [r])) (hg : W.grownBy W' (A.map (·.block))) : KyOwn B W' A3 c3 (P ++ [r]) := by
  refine ⟨ho3, fun s hs => ?_⟩
  have hk := h.own.turns
  rcases List.mem_append.1 hs with hs | hs
  · exact (h.rows s hs).apart hg hk (by decide)
  · rw [List.mem_singleton.1 hs]; exact hr.apart hg hk (by decide)
end KyOwn
/-- Tables of the call's own. -/
structure TbOwn (B : Nat) (W : World) (A : Option Addr) (c : Nat) (G : List Gr) : Prop where
  own : EOwn eT3 W B A c G
  rows : ∀ g ∈ G, RwOwn B W g.a g.c g.l
namespace TbOwn
variable {B c : Nat} {W W' : World} {A : Option Addr} {G : List Gr}
theorem start : TbOwn B W none 0 [] := ⟨EOwn.nil _ _, by intro r hr; cases hr⟩
theorem below (h : TbOwn B W A c G) (hB : Below W.heap.size W W') : TbOwn B W' A c G := ⟨h.own.below hB, fun r hr => (h.rows r hr).below hB⟩
theorem apart (h : TbOwn B W A c G) {row : Option Nat} {T : TypeId} (hg : W.grownBy W' row) (hr : ∀ x, row = some x → isK W T x) (h0 : 43 ≠ T) (h1 : 37 ≠ T) (h2 : 64 ≠ T) : TbOwn B W' A c G :=
  ⟨h.own.apart hg hr h0, fun r hx => (h.rows r hx).apart hg hr h1 h2⟩
theorem one (h : TbOwn B W A c G) {g : Gr} (hr : RwOwn B W g.a g.c g.l) {A3 : Option Addr} {c3 : Nat} (ho3 : EOwn eT3 W' B A3 c3 (G ++ [g])) (hg : W.grownBy W' (A.map (·.block))) : TbOwn B W' A3 c3 (G ++ [g]) := by
  refine ⟨ho3, fun s hs => ?_⟩
  have hk := h.own.turns
  rcases List.mem_append.1 hs with hs | hs
  · exact (h.rows s hs).apart hg hk (by decide) (by decide)
  · rw [List.mem_singleton.1 hs]; exact hr.apart hg hk (by decide) (by decide)
end TbOwn
/-- The keys of all indexes, of the call's own. -/
structure KsOwn (B : Nat) (W : World) (A : Option Addr) (c : Nat) (K : List Ks) : Prop where
  own : EOwn eKs W B A c K
  rows : ∀ k ∈ K, KyOwn B W k.a k.c k.l
namespace KsOwn
variable {B c : Nat} {W W' : World} {A : Option Addr} {K : List Ks}
theorem start : KsOwn B W none 0 [] := ⟨EOwn.nil _ _, by intro r hr; cases hr⟩
theorem below (h : KsOwn B W A c K) (hB : Below W.heap.size W W') : KsOwn B W' A c K := ⟨h.own.below hB, fun r hr => (h.rows r hr).below hB⟩
theorem apart (h : KsOwn B W A c K) {row : Option Nat} {T : TypeId} (hg : W.grownBy W' row) (hr : ∀ x, row = some x → isK W T x) (h0 : 77 ≠ T) (h1 : 32 ≠ T) (h2 : 5 ≠ T) : KsOwn B W' A c K :=
  ⟨h.own.apart hg hr h0, fun r hx => (h.rows r hx).apart hg hr h1 h2⟩
theorem one (h : KsOwn B W A c K) {g : Ks} (hr : KyOwn B W g.a g.c g.l) {A3 : Option Addr} {c3 : Nat} (ho3 : EOwn eKs W' B A3 c3 (K ++ [g])) (hg : W.grownBy W' (A.map (·.block))) : KsOwn B W' A3 c3 (K ++ [g]) := by
  refine ⟨ho3, fun s hs => ?_⟩
  have hk := h.own.turns
  rcases List.mem_append.1 hs with hs | hs
  · exact (h.rows s hs).apart hg hk (by decide) (by decide)
  · rw [List.mem_singleton.1 hs]; exact hr.apart hg hk (by decide) (by decide)
end KsOwn
/-- Tables that can be read, few and small. -/
structure TbIn (w : World) (A : Option Addr) (G : List Gr) : Prop where
  r : ERow eT3 w A G
  in_ : ∀ g ∈ G, RowsOk w g.a g.l
  few : G.length ≤ 1000
  gl : ∀ g ∈ G, g.l.length ≤ 1000
  rl : ∀ g ∈ G, ∀ r ∈ g.l, r.l.length ≤ 1000
  vl : ∀ g ∈ G, ∀ r ∈ g.l, ∀ v ∈ r.l, v.s.length ≤ 1000
theorem TbIn.below {w W : World} {A : Option Addr} {G : List Gr} (h : TbIn w A G) (hB : Below w.heap.size w W) : TbIn W A G := ⟨h.r.below hB, fun g hg => (h.in_ g hg).below hB, h.few, h.gl, h.rl, h.vl⟩
/-- Indexes' keys that can be read, few and short. -/
structure KsIn (w : World) (A : Option Addr) (K : List Ks) : Prop where
  r : ERow eKs w A K
  rows : ∀ k ∈ K, ERow eKy w k.a k.l
  by_ : ∀ k ∈ K, ∀ p ∈ k.l, BRow w p.a p.l
  few : K.length ≤ 1000
  kl : ∀ k ∈ K, k.l.length ≤ 1000
  pl : ∀ k ∈ K, ∀ p ∈ k.l, p.l.length ≤ 200000
theorem KsIn.below {w W : World} {A : Option Addr} {K : List Ks} (h : KsIn w A K) (hB : Below w.heap.size w W) : KsIn W A K := ⟨h.r.below hB, fun k hk => (h.rows k hk).below hB, fun k hk p hp => (h.by_ k hk p hp).below hB, h.few, h.kl, h.pl⟩
/-- The source in block g, with tables and keys. -/
structure MemAt (w : World) (g : Nat) (G : List Gr) (K : List Ks) : Prop where
  at_ : ∃ ta tc ka kc, Blk w g 75 [.slice ta G.length tc, .slice ka K.length kc] ∧ TbIn w ta G ∧ KsIn w ka K
theorem MemAt.below {w W : World} {g : Nat} {G : List Gr} {K : List Ks} (h : MemAt w g G K) (hB : Below w.heap.size w W) : MemAt W g G K := by
  obtain ⟨ta, tc, ka, kc, h1, h2, h3⟩ := h.at_
  exact ⟨ta, tc, ka, kc, h1.below hB, h2.below hB, h3.below hB⟩
theorem T3_at {w : World} {A : Option Addr} {L : List Gr} (h : ERow eT3 w A L) {j : Nat} (hj : j < L.length) : ∃ b o, A = some ⟨b, o, none⟩ ∧ b < w.heap.size ∧ w.cell? ⟨b, o + j, none⟩ = some L[j].h := by
  obtain ⟨b, o, e, hb, hc⟩ := h.at_ hj
  refine ⟨b, o, e, hb, ?_⟩
  have := hc 0 _ rfl
  rwa [show o + (j * eT3.sz + 0) = o + j by show o + (j * 1 + 0) = _; omega] at this
theorem Ks_at {w : World} {A : Option Addr} {L : List Ks} (h : ERow eKs w A L) {j : Nat} (hj : j < L.length) : ∃ b o, A = some ⟨b, o, none⟩ ∧ b < w.heap.size ∧ w.cell? ⟨b, o + j, none⟩ = some L[j].h := by
  obtain ⟨b, o, e, hb, hc⟩ := h.at_ hj
  refine ⟨b, o, e, hb, ?_⟩
  have := hc 0 _ rfl
  rwa [show o + (j * eKs.sz + 0) = o + j by show o + (j * 1 + 0) = _; omega] at this
theorem Ky_at {w : World} {A : Option Addr} {L : List Part} (h : ERow eKy w A L) {j : Nat} (hj : j < L.length) : ∃ b o, A = some ⟨b, o, none⟩ ∧ b < w.heap.size ∧ w.cell? ⟨b, o + j, none⟩ = some L[j].v := by
  obtain ⟨b, o, e, hb, hc⟩ := h.at_ hj
  refine ⟨b, o, e, hb, ?_⟩
  have := hc 0 _ rfl
  rwa [show o + (j * eKy.sz + 0) = o + j by show o + (j * 1 + 0) = _; omega] at this
set_option maxRecDepth 20000 in
set_option maxHeartbeats 1000000 in
/-- slices.Clone of values. -/
theorem vclone_any (w : World) (A : Option Addr) (c : Nat) (L : List Va) (hr : ERow eVa w A L) (hl : L.length ≤ 1000000) :
    Calls Tryz.prog 22 #[.slice A L.length c] w fun e w' => ∃ A1 c1, e = .returned (.slice A1 L.length c1) ∧ EOwn eVa w' w.heap.size A1 c1 L ∧ Below w.heap.size w w' := by
  cases A with
  | none =>
    have hl0 : L = [] := by
      cases L with
      | nil => rfl
      | cons x l => obtain ⟨b, o, h, _⟩ := hr (by simp); cases h
    subst hl0
    have hq := Lib.run_eql_slice_nil (P := Tryz.prog) w 37 64 none 0 c 0 0 Tryz.underlying37
    go_enter Tryz.func22, Tryz.ntmps22
    go_wp2_with fail
    go_ret
    exact ⟨none, 0, rfl, EOwn.nil _ _, Below.refl _ _⟩
  | some a =>
    have hq := Lib.run_eql_slice_nil (P := Tryz.prog) w 37 64 (some a) L.length c 0 0 Tryz.underlying37
    have hoe : EOwn eVa (w.alloc (.cells #[] 64)) w.heap.size (some ⟨w.heap.size, 0, none⟩) 0 [] := EOwn.new w [] (by simp [maxLen]) (Nat.le_refl _) #[] rfl
    have hrr : ERow eVa (w.alloc (.cells #[] 64)) (some a) L := hr.below ((Below.refl _ _).alloc (Nat.le_refl _) _)
    go_enter Tryz.func22, Tryz.ntmps22
    go_wp2_with (at_builtin; refine wpList_append_elems eVa rfl (.tmp 5) (.tmp 6) rfl 0 rfl hoe rfl _ rfl hrr rfl (by simp; omega) (by simp) ?_; intro A3 c3 w3 ho3 hb3 _ _)
    go_ret
    rw [List.nil_append] at ho3
    exact ⟨A3, c3, by simp, ho3, ((Below.refl _ _).alloc (Nat.le_refl _) _).trans hb3⟩
end Go.Proofs.YtpahkaffknnjhaaGreatDoor
end

section
/-
  The contract of bytes.Compare.
-/
namespace Go.Proofs.YtpahkaffknnjhaaGreatDoor
set_option linter.unusedSimpArgs false
set_option linter.unusedVariables false
open Go.RowKit

theorem run_cmpRow {w : World} {A B : Option Addr} {l m : List UInt8} (c d : Nat) (hl : BRow w A l) (hm : BRow w B m) : (Extern.BytealgCompare.compare #[.slice A l.length c, .slice B m.length d]).run Tryz.prog w = .ok (.int .i64 (Run.cmp l m)) w := by
  change Sem.run Tryz.prog (do pure (goInt (Extern.BytealgCompare.cmp (← Extern.Bytes.bytesOf (.slice A l.length c)) (← Extern.Bytes.bytesOf (.slice B m.length d))))) w = _
  simp only [Sem.run_bind, run_rowBytes c hl, run_rowBytes d hm, Sem.run_pure, Result.andThen]
  rw [Lib.cmp_eq]
  rfl
set_option maxRecDepth 20000 in
theorem bcompare_any (w : World) (A B : Option Addr) (c d : Nat) (l m : List UInt8) (hl : BRow w A l) (hm : BRow w B m) : Calls Tryz.prog 24 #[.slice A l.length c, .slice B m.length d] w fun e w' => e = .returned (.int .i64 (Run.cmp l m)) ∧ w' = w := by
  have hx := run_cmpRow c d hl hm
  go_enter Tryz.func24, Tryz.ntmps24
  go_wp2_with fail
  rw [run_callFunc_extern Tryz.func42 (by kernel_rfl) (by kernel_rfl) (by kernel_rfl) (e := Extern.BytealgCompare.compare) (by kernel_rfl), hx]
  simp only [Result.andThen]
  rw [Oper.upon_value]
  go_wp2_with fail
  go_ret
  exact ⟨rfl, rfl⟩
end Go.Proofs.YtpahkaffknnjhaaGreatDoor
end

section
/-
  The document's answer for texts at the beginning of a key.
-/
namespace Go.Proofs.YtpahkaffknnjhaaGreatDoor
set_option linter.unusedSimpArgs false
set_option linter.unusedVariables false
open Go.RowKit

theorem cut_one (l : List UInt8) (i : Nat) (h : i < l.length) : (ByteArray.mk l.toArray).extract i (i + 1) = ⟨#[l[i]]⟩ := by
  apply ByteArray.ext
  simp only [ByteArray.data_extract]
  apply Array.ext'
  simp
  rw [← List.getElem_cons_drop h]
  rfl
end Go.Proofs.YtpahkaffknnjhaaGreatDoor
end

section
/-
  The document's answer for a value of a type at the beginning of a key.
-/
namespace Go.Proofs.YtpahkaffknnjhaaGreatDoor
set_option linter.unusedSimpArgs false
set_option linter.unusedVariables false
open Go.RowKit

namespace Key
end Key
end Go.Proofs.YtpahkaffknnjhaaGreatDoor
end

section
/-
  The document's answer for values of types at the beginning of a key.
-/
namespace Go.Proofs.YtpahkaffknnjhaaGreatDoor
set_option linter.unusedSimpArgs false
set_option linter.unusedVariables false
open Go.RowKit

namespace Key
end Key
end Go.Proofs.YtpahkaffknnjhaaGreatDoor
end

section
/-
  The contract of key.Row.
-/
namespace Go.Proofs.YtpahkaffknnjhaaGreatDoor
set_option linter.unusedSimpArgs false
set_option linter.unusedVariables false
open Go.RowKit

namespace Key
/-- A clean value's bytes in a row. -/
def pay (v : Va) : List UInt8 :=
  if v.k = 1 then Wire.num (Wire.ofInt v.n) else if v.k = 2 then Wire.num (pbits v.f) else if v.k = 3 then Wire.text v.s else if v.k = 4 then [if v.n = 1 then 1 else 0] else []
def rowOf (v : Va) : List UInt8 := UInt8.ofNat v.k.toNat :: pay v
def row (L : List Va) : List UInt8 := Wire.num L.length ++ L.flatMap fun v => rowOf (clean v)
theorem real1_idem (f : Nat) : real1 (real1 f) = real1 f := by
  unfold real1
  split
  · rfl
  · next h =>
    split
    · rfl
    · rfl
end Key
end Go.Proofs.YtpahkaffknnjhaaGreatDoor
end

section
/-
  The contracts of dowserlaw08.clean and exact, of dowserref07.Exact and math.Signbit.
-/
namespace Go.Proofs.YtpahkaffknnjhaaGreatDoor
set_option linter.unusedSimpArgs false
set_option linter.unusedVariables false
open Go.RowKit

end Go.Proofs.YtpahkaffknnjhaaGreatDoor
end

section
/-
  The contract of dowserlaw08.exact.
-/
namespace Go.Proofs.YtpahkaffknnjhaaGreatDoor
set_option linter.unusedSimpArgs false
set_option linter.unusedVariables false
open Go.RowKit

end Go.Proofs.YtpahkaffknnjhaaGreatDoor
end

section
/-
  The contracts of key.After and of the document's After.
-/
namespace Go.Proofs.YtpahkaffknnjhaaGreatDoor
set_option linter.unusedSimpArgs false
set_option linter.unusedVariables false
open Go.RowKit

/-- What After answers. -/
def AftB (w : World) (l : List UInt8) (e : Ending) (w' : World) : Prop :=
  ∃ r, Key.IsAfter l r ∧ Below w.heap.size w w' ∧ ((r = none ∧ e = .returned (.tuple #[.slice none 0 0, .bool false])) ∨ ∃ a A c, r = some a ∧ e = .returned (.tuple #[.slice A a.length c, .bool true]) ∧ BRow w' A a ∧ a.length ≤ c)
def slcLen : Value → Nat
  | .slice _ n _ => n
  | _ => 0
theorem after_hit {l : List UInt8} {m : Nat} (hm : m < l.length) (hx : l[m] < 255) (ht : ∀ d ∈ l.drop (m + 1), d = 255) : Key.IsAfter l (some (l.take m ++ [l[m] + 1])) :=
  .inr ⟨l.take m, l[m], l.drop (m + 1), by rw [List.getElem_cons_drop, List.take_append_drop], hx, ht, rfl⟩
theorem after_step {l : List UInt8} {m : Nat} (hm : m < l.length) (hx : ¬ l[m] < 255) (ht : ∀ d ∈ l.drop (m + 1), d = 255) : ∀ d ∈ l.drop m, d = 255 := by
  intro d hd
  rw [← List.getElem_cons_drop hm] at hd
  rcases List.mem_cons.1 hd with rfl | hd
  · have := l[m].toNat_lt
    rw [UInt8.lt_iff_toNat_lt] at hx
    have e0 : (255 : UInt8).toNat = 255 := rfl
    exact UInt8.toNat_inj.1 (by omega)
  · exact ht d hd
theorem after_none {l : List UInt8} (h : ∀ d ∈ l.drop 0, d = 255) : Key.IsAfter l none := .inl ⟨rfl, by simpa using h⟩
theorem take_set {l : List UInt8} {m : Nat} (hm : m < l.length) (x : UInt8) : (l.set m x).take (m + 1) = l.take m ++ [x] := by
  rw [List.take_succ_eq_append_getElem (by simpa using hm), List.take_set_of_le (Nat.le_refl _)]
  simp
theorem add_one_u8 {x : UInt8} (h : x < 255) : bv (x + 1) = .int .u8 ((x.toNat : Int) + 1) := by
  rw [UInt8.lt_iff_toNat_lt] at h
  have e0 : (255 : UInt8).toNat = 255 := rfl
  unfold bv
  rw [UInt8.toNat_add]
  have e1 : (1 : UInt8).toNat = 1 := rfl
  rw [e1, Nat.mod_eq_of_lt (by omega)]
  rfl
set_option maxRecDepth 20000 in
set_option maxHeartbeats 2000000 in
theorem kafter_any (w : World) (A : Option Addr) (c : Nat) (l : List UInt8) (hr : BRow w A l) (hl : l.length ≤ 1000000) : Calls Tryz.prog 145 #[.slice A l.length c] w (AftB w l) := by
  have HR := Lib.hid hr
  clear hr
  go_enter Tryz.func145, Tryz.ntmps145
  go_wp2_with fail
  refine (clone_any _ A c l HR.out hl).mono ?_
  rintro e w1 ⟨A1, c1, rfl, ho, hb⟩
  have HO := Lib.hid (And.intro ho hb)
  have hcap := ho.cap
  clear ho hb
  go_wp2_with fail
  go_loop [4] (fun ov => ∃ k : Nat, k ≤ l.length ∧ ov = .slice A1 k c1 ∧ Hid (∀ d ∈ l.drop k, d = 255)) (fun ov => slcLen ov)
  case atStart => exact ⟨l.length, Nat.le_refl _, rfl, by show ∀ _, _; simp⟩
  case round =>
    obtain ⟨k, hk, rfl, HK⟩ := hrel
    by_cases h0 : 0 < k
    · obtain ⟨m, rfl⟩ : ∃ m, k = m + 1 := ⟨k - 1, by omega⟩
      have hm : m < l.length := by omega
      have hi : (0 : Int) < ((m + 1 : Nat) : Int) := by omega
      rcases HO.out.1.form with ⟨_, _, rfl⟩ | ⟨g, rfl, hBg, hg, hlc, _⟩
      · simp at hm
      · have hc0 := HO.out.1.cell (j := m) hm
        have hf0 := HO.out.1.free m
        have hx := l[m].toNat_lt
        have HS := Lib.hid (after_step hm)
        have HH := Lib.hid (after_hit hm)
        have HT := Lib.hid (take_set hm (l[m] + 1))
        have HST := Lib.hid (fun (v : Value) (hv : bv (l[m] + 1) = v) => HO.out.1.store m (l[m] + 1) v hv)
        by_cases h5 : l[m] < 255
        · have HV := Lib.hid (add_one_u8 h5)
          have H5 := Lib.hid h5
          have h5i : (l[m].toNat : Int) < 255 := by rw [UInt8.lt_iff_toNat_lt] at h5; have e0 : (255 : UInt8).toNat = 255 := rfl; omega
          clear h5
          generalize l[m].toNat = x at hc0 hx h5i HV
          go_wp2_with fail
          go_ret2
          have hln : (l.take m ++ [l[m] + 1]).length = m + 1 := by simp; omega
          refine ⟨some (l.take m ++ [l[m] + 1]), HH.out H5.out HK.out, HO.out.2.setCell (p := ⟨g, m, none⟩) hBg _, .inr ⟨_, some ⟨g, 0, none⟩, c1, rfl, ?_, ?_, ?_⟩⟩
          · rw [hln]; rfl
          · rw [← HT.out]; exact (HST.out _ HV.out).row.take (m + 1)
          · rw [hln]; omega
        · have H5 := Lib.hid h5
          have h5i : ¬ (l[m].toNat : Int) < 255 := by rw [UInt8.lt_iff_toNat_lt] at h5; have e0 : (255 : UInt8).toNat = 255 := rfl; omega
          clear h5
          generalize l[m].toNat = x at hc0 hx h5i
          go_wp2_with fail
          go_round
          case rel => exact ⟨m, by omega, by go_num, HS.out H5.out HK.out⟩
          case measure => simp [slcLen]
    · obtain rfl : k = 0 := by omega
      go_wp2_with fail
      go_ret2
      exact ⟨none, after_none HK.out, HO.out.2, .inl ⟨rfl, rfl⟩⟩
end Go.Proofs.YtpahkaffknnjhaaGreatDoor
end

section
/-
  The walk of dowserlaw08.KeyAfter: whatever the bytes, it answers true.
-/
namespace Go.Proofs.YtpahkaffknnjhaaGreatDoor
set_option linter.unusedSimpArgs false
set_option linter.unusedVariables false
open Go.RowKit

end Go.Proofs.YtpahkaffknnjhaaGreatDoor
end

section
/-
  The walk of dowserlaw08.KeyOrders: whatever the lists of values, it answers true.
-/
namespace Go.Proofs.YtpahkaffknnjhaaGreatDoor
set_option linter.unusedSimpArgs false
set_option linter.unusedVariables false
open Go.RowKit

namespace Key
end Key
end Go.Proofs.YtpahkaffknnjhaaGreatDoor
end

section
/-
  Rows and keys of unlike values are unlike (plain).
-/
namespace Go.Proofs.YtpahkaffknnjhaaGreatDoor
set_option linter.unusedSimpArgs false
set_option linter.unusedVariables false
open Go.RowKit

namespace Key
end Key
end Go.Proofs.YtpahkaffknnjhaaGreatDoor
end

section
/-
  The document's answers: a value's part of a key, a key, a row.
-/
namespace Go.Proofs.YtpahkaffknnjhaaGreatDoor
set_option linter.unusedSimpArgs false
set_option linter.unusedVariables false
open Go.RowKit

theorem bv_ofNat' (m : Int) (h : 0 ≤ m) (h2 : m < 256) : bv (UInt8.ofNat m.toNat) = .int .u8 m := by simp [bv]; omega
/-- A text is answered. -/
def RetS (w : World) (l : List UInt8) (e : Ending) (w' : World) : Prop := e = .returned (txt l) ∧ Below w.heap.size w w'
set_option maxRecDepth 20000 in
set_option maxHeartbeats 4000000 in
theorem refpart8_any (w : World) (v : Va) (hv : v.ok) (hs : v.s.length ≤ 1000) : Calls Tryz.prog 34 #[v.v] w (RetS w (Key.part (Key.dclean v))) := by
  have HV := Lib.hid hv
  have HOK := Lib.hid (Key.dclean_ok hv)
  have HCL := Lib.hid (Key.clean_of v)
  have hsl : (Key.dclean v).s.length ≤ 1000 := by
    unfold Key.dclean Key.cleanF Key.nul
    (repeat' split) <;> simp only <;> first | exact hs | exact Nat.zero_le _
  clear hv hs
  go_enter Tryz.func34, Tryz.ntmps34
  go_upto_region 1 with (refine wpList_box_va rfl (.tmp 0) rfl v rfl ?_; intro W1 hb1 hz1 hB1)
  go_wp2_with (refine wpList_load_va rfl (.tmp 1) rfl w.heap.size rfl hb1 ?_)
  refine (dclean_any _ v HV.out).mono ?_
  rintro e W2 ⟨rfl, hB2⟩
  have hb2 := hb1.below hB2
  have HB2 := Lib.hid (hB1.then hB2)
  clear hb1 hB2 hB1 hz1
  generalize hd : Key.dclean v = d at HOK HCL hsl ⊢
  have HD := Lib.hid hd
  clear hd
  go_upto_region 2 with (refine wpList_store_va rfl rfl (.tmp 1) (.tmp 6) rfl w.heap.size rfl d rfl hb2 ?_; intro W3 hb3 hg3)
  have HB3 := Lib.hid (below_of_grown HB2.out hg3 (Nat.le_refl _) HB2.out.size)
  clear hg3 hb2 HB2
  obtain ⟨c0, c1, c2, c3, -, -, -, -, -⟩ := Blk.c4 hb3
  obtain ⟨k, n, f, s⟩ := d
  simp only at c0 c1 c2 c3 hsl
  have hcat := run_cat
  rcases HCL.out.kind with rfl | rfl | rfl | rfl | rfl
  · have HP : Hid (Key.part ⟨0, n, f, s⟩ = [0]) := rfl
    clear hcat c1 c2 c3
    go_wp2_with fail
    go_ret
    exact ⟨congrArg (fun l => Ending.returned (txt l)) (HP.out.symm.trans (congrArg Key.part HD.out.symm)), HB3.out⟩
  · have HP : Hid (Key.part ⟨1, n, f, s⟩ = [1] ++ Key.id n) := rfl
    have HIL := Lib.hid (Key.id_length n)
    clear c2 c3
    have hj := fun w => hcat w [1] (Key.id n) (by rw [HIL.out]; decide)
    clear hcat
    go_wp2_with fail
    refine (refid_any _ n HOK.out.n1 HOK.out.n2).mono ?_
    rintro e W4 ⟨rfl, hB4⟩
    have HB4 := Lib.hid (HB3.out.then hB4)
    clear c0 c1 hB4
    have hj2 : (binOp .add 9 (.string ⟨#[1]⟩) (txt (Key.id n))).run Tryz.prog W4 = .ok (txt ([1] ++ Key.id n)) W4 := hj W4
    clear hj
    go_wp2_with fail
    go_ret
    exact ⟨congrArg (fun l => Ending.returned (txt l)) (HP.out.symm.trans (congrArg Key.part HD.out.symm)), HB4.out⟩
  · have HP : Hid (Key.part ⟨2, n, f, s⟩ = [1] ++ Wal.hi8 (Key.pbits f)) := rfl
    have HPT := Lib.hid (Key.pbits_top HOK.out.f1)
    clear c1 c3
    go_wp2_with fail
    refine (refbits_any _ f HOK.out.f1).mono ?_
    rintro e wq ⟨rfl, rfl⟩
    go_wp2_with fail
    refine (refhigh8 _ (Key.pbits f) HPT.out).mono ?_
    rintro e W4 ⟨rfl, hB4⟩
    have HB4 := Lib.hid (HB3.out.then hB4)
    clear c0 c2 hB4
    have hj2 : (binOp .add 9 (.string ⟨#[1]⟩) (txt (Wal.hi8 (Key.pbits f)))).run Tryz.prog W4 = .ok (txt ([1] ++ Wal.hi8 (Key.pbits f))) W4 := hcat W4 [1] _ (by rw [Wal.hi8_length]; decide)
    clear hcat
    go_wp2_with fail
    go_ret
    exact ⟨congrArg (fun l => Ending.returned (txt l)) (HP.out.symm.trans (congrArg Key.part HD.out.symm)), HB4.out⟩
  · have HP : Hid (Key.part ⟨3, n, f, s⟩ = 1 :: (Key.esc s ++ [0, 0])) := rfl
    have hsz : (ByteArray.mk s.toArray).size = s.length := by simp [ByteArray.size]
    have HE : Hid ((Key.esc s).length ≤ 2000) := Nat.le_trans (Key.esc_length s) (by omega)
    have HCAT := Lib.hid hcat
    clear c1 c2 hcat
    unfold txt at c3
    go_wp2_with fail
    go_loopw [3, 4] (fun sv iv wr => ∃ i : Nat, i ≤ s.length ∧ sv = txt (1 :: Key.esc (s.take i)) ∧ iv = .int .i64 (i : Int) ∧ Hid (wr = W3)) (fun _ iv _ => s.length - (intOf iv).toNat)
    case atStart => exact ⟨0, Nat.zero_le _, by simp; rfl, rfl, rfl⟩
    case round =>
      obtain ⟨i, hi, rfl, rfl, HJ⟩ := hrel
      obtain rfl : wr = W3 := HJ.out
      clear HJ
      have HEL : Hid ((1 :: Key.esc (s.take i)).length ≤ 2001) := by
        show _ ≤ _
        have := Key.esc_length (s.take i)
        rw [List.length_take] at this
        simp only [List.length_cons]; omega
      by_cases hlt : i < s.length
      · have hii : (i : Int) < (s.length : Int) := by omega
        have HT : Hid (1 :: Key.esc (s.take (i + 1)) = 1 :: (Key.esc (s.take i)) ++ (if s[i] = 0 then [0, 255] else [s[i]])) := by
          show _ = _
          rw [List.take_succ_eq_append_getElem hlt, Key.esc_append, Key.esc_cons, Key.esc_nil, List.append_nil]; rfl
        have hget : (ByteArray.mk s.toArray).data[i]? = some s[i] := by simp [hlt]
        have hi2 : i < (ByteArray.mk s.toArray).size := by rw [hsz]; exact hlt
        have hb : (ByteArray.mk s.toArray)[i]'hi2 = s[i] := by rfl
        have hx := s[i].toNat_lt
        have hcut := cut_one s i hlt
        have hcut2 : ByteArray.extract ⟨s.toArray⟩ i (i + 1) = ⟨[s[i]].toArray⟩ := hcut
        generalize Key.esc (s.take i) = acc at HEL HT ⊢
        by_cases h0 : s[i] = 0
        · have HT2 : Hid (1 :: Key.esc (s.take (i + 1)) = 1 :: acc ++ [0] ++ [255]) := by show _ = _; rw [HT.out, if_pos h0]; simp
          clear HT hcut
          obtain ⟨X, hX⟩ : ∃ X, 1 :: acc ++ [0] = X := ⟨_, rfl⟩
          obtain ⟨Y, hY⟩ : ∃ Y, X ++ [255] = Y := ⟨_, rfl⟩
          have hlX : X.length ≤ 2002 := by have := HEL.out; rw [← hX]; simp at this ⊢; omega
          have hj : (binOp .add 9 (txt (1 :: acc)) (.string ⟨#[0]⟩)).run Tryz.prog wr = .ok (txt X) wr := by rw [← hX]; exact HCAT.out wr (1 :: acc) [0] (by have := HEL.out; simp at this ⊢; omega)
          have hj2 : (binOp .add 9 (txt X) (.string ⟨#[255]⟩)).run Tryz.prog wr = .ok (txt Y) wr := by rw [← hY]; exact HCAT.out wr X [255] (by simp; omega)
          have HY : Hid (1 :: Key.esc (s.take (i + 1)) = Y) := by show _ = _; rw [HT2.out, hX, hY]
          clear hX hY hlX
          rw [h0] at hget hb hcut2
          clear h0
          have hx : (0 : UInt8).toNat = 0 := rfl
          go_wp2_with fail
          go_roundw
          case rel => exact ⟨i + 1, by omega, by rw [HY.out], by go_num, trivial⟩
          case measure => simp [intOf]; omega
        · have HT2 : Hid (1 :: Key.esc (s.take (i + 1)) = 1 :: acc ++ [s[i]]) := by show _ = _; rw [HT.out, if_neg h0]
          have n0 : ¬ (s[i].toNat : Int) = 0 := fun h => h0 (UInt8.toNat_inj.1 (by have e0 : (0 : UInt8).toNat = 0 := rfl; omega))
          clear h0 HT hcut
          have hj : (binOp .add 9 (txt (1 :: acc)) (.string ⟨[s[i]].toArray⟩)).run Tryz.prog wr = .ok (txt (1 :: acc ++ [s[i]])) wr := HCAT.out wr (1 :: acc) [s[i]] (by have := HEL.out; simp at this ⊢; omega)
          generalize s[i] = x at hget hb hx hcut2 HT2 n0 hj
          go_wp2_with fail
          go_roundw
          case rel => exact ⟨i + 1, by omega, by rw [HT2.out]; simp, by go_num, trivial⟩
          case measure => simp [intOf]; omega
      · obtain rfl : i = s.length := by omega
        have hts : s.take s.length = s := List.take_length
        rw [hts] at HEL ⊢
        clear hts
        have hj : (binOp .add 9 (txt (1 :: Key.esc s)) (.string ⟨#[0, 0]⟩)).run Tryz.prog wr = .ok (txt (1 :: Key.esc s ++ [0, 0])) wr := HCAT.out wr (1 :: Key.esc s) [0, 0] (by have := HEL.out; simp at this ⊢; omega)
        go_wp2_with fail
        go_ret
        exact ⟨congrArg (fun l => Ending.returned (txt l)) (HP.out.symm.trans (congrArg Key.part HD.out.symm)), HB3.out⟩
  · have hn : 0 ≤ n ∧ n < 256 := by have := HCL.out.bb rfl; simp only at this; omega
    have HP : Hid (Key.part ⟨4, n, f, s⟩ = [1, UInt8.ofNat n.toNat]) := rfl
    have hw8 : IntKind.u8.wrap n = n := IntWalk.u8_in _ (by omega)
    have hrow := BRow.one W3 (UInt8.ofNat n.toNat) (.int .u8 n) 5 (bv_ofNat' n hn.1 hn.2)
    have hcv := run_string_bytes _ 1 hrow
    simp only [List.length_singleton] at hcv
    have HB4 := Lib.hid (HB3.out.then (Below.alloc1 W3 (.cells #[.int .u8 n] 5)))
    have hj : ByteArray.mk #[1] ++ ByteArray.mk #[UInt8.ofNat n.toNat] = ⟨#[1, UInt8.ofNat n.toNat]⟩ := cut_join [1] [UInt8.ofNat n.toNat]
    clear hrow c2 c3
    unfold txt at hcv
    clear hcat
    go_wp2_with fail
    go_ret
    exact ⟨congrArg (fun l => Ending.returned (txt l)) (HP.out.symm.trans (congrArg Key.part HD.out.symm)), HB4.out⟩
end Go.Proofs.YtpahkaffknnjhaaGreatDoor
end

section
/-
  The contracts of run.Key and of the document's Key of a row.
-/
namespace Go.Proofs.YtpahkaffknnjhaaGreatDoor
set_option linter.unusedSimpArgs false
set_option linter.unusedVariables false
open Go.RowKit

namespace Run
/-- The node of a column. -/
def col (c : Int) : Nd := .mk 2 [] Key.nul c false 0 none [] 0
theorem eval_col (row : List Va) (c : Int) : Ev.eval row (col c) = Ev.atV row c := rfl
theorem col_in (w : World) {c : Int} (h : Ev.inB c) : NodeIn w (col c) := by
  refine .mk ERow.nil (by intro m hm; cases hm) Ev.nul_ok (Nat.zero_le _) ⟨?_, ?_⟩ h (Nat.le_refl 0) (Nat.zero_le _)
  · show (-9223372036854775808 : Int) ≤ 2; decide
  · show (2 : Int) ≤ 9223372036854775807; decide
theorem part_len2 {v : Va} (h : v.s.length ≤ 1000) (hc : Key.clean v = v) : (Key.part v).length ≤ 2003 := by rw [← hc]; exact part_len v h
theorem parts_len (cols : List Int) (row : List Va) (h : ∀ v ∈ row, v.s.length ≤ 1000) : (parts cols row).length ≤ 2003 * cols.length := by
  unfold parts
  induction cols with
  | nil => simp
  | cons c l ih =>
    have h1 := part_len2 (at_small h c) (Ev.clean_at row c)
    rw [List.flatMap_cons, List.length_append, List.length_cons]
    omega
theorem key_len (cols : List Int) (row : List Va) (id : Int) (h : ∀ v ∈ row, v.s.length ≤ 1000) : (key cols row id).length ≤ 2003 * cols.length + 8 := by
  have := parts_len cols row h
  unfold key
  rw [List.length_append, Key.id_length]
  omega
end Run
set_option maxRecDepth 20000 in
set_option maxHeartbeats 4000000 in
theorem rkey_any (w : World) (ca : Option Addr) (cc : Nat) (cols : List Int) (hc : ERow eInt w ca cols) (hci : ∀ c ∈ cols, Ev.inB c) (hcl : cols.length ≤ 1000) (R : Option Addr) (rc : Nat) (row : List Va) (hr : RowOk w R row) (hs : ∀ v ∈ row, v.s.length ≤ 1000) (id : Int) (h1 : -9223372036854775808 ≤ id) (h2 : id ≤ 9223372036854775807) :
    Calls Tryz.prog 18 #[.slice ca cols.length cc, .slice R row.length rc, .int .i64 id] w (RetB w (Run.key cols row id)) := by
  have HC := Lib.hid hc
  have HCI := Lib.hid hci
  have HR := Lib.hid hr
  have HS := Lib.hid hs
  have HID := Lib.hid (And.intro h1 h2)
  clear hc hci hr hs h1 h2
  go_enter Tryz.func18, Tryz.ntmps18
  go_wp2_with fail
  go_loopw [7, 12] (fun bv_ iv wr => ∃ (k : Nat) (A1 : Option Addr) (c1 : Nat), k ≤ cols.length ∧ bv_ = .slice A1 (Run.parts (cols.take k) row).length c1 ∧ iv = .int .i64 (k : Int) ∧ Hid (BOwn wr w.heap.size A1 c1 (Run.parts (cols.take k) row) ∧ Below w.heap.size w wr)) (fun _ iv _ => cols.length - (intOf iv).toNat)
  case atStart => exact ⟨0, none, 0, Nat.zero_le _, rfl, rfl, BOwn.nil _ _, Below.refl _ _⟩
  case round =>
    obtain ⟨k, A1, c1, hk, rfl, rfl, HJ⟩ := hrel
    have HKL : Hid ((Run.parts (cols.take k) row).length ≤ 2003000) := by
      show _ ≤ _
      have := Run.parts_len (cols.take k) row HS.out
      rw [List.length_take] at this
      omega
    by_cases hlt : k < cols.length
    · have hii : (k : Int) < (cols.length : Int) := by omega
      obtain ⟨b, o, rfl, hb, hcell⟩ := int_at (HC.out.below HJ.out.2) hlt
      have HSN := Lib.hid (Run.parts_take cols row k hlt)
      have HCB := Lib.hid (HCI.out _ (List.getElem_mem hlt))
      generalize cols[k] = cv at hcell HSN HCB
      go_wp2_with fail
      refine ((eval_any w R rc row HR.out.r HR.out.ok HR.out.len (Run.col cv) (Run.col_in _ HCB.out)) wr HJ.out.2).mono ?_
      rintro e W3 ⟨rfl, hB3⟩
      rw [Run.eval_col]
      have HB3 : Hid (BOwn W3 w.heap.size A1 c1 (Run.parts (cols.take k) row) ∧ Below w.heap.size w W3) := ⟨HJ.out.1.below hB3, HJ.out.2.then hB3⟩
      have HAT : Hid ((Ev.atV row cv).ok ∧ (Ev.atV row cv).s.length ≤ 1000 ∧ Key.clean (Ev.atV row cv) = Ev.atV row cv) := ⟨Ev.at_ok HR.out.ok cv, Run.at_small HS.out cv, Ev.clean_at row cv⟩
      clear hB3 hcell hb
      generalize Ev.atV row cv = v at HAT HSN ⊢
      go_wp2_with fail
      refine (part_any W3 v HAT.out.1 HAT.out.2.1).mono ?_
      rw [HAT.out.2.2]
      rintro e W4 ⟨A4, c4, rfl, hr4, hc4, hB4⟩
      have HB : Hid (BOwn W4 w.heap.size A1 c1 (Run.parts (cols.take k) row) ∧ Below w.heap.size w W4) := ⟨HB3.out.1.below hB4, HB3.out.2.then hB4⟩
      have H4 := Lib.hid hr4
      have HPL := Lib.hid (Run.part_len2 HAT.out.2.1 HAT.out.2.2)
      clear hr4 hB4
      go_wp2_with (at_builtin; refine wpList_append_bytes rfl (.tmp 16) (.tmp 21) rfl _ rfl HB.out.1 rfl _ rfl H4.out rfl (by have := HKL.out; have := HPL.out; omega) HB.out.2.size ?_; intro A5 c5 W5 ho5 hb5 _ _)
      go_roundw
      case rel =>
        refine ⟨k + 1, A5, c5, by omega, ?_, by go_num, ?_⟩
        · rw [HSN.out, List.length_append]
        · rw [HSN.out]; exact ⟨ho5, HB.out.2.trans hb5⟩
      case measure => simp [intOf]; omega
    · obtain rfl : k = cols.length := by omega
      have hlt2 : cols.take cols.length = cols := List.take_length
      rw [hlt2] at HJ HKL ⊢
      clear hlt2
      go_wp2_with fail
      refine (kid_any wr id HID.out.1 HID.out.2).mono ?_
      rintro e W4 ⟨A4, c4, rfl, hr4, hc4, hB4⟩
      have HB : Hid (BOwn W4 w.heap.size A1 c1 (Run.parts cols row) ∧ Below w.heap.size w W4) := ⟨HJ.out.1.below hB4, HJ.out.2.then hB4⟩
      have H4 := Lib.hid hr4
      have HIL := Lib.hid (Key.id_length id)
      clear hr4 hB4
      go_wp2_with (at_builtin; refine wpList_append_bytes rfl (.tmp 24) (.tmp 26) rfl _ rfl HB.out.1 rfl _ rfl H4.out rfl (by have := HKL.out; have := HIL.out; omega) HB.out.2.size ?_; intro A5 c5 W5 ho5 hb5 _ _)
      go_ret
      have e : (Run.key cols row id).length = (Run.parts cols row).length + (Key.id id).length := by unfold Run.key; rw [List.length_append]
      exact ⟨A5, c5, by rw [e]; rfl, ho5, HB.out.2.trans hb5⟩
set_option maxRecDepth 20000 in
set_option maxHeartbeats 4000000 in
theorem refrkey_any (w : World) (ca : Option Addr) (cc : Nat) (cols : List Int) (hc : ERow eInt w ca cols) (hcl : cols.length ≤ 1000) (R : Option Addr) (rc : Nat) (row : List Va) (hr : RowOk w R row) (hs : ∀ v ∈ row, v.s.length ≤ 1000) (id : Int) (h1 : -9223372036854775808 ≤ id) (h2 : id ≤ 9223372036854775807) :
    Calls Tryz.prog 19 #[.slice ca cols.length cc, .slice R row.length rc, .int .i64 id] w (RetS w (Run.key cols row id)) := by
  have HC := Lib.hid hc
  have HR := Lib.hid hr
  have HS := Lib.hid hs
  have HID := Lib.hid (And.intro h1 h2)
  clear hc hr hs h1 h2
  go_enter Tryz.func19, Tryz.ntmps19
  go_wp2_with fail
  go_loopw [7, 8] (fun sv iv wr => ∃ k : Nat, k ≤ cols.length ∧ sv = txt (Run.parts (cols.take k) row) ∧ iv = .int .i64 (k : Int) ∧ Hid (Below w.heap.size w wr)) (fun _ iv _ => cols.length - (intOf iv).toNat)
  case atStart => exact ⟨0, Nat.zero_le _, rfl, rfl, Below.refl _ _⟩
  case round =>
    obtain ⟨k, hk, rfl, rfl, HB⟩ := hrel
    have HKL : Hid ((Run.parts (cols.take k) row).length ≤ 2003000) := by
      show _ ≤ _
      have := Run.parts_len (cols.take k) row HS.out
      rw [List.length_take] at this
      omega
    by_cases hlt : k < cols.length
    · have hii : (k : Int) < (cols.length : Int) := by omega
      obtain ⟨b, o, rfl, hb, hcell⟩ := int_at (HC.out.below HB.out) hlt
      have HSN := Lib.hid (Run.parts_take cols row k hlt)
      generalize cols[k] = cv at hcell HSN
      go_wp2_with fail
      refine (rat_any wr R rc row cv (HR.out.r.below HB.out) HR.out.ok HR.out.len).mono ?_
      rintro e W3 ⟨v, rfl, hdv, hB3⟩
      have hsm := Run.dv_small hdv (Run.at_small HS.out cv)
      have HV : Hid (v.ok ∧ v.s.length ≤ 1000) := ⟨hdv.ok, hsm.1⟩
      have HPE := Lib.hid hsm.2
      have HB3 := Lib.hid (HB.out.then hB3)
      clear hB3 hcell hb hdv hsm
      go_wp2_with fail
      refine (refpart8_any W3 v HV.out.1 HV.out.2).mono ?_
      rw [HPE.out]
      rintro e W4 ⟨rfl, hB4⟩
      have HPL : Hid ((Key.part (Ev.atV row cv)).length ≤ 2003) := Run.part_len2 (Run.at_small HS.out cv) (Ev.clean_at row cv)
      have HB4 := Lib.hid (HB3.out.then hB4)
      have hj := run_cat W4 (Run.parts (cols.take k) row) (Key.part (Ev.atV row cv)) (by have := HKL.out; have := HPL.out; omega)
      clear hB4
      go_wp2_with fail
      go_roundw
      case rel => exact ⟨k + 1, by omega, by rw [HSN.out], by go_num, HB4.out⟩
      case measure => simp [intOf]; omega
    · obtain rfl : k = cols.length := by omega
      have hts : cols.take cols.length = cols := List.take_length
      rw [hts] at HKL ⊢
      clear hts
      go_wp2_with fail
      refine (refid_any wr id HID.out.1 HID.out.2).mono ?_
      rintro e W4 ⟨rfl, hB4⟩
      have HIL := Lib.hid (Key.id_length id)
      have HB4 := Lib.hid (HB.out.then hB4)
      have hj := run_cat W4 (Run.parts cols row) (Key.id id) (by have := HKL.out; have := HIL.out; omega)
      clear hB4
      go_wp2_with fail
      go_ret
      exact ⟨rfl, HB4.out⟩
end Go.Proofs.YtpahkaffknnjhaaGreatDoor
end

section
/-
  The contracts of a source in memory: Next, Row, Seek.
-/
namespace Go.Proofs.YtpahkaffknnjhaaGreatDoor
set_option linter.unusedSimpArgs false
set_option linter.unusedVariables false
open Go.RowKit

namespace Run
/-- How many of sorted bytes come ahead of some. -/
def find (L : List Bs) (m : Bs) : Nat := (L.takeWhile fun x => decide (cmp x m < 0)).length
theorem find_at {L : List Bs} {m : Bs} {i : Nat} (hi : i ≤ L.length) (h1 : ∀ t (h : t < L.length), t < i → cmp L[t] m < 0) (h2 : ∀ t (h : t < L.length), i ≤ t → ¬ cmp L[t] m < 0) : find L m = i := by
  induction L generalizing i with
  | nil => simp at hi; simp [find, hi]
  | cons x L ih =>
    unfold find
    rw [List.takeWhile_cons]
    cases i with
    | zero =>
      have := h2 0 (by simp) (Nat.le_refl _)
      rw [if_neg (by simpa using this)]
      rfl
    | succ i =>
      have := h1 0 (by simp) (by omega)
      rw [if_pos (by simpa using this), List.length_cons]
      have := ih (i := i) (by simpa using hi) (fun t h k => h1 (t + 1) (by simpa using h) (by omega)) (fun t h k => h2 (t + 1) (by simpa using h) (by omega))
      unfold find at this
      rw [this]
abbrev rowsG (g : Gr) : List (List Va) := g.l.map (·.l)
abbrev keysG (k : Ks) : List Bs := k.l.map (·.l)
theorem find_le (L : List Bs) (m : Bs) : find L m ≤ L.length := by
  unfold find
  exact (List.takeWhile_sublist _).length_le
end Run
/-- What a search answers. -/
def RetFind (w : World) (n : Nat) (e : Ending) (w' : World) : Prop := (∃ b : Bool, e = .returned (.tuple #[.int .i64 n, .bool b])) ∧ w' = w
set_option maxRecDepth 20000 in
set_option maxHeartbeats 4000000 in
theorem searchk_any (w : World) (A : Option Addr) (c : Nat) (P : List Part) (hp : ERow eKy w A P) (hb : ∀ p ∈ P, BRow w p.a p.l) (hl : P.length ≤ 1000000) (B : Option Addr) (d : Nat) (m : List UInt8) (hm : BRow w B m) (hs : Srt.Sorted Run.cmp (P.map (·.l))) :
    Calls Tryz.prog 26 #[.slice A P.length c, .slice B m.length d, .func (.func 24) #[] #[]] w (RetFind w (Run.find (P.map (·.l)) m)) := by
  have HP := Lib.hid hp
  have HB := Lib.hid hb
  have HM := Lib.hid hm
  have HS : Hid (∀ i j (h : j < P.length) (hij : i ≤ j), Run.cmp P[j].l m < 0 → Run.cmp (P[i]'(Nat.lt_of_le_of_lt hij h)).l m < 0) := by
    intro i j h hij hlt
    have := Srt.sorted_le Run.cmp_ord hs hij (by simpa using h)
    simp only [List.getElem_map] at this
    exact Run.cmp_ord.lt_of_le_of_lt this hlt
  obtain ⟨F, hF⟩ : ∃ F, Run.find (P.map (·.l)) m = F := ⟨_, rfl⟩
  have HF := Lib.hid hF
  rw [hF]
  clear hp hb hm hs hF
  go_enter Tryz.func26, Tryz.ntmps26
  go_wp2_with fail
  go_loopw [9, 10] (fun iv jv wr => ∃ lo hi : Nat, iv = .int .i64 (lo : Int) ∧ jv = .int .i64 (hi : Int) ∧ lo ≤ hi ∧ hi ≤ P.length ∧ wr = w ∧ Hid ((∀ t (h : t < P.length), t < lo → Run.cmp P[t].l m < 0) ∧ (∀ t (h : t < P.length), hi ≤ t → 0 ≤ Run.cmp P[t].l m))) (fun iv jv _ => (intOf jv).toNat - (intOf iv).toNat)
  case atStart => exact ⟨0, P.length, rfl, rfl, Nat.zero_le _, Nat.le_refl _, rfl, fun t _ h => absurd h (by omega), fun t h k => absurd k (by omega)⟩
  case round =>
    obtain ⟨lo, hi, rfl, rfl, hlh, hip, rfl, HI⟩ := hrel
    by_cases hlt : lo < hi
    · have hii : (lo : Int) < (hi : Int) := by omega
      obtain ⟨h, hh⟩ : ∃ h : Nat, (lo + hi) / 2 = h := ⟨_, rfl⟩
      have hh1 : h < P.length := by omega
      have hwr : ((lo : Int) + (hi : Int)) / 2 = (h : Int) := by omega
      obtain ⟨b, o, rfl, hb, hcell⟩ := Ky_at HP.out hh1
      have HBH := Lib.hid (HB.out _ (List.getElem_mem hh1))
      have HST : Hid ((Run.cmp P[h].l m < 0 → ∀ t (k : t < P.length), t < h + 1 → Run.cmp P[t].l m < 0) ∧ (0 ≤ Run.cmp P[h].l m → ∀ t (k : t < P.length), h ≤ t → 0 ≤ Run.cmp P[t].l m)) :=
        ⟨fun k t kt ht => HS.out t h hh1 (by omega) k, fun k t kt ht => by
          have := HS.out h t kt ht
          omega⟩
      generalize P[h] = p at hcell HBH HST
      unfold Part.v at hcell
      go_wp2_with fail
      refine (bcompare_any wr p.a B p.c d p.l m HBH.out HM.out).mono ?_
      rintro e wq ⟨rfl, rfl⟩
      generalize Run.cmp p.l m = r at HST ⊢
      by_cases hr : r < 0
      · go_wp2_with fail
        go_roundw
        case rel => exact ⟨h + 1, hi, by go_num, rfl, by omega, hip, trivial, HST.out.1 hr, HI.out.2⟩
        case measure => simp [intOf]; omega
      · go_wp2_with fail
        go_roundw
        case rel => exact ⟨lo, h, rfl, rfl, by omega, by omega, trivial, HI.out.1, HST.out.2 (by omega)⟩
        case measure => simp [intOf]; omega
    · obtain rfl : lo = hi := by omega
      have HFF : Hid (F = lo) := by
        show _ = _
        rw [← HF.out]
        exact Run.find_at (by simpa using hip) (fun t h k => by simpa using HI.out.1 t (by simpa using h) k) (fun t h k => by
          have := HI.out.2 t (by simpa using h) k
          simpa using this)
      by_cases hlp : lo < P.length
      · have hlpi : (lo : Int) < (P.length : Int) := by omega
        obtain ⟨b, o, rfl, hb, hcell⟩ := Ky_at HP.out hlp
        have HBH := Lib.hid (HB.out _ (List.getElem_mem hlp))
        generalize P[lo] = p at hcell HBH
        unfold Part.v at hcell
        go_wp2_with fail
        refine (bcompare_any wr p.a B p.c d p.l m HBH.out HM.out).mono ?_
        rintro e wq ⟨rfl, rfl⟩
        go_wp2_with fail
        go_ret2
        exact ⟨⟨_, by rw [HFF.out]; rfl⟩, rfl⟩
      · have hlpi : ¬ (lo : Int) < (P.length : Int) := by omega
        go_wp2_with fail
        go_ret2
        exact ⟨⟨false, by rw [HFF.out]; rfl⟩, rfl⟩
/-- What Next answers. -/
def RetSNext (w : World) (x : Option (Nat × List Va)) (e : Ending) (w' : World) : Prop :=
  Below w.heap.size w w' ∧ match x with
  | none => e = .returned (.tuple #[.int .i64 0, .slice none 0 0, .bool false, .int .i64 0])
  | some (n, l) => ∃ A c, e = .returned (.tuple #[.int .i64 (n : Int), .slice A l.length c, .bool true, .int .i64 0]) ∧ EOwn eVa w' w.heap.size A c l
/-- What Row answers. -/
def RetSRow (w : World) (x : Option (List Va)) (e : Ending) (w' : World) : Prop :=
  Below w.heap.size w w' ∧ match x with
  | none => e = .returned (.tuple #[.slice none 0 0, .bool false, .int .i64 0])
  | some l => ∃ A c, e = .returned (.tuple #[.slice A l.length c, .bool true, .int .i64 0]) ∧ EOwn eVa w' w.heap.size A c l
/-- What Seek answers. -/
def RetSSeek (w : World) (x : Option (List UInt8)) (e : Ending) (w' : World) : Prop :=
  Below w.heap.size w w' ∧ match x with
  | none => e = .returned (.tuple #[.slice none 0 0, .bool false, .int .i64 0])
  | some l => ∃ A c, e = .returned (.tuple #[.slice A l.length c, .bool true, .int .i64 0]) ∧ BOwn w' w.heap.size A c l
theorem results_tmp4 {fn : Func} {t u v x : Tmp} (h : fn.results = #[.tmp t, .tmp u, .tmp v, .tmp x]) (tmps : Array Value) (P : Program) (w : World) :
    (results fn tmps).run P w = .ok (.tuple #[tmps.getD t undef, tmps.getD u undef, tmps.getD v undef, tmps.getD x undef]) w := by
  simp [results, h]
theorem mnext_nil (w : World) (t a : Int) : Calls Tryz.prog 9 #[.pointer none, .int .i64 t, .int .i64 a] w (RetSNext w none) := by
  obtain ⟨i, hi⟩ : ∃ i : Nat, (if a < 0 then (0 : Int) else a) = (i : Int) := ⟨(max a 0).toNat, by split <;> omega⟩
  go_enter Tryz.func9, Tryz.ntmps9
  go_wp2_with fail
  (try simp only [Exit.inBlock, Exit.then])
  refine bodyPost_ret (results_tmp4 rfl _ _ _) rfl ?_
  exact ⟨Below.refl _ _, rfl⟩
theorem mrow_nil (w : World) (t a : Int) : Calls Tryz.prog 10 #[.pointer none, .int .i64 t, .int .i64 a] w (RetSRow w none) := by
  go_enter Tryz.func10, Tryz.ntmps10
  go_wp2_with fail
  go_ret3
  exact ⟨Below.refl _ _, rfl⟩
theorem mseek_nil (w : World) (t : Int) (k : Value) : Calls Tryz.prog 12 #[.pointer none, .int .i64 t, k] w (RetSSeek w none) := by
  go_enter Tryz.func12, Tryz.ntmps12
  go_wp2_with fail
  go_ret3
  exact ⟨Below.refl _ _, rfl⟩
namespace Run
/-- A row of a table, by their numbers from 0 on. -/
def rowOf (T : List (List (List Va))) (t i : Int) : Option (List Va) := if 0 ≤ t ∧ t < (T.length : Int) ∧ 0 ≤ i ∧ i < ((T.getD t.toNat []).length : Int) then some ((T.getD t.toNat []).getD i.toNat []) else none
def nextOf (T : List (List (List Va))) (t a : Int) : Option (Nat × List Va) := (rowOf T t (max a 0)).map fun l => ((max a 0).toNat + 1, l)
theorem rowOf_at {G : List Gr} {t i : Nat} (ht : t < G.length) (hi : i < G[t].l.length) : rowOf (G.map rowsG) t i = some G[t].l[i].l := by
  unfold rowOf rowsG
  rw [if_pos ⟨by omega, by simpa using ht, by omega, by simp [List.getD, ht]; omega⟩]
  simp [List.getD, ht, hi]
theorem rowOf_no {T : List (List (List Va))} {t i : Int} (h : ¬ (0 ≤ t ∧ t < (T.length : Int) ∧ 0 ≤ i ∧ i < ((T.getD t.toNat []).length : Int))) : rowOf T t i = none := by unfold rowOf; rw [if_neg h]
/-- The least key that does not come ahead. -/
def seekOf (K : List (List Bs)) (i : Int) (k : Bs) : Option Bs := if 0 ≤ i ∧ i < (K.length : Int) then (K.getD i.toNat [])[find (K.getD i.toNat []) k]? else none
end Run
set_option maxRecDepth 20000 in
set_option maxHeartbeats 4000000 in
theorem mnext_any (w : World) (g : Nat) (G : List Gr) (K : List Ks) (hm : MemAt w g G K) (t a : Int) (ha : a ≤ 9223372036854775806) : Calls Tryz.prog 9 #[.pointer (some ⟨g, 0, none⟩), .int .i64 t, .int .i64 a] w (RetSNext w (Run.nextOf (G.map Run.rowsG) t a)) := by
  obtain ⟨ta, tc, ka, kc, hb, HT, -⟩ := hm.at_
  have HT := Lib.hid HT
  clear hm
  obtain ⟨c0, -, -, -, hg⟩ := Blk.c2 hb
  have hgl := HT.out.few
  obtain ⟨i, hi⟩ : ∃ i : Nat, max a 0 = (i : Int) := ⟨(max a 0).toNat, by omega⟩
  have hmx : (if a < 0 then (0 : Int) else a) = (i : Int) := by rw [← hi]; split <;> omega
  have hi6 : (i : Int) ≤ 9223372036854775806 := by omega
  have HV : Hid (Run.nextOf (G.map Run.rowsG) t a = (Run.rowOf (G.map Run.rowsG) t i).map fun l => (i + 1, l)) := by show _ = _; unfold Run.nextOf; rw [hi]; rfl
  by_cases h1 : t < 0
  · rw [HV.out, Run.rowOf_no (by omega)]
    clear HV HT hb
    go_enter Tryz.func9, Tryz.ntmps9
    go_wp2_with fail
    (try simp only [Exit.inBlock, Exit.then])
    refine bodyPost_ret (results_tmp4 rfl _ _ _) rfl ?_
    exact ⟨Below.refl _ _, rfl⟩
  by_cases h2 : (G.length : Int) ≤ t
  · rw [HV.out, Run.rowOf_no (by simp; omega)]
    clear HV HT hb
    go_enter Tryz.func9, Tryz.ntmps9
    go_wp2_with fail
    (try simp only [Exit.inBlock, Exit.then])
    refine bodyPost_ret (results_tmp4 rfl _ _ _) rfl ?_
    exact ⟨Below.refl _ _, rfl⟩
  obtain ⟨n, rfl⟩ : ∃ n : Nat, t = (n : Int) := ⟨t.toNat, by omega⟩
  have hn : n < G.length := by omega
  obtain ⟨b, o, rfl, -, hc⟩ := T3_at HT.out.r hn
  have HG := Lib.hid (HT.out.in_ _ (List.getElem_mem hn))
  have hrl := HT.out.gl _ (List.getElem_mem hn)
  have HRL := Lib.hid (HT.out.rl _ (List.getElem_mem hn))
  have HRO : Hid (∀ h : i < G[n].l.length, Run.rowOf (G.map Run.rowsG) n i = some G[n].l[i].l) := fun h => Run.rowOf_at hn h
  have HRN : Hid (¬ i < G[n].l.length → Run.rowOf (G.map Run.rowsG) n i = none) := fun h => Run.rowOf_no (by
    rintro ⟨-, -, -, h4⟩
    simp [List.getD, hn] at h4
    omega)
  generalize G[n] = gr at hc HG hrl HRO HRN HRL
  unfold Gr.h at hc
  by_cases h3 : i < gr.l.length
  · have h3i : (i : Int) < (gr.l.length : Int) := by omega
    have HR := Lib.hid (HRO.out h3)
    obtain ⟨b2, o2, ha2, -, hc2⟩ := rw_at HG.out.r h3
    have HIN := Lib.hid (HG.out.in_ _ (List.getElem_mem h3))
    have hln := HRL.out _ (List.getElem_mem h3)
    rw [HV.out, HR.out]
    rw [ha2] at hc
    clear HRO HRN HR HRL ha2 HV HT hb HG
    generalize gr.l[i] = r at hc2 HIN hln
    unfold Rw.v at hc2
    go_enter Tryz.func9, Tryz.ntmps9
    go_wp2_with fail
    refine (vclone_any w r.a r.c r.l HIN.out.r (by omega)).mono ?_
    rintro e w1 ⟨A1, c1, rfl, ho, hB⟩
    have HO := Lib.hid ho
    have HB := Lib.hid hB
    clear ho hB
    go_wp2_with fail
    (try simp only [Exit.inBlock, Exit.then])
    refine bodyPost_ret (results_tmp4 rfl _ _ _) rfl ?_
    exact ⟨HB.out, A1, c1, rfl, HO.out⟩
  · have h3i : (gr.l.length : Int) ≤ (i : Int) := by omega
    rw [HV.out, HRN.out h3]
    clear HRO HRN HRL HV HT hb HG
    go_enter Tryz.func9, Tryz.ntmps9
    go_wp2_with fail
    (try simp only [Exit.inBlock, Exit.then])
    refine bodyPost_ret (results_tmp4 rfl _ _ _) rfl ?_
    exact ⟨Below.refl _ _, rfl⟩
set_option maxRecDepth 20000 in
set_option maxHeartbeats 4000000 in
theorem mrow_any (w : World) (g : Nat) (G : List Gr) (K : List Ks) (hm : MemAt w g G K) (t a : Int) (ha : -9223372036854775808 ≤ a) : Calls Tryz.prog 10 #[.pointer (some ⟨g, 0, none⟩), .int .i64 t, .int .i64 a] w (RetSRow w (Run.rowOf (G.map Run.rowsG) t (a - 1))) := by
  obtain ⟨ta, tc, ka, kc, hb, HT, -⟩ := hm.at_
  have HT := Lib.hid HT
  clear hm
  obtain ⟨c0, -, -, -, hg⟩ := Blk.c2 hb
  have hgl := HT.out.few
  by_cases h1 : t < 0
  · rw [Run.rowOf_no (by omega)]
    clear HT hb
    go_enter Tryz.func10, Tryz.ntmps10
    go_wp2_with fail
    go_ret3
    exact ⟨Below.refl _ _, rfl⟩
  by_cases h2 : (G.length : Int) ≤ t
  · rw [Run.rowOf_no (by simp; omega)]
    clear HT hb
    go_enter Tryz.func10, Tryz.ntmps10
    go_wp2_with fail
    go_ret3
    exact ⟨Below.refl _ _, rfl⟩
  by_cases h0 : a < 1
  · rw [Run.rowOf_no (by omega)]
    clear HT hb
    go_enter Tryz.func10, Tryz.ntmps10
    go_wp2_with fail
    go_ret3
    exact ⟨Below.refl _ _, rfl⟩
  obtain ⟨n, rfl⟩ : ∃ n : Nat, t = (n : Int) := ⟨t.toNat, by omega⟩
  obtain ⟨i, rfl⟩ : ∃ i : Nat, a = (i : Int) + 1 := ⟨(a - 1).toNat, by omega⟩
  rw [show (i : Int) + 1 - 1 = (i : Int) by omega]
  have hn : n < G.length := by omega
  obtain ⟨b, o, rfl, -, hc⟩ := T3_at HT.out.r hn
  have HG := Lib.hid (HT.out.in_ _ (List.getElem_mem hn))
  have hrl := HT.out.gl _ (List.getElem_mem hn)
  have HRL := Lib.hid (HT.out.rl _ (List.getElem_mem hn))
  have HRO : Hid (∀ h : i < G[n].l.length, Run.rowOf (G.map Run.rowsG) n i = some G[n].l[i].l) := fun h => Run.rowOf_at hn h
  have HRN : Hid (¬ i < G[n].l.length → Run.rowOf (G.map Run.rowsG) n i = none) := fun h => Run.rowOf_no (by
    rintro ⟨-, -, -, h4⟩
    simp [List.getD, hn] at h4
    omega)
  generalize G[n] = gr at hc HG hrl HRO HRN HRL
  unfold Gr.h at hc
  by_cases h3 : i < gr.l.length
  · have h3i : (i : Int) < (gr.l.length : Int) := by omega
    have HR := Lib.hid (HRO.out h3)
    obtain ⟨b2, o2, ha2, -, hc2⟩ := rw_at HG.out.r h3
    have HIN := Lib.hid (HG.out.in_ _ (List.getElem_mem h3))
    have hln := HRL.out _ (List.getElem_mem h3)
    rw [HR.out]
    rw [ha2] at hc
    clear HRO HRN HR HRL ha2 HT hb HG
    generalize gr.l[i] = r at hc2 HIN hln
    unfold Rw.v at hc2
    go_enter Tryz.func10, Tryz.ntmps10
    go_wp2_with fail
    refine (vclone_any w r.a r.c r.l HIN.out.r (by omega)).mono ?_
    rintro e w1 ⟨A1, c1, rfl, ho, hB⟩
    have HO := Lib.hid ho
    have HB := Lib.hid hB
    clear ho hB
    go_wp2_with fail
    go_ret3
    exact ⟨HB.out, A1, c1, rfl, HO.out⟩
  · have h3i : (gr.l.length : Int) < (i : Int) + 1 := by omega
    rw [HRN.out h3]
    clear HRO HRN HRL HT hb HG
    go_enter Tryz.func10, Tryz.ntmps10
    go_wp2_with fail
    go_ret3
    exact ⟨Below.refl _ _, rfl⟩
set_option maxRecDepth 20000 in
set_option maxHeartbeats 4000000 in
theorem mseek_any (w : World) (g : Nat) (G : List Gr) (K : List Ks) (hm : MemAt w g G K) (hs : ∀ k ∈ K, Srt.Sorted Run.cmp (Run.keysG k)) (t : Int) (B : Option Addr) (d : Nat) (m : List UInt8) (hmr : BRow w B m) : Calls Tryz.prog 12 #[.pointer (some ⟨g, 0, none⟩), .int .i64 t, .slice B m.length d] w (RetSSeek w (Run.seekOf (K.map Run.keysG) t m)) := by
  obtain ⟨ta, tc, ka, kc, hb, -, HT⟩ := hm.at_
  have HT := Lib.hid HT
  have HMR := Lib.hid hmr
  clear hm hmr
  obtain ⟨-, c0, -, -, hg⟩ := Blk.c2 hb
  have hgl := HT.out.few
  by_cases h1 : t < 0
  · rw [show Run.seekOf (K.map Run.keysG) t m = none from if_neg (by omega)]
    clear HT hb HMR hs
    go_enter Tryz.func12, Tryz.ntmps12
    go_wp2_with fail
    go_ret3
    exact ⟨Below.refl _ _, rfl⟩
  by_cases h2 : (K.length : Int) ≤ t
  · rw [show Run.seekOf (K.map Run.keysG) t m = none from if_neg (by simp; omega)]
    clear HT hb HMR hs
    go_enter Tryz.func12, Tryz.ntmps12
    go_wp2_with fail
    go_ret3
    exact ⟨Below.refl _ _, rfl⟩
  obtain ⟨n, rfl⟩ : ∃ n : Nat, t = (n : Int) := ⟨t.toNat, by omega⟩
  have hn : n < K.length := by omega
  obtain ⟨b, o, rfl, -, hc⟩ := Ks_at HT.out.r hn
  have HG : Hid (ERow eKy w K[n].a K[n].l ∧ ∀ p ∈ K[n].l, BRow w p.a p.l) := ⟨HT.out.rows _ (List.getElem_mem hn), HT.out.by_ _ (List.getElem_mem hn)⟩
  have hrl := HT.out.kl _ (List.getElem_mem hn)
  have HPL := Lib.hid (HT.out.pl _ (List.getElem_mem hn))
  have HSO := Lib.hid (hs _ (List.getElem_mem hn))
  have HV : Hid (Run.seekOf (K.map Run.keysG) n m = (Run.keysG K[n])[Run.find (Run.keysG K[n]) m]?) := by
    show _ = _
    unfold Run.seekOf
    rw [if_pos ⟨by omega, by simpa using hn⟩]
    simp [List.getD, hn]
  rw [HV.out]
  clear HV HT hb hs
  generalize K[n] = ks at hc HG hrl HPL HSO ⊢
  unfold Ks.h at hc
  have hfl : Run.find (Run.keysG ks) m ≤ ks.l.length := by have := Run.find_le (Run.keysG ks) m; simpa using this
  have HSE := Lib.hid (searchk_any w ks.a ks.c ks.l HG.out.1 HG.out.2 (by omega) B d m HMR.out HSO.out)
  unfold Run.keysG at hfl ⊢
  generalize Run.find (ks.l.map (·.l)) m = F at hfl HSE ⊢
  by_cases h3 : F < ks.l.length
  · have h3i : (F : Int) < (ks.l.length : Int) := by omega
    have h3n : ((F : Int) == (ks.l.length : Int)) = false := by rw [beq_eq_false_iff_ne]; omega
    obtain ⟨b2, o2, ha2, -, hc2⟩ := Ky_at HG.out.1 h3
    have HIN := Lib.hid (HG.out.2 _ (List.getElem_mem h3))
    have hln := HPL.out _ (List.getElem_mem h3)
    have HR : Hid ((ks.l.map (·.l))[F]? = some ks.l[F].l) := by show _ = _; simp [h3]
    rw [HR.out]
    rw [ha2] at hc HSE
    clear HR HPL HSO ha2 HG
    generalize ks.l[F] = p at hc2 HIN hln ⊢
    unfold Part.v at hc2
    go_enter Tryz.func12, Tryz.ntmps12
    go_wp2_with fail
    refine HSE.out.mono ?_
    rintro e w1 ⟨⟨bb, rfl⟩, rfl⟩
    go_wp2_with fail
    refine (clone_any w1 p.a p.c p.l HIN.out (by omega)).mono ?_
    rintro e w2 ⟨A1, c1, rfl, ho, hB⟩
    have HO := Lib.hid ho
    have HB := Lib.hid hB
    clear ho hB
    go_wp2_with fail
    go_ret3
    exact ⟨HB.out, A1, c1, rfl, HO.out⟩
  · obtain rfl : F = ks.l.length := by omega
    rw [show (ks.l.map (·.l))[ks.l.length]? = none by simp]
    clear HPL HSO HG
    go_enter Tryz.func12, Tryz.ntmps12
    go_wp2_with fail
    refine HSE.out.mono ?_
    rintro e w1 ⟨⟨bb, rfl⟩, rfl⟩
    go_wp2_with fail
    go_ret3
    exact ⟨Below.refl _ _, rfl⟩
end Go.Proofs.YtpahkaffknnjhaaGreatDoor
end

section
/-
  Printed by mkup.py out of XVal and XValPOrd: the contracts of value.Clean and value.Order, with the count of draws.
-/
namespace Go.Proofs.YtpahkaffknnjhaaGreatDoor
set_option linter.unusedSimpArgs false
set_option linter.unusedVariables false
open Go.RowKit

section
variable {w : World} {ops : Array Oper} {rest : List Oper} {o : Oper} {a : Act} {Q : Exit → Act → World → Prop}
end
end Go.Proofs.YtpahkaffknnjhaaGreatDoor
end

section
/-
  Values that are alike by their order are one (printed from TurnM, EvalNodes, AnsW, SortIns for seats that lack those).
-/
namespace Go.Proofs.YtpahkaffknnjhaaGreatDoor
set_option linter.unusedSimpArgs false
set_option linter.unusedVariables false
open Go.RowKit
section
variable {α : Type} {E : Elem α} {w : World} {B c g : Nat} {L : List α}
end
namespace Key
end Key
namespace Ev
open Key
end Ev
end Go.Proofs.YtpahkaffknnjhaaGreatDoor
end

section
/-
  The kit's laying of slices.SortFunc at values, in plain words (printed by tools/laytext.py for the seat of round r15).
-/
namespace Go.Proofs.YtpahkaffknnjhaaGreatDoor
set_option linter.unusedSimpArgs false
set_option linter.unusedVariables false
open Go.Shelf
end Go.Proofs.YtpahkaffknnjhaaGreatDoor
end

section
/-
  The contract of slices.SortFunc at values, by the kit's own.
-/
namespace Go.Proofs.YtpahkaffknnjhaaGreatDoor
set_option linter.unusedSimpArgs false
set_option linter.unusedVariables false
open Go.RowKit Go.Shelf Go.Sort

namespace Srt
theorem sorted_unique {α : Type} {cmp : α → α → Int} (ho : Ord cmp) : ∀ (X Y : List α), Sorted cmp X → Sorted cmp Y → X.Perm Y → (∀ x ∈ X, ∀ y ∈ X, cmp x y = 0 → x = y) → X = Y
  | [], Y, _, _, hp, _ => hp.symm.eq_nil.symm
  | x :: X, [], _, _, hp, _ => by cases hp.eq_nil
  | x :: X, y :: Y, hX, hY, hp, he => by
    obtain ⟨h1, h2⟩ := List.pairwise_cons.1 hX
    obtain ⟨k1, k2⟩ := List.pairwise_cons.1 hY
    have hy : y ∈ x :: X := hp.mem_iff.2 (by simp)
    have hx : x ∈ y :: Y := hp.mem_iff.1 (by simp)
    have e : x = y := by
      refine he x (by simp) y hy ?_
      have a : ¬ cmp y x < 0 := by
        rcases List.mem_cons.1 hy with e | hy
        · rw [e, ho.self]; omega
        · exact h1 y hy
      have b : ¬ cmp x y < 0 := by
        rcases List.mem_cons.1 hx with e | hx
        · rw [e, ho.self]; omega
        · exact k1 x hx
      have := ho.anti x y
      omega
    subst e
    rw [sorted_unique ho X Y h2 k2 ((List.perm_cons x).1 hp) (fun a ha b hb => he a (by simp [ha]) b (by simp [hb]))]
end Srt
end Go.Proofs.YtpahkaffknnjhaaGreatDoor
end

section
/-
  The kit's laying of slices.SortFunc at slices of bytes, in plain words (printed by tools/laytext.py for one seat).
-/
namespace Go.Proofs.YtpahkaffknnjhaaGreatDoor
set_option linter.unusedSimpArgs false
set_option linter.unusedVariables false
open Go.Shelf
/-- of 23 -/
def laySortKy_ren : Go.Shelf.Ren := ⟨fun | 6 => 23 | 15 => 41 | 14 => 40 | 28 => 89 | 29 => 90 | 20 => 81 | 21 => 82 | 22 => 83 | 23 => 84 | 24 => 85 | 25 => 86 | 26 => 87 | 27 => 88 | 46 => 124 | 47 => 125 | 48 => 126 | 49 => 127 | 50 => 128 | 57 => 153 | n => n, fun | 22 => 77 | 24 => 32 | 25 => 79 | 3 => 3 | 39 => 98 | 0 => 0 | 53 => 141 | 55 => 108 | 4 => 4 | 46 => 135 | 45 => 134 | 50 => 81 | 5 => 5 | 9 => 9 | 66 => 174 | 70 => 178 | 76 => 205 | 77 => 206 | n => n, fun | n => n⟩
/-- of 23 -/
theorem laySortKy : Go.Proofs.SlLaysF.n6 Tryz.prog laySortKy_ren := {
  mixed := by kernel_rfl
  f6 := ⟨Tryz.f23.name, by decide, Tryz.func23.trans (congrArg some (by kernel_rfl))⟩
  f14 := ⟨Tryz.f40.name, by decide, Tryz.func40.trans (congrArg some (by kernel_rfl))⟩
  f15 := Tryz.func41.trans (congrArg some (by kernel_rfl))
  f20 := ⟨Tryz.f81.name, by decide, Tryz.func81.trans (congrArg some (by kernel_rfl))⟩
  f21 := ⟨Tryz.f82.name, by decide, Tryz.func82.trans (congrArg some (by kernel_rfl))⟩
  f22 := ⟨Tryz.f83.name, by decide, Tryz.func83.trans (congrArg some (by kernel_rfl))⟩
  f23 := ⟨Tryz.f84.name, by decide, Tryz.func84.trans (congrArg some (by kernel_rfl))⟩
  f24 := ⟨Tryz.f85.name, by decide, Tryz.func85.trans (congrArg some (by kernel_rfl))⟩
  f25 := ⟨Tryz.f86.name, by decide, Tryz.func86.trans (congrArg some (by kernel_rfl))⟩
  f26 := ⟨Tryz.f87.name, by decide, Tryz.func87.trans (congrArg some (by kernel_rfl))⟩
  f27 := ⟨Tryz.f88.name, by decide, Tryz.func88.trans (congrArg some (by kernel_rfl))⟩
  f28 := Tryz.func89.trans (congrArg some (by kernel_rfl))
  f29 := Tryz.func90.trans (congrArg some (by kernel_rfl))
  f46 := ⟨Tryz.f124.name, by decide, Tryz.func124.trans (congrArg some (by kernel_rfl))⟩
  f47 := Tryz.func125.trans (congrArg some (by kernel_rfl))
  f48 := Tryz.func126.trans (congrArg some (by kernel_rfl))
  f49 := ⟨Tryz.f127.name, by decide, Tryz.func127.trans (congrArg some (by kernel_rfl))⟩
  f50 := ⟨Tryz.f128.name, by decide, Tryz.func128.trans (congrArg some (by kernel_rfl))⟩
  f57 := ⟨Tryz.f153.name, by decide, Tryz.func153.trans (congrArg some (by kernel_rfl))⟩
  t0 := Tryz.underlying0
  a0 := Tryz.isAgg0
  z0 := Tryz.sizeOf0
  v0 := Tryz.zeroValue0
  t3 := Tryz.underlying3
  a3 := Tryz.isAgg3
  z3 := Tryz.sizeOf3
  v3 := Tryz.zeroValue3
  t4 := Tryz.underlying4
  a4 := Tryz.isAgg4
  z4 := Tryz.sizeOf4
  v4 := Tryz.zeroValue4
  t5 := Tryz.underlying5
  a5 := Tryz.isAgg5
  z5 := Tryz.sizeOf5
  v5 := Tryz.zeroValue5
  t9 := Tryz.underlying9
  a9 := Tryz.isAgg9
  z9 := Tryz.sizeOf9
  v9 := Tryz.zeroValue9
  t22 := Tryz.underlying77
  a22 := Tryz.isAgg77
  z22 := Tryz.sizeOf77
  v22 := Tryz.zeroValue77
  a24 := Tryz.isAgg32
  z24 := Tryz.sizeOf32
  t25 := Tryz.underlying79
  a25 := Tryz.isAgg79
  z25 := Tryz.sizeOf79
  v25 := Tryz.zeroValue79
  t39 := Tryz.underlying98
  a39 := Tryz.isAgg98
  z39 := Tryz.sizeOf98
  v39 := Tryz.zeroValue98
  t45 := Tryz.underlying134
  a45 := Tryz.isAgg134
  z45 := Tryz.sizeOf134
  v45 := Tryz.zeroValue134
  t46 := Tryz.underlying135
  a46 := Tryz.isAgg135
  z46 := Tryz.sizeOf135
  v46 := Tryz.zeroValue135
  t50 := Tryz.underlying81
  a50 := Tryz.isAgg81
  z50 := Tryz.sizeOf81
  v50 := Tryz.zeroValue81
  t53 := Tryz.underlying141
  a53 := Tryz.isAgg141
  z53 := Tryz.sizeOf141
  v53 := Tryz.zeroValue141
  t55 := Tryz.underlying108
  a55 := Tryz.isAgg108
  z55 := Tryz.sizeOf108
  v55 := Tryz.zeroValue108
  t66 := Tryz.underlying174
  a66 := Tryz.isAgg174
  z66 := Tryz.sizeOf174
  v66 := Tryz.zeroValue174
  t70 := Tryz.underlying178
  a70 := Tryz.isAgg178
  z70 := Tryz.sizeOf178
  v70 := Tryz.zeroValue178
  t76 := Tryz.underlying205
  a76 := Tryz.isAgg205
  z76 := Tryz.sizeOf205
  v76 := Tryz.zeroValue205
  t77 := Tryz.underlying206
  a77 := Tryz.isAgg206
  z77 := Tryz.sizeOf206
  v77 := Tryz.zeroValue206 }
end Go.Proofs.YtpahkaffknnjhaaGreatDoor
end

section
/-
  The contract of slices.SortFunc at slices of bytes, by the kit's own.
-/
namespace Go.Proofs.YtpahkaffknnjhaaGreatDoor
set_option linter.unusedSimpArgs false
set_option linter.unusedVariables false
open Go.RowKit Go.Shelf Go.Sort

/-- Bytes that can be read in w, in a block of bytes. -/
structure OkP (w : World) where
  p : Part
  ok : BRow w p.a p.l
  u8 : p.l ≠ [] → ∀ a, p.a = some a → isK w 5 a.block
instance (w : World) : Inhabited (OkP w) := ⟨⟨⟨none, 0, []⟩, BRow.nil, fun h => absurd rfl h⟩⟩
def OkP.cmp {w : World} (x y : OkP w) : Int := Run.cmp x.p.l y.p.l
theorem okp_ord (w : World) : Srt.Ord (OkP.cmp (w := w)) := Run.cmp_ord.on fun x : OkP w => x.p.l
theorem okp_swo (w : World) : Go.Sort.SWO (ltOf (OkP.cmp (w := w))) where
  irrefl x := by unfold ltOf; rw [(okp_ord w).self]; rfl
  trans x y z h1 h2 := by
    unfold ltOf at *
    rw [decide_eq_true_iff] at *
    exact (okp_ord w).lt_trans h1 h2
  ntrans x y z h1 h2 := by
    unfold ltOf at *
    rw [decide_eq_false_iff_not] at *
    exact (okp_ord w).le_trans h2 h1
def OkP.enc {w : World} (x : OkP w) : Value := x.p.v
/-- The sort's worlds keep what is in other blocks. -/
theorem sortWorld_keeps {α : Type} [Inhabited α] (enc : α → Value) (w : World) (g n : Nat) (d : Array α) (os : Array Obj) (k : Nat) (hk : k < w.heap.size) (hne : g ≠ k) : (sortWorld enc w g 0 n d os).heap[k]? = w.heap[k]? := by
  unfold sortWorld Go.Sort.putRow Go.Sort.mapBlock Go.Sort.grow
  show ((w.heap.modify g _) ++ os)[k]? = _
  rw [Array.getElem?_append_left (by simpa using hk), Array.getElem?_modify, if_neg hne]
theorem sortWorld_size {α : Type} [Inhabited α] (enc : α → Value) (w : World) (g n : Nat) (d : Array α) (os : Array Obj) : w.heap.size ≤ (sortWorld enc w g 0 n d os).heap.size := by
  unfold sortWorld Go.Sort.putRow Go.Sort.mapBlock Go.Sort.grow
  show _ ≤ ((w.heap.modify g _) ++ os).size
  simp
theorem ky_lays (w : World) (g size : Nat) (hg : isK w 32 g) : CmpLays1 Tryz.prog 24 #[] (OkP.enc (w := w)) OkP.cmp g 0 size w := by
  intro m os dk _ x y
  have hk : ∀ z : OkP w, BRow (sortWorld (OkP.enc (w := w)) w g 0 m dk os) z.p.a z.p.l := fun z => z.ok.keepX (sortWorld_size _ _ _ _ _ _) fun hl a ha => by
    obtain ⟨b, o, e, hlt⟩ := z.ok.lt (by cases hz : z.p.l with | nil => exact absurd hz hl | cons _ _ => simp)
    rw [ha] at e
    cases e
    refine sortWorld_keeps _ w g m dk os b hlt ?_
    rintro rfl
    have := (z.u8 hl _ ha).one hg
    exact absurd this (by decide)
  refine (show Calls Tryz.prog 24 #[x.p.v, y.p.v] _ _ from bcompare_any _ x.p.a y.p.a x.p.c y.p.c x.p.l y.p.l (hk x) (hk y)).mono ?_
  rintro e w' ⟨rfl, rfl⟩
  exact ⟨rfl, 0, #[], by simp [Go.Sort.grow, World.drewN]⟩
set_option maxHeartbeats 2000000 in
theorem sortk_any (w : World) (B : Nat) (A : Option Addr) (c : Nat) (P : List Part) (ho : KyOwn B w A c P) (hlen : P.length ≤ 1000000) :
    Calls Tryz.prog 23 #[.slice A P.length c, .func (.func 24) #[] #[]] w fun e w' => ∃ P', e = .returned (.tuple #[]) ∧ KyOwn B w' A c P' ∧ P'.Perm P ∧ P'.map (·.l) = Srt.ssort Run.cmp (P.map (·.l)) ∧ w.grownBy w' (A.map (·.block)) := by
  rcases ho.own.form with ⟨rfl, rfl, rfl⟩ | ⟨g, rfl, hBg, hgl, -, -, -⟩
  · refine (AnyF.slices_SortFunc_none { laySortKy with } none 0 (.func (.func 24) #[] #[]) w).mono ?_
    rintro e w' ⟨rfl, hw⟩
    subst hw
    exact ⟨[], rfl, ho, List.Perm.refl _, rfl, grown_refl _ _⟩
  · obtain ⟨sp, hb, hsl, -, hlc, hcm⟩ := ho.own.toBlk
    have hok : ∀ p ∈ P, BRow w p.a p.l ∧ (p.l ≠ [] → ∀ a, p.a = some a → isK w 5 a.block) := fun p hp => ⟨(ho.rows p hp).row, fun _ => (ho.rows p hp).kind⟩
    obtain ⟨d, hd⟩ : ∃ d : Array (OkP w), d = (P.pmap (fun p h => OkP.mk p h.1 h.2) hok).toArray := ⟨_, rfl⟩
    have hds : d.size = P.length := by rw [hd]; simp
    have hdm : d.toList.map (·.p) = P := by rw [hd]; simp [List.map_pmap]
    have hdg : ∀ (i : Nat) (h : i < d.size), d[i].p = P[i]'(by omega) := fun i h => by
      have e : (d.toList.map (·.p))[i]? = P[i]? := by rw [hdm]
      simpa [h, show i < P.length by omega] using e
    have hcell : ∀ (L : List Part) (k : Nat) (h : k < L.length), (eKy.cells L)[k]? = some (L[k].v) := fun L k h => by
      have := eKy.cells_get L k 0 h (by decide)
      rw [show k * eKy.sz + 0 = k from by show k * 1 + 0 = k; omega] at this
      exact this
    have hH : Holds (OkP.enc (w := w)) w g 0 d := by
      intro j hj
      refine ⟨?_, hb.free _⟩
      rw [hb.cell, Nat.zero_add, List.getElem?_append_left (by rw [Elem.cells_length]; show j < P.length * 1; omega), hcell P j (by omega), ← hdg j hj]
      unfold OkP.enc
      rw [getElem!_pos d j hj]
    have eg : ∀ args w, (callFunc 24 args).run Tryz.prog w = .ok (.enter 24 args) w := enters_of Tryz.func24 (by kernel_rfl) rfl
    have hcon := Any.slices_SortFunc laySortKy OkP.enc (fun _ => rfl) OkP.cmp (okp_swo w) 24 #[] g 0 c d w eg (ky_lays w g d.size ⟨_, _, hb⟩) hH hgl (by omega)
    rw [hds] at hcon
    refine (show Calls Tryz.prog 23 _ _ _ from hcon).mono ?_
    rintro e w' ⟨rfl, d', n, os, hp, hs, rfl⟩
    have hd's : d'.size = P.length := hp.1.trans hds
    have hperm : (d'.toList.map (·.p)).Perm P := by
      have h := hp.2.2
      rw [show d'.extract 0 P.length = d' by rw [← hd's]; simp, show d.extract 0 P.length = d by rw [← hds]; simp] at h
      rw [← hdm]
      exact h.map _
    have hsort : Srt.Sorted Run.cmp ((d'.toList.map (·.p)).map (·.l)) := by
      refine List.pairwise_iff_getElem.2 fun i j hi hj hij => ?_
      simp only [List.length_map, Array.length_toList] at hi hj
      have h := hs i j (Nat.zero_le _) hij (by omega)
      rw [getElem!_pos d' i hi, getElem!_pos d' j hj] at h
      unfold ltOf OkP.cmp at h
      rw [decide_eq_false_iff_not] at h
      simpa using h
    have hL' : (d'.toList.map (·.p)).map (·.l) = Srt.ssort Run.cmp (P.map (·.l)) :=
      Srt.sorted_unique Run.cmp_ord _ _ hsort (Srt.ssort_sorted Run.cmp_ord _) ((hperm.map _).trans (Srt.ssort_perm _ _).symm) fun x _ y _ h0 => Run.cmp_eq h0
    have hl4 : (d'.toList.map (·.p)).length = P.length := by simpa using hd's
    have hgr : w.grownBy (sortWorld OkP.enc w g 0 n d' os) (some g) := ⟨rfl, rfl, rfl, sortWorld_size _ _ _ _ _ _, fun k hk hne => sortWorld_keeps _ w g n d' os k hk (fun e => hne (by rw [e]))⟩
    refine ⟨d'.toList.map (·.p), rfl, ?_, hperm, hL', hgr⟩
    refine ho.turn (fun p hp => hperm.mem_iff.1 hp) ?_ hgr
    rw [← hl4] at hlc
    refine EOwn.ofBlk (sp := sp) ?_ ?_ hlc hcm hBg
    · show (sortWorld OkP.enc w g 0 n d' os).heap[g]? = _
      have : (sortWorld OkP.enc w g 0 n d' os).heap[g]? = (w.heap[g]?).map (Go.Sort.onCells (Go.Sort.putCells OkP.enc 0 d')) := by
        unfold sortWorld Go.Sort.putRow Go.Sort.mapBlock Go.Sort.grow
        show ((w.heap.modify g _) ++ os)[g]? = _
        rw [Array.getElem?_append_left (by simpa using hgl), Array.getElem?_modify, if_pos rfl]
      rw [this, show w.heap[g]? = _ from hb]
      show some (Go.Obj.cells _ _ _) = _
      congr 2
      apply Array.ext_getElem?
      intro k
      unfold Go.Sort.putCells
      rw [Array.getElem?_mapIdx, List.getElem?_toArray, List.getElem?_toArray]
      by_cases hk : k < P.length
      · rw [List.getElem?_append_left (by rw [Elem.cells_length]; show k < P.length * 1; omega), List.getElem?_append_left (by rw [Elem.cells_length, hl4]; show k < P.length * 1; omega), hcell P k hk, hcell _ k (by omega), Option.map_some, if_pos ⟨Nat.zero_le _, by omega⟩]
        congr 1
        unfold OkP.enc
        rw [Nat.sub_zero, getElem!_pos d' k (by omega)]
        simp
      · rw [List.getElem?_append_right (by rw [Elem.cells_length]; show P.length * 1 ≤ k; omega), List.getElem?_append_right (by rw [Elem.cells_length, hl4]; show P.length * 1 ≤ k; omega), Elem.cells_length, Elem.cells_length, hl4]
        cases sp[k - P.length * eKy.sz]? with
        | none => rfl
        | some x => rw [Option.map_some, if_neg (by omega)]
    · have : (eKy.cells (d'.toList.map (·.p)) ++ sp).length = (eKy.cells P ++ sp).length := by rw [List.length_append, List.length_append, Elem.cells_length, Elem.cells_length, hl4]
      rw [this]; exact hsl
end Go.Proofs.YtpahkaffknnjhaaGreatDoor
end

section
/-
  An index as a planner sees it, and as it lies in memory.
-/
namespace Go.Proofs.YtpahkaffknnjhaaGreatDoor
set_option linter.unusedSimpArgs false
set_option linter.unusedVariables false
open Go.RowKit Go.Deep Go.WideShapes Go.ChangeShapes

/-- An index as a planner sees it. -/
structure Df where
  t : Int
  a : Option Addr
  cols : List Int
  c : Nat
  real : Bool
/-- Indexes. -/
def Df.cells (d : Df) : List Value := [.int .i64 d.t, .slice d.a d.cols.length d.c, .bool d.real]
def Df.v (d : Df) : Value := .agg d.cells.toArray
instance : Inhabited Df := ⟨⟨0, none, [], 0, false⟩⟩
def eDf : Elem Df where
  e := 46
  t := 28
  sz := 3
  bytes := 40
  zero := .agg #[.int .i64 0, .slice none 0 0, .bool false]
  code := Df.cells
  pos := by decide
  few := by decide
  len := fun _ => rfl
  one := by
    intro x u hu
    simp [Df.cells] at hu
    rcases hu with rfl | rfl | rfl <;> rfl
  zsz := rfl
  info := by kernel_rfl
  under := Tryz.underlying28
/-- Indexes that can be read. -/
structure DfsIn (w : World) (A : Option Addr) (L : List Df) : Prop where
  r : ERow eDf w A L
  cr : ∀ d ∈ L, ERow eInt w d.a d.cols
  cl : ∀ d ∈ L, d.cols.length ≤ 1000
  ci : ∀ d ∈ L, ∀ c ∈ d.cols, Ev.inB c
  cp : ∀ d ∈ L, d.cols.length ≤ d.c ∧ d.c ≤ maxLen
  len : L.length ≤ 1000
theorem DfsIn.below {w W : World} {A : Option Addr} {L : List Df} (h : DfsIn w A L) (hB : Below w.heap.size w W) : DfsIn W A L := ⟨h.r.below hB, fun d hd => (h.cr d hd).below hB, h.cl, h.ci, h.cp, h.len⟩
theorem df_at {w : World} {A : Option Addr} {L : List Df} (h : ERow eDf w A L) {i : Nat} (hi : i < L.length) : ∃ b o, A = some ⟨b, o, none⟩ ∧ b < w.heap.size ∧ w.cell? ⟨b, o + i * 3, none⟩ = some (.int .i64 L[i].t) ∧ w.cell? ⟨b, o + i * 3 + 1, none⟩ = some (.slice L[i].a L[i].cols.length L[i].c) := by
  obtain ⟨b, o, e, hb, hc⟩ := h.at_ hi
  exact ⟨b, o, e, hb, hc 0 _ rfl, hc 1 _ rfl⟩
/-! ### an index at a place -/
theorem df_info : (Tryz.prog.info? 46).map (·.size) = some 3 := by kernel_rfl
def Df.nul : Df := ⟨0, none, [], 0, false⟩
theorem df_zero (W : World) : (zeroValue 46).run Tryz.prog W = .ok Df.nul.v W := (zero_of_info (P := Tryz.prog) (t := 46) (v := Df.nul.v) (n := 3) (by kernel_rfl)).1 W
section
variable {w : World} {ops : Array Oper} {rest : List Oper} {o : Oper} {a : Act} {Q : Exit → Act → World → Prop}
theorem wpList_alloc_df (hgd : o.guard = none) (hop : o.op = .alloc 46)
    (h : ∀ W, Blk W w.heap.size 46 Df.nul.cells → w.heap.size + 1 ≤ W.heap.size → Below w.heap.size w W → wpList Tryz.prog ops Q rest (a.put o.dst (.pointer (some ⟨w.heap.size, 0, none⟩))) W) : wpList Tryz.prog ops Q (o :: rest) a w :=
  wpList_alloc_z hgd 46 hop (df_zero _) fun W hW => by
    obtain ⟨h1, h2, h3⟩ := fresh1 (a := Df.nul.cells) hW
    exact h W h1 h2 h3
theorem wpList_store_df (hgd : o.guard = none) (hod : o.dst = none) (x y : Operand) (hop : o.op = .store 46 x y) (g : Nat) (hx : a.eval x = .pointer (some ⟨g, 0, none⟩)) (b : Df) (hy : a.eval y = b.v) {T0 : TypeId} {old : Df} (hb : Blk w g T0 old.cells)
    (h : ∀ W, Blk W g T0 b.cells → w.grownBy W (some g) → wpList Tryz.prog ops Q rest a W) : wpList Tryz.prog ops Q (o :: rest) a w :=
  wpList_store_blk hgd hod 46 x y hop g hx b.cells hy hb rfl df_info (eDf.one b) h
theorem wpList_load_df_at (hgd : o.guard = none) (x : Operand) (hop : o.op = .load 46 x) {b off : Nat} {L : List Df} (hr : ERow eDf w (some ⟨b, off, none⟩) L) {j : Nat} (hj : j < L.length) (p : Df) (hp : L[j] = p) (hx : a.eval x = .pointer (some ⟨b, off + j * 3, none⟩))
    (h : wpList Tryz.prog ops Q rest (a.put o.dst p.v) w) : wpList Tryz.prog ops Q (o :: rest) a w := by
  subst hp
  obtain ⟨b', off', e, hb, hrg⟩ := hr.range hj
  cases e
  exact wpList_load_mid hgd 46 x hop b (off + j * 3) hx L[j].cells _ hrg Tryz.underlying46 rfl df_info h
end
end Go.Proofs.YtpahkaffknnjhaaGreatDoor
end

