/-
  Texts of a proof, one behind the other (each with its own head).
-/
import Derived.Test.YtknfnhmkiooifaaDoorPartDnfbileni
import Derived.Laws.CopyOwn
section
/-
  The walk of dowserlaw08.KeyApart: whatever the lists of values, it answers true.
-/
namespace Go.Proofs.YtknfnhmkiooifaaDoor
set_option linter.unusedSimpArgs false
set_option linter.unusedVariables false
open Go.RowKit

theorem cleanS_of {L : List Va} (h : Few L) : Key.CleanS (L.map Key.dclean) := fun v hv => by
  obtain ⟨u, hu, rfl⟩ := List.mem_map.1 hv
  refine ⟨Key.dclean_ok (h.ok u hu), Key.clean_of u, ?_⟩
  have := h.short u hu
  by_cases k3 : u.k = 3
  · rw [Va.dclean3 k3]; exact this
  · rw [(Key.clean_of u).ss]
    · exact Nat.zero_le _
    · have := Key.kind_dclean u
      intro h3
      unfold Key.dclean Key.cleanF at h3
      (repeat' split at h3) <;> simp_all [Key.nul]
theorem va_kind {w : World} {A : Option Addr} {L : List Va} (h : ERow eVa w A L) {j : Nat} (hj : j < L.length) : ∃ b o, A = some ⟨b, o, none⟩ ∧ b < w.heap.size ∧ w.cell? ⟨b, o + j * 4, none⟩ = some (.int .i64 L[j].k) := by
  obtain ⟨b, o, e, hb, hc⟩ := h.at_ hj
  exact ⟨b, o, e, hb, hc 0 _ rfl⟩
set_option maxRecDepth 20000 in
set_option maxHeartbeats 8000000 in
theorem keyApart_walk (w : World) (v0 : Value) (h0 : ValsW w v0) (v1 : Value) (h1 : ValsW w v1) : Calls Tryd.prog 6 #[v0, v1] w fun e w' => e = .returned (.bool true) ∧ Below w.heap.size w w' := by
  obtain ⟨A, c, L, rfl, hra, hia, hca, hma⟩ := h0
  obtain ⟨B, d, M, rfl, hrb, hib, hcb, hmb⟩ := h1
  have HA := Lib.hid hra
  have HB := Lib.hid hrb
  have HIA := Lib.hid hia
  have HIB := Lib.hid hib
  have HCA := Lib.hid (And.intro hca hma)
  have HCB := Lib.hid (And.intro hcb hmb)
  clear hra hrb hia hib hca hma hcb hmb
  go_enter Tryd.func6, Tryd.ntmps6
  go_wp2_with fail
  refine (klives_any _).mono ?_
  rintro e w1 ⟨rfl, hb1⟩
  have H1 := Lib.hid hb1
  clear hb1
  go_wp2_with fail
  refine (short_any _ A c L (HA.out.below H1.out) HIA.out HCA.out.1 HCA.out.2).mono ?_
  rintro e w2 ⟨rfl, hb2⟩
  have H2 := Lib.hid (H1.out.then hb2)
  clear hb2 H1
  cases hs : shortB L with
  | false =>
    go_wp2_with fail
    refine (klives_any _).mono ?_
    rintro e w3 ⟨rfl, hb3⟩
    go_wp2_with fail
    go_ret
    exact ⟨rfl, H2.out.then hb3⟩
  | true =>
  have HFA := Lib.hid (few_of hs HIA.out)
  clear hs
  go_wp2_with fail
  refine (short_any _ B d M (HB.out.below H2.out) HIB.out HCB.out.1 HCB.out.2).mono ?_
  rintro e w3 ⟨rfl, hb3⟩
  have H3 := Lib.hid (H2.out.then hb3)
  clear hb3 H2
  cases hs : shortB M with
  | false =>
    go_wp2_with fail
    refine (klives_any _).mono ?_
    rintro e w4 ⟨rfl, hb4⟩
    go_wp2_with fail
    go_ret
    exact ⟨rfl, H3.out.then hb4⟩
  | true =>
  have HFB := Lib.hid (few_of hs HIB.out)
  clear hs HIA HIB HCA HCB
  have hL20 := HFA.out.2.1
  have hM20 := HFB.out.2.1
  go_wp2_with fail
  refine (lclean_any _ A c L (HA.out.below H3.out) HFA.out.1).mono ?_
  rintro e w4 ⟨A4, c4, rfl, ho4, hb4⟩
  have H4 := Lib.hid (And.intro ho4.row (H3.out.then hb4))
  clear ho4 hb4 H3
  have HX0 : Hid ((L.map Key.dclean).length = L.length) := List.length_map ..
  have HY0 : Hid ((M.map Key.dclean).length = M.length) := List.length_map ..
  have HCX := Lib.hid (And.intro (cleanL_of HFA.out.1) (cleanS_of HFA.out.1))
  have HCY := Lib.hid (And.intro (cleanL_of HFB.out.1) (cleanS_of HFB.out.1))
  rw [HX0.out]
  go_wp2_with fail
  refine (lclean_any _ B d M (HB.out.below H4.out.2) HFB.out.1).mono ?_
  rintro e w5 ⟨A5, c5, rfl, ho5, hb5⟩
  have H5 := Lib.hid (And.intro (H4.out.1.below hb5) (And.intro ho5.row (H4.out.2.then hb5)))
  clear ho5 hb5 H4
  rw [HY0.out]
  have HRE := Lib.hid (Key.row_exact L M (by omega) (by omega) HCX.out.2 HCY.out.2)
  have HKE : Hid (L.length = M.length → (∀ p ∈ (L.map Key.dclean).zip (M.map Key.dclean), p.1.k = p.2.k) → (Key.key L == Key.key M) = exactB (L.map Key.dclean) (M.map Key.dclean)) := fun h1 h2 => Key.key_exact L M h1 HCX.out.2 HCY.out.2 h2
  have HEX : Hid (∀ wq, Below w5.heap.size w5 wq → Calls Tryd.prog 21 #[.slice A4 L.length c4, .slice A5 M.length c5] wq fun e w' => e = .returned (.bool (exactB (L.map Key.dclean) (M.map Key.dclean))) ∧ Below wq.heap.size wq w') := fun wq hq => by
    have := lexact_any wq A4 A5 c4 c5 _ _ (H5.out.1.below hq) (H5.out.2.1.below hq) HCX.out.1 HCY.out.1
    rw [HX0.out, HY0.out] at this
    exact this
  have HKX : Hid (∀ wq, Below w.heap.size w wq → Calls Tryd.prog 13 #[.slice A L.length c] wq (RetB wq (Key.key L)) ∧ Calls Tryd.prog 13 #[.slice B M.length d] wq (RetB wq (Key.key M)) ∧ Calls Tryd.prog 20 #[.slice A L.length c] wq (RetB wq (Key.row L)) ∧ Calls Tryd.prog 20 #[.slice B M.length d] wq (RetB wq (Key.row M))) := fun wq h =>
    ⟨key_any wq A c L (HA.out.below h) HFA.out.1, key_any wq B d M (HB.out.below h) HFB.out.1, row_any wq A c L (HA.out.below h) HFA.out.1, row_any wq B d M (HB.out.below h) HFB.out.1⟩
  generalize hEX : exactB (L.map Key.dclean) (M.map Key.dclean) = ex at HRE HKE HEX
  clear hEX
  have keq := xstr_eq
  have geq := xeqg
  have hd5 : Below w.heap.size w w5.drew := H5.out.2.2.trans ((Below.refl w5.heap.size w5).drewR.mono H5.out.2.2.size)
  have HD5 := Lib.hid hd5
  clear hd5
  go_upto_region 4 with fail
  refine wp_region_plan (.take 0 (.take 3 (.take 7 (.take 8 (.run 1 [3, 7, 8] (.take 2 (.run 4 [7, 8, 2] (.take 5 (.take 6 (.run 9 [2, 5, 6] (.take 10 .fin))))))))))) (by kernel_rfl) (by kernel_rfl) (by kernel_rfl) (by kernel_rfl) ?_
  repeat' (first | (refine hZ _ _ ?_; clear hZ) | (refine hZ _ ?_; clear hZ) | (refine hZ ?_; clear hZ) | rw [again_nil] | rw [walk_fin] | ((first | rw [walk_take] | rw [walk_run] | rw [again_cons]); intro Z hZ; simp only [sel, List.getElem?_toArray, List.getElem?_cons_zero, List.getElem?_cons_succ]; go_wp2_with (fail)))
  refine (HKX.out _ HD5.out).2.2.1.mono ?_
  rintro e w6 ⟨A6, c6, rfl, ho6, hb6⟩
  have H6 := Lib.hid (And.intro ho6.row (And.intro (HD5.out.then hb6) ((Below.refl w5.heap.size w5).drewR.then hb6)))
  have hs6 : ∀ c', (convert 30 9 (.slice A6 (Key.row L).length c')).run Tryd.prog w6 = .ok (txt (Key.row L)) w6 := fun c' => run_string_bytes w6 c' H6.out.1
  clear ho6 hb6
  go_wp2_with fail
  repeat' (first | (refine hZ _ _ ?_; clear hZ) | (refine hZ _ ?_; clear hZ) | (refine hZ ?_; clear hZ) | rw [again_nil] | rw [walk_fin] | ((first | rw [walk_take] | rw [walk_run] | rw [again_cons]); intro Z hZ; simp only [sel, List.getElem?_toArray, List.getElem?_cons_zero, List.getElem?_cons_succ]; go_wp2_with (fail)))
  refine (HKX.out _ H6.out.2.1).2.2.2.mono ?_
  rintro e w7 ⟨A7, c7, rfl, ho7, hb7⟩
  have H7 := Lib.hid (And.intro (H6.out.1.below hb7) (And.intro ho7.row (And.intro (H6.out.2.1.then hb7) (H6.out.2.2.then hb7))))
  have hs7 : ∀ c', (convert 30 9 (.slice A6 (Key.row L).length c')).run Tryd.prog w7 = .ok (txt (Key.row L)) w7 := fun c' => run_string_bytes w7 c' H7.out.1
  have hs8 : ∀ c', (convert 30 9 (.slice A7 (Key.row M).length c')).run Tryd.prog w7 = .ok (txt (Key.row M)) w7 := fun c' => run_string_bytes w7 c' H7.out.2.1
  clear ho7 hb7 hs6
  go_wp2_with fail
  repeat' (first | (refine hZ _ _ ?_; clear hZ) | (refine hZ _ ?_; clear hZ) | (refine hZ ?_; clear hZ) | rw [again_nil] | rw [walk_fin] | ((first | rw [walk_take] | rw [walk_run] | rw [again_cons]); intro Z hZ; simp only [sel, List.getElem?_toArray, List.getElem?_cons_zero, List.getElem?_cons_succ]; go_wp2_with (fail)))
  refine (HEX.out _ H7.out.2.2.2).mono ?_
  rintro e w8 ⟨rfl, hb8⟩
  have H8 := Lib.hid (And.intro (H7.out.1.below hb8) (And.intro (H7.out.2.1.below hb8) (And.intro (H7.out.2.2.1.then hb8) (H7.out.2.2.2.then hb8))))
  have hs9 : ∀ c', (convert 30 9 (.slice A6 (Key.row L).length c')).run Tryd.prog w8 = .ok (txt (Key.row L)) w8 := fun c' => run_string_bytes w8 c' H8.out.1
  have hs10 : ∀ c', (convert 30 9 (.slice A7 (Key.row M).length c')).run Tryd.prog w8 = .ok (txt (Key.row M)) w8 := fun c' => run_string_bytes w8 c' H8.out.2.1
  have hre := HRE.out
  have hxx : (ex != ex) = false := by simp
  clear hb8 hs7 hs8
  go_wp2_with fail
  repeat' (first | (refine hZ _ _ ?_; clear hZ) | (refine hZ _ ?_; clear hZ) | (refine hZ ?_; clear hZ) | rw [again_nil] | rw [walk_fin] | ((first | rw [walk_take] | rw [walk_run] | rw [again_cons]); intro Z hZ; simp only [sel, List.getElem?_toArray, List.getElem?_cons_zero, List.getElem?_cons_succ]; go_wp2_with (fail)))
  have HXR := Lib.hid (And.intro ((H5.out.1.below H8.out.2.2.2)) (H5.out.2.1.below H8.out.2.2.2))
  clear hs9 hs10 hre hxx HRE H5 H6 H7
  by_cases hlm : L.length = M.length
  · have HLM := Lib.hid hlm
    rw [hlm]
    clear hlm
    go_wp2_with fail
    go_loopw [43] (fun iv wr => ∃ k : Nat, k ≤ M.length ∧ iv = .int .i64 (k : Int) ∧ Hid ((∀ i (h1 : i < (L.map Key.dclean).length) (h2 : i < (M.map Key.dclean).length), i < k → (L.map Key.dclean)[i].k = (M.map Key.dclean)[i].k) ∧ Below w8.heap.size w8 wr)) (fun iv _ => M.length - (intOf iv).toNat)
    case atStart => exact ⟨0, Nat.zero_le _, rfl, by intro i _ _ h; omega, Below.refl _ _⟩
    case round =>
      obtain ⟨k, hk, rfl, HJ⟩ := hrel
      by_cases hlt : k < M.length
      · have hii : (k : Int) < (M.length : Int) := by omega
        have hkx : k < (L.map Key.dclean).length := by rw [HX0.out, HLM.out]; exact hlt
        have hky : k < (M.map Key.dclean).length := by rw [HY0.out]; exact hlt
        obtain ⟨ba, oa, rfl, hba, hca⟩ := va_kind (HXR.out.1.below (HJ.out.2.trans ((Below.refl wr.heap.size wr).drewR.mono HJ.out.2.size))) hkx
        obtain ⟨bb, ob, rfl, hbb, hcb⟩ := va_kind (HXR.out.2.below (HJ.out.2.trans ((Below.refl wr.heap.size wr).drewR.mono HJ.out.2.size))) hky
        have HKN := Lib.hid (fun (h : (L.map Key.dclean)[k].k = (M.map Key.dclean)[k].k) => h)
        go_upto_region 11 with fail
        by_cases he : (L.map Key.dclean)[k].k = (M.map Key.dclean)[k].k
        · have HE := Lib.hid he
          rw [he] at hca
          clear he HKN
          generalize (M.map Key.dclean)[k].k = ky at hca hcb
          refine wp_region_plan (.take 0 (.take 1 (.take 2 (.take 3 (.take 4 (.take 5 (.take 6 (.take 7 (.take 8 (.take 9 (.take 10 .fin))))))))))) (by kernel_rfl) (by kernel_rfl) (by kernel_rfl) (by kernel_rfl) ?_
          repeat' (first | (refine hZ _ _ ?_; clear hZ) | (refine hZ _ ?_; clear hZ) | (refine hZ ?_; clear hZ) | rw [again_nil] | rw [walk_fin] | ((first | rw [walk_take] | rw [walk_run] | rw [again_cons]); intro Z hZ; simp only [sel, List.getElem?_toArray, List.getElem?_cons_zero, List.getElem?_cons_succ]; go_wp2_with (fail)))
          clear hca hcb
          go_wp2_with fail
          go_roundw
          case rel =>
            refine ⟨k + 1, by omega, by go_num, ?_, HJ.out.2.drewR⟩
            intro i h1 h2 h3
            by_cases hik : i < k
            · exact HJ.out.1 i h1 h2 hik
            · obtain rfl : i = k := by omega
              exact HE.out
          case measure => simp [intOf]; omega
        · clear HKN
          generalize (M.map Key.dclean)[k].k = ky at hca hcb he
          generalize (L.map Key.dclean)[k].k = kx at hca he
          have he1 : (kx != ky) = true := by simp [he]
          have he2 : (kx == ky) = false := by simp [he]
          refine wp_region_plan (.take 0 (.take 1 (.take 2 (.take 3 (.take 4 (.take 5 (.take 6 (.take 7 (.take 8 (.take 9 (.take 10 .fin))))))))))) (by kernel_rfl) (by kernel_rfl) (by kernel_rfl) (by kernel_rfl) ?_
          repeat' (first | (refine hZ _ _ ?_; clear hZ) | (refine hZ _ ?_; clear hZ) | (refine hZ ?_; clear hZ) | rw [again_nil] | rw [walk_fin] | ((first | rw [walk_take] | rw [walk_run] | rw [again_cons]); intro Z hZ; simp only [sel, List.getElem?_toArray, List.getElem?_cons_zero, List.getElem?_cons_succ]; go_wp2_with (fail)))
          clear hca hcb
          go_wp2_with fail
          go_ret
          exact ⟨rfl, (H8.out.2.2.1.then HJ.out.2).drewR⟩
      · obtain rfl : k = M.length := by omega
        have HQ := Lib.hid (HKE.out HLM.out fun p hp => by
          obtain ⟨i, hi, rfl⟩ := List.getElem_of_mem hp
          have h1 : i < (L.map Key.dclean).length := by simp at hi ⊢; omega
          have h2 : i < (M.map Key.dclean).length := by simp at hi ⊢; omega
          have := HJ.out.1 i h1 h2 (by simpa using h2)
          simpa using this)
        have HWR := Lib.hid (And.intro (H8.out.2.2.1.then HJ.out.2) (H8.out.2.2.2.then HJ.out.2))
        have HD := Lib.hid (HWR.out.1.trans ((Below.refl wr.heap.size wr).drewR.mono HWR.out.1.size))
        go_upto_region 14 with fail
        refine wp_region_plan (.take 0 (.take 3 (.take 7 (.take 8 (.run 1 [3, 7, 8] (.take 2 (.run 4 [7, 8, 2] (.take 5 (.take 6 (.run 9 [2, 5, 6] (.take 10 (.take 11 .fin)))))))))))) (by kernel_rfl) (by kernel_rfl) (by kernel_rfl) (by kernel_rfl) ?_
        repeat' (first | (refine hZ _ _ ?_; clear hZ) | (refine hZ _ ?_; clear hZ) | (refine hZ ?_; clear hZ) | rw [again_nil] | rw [walk_fin] | ((first | rw [walk_take] | rw [walk_run] | rw [again_cons]); intro Z hZ; simp only [sel, List.getElem?_toArray, List.getElem?_cons_zero, List.getElem?_cons_succ]; go_wp2_with (fail)))
        have hk1 := (HKX.out _ HD.out).1
        rw [HLM.out] at hk1
        refine hk1.mono ?_
        rintro e v6 ⟨A6, c6, rfl, ho6, hb6⟩
        have G6 := Lib.hid (And.intro ho6.row (And.intro (HD.out.then hb6) (HWR.out.2.then ((Below.refl wr.heap.size wr).drewR.then hb6))))
        have hs6 : ∀ c', (convert 30 9 (.slice A6 (Key.key L).length c')).run Tryd.prog v6 = .ok (txt (Key.key L)) v6 := fun c' => run_string_bytes v6 c' G6.out.1
        clear ho6 hb6 hk1
        go_wp2_with fail
        repeat' (first | (refine hZ _ _ ?_; clear hZ) | (refine hZ _ ?_; clear hZ) | (refine hZ ?_; clear hZ) | rw [again_nil] | rw [walk_fin] | ((first | rw [walk_take] | rw [walk_run] | rw [again_cons]); intro Z hZ; simp only [sel, List.getElem?_toArray, List.getElem?_cons_zero, List.getElem?_cons_succ]; go_wp2_with (fail)))
        refine (HKX.out _ G6.out.2.1).2.1.mono ?_
        rintro e v7 ⟨A7, c7, rfl, ho7, hb7⟩
        have G7 := Lib.hid (And.intro (G6.out.1.below hb7) (And.intro ho7.row (And.intro (G6.out.2.1.then hb7) (G6.out.2.2.then hb7))))
        have hs7 : ∀ c', (convert 30 9 (.slice A6 (Key.key L).length c')).run Tryd.prog v7 = .ok (txt (Key.key L)) v7 := fun c' => run_string_bytes v7 c' G7.out.1
        have hs8 : ∀ c', (convert 30 9 (.slice A7 (Key.key M).length c')).run Tryd.prog v7 = .ok (txt (Key.key M)) v7 := fun c' => run_string_bytes v7 c' G7.out.2.1
        clear ho7 hb7 hs6
        go_wp2_with fail
        repeat' (first | (refine hZ _ _ ?_; clear hZ) | (refine hZ _ ?_; clear hZ) | (refine hZ ?_; clear hZ) | rw [again_nil] | rw [walk_fin] | ((first | rw [walk_take] | rw [walk_run] | rw [again_cons]); intro Z hZ; simp only [sel, List.getElem?_toArray, List.getElem?_cons_zero, List.getElem?_cons_succ]; go_wp2_with (fail)))
        have hex := HEX.out _ G7.out.2.2.2
        rw [HLM.out] at hex
        refine hex.mono ?_
        rintro e v8 ⟨rfl, hb8⟩
        have G8 := Lib.hid (And.intro (G7.out.1.below hb8) (And.intro (G7.out.2.1.below hb8) (G7.out.2.2.1.then hb8)))
        have hs9 : ∀ c', (convert 30 9 (.slice A6 (Key.key L).length c')).run Tryd.prog v8 = .ok (txt (Key.key L)) v8 := fun c' => run_string_bytes v8 c' G8.out.1
        have hs10 : ∀ c', (convert 30 9 (.slice A7 (Key.key M).length c')).run Tryd.prog v8 = .ok (txt (Key.key M)) v8 := fun c' => run_string_bytes v8 c' G8.out.2.1
        have hke := HQ.out
        have hxx : (ex == ex) = true := by simp
        clear hb8 hs7 hs8 hex
        go_wp2_with fail
        repeat' (first | (refine hZ _ _ ?_; clear hZ) | (refine hZ _ ?_; clear hZ) | (refine hZ ?_; clear hZ) | rw [again_nil] | rw [walk_fin] | ((first | rw [walk_take] | rw [walk_run] | rw [again_cons]); intro Z hZ; simp only [sel, List.getElem?_toArray, List.getElem?_cons_zero, List.getElem?_cons_succ]; go_wp2_with (fail)))
        clear hs9 hs10 hke
        go_wp2_with fail
        go_ret
        exact ⟨rfl, G8.out.2.2⟩
  · have hlm2 : ¬ ((L.length : Nat) : Int) = (M.length : Int) := by omega
    clear hlm
    go_wp2_with fail
    go_ret
    exact ⟨rfl, H8.out.2.2.1⟩
end Go.Proofs.YtknfnhmkiooifaaDoor
end

section
/-
  The contract of key.text: a text at the beginning of bytes, behind its first one.
-/
namespace Go.Proofs.YtknfnhmkiooifaaDoor
set_option linter.unusedSimpArgs false
set_option linter.unusedVariables false
open Go.RowKit

namespace Key
/-- A text out of its bytes in a key: the error, the text, where it ends; i: the place of the bytes' first one, acc: what was read. -/
def tx : Nat → List UInt8 → List UInt8 → Int × List UInt8 × Nat
  | _, _, [] => (10, [], 0)
  | i, acc, c :: l => if c ≠ 0 then tx (i + 1) (acc ++ [c]) l else
    match l with
    | [] => (10, [], 0)
    | d :: l' => if d = 0 then (0, acc, i + 2) else if d ≠ 255 then (7, [], 0) else tx (i + 2) (acc ++ [0]) l'
def txV (r : Int × List UInt8 × Nat) : Va := if r.1 = 0 then ⟨3, 0, 0, r.2.1⟩ else nul
end Key
theorem ret_va3 {fn : Func} {R : Ending → World → Prop} {a : Act} {w : World} {p u u' : Tmp} {g : Nat} {T0 : TypeId} {b : Va} {y y' : Value} (hb : Blk w g T0 b.cells) (h : fn.results = #[.cell p 27, .tmp u, .tmp u']) (hd : a.defers = [])
    (hp : a.tmps.getD p undef = .pointer (some ⟨g, 0, none⟩)) (hu : a.tmps.getD u undef = y) (hu' : a.tmps.getD u' undef = y') (hR : R (.returned (.tuple #[b.v, y, y'])) w) : bodyPost Tryd.prog fn R .ret a w :=
  ret_mem3 h hd hp hu hu' hb.va hR
/-- What key.text and key.take answer. -/
def RetT (w : World) (v : Va) (n : Nat) (er : Int) (e : Ending) (w' : World) : Prop := e = .returned (.tuple #[v.v, .int .i64 (n : Int), .int .i64 er]) ∧ Below w.heap.size w w'
set_option maxRecDepth 20000 in
set_option maxHeartbeats 4000000 in
theorem ktext_any (w : World) (A : Option Addr) (c : Nat) (l : List UInt8) (hr : BRow w A l) (hl : 1 ≤ l.length) (hm : l.length ≤ 1000000) : Calls Tryd.prog 72 #[.slice A l.length c] w (RetT w (Key.txV (Key.tx 1 [] (l.drop 1))) (Key.tx 1 [] (l.drop 1)).2.2 (Key.tx 1 [] (l.drop 1)).1) := by
  have HR := Lib.hid hr
  clear hr
  go_enter Tryd.func72, Tryd.ntmps72
  go_upto_region 1 with (refine wpList_alloc_va rfl rfl ?_; intro W1 hb1 hz1 hB1)
  have HI : Hid (Blk W1 w.heap.size 27 Key.nul.cells ∧ Below w.heap.size w W1 ∧ BOwn W1 (w.heap.size + 1) none 0 []) := ⟨hb1, hB1, BOwn.nil _ _⟩
  clear hb1 hB1
  go_wp2_with fail
  go_loopw [5, 6] (fun sv iv wr => ∃ (i : Nat) (acc : List UInt8) (A1 : Option Addr) (c1 : Nat), i ≤ l.length ∧ acc.length ≤ i ∧ sv = .slice A1 acc.length c1 ∧ iv = .int .i64 (i : Int) ∧ w.heap.size + 1 ≤ wr.heap.size ∧ Hid (Key.tx 1 [] (l.drop 1) = Key.tx i acc (l.drop i) ∧ Blk wr w.heap.size 27 Key.nul.cells ∧ Below w.heap.size w wr ∧ BOwn wr (w.heap.size + 1) A1 c1 acc)) (fun _ iv _ => l.length - (intOf iv).toNat)
  case atStart => exact ⟨1, [], none, 0, hl, by simp, rfl, rfl, hz1, rfl, HI.out.1, HI.out.2.1, HI.out.2.2⟩
  case round =>
    obtain ⟨i, acc, A1, c1, hi, ha, rfl, rfl, hz, HJ⟩ := hrel
    clear HI
    by_cases hlt : i < l.length
    · have hii : (i : Int) < (l.length : Int) := by omega
      have hB := HR.out.below HJ.out.2.2.1
      obtain ⟨b, o, rfl, hb, hc⟩ := hB.at_ hlt
      have hd1 : l.drop i = l[i] :: l.drop (i + 1) := (List.getElem_cons_drop hlt).symm
      by_cases h0 : l[i] = 0
      · have hc0 : wr.cell? ⟨b, o + i, none⟩ = some (.int .u8 0) := by rw [hc, h0]; rfl
        clear hc hb
        by_cases h2 : i + 1 < l.length
        · have hii2 : ((i : Int) + 1) < (l.length : Int) := by omega
          have hii3 : ¬ ((i : Int) + 1) = (l.length : Int) := by omega
          obtain ⟨b', o', e', hb', hc'⟩ := hB.at_ h2
          simp only [Option.some.injEq, Addr.mk.injEq, and_true] at e'
          obtain ⟨rfl, rfl⟩ := e'
          have hd2 : l.drop (i + 1) = l[i + 1] :: l.drop (i + 2) := (List.getElem_cons_drop h2).symm
          have HTX : Hid (Key.tx 1 [] (l.drop 1) = if l[i + 1] = 0 then (0, acc, i + 2) else if l[i + 1] ≠ 255 then (7, [], 0) else Key.tx (i + 2) (acc ++ [0]) (l.drop (i + 2))) := by
            show _ = _
            rw [HJ.out.1, hd1, h0, hd2]
            simp [Key.tx]
          have hbk := HJ.out.2.1
          have HB := Lib.hid HJ.out.2.2.1
          have HO := Lib.hid HJ.out.2.2.2
          clear hd1 h0 hd2 HJ hB hb'
          by_cases d0 : l[i + 1] = 0
          · have HT : Hid (Key.tx 1 [] (l.drop 1) = (0, acc, i + 2)) := by show _ = _; rw [HTX.out, if_pos d0]
            have hc1 : wr.cell? ⟨b, o + (i + 1), none⟩ = some (.int .u8 0) := by rw [hc', d0]; rfl
            have hsb : (convert 30 9 (.slice A1 acc.length c1)).run Tryd.prog wr = .ok (txt acc) wr := run_string_bytes wr c1 HO.out.row
            clear hc' d0 HTX
            go_wp2_with fail
            refine (oftext_any _ acc).mono ?_
            rintro e W3 ⟨rfl, hB3⟩
            have hbk3 := hbk.below hB3
            have HB3 := Lib.hid (HB.out.then hB3)
            have hz3 := hB3.size
            clear hB3 hbk hsb hc0 hc1
            go_wp2_with (refine wpList_store_va rfl rfl (.tmp 2) (.tmp 41) rfl w.heap.size rfl ⟨3, 0, 0, acc⟩ rfl hbk3 ?_; intro W4 hb4 hg4)
            exact ret_va3 hb4 rfl rfl rfl rfl rfl ⟨by rw [HT.out]; show Ending.returned (.tuple #[_, .int .i64 _, _]) = .returned (.tuple #[_, .int .i64 ((i + 2 : Nat) : Int), _]); congr 3 <;> first | rfl | (simp; omega), below_of_grown HB3.out hg4 (Nat.le_refl _) (by omega)⟩
          by_cases d5 : l[i + 1] = 255
          · have HT : Hid (Key.tx 1 [] (l.drop 1) = Key.tx (i + 2) (acc ++ [0]) (l.drop (i + 2))) := by show _ = _; rw [HTX.out, if_neg d0, if_neg (by simpa using d5)]
            have hc1 : wr.cell? ⟨b, o + (i + 1), none⟩ = some (.int .u8 255) := by rw [hc', d5]; rfl
            clear hc' d0 d5 HTX
            have hone : BRow (wr.alloc (.cells #[.int .u8 0] 5)) (some ⟨wr.heap.size, 0, none⟩) [0] := BRow.one _ _ _ _ rfl
            have hal := HO.out.alloc (.cells #[.int .u8 0] 5)
            go_wp2_with (at_builtin; refine wpList_append_bytes rfl (.tmp 51) (.tmp 52) rfl _ rfl hal rfl _ rfl hone rfl (by simp; omega) (by simp; omega) ?_; intro A5 c5 W5 ho5 hb5 _ _)
            have HK5 : Hid (Blk W5 w.heap.size 27 Key.nul.cells) := (hb5.block _ (Nat.lt_succ_self _)).trans (hbk.alloc _)
            have HB5 : Hid (Below w.heap.size w W5) := (HB.out.trans ((Below.alloc1 wr _).mono HB.out.size)).trans (hb5.mono (Nat.le_succ _))
            have hz5 : w.heap.size + 1 ≤ W5.heap.size := by have := hb5.size; simp at this; omega
            clear hone hal hb5 hc0 hc1 hbk
            go_roundw
            case rel => exact ⟨i + 2, acc ++ [0], A5, c5, by omega, by simp; omega, by simp, by go_num, hz5, HT.out, HK5.out, HB5.out, ho5⟩
            case measure => simp [intOf]; omega
          · have HT : Hid (Key.tx 1 [] (l.drop 1) = (7, [], 0)) := by show _ = _; rw [HTX.out, if_neg d0, if_pos (by simpa using d5)]
            have hx := l[i + 1].toNat_lt
            have n0 : ¬ (l[i + 1].toNat : Int) = 0 := fun h => d0 (UInt8.toNat_inj.1 (by have e0 : (0 : UInt8).toNat = 0 := rfl; omega))
            have n5 : ¬ (l[i + 1].toNat : Int) = 255 := fun h => d5 (UInt8.toNat_inj.1 (by have e0 : (255 : UInt8).toNat = 255 := rfl; omega))
            clear d0 d5 HTX
            generalize l[i + 1].toNat = x at hc' hx n0 n5
            go_wp2_with (refine wpList_store_va rfl rfl (.tmp 2) (.tmp 50) rfl w.heap.size rfl Key.nul rfl hbk ?_; intro W4 hb4 hg4)
            exact ret_va3 hb4 rfl rfl rfl rfl rfl ⟨by rw [HT.out]; rfl, below_of_grown HB.out hg4 (Nat.le_refl _) (by omega)⟩
        · have he : l.length = i + 1 := by omega
          have HT : Hid (Key.tx 1 [] (l.drop 1) = (10, [], 0)) := by
            show _ = _
            rw [HJ.out.1, hd1, h0, List.drop_of_length_le (by omega)]
            simp [Key.tx]
          have hii3 : ((i : Int) + 1) = (l.length : Int) := by omega
          have hbk := HJ.out.2.1
          have HB := Lib.hid HJ.out.2.2.1
          clear hd1 h0 he h2 HJ hB
          go_wp2_with (refine wpList_store_va rfl rfl (.tmp 2) (.tmp 32) rfl w.heap.size rfl Key.nul rfl hbk ?_; intro W4 hb4 hg4)
          exact ret_va3 hb4 rfl rfl rfl rfl rfl ⟨by rw [HT.out]; rfl, below_of_grown HB.out hg4 (Nat.le_refl _) (by omega)⟩
      · have HT : Hid (Key.tx 1 [] (l.drop 1) = Key.tx (i + 1) (acc ++ [l[i]]) (l.drop (i + 1))) := by
          show _ = _
          rw [HJ.out.1, hd1]
          conv => lhs; unfold Key.tx
          rw [if_pos h0]
        have hx := l[i].toNat_lt
        have n0 : ¬ (l[i].toNat : Int) = 0 := fun h => h0 (UInt8.toNat_inj.1 (by have e0 : (0 : UInt8).toNat = 0 := rfl; omega))
        have HBV : Hid (bv l[i] = .int .u8 (l[i].toNat : Int)) := rfl
        have hbk := HJ.out.2.1
        have HB := Lib.hid HJ.out.2.2.1
        have HO := Lib.hid HJ.out.2.2.2
        clear hd1 h0 HJ hB hb
        generalize l[i].toNat = x at hc hx n0 HBV
        have hone : BRow (wr.alloc (.cells #[.int .u8 (x : Int)] 5)) (some ⟨wr.heap.size, 0, none⟩) [l[i]] := BRow.one _ _ _ _ HBV.out
        have hal := HO.out.alloc (.cells #[.int .u8 (x : Int)] 5)
        go_wp2_with (at_builtin; refine wpList_append_bytes rfl (.tmp 18) (.tmp 23) rfl _ rfl hal rfl _ rfl hone rfl (by simp; omega) (by simp; omega) ?_; intro A5 c5 W5 ho5 hb5 _ _)
        have HK5 : Hid (Blk W5 w.heap.size 27 Key.nul.cells) := (hb5.block _ (Nat.lt_succ_self _)).trans (hbk.alloc _)
        have HB5 : Hid (Below w.heap.size w W5) := (HB.out.trans ((Below.alloc1 wr _).mono HB.out.size)).trans (hb5.mono (Nat.le_succ _))
        have hz5 : w.heap.size + 1 ≤ W5.heap.size := by have := hb5.size; simp at this; omega
        clear hone hal hb5 hc hbk
        go_roundw
        case rel => exact ⟨i + 1, acc ++ [l[i]], A5, c5, by omega, by simp; omega, by simp, by go_num, hz5, HT.out, HK5.out, HB5.out, ho5⟩
        case measure => simp [intOf]; omega
    · obtain rfl : i = l.length := by omega
      have HT : Hid (Key.tx 1 [] (l.drop 1) = (10, [], 0)) := by
        show _ = _
        rw [HJ.out.1, List.drop_length]
        rfl
      have hbk := HJ.out.2.1
      have HB := Lib.hid HJ.out.2.2.1
      clear HJ
      go_wp2_with (refine wpList_store_va rfl rfl (.tmp 2) (.tmp 54) rfl w.heap.size rfl Key.nul rfl hbk ?_; intro W4 hb4 hg4)
      exact ret_va3 hb4 rfl rfl rfl rfl rfl ⟨by rw [HT.out]; rfl, below_of_grown HB.out hg4 (Nat.le_refl _) (by omega)⟩
end Go.Proofs.YtknfnhmkiooifaaDoor
end

section
/-
  The contracts of key.back and bytes.Equal.
-/
namespace Go.Proofs.YtknfnhmkiooifaaDoor
set_option linter.unusedSimpArgs false
set_option linter.unusedVariables false
open Go.RowKit

/-- The real number of a key's bits. -/
def Key.kback (n : Nat) : Nat := if 9223372036854775808 ≤ n then n % 9223372036854775808 else 18446744073709551615 - n
theorem and_low (n : Nat) (h : n < 18446744073709551616) : Go.bits .andNot .u64 (n : Int) 9223372036854775808 = ((n % 9223372036854775808 : Nat) : Int) := by
  have h1 := u64_andNot_nat n 9223372036854775808 h (by decide)
  rw [show ((9223372036854775808 : Nat) : Int) = 9223372036854775808 from rfl] at h1
  rw [h1, show 18446744073709551615 - 9223372036854775808 = 2 ^ 63 - 1 from by decide, Nat.and_two_pow_sub_one_eq_mod]
set_option maxRecDepth 20000 in
set_option maxHeartbeats 1000000 in
theorem kback_any (w : World) (n : Nat) (hn : n < two64) : Calls Tryd.prog 73 #[.int .u64 (n : Int)] w fun e w' => e = .returned (.float .f64 (Key.kback n)) ∧ w' = w := by
  have hun := not_u64 (show n < 18446744073709551616 from hn)
  have HA := Lib.hid (and_low n hn)
  go_enter Tryd.func73, Tryd.ntmps73
  by_cases ht : 9223372036854775808 ≤ n
  · have hi : (9223372036854775808 : Int) ≤ (n : Int) := by omega
    have HK : Hid (Key.kback n = n % 9223372036854775808) := by show _ = _; unfold Key.kback; rw [if_pos ht]
    clear ht hn hun
    go_wp2_with fail
    rw [HA.out]
    have hx : (Extern.MathFloatBits.float64frombits #[.int .u64 ((n % 9223372036854775808 : Nat) : Int)]).run Tryd.prog w = .ok (.float .f64 (n % 9223372036854775808)) w := rfl
    rw [run_callFunc_extern Tryd.func83 (by kernel_rfl) (by kernel_rfl) (by kernel_rfl) (e := Extern.MathFloatBits.float64frombits) (by kernel_rfl), hx]
    simp only [Result.andThen]
    rw [Oper.upon_value]
    go_wp2_with fail
    go_ret
    exact ⟨by rw [HK.out]; rfl, rfl⟩
  · have hi : ¬ (9223372036854775808 : Int) ≤ (n : Int) := by omega
    have HK : Hid (Key.kback n = 18446744073709551615 - n) := by show _ = _; unfold Key.kback; rw [if_neg ht]
    clear ht hn
    generalize hm : 18446744073709551615 - n = m at hun HK
    clear hm
    go_wp2_with fail
    have hx : (Extern.MathFloatBits.float64frombits #[.int .u64 (m : Int)]).run Tryd.prog w = .ok (.float .f64 m) w := rfl
    rw [run_callFunc_extern Tryd.func83 (by kernel_rfl) (by kernel_rfl) (by kernel_rfl) (e := Extern.MathFloatBits.float64frombits) (by kernel_rfl), hx]
    simp only [Result.andThen]
    rw [Oper.upon_value]
    go_wp2_with fail
    go_ret
    exact ⟨by rw [HK.out]; rfl, rfl⟩
theorem bstr_eq (l m : List UInt8) (w : World) : (binOp .eql 9 (txt l) (txt m)).run Tryd.prog w = .ok (.bool (l == m)) w := by
  unfold txt
  rw [binOp_string_eql, txt_bytes, txt_bytes]
  rfl
theorem beqg (t : TypeId) (x y : Operand) (l m : List UInt8) : eqGuard .eql t x y (txt l) (txt m) = pure () := rfl
set_option maxRecDepth 20000 in
set_option maxHeartbeats 1000000 in
theorem bequal_any (w : World) (A B : Option Addr) (c d n k : Nat) (l m : List UInt8) (hl : BRow w A l) (hm : BRow w B m) (hn : n = l.length) (hk : k = m.length) : Calls Tryd.prog 75 #[.slice A n c, .slice B k d] w fun e w' => e = .returned (.bool (l == m)) ∧ w' = w := by
  subst hn hk
  have h1 : ∀ c', (convert 30 9 (.slice A l.length c')).run Tryd.prog w = .ok (txt l) w := fun c' => run_string_bytes w c' hl
  have h2 : ∀ c', (convert 30 9 (.slice B m.length c')).run Tryd.prog w = .ok (txt m) w := fun c' => run_string_bytes w c' hm
  have keq := bstr_eq
  have geq := beqg
  clear hl hm
  go_enter Tryd.func75, Tryd.ntmps75
  go_wp2_with fail
  go_ret
  exact ⟨rfl, rfl⟩
end Go.Proofs.YtknfnhmkiooifaaDoor
end

section
/-
  The contract of key.take: a value of a type at the beginning of bytes.
-/
namespace Go.Proofs.YtknfnhmkiooifaaDoor
set_option linter.unusedSimpArgs false
set_option linter.unusedVariables false
open Go.RowKit

namespace Key
theorem kback_lt {n : Nat} (h : n < two64) : kback n < two64 := by
  unfold kback two64 at *
  split <;> omega
/-- The real number of eight bytes. -/
def realV (n : Nat) : Va := ⟨2, 0, if n = 18446744073709551615 then 9221120237041090561 else real1 (kback n), []⟩
/-- A value of a type, of which the first byte was 1. -/
def takeR (t : Int) (r : List UInt8) : Va × Nat × Int :=
  if t = 3 then (txV (tx 1 [] r), (tx 1 [] r).2.2, (tx 1 [] r).1) else
  if t = 4 then (match r with
    | [] => (nul, 0, 10)
    | d :: _ => if 1 < d then (nul, 0, 7) else (⟨4, d.toNat, 0, []⟩, 2, 0)) else
  if r.length < 8 then (nul, 0, 10) else
  if t = 1 then (⟨1, (Wal.lo (r.take 8) : Int) - 9223372036854775808, 0, []⟩, 9, 0) else
  if part (clean (realV (Wal.lo (r.take 8)))) = 1 :: r.take 8 then (realV (Wal.lo (r.take 8)), 9, 0) else (nul, 0, 7)
/-- A value at the beginning, how many bytes it has, the error. -/
def takeK (t : Int) : List UInt8 → Va × Nat × Int
  | [] => (nul, 0, 10)
  | c :: r => if c = 0 then (nul, 1, 0) else if 1 < c ∨ t < 1 ∨ 4 < t then (nul, 0, 7) else takeR t r
theorem takeK_cons (t : Int) (c : UInt8) (r : List UInt8) : takeK t (c :: r) = if c = 0 then (nul, 1, 0) else if 1 < c ∨ t < 1 ∨ 4 < t then (nul, 0, 7) else takeR t r := rfl
theorem takeR_text (r : List UInt8) : takeR 3 r = (txV (tx 1 [] r), (tx 1 [] r).2.2, (tx 1 [] r).1) := rfl
end Key
set_option maxRecDepth 20000 in
set_option maxHeartbeats 8000000 in
theorem ktake_any (w : World) (t : Int) (A : Option Addr) (c : Nat) (l : List UInt8) (hr : BRow w A l) (hc : l.length ≤ c) (hm : l.length ≤ 1000000) : Calls Tryd.prog 42 #[.int .i64 t, .slice A l.length c] w (RetT w (Key.takeK t l).1 (Key.takeK t l).2.1 (Key.takeK t l).2.2) := by
  have HR := Lib.hid hr
  clear hr
  go_enter Tryd.func42, Tryd.ntmps42
  go_upto_region 1 with (refine wpList_alloc_va rfl rfl ?_; intro W1 hb1 hz1 hB1)
  have HB := Lib.hid hB1
  clear hB1
  by_cases hl0 : l.length = 0
  · have HT : Hid (Key.takeK t l = (Key.nul, 0, 10)) := by show _ = _; rw [List.eq_nil_of_length_eq_zero hl0]; rfl
    have hli : (l.length : Int) = 0 := by omega
    clear hl0
    go_wp2_with (refine wpList_store_va rfl rfl (.tmp 4) (.tmp 12) rfl w.heap.size rfl Key.nul rfl hb1 ?_; intro W4 hb4 hg4)
    exact ret_va3 hb4 rfl rfl rfl rfl rfl ⟨by rw [HT.out]; rfl, below_of_grown HB.out hg4 (Nat.le_refl _) (by omega)⟩
  · obtain ⟨x, r, hl⟩ : ∃ x r, l = x :: r := by
      cases l with
      | nil => simp at hl0
      | cons x r => exact ⟨x, r, rfl⟩
    clear hl0
    have HL := Lib.hid hl
    have hlp : 0 < l.length := by rw [hl]; simp
    have hli : ¬ (l.length : Int) = 0 := by omega
    have HLR : Hid (l.length = r.length + 1) := by show _ = _; rw [hl]; simp
    obtain ⟨b, o, rfl, hb, hc0⟩ := (HR.out.below HB.out).at_ (k := 0) hlp
    have hx0 : l[0] = x := by simp [hl]
    rw [hx0, Nat.add_zero] at hc0
    clear hl hx0 hb
    have hx := x.toNat_lt
    by_cases x0 : x = 0
    · have HT : Hid (Key.takeK t l = (Key.nul, 1, 0)) := by show _ = _; rw [HL.out, Key.takeK_cons]; rw [if_pos x0]
      have hcz : W1.cell? ⟨b, o, none⟩ = some (.int .u8 0) := by rw [hc0, x0]; rfl
      clear hc0 x0
      go_wp2_with (refine wpList_store_va rfl rfl (.tmp 4) (.tmp 17) rfl w.heap.size rfl Key.nul rfl hb1 ?_; intro W4 hb4 hg4)
      exact ret_va3 hb4 rfl rfl rfl rfl rfl ⟨by rw [HT.out]; rfl, below_of_grown HB.out hg4 (Nat.le_refl _) (by omega)⟩
    have n0 : ¬ (x.toNat : Int) = 0 := fun h => x0 (UInt8.toNat_inj.1 (by have e0 : (0 : UInt8).toNat = 0 := rfl; omega))
    by_cases hbad : 1 < x ∨ t < 1 ∨ 4 < t
    · have HT : Hid (Key.takeK t l = (Key.nul, 0, 7)) := by show _ = _; rw [HL.out, Key.takeK_cons]; rw [if_neg x0, if_pos hbad]
      have hbi : 1 < (x.toNat : Int) ∨ t < 1 ∨ 4 < t := by rcases hbad with h | h | h; exact .inl (by rw [UInt8.lt_iff_toNat_lt] at h; have e0 : (1 : UInt8).toNat = 1 := rfl; omega); exact .inr (.inl h); exact .inr (.inr h)
      clear hbad x0
      generalize x.toNat = xn at hc0 hx n0 hbi
      by_cases b1 : 1 < (xn : Int)
      · clear hbi
        go_wp2_with (refine wpList_store_va rfl rfl (.tmp 4) (.tmp 31) rfl w.heap.size rfl Key.nul rfl hb1 ?_; intro W4 hb4 hg4)
        exact ret_va3 hb4 rfl rfl rfl rfl rfl ⟨by rw [HT.out]; rfl, below_of_grown HB.out hg4 (Nat.le_refl _) (by omega)⟩
      by_cases b2 : t < 1
      · clear hbi
        go_wp2_with (refine wpList_store_va rfl rfl (.tmp 4) (.tmp 31) rfl w.heap.size rfl Key.nul rfl hb1 ?_; intro W4 hb4 hg4)
        exact ret_va3 hb4 rfl rfl rfl rfl rfl ⟨by rw [HT.out]; rfl, below_of_grown HB.out hg4 (Nat.le_refl _) (by omega)⟩
      · have b3 : 4 < t := by omega
        clear hbi
        go_wp2_with (refine wpList_store_va rfl rfl (.tmp 4) (.tmp 31) rfl w.heap.size rfl Key.nul rfl hb1 ?_; intro W4 hb4 hg4)
        exact ret_va3 hb4 rfl rfl rfl rfl rfl ⟨by rw [HT.out]; rfl, below_of_grown HB.out hg4 (Nat.le_refl _) (by omega)⟩
    have hx1 : x = 1 := by
      have h1 : ¬ 1 < x := fun h => hbad (.inl h)
      rw [UInt8.lt_iff_toNat_lt] at h1
      have e1 : (1 : UInt8).toNat = 1 := rfl
      have e0 : x.toNat ≠ 0 := fun h => n0 (by omega)
      exact UInt8.toNat_inj.1 (by omega)
    have t1 : ¬ t < 1 := fun h => hbad (.inr (.inl h))
    have t4 : ¬ 4 < t := fun h => hbad (.inr (.inr h))
    have HTK : Hid (Key.takeK t l = Key.takeR t r) := by
      show _ = _
      rw [HL.out, Key.takeK_cons, if_neg x0, if_neg hbad]
    rw [hx1] at hc0
    have hcz : W1.cell? ⟨b, o, none⟩ = some (.int .u8 1) := hc0
    clear hc0 n0 hbad hx x0
    by_cases t3 : t = 3
    · have HT : Hid (Key.takeK t l = (Key.txV (Key.tx 1 [] r), (Key.tx 1 [] r).2.2, (Key.tx 1 [] r).1)) := by show _ = _; rw [HTK.out, t3, Key.takeR_text]
      have HD : Hid (l.drop 1 = r) := by show _ = _; rw [HL.out]; rfl
      have K := ktext_any W1 _ c l (HR.out.below HB.out) (by omega) hm
      rw [HD.out] at K
      have HK := Lib.hid K
      clear K t1 t4
      subst t3
      go_wp2_with fail
      refine HK.out.mono ?_
      rintro e W2 ⟨rfl, hB2⟩
      have hb2 := hb1.below hB2
      have HB2 := Lib.hid (HB.out.then hB2)
      have hz2 := hB2.size
      clear hB2 hb1 hcz HK
      generalize Key.tx 1 [] r = q at HT ⊢
      generalize hv : Key.txV q = vv at HT ⊢
      clear hv
      go_wp2_with (refine wpList_store_va rfl rfl (.tmp 4) (.tmp 37) rfl w.heap.size rfl vv rfl hb2 ?_; intro W4 hb4 hg4)
      exact ret_va3 hb4 rfl rfl rfl rfl rfl ⟨by rw [HT.out]; rfl, below_of_grown HB2.out hg4 (Nat.le_refl _) (by omega)⟩
    by_cases t4e : t = 4
    · by_cases hs : l.length < 2
      · have HT : Hid (Key.takeK t l = (Key.nul, 0, 10)) := by
          have hr0 : r = [] := List.eq_nil_of_length_eq_zero (by have := HLR.out; omega)
          show _ = _
          rw [HTK.out, t4e, hr0]; rfl
        have hsi : (l.length : Int) < 2 := by omega
        clear hs t1 t4 t3
        subst t4e
        go_wp2_with (refine wpList_store_va rfl rfl (.tmp 4) (.tmp 47) rfl w.heap.size rfl Key.nul rfl hb1 ?_; intro W4 hb4 hg4)
        exact ret_va3 hb4 rfl rfl rfl rfl rfl ⟨by rw [HT.out]; rfl, below_of_grown HB.out hg4 (Nat.le_refl _) (by omega)⟩
      · obtain ⟨y, r', hr'⟩ : ∃ y r', r = y :: r' := by
          cases hrr : r with
          | nil => have := HLR.out; rw [hrr] at this; simp at this; omega
          | cons y r' => exact ⟨y, r', rfl⟩
        have h2l : 2 ≤ l.length := by omega
        have HT2 : Hid (l.take 2 = [1, y]) := by show _ = _; rw [HL.out, hx1, hr']; rfl
        have HL2 : Hid ((l.take 2).length = 2) := by show _ = _; rw [HT2.out]; rfl
        have HRL := Lib.hid ((HR.out.below HB.out))
        have hy1 : l[1] = y := by simp [HL.out, hr']
        have hyt := y.toNat_lt
        have hsi : ¬ (l.length : Int) < 2 := by omega
        have hc2 : 2 ≤ c := by omega
        have HPT : Hid (Key.part (Key.clean ⟨4, (y.toNat : Int), 0, []⟩) = [1, if y = 0 then 0 else 1]) := by
          show _ = _
          rw [Va.clean4 rfl]
          by_cases hy0 : y = 0
          · subst hy0; rfl
          · have : ¬ ((⟨4, (y.toNat : Int), 0, []⟩ : Va).n = 0) := fun h => hy0 (UInt8.toNat_inj.1 (by have e0 : (0 : UInt8).toNat = 0 := rfl; have h' : (y.toNat : Int) = 0 := h; omega))
            rw [if_neg this, if_neg hy0, Key.part_bool rfl]; rfl
        have HTT : Hid (Key.takeK t l = if 1 < y then (Key.nul, 0, 7) else (⟨4, (y.toNat : Int), 0, []⟩, 2, 0)) := by show _ = _; rw [HTK.out, t4e, hr']; rfl
        have HOM : Hid (Va.ok ⟨4, (y.toNat : Int), 0, []⟩) := ⟨by show (-9223372036854775808 : Int) ≤ 4; decide, by show (4 : Int) ≤ 9223372036854775807; decide, by show (-9223372036854775808 : Int) ≤ (y.toNat : Int); omega, by show (y.toNat : Int) ≤ 9223372036854775807; omega, by show 0 < _; decide⟩
        clear hs t1 t4 t3 hx1 hr'
        subst t4e
        go_upto_region 16 with (first | (refine wpList_alloc_va rfl rfl ?_; intro W2 hb2 hz2 hB2) | (refine wpList_store_va rfl rfl (.tmp 8) (.tmp 49) rfl W1.heap.size rfl ⟨4, 0, 0, []⟩ rfl hb2 ?_; intro W3 hb3 hg3))
        have hBx : Below W1.heap.size W1 W3 := below_of_grown hB2 hg3 (Nat.le_refl _) hB2.size
        have HBX := Lib.hid hBx
        have HB3 := Lib.hid (HB.out.then hBx)
        have hb03 : Blk W3 w.heap.size 27 Key.nul.cells := (hb1.below hB2).grown hg3 (by simp; omega)
        obtain ⟨b', o', e', -, hcy⟩ := (HRL.out.below hBx).at_ (k := 1) h2l
        simp only [Option.some.injEq, Addr.mk.injEq, and_true] at e'
        obtain ⟨rfl, rfl⟩ := e'
        rw [hy1] at hcy
        obtain ⟨-, e1, -, -, -, f1, -⟩ := Blk.c4 hb3
        have hz3 := hg3.size
        clear hB2 hg3 hb2 hBx hb1 hcz hy1
        go_upto_region 24 with fail
        have hb5 : Blk (W3.setCell ⟨W1.heap.size, 1, none⟩ (.int .i64 (y.toNat : Int))) W1.heap.size 27 (Va.cells ⟨4, (y.toNat : Int), 0, []⟩) := hb3.set1
        have hb05 := hb03.other ⟨W1.heap.size, 1, none⟩ (by show w.heap.size ≠ W1.heap.size; omega) (.int .i64 (y.toNat : Int))
        have HBX5 := Lib.hid (HBX.out.setCell (p := ⟨W1.heap.size, 1, none⟩) (Nat.le_refl _) (.int .i64 (y.toNat : Int)))
        have HB5 := Lib.hid (HB3.out.setCell (p := ⟨W1.heap.size, 1, none⟩) (by show w.heap.size ≤ W1.heap.size; omega) (.int .i64 (y.toNat : Int)))
        clear e1 f1 hb3 hb03 hcy
        generalize World.setCell W3 _ _ = W5 at hb5 hb05 HBX5 HB5 ⊢
        have hb5d := hb5.drew
        refine wp_region_plan (.take 0 (.take 2 (.take 3 (.take 4 (.run 1 [2, 3, 4] (.run 5 [] (.take 6 .fin))))))) (by kernel_rfl) (by kernel_rfl) (by kernel_rfl) (by kernel_rfl) ?_
        repeat' (first | (refine hZ _ _ ?_; clear hZ) | (refine hZ _ ?_; clear hZ) | (refine hZ ?_; clear hZ) | rw [again_nil] | rw [walk_fin] | ((first | rw [walk_take] | rw [walk_run] | rw [again_cons]); intro Z hZ; simp only [sel, List.getElem?_toArray, List.getElem?_cons_zero, List.getElem?_cons_succ]; go_wp2_with (first | (refine wpList_load_va rfl (.tmp 8) rfl W1.heap.size rfl hb5d ?_))))
        refine (part_any _ ⟨4, (y.toNat : Int), 0, []⟩ HOM.out (Nat.zero_le _)).mono ?_
        rintro e W6 ⟨Ap, cp, rfl, hrp, hcp, hBp⟩
        rw [HPT.out] at hrp hcp ⊢
        have hB56 : Below W5.heap.size W5 W6 := (Below.refl W5.heap.size W5).drewR.then hBp
        have HE := Lib.hid (And.intro hrp (((HRL.out.below HBX5.out).below hB56).take 2))
        have hb6 := hb5.below hB56
        have hb06 := hb05.below hB56
        have HB6 := Lib.hid (HB5.out.then hB56)
        have hz6 := hB56.size
        clear hrp hBp hB56 hb5 hb05 hb5d
        go_wp2_with fail
        repeat' (first | (refine hZ _ _ ?_; clear hZ) | (refine hZ _ ?_; clear hZ) | (refine hZ ?_; clear hZ) | rw [again_nil] | rw [walk_fin] | ((first | rw [walk_take] | rw [walk_run] | rw [again_cons]); intro Z hZ; simp only [sel, List.getElem?_toArray, List.getElem?_cons_zero, List.getElem?_cons_succ]; go_wp2_with (fail)))
        refine (bequal_any W6 Ap _ cp c 2 2 [1, if y = 0 then 0 else 1] (l.take 2) HE.out.1 HE.out.2 rfl HL2.out.symm).mono ?_
        rintro e wq ⟨rfl, hwq⟩
        rw [hwq, HT2.out]
        clear hwq wq
        by_cases hy1 : 1 < y
        · have HT : Hid (Key.takeK 4 l = (Key.nul, 0, 7)) := by show _ = _; rw [HTT.out, if_pos hy1]
          have hne : (([1, if y = 0 then 0 else 1] : List UInt8) == [1, y]) = false := by
            rw [beq_eq_false_iff_ne]
            intro e
            simp only [List.cons.injEq, and_true, true_and] at e
            rw [UInt8.lt_iff_toNat_lt] at hy1
            have e1 : (1 : UInt8).toNat = 1 := rfl
            have e0 : (0 : UInt8).toNat = 0 := rfl
            split at e <;> (subst e; omega)
          rw [hne]
          clear hne hy1
          go_wp2_with fail
          repeat' (first | (refine hZ _ _ ?_; clear hZ) | (refine hZ _ ?_; clear hZ) | (refine hZ ?_; clear hZ) | rw [again_nil] | rw [walk_fin] | ((first | rw [walk_take] | rw [walk_run] | rw [again_cons]); intro Z hZ; simp only [sel, List.getElem?_toArray, List.getElem?_cons_zero, List.getElem?_cons_succ]; go_wp2_with (fail)))
          go_wp2_with (refine wpList_store_va rfl rfl (.tmp 4) (.tmp 84) rfl w.heap.size rfl Key.nul rfl hb06 ?_; intro W8 hb8 hg8)
          exact ret_va3 hb8 rfl rfl rfl rfl rfl ⟨by rw [HT.out]; rfl, below_of_grown HB6.out hg8 (Nat.le_refl _) HB6.out.size⟩
        · have HT : Hid (Key.takeK 4 l = (⟨4, (y.toNat : Int), 0, []⟩, 2, 0)) := by show _ = _; rw [HTT.out, if_neg hy1]
          have hne : (([1, if y = 0 then 0 else 1] : List UInt8) == [1, y]) = true := by
            rw [beq_iff_eq]
            by_cases hy0 : y = 0
            · simp [hy0]
            · rw [if_neg hy0]
              have : y = 1 := by
                rw [UInt8.lt_iff_toNat_lt] at hy1
                have e1 : (1 : UInt8).toNat = 1 := rfl
                have e0 : y.toNat ≠ 0 := fun h => hy0 (UInt8.toNat_inj.1 (by simpa using h))
                exact UInt8.toNat_inj.1 (by omega)
              rw [this]
          rw [hne]
          clear hne hy1
          go_wp2_with fail
          repeat' (first | (refine hZ _ _ ?_; clear hZ) | (refine hZ _ ?_; clear hZ) | (refine hZ ?_; clear hZ) | rw [again_nil] | rw [walk_fin] | ((first | rw [walk_take] | rw [walk_run] | rw [again_cons]); intro Z hZ; simp only [sel, List.getElem?_toArray, List.getElem?_cons_zero, List.getElem?_cons_succ]; go_wp2_with (fail)))
          go_wp2_with (first | (refine wpList_load_va rfl (.tmp 8) rfl W1.heap.size rfl hb6 ?_) | (refine wpList_store_va rfl rfl (.tmp 4) (.tmp 85) rfl w.heap.size rfl ⟨4, (y.toNat : Int), 0, []⟩ rfl hb06 ?_; intro W8 hb8 hg8))
          exact ret_va3 hb8 rfl rfl rfl rfl rfl ⟨by rw [HT.out]; rfl, below_of_grown HB6.out hg8 (Nat.le_refl _) HB6.out.size⟩
    by_cases hs : l.length < 9
    · have HT : Hid (Key.takeK t l = (Key.nul, 0, 10)) := by
        show _ = _
        rw [HTK.out]
        unfold Key.takeR
        rw [if_neg t3, if_neg t4e, if_pos (by have := HLR.out; omega)]
      have hsi : (l.length : Int) < 9 := by omega
      clear hs
      go_wp2_with (refine wpList_store_va rfl rfl (.tmp 4) (.tmp 47) rfl w.heap.size rfl Key.nul rfl hb1 ?_; intro W4 hb4 hg4)
      exact ret_va3 hb4 rfl rfl rfl rfl rfl ⟨by rw [HT.out]; rfl, below_of_grown HB.out hg4 (Nat.le_refl _) (by omega)⟩
    have h9 : 9 ≤ l.length := by omega
    have HD1 : Hid (l.drop 1 = r) := by show _ = _; rw [HL.out]; rfl
    have hq8 : (r.take 8).length = 8 := by rw [List.length_take]; have := HLR.out; omega
    have HQ8 := Lib.hid hq8
    have HRL := Lib.hid ((HR.out.below HB.out))
    have HR1 : Hid (BRow W1 (some ⟨b, o + 1, none⟩) (r.take 8)) := by
      have := (HRL.out.drop 1)
      rw [HD1.out] at this
      have h2 := this.take 8
      show BRow _ _ _
      simpa [Addr.add_lit] using h2
    have HT9 : Hid (l.take 9 = 1 :: r.take 8) := by show _ = _; rw [HL.out, hx1]; rfl
    have hc1 : ¬ c = 1 := by omega
    have hc8 : 8 ≤ c - 1 := by omega
    have hlc1 : l.length - 1 ≤ c - 1 := by omega
    clear hq8 hs
    by_cases t1e : t = 1
    · obtain ⟨m, m1, m2, hm2⟩ := id_of (r.take 8) HQ8.out
      have HMB := Lib.hid (And.intro m1 m2)
      have HLO : Hid (Wal.lo (r.take 8) = Key.idn m) := by show _ = _; rw [hm2, Key.lo_id m1 m2]
      have HXI : Hid (wrap64 (Go.bits .xor .u64 ((Key.idn m : Nat) : Int) 9223372036854775808) = m) := by show _ = _; rw [← IntWalk.i64_left]; exact xor_id m1 m2
      have HT : Hid (Key.takeK t l = (⟨1, m, 0, []⟩, 9, 0)) := by
        show _ = _
        rw [HTK.out]
        unfold Key.takeR
        rw [if_neg t3, if_neg t4e, if_neg (by have := HLR.out; omega), if_pos t1e, HLO.out]
        have : ((Key.idn m : Nat) : Int) - 9223372036854775808 = m := by unfold Key.idn; omega
        rw [this]
      have HPT : Hid (Key.part (Key.clean ⟨1, m, 0, []⟩) = l.take 9) := by show _ = _; rw [HT9.out, Va.clean1 rfl, Key.part_int rfl, hm2]
      clear m1 m2 hm2 t1 t4 t3 t4e hx1
      subst t1e
      go_wp2_with (first | (refine wpList_alloc_va rfl rfl ?_; intro W2 hb2 hz2 hB2) | (refine wpList_store_va rfl rfl (.tmp 8) (.tmp 49) rfl W1.heap.size rfl ⟨1, 0, 0, []⟩ rfl hb2 ?_; intro W3 hb3 hg3))
      have hB3 : Below w.heap.size w W3 := below_of_grown (HB.out.then hB2) hg3 HB.out.size (by omega)
      have hb03 : Blk W3 w.heap.size 27 Key.nul.cells := (hb1.below hB2).grown hg3 (by simp; omega)
      have hBx : Below W1.heap.size W1 W3 := below_of_grown hB2 hg3 (Nat.le_refl _) hB2.size
      have HR3 : Hid (BRow W3 (some ⟨b, o + 1, none⟩) (r.take 8) ∧ BRow W3 (some ⟨b, o, none⟩) l) := ⟨HR1.out.below hBx, HRL.out.below hBx⟩
      have hz3 := hg3.size
      have HB3 := Lib.hid hB3
      have HBX := Lib.hid hBx
      clear hB2 hg3 hb2 hB3 hBx hb1
      refine (klow_any W3 _ (l.length - 1) (c - 1) _ HR3.out.1 HQ8.out hc8 hlc1).mono ?_
      rintro e wq ⟨rfl, rfl⟩
      rw [HLO.out]
      go_wp2_with fail
      rw [HXI.out]
      refine (ofint_any _ m).mono ?_
      rintro e W4 ⟨rfl, hB4⟩
      have hb84 := hb3.below hB4
      have hb04 := hb03.below hB4
      have HBX4 := Lib.hid (HBX.out.then hB4)
      have HB4 := Lib.hid (HB3.out.then hB4)
      have hz4 := hB4.size
      clear hb3 hb03 hB4 HR3 HB3
      go_upto_region 24 with (refine wpList_store_va rfl rfl (.tmp 8) (.tmp 63) rfl W1.heap.size rfl ⟨1, m, 0, []⟩ rfl hb84 ?_; intro W5 hb5 hg5)
      have HBX5 := Lib.hid (below_of_grown HBX4.out hg5 (Nat.le_refl _) HBX4.out.size)
      have HB5 := Lib.hid (below_of_grown HB4.out hg5 (by omega) HB4.out.size)
      have hb05 : Blk W5 w.heap.size 27 Key.nul.cells := hb04.grown hg5 (by simp; omega)
      have hz5 := hg5.size
      have HL9 : Hid ((l.take 9).length = 9) := by show _ = _; rw [List.length_take]; omega
      have HOM : Hid (Va.ok ⟨1, m, 0, []⟩) := ⟨by show (-9223372036854775808 : Int) ≤ 1; decide, by show (1 : Int) ≤ 9223372036854775807; decide, HMB.out.1, HMB.out.2, by show 0 < _; decide⟩
      have hb5d := hb5.drew
      have hc9 : 9 ≤ c := by omega
      clear hb04 hb84 hg5 hcz
      refine wp_region_plan (.take 0 (.take 2 (.take 3 (.take 4 (.run 1 [2, 3, 4] (.run 5 [] (.take 6 .fin))))))) (by kernel_rfl) (by kernel_rfl) (by kernel_rfl) (by kernel_rfl) ?_
      repeat' (first | (refine hZ _ _ ?_; clear hZ) | (refine hZ _ ?_; clear hZ) | (refine hZ ?_; clear hZ) | rw [again_nil] | rw [walk_fin] | ((first | rw [walk_take] | rw [walk_run] | rw [again_cons]); intro Z hZ; simp only [sel, List.getElem?_toArray, List.getElem?_cons_zero, List.getElem?_cons_succ]; go_wp2_with (first | (refine wpList_load_va rfl (.tmp 8) rfl W1.heap.size rfl hb5d ?_))))
      refine (part_any _ ⟨1, m, 0, []⟩ HOM.out (Nat.zero_le _)).mono ?_
      rintro e W6 ⟨Ap, cp, rfl, hrp, hcp, hBp⟩
      rw [HPT.out] at hrp hcp ⊢
      rw [HL9.out] at hcp ⊢
      have hB56 : Below W5.heap.size W5 W6 := (Below.refl W5.heap.size W5).drewR.then hBp
      have HE := Lib.hid (And.intro hrp (((HRL.out.below HBX5.out).below hB56).take 9))
      have hb6 := hb5.below hB56
      have hb06 := hb05.below hB56
      have HB6 := Lib.hid (HB5.out.then hB56)
      have hz6 := hB56.size
      clear hrp hBp hB56 hb5 hb05 hb5d
      go_wp2_with fail
      repeat' (first | (refine hZ _ _ ?_; clear hZ) | (refine hZ _ ?_; clear hZ) | (refine hZ ?_; clear hZ) | rw [again_nil] | rw [walk_fin] | ((first | rw [walk_take] | rw [walk_run] | rw [again_cons]); intro Z hZ; simp only [sel, List.getElem?_toArray, List.getElem?_cons_zero, List.getElem?_cons_succ]; go_wp2_with (fail)))
      refine (bequal_any W6 Ap _ cp c 9 9 (l.take 9) (l.take 9) HE.out.1 HE.out.2 HL9.out.symm HL9.out.symm).mono ?_
      rintro e wq ⟨rfl, hwq⟩
      rw [hwq, show (l.take 9 == l.take 9) = true from by simp]
      clear hwq wq
      go_wp2_with fail
      repeat' (first | (refine hZ _ _ ?_; clear hZ) | (refine hZ _ ?_; clear hZ) | (refine hZ ?_; clear hZ) | rw [again_nil] | rw [walk_fin] | ((first | rw [walk_take] | rw [walk_run] | rw [again_cons]); intro Z hZ; simp only [sel, List.getElem?_toArray, List.getElem?_cons_zero, List.getElem?_cons_succ]; go_wp2_with (fail)))
      go_wp2_with (first | (refine wpList_load_va rfl (.tmp 8) rfl W1.heap.size rfl hb6 ?_) | (refine wpList_store_va rfl rfl (.tmp 4) (.tmp 85) rfl w.heap.size rfl ⟨1, m, 0, []⟩ rfl hb06 ?_; intro W8 hb8 hg8))
      exact ret_va3 hb8 rfl rfl rfl rfl rfl ⟨by rw [HT.out]; rfl, below_of_grown HB6.out hg8 (Nat.le_refl _) HB6.out.size⟩
    · have t2 : t = 2 := by omega
      obtain ⟨n, HLO⟩ : ∃ n, Hid (Wal.lo (r.take 8) = n) := ⟨_, rfl⟩
      have hn64 : n < two64 := by
        have := Wal.lo_lt (r.take 8)
        rw [HQ8.out, HLO.out] at this
        exact Nat.lt_of_lt_of_le this (by decide)
      have HN64 := Lib.hid hn64
      obtain ⟨q, HQ⟩ : ∃ q, Hid (Key.realV n = ⟨2, 0, q, []⟩) := ⟨_, rfl⟩
      have hq64 : q < two64 := by
        have h := congrArg Va.f HQ.out
        show _ < _
        rw [← show (Key.realV n).f = q from h]
        show (if n = 18446744073709551615 then 9221120237041090561 else Key.real1 (Key.kback n)) < two64
        split
        · decide
        · exact Key.real1_lt (Key.kback_lt hn64)
      have HOM : Hid (Va.ok ⟨2, 0, q, []⟩) := ⟨by show (-9223372036854775808 : Int) ≤ 2; decide, by show (2 : Int) ≤ 9223372036854775807; decide, by show (-9223372036854775808 : Int) ≤ 0; decide, by show (0 : Int) ≤ 9223372036854775807; decide, hq64⟩
      have HT : Hid (Key.takeK t l = if Key.part (Key.clean ⟨2, 0, q, []⟩) = l.take 9 then (⟨2, 0, q, []⟩, 9, 0) else (Key.nul, 0, 7)) := by
        show _ = _
        rw [HTK.out]
        unfold Key.takeR
        rw [if_neg t3, if_neg t4e, if_neg (by have := HLR.out; omega), if_neg t1e, HLO.out, HQ.out, HT9.out]
      have HPL : Hid ((Key.part (Key.clean ⟨2, 0, q, []⟩)).length = 9) := by
        show _ = _
        rw [Va.clean2 rfl, Key.part_real rfl, List.length_cons, Wal.hi8_length]
      clear hn64 hq64 t1 t4 t3 t4e hx1 t1e
      subst t2
      go_wp2_with (first | (refine wpList_alloc_va rfl rfl ?_; intro W2 hb2 hz2 hB2) | (refine wpList_store_va rfl rfl (.tmp 8) (.tmp 49) rfl W1.heap.size rfl ⟨2, 0, 0, []⟩ rfl hb2 ?_; intro W3 hb3 hg3))
      have hB3 : Below w.heap.size w W3 := below_of_grown (HB.out.then hB2) hg3 HB.out.size (by omega)
      have hb03 : Blk W3 w.heap.size 27 Key.nul.cells := (hb1.below hB2).grown hg3 (by simp; omega)
      have hBx : Below W1.heap.size W1 W3 := below_of_grown hB2 hg3 (Nat.le_refl _) hB2.size
      have HR3 : Hid (BRow W3 (some ⟨b, o + 1, none⟩) (r.take 8) ∧ BRow W3 (some ⟨b, o, none⟩) l) := ⟨HR1.out.below hBx, HRL.out.below hBx⟩
      have hz3 := hg3.size
      have HB3 := Lib.hid hB3
      have HBX := Lib.hid hBx
      clear hB2 hg3 hb2 hB3 hBx hb1
      refine (klow_any W3 _ (l.length - 1) (c - 1) _ HR3.out.1 HQ8.out hc8 hlc1).mono ?_
      rintro e wq ⟨rfl, rfl⟩
      rw [HLO.out]
      go_wp2_with fail
      refine (kback_any _ n HN64.out).mono ?_
      rintro e wq ⟨rfl, rfl⟩
      go_wp2_with fail
      refine (ofreal_any _ (Key.kback n) (Key.kback_lt HN64.out)).mono ?_
      rintro e W4 ⟨rfl, hB4⟩
      have hb84 := hb3.below hB4
      have hb04 := hb03.below hB4
      have HBX4 := Lib.hid (HBX.out.then hB4)
      have HB4 := Lib.hid (HB3.out.then hB4)
      have hz4 := hB4.size
      have HR4 : Hid (BRow W4 (some ⟨b, o + 1, none⟩) (r.take 8)) := HR3.out.1.below hB4
      clear hb3 hb03 hB4 HR3 HB3
      generalize hq0 : Key.real1 (Key.kback n) = q0 at hb84 hb04 ⊢
      have HQ0 := Lib.hid hq0
      clear hq0
      go_wp2_with (refine wpList_store_va rfl rfl (.tmp 8) (.tmp 70) rfl W1.heap.size rfl ⟨2, 0, q0, []⟩ rfl hb84 ?_; intro W5 hb5 hg5)
      have HBX5 := Lib.hid (below_of_grown HBX4.out hg5 (Nat.le_refl _) HBX4.out.size)
      have HB5 := Lib.hid (below_of_grown HB4.out hg5 (by omega) HB4.out.size)
      have hb05 : Blk W5 w.heap.size 27 Key.nul.cells := hb04.grown hg5 (by simp; omega)
      have hz5 := hg5.size
      have HR5 : Hid (BRow W5 (some ⟨b, o + 1, none⟩) (r.take 8)) := (HR1.out.below HBX5.out)
      have HL9 : Hid ((l.take 9).length = 9) := by show _ = _; rw [List.length_take]; omega
      have hc9 : 9 ≤ c := by omega
      clear hb84 hb04 hg5 HR4 hcz
      refine (klow_any W5 _ (l.length - 1) (c - 1) _ HR5.out HQ8.out hc8 hlc1).mono ?_
      rintro e wq ⟨rfl, rfl⟩
      rw [HLO.out]
      by_cases hmx : n = 18446744073709551615
      · have HQQ : Hid (q = 9221120237041090561) := by
          have h := congrArg Va.f HQ.out
          show _ = _
          rw [← show (Key.realV n).f = q from h]
          show (if n = 18446744073709551615 then 9221120237041090561 else Key.real1 (Key.kback n)) = _
          rw [if_pos hmx]
        have HMX := Lib.hid hmx
        clear hmx
        rw [HMX.out]
        go_wp2_with fail
        refine (nan_any _).mono ?_
        rintro e wq ⟨rfl, rfl⟩
        go_wp2_with fail
        refine (ofreal_any _ 9221120237041090561 (by decide)).mono ?_
        rintro e W6 ⟨rfl, hB6⟩
        have HR11 : Hid (Key.real1 9221120237041090561 = 9221120237041090561) := by show _ = _; decide
        rw [HR11.out]
        have hb86 := hb5.below hB6
        have hb06 := hb05.below hB6
        have HBX6 := Lib.hid (HBX5.out.then hB6)
        have HB6 := Lib.hid (HB5.out.then hB6)
        have hz6 := hB6.size
        clear hb5 hb05 hB6 HR5
        go_upto_region 24 with (refine wpList_store_va rfl rfl (.tmp 8) (.tmp 76) rfl W1.heap.size rfl ⟨2, 0, 9221120237041090561, []⟩ rfl hb86 ?_; intro W7 hb7 hg7)
        have HBX7 := Lib.hid (below_of_grown HBX6.out hg7 (Nat.le_refl _) HBX6.out.size)
        have HB7 := Lib.hid (below_of_grown HB6.out hg7 (by omega) HB6.out.size)
        have hb07 : Blk W7 w.heap.size 27 Key.nul.cells := hb06.grown hg7 (by simp; omega)
        have hz7 := hg7.size
        rw [← HQQ.out] at hb7
        clear hb86 hb06 hg7 HR11
        have hb5d := hb7.drew
        refine wp_region_plan (.take 0 (.take 2 (.take 3 (.take 4 (.run 1 [2, 3, 4] (.run 5 [] (.take 6 .fin))))))) (by kernel_rfl) (by kernel_rfl) (by kernel_rfl) (by kernel_rfl) ?_
        repeat' (first | (refine hZ _ _ ?_; clear hZ) | (refine hZ _ ?_; clear hZ) | (refine hZ ?_; clear hZ) | rw [again_nil] | rw [walk_fin] | ((first | rw [walk_take] | rw [walk_run] | rw [again_cons]); intro Z hZ; simp only [sel, List.getElem?_toArray, List.getElem?_cons_zero, List.getElem?_cons_succ]; go_wp2_with (first | (refine wpList_load_va rfl (.tmp 8) rfl W1.heap.size rfl hb5d ?_))))
        refine (part_any _ ⟨2, 0, q, []⟩ HOM.out (Nat.zero_le _)).mono ?_
        rintro e V6 ⟨Ap, cp, rfl, hrp, hcp, hBp⟩
        rw [HPL.out] at hcp ⊢
        have hB56 : Below W7.heap.size W7 V6 := (Below.refl W7.heap.size W7).drewR.then hBp
        have HE := Lib.hid (And.intro hrp (((HRL.out.below (HBX7).out).below hB56).take 9))
        have hb6 := (hb7).below hB56
        have hb06 := (hb07).below hB56
        have HB6 := Lib.hid ((HB7).out.then hB56)
        have hz6 := hB56.size
        clear hrp hBp hB56 hb7 hb07 hb5d
        go_wp2_with fail
        repeat' (first | (refine hZ _ _ ?_; clear hZ) | (refine hZ _ ?_; clear hZ) | (refine hZ ?_; clear hZ) | rw [again_nil] | rw [walk_fin] | ((first | rw [walk_take] | rw [walk_run] | rw [again_cons]); intro Z hZ; simp only [sel, List.getElem?_toArray, List.getElem?_cons_zero, List.getElem?_cons_succ]; go_wp2_with (fail)))
        refine (bequal_any V6 Ap _ cp c 9 9 (Key.part (Key.clean ⟨2, 0, q, []⟩)) (l.take 9) HE.out.1 HE.out.2 HPL.out.symm HL9.out.symm).mono ?_
        rintro e wq ⟨rfl, hwq⟩
        rw [hwq]
        clear hwq wq
        by_cases hpe : Key.part (Key.clean ⟨2, 0, q, []⟩) = l.take 9
        · have HT2 : Hid (Key.takeK 2 l = (⟨2, 0, q, []⟩, 9, 0)) := by show _ = _; rw [HT.out, if_pos hpe]
          rw [show (Key.part (Key.clean ⟨2, 0, q, []⟩) == l.take 9) = true from by rw [hpe]; simp]
          clear hpe
          go_wp2_with fail
          repeat' (first | (refine hZ _ _ ?_; clear hZ) | (refine hZ _ ?_; clear hZ) | (refine hZ ?_; clear hZ) | rw [again_nil] | rw [walk_fin] | ((first | rw [walk_take] | rw [walk_run] | rw [again_cons]); intro Z hZ; simp only [sel, List.getElem?_toArray, List.getElem?_cons_zero, List.getElem?_cons_succ]; go_wp2_with (fail)))
          go_wp2_with (first | (refine wpList_load_va rfl (.tmp 8) rfl W1.heap.size rfl hb6 ?_) | (refine wpList_store_va rfl rfl (.tmp 4) (.tmp 85) rfl w.heap.size rfl ⟨2, 0, q, []⟩ rfl hb06 ?_; intro W8 hb8 hg8))
          exact ret_va3 hb8 rfl rfl rfl rfl rfl ⟨by rw [HT2.out]; rfl, below_of_grown HB6.out hg8 (Nat.le_refl _) HB6.out.size⟩
        · have HT2 : Hid (Key.takeK 2 l = (Key.nul, 0, 7)) := by show _ = _; rw [HT.out, if_neg hpe]
          rw [show (Key.part (Key.clean ⟨2, 0, q, []⟩) == l.take 9) = false from by rw [beq_eq_false_iff_ne]; exact hpe]
          clear hpe
          go_wp2_with fail
          repeat' (first | (refine hZ _ _ ?_; clear hZ) | (refine hZ _ ?_; clear hZ) | (refine hZ ?_; clear hZ) | rw [again_nil] | rw [walk_fin] | ((first | rw [walk_take] | rw [walk_run] | rw [again_cons]); intro Z hZ; simp only [sel, List.getElem?_toArray, List.getElem?_cons_zero, List.getElem?_cons_succ]; go_wp2_with (fail)))
          go_wp2_with (refine wpList_store_va rfl rfl (.tmp 4) (.tmp 84) rfl w.heap.size rfl Key.nul rfl hb06 ?_; intro W8 hb8 hg8)
          exact ret_va3 hb8 rfl rfl rfl rfl rfl ⟨by rw [HT2.out]; rfl, below_of_grown HB6.out hg8 (Nat.le_refl _) HB6.out.size⟩
      · have HQQ : Hid (q0 = q) := by
          have h := congrArg Va.f HQ.out
          show _ = _
          rw [← show (Key.realV n).f = q from h]
          show _ = (if n = 18446744073709551615 then 9221120237041090561 else Key.real1 (Key.kback n))
          rw [if_neg hmx, HQ0.out]
        have hni : ¬ (n : Int) = 18446744073709551615 := by omega
        clear hmx
        rw [HQQ.out] at hb5
        go_upto_region 24 with fail
        clear hni HR5
        have hb5d := hb5.drew
        refine wp_region_plan (.take 0 (.take 2 (.take 3 (.take 4 (.run 1 [2, 3, 4] (.run 5 [] (.take 6 .fin))))))) (by kernel_rfl) (by kernel_rfl) (by kernel_rfl) (by kernel_rfl) ?_
        repeat' (first | (refine hZ _ _ ?_; clear hZ) | (refine hZ _ ?_; clear hZ) | (refine hZ ?_; clear hZ) | rw [again_nil] | rw [walk_fin] | ((first | rw [walk_take] | rw [walk_run] | rw [again_cons]); intro Z hZ; simp only [sel, List.getElem?_toArray, List.getElem?_cons_zero, List.getElem?_cons_succ]; go_wp2_with (first | (refine wpList_load_va rfl (.tmp 8) rfl W1.heap.size rfl hb5d ?_))))
        refine (part_any _ ⟨2, 0, q, []⟩ HOM.out (Nat.zero_le _)).mono ?_
        rintro e V6 ⟨Ap, cp, rfl, hrp, hcp, hBp⟩
        rw [HPL.out] at hcp ⊢
        have hB56 : Below W5.heap.size W5 V6 := (Below.refl W5.heap.size W5).drewR.then hBp
        have HE := Lib.hid (And.intro hrp (((HRL.out.below (HBX5).out).below hB56).take 9))
        have hb6 := (hb5).below hB56
        have hb06 := (hb05).below hB56
        have HB6 := Lib.hid ((HB5).out.then hB56)
        have hz6 := hB56.size
        clear hrp hBp hB56 hb5 hb05 hb5d
        go_wp2_with fail
        repeat' (first | (refine hZ _ _ ?_; clear hZ) | (refine hZ _ ?_; clear hZ) | (refine hZ ?_; clear hZ) | rw [again_nil] | rw [walk_fin] | ((first | rw [walk_take] | rw [walk_run] | rw [again_cons]); intro Z hZ; simp only [sel, List.getElem?_toArray, List.getElem?_cons_zero, List.getElem?_cons_succ]; go_wp2_with (fail)))
        refine (bequal_any V6 Ap _ cp c 9 9 (Key.part (Key.clean ⟨2, 0, q, []⟩)) (l.take 9) HE.out.1 HE.out.2 HPL.out.symm HL9.out.symm).mono ?_
        rintro e wq ⟨rfl, hwq⟩
        rw [hwq]
        clear hwq wq
        by_cases hpe : Key.part (Key.clean ⟨2, 0, q, []⟩) = l.take 9
        · have HT2 : Hid (Key.takeK 2 l = (⟨2, 0, q, []⟩, 9, 0)) := by show _ = _; rw [HT.out, if_pos hpe]
          rw [show (Key.part (Key.clean ⟨2, 0, q, []⟩) == l.take 9) = true from by rw [hpe]; simp]
          clear hpe
          go_wp2_with fail
          repeat' (first | (refine hZ _ _ ?_; clear hZ) | (refine hZ _ ?_; clear hZ) | (refine hZ ?_; clear hZ) | rw [again_nil] | rw [walk_fin] | ((first | rw [walk_take] | rw [walk_run] | rw [again_cons]); intro Z hZ; simp only [sel, List.getElem?_toArray, List.getElem?_cons_zero, List.getElem?_cons_succ]; go_wp2_with (fail)))
          go_wp2_with (first | (refine wpList_load_va rfl (.tmp 8) rfl W1.heap.size rfl hb6 ?_) | (refine wpList_store_va rfl rfl (.tmp 4) (.tmp 85) rfl w.heap.size rfl ⟨2, 0, q, []⟩ rfl hb06 ?_; intro W8 hb8 hg8))
          exact ret_va3 hb8 rfl rfl rfl rfl rfl ⟨by rw [HT2.out]; rfl, below_of_grown HB6.out hg8 (Nat.le_refl _) HB6.out.size⟩
        · have HT2 : Hid (Key.takeK 2 l = (Key.nul, 0, 7)) := by show _ = _; rw [HT.out, if_neg hpe]
          rw [show (Key.part (Key.clean ⟨2, 0, q, []⟩) == l.take 9) = false from by rw [beq_eq_false_iff_ne]; exact hpe]
          clear hpe
          go_wp2_with fail
          repeat' (first | (refine hZ _ _ ?_; clear hZ) | (refine hZ _ ?_; clear hZ) | (refine hZ ?_; clear hZ) | rw [again_nil] | rw [walk_fin] | ((first | rw [walk_take] | rw [walk_run] | rw [again_cons]); intro Z hZ; simp only [sel, List.getElem?_toArray, List.getElem?_cons_zero, List.getElem?_cons_succ]; go_wp2_with (fail)))
          go_wp2_with (refine wpList_store_va rfl rfl (.tmp 4) (.tmp 84) rfl w.heap.size rfl Key.nul rfl hb06 ?_; intro W8 hb8 hg8)
          exact ret_va3 hb8 rfl rfl rfl rfl rfl ⟨by rw [HT2.out]; rfl, below_of_grown HB6.out hg8 (Nat.le_refl _) HB6.out.size⟩
end Go.Proofs.YtknfnhmkiooifaaDoor
end

section
/-
  Rows of numbers.
-/
namespace Go.Proofs.YtknfnhmkiooifaaDoor
set_option linter.unusedSimpArgs false
set_option linter.unusedVariables false
open Go.RowKit

/-- Numbers. -/
def eInt : Elem Int where
  e := 3
  t := 46
  sz := 1
  bytes := 8
  zero := .int .i64 0
  code := fun n => [.int .i64 n]
  pos := by decide
  few := by decide
  len := fun _ => rfl
  one := by
    intro x u hu
    simp at hu
    subst hu
    rfl
  zsz := rfl
  info := by kernel_rfl
  under := Tryd.underlying46
end Go.Proofs.YtknfnhmkiooifaaDoor
end

section
/-
  The contract of key.Read: values of types at the beginning of a key, and what stands behind them.
-/
namespace Go.Proofs.YtknfnhmkiooifaaDoor
set_option linter.unusedSimpArgs false
set_option linter.unusedVariables false
open Go.RowKit

namespace Key
theorem tx_le : ∀ (i : Nat) (acc l : List UInt8), (tx i acc l).1 = 0 → (tx i acc l).2.2 ≤ i + l.length := by
  intro i acc l
  induction i, acc, l using tx.induct with
  | case1 i acc => intro _; simp [tx]
  | case2 i acc c l h ih =>
    intro h2
    unfold tx at h2 ⊢
    rw [if_pos h] at h2 ⊢
    have := ih h2
    simp only [List.length_cons]
    omega
  | case3 i acc c h => intro h2; unfold tx at h2; rw [if_neg h] at h2; simp at h2
  | case4 i acc c h l' => intro h2; unfold tx; rw [if_neg h]; simp
  | case5 i acc c h d l' h1 h3 => intro h2; unfold tx at h2; rw [if_neg h] at h2; simp [h1, h3] at h2
  | case6 i acc c h d l' h1 h3 ih =>
    intro h2
    unfold tx at h2 ⊢
    rw [if_neg h] at h2 ⊢
    simp only [if_neg h1, if_neg h3] at h2 ⊢
    have := ih h2
    simp only [List.length_cons]
    omega
theorem tx_bad : ∀ {i : Nat} {acc l : List UInt8}, (tx i acc l).1 ≠ 0 → (tx i acc l).2.2 = 0 := by
  intro i acc l
  induction i, acc, l using tx.induct with
  | case1 i acc => intro _; simp [tx]
  | case2 i acc c l h ih => intro h2; unfold tx at h2 ⊢; rw [if_pos h] at h2 ⊢; exact ih h2
  | case3 i acc c h => intro h2; unfold tx; rw [if_neg h]
  | case4 i acc c h l' => intro h2; unfold tx at h2; rw [if_neg h] at h2; simp at h2
  | case5 i acc c h d l' h1 h3 => intro h2; unfold tx; rw [if_neg h]; simp [h1, h3]
  | case6 i acc c h d l' h1 h3 ih => intro h2; unfold tx at h2 ⊢; rw [if_neg h] at h2 ⊢; simp only [if_neg h1, if_neg h3] at h2 ⊢; exact ih h2
theorem takeK_le (t : Int) (l : List UInt8) : (takeK t l).2.1 ≤ l.length := by
  cases l with
  | nil => simp [takeK]
  | cons c r =>
    rw [takeK_cons]
    split
    · simp
    · split
      · simp
      · unfold takeR
        split
        · by_cases h : (tx 1 [] r).1 = 0
          · have := tx_le 1 [] r h
            simp only [List.length_cons]; omega
          · simp only [tx_bad h]; omega
        · split
          · cases r with
            | nil => simp
            | cons d r => simp only; split <;> simp
          · split
            · simp
            · split
              · simp only [List.length_cons]; omega
              · split
                · simp only [List.length_cons]; omega
                · simp
/-- Values of types: the values, what stands behind them, the error. -/
def readA : List Va → List Int → List UInt8 → List Va × List UInt8 × Int
  | acc, [], l => (acc, l, 0)
  | acc, t :: ts, l => if (takeK t l).2.2 ≠ 0 then ([], [], (takeK t l).2.2) else readA (acc ++ [(takeK t l).1]) ts (l.drop (takeK t l).2.1)
end Key
/-- What key.Read answers. -/
def RetRd3 (w : World) (r : List Va × List UInt8 × Int) (e : Ending) (w' : World) : Prop :=
  ∃ A1 c1 A2 c2, e = .returned (.tuple #[.slice A1 r.1.length c1, .slice A2 r.2.1.length c2, .int .i64 r.2.2]) ∧ ERow eVa w' A1 r.1 ∧ BRow w' A2 r.2.1 ∧ Below w.heap.size w w'
set_option maxRecDepth 20000 in
set_option maxHeartbeats 4000000 in
theorem kread_any (w : World) (T A : Option Addr) (ct c : Nat) (ts : List Int) (l : List UInt8) (ht : ERow eInt w T ts) (hr : BRow w A l) (hts : ts.length ≤ 1000) (hc : l.length ≤ c) (hm : l.length ≤ 1000000) :
    Calls Tryd.prog 22 #[.slice T ts.length ct, .slice A l.length c] w (RetRd3 w (Key.readA [] ts l)) := by
  have HR := Lib.hid hr
  have HTS := Lib.hid ht
  clear hr ht
  go_enter Tryd.func22, Tryd.ntmps22
  go_wp2_with fail
  go_loopw [1, 7, 15] (fun bv_ ov iv wr => ∃ (k : Nat) (acc : List Va) (lb : List UInt8) (A1 Ab : Option Addr) (c1 cb : Nat), k ≤ ts.length ∧ acc.length = k ∧ bv_ = .slice Ab lb.length cb ∧ ov = .slice A1 acc.length c1 ∧ iv = .int .i64 (k : Int) ∧ lb.length ≤ cb ∧ lb.length ≤ 1000000 ∧ Hid (Key.readA [] ts l = Key.readA acc (ts.drop k) lb ∧ EOwn eVa wr w.heap.size A1 c1 acc ∧ BRow w Ab lb ∧ Below w.heap.size w wr)) (fun _ _ iv _ => ts.length - (intOf iv).toNat)
  case atStart => exact ⟨0, [], l, none, A, 0, c, Nat.zero_le _, rfl, rfl, rfl, rfl, hc, hm, rfl, EOwn.nil _ _, HR.out, Below.refl _ _⟩
  case round =>
    obtain ⟨k, acc, lb, A1, Ab, c1, cb, hk, hak, rfl, rfl, rfl, hlb, hlm, HJ⟩ := hrel
    have HAK := Lib.hid hak
    clear hak
    by_cases hlt : k < ts.length
    · have hii : (k : Int) < (ts.length : Int) := by omega
      have HTW := Lib.hid (HTS.out.below HJ.out.2.2.2)
      obtain ⟨b, o, rfl, hb, hce⟩ := HTW.out.at_ hlt
      have hcl : wr.cell? ⟨b, o + k, none⟩ = some (.int .i64 ts[k]) := by have := hce 0 _ rfl; simpa [eInt] using this
      clear hce
      have hd : ts.drop k = ts[k] :: ts.drop (k + 1) := (List.getElem_cons_drop hlt).symm
      have HRA : Hid (Key.readA [] ts l = if (Key.takeK ts[k] lb).2.2 ≠ 0 then ([], [], (Key.takeK ts[k] lb).2.2) else Key.readA (acc ++ [(Key.takeK ts[k] lb).1]) (ts.drop (k + 1)) (lb.drop (Key.takeK ts[k] lb).2.1)) := by
        show _ = _
        rw [HJ.out.1, hd]; rfl
      have HTL := Lib.hid (Key.takeK_le ts[k] lb)
      clear hd hb
      go_wp2_with fail
      clear hcl
      refine (ktake_any _ ts[k] Ab cb lb (HJ.out.2.2.1.below HJ.out.2.2.2) hlb hlm).mono ?_
      rintro e W2 ⟨rfl, hB2⟩
      generalize Key.takeK ts[k] lb = q at HRA HTL ⊢
      obtain ⟨v, n, er⟩ := q
      have hn : n ≤ lb.length := HTL.out
      have H2 := Lib.hid (And.intro (HJ.out.2.1.below hB2) (HJ.out.2.2.2.then hB2))
      clear hB2
      by_cases he : er = 0
      · have HR2 : Hid (Key.readA [] ts l = Key.readA (acc ++ [v]) (ts.drop (k + 1)) (lb.drop n)) := by show _ = _; rw [HRA.out, if_neg (by simpa using he)]
        have hne : (er != 0) = false := by simp [he]
        clear he HRA
        go_upto_region 8 with (first | (refine wpList_alloc_va rfl rfl ?_; intro W3 hb3 hz3 hB3) | (refine wpList_store_va rfl rfl (.tmp 10) (.tmp 23) rfl W2.heap.size rfl v rfl hb3 ?_; intro W4 hb4 hg4))
        have hB4 : Below W2.heap.size W2 W4 := below_of_grown hB3 hg4 (Nat.le_refl _) (by omega)
        have H4 := Lib.hid (And.intro (H2.out.1.below hB4) (H2.out.2.then hB4))
        clear hB3 hg4 hb3 hz3 hB4
        have H5 := Lib.hid (And.intro (H4.out.1.alloc (.cells #[.int .i64 v.k, .int .i64 v.n, .float .f64 v.f, txt v.s] 27)) (And.intro (ERow.lit eVa W4 v #[.int .i64 v.k, .int .i64 v.n, .float .f64 v.f, txt v.s] rfl W4.heap.size rfl) (H4.out.2.trans ((Below.alloc1 W4 (.cells #[.int .i64 v.k, .int .i64 v.n, .float .f64 v.f, txt v.s] 27)).mono H4.out.2.size))))
        go_upto_region 9 with (first | (refine wpList_load_va rfl (.tmp 10) rfl W2.heap.size rfl hb4 ?_; unfold Va.v) | (at_builtin; refine wpList_append_elems eVa rfl (.tmp 29) (.tmp 31) rfl _ rfl H5.out.1 rfl _ rfl H5.out.2.1 rfl (by rw [HAK.out]; simp; omega) H5.out.2.2.size ?_; intro A6 c6 W6 ho6 hb6 _ _))
        have H6 := Lib.hid (And.intro ho6 (H5.out.2.2.trans hb6))
        clear ho6 hb6 H5 hb4
        have HAL : Hid ((acc ++ [v]).length = acc.length + 1) := by show _ = _; simp
        by_cases hcn : cb = n
        · have hdz : Hid (lb.drop n = []) := by show _ = _; exact List.drop_of_length_le (by omega)
          have hnl : lb.length = n := by omega
          have h1 : (n : Int) ≤ (lb.length : Int) := by omega
          have h2 : (lb.length : Int) ≤ (cb : Int) := by omega
          clear hne
          subst hcn
          go_wp2_with fail
          go_roundw
          case rel => exact ⟨k + 1, acc ++ [v], [], A6, Ab, c6, 0, by omega, by rw [HAL.out, HAK.out], rfl, by rw [HAL.out], by go_num, by simp, by simp, by rw [HR2.out, hdz.out], H6.out.1, BRow.nil, H6.out.2⟩
          case measure => simp [intOf]; omega
        · have HDL : Hid ((lb.drop n).length = lb.length - n) := by show _ = _; simp
          have h1 : (n : Int) ≤ (lb.length : Int) := by omega
          have h2 : (lb.length : Int) ≤ (cb : Int) := by omega
          clear hne
          go_wp2_with fail
          go_roundw
          case rel => exact ⟨k + 1, acc ++ [v], lb.drop n, A6, Ab.map fun x => x.add n, c6, cb - n, by omega, by rw [HAL.out, HAK.out], by rw [HDL.out], by rw [HAL.out], by go_num, by rw [HDL.out]; omega, by rw [HDL.out]; omega, HR2.out, H6.out.1, HJ.out.2.2.1.drop n, H6.out.2⟩
          case measure => simp [intOf]; omega
      · have HR2 : Hid (Key.readA [] ts l = ([], [], er)) := by show _ = _; rw [HRA.out, if_pos he]
        have hne : (er != 0) = true := by simp [he]
        clear he HRA
        go_wp2_with (first | (refine wpList_alloc_va rfl rfl ?_; intro W3 hb3 hz3 hB3) | (refine wpList_store_va rfl rfl (.tmp 10) (.tmp 23) rfl W2.heap.size rfl v rfl hb3 ?_; intro W4 hb4 hg4))
        refine bodyPost_ret (v := .tuple #[.slice none 0 0, .slice none 0 0, .int .i64 er]) (by simp [results, Tryd.results22, go_sem]) rfl ?_
        rw [HR2.out]
        exact ⟨none, 0, none, 0, rfl, ERow.nil, BRow.nil, H2.out.2.then (below_of_grown hB3 hg4 (Nat.le_refl _) (by omega))⟩
    · obtain rfl : k = ts.length := by omega
      have HD : Hid (Key.readA [] ts l = (acc, lb, 0)) := by show _ = _; rw [HJ.out.1, List.drop_length]; rfl
      go_wp2_with fail
      refine (clone_any wr Ab cb lb (HJ.out.2.2.1.below HJ.out.2.2.2) hlm).mono ?_
      rintro e W2 ⟨A2, c2, rfl, ho2, hB2⟩
      have H2 := Lib.hid (And.intro (HJ.out.2.1.row.below hB2) (And.intro ho2.row (HJ.out.2.2.2.then hB2)))
      clear ho2 hB2
      go_wp2_with fail
      refine bodyPost_ret (v := .tuple #[.slice A1 acc.length c1, .slice A2 lb.length c2, .int .i64 0]) (by simp [results, Tryd.results22, go_sem]) rfl ?_
      rw [HD.out]
      exact ⟨A1, c1, A2, c2, rfl, H2.out⟩
end Go.Proofs.YtknfnhmkiooifaaDoor
end

section
/-
  The document's answers for keys: bits of real numbers, texts.
-/
namespace Go.Proofs.YtknfnhmkiooifaaDoor
set_option linter.unusedSimpArgs false
set_option linter.unusedVariables false
open Go.RowKit

set_option maxRecDepth 20000 in
set_option maxHeartbeats 1000000 in
theorem refbits_any (w : World) (f : Nat) (hf : f < two64) : Calls Tryd.prog 60 #[.float .f64 f] w fun e w' => e = .returned (.int .u64 (Key.pbits f : Nat)) ∧ w = w' := by
  have HF := Lib.hid hf
  have HS := Lib.hid (ford_self hf)
  have hx : (Extern.MathFloatBits.float64bits #[.float .f64 f]).run Tryd.prog w = .ok (.int .u64 (f : Int)) w := rfl
  have hun := not_u64 (show f < 18446744073709551616 from hf)
  have HX := Lib.hid hx
  have HUN := Lib.hid hun
  clear hf hx hun
  by_cases hn : fnan f
  · have HP : Hid (Key.pbits f = 18446744073709551615) := by show _ = _; unfold Key.pbits; rw [if_pos hn]
    have ho : (FloatKind.f64.format.order f f != some Ordering.eq) = true := HS.out.trans (decide_eq_true hn)
    clear hn
    go_enter Tryd.func60, Tryd.ntmps60
    go_wp2_with fail
    go_ret
    exact ⟨by rw [HP.out]; rfl, rfl⟩
  · have HP : Hid (Key.pbits f = Key.kbits f) := by show _ = _; unfold Key.pbits; rw [if_neg hn]
    have ho : (FloatKind.f64.format.order f f != some Ordering.eq) = false := HS.out.trans (decide_eq_false hn)
    clear hn
    go_enter Tryd.func60, Tryd.ntmps60
    go_wp2_with fail
    rw [run_callFunc_extern Tryd.func84 (by kernel_rfl) (by kernel_rfl) (by kernel_rfl) (e := Extern.MathFloatBits.float64bits) (by kernel_rfl), HX.out]
    simp only [Result.andThen]
    rw [Oper.upon_value]
    have hl : f < 18446744073709551616 := HF.out
    by_cases ht : 9223372036854775808 ≤ f
    · have hi : (9223372036854775808 : Int) ≤ (f : Int) := by omega
      have HK : Hid (Key.kbits f = 18446744073709551615 - f) := by show _ = _; unfold Key.kbits; rw [if_pos ht]
      have HW : Hid (IntKind.u64.wrap (18446744073709551615 - (f : Int)) = ((18446744073709551615 - f : Nat) : Int)) := by show _ = _; rw [IntWalk.u64_in _ (by omega)]; omega
      clear ht hl
      go_wp2_with fail
      go_ret
      exact ⟨by rw [HP.out, HK.out, ← HW.out]; rfl, rfl⟩
    · have hi : ¬ (9223372036854775808 : Int) ≤ (f : Int) := by omega
      have HK : Hid (Key.kbits f = f + 9223372036854775808) := by show _ = _; unfold Key.kbits; rw [if_neg ht]
      have HW : Hid (IntKind.u64.wrap ((f : Int) + 9223372036854775808) = ((f + 9223372036854775808 : Nat) : Int)) := by show _ = _; rw [IntWalk.u64_in _ (by omega)]; omega
      clear ht hl
      go_wp2_with fail
      go_ret
      have HE : Hid ((f : Int) + 9223372036854775808 = ((f + 9223372036854775808 : Nat) : Int)) := rfl
      exact ⟨by rw [HP.out, HK.out, ← HE.out]; rfl, rfl⟩
set_option maxRecDepth 20000 in
set_option maxHeartbeats 1000000 in
theorem refbool_any (w : World) (x : Bool) : Calls Tryd.prog 56 #[.bool x] w (RetV w ⟨4, if x then 1 else 0, 0, []⟩) := by
  cases x
  · go_enter Tryd.func56, Tryd.ntmps56
    go_wp2_with (first | (refine wpList_alloc_va rfl rfl ?_; intro W1 hb1 hz1 hB1) | (refine wpList_store_va rfl rfl (.tmp 2) (.tmp 5) rfl w.heap.size rfl ⟨4, 0, 0, []⟩ rfl hb1 ?_; intro W4 hb4 hg4))
    exact ret_va hb4 rfl rfl rfl ⟨rfl, below_of_grown hB1 hg4 (Nat.le_refl _) (by omega)⟩
  · go_enter Tryd.func56, Tryd.ntmps56
    go_wp2_with (first | (refine wpList_alloc_va rfl rfl ?_; intro W1 hb1 hz1 hB1) | (refine wpList_store_va rfl rfl (.tmp 2) (.tmp 4) rfl w.heap.size rfl ⟨4, 1, 0, []⟩ rfl hb1 ?_; intro W4 hb4 hg4))
    exact ret_va hb4 rfl rfl rfl ⟨rfl, below_of_grown hB1 hg4 (Nat.le_refl _) (by omega)⟩
/-- What real8 answers. -/
def RetB8 (w : World) (v : Va) (b : Bool) (e : Ending) (w' : World) : Prop := e = .returned (.tuple #[v.v, .bool b]) ∧ Below w.heap.size w w'
theorem ret_va2 {fn : Func} {R : Ending → World → Prop} {a : Act} {w : World} {p u : Tmp} {g : Nat} {T0 : TypeId} {b : Va} {y : Value} (hb : Blk w g T0 b.cells) (h : fn.results = #[.cell p 27, .tmp u]) (hd : a.defers = [])
    (hp : a.tmps.getD p undef = .pointer (some ⟨g, 0, none⟩)) (hu : a.tmps.getD u undef = y) (hR : R (.returned (.tuple #[b.v, y])) w) : bodyPost Tryd.prog fn R .ret a w :=
  ret_mem2 h hd hp hu hb.va hR
theorem real0_lt {f : Nat} (h : f < two64) : Key.real0 f < two64 := by
  unfold Key.real0 two64 at *
  split <;> omega
theorem u64_sub_top (n : Nat) (h : n < 9223372036854775808) : IntKind.u64.wrap ((n : Int) - 9223372036854775808) = ((n + 9223372036854775808 : Nat) : Int) := by
  have e : (n : Int) - 9223372036854775808 = ((n + 9223372036854775808 : Nat) : Int) - 18446744073709551616 := by omega
  rw [IntKind.wrap_u64, e]
  omega
set_option maxRecDepth 100000 in
set_option maxHeartbeats 2000000 in
theorem refreal8_any (w : World) (n : Nat) (hn : n < two64) : Calls Tryd.prog 53 #[.int .u64 (n : Int)] w (RetB8 w ⟨2, 0, Key.real0 (Key.kback n), []⟩ (decide (Key.pbits (Key.real0 (Key.kback n)) = n))) := by
  have hl : n < 18446744073709551616 := hn
  have HFB := Lib.hid (Key.kback_lt hn)
  have HOK : Hid (Va.ok ⟨2, 0, Key.kback n, []⟩) := ⟨by show (-9223372036854775808 : Int) ≤ 2; decide, by show (2 : Int) ≤ 9223372036854775807; decide, by show (-9223372036854775808 : Int) ≤ 0; decide, by show (0 : Int) ≤ 9223372036854775807; decide, HFB.out⟩
  have HDC : Hid (Key.dclean ⟨2, 0, Key.kback n, []⟩ = ⟨2, 0, Key.real0 (Key.kback n), []⟩) := rfl
  have HN := Lib.hid hn
  have HX : Hid (∀ (m : Nat) (w : World), (Extern.MathFloatBits.float64frombits #[.int .u64 (m : Int)]).run Tryd.prog w = .ok (.float .f64 m) w) := fun _ _ => rfl
  clear hn
  by_cases ht : 9223372036854775808 ≤ n
  · have hi : decide ((n : Int) < 9223372036854775808) = false := by simp; omega
    have HK : Hid (Key.kback n = n - 9223372036854775808) := by show _ = _; unfold Key.kback; rw [if_pos ht]; omega
    have HW : Hid (IntKind.u64.wrap ((n : Int) - 9223372036854775808) = ((n - 9223372036854775808 : Nat) : Int)) := by show _ = _; rw [IntWalk.u64_in _ (by omega)]; omega
    clear ht hl
    rw [HK.out] at HFB HOK HDC ⊢
    generalize n - 9223372036854775808 = m at HK HW HFB HOK HDC ⊢
    go_enter Tryd.func53, Tryd.ntmps53
    go_wp2_with (refine wpList_alloc_va rfl rfl ?_; intro W1 hb1 hz1 hB1)
    rw [HW.out]
    rw [run_callFunc_extern Tryd.func83 (by kernel_rfl) (by kernel_rfl) (by kernel_rfl) (e := Extern.MathFloatBits.float64frombits) (by kernel_rfl), HX.out]
    simp only [Result.andThen]
    rw [Oper.upon_value]
    clear HW HK HX
    go_wp2_with fail
    refine (dclean_any _ _ HOK.out).mono ?_
    rintro e W2 ⟨rfl, hB2⟩
    rw [HDC.out]
    have hb12 := hb1.below hB2
    have HB2 := Lib.hid (hB1.then hB2)
    have hz2 := hB2.size
    have HFR := Lib.hid (real0_lt HFB.out)
    clear hB1 hB2 hb1
    obtain ⟨q, HQ⟩ : ∃ q, Hid (Key.real0 m = q) := ⟨_, rfl⟩
    rw [HQ.out] at HFR ⊢
    go_upto_region 5 with (first | (refine wpList_alloc_va rfl rfl ?_; intro W3 hb3 hz3 hB3) | (refine wpList_store_va rfl rfl (.tmp 5) (.tmp 16) rfl W2.heap.size rfl ⟨2, 0, q, []⟩ rfl hb3 ?_; intro W4 hb4 hg4))
    have hBx : Below W2.heap.size W2 W4 := below_of_grown hB3 hg4 (Nat.le_refl _) hB3.size
    have HB4 := Lib.hid (HB2.out.then hBx)
    have hb14 := hb12.below hBx
    have hz4 := hBx.size
    clear hB3 hg4 hb3 hBx hb12
    obtain ⟨-, -, c2, -, -, -, -, -⟩ := Blk.c4 hb4
    have hb4d := hb4.drew
    refine wp_region_plan (.take 0 (.take 1 (.take 2 (.take 4 (.run 3 [0, 4] (.take 5 (.run 6 [4, 5] (.take 7 .fin)))))))) (by kernel_rfl) (by kernel_rfl) (by kernel_rfl) (by kernel_rfl) ?_
    repeat' (first | (refine hZ _ _ ?_; clear hZ) | (refine hZ _ ?_; clear hZ) | (refine hZ ?_; clear hZ) | rw [again_nil] | rw [walk_fin] | ((first | rw [walk_take] | rw [walk_run] | rw [again_cons]); intro Z hZ; simp only [sel, List.getElem?_toArray, List.getElem?_cons_zero, List.getElem?_cons_succ]; go_wp2_with (first | (refine wpList_load_va rfl (.tmp 5) rfl W2.heap.size rfl hb4d ?_))))
    refine (refbits_any _ q HFR.out).mono ?_
    rintro e W5 ⟨rfl, rfl⟩
    obtain ⟨p, HP⟩ : ∃ p, Hid (Key.pbits q = p) := ⟨_, rfl⟩
    rw [HP.out]
    by_cases hpn : p = n
    · have hpi : (p : Int) = (n : Int) := by omega
      have HD : Hid (decide (p = n) = true) := decide_eq_true hpn
      clear hpn
      have hb14d := hb14.drew
      go_wp2_with fail
      repeat' (first | (refine hZ _ _ ?_; clear hZ) | (refine hZ _ ?_; clear hZ) | (refine hZ ?_; clear hZ) | rw [again_nil] | rw [walk_fin] | ((first | rw [walk_take] | rw [walk_run] | rw [again_cons]); intro Z hZ; simp only [sel, List.getElem?_toArray, List.getElem?_cons_zero, List.getElem?_cons_succ]; go_wp2_with (first | (refine wpList_load_va rfl (.tmp 5) rfl W2.heap.size rfl hb4d ?_) | (refine wpList_store_va rfl rfl (.tmp 2) (.tmp 17) rfl w.heap.size rfl ⟨2, 0, q, []⟩ rfl hb14d ?_; intro W6 hb6 hg6))))
      go_wp2_with fail
      exact ret_va2 hb6 rfl rfl rfl rfl ⟨by rw [HQ.out, HP.out, HD.out]; rfl, below_of_grown HB4.out.drewR hg6 (Nat.le_refl _) HB4.out.size⟩
    · have hpi : ((p : Int) == (n : Int)) = false := by simp; omega
      have HD : Hid (decide (p = n) = false) := decide_eq_false hpn
      clear hpn
      have hb14d := hb14.drew
      go_wp2_with fail
      repeat' (first | (refine hZ _ _ ?_; clear hZ) | (refine hZ _ ?_; clear hZ) | (refine hZ ?_; clear hZ) | rw [again_nil] | rw [walk_fin] | ((first | rw [walk_take] | rw [walk_run] | rw [again_cons]); intro Z hZ; simp only [sel, List.getElem?_toArray, List.getElem?_cons_zero, List.getElem?_cons_succ]; go_wp2_with (first | (refine wpList_load_va rfl (.tmp 5) rfl W2.heap.size rfl hb4d ?_) | (refine wpList_store_va rfl rfl (.tmp 2) (.tmp 17) rfl w.heap.size rfl ⟨2, 0, q, []⟩ rfl hb14d ?_; intro W6 hb6 hg6))))
      go_wp2_with fail
      exact ret_va2 hb6 rfl rfl rfl rfl ⟨by rw [HQ.out, HP.out, HD.out]; rfl, below_of_grown HB4.out.drewR hg6 (Nat.le_refl _) HB4.out.size⟩
  · have hi : ¬ (9223372036854775808 : Int) ≤ (n : Int) := by omega
    have HK : Hid (Key.kback n = 18446744073709551615 - n) := by show _ = _; unfold Key.kback; rw [if_neg ht]
    have HW : Hid (IntKind.u64.wrap ((n : Int) - 9223372036854775808) = ((n + 9223372036854775808 : Nat) : Int)) := by show _ = _; rw [← u64_sub_top n (by omega)]
    have HW2 : Hid (18446744073709551615 - (n : Int) = ((18446744073709551615 - n : Nat) : Int)) := by show _ = _; omega
    clear ht hl
    rw [HK.out] at HFB HOK HDC ⊢
    generalize 18446744073709551615 - n = m at HK HW2 HFB HOK HDC ⊢
    go_enter Tryd.func53, Tryd.ntmps53
    go_wp2_with (refine wpList_alloc_va rfl rfl ?_; intro W1 hb1 hz1 hB1)
    rw [HW.out]
    generalize n + 9223372036854775808 = m0
    rw [run_callFunc_extern Tryd.func83 (by kernel_rfl) (by kernel_rfl) (by kernel_rfl) (e := Extern.MathFloatBits.float64frombits) (by kernel_rfl), HX.out]
    simp only [Result.andThen]
    rw [Oper.upon_value]
    go_wp2_with fail
    rw [HW2.out]
    rw [run_callFunc_extern Tryd.func83 (by kernel_rfl) (by kernel_rfl) (by kernel_rfl) (e := Extern.MathFloatBits.float64frombits) (by kernel_rfl), HX.out]
    simp only [Result.andThen]
    rw [Oper.upon_value]
    clear HW HW2 HK HX
    go_wp2_with fail
    refine (dclean_any _ _ HOK.out).mono ?_
    rintro e W2 ⟨rfl, hB2⟩
    rw [HDC.out]
    have hb12 := hb1.below hB2
    have HB2 := Lib.hid (hB1.then hB2)
    have hz2 := hB2.size
    have HFR := Lib.hid (real0_lt HFB.out)
    clear hB1 hB2 hb1
    obtain ⟨q, HQ⟩ : ∃ q, Hid (Key.real0 m = q) := ⟨_, rfl⟩
    rw [HQ.out] at HFR ⊢
    go_upto_region 5 with (first | (refine wpList_alloc_va rfl rfl ?_; intro W3 hb3 hz3 hB3) | (refine wpList_store_va rfl rfl (.tmp 5) (.tmp 16) rfl W2.heap.size rfl ⟨2, 0, q, []⟩ rfl hb3 ?_; intro W4 hb4 hg4))
    have hBx : Below W2.heap.size W2 W4 := below_of_grown hB3 hg4 (Nat.le_refl _) hB3.size
    have HB4 := Lib.hid (HB2.out.then hBx)
    have hb14 := hb12.below hBx
    have hz4 := hBx.size
    clear hB3 hg4 hb3 hBx hb12
    obtain ⟨-, -, c2, -, -, -, -, -⟩ := Blk.c4 hb4
    have hb4d := hb4.drew
    refine wp_region_plan (.take 0 (.take 1 (.take 2 (.take 4 (.run 3 [0, 4] (.take 5 (.run 6 [4, 5] (.take 7 .fin)))))))) (by kernel_rfl) (by kernel_rfl) (by kernel_rfl) (by kernel_rfl) ?_
    repeat' (first | (refine hZ _ _ ?_; clear hZ) | (refine hZ _ ?_; clear hZ) | (refine hZ ?_; clear hZ) | rw [again_nil] | rw [walk_fin] | ((first | rw [walk_take] | rw [walk_run] | rw [again_cons]); intro Z hZ; simp only [sel, List.getElem?_toArray, List.getElem?_cons_zero, List.getElem?_cons_succ]; go_wp2_with (first | (refine wpList_load_va rfl (.tmp 5) rfl W2.heap.size rfl hb4d ?_))))
    refine (refbits_any _ q HFR.out).mono ?_
    rintro e W5 ⟨rfl, rfl⟩
    obtain ⟨p, HP⟩ : ∃ p, Hid (Key.pbits q = p) := ⟨_, rfl⟩
    rw [HP.out]
    by_cases hpn : p = n
    · have hpi : (p : Int) = (n : Int) := by omega
      have HD : Hid (decide (p = n) = true) := decide_eq_true hpn
      clear hpn
      have hb14d := hb14.drew
      go_wp2_with fail
      repeat' (first | (refine hZ _ _ ?_; clear hZ) | (refine hZ _ ?_; clear hZ) | (refine hZ ?_; clear hZ) | rw [again_nil] | rw [walk_fin] | ((first | rw [walk_take] | rw [walk_run] | rw [again_cons]); intro Z hZ; simp only [sel, List.getElem?_toArray, List.getElem?_cons_zero, List.getElem?_cons_succ]; go_wp2_with (first | (refine wpList_load_va rfl (.tmp 5) rfl W2.heap.size rfl hb4d ?_) | (refine wpList_store_va rfl rfl (.tmp 2) (.tmp 17) rfl w.heap.size rfl ⟨2, 0, q, []⟩ rfl hb14d ?_; intro W6 hb6 hg6))))
      go_wp2_with fail
      exact ret_va2 hb6 rfl rfl rfl rfl ⟨by rw [HQ.out, HP.out, HD.out]; rfl, below_of_grown HB4.out.drewR hg6 (Nat.le_refl _) HB4.out.size⟩
    · have hpi : ((p : Int) == (n : Int)) = false := by simp; omega
      have HD : Hid (decide (p = n) = false) := decide_eq_false hpn
      clear hpn
      have hb14d := hb14.drew
      go_wp2_with fail
      repeat' (first | (refine hZ _ _ ?_; clear hZ) | (refine hZ _ ?_; clear hZ) | (refine hZ ?_; clear hZ) | rw [again_nil] | rw [walk_fin] | ((first | rw [walk_take] | rw [walk_run] | rw [again_cons]); intro Z hZ; simp only [sel, List.getElem?_toArray, List.getElem?_cons_zero, List.getElem?_cons_succ]; go_wp2_with (first | (refine wpList_load_va rfl (.tmp 5) rfl W2.heap.size rfl hb4d ?_) | (refine wpList_store_va rfl rfl (.tmp 2) (.tmp 17) rfl w.heap.size rfl ⟨2, 0, q, []⟩ rfl hb14d ?_; intro W6 hb6 hg6))))
      go_wp2_with fail
      exact ret_va2 hb6 rfl rfl rfl rfl ⟨by rw [HQ.out, HP.out, HD.out]; rfl, below_of_grown HB4.out.drewR hg6 (Nat.le_refl _) HB4.out.size⟩
end Go.Proofs.YtknfnhmkiooifaaDoor
end

section
/-
  The document's answer for texts at the beginning of a key.
-/
namespace Go.Proofs.YtknfnhmkiooifaaDoor
set_option linter.unusedSimpArgs false
set_option linter.unusedVariables false
open Go.RowKit

/-- What the document's text answers of bytes. -/
def RetT8 (w : World) (v : Va) (rest : List UInt8) (er : Int) (e : Ending) (w' : World) : Prop := e = .returned (.tuple #[v.v, txt rest, .int .i64 er]) ∧ Below w.heap.size w w'
def Key.rest8 (q : Int × List UInt8 × Nat) (s : List UInt8) : List UInt8 := if q.1 = 0 then s.drop (q.2.2 - 1) else []
theorem cut_one (l : List UInt8) (i : Nat) (h : i < l.length) : (ByteArray.mk l.toArray).extract i (i + 1) = ⟨#[l[i]]⟩ := by
  apply ByteArray.ext
  simp only [ByteArray.data_extract]
  apply Array.ext'
  simp
  rw [← List.getElem_cons_drop h]
  rfl
set_option maxRecDepth 20000 in
set_option maxHeartbeats 4000000 in
theorem reftext8_any (w : World) (s : List UInt8) (hm : s.length ≤ 1000000) : Calls Tryd.prog 76 #[txt s, txt []] w (RetT8 w (Key.txV (Key.tx 1 [] s)) (Key.rest8 (Key.tx 1 [] s) s) (Key.tx 1 [] s).1) := by
  have hsz : (ByteArray.mk s.toArray).size = s.length := by simp [ByteArray.size]
  go_enter Tryd.func76, Tryd.ntmps76
  go_wp2_with (refine wpList_alloc_va rfl rfl ?_; intro W1 hb1 hz1 hB1)
  have HI : Hid (Blk W1 w.heap.size 27 Key.nul.cells ∧ Below w.heap.size w W1) := ⟨hb1, hB1⟩
  clear hb1 hB1 hz1
  go_loopw [1, 7] (fun sv iv wr => ∃ (i : Nat) (acc : List UInt8), i ≤ s.length ∧ acc.length ≤ i ∧ sv = txt acc ∧ iv = .int .i64 (i : Int) ∧ Hid (Key.tx 1 [] s = Key.tx (i + 1) acc (s.drop i) ∧ Blk wr w.heap.size 27 Key.nul.cells ∧ Below w.heap.size w wr)) (fun _ iv _ => s.length - (intOf iv).toNat)
  case atStart => exact ⟨0, [], Nat.zero_le _, by simp, rfl, rfl, rfl, HI.out⟩
  case round =>
    obtain ⟨i, acc, hi, ha, rfl, rfl, HJ⟩ := hrel
    clear HI
    by_cases hlt : i < s.length
    · have hii : (i : Int) < (s.length : Int) := by omega
      have hd1 : s.drop i = s[i] :: s.drop (i + 1) := (List.getElem_cons_drop hlt).symm
      have hget : (ByteArray.mk s.toArray).data[i]? = some s[i] := by simp [hlt]
      have hi2 : i < (ByteArray.mk s.toArray).size := by rw [hsz]; exact hlt
      have hb : (ByteArray.mk s.toArray)[i]'hi2 = s[i] := by rfl
      by_cases h0 : s[i] = 0
      · have hbk := HJ.out.2.1
        have HB := Lib.hid HJ.out.2.2
        have hz := hbk.lt
        have hbz : (ByteArray.mk s.toArray)[i]'hi2 = 0 := hb.trans h0
        by_cases h2 : i + 1 < s.length
        · have hii2 : ((i : Int) + 1) < (s.length : Int) := by omega
          have hii3 : ¬ ((i : Int) + 1) = (s.length : Int) := by omega
          have hd2 : s.drop (i + 1) = s[i + 1] :: s.drop (i + 2) := (List.getElem_cons_drop h2).symm
          have HTX : Hid (Key.tx 1 [] s = if s[i + 1] = 0 then (0, acc, i + 3) else if s[i + 1] ≠ 255 then (7, [], 0) else Key.tx (i + 3) (acc ++ [0]) (s.drop (i + 2))) := by
            show _ = _
            rw [HJ.out.1, hd1, h0, hd2]
            simp [Key.tx]
          have hi3 : i + 1 < (ByteArray.mk s.toArray).size := by rw [hsz]; exact h2
          have hb2 : (ByteArray.mk s.toArray)[i + 1]'hi3 = s[i + 1] := by rfl
          clear hd1 h0 hd2 HJ hb hget
          by_cases d0 : s[i + 1] = 0
          · have HT : Hid (Key.tx 1 [] s = (0, acc, i + 3)) := by show _ = _; rw [HTX.out, if_pos d0]
            have hbz2 : (ByteArray.mk s.toArray)[i + 1]'hi3 = 0 := hb2.trans d0
            have hcut := cut_end s (i + 2)
            clear hb2 d0 HTX
            unfold txt
            go_upto_region 9 with fail
            have hbkd := hbk.drew
            refine wp_region_plan (.take 0 (.take 1 (.take 2 (.take 3 (.take 4 (.take 5 (.run 6 [2, 3, 4, 5] (.take 7 (.take 8 .fin))))))))) (by kernel_rfl) (by kernel_rfl) (by kernel_rfl) (by kernel_rfl) ?_
            repeat' (first | (refine hZ _ _ ?_; clear hZ) | (refine hZ _ ?_; clear hZ) | (refine hZ ?_; clear hZ) | rw [again_nil] | rw [walk_fin] | ((first | rw [walk_take] | rw [walk_run] | rw [again_cons]); intro Z hZ; simp only [sel, List.getElem?_toArray, List.getElem?_cons_zero, List.getElem?_cons_succ]; go_wp2_with (refine wpList_store_va rfl rfl (.tmp 4) (.tmp 37) rfl w.heap.size rfl ⟨3, 0, 0, acc⟩ rfl hbkd ?_; intro W4 hb4 hg4)))
            go_wp2_with fail
            exact ret_va3 hb4 rfl rfl rfl rfl rfl ⟨by rw [HT.out]; show Ending.returned (.tuple #[_, Value.string ((ByteArray.mk s.toArray).extract (i + 2) s.length), _]) = _; rw [hcut]; rfl, below_of_grown HB.out.drewR hg4 (Nat.le_refl _) (by have := hbk.lt; show w.heap.size ≤ wr.heap.size; omega)⟩
          by_cases d5 : s[i + 1] = 255
          · have HT : Hid (Key.tx 1 [] s = Key.tx (i + 3) (acc ++ [0]) (s.drop (i + 2))) := by show _ = _; rw [HTX.out, if_neg d0, if_neg (by simpa using d5)]
            have hb5 : (ByteArray.mk s.toArray)[i + 1]'hi3 = 255 := hb2.trans d5
            have hj : ByteArray.mk acc.toArray ++ ByteArray.mk #[0] = ⟨(acc ++ [0]).toArray⟩ := cut_join acc [0]
            have hs1 : (ByteArray.mk acc.toArray).size = acc.length := by simp [ByteArray.size]
            have hs2 : (ByteArray.mk #[0]).size = 1 := rfl
            clear hb2 d0 HTX d5
            unfold txt
            go_wp2_with fail
            go_roundw
            case rel => exact ⟨i + 2, acc ++ [0], by omega, by simp; omega, rfl, by go_num, HT.out, hbk, HB.out⟩
            case measure => simp [intOf]; omega
          · have HT : Hid (Key.tx 1 [] s = (7, [], 0)) := by show _ = _; rw [HTX.out, if_neg d0, if_pos (by simpa using d5)]
            have n0 : ¬ (s[i + 1].toNat : Int) = 0 := fun h => d0 (UInt8.toNat_inj.1 (by have e0 : (0 : UInt8).toNat = 0 := rfl; omega))
            have n5 : ¬ (s[i + 1].toNat : Int) = 255 := fun h => d5 (UInt8.toNat_inj.1 (by have e0 : (255 : UInt8).toNat = 255 := rfl; omega))
            clear d0 d5 HTX
            unfold txt
            go_wp2_with (refine wpList_store_va rfl rfl (.tmp 4) (.tmp 47) rfl w.heap.size rfl Key.nul rfl hbk ?_; intro W4 hb4 hg4)
            exact ret_va3 hb4 rfl rfl rfl rfl rfl ⟨by rw [HT.out]; rfl, below_of_grown HB.out hg4 (Nat.le_refl _) (by omega)⟩
        · have he : s.length = i + 1 := by omega
          have HT : Hid (Key.tx 1 [] s = (10, [], 0)) := by
            show _ = _
            rw [HJ.out.1, hd1, h0, List.drop_of_length_le (by omega)]
            simp [Key.tx]
          have hii3 : ((i : Int) + 1 == (s.length : Int)) = true := by simp; omega
          clear hd1 h0 he h2 HJ hb hget
          unfold txt
          go_wp2_with (refine wpList_store_va rfl rfl (.tmp 4) (.tmp 30) rfl w.heap.size rfl Key.nul rfl hbk ?_; intro W4 hb4 hg4)
          exact ret_va3 hb4 rfl rfl rfl rfl rfl ⟨by rw [HT.out]; rfl, below_of_grown HB.out hg4 (Nat.le_refl _) (by omega)⟩
      · have HT : Hid (Key.tx 1 [] s = Key.tx (i + 2) (acc ++ [s[i]]) (s.drop (i + 1))) := by
          show _ = _
          rw [HJ.out.1, hd1]
          conv => lhs; unfold Key.tx
          rw [if_pos h0]
        have hx := s[i].toNat_lt
        have n0 : ¬ (s[i].toNat : Int) = 0 := fun h => h0 (UInt8.toNat_inj.1 (by have e0 : (0 : UInt8).toNat = 0 := rfl; omega))
        have hcut := cut_one s i hlt
        have hj : ByteArray.mk acc.toArray ++ ByteArray.mk #[s[i]] = ⟨(acc ++ [s[i]]).toArray⟩ := cut_join acc [s[i]]
        have hs1 : (ByteArray.mk acc.toArray).size = acc.length := by simp [ByteArray.size]
        have hs2 : (ByteArray.mk #[s[i]]).size = 1 := rfl
        clear hd1 h0
        unfold txt
        go_wp2_with fail
        go_roundw
        case rel => exact ⟨i + 1, acc ++ [s[i]], by omega, by simp; omega, rfl, by go_num, HT.out, HJ.out.2⟩
        case measure => simp [intOf]; omega
    · obtain rfl : i = s.length := by omega
      have HT : Hid (Key.tx 1 [] s = (10, [], 0)) := by
        show _ = _
        rw [HJ.out.1, List.drop_length]
        rfl
      have hbk := HJ.out.2.1
      have HB := Lib.hid HJ.out.2.2
      have hz := hbk.lt
      clear HJ
      unfold txt
      go_wp2_with (refine wpList_store_va rfl rfl (.tmp 4) (.tmp 52) rfl w.heap.size rfl Key.nul rfl hbk ?_; intro W4 hb4 hg4)
      exact ret_va3 hb4 rfl rfl rfl rfl rfl ⟨by rw [HT.out]; rfl, below_of_grown HB.out hg4 (Nat.le_refl _) (by omega)⟩
end Go.Proofs.YtknfnhmkiooifaaDoor
end

section
/-
  The document's answer for a value of a type at the beginning of a key.
-/
namespace Go.Proofs.YtknfnhmkiooifaaDoor
set_option linter.unusedSimpArgs false
set_option linter.unusedVariables false
open Go.RowKit

namespace Key
/-- A value of a type, of which the first byte was 1: the value, what stands behind it, the error. -/
def takeE (t : Int) (r : List UInt8) : Va × List UInt8 × Int :=
  if t = 3 then (txV (tx 1 [] r), rest8 (tx 1 [] r) r, (tx 1 [] r).1) else
  if t = 4 then (match r with
    | [] => (nul, [], 10)
    | d :: s => if 1 < d then (nul, [], 7) else (⟨4, d.toNat, 0, []⟩, s, 0)) else
  if r.length < 8 then (nul, [], 10) else
  if t = 1 then (⟨1, (Wal.lo (r.take 8) : Int) - 9223372036854775808, 0, []⟩, r.drop 8, 0) else
  if pbits (real0 (kback (Wal.lo (r.take 8)))) = Wal.lo (r.take 8) then (⟨2, 0, real0 (kback (Wal.lo (r.take 8))), []⟩, r.drop 8, 0) else (nul, [], 7)
/-- A value at the beginning, what stands behind it, the error. -/
def takeD (t : Int) : List UInt8 → Va × List UInt8 × Int
  | [] => (nul, [], 10)
  | c :: r => if c = 0 then (nul, r, 0) else if 1 < c ∨ t < 1 ∨ 4 < t then (nul, [], 7) else takeE t r
theorem takeD_cons (t : Int) (c : UInt8) (r : List UInt8) : takeD t (c :: r) = if c = 0 then (nul, r, 0) else if 1 < c ∨ t < 1 ∨ 4 < t then (nul, [], 7) else takeE t r := rfl
end Key
theorem cut_mid (l : List UInt8) (i n : Nat) : (ByteArray.mk l.toArray).extract i (i + n) = ⟨((l.drop i).take n).toArray⟩ := by
  apply ByteArray.ext
  simp [List.take_drop]
set_option maxRecDepth 100000 in
set_option maxHeartbeats 8000000 in
theorem reftake8_any (w : World) (t : Int) (l : List UInt8) (hm : l.length ≤ 1000000) : Calls Tryd.prog 43 #[.int .i64 t, txt l] w (RetT8 w (Key.takeD t l).1 (Key.takeD t l).2.1 (Key.takeD t l).2.2) := by
  have hsz : (ByteArray.mk l.toArray).size = l.length := by simp [ByteArray.size]
  go_enter Tryd.func43, Tryd.ntmps43
  go_upto_region 1 with (refine wpList_alloc_va rfl rfl ?_; intro W1 hb1 hz1 hB1)
  go_upto_region 2 with (first | (refine wpList_alloc_va rfl rfl ?_; intro W2 hb2 hz2 hB2) | (refine wpList_store_va rfl rfl (.tmp 7) (.tmp 12) rfl W1.heap.size rfl Key.nul rfl hb2 ?_; intro W3 hb3 hg3))
  have HB : Hid (Below w.heap.size w W3) := ((hB1.trans (hB2.mono (by omega))).grown hg3 (by omega) (by intro k hk; obtain rfl := Option.some.inj hk; omega))
  have hk1 := (hb1.below hB2).grown hg3 (by simp; omega)
  clear hb1 hb2 hB1 hB2 hg3 hz2
  have hk2 := hb3
  clear hb3
  generalize W1.heap.size = g at hk2 hz1 ⊢
  clear W1 W2
  by_cases hl0 : l = []
  · subst hl0
    have HT : Hid (Key.takeD t [] = (Key.nul, [], 10)) := rfl
    unfold txt
    go_wp2_with (first | (refine wpList_load_va rfl (.tmp 7) rfl g rfl hk2 ?_) | (refine wpList_store_va rfl rfl (.tmp 4) (.tmp 16) rfl w.heap.size rfl Key.nul rfl hk1 ?_; intro W4 hb4 hg4))
    exact ret_va3 hb4 rfl rfl rfl rfl rfl ⟨by rw [HT.out]; rfl, below_of_grown HB.out hg4 (Nat.le_refl _) HB.out.size⟩
  obtain ⟨c, r, rfl⟩ : ∃ c r, l = c :: r := by
    cases l with
    | nil => exact absurd rfl hl0
    | cons c r => exact ⟨c, r, rfl⟩
  clear hl0
  have hx := c.toNat_lt
  have hi0 : 0 < (ByteArray.mk (c :: r).toArray).size := by rw [hsz]; simp
  have hb0 : (ByteArray.mk (c :: r).toArray)[0]'hi0 = c := by rfl
  have hcut : (ByteArray.mk (c :: r).toArray).extract 1 (r.length + 1) = ⟨r.toArray⟩ := cut_end (c :: r) 1
  by_cases x0 : c = 0
  · have HT : Hid (Key.takeD t (c :: r) = (Key.nul, r, 0)) := by show _ = _; rw [Key.takeD_cons, if_pos x0]
    subst x0
    unfold txt
    go_upto_region 5 with fail
    have hk1d := hk1.drew
    have hk2d := hk2.drew
    refine wp_region_plan (.take 0 (.take 1 (.take 2 (.run 3 [1, 2] (.take 4 (.take 5 .fin)))))) (by kernel_rfl) (by kernel_rfl) (by kernel_rfl) (by kernel_rfl) ?_
    repeat' (first | (refine hZ _ _ ?_; clear hZ) | (refine hZ _ ?_; clear hZ) | (refine hZ ?_; clear hZ) | rw [again_nil] | rw [walk_fin] | ((first | rw [walk_take] | rw [walk_run] | rw [again_cons]); intro Z hZ; simp only [sel, List.getElem?_toArray, List.getElem?_cons_zero, List.getElem?_cons_succ]; go_wp2_with (first | (refine wpList_load_va rfl (.tmp 7) rfl g rfl hk2d ?_) | (refine wpList_store_va rfl rfl (.tmp 4) (.tmp 21) rfl w.heap.size rfl Key.nul rfl hk1d ?_; intro W4 hb4 hg4))))
    go_wp2_with fail
    exact ret_va3 hb4 rfl rfl rfl rfl rfl ⟨by rw [HT.out]; rfl, below_of_grown HB.out.drewR hg4 (Nat.le_refl _) HB.out.size⟩
  have n0 : ¬ (c.toNat : Int) = 0 := fun h => x0 (UInt8.toNat_inj.1 (by have e0 : (0 : UInt8).toNat = 0 := rfl; omega))
  by_cases hbad : 1 < c ∨ t < 1 ∨ 4 < t
  · have HT : Hid (Key.takeD t (c :: r) = (Key.nul, [], 7)) := by show _ = _; rw [Key.takeD_cons, if_neg x0, if_pos hbad]
    have hbi : 1 < (c.toNat : Int) ∨ t < 1 ∨ 4 < t := by rcases hbad with h | h | h; exact .inl (by rw [UInt8.lt_iff_toNat_lt] at h; have e0 : (1 : UInt8).toNat = 1 := rfl; omega); exact .inr (.inl h); exact .inr (.inr h)
    clear hbad x0
    by_cases b1 : 1 < (c.toNat : Int)
    · clear hbi
      unfold txt
      go_wp2_with (first | (refine wpList_load_va rfl (.tmp 7) rfl g rfl hk2 ?_) | (refine wpList_store_va rfl rfl (.tmp 4) (.tmp 36) rfl w.heap.size rfl Key.nul rfl hk1 ?_; intro W4 hb4 hg4))
      exact ret_va3 hb4 rfl rfl rfl rfl rfl ⟨by rw [HT.out]; rfl, below_of_grown HB.out hg4 (Nat.le_refl _) HB.out.size⟩
    by_cases b2 : t < 1
    · clear hbi
      unfold txt
      go_wp2_with (first | (refine wpList_load_va rfl (.tmp 7) rfl g rfl hk2 ?_) | (refine wpList_store_va rfl rfl (.tmp 4) (.tmp 36) rfl w.heap.size rfl Key.nul rfl hk1 ?_; intro W4 hb4 hg4))
      exact ret_va3 hb4 rfl rfl rfl rfl rfl ⟨by rw [HT.out]; rfl, below_of_grown HB.out hg4 (Nat.le_refl _) HB.out.size⟩
    · have b3 : 4 < t := by omega
      clear hbi
      unfold txt
      go_wp2_with (first | (refine wpList_load_va rfl (.tmp 7) rfl g rfl hk2 ?_) | (refine wpList_store_va rfl rfl (.tmp 4) (.tmp 36) rfl w.heap.size rfl Key.nul rfl hk1 ?_; intro W4 hb4 hg4))
      exact ret_va3 hb4 rfl rfl rfl rfl rfl ⟨by rw [HT.out]; rfl, below_of_grown HB.out hg4 (Nat.le_refl _) HB.out.size⟩
  have HTE : Hid (Key.takeD t (c :: r) = Key.takeE t r) := by show _ = _; rw [Key.takeD_cons, if_neg x0, if_neg hbad]
  have b1 : ¬ 1 < (c.toNat : Int) := fun h => hbad (.inl (by rw [UInt8.lt_iff_toNat_lt]; have e0 : (1 : UInt8).toNat = 1 := rfl; omega))
  have b2 : ¬ t < 1 := fun h => hbad (.inr (.inl h))
  have b3 : ¬ 4 < t := fun h => hbad (.inr (.inr h))
  clear hbad x0
  have HC := Lib.hid hcut
  have hlr : r.length ≤ 1000000 := by simp at hm; omega
  clear hcut
  have HSZ := Lib.hid hsz
  clear hsz
  by_cases t3 : t = 3
  · subst t3
    have HT : Hid (Key.takeD 3 (c :: r) = (Key.txV (Key.tx 1 [] r), Key.rest8 (Key.tx 1 [] r) r, (Key.tx 1 [] r).1)) := by show _ = _; rw [HTE.out]; rfl
    clear HTE
    unfold txt
    go_wp2_with fail
    rw [HC.out]
    refine (reftext8_any _ r hlr).mono ?_
    rintro e W4 ⟨rfl, hB4⟩
    have hk3 := hk1.below hB4
    have HB4 := Lib.hid (HB.out.then hB4)
    have hz4 := hB4.size
    clear hk1 hk2 hB4
    generalize Key.txV (Key.tx 1 [] r) = v at HT ⊢
    generalize Key.rest8 (Key.tx 1 [] r) r = rest at HT ⊢
    generalize (Key.tx 1 [] r).1 = er at HT ⊢
    go_wp2_with (refine wpList_store_va rfl rfl (.tmp 4) (.tmp 43) rfl w.heap.size rfl v rfl hk3 ?_; intro W5 hb5 hg5)
    exact ret_va3 hb5 rfl rfl rfl rfl rfl ⟨by rw [HT.out]; rfl, below_of_grown HB4.out hg5 (Nat.le_refl _) HB4.out.size⟩
  have ht3 : (t == 3) = false := by simp [t3]
  by_cases t4 : t = 4
  · subst t4
    clear ht3
    cases r with
    | nil =>
      have HT : Hid (Key.takeD 4 [c] = (Key.nul, [], 10)) := by show _ = _; rw [HTE.out]; rfl
      clear HTE
      unfold txt
      go_wp2_with (first | (refine wpList_load_va rfl (.tmp 7) rfl g rfl hk2 ?_) | (refine wpList_store_va rfl rfl (.tmp 4) (.tmp 63) rfl w.heap.size rfl Key.nul rfl hk1 ?_; intro W4 hb4 hg4))
      exact ret_va3 hb4 rfl rfl rfl rfl rfl ⟨by rw [HT.out]; rfl, below_of_grown HB.out hg4 (Nat.le_refl _) HB.out.size⟩
    | cons d s =>
      have hd := d.toNat_lt
      have hi1 : 1 < (ByteArray.mk (c :: d :: s).toArray).size := by rw [HSZ.out]; simp
      have hb1 : (ByteArray.mk (c :: d :: s).toArray)[1]'hi1 = d := by rfl
      have hlen : ¬ ((s.length : Int) + 1 + 1 < 2) := by omega
      by_cases hd1 : 1 < d
      · have HT : Hid (Key.takeD 4 (c :: d :: s) = (Key.nul, [], 7)) := by show _ = _; rw [HTE.out]; unfold Key.takeE; rw [if_neg (by omega), if_pos rfl]; simp only; rw [if_pos hd1]
        have hdi : 1 < (d.toNat : Int) := by rw [UInt8.lt_iff_toNat_lt] at hd1; have e0 : (1 : UInt8).toNat = 1 := rfl; omega
        clear HTE hd1
        unfold txt
        go_wp2_with (first | (refine wpList_load_va rfl (.tmp 7) rfl g rfl hk2 ?_) | (refine wpList_store_va rfl rfl (.tmp 4) (.tmp 70) rfl w.heap.size rfl Key.nul rfl hk1 ?_; intro W4 hb4 hg4))
        exact ret_va3 hb4 rfl rfl rfl rfl rfl ⟨by rw [HT.out]; rfl, below_of_grown HB.out hg4 (Nat.le_refl _) HB.out.size⟩
      · have HT : Hid (Key.takeD 4 (c :: d :: s) = (⟨4, d.toNat, 0, []⟩, s, 0)) := by show _ = _; rw [HTE.out]; unfold Key.takeE; rw [if_neg (by omega), if_pos rfl]; simp only; rw [if_neg hd1]
        have hdi : ¬ 1 < (d.toNat : Int) := by intro h; apply hd1; rw [UInt8.lt_iff_toNat_lt]; have e0 : (1 : UInt8).toNat = 1 := rfl; omega
        clear HTE hd1
        unfold txt
        go_upto_region 15 with fail
        have hcut2 : (ByteArray.mk (c :: d :: s).toArray).extract 2 (s.length + 1 + 1) = ⟨s.toArray⟩ := cut_end (c :: d :: s) 2
        have HK1 := Lib.hid hk1.drew
        clear hk1 hk2
        obtain ⟨x, hxd, hxv⟩ : ∃ x : Bool, ((d.toNat : Int) == 1) = x ∧ Hid ((⟨4, d.toNat, 0, []⟩ : Va) = ⟨4, if x then 1 else 0, 0, []⟩) := by
          refine ⟨_, rfl, ?_⟩
          show _ = _
          by_cases h1 : (d.toNat : Int) = 1
          · simp [h1]
          · have : (d.toNat : Int) = 0 := by omega
            simp [this]
        rw [hxv.out] at HT
        clear hxv
        refine wp_region_plan (.take 0 (.take 1 (.take 2 (.take 4 (.take 5 (.run 3 [4, 5] (.run 6 [4, 5] (.take 7 (.take 8 .fin))))))))) (by kernel_rfl) (by kernel_rfl) (by kernel_rfl) (by kernel_rfl) ?_
        repeat' (first | (refine hZ _ _ ?_; clear hZ) | (refine hZ _ ?_; clear hZ) | (refine hZ ?_; clear hZ) | rw [again_nil] | rw [walk_fin] | ((first | rw [walk_take] | rw [walk_run] | rw [again_cons]); intro Z hZ; simp only [sel, List.getElem?_toArray, List.getElem?_cons_zero, List.getElem?_cons_succ]; go_wp2_with (fail)))
        refine (refbool_any _ x).mono ?_
        rintro e W4 ⟨rfl, hB4⟩
        have hk3 := HK1.out.below hB4
        have HB4 := Lib.hid (HB.out.drewR.then hB4)
        clear hB4
        generalize (if x = true then (1 : Int) else 0) = nb at HT ⊢
        go_wp2_with fail
        repeat' (first | (refine hZ _ _ ?_; clear hZ) | (refine hZ _ ?_; clear hZ) | (refine hZ ?_; clear hZ) | rw [again_nil] | rw [walk_fin] | ((first | rw [walk_take] | rw [walk_run] | rw [again_cons]); intro Z hZ; simp only [sel, List.getElem?_toArray, List.getElem?_cons_zero, List.getElem?_cons_succ]; go_wp2_with (refine wpList_store_va rfl rfl (.tmp 4) (.tmp 74) rfl w.heap.size rfl ⟨4, nb, 0, []⟩ rfl hk3 ?_; intro W5 hb5 hg5)))
        go_wp2_with fail
        exact ret_va3 hb5 rfl rfl rfl rfl rfl ⟨by rw [HT.out]; rfl, below_of_grown HB4.out hg5 (Nat.le_refl _) HB4.out.size⟩
  have ht4 : (t == 4) = false := by simp [t4]
  have ht4' : (t != 4) = true := by simp [t4]
  have HSL : Hid ((ByteArray.mk (c :: r).toArray).size = r.length + 1) := by show _ = _; rw [HSZ.out]; rfl
  clear HSZ
  by_cases h8 : r.length < 8
  · have HT : Hid (Key.takeD t (c :: r) = (Key.nul, [], 10)) := by show _ = _; rw [HTE.out]; unfold Key.takeE; rw [if_neg t3, if_neg t4, if_pos h8]
    have h9 : ((r.length : Int) + 1) < 9 := by omega
    clear HTE
    unfold txt
    go_wp2_with (first | (refine wpList_load_va rfl (.tmp 7) rfl g rfl hk2 ?_) | (refine wpList_store_va rfl rfl (.tmp 4) (.tmp 63) rfl w.heap.size rfl Key.nul rfl hk1 ?_; intro W4 hb4 hg4))
    exact ret_va3 hb4 rfl rfl rfl rfl rfl ⟨by rw [HT.out]; rfl, below_of_grown HB.out hg4 (Nat.le_refl _) HB.out.size⟩
  have h9 : ¬ ((r.length : Int) + 1) < 9 := by omega
  have hlo : Wal.lo (r.take 8) < 18446744073709551616 := by
    have := Wal.lo_lt (r.take 8)
    rw [List.length_take, Nat.min_eq_left (by omega)] at this
    exact Nat.lt_of_lt_of_le this (by decide)
  have HCM : Hid ((ByteArray.mk (c :: r).toArray).extract 1 9 = ⟨(r.take 8).toArray⟩) := cut_mid (c :: r) 1 8
  have HCE : Hid ((ByteArray.mk (c :: r).toArray).extract 9 (r.length + 1) = ⟨(r.drop 8).toArray⟩) := cut_end (c :: r) 9
  have ht8 : (r.take 8).length ≤ 8 := List.length_take_le _ _
  have h9' : 9 ≤ r.length + 1 := by omega
  by_cases t1 : t = 1
  · subst t1
    have HT : Hid (Key.takeD 1 (c :: r) = (⟨1, (Wal.lo (r.take 8) : Int) - 9223372036854775808, 0, []⟩, r.drop 8, 0)) := by show _ = _; rw [HTE.out]; unfold Key.takeE; rw [if_neg t3, if_neg t4, if_neg h8, if_pos rfl]
    clear HTE h8
    unfold txt
    go_wp2_with fail
    rw [HCM.out]
    refine (refnumber8 _ (r.take 8) ht8).mono ?_
    rintro e wq ⟨rfl, rfl⟩
    obtain ⟨n, hn⟩ : ∃ n, Wal.lo (r.take 8) = n := ⟨_, rfl⟩
    rw [hn] at HT hlo ⊢
    clear hn HC HCM
    have HWV : Hid (wrap64 (IntKind.u64.wrap ((n : Int) - 9223372036854775808)) = (n : Int) - 9223372036854775808) := by
      show _ = _
      rw [wrap64, IntKind.wrap_u64]
      have e : (2 : Int) ^ 64 = 18446744073709551616 := by decide
      have e2 : (2 : Int) ^ 63 = 9223372036854775808 := by decide
      omega
    obtain ⟨m, hm⟩ : ∃ m : Int, (n : Int) - 9223372036854775808 = m := ⟨_, rfl⟩
    have HWW : Hid ((n : Int) < 9223372036854775808 → wrap64 (wrap64 (wrap64 (n : Int) - 4611686018427387904) - 4611686018427387904) = m) := by
      intro h
      rw [IntWalk.wrap64_in (n : Int) (by omega), IntWalk.wrap64_in ((n : Int) - 4611686018427387904) (by omega), IntWalk.wrap64_in ((n : Int) - 4611686018427387904 - 4611686018427387904) (by omega)]
      omega
    rw [hm] at HT HWV
    have HM := Lib.hid hm
    have HLO := Lib.hid hlo
    clear hm hlo
    go_upto_region 18 with fail
    go_upto_region 19 with (first | (refine wpList_alloc_va rfl rfl ?_; intro W4 hb4 hz4 hB4) | (refine wpList_store_va rfl rfl (.tmp 9) (.tmp 85) rfl W3.heap.size rfl ⟨1, wrap64 (IntKind.u64.wrap ((n:Int) - 9223372036854775808)), 0, []⟩ rfl hb4 ?_; rw [HM.out, HWV.out]; intro W5 hb5 hg5))
    have hw3 := hk1.lt
    have HB5 : Hid (Below w.heap.size w W5) := below_of_grown (HB.out.then hB4) hg5 (by omega) (by omega)
    have hk5 := (hk1.below hB4).grown hg5 (by simp; omega)
    clear hk1 hk2 hB4 hg5 hb4 hz4
    by_cases hlt : n < 9223372036854775808
    · have hli : decide ((n : Int) < 9223372036854775808) = true := by simp; omega
      have HW2 : Hid (wrap64 (wrap64 (wrap64 (n : Int) - 4611686018427387904) - 4611686018427387904) = m) := HWW.out (by omega)
      obtain ⟨c0, c1, c2, c3, f0, f1, f2, f3, -⟩ := Blk.c4 hb5
      clear hlt c0 c2 c3 f0 f2 f3
      go_upto_region 20 with fail
      clear hli
      go_upto_region 21 with fail
      rw [HW2.out]
      have hb6 : Blk (W5.setCell ⟨W3.heap.size, 1, none⟩ (.int .i64 m)) W3.heap.size 27 (Va.cells ⟨1, m, 0, []⟩) := hb5.set1
      have hk6 := hk5.other ⟨W3.heap.size, 1, none⟩ (by show w.heap.size ≠ W3.heap.size; omega) (.int .i64 m)
      have HB6 : Hid (Below w.heap.size w (W5.setCell ⟨W3.heap.size, 1, none⟩ (.int .i64 m))) := HB5.out.setCell (p := ⟨W3.heap.size, 1, none⟩) (by show w.heap.size ≤ W3.heap.size; omega) _
      clear hk5 hb5 c1 f1 HB5 HW2 HWW HWV
      generalize World.setCell W5 _ _ = W6 at hb6 hk6 HB6 ⊢
      have hce := HCE.out
      have hb6d := hb6.drew
      have hk6d := hk6.drew
      refine wp_region_plan (.take 0 (.take 1 (.take 2 (.run 3 [1, 2] (.take 4 (.take 5 .fin)))))) (by kernel_rfl) (by kernel_rfl) (by kernel_rfl) (by kernel_rfl) ?_
      repeat' (first | (refine hZ _ _ ?_; clear hZ) | (refine hZ _ ?_; clear hZ) | (refine hZ ?_; clear hZ) | rw [again_nil] | rw [walk_fin] | ((first | rw [walk_take] | rw [walk_run] | rw [again_cons]); intro Z hZ; simp only [sel, List.getElem?_toArray, List.getElem?_cons_zero, List.getElem?_cons_succ]; go_wp2_with (first | (refine wpList_load_va rfl (.tmp 9) rfl W3.heap.size rfl hb6d ?_) | (refine wpList_store_va rfl rfl (.tmp 4) (.tmp 93) rfl w.heap.size rfl ⟨1, m, 0, []⟩ rfl hk6d ?_; intro W7 hb7 hg7))))
      go_wp2_with fail
      exact ret_va3 hb7 rfl rfl rfl rfl rfl ⟨by rw [HT.out]; rfl, below_of_grown HB6.out.drewR hg7 (Nat.le_refl _) HB6.out.size⟩
    · have hli : decide ((n : Int) < 9223372036854775808) = false := by simp; omega
      have hb6 : Blk W5 W3.heap.size 27 (Va.cells ⟨1, m, 0, []⟩) := hb5
      have hk6 := hk5
      have HB6 := Lib.hid HB5.out
      clear hlt hk5 hb5 HB5 HWW HWV
      go_upto_region 21 with fail
      clear hli
      have hce := HCE.out
      have hb6d := hb6.drew
      have hk6d := hk6.drew
      refine wp_region_plan (.take 0 (.take 1 (.take 2 (.run 3 [1, 2] (.take 4 (.take 5 .fin)))))) (by kernel_rfl) (by kernel_rfl) (by kernel_rfl) (by kernel_rfl) ?_
      repeat' (first | (refine hZ _ _ ?_; clear hZ) | (refine hZ _ ?_; clear hZ) | (refine hZ ?_; clear hZ) | rw [again_nil] | rw [walk_fin] | ((first | rw [walk_take] | rw [walk_run] | rw [again_cons]); intro Z hZ; simp only [sel, List.getElem?_toArray, List.getElem?_cons_zero, List.getElem?_cons_succ]; go_wp2_with (first | (refine wpList_load_va rfl (.tmp 9) rfl W3.heap.size rfl hb6d ?_) | (refine wpList_store_va rfl rfl (.tmp 4) (.tmp 93) rfl w.heap.size rfl ⟨1, m, 0, []⟩ rfl hk6d ?_; intro W7 hb7 hg7))))
      go_wp2_with fail
      exact ret_va3 hb7 rfl rfl rfl rfl rfl ⟨by rw [HT.out]; rfl, below_of_grown HB6.out.drewR hg7 (Nat.le_refl _) HB6.out.size⟩
  have HT : Hid (Key.takeD t (c :: r) = if Key.pbits (Key.real0 (Key.kback (Wal.lo (r.take 8)))) = Wal.lo (r.take 8) then (⟨2, 0, Key.real0 (Key.kback (Wal.lo (r.take 8))), []⟩, r.drop 8, 0) else (Key.nul, [], 7)) := by
    show _ = _; rw [HTE.out]; unfold Key.takeE; rw [if_neg t3, if_neg t4, if_neg h8, if_neg t1]
  have ht1 : (t == 1) = false := by simp [t1]
  clear HTE t1 t3 t4 h8
  unfold txt
  go_wp2_with fail
  rw [HCM.out]
  refine (refnumber8 _ (r.take 8) ht8).mono ?_
  rintro e wq ⟨rfl, rfl⟩
  obtain ⟨n, hn⟩ : ∃ n, Wal.lo (r.take 8) = n := ⟨_, rfl⟩
  rw [hn] at HT hlo ⊢
  clear hn HC HCM
  go_wp2_with fail
  refine (refreal8_any _ n hlo).mono ?_
  rintro e W4 ⟨rfl, hB4⟩
  have HB4 := Lib.hid (HB.out.then hB4)
  have hw3 := hk1.lt
  have hk4 := hk1.below hB4
  have hj4 := hk2.below hB4
  have hz4 := hB4.size
  clear hk1 hk2 hB4 hlo
  generalize Key.real0 (Key.kback n) = f at HT ⊢
  by_cases hpn : Key.pbits f = n
  · have HT2 : Hid (Key.takeD t (c :: r) = (⟨2, 0, f, []⟩, r.drop 8, 0)) := by show _ = _; rw [HT.out, if_pos hpn]
    rw [decide_eq_true hpn]
    clear hpn HT
    go_upto_region 23 with (first | (refine wpList_alloc_va rfl rfl ?_; intro W5 hb5 hz5 hB5) | (refine wpList_store_va rfl rfl (.tmp 10) (.tmp 99) rfl W4.heap.size rfl ⟨2, 0, f, []⟩ rfl hb5 ?_; intro W6 hb6 hg6))
    have hk6 := (hk4.below hB5).grown hg6 (by simp; omega)
    have HB6 : Hid (Below w.heap.size w W6) := below_of_grown (HB4.out.then hB5) hg6 (by omega) (by omega)
    clear hk4 hj4 hB5 hg6 hb5 hz5 HB4
    have h9' : 9 ≤ r.length + 1 := h9'
    go_upto_region 25 with fail
    have hce := HCE.out
    have hb6d := hb6.drew
    have hk6d := hk6.drew
    refine wp_region_plan (.take 0 (.take 1 (.take 2 (.run 3 [1, 2] (.take 4 (.take 5 .fin)))))) (by kernel_rfl) (by kernel_rfl) (by kernel_rfl) (by kernel_rfl) ?_
    repeat' (first | (refine hZ _ _ ?_; clear hZ) | (refine hZ _ ?_; clear hZ) | (refine hZ ?_; clear hZ) | rw [again_nil] | rw [walk_fin] | ((first | rw [walk_take] | rw [walk_run] | rw [again_cons]); intro Z hZ; simp only [sel, List.getElem?_toArray, List.getElem?_cons_zero, List.getElem?_cons_succ]; go_wp2_with (first | (refine wpList_load_va rfl (.tmp 10) rfl W4.heap.size rfl hb6d ?_) | (refine wpList_store_va rfl rfl (.tmp 4) (.tmp 104) rfl w.heap.size rfl ⟨2, 0, f, []⟩ rfl hk6d ?_; intro W7 hb7 hg7))))
    go_wp2_with fail
    exact ret_va3 hb7 rfl rfl rfl rfl rfl ⟨by rw [HT2.out]; rfl, below_of_grown HB6.out.drewR hg7 (Nat.le_refl _) HB6.out.size⟩
  · have HT2 : Hid (Key.takeD t (c :: r) = (Key.nul, [], 7)) := by show _ = _; rw [HT.out, if_neg hpn]
    rw [decide_eq_false hpn]
    clear hpn HT
    go_upto_region 23 with (first | (refine wpList_alloc_va rfl rfl ?_; intro W5 hb5 hz5 hB5) | (refine wpList_store_va rfl rfl (.tmp 10) (.tmp 99) rfl W4.heap.size rfl ⟨2, 0, f, []⟩ rfl hb5 ?_; intro W6 hb6 hg6))
    have hk6 := (hk4.below hB5).grown hg6 (by simp; omega)
    have hj6 := (hj4.below hB5).grown hg6 (by simp; have := hj4.lt; omega)
    have HB6 : Hid (Below w.heap.size w W6) := below_of_grown (HB4.out.then hB5) hg6 (by omega) (by omega)
    clear hk4 hj4 hB5 hg6 hb5 hz5 HB4
    go_wp2_with (first | (refine wpList_load_va rfl (.tmp 7) rfl g rfl hj6 ?_) | (refine wpList_store_va rfl rfl (.tmp 4) (.tmp 103) rfl w.heap.size rfl Key.nul rfl hk6 ?_; intro W7 hb7 hg7))
    exact ret_va3 hb7 rfl rfl rfl rfl rfl ⟨by rw [HT2.out]; rfl, below_of_grown HB6.out hg7 (Nat.le_refl _) HB6.out.size⟩
end Go.Proofs.YtknfnhmkiooifaaDoor
end

section
/-
  The document's answer for values of types at the beginning of a key.
-/
namespace Go.Proofs.YtknfnhmkiooifaaDoor
set_option linter.unusedSimpArgs false
set_option linter.unusedVariables false
open Go.RowKit

namespace Key
theorem rest8_len (q : Int × List UInt8 × Nat) (s : List UInt8) : (rest8 q s).length ≤ s.length := by
  unfold rest8
  split
  · simp
  · simp
theorem takeD_len (t : Int) (l : List UInt8) : (takeD t l).2.1.length ≤ l.length := by
  cases l with
  | nil => simp [takeD]
  | cons c r =>
    rw [takeD_cons]
    split
    · simp
    · split
      · simp
      · unfold takeE
        split
        · have := rest8_len (tx 1 [] r) r
          simp only [List.length_cons]; omega
        · split
          · cases r with
            | nil => simp
            | cons d s => simp only; split <;> simp <;> omega
          · split
            · simp
            · split
              · simp; omega
              · split
                · simp; omega
                · simp
/-- Values of types, as the document has them. -/
def readD : List Va → List Int → List UInt8 → List Va × List UInt8 × Int
  | acc, [], l => (acc, l, 0)
  | acc, t :: ts, l => if (takeD t l).2.2 ≠ 0 then ([], [], (takeD t l).2.2) else readD (acc ++ [(takeD t l).1]) ts (takeD t l).2.1
end Key
/-- What the document's Read answers. -/
def RetD3 (w : World) (r : List Va × List UInt8 × Int) (e : Ending) (w' : World) : Prop :=
  ∃ A1 c1, e = .returned (.tuple #[.slice A1 r.1.length c1, txt r.2.1, .int .i64 r.2.2]) ∧ ERow eVa w' A1 r.1 ∧ Below w.heap.size w w'
set_option maxRecDepth 20000 in
set_option maxHeartbeats 4000000 in
theorem refread8_any (w : World) (T : Option Addr) (ct : Nat) (ts : List Int) (l : List UInt8) (ht : ERow eInt w T ts) (hts : ts.length ≤ 1000) (hm : l.length ≤ 1000000) :
    Calls Tryd.prog 23 #[.slice T ts.length ct, txt l] w (RetD3 w (Key.readD [] ts l)) := by
  have HTS := Lib.hid ht
  clear ht
  go_enter Tryd.func23, Tryd.ntmps23
  go_wp2_with fail
  go_loopw [1, 7, 8] (fun bv_ ov iv wr => ∃ (k : Nat) (acc : List Va) (lb : List UInt8) (A1 : Option Addr) (c1 : Nat), k ≤ ts.length ∧ acc.length = k ∧ bv_ = txt lb ∧ ov = .slice A1 acc.length c1 ∧ iv = .int .i64 (k : Int) ∧ lb.length ≤ 1000000 ∧ Hid (Key.readD [] ts l = Key.readD acc (ts.drop k) lb ∧ EOwn eVa wr w.heap.size A1 c1 acc ∧ Below w.heap.size w wr)) (fun _ _ iv _ => ts.length - (intOf iv).toNat)
  case atStart => exact ⟨0, [], l, none, 0, Nat.zero_le _, rfl, rfl, rfl, rfl, hm, rfl, EOwn.nil _ _, Below.refl _ _⟩
  case round =>
    obtain ⟨k, acc, lb, A1, c1, hk, hak, rfl, rfl, rfl, hlm, HJ⟩ := hrel
    have HAK := Lib.hid hak
    clear hak
    by_cases hlt : k < ts.length
    · have hii : (k : Int) < (ts.length : Int) := by omega
      have HTW := Lib.hid (HTS.out.below HJ.out.2.2)
      obtain ⟨b, o, rfl, hb, hce⟩ := HTW.out.at_ hlt
      have hcl : wr.cell? ⟨b, o + k, none⟩ = some (.int .i64 ts[k]) := by have := hce 0 _ rfl; simpa [eInt] using this
      clear hce
      have hd : ts.drop k = ts[k] :: ts.drop (k + 1) := (List.getElem_cons_drop hlt).symm
      have HRA : Hid (Key.readD [] ts l = if (Key.takeD ts[k] lb).2.2 ≠ 0 then ([], [], (Key.takeD ts[k] lb).2.2) else Key.readD (acc ++ [(Key.takeD ts[k] lb).1]) (ts.drop (k + 1)) (Key.takeD ts[k] lb).2.1) := by
        show _ = _
        rw [HJ.out.1, hd]; rfl
      have HTL := Lib.hid (Key.takeD_len ts[k] lb)
      clear hd hb
      go_wp2_with fail
      clear hcl
      refine (reftake8_any _ ts[k] lb hlm).mono ?_
      rintro e W2 ⟨rfl, hB2⟩
      generalize Key.takeD ts[k] lb = q at HRA HTL ⊢
      obtain ⟨v, rs, er⟩ := q
      have hn : rs.length ≤ lb.length := HTL.out
      have H2 := Lib.hid (And.intro (HJ.out.2.1.below hB2) (HJ.out.2.2.then hB2))
      clear hB2
      by_cases he : er = 0
      · have HR2 : Hid (Key.readD [] ts l = Key.readD (acc ++ [v]) (ts.drop (k + 1)) rs) := by show _ = _; rw [HRA.out, if_neg (by simpa using he)]
        have hne : (er != 0) = false := by simp [he]
        clear he HRA
        go_upto_region 8 with (first | (refine wpList_alloc_va rfl rfl ?_; intro W3 hb3 hz3 hB3) | (refine wpList_store_va rfl rfl (.tmp 9) (.tmp 25) rfl W2.heap.size rfl v rfl hb3 ?_; intro W4 hb4 hg4))
        have hB4 : Below W2.heap.size W2 W4 := below_of_grown hB3 hg4 (Nat.le_refl _) (by omega)
        have H4 := Lib.hid (And.intro (H2.out.1.below hB4) (H2.out.2.then hB4))
        clear hB3 hg4 hb3 hz3 hB4
        have H5 := Lib.hid (And.intro (H4.out.1.alloc (.cells #[.int .i64 v.k, .int .i64 v.n, .float .f64 v.f, txt v.s] 27)) (And.intro (ERow.lit eVa W4 v #[.int .i64 v.k, .int .i64 v.n, .float .f64 v.f, txt v.s] rfl W4.heap.size rfl) (H4.out.2.trans ((Below.alloc1 W4 (.cells #[.int .i64 v.k, .int .i64 v.n, .float .f64 v.f, txt v.s] 27)).mono H4.out.2.size))))
        go_wp2_with (first | (refine wpList_load_va rfl (.tmp 9) rfl W2.heap.size rfl hb4 ?_; unfold Va.v) | (at_builtin; refine wpList_append_elems eVa rfl (.tmp 31) (.tmp 33) rfl _ rfl H5.out.1 rfl _ rfl H5.out.2.1 rfl (by rw [HAK.out]; simp; omega) H5.out.2.2.size ?_; intro A6 c6 W6 ho6 hb6 _ _))
        have H6 := Lib.hid (And.intro ho6 (H5.out.2.2.trans hb6))
        clear ho6 hb6 H5 hb4
        have HAL : Hid ((acc ++ [v]).length = acc.length + 1) := by show _ = _; simp
        go_roundw
        case rel => exact ⟨k + 1, acc ++ [v], rs, A6, c6, by omega, by rw [HAL.out, HAK.out], rfl, by rw [HAL.out], by go_num, by omega, HR2.out, H6.out.1, H6.out.2⟩
        case measure => simp [intOf]; omega
      · have HR2 : Hid (Key.readD [] ts l = ([], [], er)) := by show _ = _; rw [HRA.out, if_pos he]
        have hne : (er != 0) = true := by simp [he]
        clear he HRA
        go_wp2_with (first | (refine wpList_alloc_va rfl rfl ?_; intro W3 hb3 hz3 hB3) | (refine wpList_store_va rfl rfl (.tmp 9) (.tmp 25) rfl W2.heap.size rfl v rfl hb3 ?_; intro W4 hb4 hg4))
        refine bodyPost_ret (v := .tuple #[.slice none 0 0, txt [], .int .i64 er]) (by simp [results, Tryd.results23, go_sem]; rfl) rfl ?_
        rw [HR2.out]
        exact ⟨none, 0, rfl, ERow.nil, H2.out.2.then (below_of_grown hB3 hg4 (Nat.le_refl _) (by omega))⟩
    · obtain rfl : k = ts.length := by omega
      have HD : Hid (Key.readD [] ts l = (acc, lb, 0)) := by show _ = _; rw [HJ.out.1, List.drop_length]; rfl
      go_wp2_with fail
      refine bodyPost_ret (v := .tuple #[.slice A1 acc.length c1, txt lb, .int .i64 0]) (by simp [results, Tryd.results23, go_sem]) rfl ?_
      rw [HD.out]
      exact ⟨A1, c1, rfl, HJ.out.2.1.row, HJ.out.2.2⟩
end Go.Proofs.YtknfnhmkiooifaaDoor
end

section
/-
  The contracts of wire.Reader's methods, of a reader that is one.
-/
namespace Go.Proofs.YtknfnhmkiooifaaDoor
set_option linter.unusedSimpArgs false
set_option linter.unusedVariables false
open Go.RowKit

/-- The bytes l lie behind the address A, in a block of bytes. -/
def URow (w : World) (A : Option Addr) (l : List UInt8) : Prop := BRow w A l ∧ (0 < l.length → ∀ a, A = some a → ∃ cur fr, w.heap[a.block]? = some (.cells cur 5 fr))
section
variable {w w' : World} {A : Option Addr} {l : List UInt8}
theorem URow.nil : URow w A [] := ⟨BRow.nil, fun h => absurd h (by simp)⟩
theorem URow.at_ {k : Nat} (h : URow w A l) (hk : k < l.length) : ∃ b o, A = some ⟨b, o, none⟩ ∧ b < w.heap.size ∧ w.cell? ⟨b, o + k, none⟩ = some (.int .u8 (l[k].toNat : Int)) := h.1.at_ hk
theorem URow.keepB (h : URow w A l) (hs : w.heap.size ≤ w'.heap.size) (hk : ∀ a, A = some a → 0 < l.length → a.block < w.heap.size → w'.heap[a.block]? = w.heap[a.block]?) : URow w' A l := by
  refine ⟨fun hl => ?_, fun hl a ha => ?_⟩
  · obtain ⟨b, o, rfl, hlt, hc⟩ := h.1 hl
    exact ⟨b, o, rfl, Nat.lt_of_lt_of_le hlt hs, fun j hj => (World.cell?_of_block (a := ⟨b, o + j, none⟩) (hk ⟨b, o, none⟩ rfl (by simpa using hl) hlt)).trans (hc j hj)⟩
  · obtain ⟨b, o, e, hlt⟩ := h.1.lt hl
    obtain rfl := Option.some.inj (ha.symm.trans e)
    obtain ⟨cur, fr, hh⟩ := h.2 hl _ e
    exact ⟨cur, fr, (hk _ e hl hlt).trans hh⟩
theorem URow.below (h : URow w A l) (hb : Below w.heap.size w w') : URow w' A l := h.keepB hb.size fun a _ _ hlt => hb.block _ hlt
theorem URow.drew (h : URow w A l) : URow w.drew A l := h
theorem URow.alloc (h : URow w A l) (o : Obj) : URow (w.alloc o) A l := h.below ((Below.refl _ _).alloc (Nat.le_refl _) o)
theorem URow.drop (h : URow w A l) (k : Nat) : URow w (A.map fun x => x.add k) (l.drop k) := by
  refine ⟨h.1.drop k, fun hl a ha => ?_⟩
  have hl' : 0 < l.length := by rw [List.length_drop] at hl; omega
  obtain ⟨b, o, rfl, hlt⟩ := BRow.lt h.1 hl'
  simp only [Option.map_some, Option.some.injEq, Addr.add_lit] at ha
  subst ha
  exact h.2 hl' ⟨b, o, none⟩ rfl
/-- A block of another type is apart from it. -/
theorem URow.ne_of {g : Nat} {cur : Array Value} {T : TypeId} {fr : Nat × Nat} (h : URow w A l) (hl : 0 < l.length) (hg : w.heap[g]? = some (.cells cur T fr)) (hT : T ≠ 5) : ∀ a, A = some a → a.block ≠ g := by
  intro a ha hb
  obtain ⟨cur', fr', hh⟩ := h.2 hl a ha
  rw [hb, hg] at hh
  simp only [Option.some.injEq, Obj.cells.injEq] at hh
  exact hT hh.2.1
end
/-- Block g is a reader: what is left and the error. -/
def RD (w : World) (g : Nat) (r : Wire.RS) : Prop :=
  ∃ A c, w.heap[g]? = some (.cells #[.slice A r.l.length c, .int .i64 r.e] 113 (0, 0)) ∧ URow w A r.l ∧ r.l.length ≤ c ∧ c ≤ 9223372036854775807
/-- What a method of a reader does: it answers v, leaves the reader r, and turns no other block. -/
def Did (w : World) (g : Nat) (v : Value) (r : Wire.RS) (e : Ending) (w' : World) : Prop := e = .returned v ∧ RD w' g r ∧ w.grownBy w' (some g)

section
variable {w w' : World} {g : Nat} {r : Wire.RS}
theorem RD.lt (h : RD w g r) : g < w.heap.size := by
  obtain ⟨A, c, hg, _⟩ := h
  exact (Array.getElem?_eq_some_iff.1 hg).1
theorem RD.below (h : RD w g r) (hb : Below w.heap.size w w') : RD w' g r := by
  have hlt := h.lt
  obtain ⟨A, c, hg, hr, h1, h2⟩ := h
  exact ⟨A, c, (hb.block g hlt).trans hg, hr.below hb, h1, h2⟩
theorem RD.drew (h : RD w g r) : RD w.drew g r := h
/-- The bytes lie in another block than the reader. -/
theorem row_ne {A A' : Option Addr} {n c : Nat} {e : Int} {t : TypeId} {l : List UInt8} (hg : w.heap[g]? = some (.cells #[.slice A' n c, .int .i64 e] t (0, 0))) (hr : BRow w A l) (hl : 0 < l.length) : ∀ a, A = some a → a.block ≠ g := by
  intro a ha hb
  obtain ⟨b, o, e1, _, hc⟩ := hr (by simpa using hl)
  rw [ha] at e1
  obtain rfl := Option.some.inj e1
  simp only at hb
  subst hb
  have := hc 0 (by simpa using hl)
  rw [cell_of_row w b (o + 0) _ t (0, 0) hg] at this
  match o, this with
  | 0, h => simp [bv] at h
  | 1, h => simp [bv] at h
  | o + 2, h => simp [bv] at h
theorem row_far {A A' : Option Addr} {n c : Nat} {e : Int} {t : TypeId} {l : List UInt8} (hg : w.heap[g]? = some (.cells #[.slice A' n c, .int .i64 e] t (0, 0))) (hr : BRow w A l) (i : Nat) (u : Value) : BRow (w.setCell ⟨g, i, none⟩ u) A l := by
  cases l with
  | nil => exact BRow.nil
  | cons x l => exact hr.far (row_ne hg hr (by simp)) u
theorem urow_far {A A' : Option Addr} {n c : Nat} {e : Int} {t : TypeId} {l : List UInt8} (hg : w.heap[g]? = some (.cells #[.slice A' n c, .int .i64 e] t (0, 0))) (hr : URow w A l) (i : Nat) (u : Value) : URow (w.setCell ⟨g, i, none⟩ u) A l :=
  hr.keepB (by simp) fun a ha hl _ => heap_setCell_other w ⟨g, i, none⟩ a.block u (fun e => row_ne hg hr.1 hl a ha e)
theorem set_heap {cs : Array Value} {t : TypeId} (hg : w.heap[g]? = some (.cells cs t (0, 0))) (i : Nat) (u : Value) : (w.setCell ⟨g, i, none⟩ u).heap[g]? = some (.cells (cs.setIfInBounds i u) t (0, 0)) := heap_setCell_same w g i cs t u hg
theorem set_grown (w : World) (g i : Nat) (u : Value) : w.grownBy (w.setCell ⟨g, i, none⟩ u) (some g) :=
  ⟨rfl, rfl, rfl, by simp, fun k _ hk => heap_setCell_other w ⟨g, i, none⟩ k u (fun e => hk (by rw [e]))⟩
/-- The error is written. -/
theorem RD.err {A : Option Addr} {c : Nat} {l : List UInt8} {e : Int} (hg : w.heap[g]? = some (.cells #[.slice A l.length c, .int .i64 e] 113 (0, 0))) (hr : URow w A l) (h1 : l.length ≤ c) (h2 : c ≤ 9223372036854775807) (e' : Int) :
    RD (w.setCell ⟨g, 1, none⟩ (.int .i64 e')) g ⟨l, e'⟩ :=
  ⟨A, c, by rw [set_heap hg]; simp, urow_far hg hr _ _, h1, h2⟩
/-- The bytes that are left are written. -/
theorem RD.rest {A A' : Option Addr} {n c c' : Nat} {l' : List UInt8} {e : Int} (hg : w.heap[g]? = some (.cells #[.slice A n c, .int .i64 e] 113 (0, 0))) (hr : URow w A' l') (h1 : l'.length ≤ c') (h2 : c' ≤ 9223372036854775807) :
    RD (w.setCell ⟨g, 0, none⟩ (.slice A' l'.length c')) g ⟨l', e⟩ :=
  ⟨A', c', by rw [set_heap hg]; simp, urow_far hg hr _ _, h1, h2⟩
/-- Both are written, the bytes first. -/
theorem RD.both {A A' : Option Addr} {n c c' : Nat} {l' : List UInt8} {e : Int} (hg : w.heap[g]? = some (.cells #[.slice A n c, .int .i64 e] 113 (0, 0))) (hr : URow w A' l') (h1 : l'.length ≤ c') (h2 : c' ≤ 9223372036854775807) (e' : Int) :
    RD ((w.setCell ⟨g, 0, none⟩ (.slice A' l'.length c')).setCell ⟨g, 1, none⟩ (.int .i64 e')) g ⟨l', e'⟩ := by
  have hg' : (w.setCell ⟨g, 0, none⟩ (.slice A' l'.length c')).heap[g]? = some (.cells #[.slice A' l'.length c', .int .i64 e] 113 (0, 0)) := by rw [set_heap hg]; simp
  exact RD.err hg' (urow_far hg hr _ _) h1 h2 e'
theorem RD.cut {A A' : Option Addr} {n c c' k : Nat} {l : List UInt8} {e : Int} (hg : w.heap[g]? = some (.cells #[.slice A n c, .int .i64 e] 113 (0, 0))) (hr : URow w A' (l.drop k)) (h1 : l.length - k ≤ c') (h2 : c' ≤ 9223372036854775807) :
    RD (w.setCell ⟨g, 0, none⟩ (.slice A' (l.length - k) c')) g ⟨l.drop k, e⟩ := by
  have := RD.rest (l' := l.drop k) hg hr (by rw [List.length_drop]; exact h1) h2
  rwa [List.length_drop] at this
/-- Where a cut of a row lies. -/
theorem row_cut {b o k : Nat} {l : List UInt8} (h : URow w (some ⟨b, o, none⟩) l) : URow w (some ⟨b, o + k, none⟩) (l.drop k) := by
  have := h.drop k
  simpa [Addr.add_lit] using this
theorem row_end {A : Option Addr} {k : Nat} {l : List UInt8} (h : l.length ≤ k) : URow w A (l.drop k) := by
  rw [List.drop_eq_nil_of_le h]; exact URow.nil
theorem grown_trans {a b c : World} {row : Option Nat} (h : a.grownBy b row) (k : b.grownBy c row) : a.grownBy c row :=
  ⟨k.os.trans h.os, k.tape.trans h.tape, k.output.trans h.output, Nat.le_trans h.size k.size, fun i hi hn => (k.block i (Nat.lt_of_lt_of_le hi h.size) hn).trans (h.block i hi hn)⟩
theorem grown_drew {a b : World} {row : Option Nat} (h : a.grownBy b row) : a.grownBy b.drew row := ⟨h.os, h.tape, h.output, h.size, h.block⟩
end

set_option maxHeartbeats 400000 in
theorem rerr_any (w : World) (g : Nat) (r : Wire.RS) (h : RD w g r) : Calls Tryd.prog 78 #[.pointer (some ⟨g, 0, none⟩)] w fun e w' => e = .returned (.int .i64 r.e) ∧ w = w' := by
  obtain ⟨A, c, hg, hr, h1, h2⟩ := h
  have c1 : w.cell? ⟨g, 1, none⟩ = some (.int .i64 r.e) := by rw [cell_of_row w g 1 _ _ _ hg]; rfl
  clear hg
  go_enter Tryd.func78, Tryd.ntmps78
  go_wp2_with fail
  go_ret
  exact ⟨rfl, rfl⟩
set_option maxHeartbeats 400000 in
theorem rerr_nil (w : World) : Calls Tryd.prog 78 #[.pointer none] w fun e w' => e = .returned (.int .i64 1) ∧ w = w' := by
  go_enter Tryd.func78, Tryd.ntmps78
  go_wp2_with fail
  go_ret
  exact ⟨rfl, rfl⟩
set_option maxHeartbeats 400000 in
theorem rfail_any (w : World) (g : Nat) (A : Option Addr) (c : Nat) (l : List UInt8) (e e' : Int) (hg : w.heap[g]? = some (.cells #[.slice A l.length c, .int .i64 e] 113 (0, 0))) (hr : URow w A l) (h1 : l.length ≤ c) (h2 : c ≤ 9223372036854775807) :
    Calls Tryd.prog 87 #[.pointer (some ⟨g, 0, none⟩), .int .i64 e'] w (Did w g (.int .u64 0) ⟨l, e'⟩) := by
  have c1 : w.cell? ⟨g, 1, none⟩ = some (.int .i64 e) := by rw [cell_of_row w g 1 _ _ _ hg]; rfl
  have f1 : w.frozen? ⟨g, 1, none⟩ = false := frozen_of_row w g 1 _ _ hg
  have HG := Lib.hid hg
  clear hg
  go_enter Tryd.func87, Tryd.ntmps87
  go_wp2_with fail
  go_ret
  exact ⟨rfl, RD.err HG.out hr h1 h2 e', set_grown _ _ _ _⟩
end Go.Proofs.YtknfnhmkiooifaaDoor
end

section
/-
  The contract of wire.Reader.Num.
-/
namespace Go.Proofs.YtknfnhmkiooifaaDoor
set_option linter.unusedSimpArgs false
set_option linter.unusedVariables false
open Go.RowKit

theorem tk_cons (i a : Nat) (l : List UInt8) (h : i < l.length) : Wire.tk i a (l.drop i) =
    if i = 9 ∧ 1 < l[i].toNat then (7, 0, 0) else if 128 ≤ l[i].toNat then Wire.tk (i + 1) (a + l[i].toNat % 128 * 128 ^ i) (l.drop (i + 1))
    else if l[i].toNat = 0 ∧ 0 < i then (7, 0, 0) else (0, i + 1, a + l[i].toNat % 128 * 128 ^ i) := by
  rw [List.drop_eq_getElem_cons h, Wire.tk]
/-- What n |= uint64(c%128) << shift comes to. -/
theorem or_shift (a c i : Nat) (ha : a < 128 ^ i) (hi : i ≤ 9) (hc : c < 256) (h9 : i = 9 → c ≤ 1) :
    Go.bits .or .u64 (a : Int) (IntKind.u64.wrap ((c : Int) % 128 * 2 ^ (7 * i))) = ((a + c % 128 * 128 ^ i : Nat) : Int) := by
  have hp : (128 : Nat) ^ i = 2 ^ (7 * i) := by rw [show (128 : Nat) = 2 ^ 7 from rfl, ← Nat.pow_mul]
  have hlt : c % 128 * 2 ^ (7 * i) < 18446744073709551616 := by
    have h1 : c % 128 < 128 := Nat.mod_lt _ (by omega)
    rcases Nat.lt_or_ge i 9 with h | h
    · have h2 : 2 ^ (7 * i) ≤ 2 ^ 56 := Nat.pow_le_pow_right (by omega) (by omega)
      have h3 : c % 128 * 2 ^ (7 * i) ≤ 127 * 2 ^ 56 := Nat.mul_le_mul (by omega) h2
      omega
    · obtain rfl : i = 9 := by omega
      have := h9 rfl
      have h3 : c % 128 * 2 ^ (7 * 9) ≤ 1 * 2 ^ 63 := Nat.mul_le_mul (by omega) (Nat.le_refl _)
      omega
  have e : IntKind.u64.wrap ((c : Int) % 128 * 2 ^ (7 * i)) = ((c % 128 * 2 ^ (7 * i) : Nat) : Int) := by
    have e1 : ((c : Int) % 128) * 2 ^ (7 * i) = ((c % 128 * 2 ^ (7 * i) : Nat) : Int) := by simp
    rw [e1]
    generalize c % 128 * 2 ^ (7 * i) = q at hlt
    exact IntWalk.u64_in _ (by omega)
  have ha2 : a < 18446744073709551616 := by
    rw [hp] at ha
    have : 2 ^ (7 * i) ≤ 2 ^ 63 := Nat.pow_le_pow_right (by omega) (by omega)
    omega
  have key := Nat.two_pow_add_eq_or_of_lt (show a < 2 ^ (7 * i) by rw [← hp]; exact ha) (c % 128)
  rw [e, u64_or_nat _ _ ha2 hlt, hp, Nat.mul_comm (c % 128), Nat.or_comm, ← key, Nat.add_comm]

theorem did_take {w w' : World} {g er : Nat} {l : List UInt8} (h : (Wire.tk 0 0 l).1 = er) (h0 : er ≠ 0) (hrd : RD w' g ⟨l, (er : Int)⟩) (hg : w.grownBy w' (some g)) :
    Did w g (.int .u64 ((Wire.take ⟨l, 0⟩).2 : Nat)) (Wire.take ⟨l, 0⟩).1 (.returned (.int .u64 0)) w' := by
  have e : Wire.take ⟨l, 0⟩ = (⟨l, (er : Int)⟩, 0) := by
    unfold Wire.take
    rw [if_neg (by simp), if_pos (by rw [h]; exact h0), h]
  rw [e]
  exact ⟨rfl, hrd, hg⟩
theorem did_took {w w' : World} {g u v : Nat} {l : List UInt8} (h : Wire.tk 0 0 l = (0, u, v)) (hrd : RD w' g ⟨l.drop u, 0⟩) (hg : w.grownBy w' (some g)) :
    Did w g (.int .u64 ((Wire.take ⟨l, 0⟩).2 : Nat)) (Wire.take ⟨l, 0⟩).1 (.returned (.int .u64 (v : Nat))) w' := by
  have e : Wire.take ⟨l, 0⟩ = (⟨l.drop u, 0⟩, v) := by
    unfold Wire.take
    rw [if_neg (by simp), if_neg (by rw [h]; simp), h]
  rw [e]
  exact ⟨rfl, hrd, hg⟩

structure Acc (a i : Nat) : Prop where
  lt : a < 128 ^ i

set_option maxRecDepth 20000 in
set_option maxHeartbeats 1000000 in
theorem rnum_any (w : World) (g : Nat) (r : Wire.RS) (h : RD w g r) : Calls Tryd.prog 79 #[.pointer (some ⟨g, 0, none⟩)] w (Did w g (.int .u64 ((Wire.take r).2 : Nat)) (Wire.take r).1) := by
  obtain ⟨l, e⟩ := r
  have HRD := Lib.hid h
  obtain ⟨A, c, hg, hr, h1, h2⟩ := h
  simp only at hg hr h1
  by_cases he : e = 0
  · subst he
    have c0 : w.cell? ⟨g, 0, none⟩ = some (.slice A l.length c) := by rw [cell_of_row w g 0 _ _ _ hg]; rfl
    have f0 : w.frozen? ⟨g, 0, none⟩ = false := frozen_of_row w g 0 _ _ hg
    have HG := Lib.hid hg
    clear hg
    go_enter Tryd.func79, Tryd.ntmps79
    go_wp2_with fail
    refine (rerr_any w g _ HRD.out).mono ?_
    rintro e w' ⟨rfl, rfl⟩
    go_wp2_with fail
    go_loop [3, 4, 10] (fun nv sv iv => ∃ i a : Nat, i ≤ 9 ∧ iv = .int .i64 i ∧ nv = .int .u64 (a : Nat) ∧ sv = .int .i64 (7 * i : Nat) ∧ Acc a i ∧ i ≤ l.length ∧ Hid (Wire.tk 0 0 l = Wire.tk i a (l.drop i))) (fun _ _ iv => 10 - (intOf iv).toNat)
    case atStart => exact ⟨0, 0, by omega, rfl, rfl, rfl, ⟨by simp⟩, Nat.zero_le _, rfl⟩
    case round =>
      obtain ⟨i, a, hi, rfl, rfl, rfl, HA, hil, HT⟩ := hrel
      by_cases hlt : i < l.length
      · have HC := Lib.hid (tk_cons i a l hlt)
        obtain ⟨b, o, rfl, _, hc⟩ := hr.at_ hlt
        have hcl := l[i].toNat_lt
        generalize l[i].toNat = x at hc hcl HC
        have HO := Lib.hid (or_shift a x i HA.lt hi hcl)
        by_cases hi9 : i = 9
        · have hi9b : ((i : Int) == 9) = true := by simp; omega
          have hi9l : 9 ≤ i := by omega
          clear hi9
          by_cases hx1 : 1 < x
          · go_wp2_with fail
            refine (rfail_any w g _ c l 0 7 HG.out hr h1 h2).mono ?_
            rintro e w' ⟨rfl, hrd, hgr⟩
            go_wp2_with fail
            go_ret
            refine did_take (er := 7) ?_ (by omega) hrd hgr
            rw [HT.out, HC.out]
            rw [if_pos ⟨by omega, hx1⟩]
          · have HO := Lib.hid (HO.out (by omega))
            by_cases hx0 : x = 0
            · have hx0b : ((x : Int) == 0) = true := by simp; omega
              have hx0l : x ≤ 0 := by omega
              clear hx0
              go_wp2_with fail
              refine (rfail_any w g _ c l 0 7 HG.out hr h1 h2).mono ?_
              rintro e w' ⟨rfl, hrd, hgr⟩
              go_wp2_with fail
              go_ret
              refine did_take (er := 7) ?_ (by omega) hrd hgr
              rw [HT.out, HC.out]
              rw [if_neg (by omega), if_neg (by omega), if_pos ⟨by omega, by omega⟩]
            · have hx0b : ((x : Int) == 0) = false := by simp; omega
              go_wp2_with fail
              all_goals
                go_ret
                rw [HO.out]
                refine did_took (u := i + 1) ?_ ?_ (set_grown _ _ _ _)
                · rw [HT.out, HC.out, if_neg (by omega), if_neg (by omega), if_neg (by omega)]
                · refine RD.cut HG.out ?_ (by omega) (by omega)
                  first | exact row_cut hr | exact row_end (by omega)
        · have HO := Lib.hid (HO.out (by omega))
          have hi9b : ((i : Int) == 9) = false := by simp; omega
          by_cases hx : 128 ≤ x
          · go_wp2_with fail
            go_round
            case rel =>
              refine ⟨i + 1, a + x % 128 * 128 ^ i, by omega, by go_num, by rw [HO.out], by go_num, ⟨?_⟩, by omega, ?_⟩
              · have h3 := HA.lt
                have h4 : x % 128 * 128 ^ i ≤ 127 * 128 ^ i := Nat.mul_le_mul (by omega) (Nat.le_refl _)
                rw [Nat.pow_succ]
                omega
              · show _ = _
                rw [HT.out, HC.out, if_neg (by omega), if_pos hx]
            case measure => simp [intOf]; omega
          · by_cases hx0 : x = 0
            · have hx0b : ((x : Int) == 0) = true := by simp; omega
              have hx0l : x ≤ 0 := by omega
              clear hx0
              by_cases hi0 : i ≤ 0
              · go_wp2_with fail
                all_goals
                  go_ret
                  rw [HO.out]
                  refine did_took (u := i + 1) ?_ ?_ (set_grown _ _ _ _)
                  · rw [HT.out, HC.out, if_neg (by omega), if_neg (by omega), if_neg (by omega)]
                  · refine RD.cut HG.out ?_ (by omega) (by omega)
                    first | exact row_cut hr | exact row_end (by omega)
              · go_wp2_with fail
                refine (rfail_any w g _ c l 0 7 HG.out hr h1 h2).mono ?_
                rintro e w' ⟨rfl, hrd, hgr⟩
                go_wp2_with fail
                go_ret
                refine did_take (er := 7) ?_ (by omega) hrd hgr
                rw [HT.out, HC.out]
                rw [if_neg (by omega), if_neg (by omega), if_pos ⟨by omega, by omega⟩]
            · have hx0b : ((x : Int) == 0) = false := by simp; omega
              go_wp2_with fail
              all_goals
                go_ret
                rw [HO.out]
                refine did_took (u := i + 1) ?_ ?_ (set_grown _ _ _ _)
                · rw [HT.out, HC.out, if_neg (by omega), if_neg (by omega), if_neg (by omega)]
                · refine RD.cut HG.out ?_ (by omega) (by omega)
                  first | exact row_cut hr | exact row_end (by omega)
      · obtain rfl : i = l.length := by omega
        go_wp2_with fail
        refine (rfail_any w g A c l 0 10 HG.out hr h1 h2).mono ?_
        rintro e w' ⟨rfl, hrd, hgr⟩
        go_wp2_with fail
        go_ret
        refine did_take (er := 10) ?_ (by omega) hrd hgr
        rw [HT.out, List.drop_length]
        rfl
  · have heb : (e != 0) = true := by simpa using he
    have HE := Lib.hid he
    clear he hg
    go_enter Tryd.func79, Tryd.ntmps79
    go_wp2_with fail
    refine (rerr_any w g _ HRD.out).mono ?_
    rintro e' w' ⟨rfl, rfl⟩
    go_wp2_with fail
    go_ret
    have : Wire.take ⟨l, e⟩ = (⟨l, e⟩, 0) := by unfold Wire.take; rw [if_pos HE.out]
    rw [this]
    exact ⟨rfl, HRD.out, World.grownBy.refl _ _⟩
end Go.Proofs.YtknfnhmkiooifaaDoor
end

section
/-
  The contracts of wire.Reader's other methods, of a reader that is one.
-/
namespace Go.Proofs.YtknfnhmkiooifaaDoor
set_option linter.unusedSimpArgs false
set_option linter.unusedVariables false
open Go.RowKit

theorem rd_open {w : World} {g : Nat} {r : Wire.RS} (h : RD w g r) : ∃ A c, w.cell? ⟨g, 0, none⟩ = some (.slice A r.l.length c) ∧ w.cell? ⟨g, 1, none⟩ = some (.int .i64 r.e) ∧ w.frozen? ⟨g, 0, none⟩ = false ∧ w.frozen? ⟨g, 1, none⟩ = false ∧ URow w A r.l ∧ r.l.length ≤ c ∧ c ≤ 9223372036854775807 ∧
    Hid (w.heap[g]? = some (.cells #[.slice A r.l.length c, .int .i64 r.e] 113 (0, 0))) := by
  obtain ⟨A, c, hg, hr, h1, h2⟩ := h
  exact ⟨A, c, by rw [cell_of_row w g 0 _ _ _ hg]; rfl, by rw [cell_of_row w g 1 _ _ _ hg]; rfl, frozen_of_row w g 0 _ _ hg, frozen_of_row w g 1 _ _ hg, hr, h1, h2, hg⟩

theorem row_grown {w w1 : World} {g : Nat} {A A' : Option Addr} {n c : Nat} {e : Int} {t : TypeId} {l : List UInt8} (hg : w.heap[g]? = some (.cells #[.slice A' n c, .int .i64 e] t (0, 0))) (hr : BRow w A l) (h : w.grownBy w1 (some g)) : BRow w1 A l := by
  cases l with
  | nil => exact BRow.nil
  | cons x l =>
    have hne := row_ne hg hr (by simp)
    intro hl
    obtain ⟨b, o, rfl, hlt, hc⟩ := hr hl
    refine ⟨b, o, rfl, Nat.lt_of_lt_of_le hlt h.size, fun j hj => ?_⟩
    rw [← hc j hj]
    exact World.cell?_of_block (h.block b hlt (fun e => hne _ rfl (by simpa using e)))
theorem urow_grown {w w1 : World} {g : Nat} {A A' : Option Addr} {n c : Nat} {e : Int} {t : TypeId} {l : List UInt8} (hg : w.heap[g]? = some (.cells #[.slice A' n c, .int .i64 e] t (0, 0))) (hr : URow w A l) (h : w.grownBy w1 (some g)) : URow w1 A l :=
  hr.keepB h.size fun a ha hl hlt => h.block _ hlt (fun e => row_ne hg hr.1 hl a ha (by simpa using e))
theorem int_odd (n k : Nat) (hq : IntKind.u64.wrap ((n : Int) / 2) = (k : Int)) (hk : k ≤ 9223372036854775807) : wrap64 (wrap64 (-wrap64 (IntKind.u64.wrap ((n : Int) / 2))) - 1) = -(k : Int) - 1 := by
  rw [hq, IntWalk.wrap64_in (k : Int) (by omega), IntWalk.wrap64_in (-(k : Int)) (by omega), IntWalk.wrap64_in _ (by omega)]
theorem int_even (n k : Nat) (hq : IntKind.u64.wrap ((n : Int) / 2) = (k : Int)) (hk : k ≤ 9223372036854775807) : wrap64 (IntKind.u64.wrap ((n : Int) / 2)) = (k : Int) := by
  rw [hq, IntWalk.wrap64_in (k : Int) (by omega)]

set_option maxRecDepth 20000 in
set_option maxHeartbeats 400000 in
theorem rint_any (w : World) (g : Nat) (r : Wire.RS) (h : RD w g r) : Calls Tryd.prog 80 #[.pointer (some ⟨g, 0, none⟩)] w (Did w g (.int .i64 (Wire.takeInt r).2) (Wire.takeInt r).1) := by
  have HV : Hid ((Wire.takeInt r).2 = Wire.toInt (Wire.take r).2) := rfl
  have H1 : Hid ((Wire.takeInt r).1 = (Wire.take r).1) := rfl
  have hlt := Wire.take_lt r
  have HC := Lib.hid (rnum_any w g r h)
  generalize (Wire.take r).2 = n at hlt HV HC
  have hn2 : (n / 2 : Nat) ≤ 9223372036854775807 := by omega
  have hq : IntKind.u64.wrap ((n : Int) / 2) = ((n / 2 : Nat) : Int) := by rw [IntWalk.u64_in _ (by omega)]; omega
  have hm : ((n : Int) % 2 == 1) = decide (n % 2 = 1) := by
    by_cases e : n % 2 = 1
    · rw [decide_eq_true e]; simp; omega
    · rw [decide_eq_false e]; simp; omega
  clear hlt
  by_cases hodd : n % 2 = 1
  · have hv : Wire.toInt n = -((n / 2 : Nat) : Int) - 1 := by unfold Wire.toInt; rw [if_pos hodd]
    rw [decide_eq_true hodd] at hm
    have HVV := Lib.hid hv
    have HQ := Lib.hid hq
    clear hv hodd hq
    generalize n / 2 = k at hn2 HVV HQ
    go_enter Tryd.func80, Tryd.ntmps80
    go_wp2_with fail
    refine HC.out.mono ?_
    rintro e w1 ⟨rfl, hrd, hgr⟩
    go_wp2_with fail
    go_ret
    refine ⟨?_, by rw [H1.out]; exact hrd, hgr⟩
    rw [HV.out, HVV.out, ← int_odd n k HQ.out hn2]
    rfl
  · have hv : Wire.toInt n = ((n / 2 : Nat) : Int) := by unfold Wire.toInt; rw [if_neg hodd]
    rw [decide_eq_false hodd] at hm
    have HVV := Lib.hid hv
    have HQ := Lib.hid hq
    clear hv hodd hq
    generalize n / 2 = k at hn2 HVV HQ
    go_enter Tryd.func80, Tryd.ntmps80
    go_wp2_with fail
    refine HC.out.mono ?_
    rintro e w1 ⟨rfl, hrd, hgr⟩
    go_wp2_with fail
    go_ret
    refine ⟨?_, by rw [H1.out]; exact hrd, hgr⟩
    rw [HV.out, HVV.out, ← int_even n k HQ.out hn2]
    rfl

theorem take_of_err {r : Wire.RS} (h : r.e ≠ 0) : Wire.take r = (r, 0) := by unfold Wire.take; rw [if_pos h]
theorem count_of_err {r : Wire.RS} {most : Int} (h : r.e ≠ 0) : Wire.count r most = (r, 0) := by unfold Wire.count; rw [take_of_err h, if_pos h]

set_option maxRecDepth 20000 in
set_option maxHeartbeats 1000000 in
theorem rcount_any (w : World) (g : Nat) (r : Wire.RS) (most : Int) (hmo : most ≤ 9223372036854775807) (h : RD w g r) :
    Calls Tryd.prog 46 #[.pointer (some ⟨g, 0, none⟩), .int .i64 most] w (Did w g (.int .i64 ((Wire.count r most).2 : Nat)) (Wire.count r most).1) := by
  have HRD := Lib.hid h
  have HC := Lib.hid (rnum_any w g r h)
  have HE := Lib.hid (rerr_any w g r h)
  obtain ⟨A, c, c0, c1, f0, f1, hr, h1, h2, HG⟩ := rd_open h
  clear h
  by_cases he : r.e = 0
  · have HE0 := Lib.hid he
    have heb : (r.e != 0) = false := by simpa using he
    have hlt := Wire.take_lt r
    have HCO : Hid (Wire.count r most = if (Wire.take r).1.e ≠ 0 then ((Wire.take r).1, 0) else if most < 0 ∨ most < ((Wire.take r).2 : Int) then (⟨r.l, 11⟩, 0) else Wire.take r) := rfl
    have HTE := Lib.hid (Wire.take_err r)
    have HT0 : Hid (∀ x, (Wire.take r).1.e ≠ 0 → Wire.take r = x → x.2 = 0) := by
      intro x hx hxx
      rw [← hxx]
      unfold Wire.take at hx ⊢
      split
      · rfl
      · split
        · rfl
        · rename_i a b
          rw [if_neg a, if_neg b] at hx
          simp at hx
    obtain ⟨⟨r1, n⟩, hx⟩ : ∃ x, Wire.take r = x := ⟨_, rfl⟩
    rw [hx] at HCO HC HTE hlt HT0
    clear hx he
    have HLT := Lib.hid hlt
    clear hlt
    by_cases ht : r1.e = 0
    · have htb : (r1.e == 0) = true := by simpa using ht
      have HT := Lib.hid ht
      clear ht
      go_enter Tryd.func46, Tryd.ntmps46
      go_wp2_with fail
      refine HE.out.mono ?_
      rintro e w1 ⟨rfl, rfl⟩
      go_wp2_with fail
      refine HC.out.mono ?_
      rintro e w1 ⟨rfl, hrd, hgr⟩
      have HRD1 := Lib.hid hrd
      obtain ⟨A1, d1, c01, c11, f01, f11, hr1, h11, h21, HG1⟩ := rd_open hrd
      clear hrd
      by_cases hm0 : most < 0
      · go_wp2_with fail
        go_ret
        rw [HCO.out, if_neg (by simpa using HT.out), if_pos (by omega)]
        exact ⟨rfl, RD.both HG1.out (urow_grown HG.out hr hgr) h1 h2 11, grown_trans hgr (grown_trans (set_grown _ _ _ _) (set_grown _ _ _ _))⟩
      · by_cases hmn : most < (n : Int)
        · go_wp2_with fail
          go_ret
          rw [HCO.out, if_neg (by simpa using HT.out), if_pos (by omega)]
          exact ⟨rfl, RD.both HG1.out (urow_grown HG.out hr hgr) h1 h2 11, grown_trans hgr (grown_trans (set_grown _ _ _ _) (set_grown _ _ _ _))⟩
        · go_wp2_with fail
          go_ret
          rw [HCO.out, if_neg (by simpa using HT.out), if_neg (by omega)]
          exact ⟨rfl, HRD1.out, hgr⟩
    · have htb : (r1.e == 0) = false := by simpa using ht
      have HT := Lib.hid ht
      have hn0 : n = 0 := HT0.out _ ht rfl
      have hn0l : n ≤ 0 := by omega
      have HN0 := Lib.hid hn0
      clear ht hn0
      go_enter Tryd.func46, Tryd.ntmps46
      go_wp2_with fail
      refine HE.out.mono ?_
      rintro e w1 ⟨rfl, rfl⟩
      go_wp2_with fail
      refine HC.out.mono ?_
      rintro e w1 ⟨rfl, hrd, hgr⟩
      have HRD1 := Lib.hid hrd
      obtain ⟨A1, d1, c01, c11, f01, f11, hr1, h11, h21, HG1⟩ := rd_open hrd
      clear hrd
      go_wp2_with fail
      go_ret
      rw [HCO.out, if_pos HT.out]
      exact ⟨by rw [HN0.out]; rfl, HRD1.out, hgr⟩
  · have heb : (r.e != 0) = true := by simpa using he
    have HCE := Lib.hid (count_of_err (most := most) he)
    clear he
    go_enter Tryd.func46, Tryd.ntmps46
    go_wp2_with fail
    refine HE.out.mono ?_
    rintro e w1 ⟨rfl, rfl⟩
    go_wp2_with fail
    go_ret
    rw [HCE.out]
    exact ⟨rfl, HRD.out, World.grownBy.refl _ _⟩

set_option maxRecDepth 20000 in
set_option maxHeartbeats 1000000 in
theorem rtext_any (w : World) (g : Nat) (r : Wire.RS) (most : Int) (hmo : most ≤ 9223372036854775807) (h : RD w g r) :
    Calls Tryd.prog 81 #[.pointer (some ⟨g, 0, none⟩), .int .i64 most] w (Did w g (txt (Wire.takeText r most).2) (Wire.takeText r most).1) := by
  have HRD := Lib.hid h
  have HC := Lib.hid (rcount_any w g r most hmo h)
  have HE := Lib.hid (rerr_any w g r h)
  obtain ⟨A, c, c0, c1, f0, f1, hr, h1, h2, HG⟩ := rd_open h
  clear h
  by_cases he : r.e = 0
  · have heb : (r.e != 0) = false := by simpa using he
    have HCO : Hid (Wire.takeText r most = if (Wire.count r most).1.e ≠ 0 then ((Wire.count r most).1, []) else if (Wire.count r most).1.l.length < (Wire.count r most).2 then (⟨r.l, 10⟩, [])
      else (⟨(Wire.count r most).1.l.drop (Wire.count r most).2, 0⟩, (Wire.count r most).1.l.take (Wire.count r most).2)) := rfl
    obtain ⟨⟨r1, n⟩, hx⟩ : ∃ x, Wire.count r most = x := ⟨_, rfl⟩
    have hnb := Wire.count_lt r most hmo
    rw [hx] at HCO HC hnb
    clear hx he
    simp only at hnb
    by_cases ht : r1.e = 0
    · have htb : (r1.e != 0) = false := by simpa using ht
      have HT := Lib.hid ht
      clear ht
      go_enter Tryd.func81, Tryd.ntmps81
      go_wp2_with fail
      refine HE.out.mono ?_
      rintro e w1 ⟨rfl, rfl⟩
      go_wp2_with fail
      refine HC.out.mono ?_
      rintro e w1 ⟨rfl, hrd, hgr⟩
      have HRD1 := Lib.hid hrd
      obtain ⟨A1, d1, c01, c11, f01, f11, hr1, h11, h21, HG1⟩ := rd_open hrd
      clear hrd
      by_cases hl : r1.l.length < n
      · go_wp2_with fail
        go_ret
        rw [HCO.out, if_neg (by simpa using HT.out), if_pos hl]
        exact ⟨rfl, RD.both HG1.out (urow_grown HG.out hr hgr) h1 h2 10, grown_trans hgr (grown_trans (set_grown _ _ _ _) (set_grown _ _ _ _))⟩
      · have hcv := run_string_bytes w1 d1 (hr1.1.take n)
        rw [List.length_take_of_le (by omega)] at hcv
        go_wp2_with fail
        all_goals
          go_ret
          rw [HCO.out, if_neg (by simpa using HT.out), if_neg hl]
          refine ⟨rfl, ?_, grown_trans hgr (set_grown _ _ _ _)⟩
          rw [← HT.out]
          refine RD.cut HG1.out ?_ (by omega) (by omega)
          first | exact hr1.drop n | exact row_end (by omega)
    · have htb : (r1.e != 0) = true := by simpa using ht
      have HT := Lib.hid ht
      clear ht
      go_enter Tryd.func81, Tryd.ntmps81
      go_wp2_with fail
      refine HE.out.mono ?_
      rintro e w1 ⟨rfl, rfl⟩
      go_wp2_with fail
      refine HC.out.mono ?_
      rintro e w1 ⟨rfl, hrd, hgr⟩
      have HRD1 := Lib.hid hrd
      obtain ⟨A1, d1, c01, c11, f01, f11, hr1, h11, h21, HG1⟩ := rd_open hrd
      clear hrd
      go_wp2_with fail
      go_ret
      rw [HCO.out, if_pos HT.out]
      exact ⟨rfl, HRD1.out, hgr⟩
  · have heb : (r.e != 0) = true := by simpa using he
    have HCE : Hid (Wire.takeText r most = (r, [])) := by
      show _ = _
      unfold Wire.takeText
      rw [count_of_err he, if_pos he]
    clear he
    go_enter Tryd.func81, Tryd.ntmps81
    go_wp2_with fail
    refine HE.out.mono ?_
    rintro e w1 ⟨rfl, rfl⟩
    go_wp2_with fail
    go_ret
    rw [HCE.out]
    exact ⟨rfl, HRD.out, World.grownBy.refl _ _⟩

set_option maxRecDepth 20000 in
set_option maxHeartbeats 1000000 in
theorem rbool_any (w : World) (g : Nat) (r : Wire.RS) (h : RD w g r) :
    Calls Tryd.prog 82 #[.pointer (some ⟨g, 0, none⟩)] w (Did w g (.bool (Wire.takeBool r).2) (Wire.takeBool r).1) := by
  have HRD := Lib.hid h
  have HE := Lib.hid (rerr_any w g r h)
  obtain ⟨A, c, c0, c1, f0, f1, hr, h1, h2, HG⟩ := rd_open h
  clear h
  obtain ⟨l, e⟩ := r
  simp only at c0 c1 hr h1 HG HE HRD
  by_cases he : e = 0
  · subst he
    cases l with
    | nil =>
      simp only [List.length_nil] at c0 h1
      go_enter Tryd.func82, Tryd.ntmps82
      go_wp2_with fail
      refine HE.out.mono ?_
      rintro e w1 ⟨rfl, rfl⟩
      go_wp2_with fail
      go_ret
      exact ⟨rfl, RD.err HG.out hr h1 h2 10, set_grown _ _ _ _⟩
    | cons x l =>
      have hk : 0 < (x :: l).length := by simp
      obtain ⟨b, o, rfl, _, hc⟩ := hr.at_ hk
      have hxl := x.toNat_lt
      simp only [List.getElem_cons_zero, Nat.add_zero] at hc
      have HX : Hid (x.toNat = x.toNat) := rfl
      obtain ⟨q, hq⟩ : ∃ q, x.toNat = q := ⟨_, rfl⟩
      rw [hq] at hc hxl
      have HQ := Lib.hid hq
      obtain ⟨n, hn⟩ : ∃ n, (x :: l).length = n := ⟨_, rfl⟩
      rw [hn] at c0 h1 hk HG
      have HN := Lib.hid hn
      clear hn hq
      by_cases hgt : 1 < q
      · go_enter Tryd.func82, Tryd.ntmps82
        go_wp2_with fail
        refine HE.out.mono ?_
        rintro e w1 ⟨rfl, rfl⟩
        go_wp2_with fail
        go_ret
        have hb : Wire.takeBool ⟨x :: l, 0⟩ = (⟨x :: l, 7⟩, false) := by
          unfold Wire.takeBool
          rw [if_neg (by simp)]
          simp only
          rw [if_pos (by rw [HQ.out]; exact hgt)]
        rw [hb]
        have hg := HG.out
        rw [← HN.out] at hg h1
        exact ⟨rfl, RD.err hg hr h1 h2 7, set_grown _ _ _ _⟩
      · have hb : Wire.takeBool ⟨x :: l, 0⟩ = (⟨l, 0⟩, (q : Int) == 1) := by
          unfold Wire.takeBool
          rw [if_neg (by simp)]
          simp only
          rw [if_neg (by rw [HQ.out]; exact hgt), HQ.out]
          congr 1
          by_cases e1 : q = 1
          · subst e1; rfl
          · rw [beq_eq_false_iff_ne.2 e1, beq_eq_false_iff_ne.2 (by omega)]
        have HB := Lib.hid hb
        clear hb
        go_enter Tryd.func82, Tryd.ntmps82
        go_wp2_with fail
        refine HE.out.mono ?_
        rintro e w1 ⟨rfl, rfl⟩
        go_wp2_with fail
        all_goals
          go_ret
          rw [HB.out]
          refine ⟨rfl, ?_, set_grown _ _ _ _⟩
          have hn := HN.out
          subst hn
          refine RD.cut (k := 1) (l := x :: l) HG.out ?_ (by omega) (by omega)
          first | exact row_cut hr | exact row_end (by omega)
  · have heb : (e != 0) = true := by simpa using he
    have HCE : Hid (Wire.takeBool ⟨l, e⟩ = (⟨l, e⟩, false)) := by
      show _ = _
      unfold Wire.takeBool
      rw [if_pos he]
    clear he
    go_enter Tryd.func82, Tryd.ntmps82
    go_wp2_with fail
    refine HE.out.mono ?_
    rintro e w1 ⟨rfl, rfl⟩
    go_wp2_with fail
    go_ret
    rw [HCE.out]
    exact ⟨rfl, HRD.out, World.grownBy.refl _ _⟩

set_option maxRecDepth 20000 in
set_option maxHeartbeats 1000000 in
theorem rend_any (w : World) (g : Nat) (r : Wire.RS) (h : RD w g r) :
    Calls Tryd.prog 49 #[.pointer (some ⟨g, 0, none⟩)] w (Did w g (.int .i64 (Wire.fin r).e) (Wire.fin r)) := by
  have HRD := Lib.hid h
  have HE := Lib.hid (rerr_any w g r h)
  obtain ⟨A, c, c0, c1, f0, f1, hr, h1, h2, HG⟩ := rd_open h
  clear h
  obtain ⟨l, e⟩ := r
  simp only at c0 c1 hr h1 HG HE HRD
  by_cases hf : e = 0 ∧ l ≠ []
  · obtain ⟨rfl, hl⟩ := hf
    have hpos : 0 < l.length := List.length_pos_iff.2 hl
    have HF : Hid (Wire.fin ⟨l, 0⟩ = ⟨l, 12⟩) := by show _ = _; unfold Wire.fin; rw [if_pos ⟨rfl, hl⟩]
    clear hl
    go_enter Tryd.func49, Tryd.ntmps49
    go_wp2_with fail
    refine HE.out.mono ?_
    rintro e w1 ⟨rfl, rfl⟩
    go_wp2_with fail
    have hrd := RD.err HG.out hr h1 h2 12
    refine (rerr_any _ g _ hrd).mono ?_
    rintro e w1 ⟨rfl, rfl⟩
    go_wp2_with fail
    go_ret
    rw [HF.out]
    exact ⟨rfl, hrd, set_grown _ _ _ _⟩
  · have HF : Hid (Wire.fin ⟨l, e⟩ = ⟨l, e⟩) := by show _ = _; unfold Wire.fin; rw [if_neg hf]
    by_cases he : e = 0
    · subst he
      have hl : l = [] := Classical.byContradiction fun h => hf ⟨rfl, h⟩
      subst hl
      simp only [List.length_nil] at c0 h1
      clear hf
      go_enter Tryd.func49, Tryd.ntmps49
      go_wp2_with fail
      refine HE.out.mono ?_
      rintro e w1 ⟨rfl, rfl⟩
      go_wp2_with fail
      refine HE.out.mono ?_
      rintro e w1 ⟨rfl, rfl⟩
      go_wp2_with fail
      go_ret
      rw [HF.out]
      exact ⟨rfl, HRD.out, World.grownBy.refl _ _⟩
    · have heb : (e == 0) = false := by simpa using he
      clear he hf
      go_enter Tryd.func49, Tryd.ntmps49
      go_wp2_with fail
      refine HE.out.mono ?_
      rintro e w1 ⟨rfl, rfl⟩
      go_wp2_with fail
      refine HE.out.mono ?_
      rintro e w1 ⟨rfl, rfl⟩
      go_wp2_with fail
      go_ret
      rw [HF.out]
      exact ⟨rfl, HRD.out, World.grownBy.refl _ _⟩

end Go.Proofs.YtknfnhmkiooifaaDoor
end

section
/-
  The contract of wire.Read, and those of wire.Reader's methods, of a nil reader.
-/
namespace Go.Proofs.YtknfnhmkiooifaaDoor
set_option linter.unusedSimpArgs false
set_option linter.unusedVariables false
open Go.RowKit

/-- Block g is a reader, it and its bytes among the blocks from B on. -/
def ROwn (B : Nat) (w : World) (g : Nat) (r : Wire.RS) : Prop :=
  ∃ A c, w.heap[g]? = some (.cells #[.slice A r.l.length c, .int .i64 r.e] 113 (0, 0)) ∧ URow w A r.l ∧ r.l.length ≤ c ∧ c ≤ 9223372036854775807 ∧ B ≤ g ∧ ∀ a, A = some a → B ≤ a.block
/-- What is answered is a new reader of the bytes. -/
def RetRd (W : World) (l : List UInt8) (e : Ending) (w' : World) : Prop :=
  ∃ g, e = .returned (.pointer (some ⟨g, 0, none⟩)) ∧ ROwn W.heap.size w' g ⟨l, 0⟩ ∧ Below W.heap.size W w'

section
variable {B : Nat} {w w' : World} {g : Nat} {r : Wire.RS}
theorem ROwn.rd (h : ROwn B w g r) : RD w g r := by
  obtain ⟨A, c, h1, h2, h3, h4, _⟩ := h
  exact ⟨A, c, h1, h2, h3, h4⟩
theorem ROwn.ge (h : ROwn B w g r) : B ≤ g := by
  obtain ⟨A, c, h1, h2, h3, h4, h5, _⟩ := h
  exact h5
/-- Blocks below B turn. -/
theorem ROwn.keep (h : ROwn B w g r) (hs : w.heap.size ≤ w'.heap.size) (hk : ∀ k, B ≤ k → k < w.heap.size → w'.heap[k]? = w.heap[k]?) : ROwn B w' g r := by
  have hlt := h.rd.lt
  obtain ⟨A, c, h1, h2, h3, h4, h5, h6⟩ := h
  exact ⟨A, c, (hk g h5 hlt).trans h1, h2.keepB hs fun a ha _ hlt => hk a.block (h6 a ha) hlt, h3, h4, h5, h6⟩
theorem ROwn.below (h : ROwn B w g r) (hb : Below w.heap.size w w') : ROwn B w' g r := h.keep hb.size fun k _ hk => hb.block k hk
theorem Did.below {v : Value} {e : Ending} (h : Did w g v r e w') {B : Nat} {w0 : World} (hb : Below B w0 w) (hB : B ≤ w.heap.size) (hg : B ≤ g) : Below B w0 w' :=
  hb.grown h.2.2 hB fun k hk => by simp at hk; omega
end

theorem did_row {w w' : World} {g : Nat} {r r' : Wire.RS} {v : Value} {e : Ending} {A : Option Addr} {l : List UInt8} (hrd : RD w g r) (hr : BRow w A l) (h : Did w g v r' e w') : BRow w' A l := by
  obtain ⟨A', c, hg, _⟩ := hrd
  exact row_grown hg hr h.2.2

theorem own_heap {w : World} {B g c : Nat} {l : List UInt8} (h : BOwn w B (some ⟨g, 0, none⟩) c l) (hc : c = l.length) : w.heap[g]? = some (.cells (l.map bv).toArray 5 (0, 0)) := by
  rcases h.2 with ⟨hv, h0⟩ | ⟨g', cap, cur, hv, hb, hg, hn, hm, hx⟩
  · simp at hv
  · simp only [Value.slice.injEq, Option.some.injEq, Addr.mk.injEq, true_and, and_true] at hv
    obtain ⟨rfl, rfl⟩ := hv
    subst hc
    rw [hg, ← hx.2, List.take_of_length_le (by simp; omega)]

theorem wcopy_src {w : World} {A : Option Addr} {l : List UInt8} (h : BRow w A l) (hl : 0 < (l.map bv).length) : ∃ ad, A = some ad ∧ ∀ j v, (l.map bv)[j]? = some v → w.cell? (ad.add j) = some v := by
  obtain ⟨b, o, rfl, _, hc⟩ := h hl
  refine ⟨_, rfl, fun j v hj => ?_⟩
  obtain ⟨h1, h2⟩ := List.getElem?_eq_some_iff.1 hj
  rw [Addr.add_lit, hc j h1, h2]
theorem splice_all {α : Type} (L cs : List α) (h : cs.length = L.length) : splice L 0 cs = cs := by
  simp [splice, h]

set_option maxRecDepth 20000 in
set_option maxHeartbeats 1000000 in
theorem wread_any (w : World) (A : Option Addr) (c : Nat) (l : List UInt8) (hr : BRow w A l) (hl : l.length ≤ 1000000) :
    Calls Tryd.prog 45 #[.slice A l.length c] w (RetRd w l) := by
  obtain ⟨n, hn⟩ : ∃ n, l.length = n := ⟨_, rfl⟩
  rw [hn] at hl ⊢
  have HN := Lib.hid hn
  clear hn
  go_enter Tryd.func45, Tryd.ntmps45
  go_wp2_with (first
    | (at_make; refine wpList_make_zeros rfl (.tmp 5) (.tmp 5) rfl .i64 .i64 n n n rfl rfl rfl rfl (by omega) (Nat.le_refl _) ?_; intro w1 ho1 hb1)
    | (refine wpList_copy_splice (o := ⟨some 9, _, _, _, _, _⟩) rfl (.tmp 7) (.tmp 8) 30 30 rfl 5 Tryd.underlying30 (by kernel_rfl) _ _ _ _ _ _ rfl rfl w.heap.size 0 _ 5 (own_heap ho1 (by simp)) (l.map bv) (by rw [List.length_map, HN.out]; simp) (fun h => ⟨rfl, wcopy_src (hr.below hb1) h⟩) (by simp [HN.out]) (one_bytes l) w.heap.size w hb1 (Nat.le_refl _) ?_; intro w2 hg2 hb2))
  go_ret
  have hg := hg2.out
  rw [splice_all _ _ (by simp [HN.out])] at hg
  have hlt : w.heap.size < w2.heap.size := (Array.getElem?_eq_some_iff.1 hg).1
  have hrow : BRow w2 (some ⟨w.heap.size, 0, none⟩) l := fun _ => ⟨w.heap.size, 0, rfl, hlt, fun j hj => by
    rw [cell_of_row w2 w.heap.size (0 + j) _ _ _ hg]
    simp at hj
    simp [hj]⟩
  refine ⟨w2.heap.size, rfl, ⟨some ⟨w.heap.size, 0, none⟩, n, ?_, (show URow w2 _ l from ⟨hrow, fun _ a ha => by obtain rfl := Option.some.inj ha; exact ⟨_, _, hg⟩⟩).alloc _, by simp [HN.out], by omega, by omega, fun a ha => by cases ha; exact Nat.le_refl _⟩, hb2.alloc (by omega) _⟩
  rw [HN.out]
  show (w2.heap.push _)[w2.heap.size]? = _
  simp
set_option maxRecDepth 20000 in
set_option maxHeartbeats 400000 in
theorem rnum_nil (w : World) : Calls Tryd.prog 79 #[.pointer none] w fun e w' => e = .returned (.int .u64 0) ∧ w = w' := by
  go_enter Tryd.func79, Tryd.ntmps79
  go_wp2_with fail
  refine (rerr_nil w).mono ?_
  rintro e w1 ⟨rfl, rfl⟩
  go_wp2_with fail
  go_ret
  exact ⟨rfl, rfl⟩

set_option maxRecDepth 20000 in
set_option maxHeartbeats 400000 in
theorem rint_nil (w : World) : Calls Tryd.prog 80 #[.pointer none] w fun e w' => e = .returned (.int .i64 0) ∧ w = w' := by
  go_enter Tryd.func80, Tryd.ntmps80
  go_wp2_with fail
  refine (rnum_nil w).mono ?_
  rintro e w1 ⟨rfl, rfl⟩
  go_wp2_with fail
  go_ret
  exact ⟨rfl, rfl⟩

set_option maxRecDepth 20000 in
set_option maxHeartbeats 400000 in
theorem rcount_nil (w : World) (most : Int) : Calls Tryd.prog 46 #[.pointer none, .int .i64 most] w fun e w' => e = .returned (.int .i64 0) ∧ w = w' := by
  go_enter Tryd.func46, Tryd.ntmps46
  go_wp2_with fail
  refine (rerr_nil w).mono ?_
  rintro e w1 ⟨rfl, rfl⟩
  go_wp2_with fail
  go_ret
  exact ⟨rfl, rfl⟩

set_option maxRecDepth 20000 in
set_option maxHeartbeats 400000 in
theorem rtext_nil (w : World) (most : Int) : Calls Tryd.prog 81 #[.pointer none, .int .i64 most] w fun e w' => e = .returned (txt []) ∧ w = w' := by
  go_enter Tryd.func81, Tryd.ntmps81
  go_wp2_with fail
  refine (rerr_nil w).mono ?_
  rintro e w1 ⟨rfl, rfl⟩
  go_wp2_with fail
  go_ret
  exact ⟨rfl, rfl⟩

set_option maxRecDepth 20000 in
set_option maxHeartbeats 400000 in
theorem rbool_nil (w : World) : Calls Tryd.prog 82 #[.pointer none] w fun e w' => e = .returned (.bool false) ∧ w = w' := by
  go_enter Tryd.func82, Tryd.ntmps82
  go_wp2_with fail
  refine (rerr_nil w).mono ?_
  rintro e w1 ⟨rfl, rfl⟩
  go_wp2_with fail
  go_ret
  exact ⟨rfl, rfl⟩

set_option maxRecDepth 20000 in
set_option maxHeartbeats 400000 in
theorem rend_nil (w : World) : Calls Tryd.prog 49 #[.pointer none] w fun e w' => e = .returned (.int .i64 1) ∧ w = w' := by
  go_enter Tryd.func49, Tryd.ntmps49
  go_wp2_with fail
  refine (rerr_nil w).mono ?_
  rintro e w1 ⟨rfl, rfl⟩
  go_wp2_with fail
  refine (rerr_nil w).mono ?_
  rintro e w1 ⟨rfl, rfl⟩
  go_wp2_with fail
  go_ret
  exact ⟨rfl, rfl⟩

end Go.Proofs.YtknfnhmkiooifaaDoor
end

section
/-
  The contracts of key.check and key.one: the next value of a row; an error is a panic.
-/
namespace Go.Proofs.YtknfnhmkiooifaaDoor
set_option linter.unusedSimpArgs false
set_option linter.unusedVariables false
open Go.RowKit

namespace Key
/-- The next value of a row: the reader behind it, the value, the error that ends the reading. -/
def oneK (r : Wire.RS) : Wire.RS × Va × Int :=
  if r.e ≠ 0 then (r, nul, r.e) else
  if (Wire.count r 4).1.e ≠ 0 then ((Wire.count r 4).1, nul, (Wire.count r 4).1.e) else
  if (Wire.count r 4).2 = 1 then ((Wire.takeInt (Wire.count r 4).1).1, ⟨1, (Wire.takeInt (Wire.count r 4).1).2, 0, []⟩, (Wire.takeInt (Wire.count r 4).1).1.e) else
  if (Wire.count r 4).2 = 3 then ((Wire.takeText (Wire.count r 4).1 512).1, ⟨3, 0, 0, (Wire.takeText (Wire.count r 4).1 512).2⟩, (Wire.takeText (Wire.count r 4).1 512).1.e) else
  if (Wire.count r 4).2 = 4 then ((Wire.takeBool (Wire.count r 4).1).1, ⟨4, if (Wire.takeBool (Wire.count r 4).1).2 then 1 else 0, 0, []⟩, (Wire.takeBool (Wire.count r 4).1).1.e) else
  if (Wire.count r 4).2 = 2 then
    if (Wire.take (Wire.count r 4).1).1.e ≠ 0 then ((Wire.take (Wire.count r 4).1).1, nul, (Wire.take (Wire.count r 4).1).1.e)
    else ((Wire.take (Wire.count r 4).1).1, (takeK 2 (1 :: Wal.hi8 (Wire.take (Wire.count r 4).1).2)).1, (takeK 2 (1 :: Wal.hi8 (Wire.take (Wire.count r 4).1).2)).2.2)
  else ((Wire.count r 4).1, ⟨((Wire.count r 4).2 : Nat), 0, 0, []⟩, 0)
end Key
theorem Wire.count_most (r : Wire.RS) (m : Nat) : (Wire.count r m).2 ≤ m := by
  unfold Wire.count
  split
  · simp
  · split
    · simp
    · omega
/-- The panic with an error. -/
def errPanic (er : Int) : Ending := .panicked [{ v := .iface 34 (.int .i64 er), recovered := false }]
/-- A value, or the panic with the error. -/
def RetOne (w : World) (g : Nat) (q : Wire.RS × Va × Int) (e : Ending) (w' : World) : Prop :=
  ((q.2.2 = 0 ∧ e = .returned q.2.1.v) ∨ (q.2.2 ≠ 0 ∧ e = errPanic q.2.2)) ∧ RD w' g q.1 ∧ w.grownBy w' (some g)
theorem check_ok (w : World) : Calls Tryd.prog 48 #[.int .i64 0] w fun e w' => e = .returned (.tuple #[]) ∧ w = w' := by
  go_enter Tryd.func48, Tryd.ntmps48
  go_wp2_with fail
  go_end0
  exact ⟨rfl, rfl⟩
theorem check_bad (w : World) (er : Int) (h : er ≠ 0) : Calls Tryd.prog 48 #[.int .i64 er] w fun e w' => e = errPanic er ∧ w = w' := by
  have hne : (er != 0) = true := by simp [h]
  clear h
  go_enter Tryd.func48, Tryd.ntmps48
  go_wp2_with fail
  exact ⟨rfl, rfl, rfl⟩
theorem grown_new {w W W' : World} {g b : Nat} (h : w.grownBy W (some g)) (hg : W.grownBy W' (some b)) (hb : w.heap.size ≤ b) : w.grownBy W' (some g) :=
  ⟨hg.os.trans h.os, hg.tape.trans h.tape, hg.output.trans h.output, Nat.le_trans h.size hg.size, fun k hk hne => (hg.block k (Nat.lt_of_lt_of_le hk h.size) (by simp; omega)).trans (h.block k hk hne)⟩
theorem grown_below {w W W' : World} {row : Option Nat} (h : w.grownBy W row) (hb : Below W.heap.size W W') : w.grownBy W' row :=
  ⟨hb.os.trans h.os, hb.tape.trans h.tape, hb.output.trans h.output, Nat.le_trans h.size hb.size, fun k hk hne => (hb.block k (Nat.lt_of_lt_of_le hk h.size)).trans (h.block k hk hne)⟩
/-- A reader, where a value's block is written. -/
theorem RD.keptT {w w' : World} {g b : Nat} {r : Wire.RS} {cur : Array Value} {T : TypeId} {fr : Nat × Nat} (h : RD w g r) (hb : w.heap[b]? = some (.cells cur T fr)) (hT : T ≠ 5) (hne : b ≠ g) (hg : w.grownBy w' (some b)) : RD w' g r := by
  obtain ⟨A, c, hgb, hr, h1, h2⟩ := h
  exact ⟨A, c, (hg.block g (Array.getElem?_eq_some_iff.1 hgb).1 (by simpa using Ne.symm hne)).trans hgb, hr.keepB hg.size fun a ha hl hlt => hg.block _ hlt (fun e => hr.ne_of hl hb hT a ha (by simpa using e)), h1, h2⟩
theorem RD.kept_va {w w' : World} {g b : Nat} {r : Wire.RS} {cs : List Value} (h : RD w g r) (hb : Blk w b 27 cs) (hne : b ≠ g) (hg : w.grownBy w' (some b)) : RD w' g r := h.keptT hb (by decide) hne hg
theorem retOne_bad {w w' : World} {g : Nat} {q : Wire.RS × Va × Int} {r' : Wire.RS} {v : Va} {er : Int} (hq : q = (r', v, er)) (h : er ≠ 0) (hr : RD w' g r') (hg : w.grownBy w' (some g)) : RetOne w g q (errPanic er) w' := by
  subst hq
  exact ⟨.inr ⟨h, rfl⟩, hr, hg⟩
theorem retOne_ok {w w' : World} {g : Nat} {q : Wire.RS × Va × Int} {r' : Wire.RS} {v : Va} {er : Int} (hq : q = (r', v, er)) (h : er = 0) (hr : RD w' g r') (hg : w.grownBy w' (some g)) : RetOne w g q (.returned v.v) w' := by
  subst hq
  exact ⟨.inl ⟨h, rfl⟩, hr, hg⟩
set_option maxRecDepth 20000 in
set_option maxHeartbeats 8000000 in
theorem one_any (w : World) (g : Nat) (r : Wire.RS) (h : RD w g r) (hl : r.l.length ≤ 1000000) : Calls Tryd.prog 47 #[.pointer (some ⟨g, 0, none⟩)] w (RetOne w g (Key.oneK r)) := by
  have HRD := Lib.hid h
  have hgl := h.lt
  have HL := Lib.hid hl
  clear h hl
  go_enter Tryd.func47, Tryd.ntmps47
  go_upto_region 1 with (refine wpList_alloc_va rfl rfl ?_; intro W1 hb1 hz1 hB1)
  have HR1 := Lib.hid (HRD.out.below hB1)
  have HG1 : Hid (w.grownBy W1 (some g)) := grown_of_below hB1 _
  clear hB1
  go_wp2_with fail
  refine (rerr_any _ g r HR1.out).mono ?_
  rintro e wq ⟨rfl, rfl⟩
  by_cases he0 : r.e = 0
  · have HE0 := Lib.hid he0
    rw [he0]
    clear he0
    go_wp2_with fail
    refine (check_ok _).mono ?_
    rintro e wq ⟨rfl, rfl⟩
    go_wp2_with fail
    refine (rcount_any _ g r 4 (by decide) HR1.out).mono ?_
    rintro e W2 ⟨rfl, hrd2, hg2⟩
    have hk4 := Wire.count_most r 4
    have HQ : Hid (∀ r2 k, Wire.count r 4 = (r2, k) → Key.oneK r = if r2.e ≠ 0 then (r2, Key.nul, r2.e) else if k = 1 then ((Wire.takeInt r2).1, ⟨1, (Wire.takeInt r2).2, 0, []⟩, (Wire.takeInt r2).1.e) else
        if k = 3 then ((Wire.takeText r2 512).1, ⟨3, 0, 0, (Wire.takeText r2 512).2⟩, (Wire.takeText r2 512).1.e) else
        if k = 4 then ((Wire.takeBool r2).1, ⟨4, if (Wire.takeBool r2).2 then 1 else 0, 0, []⟩, (Wire.takeBool r2).1.e) else
        if k = 2 then (if (Wire.take r2).1.e ≠ 0 then ((Wire.take r2).1, Key.nul, (Wire.take r2).1.e) else ((Wire.take r2).1, (Key.takeK 2 (1 :: Wal.hi8 (Wire.take r2).2)).1, (Key.takeK 2 (1 :: Wal.hi8 (Wire.take r2).2)).2.2))
        else (r2, ⟨(k : Nat), 0, 0, []⟩, 0)) := by
      intro r2 k e
      have e1 : (Wire.count r 4).1 = r2 := by rw [e]
      have e2 : (Wire.count r 4).2 = k := by rw [e]
      unfold Key.oneK
      rw [if_neg (by rw [HE0.out]; simp), e1, e2]
    generalize Wire.count r 4 = ck at hrd2 hk4 HQ ⊢
    obtain ⟨r2, k⟩ := ck
    have HQ2 := Lib.hid (HQ.out r2 k rfl)
    have hk : k ≤ 4 := hk4
    have HR2 : Hid (RD W2 g r2) := hrd2
    have HG2 := Lib.hid (grown_trans HG1.out hg2)
    have hb12 := hb1.grown hg2 (by simp; omega)
    have hz2 := hg2.size
    clear HQ hk4 hrd2 hg2 hb1 HR1 HG1
    dsimp only
    go_wp2_with fail
    refine (rerr_any _ g r2 HR2.out).mono ?_
    rintro e wq ⟨rfl, rfl⟩
    by_cases he2 : r2.e = 0
    · rw [he2]
      have HE2 := Lib.hid he2
      clear he2
      go_wp2_with fail
      refine (check_ok _).mono ?_
      rintro e wq ⟨rfl, rfl⟩
      go_upto_region 5 with (first | (refine wpList_alloc_va rfl rfl ?_; intro W3 hb3 hz3 hB3) | (refine wpList_store_va rfl rfl (.tmp 4) (.tmp 18) rfl W2.heap.size rfl ⟨k, 0, 0, []⟩ rfl hb3 ?_; intro W4 hb4 hg4))
      have hBx : Below W2.heap.size W2 W4 := below_of_grown hB3 hg4 (Nat.le_refl _) hB3.size
      have HR4 := Lib.hid (HR2.out.below hBx)
      have HG4 := Lib.hid (grown_below HG2.out hBx)
      have hb14 := hb12.below hBx
      have hz4 := hBx.size
      have hgn : g ≠ W2.heap.size := by omega
      have hwn : w.heap.size ≠ W2.heap.size := by omega
      have hwW2 : w.heap.size ≤ W2.heap.size := by omega
      have hwg : w.heap.size ≠ g := by omega
      clear hBx hB3 hb3 hg4 hb12 HR2 HG2 hz3 hz4 hz1 hz2
      by_cases k1 : k = 1
      · have HQ3 : Hid (Key.oneK r = ((Wire.takeInt r2).1, ⟨1, (Wire.takeInt r2).2, 0, []⟩, (Wire.takeInt r2).1.e)) := by show _ = _; rw [HQ2.out, if_neg (by rw [HE2.out]; simp), if_pos k1]
        clear hk HQ2
        subst k1
        go_wp2_with fail
        refine (rint_any _ g r2 HR4.out).mono ?_
        rintro e W5 ⟨rfl, hrd5, hg5⟩
        have HR5 : Hid (RD W5 g (Wire.takeInt r2).1) := hrd5
        have HG5 := Lib.hid (grown_trans HG4.out hg5)
        have hb5 := hb4.grown hg5 (by simpa using Ne.symm hgn)
        have hb15 := hb14.grown hg5 (by simpa using hwg)
        clear hrd5 hg5 hb4 hb14 HR4 HG4
        generalize Wire.takeInt r2 = q at HQ3 HR5 ⊢
        obtain ⟨r3, n⟩ := q
        dsimp only at HQ3 HR5 ⊢
        obtain ⟨-, e1, -, -, -, f1, -⟩ := Blk.c4 hb5
        go_upto_region 19 with fail
        have hb6 : Blk (World.setCell W5 ⟨W2.heap.size, 1, none⟩ (.int .i64 n)) W2.heap.size 27 (Va.cells ⟨1, n, 0, []⟩) := hb5.set1
        have HR6 : Hid (RD (World.setCell W5 ⟨W2.heap.size, 1, none⟩ (.int .i64 n)) g r3) := HR5.out.kept_va hb5 (Ne.symm hgn) (set_grown W5 W2.heap.size 1 (.int .i64 n))
        have HG6 : Hid (w.grownBy (World.setCell W5 ⟨W2.heap.size, 1, none⟩ (.int .i64 n)) (some g)) := grown_new HG5.out (set_grown W5 W2.heap.size 1 (.int .i64 n)) hwW2
        have hb16 := hb15.other ⟨W2.heap.size, 1, none⟩ hwn (.int .i64 n)
        clear e1 f1 hb5 hb15 HR5 HG5
        generalize World.setCell W5 _ _ = W6 at hb6 HR6 HG6 hb16 ⊢
        go_wp2_with fail
        refine (rerr_any _ g r3 HR6.out).mono ?_
        rintro e wq ⟨rfl, rfl⟩
        by_cases he3 : r3.e = 0
        · have HE3 := Lib.hid he3
          rw [he3]
          clear he3
          go_wp2_with fail
          refine (check_ok _).mono ?_
          rintro e wq ⟨rfl, rfl⟩
          go_wp2_with (first | (refine wpList_load_va rfl (.tmp 4) rfl W2.heap.size rfl hb6 ?_) | (refine wpList_store_va rfl rfl (.tmp 2) (.tmp 58) rfl w.heap.size rfl ⟨1, n, 0, []⟩ rfl hb16 ?_; intro W8 hb8 hg8))
          exact ret_va hb8 rfl rfl rfl (retOne_ok HQ3.out HE3.out (HR6.out.kept_va hb16 hwg hg8) (grown_new HG6.out hg8 (Nat.le_refl _)))
        · go_wp2_with fail
          refine (check_bad _ r3.e he3).mono ?_
          rintro e wq ⟨rfl, rfl⟩
          exact ⟨rfl, retOne_bad HQ3.out he3 HR6.out HG6.out⟩
      by_cases k3 : k = 3
      · have HQ3 : Hid (Key.oneK r = ((Wire.takeText r2 512).1, ⟨3, 0, 0, (Wire.takeText r2 512).2⟩, (Wire.takeText r2 512).1.e)) := by show _ = _; rw [HQ2.out, if_neg (by rw [HE2.out]; simp), if_neg k1, if_pos k3]
        clear hk HQ2 k1
        subst k3
        go_wp2_with fail
        refine (rtext_any _ g r2 512 (by decide) HR4.out).mono ?_
        rintro e W5 ⟨rfl, hrd5, hg5⟩
        have HR5 : Hid (RD W5 g (Wire.takeText r2 512).1) := hrd5
        have HG5 := Lib.hid (grown_trans HG4.out hg5)
        have hb5 := hb4.grown hg5 (by simpa using Ne.symm hgn)
        have hb15 := hb14.grown hg5 (by simpa using hwg)
        clear hrd5 hg5 hb4 hb14 HR4 HG4
        generalize Wire.takeText r2 512 = q at HQ3 HR5 ⊢
        obtain ⟨r3, n⟩ := q
        dsimp only at HQ3 HR5 ⊢
        obtain ⟨-, -, -, e1, -, -, -, f1⟩ := Blk.c4 hb5
        unfold txt
        go_upto_region 19 with fail
        have hb6 : Blk (World.setCell W5 ⟨W2.heap.size, 3, none⟩ (.string ⟨n.toArray⟩)) W2.heap.size 27 (Va.cells ⟨3, 0, 0, n⟩) := hb5.set3
        have HR6 : Hid (RD (World.setCell W5 ⟨W2.heap.size, 3, none⟩ (.string ⟨n.toArray⟩)) g r3) := HR5.out.kept_va hb5 (Ne.symm hgn) (set_grown W5 W2.heap.size 3 (.string ⟨n.toArray⟩))
        have HG6 : Hid (w.grownBy (World.setCell W5 ⟨W2.heap.size, 3, none⟩ (.string ⟨n.toArray⟩)) (some g)) := grown_new HG5.out (set_grown W5 W2.heap.size 3 (.string ⟨n.toArray⟩)) hwW2
        have hb16 := hb15.other ⟨W2.heap.size, 3, none⟩ hwn (.string ⟨n.toArray⟩)
        clear e1 f1 hb5 hb15 HR5 HG5
        generalize World.setCell W5 _ _ = W6 at hb6 HR6 HG6 hb16 ⊢
        go_wp2_with fail
        refine (rerr_any _ g r3 HR6.out).mono ?_
        rintro e wq ⟨rfl, rfl⟩
        by_cases he3 : r3.e = 0
        · have HE3 := Lib.hid he3
          rw [he3]
          clear he3
          go_wp2_with fail
          refine (check_ok _).mono ?_
          rintro e wq ⟨rfl, rfl⟩
          go_wp2_with (first | (refine wpList_load_va rfl (.tmp 4) rfl W2.heap.size rfl hb6 ?_) | (refine wpList_store_va rfl rfl (.tmp 2) (.tmp 58) rfl w.heap.size rfl ⟨3, 0, 0, n⟩ rfl hb16 ?_; intro W8 hb8 hg8))
          exact ret_va hb8 rfl rfl rfl (retOne_ok HQ3.out HE3.out (HR6.out.kept_va hb16 hwg hg8) (grown_new HG6.out hg8 (Nat.le_refl _)))
        · go_wp2_with fail
          refine (check_bad _ r3.e he3).mono ?_
          rintro e wq ⟨rfl, rfl⟩
          exact ⟨rfl, retOne_bad HQ3.out he3 HR6.out HG6.out⟩
      by_cases k4 : k = 4
      · have HQ3 : Hid (Key.oneK r = ((Wire.takeBool r2).1, ⟨4, if (Wire.takeBool r2).2 then 1 else 0, 0, []⟩, (Wire.takeBool r2).1.e)) := by show _ = _; rw [HQ2.out, if_neg (by rw [HE2.out]; simp), if_neg k1, if_neg k3, if_pos k4]
        clear hk HQ2 k1 k3
        subst k4
        go_wp2_with fail
        refine (rbool_any _ g r2 HR4.out).mono ?_
        rintro e W5 ⟨rfl, hrd5, hg5⟩
        have HR5 : Hid (RD W5 g (Wire.takeBool r2).1) := hrd5
        have HG5 := Lib.hid (grown_trans HG4.out hg5)
        have hb5 := hb4.grown hg5 (by simpa using Ne.symm hgn)
        have hb15 := hb14.grown hg5 (by simpa using hwg)
        clear hrd5 hg5 hb4 hb14 HR4 HG4
        generalize Wire.takeBool r2 = q at HQ3 HR5 ⊢
        obtain ⟨r3, n⟩ := q
        dsimp only at HQ3 HR5 ⊢
        obtain ⟨-, e1, -, -, -, f1, -, -⟩ := Blk.c4 hb5
        cases n
        · clear e1 f1
          have hb6 := hb5
          have hb16 := hb15
          have HR6 := HR5
          have HG6 := HG5
          clear hb5 hb15 HR5 HG5
          go_wp2_with fail
          refine (rerr_any _ g r3 HR6.out).mono ?_
          rintro e wq ⟨rfl, rfl⟩
          by_cases he3 : r3.e = 0
          · have HE3 := Lib.hid he3
            rw [he3]
            clear he3
            go_wp2_with fail
            refine (check_ok _).mono ?_
            rintro e wq ⟨rfl, rfl⟩
            go_wp2_with (first | (refine wpList_load_va rfl (.tmp 4) rfl W2.heap.size rfl hb6 ?_) | (refine wpList_store_va rfl rfl (.tmp 2) (.tmp 58) rfl w.heap.size rfl ⟨4, 0, 0, []⟩ rfl hb16 ?_; intro W8 hb8 hg8))
            exact ret_va hb8 rfl rfl rfl (retOne_ok HQ3.out HE3.out (HR6.out.kept_va hb16 hwg hg8) (grown_new HG6.out hg8 (Nat.le_refl _)))
          · go_wp2_with fail
            refine (check_bad _ r3.e he3).mono ?_
            rintro e wq ⟨rfl, rfl⟩
            exact ⟨rfl, retOne_bad HQ3.out he3 HR6.out HG6.out⟩
        · go_upto_region 19 with fail
          have hb6 : Blk (World.setCell W5 ⟨W2.heap.size, 1, none⟩ (.int .i64 1)) W2.heap.size 27 (Va.cells ⟨4, 1, 0, []⟩) := hb5.set1
          have HR6 : Hid (RD (World.setCell W5 ⟨W2.heap.size, 1, none⟩ (.int .i64 1)) g r3) := HR5.out.kept_va hb5 (Ne.symm hgn) (set_grown W5 W2.heap.size 1 (.int .i64 1))
          have HG6 : Hid (w.grownBy (World.setCell W5 ⟨W2.heap.size, 1, none⟩ (.int .i64 1)) (some g)) := grown_new HG5.out (set_grown W5 W2.heap.size 1 (.int .i64 1)) hwW2
          have hb16 := hb15.other ⟨W2.heap.size, 1, none⟩ hwn (.int .i64 1)
          clear e1 f1 hb5 hb15 HR5 HG5
          generalize World.setCell W5 _ _ = W6 at hb6 HR6 HG6 hb16 ⊢
          go_wp2_with fail
          refine (rerr_any _ g r3 HR6.out).mono ?_
          rintro e wq ⟨rfl, rfl⟩
          by_cases he3 : r3.e = 0
          · have HE3 := Lib.hid he3
            rw [he3]
            clear he3
            go_wp2_with fail
            refine (check_ok _).mono ?_
            rintro e wq ⟨rfl, rfl⟩
            go_wp2_with (first | (refine wpList_load_va rfl (.tmp 4) rfl W2.heap.size rfl hb6 ?_) | (refine wpList_store_va rfl rfl (.tmp 2) (.tmp 58) rfl w.heap.size rfl ⟨4, 1, 0, []⟩ rfl hb16 ?_; intro W8 hb8 hg8))
            exact ret_va hb8 rfl rfl rfl (retOne_ok HQ3.out HE3.out (HR6.out.kept_va hb16 hwg hg8) (grown_new HG6.out hg8 (Nat.le_refl _)))
          · go_wp2_with fail
            refine (check_bad _ r3.e he3).mono ?_
            rintro e wq ⟨rfl, rfl⟩
            exact ⟨rfl, retOne_bad HQ3.out he3 HR6.out HG6.out⟩
      by_cases k2 : k = 2
      · have HQ3 : Hid (Key.oneK r = if (Wire.take r2).1.e ≠ 0 then ((Wire.take r2).1, Key.nul, (Wire.take r2).1.e) else ((Wire.take r2).1, (Key.takeK 2 (1 :: Wal.hi8 (Wire.take r2).2)).1, (Key.takeK 2 (1 :: Wal.hi8 (Wire.take r2).2)).2.2)) := by
          show _ = _; rw [HQ2.out, if_neg (by rw [HE2.out]; simp), if_neg k1, if_neg k3, if_neg k4, if_pos k2]
        clear hk HQ2 k1 k3 k4
        subst k2
        have HN := Lib.hid (Wire.take_lt r2)
        go_wp2_with fail
        refine (rnum_any _ g r2 HR4.out).mono ?_
        rintro e W5 ⟨rfl, hrd5, hg5⟩
        have HR5 : Hid (RD W5 g (Wire.take r2).1) := hrd5
        have HG5 := Lib.hid (grown_trans HG4.out hg5)
        have hb5 := hb4.grown hg5 (by simpa using Ne.symm hgn)
        have hb15 := hb14.grown hg5 (by simpa using hwg)
        have hz5 : w.heap.size ≤ W5.heap.size := HG5.out.size
        clear hrd5 hg5 hb4 hb14 HR4 HG4
        generalize Wire.take r2 = q at HQ3 HR5 HN ⊢
        obtain ⟨r3, n⟩ := q
        dsimp only at HQ3 HR5 HN ⊢
        go_wp2_with fail
        refine (rerr_any _ g r3 HR5.out).mono ?_
        rintro e wq ⟨rfl, rfl⟩
        by_cases he3 : r3.e = 0
        · have HE3 := Lib.hid he3
          have HQ4 : Hid (Key.oneK r = (r3, (Key.takeK 2 (1 :: Wal.hi8 n)).1, (Key.takeK 2 (1 :: Wal.hi8 n)).2.2)) := by show _ = _; rw [HQ3.out, if_neg (by rw [he3]; simp)]
          rw [he3]
          clear he3 HQ3
          go_wp2_with fail
          refine (check_ok _).mono ?_
          rintro e wq ⟨rfl, rfl⟩
          go_wp2_with fail
          have HO : Hid (BRow (W5.alloc (.cells #[.int .u8 1] 5)) (some ⟨W5.heap.size, 0, none⟩) [1]) := BRow.one _ _ _ _ rfl
          refine (khigh_any _ n HN.out).mono ?_
          rintro e w6 ⟨A6, c6, rfl, hr6, -, hB6⟩
          have HB6 : Hid (Below W5.heap.size W5 w6) := (Below.alloc1 W5 _).then hB6
          have H6 := Lib.hid (And.intro (HO.out.below hB6) hr6)
          clear hB6 hr6 HO
          go_wp2_with fail
          refine (bconcat2 _ _ _ ⟨some ⟨W5.heap.size, 0, none⟩, 1, [1]⟩ ⟨A6, c6, Wal.hi8 n⟩ (Row.new _ _ _) ⟨H6.out.1.alloc _, ?_⟩ ⟨H6.out.2.alloc _, ?_⟩ ?_).mono ?_
          · show 1 ≤ _; decide
          · simp [Wal.hi8_length]
          · simp [Wal.hi8_length]
          rintro e w7 ⟨A7, c7, rfl, ho7, hB7⟩
          have HB7 : Hid (Below W5.heap.size W5 w7) := HB6.out.trans (((Below.alloc1 w6 _).then hB7).mono HB6.out.size)
          have H7 := Lib.hid (And.intro ho7.row ho7.cap)
          clear hB7 ho7 HB6 H6
          have H19 : Hid ([1] ++ Wal.hi8 n = 1 :: Wal.hi8 n) := rfl
          rw [H19.out] at H7 ⊢
          have HL9 : Hid ((1 :: Wal.hi8 n).length = 9) := by show _ = _; simp [Wal.hi8_length]
          go_wp2_with fail
          refine (ktake_any w7 2 A7 c7 (1 :: Wal.hi8 n) H7.out.1 H7.out.2 (by rw [HL9.out]; decide)).mono ?_
          rintro e W8 ⟨rfl, hB8⟩
          generalize Key.takeK 2 (1 :: Wal.hi8 n) = q at HQ4 ⊢
          obtain ⟨v, m, er⟩ := q
          have HQ5 : Hid (Key.oneK r = (r3, v, er)) := HQ4.out
          have HB8 := Lib.hid (HB7.out.then hB8)
          clear HQ4 hB8 HB7 H7 H19 HL9
          dsimp only
          have hz8 : W5.heap.size ≤ W8.heap.size := HB8.out.size
          go_upto_region 17 with (first | (refine wpList_alloc_va rfl rfl ?_; intro W9 hb9 hz9 hB9) | (refine wpList_store_va rfl rfl (.tmp 6) (.tmp 49) rfl W8.heap.size rfl v rfl hb9 ?_; intro W10 hb10 hg10))
          have HB10 := Lib.hid (below_of_grown (HB8.out.then hB9) hg10 hz8 (by omega))
          have HR10 := Lib.hid (HR5.out.below HB10.out)
          have HG10 := Lib.hid (grown_below HG5.out HB10.out)
          have hb510 := hb5.below HB10.out
          have hb110 := hb15.below HB10.out
          have hz10 := HB10.out.size
          have ht4 : W2.heap.size < W5.heap.size := hb5.lt
          clear hB9 hb9 hg10 hb5 hb15 HB8 HR5 HG5
          go_wp2_with fail
          by_cases her : er = 0
          · have HQ6 : Hid (Key.oneK r = (r3, v, r3.e)) := by show _ = _; rw [HQ5.out, her, HE3.out]
            rw [her]
            clear HQ5 her
            refine (check_ok _).mono ?_
            rintro e wq ⟨rfl, rfl⟩
            go_upto_region 19 with (first | (refine wpList_load_va rfl (.tmp 6) rfl W8.heap.size rfl hb10 ?_) | (refine wpList_store_va rfl rfl (.tmp 4) (.tmp 54) rfl W2.heap.size rfl v rfl hb510 ?_; intro W11 hb11 hg11))
            have hb6 := hb11
            have HR6 := Lib.hid (HR10.out.kept_va hb510 (Ne.symm hgn) hg11)
            have HG6 := Lib.hid (grown_new HG10.out hg11 hwW2)
            have hb16 := hb110.grown hg11 (by simpa using hwn)
            have HQ3 := HQ6
            clear hb11 hg11 HR10 HG10 hb510 hb110 hb10 HQ6
            go_wp2_with fail
            refine (rerr_any _ g r3 HR6.out).mono ?_
            rintro e wq ⟨rfl, rfl⟩
            by_cases he3 : r3.e = 0
            · have HE3 := Lib.hid he3
              rw [he3]
              clear he3
              go_wp2_with fail
              refine (check_ok _).mono ?_
              rintro e wq ⟨rfl, rfl⟩
              go_wp2_with (first | (refine wpList_load_va rfl (.tmp 4) rfl W2.heap.size rfl hb6 ?_) | (refine wpList_store_va rfl rfl (.tmp 2) (.tmp 58) rfl w.heap.size rfl v rfl hb16 ?_; intro W8 hb8 hg8))
              exact ret_va hb8 rfl rfl rfl (retOne_ok HQ3.out HE3.out (HR6.out.kept_va hb16 hwg hg8) (grown_new HG6.out hg8 (Nat.le_refl _)))
            · go_wp2_with fail
              refine (check_bad _ r3.e he3).mono ?_
              rintro e wq ⟨rfl, rfl⟩
              exact ⟨rfl, retOne_bad HQ3.out he3 HR6.out HG6.out⟩
          · refine (check_bad _ er her).mono ?_
            rintro e wq ⟨rfl, rfl⟩
            exact ⟨rfl, retOne_bad HQ5.out her HR10.out HG10.out⟩
        · have HQ4 : Hid (Key.oneK r = (r3, Key.nul, r3.e)) := by show _ = _; rw [HQ3.out, if_pos he3]
          go_wp2_with fail
          refine (check_bad _ r3.e he3).mono ?_
          rintro e wq ⟨rfl, rfl⟩
          exact ⟨rfl, retOne_bad HQ4.out he3 HR5.out HG5.out⟩
      · have k0 : k = 0 := by omega
        have HQ3 : Hid (Key.oneK r = (r2, ⟨(k : Nat), 0, 0, []⟩, r2.e)) := by
          show _ = _; rw [HQ2.out, if_neg (by rw [HE2.out]; simp), if_neg k1, if_neg k3, if_neg k4, if_neg k2, HE2.out]
        clear hk HQ2 k1 k3 k4 k2
        subst k0
        have hb6 := hb4
        have hb16 := hb14
        have HR6 := HR4
        have HG6 := HG4
        clear hb4 hb14 HR4 HG4
        have hk0 : ((0 : Nat) : Int) = 0 := rfl
        rw [hk0] at hb6 HQ3 ⊢
        clear hk0
        go_wp2_with fail
        refine (rerr_any _ g r2 HR6.out).mono ?_
        rintro e wq ⟨rfl, rfl⟩
        by_cases he3 : r2.e = 0
        · have HE3 := Lib.hid he3
          rw [he3]
          clear he3
          go_wp2_with fail
          refine (check_ok _).mono ?_
          rintro e wq ⟨rfl, rfl⟩
          go_wp2_with (first | (refine wpList_load_va rfl (.tmp 4) rfl W2.heap.size rfl hb6 ?_) | (refine wpList_store_va rfl rfl (.tmp 2) (.tmp 58) rfl w.heap.size rfl ⟨0, 0, 0, []⟩ rfl hb16 ?_; intro W8 hb8 hg8))
          exact ret_va hb8 rfl rfl rfl (retOne_ok HQ3.out HE3.out (HR6.out.kept_va hb16 hwg hg8) (grown_new HG6.out hg8 (Nat.le_refl _)))
        · go_wp2_with fail
          refine (check_bad _ r2.e he3).mono ?_
          rintro e wq ⟨rfl, rfl⟩
          exact ⟨rfl, retOne_bad HQ3.out he3 HR6.out HG6.out⟩
    · have HQ3 : Hid (Key.oneK r = (r2, Key.nul, r2.e)) := by show _ = _; rw [HQ2.out, if_pos he2]
      go_wp2_with fail
      refine (check_bad _ r2.e he2).mono ?_
      rintro e wq ⟨rfl, rfl⟩
      exact ⟨rfl, retOne_bad HQ3.out he2 HR2.out HG2.out⟩
  · have HQ : Hid (Key.oneK r = (r, Key.nul, r.e)) := by show _ = _; unfold Key.oneK; rw [if_pos he0]
    go_wp2_with fail
    refine (check_bad _ r.e he0).mono ?_
    rintro e wq ⟨rfl, rfl⟩
    exact ⟨rfl, retOne_bad HQ.out he0 HR1.out HG1.out⟩
end Go.Proofs.YtknfnhmkiooifaaDoor
end

section
/-
  A drawn region in which an operation panics: its orders, step by step.
-/
namespace Go.Proofs.YtknfnhmkiooifaaDoor
set_option linter.unusedSimpArgs false
set_option linter.unusedVariables false
open Go

section
variable {P : Program} {ops : Array Oper} {Q : Exit → Act → World → Prop}
theorem wpAny_step {js : List Nat} {fuel : Nat} {listed : Array Bool} {a : Act} {w : World} (hr : Region.ready .any ops listed = js) (hne : js ≠ []) (h : ∀ j ∈ js, wpOp P ops Q j (wpAny P .any ops Q fuel (listed.setIfInBounds j true)) a w) :
    wpAny P .any ops Q (fuel + 1) listed a w := by
  refine ⟨fun e => absurd (hr.symm.trans e) hne, fun j hj => ?_⟩
  rw [hr] at hj
  exact h j hj
theorem upon_mono2 {o : Oper} {a : Act} {K K' : Act → World → Prop} {Z : Exit → Act → World → Prop} {r : Result Next} (hK : ∀ a w, K a w → K' a w) (hP : ∀ c a w, Z (.panic c) a w → Q (.panic c) a w) (hO : ∀ a w, Z .outgrown a w → Q .outgrown a w)
    (h : o.upon P a K Z r) : o.upon P a K' Q r := by
  have key : ∀ (K0 K1 : Value → World → Prop), (∀ v w, K0 v w → K1 v w) → ∀ f args w', (Calls P f args w' fun e w'' => match e, w'' with | .returned v, w'' => K0 v w'' | .panicked c, w'' => Z (.panic c) a w'' | .outgrown, _ => LetsOut Z) → Calls P f args w' fun e w'' => match e, w'' with | .returned v, w'' => K1 v w'' | .panicked c, w'' => Q (.panic c) a w'' | .outgrown, _ => LetsOut Q := by
    intro K0 K1 hK01 f args w' h
    refine h.mono fun e w'' he => ?_
    cases e with
    | returned v => exact hK01 _ _ he
    | panicked c => exact hP _ _ _ he
    | outgrown => obtain ⟨a1, w1, h1⟩ := he; exact ⟨a1, w1, hO _ _ h1⟩
  cases r with
  | ok n w' =>
    cases n <;> simp only [Oper.upon] at h ⊢
    case value v => exact hK _ _ h
    case skip => exact hK _ _ h
    case defer d => exact hK _ _ h
    case enter f args => exact key _ _ (fun v w h => hK _ _ h) f args w' h
    case row row args => exact Rows.mono h fun v w'' hk => hK _ _ hk
  | halt x w' =>
    cases x <;> simp only [Oper.upon] at h ⊢
    exact hP _ _ _ h
/-- One operation, walked; it may end in a panic. -/
theorem wpOp_of_Z {i : Nat} {o : Oper} {a : Act} {w : World} {K : Act → World → Prop} (hi : ops[i]? = some o)
    (h : ∀ Z : Exit → Act → World → Prop, (∀ a' w', K a' w' → Z .normal a' w') → (∀ c a' w', Q (.panic c) a' w' → Z (.panic c) a' w') → wpList P ops Z [o] a w) : wpOp P ops Q i K a w := by
  have h0 := h (fun e a w => match e with | .normal => K a w | e => Q e a w) (fun _ _ h => h) (fun _ _ _ h => h)
  unfold wpOp
  simp only [hi]
  unfold wpList at h0
  split
  · rename_i hw
    rw [if_pos hw] at h0
    rcases h0 with h0 | ⟨h1, a1, w1, h2⟩
    · exact .inl (upon_mono2 (fun _ _ h => h) (fun _ _ _ h => h) (fun _ _ h => h) h0)
    · exact .inr ⟨h1, a1, w1, h2⟩
  · rename_i hw
    rw [if_neg hw] at h0
    exact h0
end
end Go.Proofs.YtknfnhmkiooifaaDoor
end

