/-
  Texts of a proof, one behind the other (each with its own head).
-/
import Derived.Test.YtpahkaffknnjhaaGreatDoorPartFkeohmocc
import Derived.Maps.Own
import Derived.Maps.OwnSet
import Derived.Maps.Views
section
namespace Go.Proofs.YtpahkaffknnjhaaGreatDoor
set_option linter.unusedSimpArgs false
set_option linter.unusedVariables false
open Go.RowKit
def RetBn (w : World) (b : Bool) (e : Ending) (w' : World) : Prop := e = .returned (.bool b) ∧ Below w.heap.size w w'
namespace Run
theorem allFrom_snd (l : List (List Va)) (i : Nat) : (allFrom [] i l).map (·.2) = l := by
  rw [allFrom_nil, List.map_map]
  exact List.zipIdx_map_fst _ _
theorem allFrom_fst (l : List (List Va)) : ((allFrom [] 0 l).map fun p => (p.1 : Int)) = (List.range l.length).map fun j : Nat => (j : Int) + 1 := by
  rw [allFrom_nil, List.map_map]
  apply List.ext_getElem
  · simp
  · intro j h1 h2
    simp
    omega
theorem match_no {H M : List Bs} {i : Nat} (hi : i < M.length) (h : H[i]? ≠ some M[i]) : H ≠ M := by
  intro e
  exact h (by rw [e]; exact List.getElem?_eq_getElem hi)
theorem match_yes {H M : List Bs} {i : Nat} (hi : i < M.length) (hh : H.take i = M.take i) (h : H[i]? = some M[i]) : H.take (i + 1) = M.take (i + 1) ∧ i + 1 ≤ H.length := by
  obtain ⟨hl, e⟩ := List.getElem?_eq_some_iff.1 h
  exact ⟨by rw [List.take_succ_eq_append_getElem hl, List.take_succ_eq_append_getElem hi, hh, e], hl⟩
end Run
set_option maxRecDepth 20000 in
theorem right_nil (w : World) (t ix : Int) (v : Value) : Calls Tryz.prog 16 #[.int .i64 t, .int .i64 ix, v, .nilIface] w (RetBn w false) := by
  go_enter Tryz.func16, Tryz.ntmps16
  go_wp2_with fail
  refine (all_nil w t (.slice none 0 0)).mono ?_
  rintro e w1 ⟨rfl, rfl⟩
  go_wp2_with fail
  go_loopw [12, 32] (fun bv iv wr => bv = .slice none 0 0 ∧ iv = .int .i64 0 ∧ wr = w1) (fun _ _ _ => 0)
  case atStart => exact ⟨rfl, rfl, rfl⟩
  case round =>
    obtain ⟨rfl, rfl, rfl⟩ := hrel
    go_wp2_with fail
    refine (show Calls _ _ #[.slice none 0 0, _] _ _ from sortk_any wr wr.heap.size none 0 [] KyOwn.start (by simp)).mono ?_
    rintro e w2 ⟨P', rfl, -, -, -, hg⟩
    have HB : Hid (Below wr.heap.size wr w2) := (Below.refl _ _).grown hg (Nat.le_refl _) (by intro k hk; cases hk)
    clear hg
    go_wp2_with fail
    have HB3 : Hid (Below wr.heap.size wr (w2.alloc (.cells #[] 5))) := HB.out.then ((Below.refl _ _).alloc (Nat.le_refl _) _)
    clear HB
    generalize World.alloc w2 _ = w3 at HB3 ⊢
    go_loopw [11, 15, 53] (fun ev kv iv wq => iv = .int .i64 0 ∧ wq = w3) (fun _ _ _ _ => 0)
    case atStart => exact ⟨rfl, rfl⟩
    case round =>
      obtain ⟨rfl, rfl⟩ := hrel
      go_wp2_with fail
      go_ret
      exact ⟨rfl, HB3.out⟩
set_option maxRecDepth 20000 in
set_option maxHeartbeats 8000000 in
theorem right_any (w : World) (g : Nat) (G : List Gr) (K : List Ks) (hm : MemAt w g G K) (hst : ∀ k ∈ K, Run.Strict (Run.keysG k)) (t ix : Int) (ca : Option Addr) (cc : Nat) (cols : List Int) (hc : ERow eInt w ca cols) (hci : ∀ c ∈ cols, Ev.inB c) (hcl : cols.length ≤ 90) :
    Calls Tryz.prog 16 #[.int .i64 t, .int .i64 ix, .slice ca cols.length cc, .iface 35 (.pointer (some ⟨g, 0, none⟩))] w (RetBn w (decide (Run.keysAt (K.map Run.keysG) ix = Run.keys cols (Run.rowsAt (G.map Run.rowsG) t)))) := by
  have hmt := meth_seek
  have kne := run_str_ne
  have gne := eqg_ne
  have HM := Lib.hid hm
  have HC : Hid (ERow eInt w ca cols ∧ ∀ c ∈ cols, Ev.inB c) := ⟨hc, hci⟩
  have HST : Hid (∀ k ∈ K, Srt.Sorted Run.cmp (Run.keysG k)) := fun k hk => (hst k hk).sorted
  obtain ⟨ta, tc, ka, kc, -, hT, hK⟩ := hm.at_
  have HROW : Hid (∀ l ∈ Run.rowsAt (G.map Run.rowsG) t, (∀ v ∈ l, v.ok) ∧ l.length ≤ 1000 ∧ (∀ v ∈ l, v.s.length ≤ 1000) ∧ (Run.rowsAt (G.map Run.rowsG) t).length ≤ 1000) := fun l h => hT.row h
  have hrs : (Run.rowsAt (G.map Run.rowsG) t).length ≤ 1000 := by
    cases h : Run.rowsAt (G.map Run.rowsG) t with
    | nil => simp
    | cons x l =>
      have := (HROW.out x (by rw [h]; simp)).2.2.2
      rw [h] at this
      exact this
  have HH : Hid (Run.Strict (Run.keysAt (K.map Run.keysG) ix) ∧ (∀ l, Run.seekOf (K.map Run.keysG) ix l = (Run.keysAt (K.map Run.keysG) ix)[Run.find (Run.keysAt (K.map Run.keysG) ix) l]?) ∧ ∀ x ∈ Run.keysAt (K.map Run.keysG) ix, x.length ≤ 200000) := by
    refine ⟨?_, fun l => Run.seekOf_at _ _ _, ?_⟩
    · exact Run.keysAt_mem (P := Run.Strict) List.Pairwise.nil (fun l hl => by
        obtain ⟨k, hk, rfl⟩ := List.mem_map.1 hl
        exact hst k hk) ix
    · exact Run.keysAt_mem (P := fun L => ∀ x ∈ L, x.length ≤ 200000) (by intro x hx; cases hx) (fun l hl => by
        obtain ⟨k, hk, rfl⟩ := List.mem_map.1 hl
        intro x hx
        obtain ⟨p, hp, rfl⟩ := List.mem_map.1 hx
        exact hK.pl k hk p hp) ix
  have HA1 := Lib.hid (all_any w g G K hm t none 0 [] ERow.nil (by intro n hn; cases hn) (by simp))
  clear hm hst hc hci hT hK
  generalize hRS : Run.rowsAt (G.map Run.rowsG) t = RS at HROW hrs HA1 ⊢
  generalize hH : Run.keysAt (K.map Run.keysG) ix = H at HH ⊢
  clear hRS hH
  obtain ⟨M, hM⟩ : ∃ M, Run.keys cols RS = M := ⟨_, rfl⟩
  have HMK := Lib.hid hM
  rw [hM]
  clear hM
  generalize hbb : decide (H = M) = bb
  have HBB := Lib.hid hbb
  clear hbb
  go_enter Tryz.func16, Tryz.ntmps16
  go_wp2_with fail
  refine HA1.out.mono ?_
  rintro e W1 ⟨A1, c1, A2, c2, R, rfl, ho1, ho2, hrm, hB1⟩
  have hRl : R.length = RS.length := by
    have := congrArg List.length hrm
    rw [Run.allFrom_snd] at this
    simpa using this
  have HI : Hid (ERow eI64 W1 A1 ((List.range RS.length).map fun j : Nat => (j : Int) + 1) ∧ ERow eRw W1 A2 R ∧ (∀ r ∈ R, ERow eVa W1 r.a r.l) ∧ R.map Rw.l = RS ∧ Below w.heap.size w W1) := by
    refine ⟨?_, ho2.own.row, fun r hr => (ho2.rows r hr).row, ?_, hB1⟩
    · rw [← Run.allFrom_fst]; exact ho1.row
    · rw [hrm, Run.allFrom_snd]
  clear ho1 ho2 hrm hB1 HA1
  rw [hRl]
  go_wp2_with fail
  go_loopw [12, 32] (fun rv jv wq => ∃ (j : Nat) (A3 : Option Addr) (c3 : Nat) (P : List Part), j ≤ RS.length ∧ rv = .slice A3 j c3 ∧ jv = .int .i64 (j : Int) ∧ Hid (KyOwn W1.heap.size wq A3 c3 P ∧ P.map (·.l) = Run.keysU cols 0 (RS.take j) ∧ P.length = j ∧ (∀ p ∈ P, p.l.length ≤ 200000) ∧ Below W1.heap.size W1 wq)) (fun _ jv _ => RS.length - (intOf jv).toNat)
  case atStart => exact ⟨0, none, 0, [], Nat.zero_le _, rfl, by go_num, KyOwn.start, rfl, rfl, (by intro p hp; cases hp), Below.refl _ _⟩
  case round =>
    obtain ⟨j, A3, c3, P, hj, rfl, rfl, HR⟩ := hrel
    by_cases hjt : j < RS.length
    · have hji : (j : Int) < (RS.length : Int) := by omega
      have hjR : j < R.length := by omega
      obtain ⟨b2, o2, ha2, -, hc2⟩ := rw_at (HI.out.2.1.below HR.out.2.2.2.2) hjR
      have hjI : j < ((List.range RS.length).map fun j : Nat => (j : Int) + 1).length := by simpa using hjt
      obtain ⟨b3, o3, ha3, -, hc3⟩ := i64_at (HI.out.1.below HR.out.2.2.2.2) hjI
      have eI : ((List.range RS.length).map fun j : Nat => (j : Int) + 1)[j] = (j : Int) + 1 := by simp
      rw [eI] at hc3
      have HRJ : Hid (R[j].l = RS[j]) := by
        have h : (R.map Rw.l)[j]? = RS[j]? := by rw [HI.out.2.2.2.1]
        rw [List.getElem?_map, List.getElem?_eq_getElem hjR, List.getElem?_eq_getElem hjt] at h
        exact Option.some.inj h
      have HTJ : Hid (Run.keysU cols 0 (RS.take (j + 1)) = Run.keysU cols 0 (RS.take j) ++ [Run.key cols R[j].l ((j : Int) + 1)]) := by
        show _ = _
        rw [Run.keysU_take cols RS j hjt, HRJ.out]
        rfl
      have HIN : Hid (RowOk wr R[j].a R[j].l) := by
        have h := HROW.out _ (List.getElem_mem hjt)
        exact ⟨(HI.out.2.2.1 _ (List.getElem_mem hjR)).below HR.out.2.2.2.2, by rw [HRJ.out]; exact h.1, by rw [HRJ.out]; omega⟩
      have HSV : Hid (∀ v ∈ R[j].l, v.s.length ≤ 1000) := by
        have h := HROW.out _ (List.getElem_mem hjt)
        rw [← HRJ.out] at h
        exact h.2.2.1
      rw [ha2, ha3]
      clear ha2 ha3 HRJ eI
      generalize R[j] = r at hc2 HTJ HIN HSV
      unfold Rw.v at hc2
      go_wp2_with fail
      refine (rkey_any wr ca cc cols ((HC.out.1.below HI.out.2.2.2.2).below HR.out.2.2.2.2) HC.out.2 (by omega) r.a r.c r.l HIN.out HSV.out ((j : Int) + 1) (by omega) (by omega)).mono ?_
      rintro e W4 ⟨A4, c4, rfl, ho, hB⟩
      have HKL : Hid ((Run.key cols r.l ((j : Int) + 1)).length ≤ 200000) := by
        have h1 := Run.key_len cols r.l ((j : Int) + 1) HSV.out
        show _ ≤ _
        omega
      obtain ⟨kv, hkv⟩ : ∃ x, Run.key cols r.l ((j : Int) + 1) = x := ⟨_, rfl⟩
      rw [hkv] at HTJ HKL ho ⊢
      have HR4 : Hid (KyOwn W1.heap.size W4 A3 c3 P ∧ Below W1.heap.size W1 W4 ∧ BOwn W4 W1.heap.size A4 c4 kv) := ⟨HR.out.1.below hB, HR.out.2.2.2.2.then hB, ho.mono HR.out.2.2.2.2.size⟩
      have HRE : Hid (P.map (·.l) = Run.keysU cols 0 (RS.take j) ∧ P.length = j ∧ ∀ p ∈ P, p.l.length ≤ 200000) := ⟨HR.out.2.1, HR.out.2.2.1, HR.out.2.2.2.1⟩
      clear ho hB hc2 hc3 HIN HR hkv HSV
      have hoA : EOwn eKy (W4.alloc (.cells #[.slice A4 kv.length c4] 32)) W1.heap.size (some ⟨W4.heap.size, 0, none⟩) 1 [⟨A4, c4, kv⟩] := EOwn.new (E := eKy) W4 [(⟨A4, c4, kv⟩ : Part)] (by simp [maxLen]) HR4.out.2.1.size #[.slice A4 kv.length c4] rfl
      have hbA : Below W4.heap.size W4 (W4.alloc (.cells #[.slice A4 kv.length c4] 32)) := (Below.refl _ _).alloc (Nat.le_refl _) _
      have HRA : Hid (KyOwn W1.heap.size (W4.alloc (.cells #[.slice A4 kv.length c4] 32)) A3 c3 P ∧ BOwn (W4.alloc (.cells #[.slice A4 kv.length c4] 32)) W1.heap.size A4 c4 kv ∧ Below W1.heap.size W1 (W4.alloc (.cells #[.slice A4 kv.length c4] 32))) := ⟨HR4.out.1.below hbA, HR4.out.2.2.below hbA, HR4.out.2.1.then hbA⟩
      clear hbA HR4
      go_wp2_with (at_builtin; refine wpList_append_elems eKy rfl (.tmp 37) (.tmp 45) rfl j rfl HRA.out.1.own HRE.out.2.1.symm 1 rfl hoA.row rfl (by have := HRE.out.2.1; simp; omega) HRA.out.2.2.size ?_; intro A5 c5 W5 ho5 hb5 hg5 _)
      have HR5 := Lib.hid (HRA.out.1.one HRA.out.2.1 ho5 hg5)
      have HB5 := Lib.hid (HRA.out.2.2.trans hb5)
      clear ho5 hb5 hg5 hoA HRA
      go_roundw
      case rel =>
        refine ⟨j + 1, A5, c5, P ++ [⟨A4, c4, kv⟩], by omega, by rw [HRE.out.2.1], by go_num, HR5.out, by rw [HTJ.out, List.map_append, HRE.out.1]; rfl, by rw [List.length_append, HRE.out.2.1]; rfl, ?_, HB5.out⟩
        intro p hp
        rcases List.mem_append.1 hp with hp | hp
        · exact HRE.out.2.2 p hp
        · rw [List.mem_singleton.1 hp]; exact HKL.out
      case measure => simp [intOf]; omega
    · obtain rfl : j = RS.length := by omega
      have HZ : Hid (KyOwn W1.heap.size wr A3 c3 P ∧ P.map (·.l) = Run.keysU cols 0 RS ∧ P.length ≤ 1000 ∧ (∀ p ∈ P, p.l.length ≤ 200000) ∧ Below W1.heap.size W1 wr) := by
        obtain ⟨h1, h2, h3, h4, h5⟩ := HR.out
        refine ⟨h1, ?_, by omega, h4, h5⟩
        rw [h2, List.take_length]
      have hPl : P.length = RS.length := HR.out.2.2.1
      clear HR
      rw [← hPl]
      clear hPl
      have HSO := Lib.hid (sortk_any wr W1.heap.size A3 c3 P HZ.out.1 (by have := HZ.out.2.2.1; omega))
      go_wp2_with fail
      refine HSO.out.mono ?_
      rintro e W7 ⟨P', rfl, hky, hperm, hmap, hgr⟩
      have HP : Hid (ERow eKy W7 A3 P' ∧ (∀ p ∈ P', BRow W7 p.a p.l) ∧ P'.map (·.l) = Run.keys cols RS ∧ Below w.heap.size w W7) := by
        refine ⟨hky.own.row, fun p hp => (hky.rows p hp).row, by rw [hmap, HZ.out.2.1]; rfl, ?_⟩
        have h1 : Below W1.heap.size W1 W7 := HZ.out.2.2.2.2.grown hgr HZ.out.2.2.2.2.size fun x hx => by
          cases hA : A3 with
          | none => rw [hA] at hx; cases hx
          | some a => rw [hA] at hx; cases hx; exact (HZ.out.1.own.block a hA).1
        exact HI.out.2.2.2.2.then h1
      have hPP : P.length = P'.length := hperm.length_eq.symm
      have hPm : P'.length ≤ 1000 := by have := HZ.out.2.2.1; omega
      clear hky hperm hmap hgr HSO HZ HI
      rw [hPP]
      clear hPP
      go_wp2_with fail
      have hB8 : Below W7.heap.size W7 (W7.alloc (.cells #[] 5)) := (Below.refl _ _).alloc (Nat.le_refl _) _
      have HP8 : Hid (ERow eKy (W7.alloc (.cells #[] 5)) A3 P' ∧ (∀ p ∈ P', BRow (W7.alloc (.cells #[] 5)) p.a p.l) ∧ P'.map (·.l) = Run.keys cols RS ∧ Below w.heap.size w (W7.alloc (.cells #[] 5))) :=
        ⟨HP.out.1.below hB8, fun p hp => (HP.out.2.1 p hp).below hB8, HP.out.2.2.1, HP.out.2.2.2.then hB8⟩
      clear HP hB8 hjt hj
      generalize World.alloc W7 _ = W8 at HP8 ⊢
      generalize W7.heap.size = g0
      have HMM : Hid (P'.map (·.l) = Run.keys cols RS) := HP8.out.2.2.1
      replace HMM : Hid (P'.map (·.l) = M) := HMM.out.trans HMK.out
      have HML : Hid (M.length = P'.length) := by show _ = _; rw [← HMM.out]; simp
      have HMJ : Hid (∀ (j : Nat) (h : j < M.length), M[j] = (P'[j]'(by have := HML.out; omega)).l) := by
        intro j h
        have hML := HML.out
        have h2 : (P'.map (·.l))[j]? = M[j]? := by rw [HMM.out]
        rw [List.getElem?_eq_getElem h, List.getElem?_map, List.getElem?_eq_getElem (show j < P'.length by omega)] at h2
        exact (Option.some.inj h2).symm
      have HQ : Hid (ERow eKy W8 A3 P' ∧ (∀ p ∈ P', BRow W8 p.a p.l) ∧ Below w.heap.size w W8) := ⟨HP8.out.1, HP8.out.2.1, HP8.out.2.2.2⟩
      clear HP8 HMM
      rw [← HML.out]
      have hMm : M.length ≤ 1000 := by have := HML.out; omega
      go_loopw [11, 15, 53] (fun ev kv iv wq => ∃ (i : Nat) (kA : Option Addr) (kc : Nat) (kl : List UInt8), i ≤ M.length ∧ ev = .int .i64 0 ∧ kv = .slice kA kl.length kc ∧ iv = .int .i64 (i : Int) ∧ Hid (BRow wq kA kl ∧ Run.find H kl = i ∧ H.take i = M.take i ∧ i ≤ H.length ∧ Below W8.heap.size W8 wq)) (fun _ _ iv _ => M.length - (intOf iv).toNat)
      case atStart => exact ⟨0, _, _, [], Nat.zero_le _, rfl, rfl, by go_num, BRow.nil, Run.find_zero H, rfl, Nat.zero_le _, Below.refl _ _⟩
      case round =>
        obtain ⟨i, kA, kc, kl, hi, rfl, rfl, rfl, HR⟩ := hrel
        have HSK : Hid (Calls Tryz.prog 12 #[.pointer (some ⟨g, 0, none⟩), .int .i64 ix, .slice kA kl.length kc] wr (RetSSeek wr H[i]?)) := by
          have h := mseek_any wr g G K (HM.out.below (HQ.out.2.2.then HR.out.2.2.2.2)) HST.out ix kA kc kl HR.out.1
          rw [HH.out.2.1, HR.out.2.1] at h
          exact h
        have HR1 : Hid (H.take i = M.take i ∧ i ≤ H.length ∧ Below W8.heap.size W8 wr) := HR.out.2.2
        clear HR
        by_cases hlt : i < M.length
        · have hii : (i : Int) < (M.length : Int) := by omega
          have hiP : i < P'.length := by have := HML.out; omega
          obtain ⟨b, o, ha, -, hcell⟩ := Ky_at (HQ.out.1.below HR1.out.2.2) hiP
          have HPI : Hid (BRow wr P'[i].a P'[i].l ∧ M[i] = P'[i].l) := ⟨(HQ.out.2.1 _ (List.getElem_mem hiP)).below HR1.out.2.2, HMJ.out i hlt⟩
          rw [ha]
          clear ha
          generalize P'[i] = p at hcell HPI
          unfold Part.v at hcell
          go_wp2_with fail
          refine HSK.out.mono ?_
          clear HSK
          cases hx : H[i]? with
          | none =>
            rintro e W9 ⟨hB9, rfl⟩
            have HD : Hid (bb = false) := HBB.out.symm.trans (decide_eq_false (Run.match_no hlt (by rw [hx]; simp)))
            have HB9 := Lib.hid (HQ.out.2.2.then (HR1.out.2.2.then hB9))
            clear hB9
            go_wp2_with fail
            go_ret
            exact ⟨by rw [HD.out]; rfl, HB9.out⟩
          | some h =>
            rintro e W9 ⟨hB9, A9, c9, rfl, ho9⟩
            have HB9 : Hid (Below W8.heap.size W8 W9) := HR1.out.2.2.then hB9
            have HO9 := Lib.hid ho9
            have HX9 := Lib.hid (HPI.out.1.below hB9)
            have hs1 : (convert 32 9 (.slice A9 h.length c9)).run Tryz.prog W9 = .ok (txt h) W9 := run_string_bytes _ c9 HO9.out.row
            have hs2 : (convert 32 9 (.slice p.a p.l.length p.c)).run Tryz.prog W9 = .ok (txt p.l) W9 := run_string_bytes _ p.c HX9.out
            clear hB9 ho9
            have HHX : Hid (H[i]? = some h ∧ h.length ≤ 200000) := ⟨hx, HH.out.2.2 h (List.mem_of_getElem? hx)⟩
            clear hx
            by_cases he : h = p.l
            · subst he
              have hne : (!(p.l == p.l)) = false := by simp
              have HMY := Lib.hid (Run.match_yes hlt HR1.out.1 (by rw [HHX.out.1, HPI.out.2]))
              have hpl := HHX.out.2
              go_wp2_with fail
              clear hs1 hs2 hne
              refine (clone_any W9 A9 c9 p.l HO9.out.row (by omega)).mono ?_
              rintro e W10 ⟨A10, c10, rfl, ho10, hB10⟩
              have hbA : Below W10.heap.size W10 (W10.alloc (.cells #[.int .u8 0] 5)) := (Below.refl _ _).alloc (Nat.le_refl _) _
              have hrA : BRow (W10.alloc (.cells #[.int .u8 0] 5)) (some ⟨W10.heap.size, 0, none⟩) [0] := BRow.one W10 0 (.int .u8 0) 5 rfl
              have HO10 : Hid (BOwn (W10.alloc (.cells #[.int .u8 0] 5)) W9.heap.size A10 c10 p.l ∧ Below W8.heap.size W8 (W10.alloc (.cells #[.int .u8 0] 5)) ∧ W9.heap.size ≤ (W10.alloc (.cells #[.int .u8 0] 5)).heap.size) := ⟨ho10.below hbA, (HB9.out.then hB10).then hbA, Nat.le_trans hB10.size hbA.size⟩
              have hB9W : W8.heap.size ≤ W9.heap.size := HB9.out.size
              clear ho10 hB10 hbA
              go_wp2_with (at_builtin; refine wpList_append_bytes rfl (.tmp 78) (.tmp 79) rfl _ rfl HO10.out.1 rfl _ rfl hrA rfl (by simp; omega) HO10.out.2.2 ?_; intro A11 c11 W11 ho11 hb11 _ _)
              have HF : Hid (BRow W11 A11 (p.l ++ [0]) ∧ Run.find H (p.l ++ [0]) = i + 1 ∧ Below W8.heap.size W8 W11) := by
                refine ⟨ho11.row, ?_, HO10.out.2.1.trans (hb11.mono hB9W)⟩
                obtain ⟨hl, e⟩ := List.getElem?_eq_some_iff.1 HHX.out.1
                rw [← e]
                exact Run.find_next HH.out.1 hl
              clear ho11 hb11 hrA HO10 hB9W
              go_roundw
              case rel => exact ⟨i + 1, A11, c11, p.l ++ [0], by omega, rfl, by rw [List.length_append]; rfl, by go_num, HF.out.1, HF.out.2.1, HMY.out.1, HMY.out.2, HF.out.2.2⟩
              case measure => simp [intOf]; omega
            · have hne : (!(h == p.l)) = true := by simpa using he
              have HD : Hid (bb = false) := HBB.out.symm.trans (decide_eq_false (Run.match_no hlt (by rw [HHX.out.1, HPI.out.2]; simpa using he)))
              have HB := Lib.hid (HQ.out.2.2.then HB9.out)
              clear he
              go_wp2_with fail
              go_ret
              exact ⟨by rw [HD.out]; rfl, HB.out⟩
        · obtain rfl : i = M.length := by omega
          go_wp2_with fail
          refine HSK.out.mono ?_
          clear HSK
          cases hx : H[M.length]? with
          | none =>
            rintro e W9 ⟨hB9, rfl⟩
            have HD : Hid (bb = true) := HBB.out.symm.trans (decide_eq_true (by
              have h1 := List.getElem?_eq_none_iff.1 hx
              have h2 := HR1.out.1
              rwa [List.take_of_length_le h1, List.take_length] at h2))
            have HB9 := Lib.hid (HQ.out.2.2.then (HR1.out.2.2.then hB9))
            clear hB9
            go_wp2_with fail
            go_ret
            exact ⟨by rw [HD.out]; rfl, HB9.out⟩
          | some h =>
            rintro e W9 ⟨hB9, A9, c9, rfl, ho9⟩
            have HD : Hid (bb = false) := HBB.out.symm.trans (decide_eq_false (by
              rintro rfl
              simp at hx))
            have HB9 := Lib.hid (HQ.out.2.2.then (HR1.out.2.2.then hB9))
            clear hB9 ho9
            go_wp2_with fail
            go_ret
            exact ⟨by rw [HD.out]; rfl, HB9.out⟩
end Go.Proofs.YtpahkaffknnjhaaGreatDoor
end

section
namespace Go.Proofs.YtpahkaffknnjhaaGreatDoor
set_option linter.unusedSimpArgs false
set_option linter.unusedVariables false
open Go.RowKit
end Go.Proofs.YtpahkaffknnjhaaGreatDoor
end

section
namespace Go.Proofs.YtpahkaffknnjhaaGreatDoor
set_option linter.unusedSimpArgs false
set_option linter.unusedVariables false
open Go.RowKit
namespace Ev
def near (n m : Int) : Int := if 0 < if m < n then m else n then if m < n then m else n else 0
def belowN (b : Int) (v : Va) (bs : List Int) (p : Int → Bool) : Int := if v.k ≠ 1 ∨ bs = [] then b / 3 else (b * (bs.countP p : Nat)) / bs.length
end Ev
end Go.Proofs.YtpahkaffknnjhaaGreatDoor
end

section
namespace Go.Proofs.YtpahkaffknnjhaaGreatDoor
set_option linter.unusedSimpArgs false
set_option linter.unusedVariables false
open Go.RowKit
namespace Ev
def rowsN (r : Int) : Int := near r 1099511627776
def clnC (r : Int) (c : Cs) : Cs := ⟨near c.d (rowsN r), near c.n (rowsN r), c.a, c.b, c.c⟩
def sameN (b d : Int) : Int := if 0 < d then max 1 (b / d) else 0
def share (r : Int) (c : Cs) (op : List UInt8) (v : Va) : Int :=
  if r = 0 ∨ v.k = 0 then 0 else
  if op = [61] then sameN (1000 * (r - c.n) / r) c.d else
  if op = [60, 62] then max 0 (1000 * (r - c.n) / r - sameN (1000 * (r - c.n) / r) c.d) else
  if op = [60] then belowN (1000 * (r - c.n) / r) v c.b (fun b => decide (b < v.n)) else
  if op = [60, 61] then belowN (1000 * (r - c.n) / r) v c.b (fun b => decide (b ≤ v.n)) else
  if op = [62] then belowN (1000 * (r - c.n) / r) v c.b (fun b => decide (v.n < b)) else
  if op = [62, 61] then belowN (1000 * (r - c.n) / r) v c.b (fun b => decide (v.n ≤ b)) else (1000 * (r - c.n) / r) / 3
def shareN (r : Int) (c : Cs) (op : List UInt8) (v : Va) : Int := share (rowsN r) (clnC r c) op (Key.clean v)
end Ev
end Go.Proofs.YtpahkaffknnjhaaGreatDoor
end

section
namespace Go.Proofs.YtpahkaffknnjhaaGreatDoor
set_option linter.unusedSimpArgs false
set_option linter.unusedVariables false
open Go.RowKit
variable {ρ β : Type} {E : Elem ρ} {F : Elem β} {pa : ρ → Option Addr} {pl : ρ → List β} {pc : ρ → Nat} {B c : Nat} {W W' : World} {A : Option Addr} {R : List ρ}
end Go.Proofs.YtpahkaffknnjhaaGreatDoor
end

section
namespace Go.Proofs.YtpahkaffknnjhaaGreatDoor
set_option linter.unusedSimpArgs false
set_option linter.unusedVariables false
open Go.RowKit
def Cs.k (x : Cs) : Int × Int × List Int := (x.d, x.n, x.b)
namespace Ev
end Ev
end Go.Proofs.YtpahkaffknnjhaaGreatDoor
end

section
namespace Go.Proofs.YtpahkaffknnjhaaGreatDoor
set_option linter.unusedSimpArgs false
set_option linter.unusedVariables false
open Go.RowKit
namespace Ev
end Ev
end Go.Proofs.YtpahkaffknnjhaaGreatDoor
end

section
namespace Go.Proofs.YtpahkaffknnjhaaGreatDoor
set_option linter.unusedSimpArgs false
set_option linter.unusedVariables false
open Go.RowKit
namespace Ev
mutual
def hasCol : Nd → Bool
  | .mk k _ _ _ _ _ _ args _ => k == 2 || hasColL args
def hasColL : List Nd → Bool
  | [] => false
  | n :: l => hasCol n || hasColL l
end
end Ev
def RetBo (w : World) (b : Bool) (e : Ending) (w' : World) : Prop := e = .returned (.bool b) ∧ Below w.heap.size w w'
def RetIx (w : World) (b : Bool) (e : Ending) (w' : World) : Prop := ∃ k : Int, e = .returned (.int .i64 k) ∧ decide (0 ≤ k) = b ∧ Below w.heap.size w w'
end Go.Proofs.YtpahkaffknnjhaaGreatDoor
end

section
namespace Go.Proofs.YtpahkaffknnjhaaGreatDoor
set_option linter.unusedSimpArgs false
set_option linter.unusedVariables false
open Go.RowKit
namespace Ev
def turnS (op : List UInt8) : List UInt8 := if op = [60] then [62] else if op = [60, 61] then [62, 61] else if op = [62] then [60] else if op = [62, 61] then [60, 61] else op
end Ev
set_option maxRecDepth 20000 in
set_option maxHeartbeats 4000000 in
theorem turn_any (w : World) (op : List UInt8) : Calls Tryz.prog 181 #[txt op] w fun e w' => e = .returned (txt (Ev.turnS op)) ∧ w' = w := by
  have hgs := guard_str_is
  have HF : Hid (Ev.turnS op = if op = [60] then [62] else if op = [60, 61] then [62, 61] else if op = [62] then [60] else if op = [62, 61] then [60, 61] else op) := rfl
  generalize Ev.turnS op = D at HF ⊢
  go_enter Tryz.func181, Tryz.ntmps181
  by_cases h1 : op = [60]
  · have HF : Hid (D = [62]) := by show _ = _; rw [HF.out, if_pos h1]
    subst h1
    unfold txt
    go_wp2_with fail
    go_ret
    exact ⟨by rw [HF.out]; rfl, rfl⟩
  have n1 := run_str_is op [60] h1
  by_cases h2 : op = [60, 61]
  · have HF : Hid (D = [62, 61]) := by show _ = _; rw [HF.out, if_neg h1, if_pos h2]
    clear n1
    subst h2
    unfold txt
    go_wp2_with fail
    go_ret
    exact ⟨by rw [HF.out]; rfl, rfl⟩
  have n2 := run_str_is op [60, 61] h2
  by_cases h3 : op = [62]
  · have HF : Hid (D = [60]) := by show _ = _; rw [HF.out, if_neg h1, if_neg h2, if_pos h3]
    clear n1 n2
    subst h3
    unfold txt
    go_wp2_with fail
    go_ret
    exact ⟨by rw [HF.out]; rfl, rfl⟩
  have n3 := run_str_is op [62] h3
  by_cases h4 : op = [62, 61]
  · have HF : Hid (D = [60, 61]) := by show _ = _; rw [HF.out, if_neg h1, if_neg h2, if_neg h3, if_pos h4]
    clear n1 n2 n3
    subst h4
    unfold txt
    go_wp2_with fail
    go_ret
    exact ⟨by rw [HF.out]; rfl, rfl⟩
  have n4 := run_str_is op [62, 61] h4
  have HF : Hid (D = op) := by show _ = _; rw [HF.out, if_neg h1, if_neg h2, if_neg h3, if_neg h4]
  clear h1 h2 h3 h4
  go_wp2_with fail
  go_ret
  exact ⟨by rw [HF.out]; rfl, rfl⟩
end Go.Proofs.YtpahkaffknnjhaaGreatDoor
end

section
namespace Go.Proofs.YtpahkaffknnjhaaGreatDoor
set_option linter.unusedSimpArgs false
set_option linter.unusedVariables false
open Go.RowKit
theorem cell_kept {w W : World} {g b i : Nat} {v : Value} (hg : w.grownBy W (some g)) (hb : b < w.heap.size) (hne : b ≠ g) (h : w.cell? ⟨b, i, none⟩ = some v) : W.cell? ⟨b, i, none⟩ = some v :=
  (World.cell?_of_block (w := w) (hg.block b hb (fun e => hne (Option.some.inj e)))).trans h
end Go.Proofs.YtpahkaffknnjhaaGreatDoor
end

section
namespace Go.Proofs.YtpahkaffknnjhaaGreatDoor
set_option linter.unusedSimpArgs false
set_option linter.unusedVariables false
open Go.RowKit
namespace Ev
def against (n : Nd) : Option (Int × List UInt8 × Nd) :=
  if n.k = 7 then
    match n.args with
    | [a, b] => if a.k = 2 ∧ hasCol b = false then some (a.at_, n.op, b) else if b.k = 2 ∧ hasCol a = false then some (b.at_, turnS n.op, a) else none
    | _ => none
  else none
end Ev
theorem wpList_load_nd_is {w : World} {ops : Array Oper} {rest : List Oper} {o : Oper} {a : Act} {Q : Exit → Act → World → Prop} (hgd : o.guard = none) (x : Operand) (hop : o.op = .load 66 x) {b off : Nat} {L : List Nd} (hr : ERow eNd w (some ⟨b, off, none⟩) L) {j : Nat} (hj : j < L.length) (p : Nd) (hp : L[j] = p) (hx : a.eval x = .pointer (some ⟨b, off + j * 10, none⟩))
    (h : wpList Tryz.prog ops Q rest (a.put o.dst p.v) w) : wpList Tryz.prog ops Q (o :: rest) a w := by
  subst hp
  exact wpList_load_nd_at hgd x hop hr hj hx h
end Go.Proofs.YtpahkaffknnjhaaGreatDoor
end

section
namespace Go.Proofs.YtpahkaffknnjhaaGreatDoor
set_option linter.unusedSimpArgs false
set_option linter.unusedVariables false
open Go.RowKit
namespace Ev
def ofN (at_ : Int) (rows : List Int) (cols : List Cs) : Int × Cs :=
  if 0 ≤ at_ ∧ at_ < rows.length ∧ at_ < cols.length then (rowsN (rows.getD at_.toNat 0), clnC (rows.getD at_.toNat 0) (cols.getD at_.toNat Cs.nul)) else (0, Cs.nul)
end Ev
end Go.Proofs.YtpahkaffknnjhaaGreatDoor
end

section
namespace Go.Proofs.YtpahkaffknnjhaaGreatDoor
set_option linter.unusedSimpArgs false
set_option linter.unusedVariables false
open Go.RowKit
namespace Ev
def nullN (no : Bool) (x : Int × Cs) : Int := if x.1 = 0 then 0 else if no then 1000 * (x.1 - x.2.n) / x.1 else 1000 * x.2.n / x.1
def prt (n : Nd) (i : Nat) : Nd := n.args.getD i Nd.nil
def guess0 (n : Nd) (rows : List Int) (cols : List Cs) : Int :=
  if n.k = 9 ∧ n.args.length = 1 ∧ (prt n 0).k = 2 then nullN n.no (ofN (prt n 0).at_ rows cols) else
  if n.k = 7 ∧ n.op = [61] ∧ n.args.length = 2 ∧ (prt n 0).k = 2 ∧ (prt n 1).k = 2 then 1000 / max (max 1 (ofN (prt n 0).at_ rows cols).2.d) (ofN (prt n 1).at_ rows cols).2.d else 333
def guessN (n : Nd) (rows : List Int) (cols : List Cs) : Int :=
  match against n with
  | some y => shareN (ofN y.1 rows cols).1 (ofN y.1 rows cols).2 y.2.1 (eval [] y.2.2)
  | none => guess0 n rows cols
end Ev
theorem nd_below15 {w W : World} {n : Nd} (h : NodeIn w n) (hB : Below w.heap.size w W) : NodeIn W n := by
  induction h with
  | @mk n hr hin hlit hls hk hat hc hm ih => exact .mk (hr.below hB) ih hlit hls hk hat hc hm
end Go.Proofs.YtpahkaffknnjhaaGreatDoor
end

section
namespace Go.Proofs.YtpahkaffknnjhaaGreatDoor
set_option linter.unusedSimpArgs false
set_option linter.unusedVariables false
namespace Pn
def maxC : Int := 4503599627370496
def fit (n : Int) : Int := max 0 (min n maxC)
def add2 (a b : Int) : Int := fit (fit a + fit b)
def mul (a b : Int) : Int := if 0 < fit a ∧ maxC / fit a < fit b then maxC else fit a * fit b
def part (n t : Int) : Int := fit n / 1000 * max 0 (min t 1000) + fit n % 1000 * max 0 (min t 1000) / 1000
def bitsF : Nat → Nat → Nat
  | 0, _ => 0
  | k + 1, n => if n = 0 then 0 else bitsF k (n / 2) + 1
def bits (n : Int) : Int := bitsF 64 (fit n).toNat
def pages (rows cols : Int) : Int := add2 1 (mul rows (4 + 8 * max 0 (min cols 24)) / 400)
def seq (rows cols : Int) : Int := add2 (mul 10 (pages rows cols)) rows
def range (rows : Int) : Int := add2 30 (mul rows 11)
def loop (left rows right : Int) : Int := add2 left (mul (max 1 rows) right)
def lookup (left rows each : Int) : Int := loop left rows (range each)
def sort (left rows : Int) : Int := add2 left (mul rows (bits rows))
end Pn
end Go.Proofs.YtpahkaffknnjhaaGreatDoor
end

section
namespace Go.Proofs.YtpahkaffknnjhaaGreatDoor
set_option linter.unusedSimpArgs false
set_option linter.unusedVariables false
open Go.RowKit
namespace Pn
def one (m : Nat) : Option Nat := if m = 1 then some 0 else if m = 2 then some 1 else if m = 4 then some 2 else if m = 8 then some 3 else none
def ones (m : Nat) : Nat := m % 2 + m / 2 % 2 + m / 4 % 2 + m / 8 % 2
def zeros (m : Nat) : Nat := if m % 2 = 1 then 0 else if m / 2 % 2 = 1 then 1 else if m / 4 % 2 = 1 then 2 else if m / 8 % 2 = 1 then 3 else 8
end Pn
theorem has8 : ∀ m < 16, ∀ f < 8, (bits BinOp.and IntKind.u8 ((m : Nat) / 2 ^ f) 1 == 1) = m.testBit f := by decide
theorem or8 : ∀ a < 16, ∀ b < 16, bits BinOp.or IntKind.u8 (a : Nat) (b : Nat) = ((a ||| b : Nat) : Int) := by decide
theorem andNot8 : ∀ a < 16, ∀ b < 16, (bits BinOp.andNot IntKind.u8 (a : Nat) (b : Nat) == 0) = ((a &&& b) == a) := by decide
theorem or16 : ∀ a < 16, ∀ b < 16, (a ||| b) < 16 := by decide
set_option maxRecDepth 20000 in
theorem mhas_any (w : World) (m f : Nat) (hm : m < 16) (hf : f < 8) : Calls Tryz.prog 139 #[.int .u8 m, .int .i64 f] w fun e w' => e = .returned (.bool (m.testBit f)) ∧ w = w' := by
  have h8 := has8 m hm f hf
  go_enter Tryz.func139, Tryz.ntmps139
  go_wp2_with fail
  go_ret
  exact ⟨by rw [← h8]; rfl, rfl⟩
end Go.Proofs.YtpahkaffknnjhaaGreatDoor
end

section
namespace Go.Proofs.YtpahkaffknnjhaaGreatDoor
set_option linter.unusedSimpArgs false
set_option linter.unusedVariables false
namespace Pn
abbrev Mm := List (Option (List (Nat × Nat)))
def mget (m : Mm) (k : Nat) : Option (List (Nat × Nat)) := m.getD k none
def mset (m : Mm) (k : Nat) (l : List (Nat × Nat)) : Mm := m.set k (some l)
def mjs (m : Mm) (k : Nat) : List (Nat × Nat) := (mget m k).getD []
def madd (m : Mm) (a b : Nat) : Mm × Bool :=
  if (mjs m (a ||| b)).contains (a, b) then (m, false) else (mset m (a ||| b) (mjs m (a ||| b) ++ [(a, b)]), true)
def massF (b : Nat) : List (Nat × Nat) → Mm × Bool → Mm × Bool
  | [], r => r
  | k :: l, r => massF b l (let r1 := madd r.1 k.2 b; let r2 := madd r1.1 k.1 (k.2 ||| b); (r2.1, r2.2 || (r1.2 || r.2)))
def mass (m : Mm) (j : Nat × Nat) : Mm × Bool := massF j.2 (mjs m j.1) (m, false)
def mjF : List (Nat × Nat) → Mm × Bool → Mm × Bool
  | [], r => r
  | j :: l, r => mjF l (let r1 := madd r.1 j.2 j.1; let r2 := mass r1.1 j; (r2.1, r2.2 || (r1.2 || r.2)))
def msF : Nat → Nat → Mm × Bool → Mm × Bool
  | _, 0, r => r
  | s, k + 1, r => msF (s + 1) k (match mget r.1 s with
    | some l => mjF l r
    | none => r)
def mAll (all : Nat) : Nat → Mm → Mm × Bool
  | 0, m => (m, false)
  | n + 1, m => let r := msF 1 all (m, false); if r.2 then mAll all n r.1 else (r.1, true)
def mBegin (n : Nat) : Nat → Nat → Mm × Nat → Mm × Nat
  | _, 0, r => r
  | f, k + 1, r => mBegin n (f + 1) k ((madd (mset r.1 (2 ^ f) []) r.2 (2 ^ f)).1, r.2 ||| 2 ^ f)
def m0 : Mm := mset (List.replicate 16 none) 1 []
def mEnd (n : Nat) : Mm × Bool := mAll (2 ^ n - 1) 9 (mBegin n 1 (n - 1) (m0, 1)).1
def J (n : Nat) (s : Nat) : List (Nat × Nat) := mjs (mEnd n).1 s
end Pn
end Go.Proofs.YtpahkaffknnjhaaGreatDoor
end

section
namespace Go.Proofs.YtpahkaffknnjhaaGreatDoor
set_option linter.unusedSimpArgs false
set_option linter.unusedVariables false
inductive Pl where
  | mk (op fr ix : Int) (eq : List Int) (low high cost rows : Int) (kids : List Pl)
namespace Pl
def op : Pl → Int | .mk op _ _ _ _ _ _ _ _ => op
def fr : Pl → Int | .mk _ fr _ _ _ _ _ _ _ => fr
def ix : Pl → Int | .mk _ _ ix _ _ _ _ _ _ => ix
def eq : Pl → List Int | .mk _ _ _ eq _ _ _ _ _ => eq
def low : Pl → Int | .mk _ _ _ _ low _ _ _ _ => low
def high : Pl → Int | .mk _ _ _ _ _ high _ _ _ => high
def cost : Pl → Int | .mk _ _ _ _ _ _ cost _ _ => cost
def rows : Pl → Int | .mk _ _ _ _ _ _ _ rows _ => rows
def kids : Pl → List Pl | .mk _ _ _ _ _ _ _ _ kids => kids
def nil : Pl := .mk 0 0 0 [] 0 0 0 0 []
instance : Inhabited Pl := ⟨nil⟩
end Pl
namespace Pn
open Ev
structure PX where
  T : List Int
  B : List Int
  W : Int
  wh : List Nd
  gr : Bool
  ord : List So
  defs : List Df
  rows : List Int
  cols : List Cs
def b (x : PX) (f : Nat) : Int := x.B.getD f 0
def endN (x : PX) (f : Nat) : Int := if f + 1 < x.B.length then b x (f + 1) else x.W
def mayF (x : PX) (i : Nat) : Nat → Bool
  | 0 => true
  | k + 1 => decide (b x i < endN x i) && mayF x (i + 1) k
def may0 (x : PX) : Bool := decide (1 ≤ x.T.length) && decide (x.T.length ≤ 4) && decide (x.B.length = x.T.length) && decide (b x 0 = 0) && decide (x.W ≤ (x.T.length : Int) * 6)
def may (x : PX) : Bool := may0 x && mayF x 0 x.T.length
def ofF (x : PX) (at_ : Int) (i : Nat) : Nat → Int
  | 0 => -1
  | k + 1 => if b x i ≤ at_ ∧ at_ < endN x i then (i : Int) else ofF x at_ (i + 1) k
def ofT (x : PX) (at_ : Int) : Int := ofF x at_ 0 x.B.length
def orP (y z : Nat × Bool) : Nat × Bool := (y.1 ||| z.1, y.2 || z.2)
def asksK (x : PX) (k at_ : Int) (l : List (Nat × Bool)) : Nat × Bool :=
  if k = 2 then (if ofT x at_ < 0 then (0, true) else l.foldl orP (2 ^ (ofT x at_).toNat, false)) else l.foldl orP (0, false)
mutual
def asks (x : PX) : Nd → Nat × Bool
  | .mk k _ _ at_ _ _ _ args _ => asksK x k at_ (asksL x args)
def asksL (x : PX) : List Nd → List (Nat × Bool)
  | [] => []
  | n :: l => asks x n :: asksL x l
end
theorem asks_eq (x : PX) (n : Nd) : asks x n = asksK x n.k n.at_ (asksL x n.args) := by cases n; rfl
def sub (m g : Nat) : Bool := (m &&& g) == m
def agHit (x : PX) (y z : Nd) (op : List UInt8) (at_ : Int) (given : Nat) (ops : List (List UInt8)) : Bool :=
  y.k == 2 && y.at_ == at_ && !(asks x z).2 && sub (asks x z).1 given && ops.contains op
def agst (x : PX) (n : Nd) (at_ : Int) (given : Nat) (ops : List (List UInt8)) : Bool :=
  n.k == 7 && match n.args with
    | [y, z] => agHit x y z n.op at_ given ops || agHit x z y (turnS n.op) at_ given ops
    | _ => false
def fitsD (x : PX) (f : Nat) (d : Df) : Bool := d.t == x.T.getD f 0 && !d.cols.isEmpty && d.cols.all fun c => decide (0 ≤ c ∧ c < endN x f - b x f)
def fits (x : PX) (f ix : Int) : Bool := decide (0 ≤ ix ∧ ix < (x.defs.length : Int) ∧ 0 ≤ f ∧ f < (x.T.length : Int)) && fitsD x f.toNat (x.defs.getD ix.toNat ⟨0, none, [], 0, false⟩)
def idxF (x : PX) (at_ : Int) (given : Nat) (ops : List (List UInt8)) (i : Nat) : List Nd → Int
  | [] => -1
  | n :: l => if agst x n at_ given ops then (i : Int) else idxF x at_ given ops (i + 1) l
def idx (x : PX) (at_ : Int) (given : Nat) (ops : List (List UInt8)) : Int := idxF x at_ given ops 0 x.wh
def eqF (x : PX) (f given : Nat) : List Int → List Int → List Int
  | [], out => out
  | c :: l, out => if idx x (b x f + c) given [[61]] < 0 then out else eqF x f given l (out ++ [idx x (b x f + c) given [[61]]])
def eqN (x : PX) (f : Nat) (d : Df) (given : Nat) : List Int := eqF x f given d.cols []
def bound (x : PX) (f : Nat) (d : Df) (next : Nat) (ops : List (List UInt8)) : Int := if next < d.cols.length then idx x (b x f + d.cols.getD next 0) 0 ops else -1
def rowsAt (x : PX) (f : Nat) : Int := x.rows.getD (b x f).toNat 0
def guess (x : PX) (i : Int) : Int := guessN (x.wh.getD i.toNat Nd.nil) x.rows x.cols
def foundF (x : PX) (n i : Int) : Int := if 0 ≤ i then part n (guess x i) else n
def found (x : PX) (f : Nat) (l : List Int) : Int := max 1 (l.foldl (foundF x) (fit (rowsAt x f)))
def sizeF (x : PX) (m : Nat) (n : Int) (f : Nat) : Int := if m.testBit f then mul n (rowsAt x f) else n
def sizeG (x : PX) (m : Nat) (n : Int) (y : Nd) : Int := if (asks x y).1 ≠ 0 ∧ sub (asks x y).1 m = true then part n (guessN y x.rows x.cols) else n
def size (x : PX) (m : Nat) : Int := max 1 (x.wh.foldl (sizeG x m) ((List.range x.B.length).foldl (sizeF x m) 1))
def opGt : List (List UInt8) := [[62], [62, 61]]
def opLt : List (List UInt8) := [[60], [60, 61]]
def mkSeq (x : PX) (f : Nat) (n : Int) : Pl := .mk 1 f (-1) [] (-1) (-1) (seq (rowsAt x f) (endN x f - b x f)) n []
def mkRange (x : PX) (f : Nat) (n : Int) (i : Nat) (d : Df) : Pl :=
  .mk 2 f i (eqN x f d 0) (bound x f d (eqN x f d 0).length opGt) (bound x f d (eqN x f d 0).length opLt)
    (range (found x f (eqN x f d 0 ++ [bound x f d (eqN x f d 0).length opGt, bound x f d (eqN x f d 0).length opLt]))) n []
def accF (x : PX) (f : Nat) (n : Int) : Nat → List Df → List Pl → List Pl
  | _, [], out => out
  | i, d :: l, out => accF x f n (i + 1) l (if fits x f i then out ++ [mkRange x f n i d] else out)
def access (x : PX) (f : Nat) (n : Int) : List Pl := accF x f n 0 x.defs [mkSeq x f n]
def lessP (a b : Pl) : Pl := if b.cost < a.cost then b else a
def lessO : Option Pl → Pl → Pl
  | none, b => b
  | some a, b => lessP a b
def mkLookup (x : PX) (j1 f i : Nat) (d : Df) (l : Pl) (n : Int) : Pl :=
  .mk 4 f i (eqN x f d j1) (-1) (-1) (lookup l.cost (size x j1) (found x f (eqN x f d j1))) n [l]
def joinF (x : PX) (j : Nat × Nat) (l : Pl) (n : Int) : Nat → List Df → Pl → Pl
  | _, [], out => out
  | i, d :: r, out => joinF x j l n (i + 1) r (match one j.2 with
    | some f => if fits x f i && !(eqN x f d j.1).isEmpty then lessP out (mkLookup x j.1 f i d l n) else out
    | none => out)
def mkLoop (x : PX) (j : Nat × Nat) (l r : Pl) (n : Int) : Pl := .mk 3 (-1) (-1) [] (-1) (-1) (loop l.cost (size x j.1) r.cost) n [l, r]
def join (x : PX) (j : Nat × Nat) (l r : Pl) (n : Int) : Pl := joinF x j l n 0 x.defs (mkLoop x j l r n)
def mkSort (p : Pl) (n : Int) : Pl := .mk 5 (-1) (-1) [] (-1) (-1) (sort p.cost n) n [p]
def orders (x : PX) : Bool := !x.gr && !x.ord.isEmpty
def sortsF (x : PX) : List So → Nat → Option Nat
  | [], m => some m
  | s :: l, m => if ofT x s.at_ < 0 then none else sortsF x l (m ||| 2 ^ (ofT x s.at_).toNat)
def sorts (x : PX) : Nat × Bool := match sortsF x x.ord 0 with
  | some m => (m, orders x)
  | none => (0, false)
def givF (x : PX) (f : Int) (cols : List Int) (k : Nat) : List So → Nat → Bool
  | [], _ => true
  | s :: l, next =>
    if s.desc = true ∨ ofT x s.at_ ≠ f then false
    else if (cols.take k).contains (s.at_ - b x f.toNat) then givF x f cols k l next
    else if next < cols.length ∧ cols.getD next 0 = s.at_ - b x f.toNat then givF x f cols k l (next + 1) else false
def gives (x : PX) : Pl → Bool
  | .mk op fr ix eq _ _ _ _ kids =>
    if op = 5 then true
    else if op = 3 ∨ op = 4 then match kids with
      | k :: _ => gives x k
      | [] => false
    else if op = 1 then x.ord.isEmpty
    else givF x fr (x.defs.getD ix.toNat ⟨0, none, [], 0, false⟩).cols eq.length x.ord eq.length
structure Bo where
  best : Option Pl
  ord : Option Pl
def accStep (x : PX) (s by_ : Nat) (must : Bool) (g : Bo) (p : Pl) : Bo :=
  ⟨some (lessO g.best p), if must = true ∧ by_ = s ∧ gives x p = true then some (lessO g.ord p) else g.ord⟩
def joinStep (x : PX) (M : Nat → Bo) (n : Int) (g : Bo) (j : Nat × Nat) : Bo :=
  ⟨some (lessO g.best (join x j ((M j.1).best.getD Pl.nil) ((M j.2).best.getD Pl.nil) n)),
    match (M j.1).ord with
    | some l => some (lessO g.ord (join x j l ((M j.2).best.getD Pl.nil) n))
    | none => g.ord⟩
def optA (x : PX) (s : Nat) (g : Bo) : Bo := match one s with
  | some f => (access x f (size x s)).foldl (accStep x s (sorts x).1 (sorts x).2) g
  | none => g
def optS (x : PX) (s : Nat) (g : Bo) : Bo := if (sorts x).2 = true ∧ sub (sorts x).1 s = true then ⟨g.best, some (lessO g.ord (mkSort (g.best.getD Pl.nil) (size x s)))⟩ else g
def opt (x : PX) (J : Nat → List (Nat × Nat)) (M : Nat → Bo) (s : Nat) : Bo := optS x s ((J s).foldl (joinStep x M (size x s)) (optA x s (M s)))
def setM (M : Nat → Bo) (s : Nat) (g : Bo) : Nat → Bo := fun i => if i = s then g else M i
def optAll (x : PX) (J : Nat → List (Nat × Nat)) : Nat → Nat → (Nat → Bo) → (Nat → Bo)
  | _, 0, M => M
  | s, k + 1, M => optAll x J (s + 1) k (setM M s (opt x J M s))
def choose (x : PX) : Pl :=
  let M := optAll x (J x.T.length) 1 (2 ^ x.T.length - 1) (fun _ => ⟨none, none⟩)
  let g := M (2 ^ x.T.length - 1)
  match g.ord with
  | some p => p
  | none => g.best.getD Pl.nil
end Pn
end Go.Proofs.YtpahkaffknnjhaaGreatDoor
end

section
namespace Go.Proofs.YtpahkaffknnjhaaGreatDoor
set_option linter.unusedSimpArgs false
set_option linter.unusedVariables false
open Go.RowKit
def RetI (w : World) (k : Int) (e : Ending) (w' : World) : Prop := e = .returned (.int .i64 k) ∧ Below w.heap.size w w'
end Go.Proofs.YtpahkaffknnjhaaGreatDoor
end

section
namespace Go.Proofs.YtpahkaffknnjhaaGreatDoor
set_option linter.unusedSimpArgs false
set_option linter.unusedVariables false
open Go.RowKit
structure Qp where
  x : Pn.PX
  ta : Option Addr
  tc : Nat
  ba : Option Addr
  bc : Nat
  wa : Option Addr
  wc : Nat
  ga : Option Addr
  group : List Int
  gc : Nat
  ia : Option Addr
  items : List Nd
  ic : Nat
  oa : Option Addr
  oc : Nat
  lim : Int
def Qp.cells (p : Qp) : List Value := [.slice p.ta p.x.T.length p.tc, .slice p.ba p.x.B.length p.bc, .int .i64 p.x.W, .slice p.wa p.x.wh.length p.wc, .slice p.ga p.group.length p.gc, .bool p.x.gr, .slice p.ia p.items.length p.ic, .slice p.oa p.x.ord.length p.oc, .int .i64 p.lim]
def Qp.v (p : Qp) : Value := .agg p.cells.toArray
structure QpIn (w : World) (p : Qp) : Prop where
  t : ERow eInt w p.ta p.x.T
  tin : ∀ n ∈ p.x.T, Ev.inB n
  tl : p.x.T.length ≤ 1000000
  b : ERow eInt w p.ba p.x.B
  bin : ∀ n ∈ p.x.B, Ev.inB n
  bl : p.x.B.length ≤ 1000000
  win : Ev.inB p.x.W
  wn : ERow eNd w p.wa p.x.wh
  nin : ∀ n ∈ p.x.wh, NodeIn w n
  wl : p.x.wh.length ≤ 1000000
  o : ERow eSo w p.oa p.x.ord
  oin : ∀ s ∈ p.x.ord, Ev.inB s.at_
  ol : p.x.ord.length ≤ 1000000
theorem QpIn.below {w W : World} {p : Qp} (h : QpIn w p) (hB : Below w.heap.size w W) : QpIn W p :=
  ⟨h.t.below hB, h.tin, h.tl, h.b.below hB, h.bin, h.bl, h.win, h.wn.below hB, fun n hn => nd_below15 (h.nin n hn) hB, h.wl, h.o.below hB, h.oin, h.ol⟩
theorem Blk.qp {w : World} {g : Nat} {t : TypeId} {p : Qp} (h : Blk w g t p.cells) :
    w.cell? ⟨g, 0, none⟩ = some (.slice p.ta p.x.T.length p.tc) ∧ w.cell? ⟨g, 1, none⟩ = some (.slice p.ba p.x.B.length p.bc) ∧ w.cell? ⟨g, 2, none⟩ = some (.int .i64 p.x.W) ∧
    w.cell? ⟨g, 3, none⟩ = some (.slice p.wa p.x.wh.length p.wc) ∧ w.cell? ⟨g, 5, none⟩ = some (.bool p.x.gr) ∧ w.cell? ⟨g, 7, none⟩ = some (.slice p.oa p.x.ord.length p.oc) :=
  ⟨h.cell 0, h.cell 1, h.cell 2, h.cell 3, h.cell 5, h.cell 7⟩
theorem qp_info : (Tryz.prog.info? 26).map (·.size) = some 9 := by kernel_rfl
section
variable {w : World} {ops : Array Oper} {rest : List Oper} {o : Oper} {a : Act} {Q : Exit → Act → World → Prop}
theorem wpList_box_qp (hgd : o.guard = none) (x : Operand) (hop : o.op = .box 26 x) (b : Qp) (hx : a.eval x = b.v)
    (h : ∀ W, Blk W w.heap.size 26 b.cells → w.heap.size + 1 ≤ W.heap.size → Below w.heap.size w W → wpList Tryz.prog ops Q rest (a.put o.dst (.pointer (some ⟨w.heap.size, 0, none⟩))) W) : wpList Tryz.prog ops Q (o :: rest) a w :=
  wpList_plain hgd fun _ hK => by
    unfold Oper.wp execOp
    have e : (Instr.box 26 b.v).run Tryz.prog w = .ok (.pointer (some ⟨w.heap.size, 0, none⟩)) (w.alloc (.cells b.cells.toArray 26)) := by
      simp [Instr.box, Sem.run_bind, newVar, newRow]
      rfl
    simp only [hop, hx, Sem.run_bind, e, Result.andThen_ok, Sem.run_pure]
    obtain ⟨h1, h2, h3⟩ := fresh1 (w := w) (a := b.cells) (t := 26) rfl
    exact hK _ _ (h _ h1 h2 h3)
theorem wpList_load_qp (hgd : o.guard = none) (x : Operand) (hop : o.op = .load 26 x) (g : Nat) (hx : a.eval x = .pointer (some ⟨g, 0, none⟩)) {T0 : TypeId} {b : Qp} {r : List Value} (hb : Blk w g T0 (b.cells ++ r))
    (h : wpList Tryz.prog ops Q rest (a.put o.dst b.v) w) : wpList Tryz.prog ops Q (o :: rest) a w :=
  wpList_load_mid hgd 26 x hop g 0 hx b.cells _ (hb.range 0 b.cells fun j hj => by rw [Nat.zero_add, List.getElem?_append_left hj]) Tryz.underlying26 rfl qp_info h
theorem wpList_load_qp0 (hgd : o.guard = none) (x : Operand) (hop : o.op = .load 26 x) (g : Nat) (hx : a.eval x = .pointer (some ⟨g, 0, none⟩)) {T0 : TypeId} {b : Qp} (hb : Blk w g T0 b.cells)
    (h : wpList Tryz.prog ops Q rest (a.put o.dst b.v) w) : wpList Tryz.prog ops Q (o :: rest) a w :=
  wpList_load_qp hgd x hop g hx (r := []) (by rw [List.append_nil]; exact hb) h
end
theorem Blk.qp9 {w : World} {g : Nat} {t : TypeId} {p : Qp} {r : List Value} (h : Blk w g t (p.cells ++ r)) :
    w.cell? ⟨g, 0, none⟩ = some (.slice p.ta p.x.T.length p.tc) ∧ w.cell? ⟨g, 1, none⟩ = some (.slice p.ba p.x.B.length p.bc) ∧ w.cell? ⟨g, 2, none⟩ = some (.int .i64 p.x.W) ∧
    w.cell? ⟨g, 3, none⟩ = some (.slice p.wa p.x.wh.length p.wc) ∧ w.cell? ⟨g, 4, none⟩ = some (.slice p.ga p.group.length p.gc) ∧ w.cell? ⟨g, 5, none⟩ = some (.bool p.x.gr) ∧ w.cell? ⟨g, 6, none⟩ = some (.slice p.ia p.items.length p.ic) ∧ w.cell? ⟨g, 7, none⟩ = some (.slice p.oa p.x.ord.length p.oc) ∧ w.cell? ⟨g, 8, none⟩ = some (.int .i64 p.lim) :=
  ⟨h.cell 0, h.cell 1, h.cell 2, h.cell 3, h.cell 4, h.cell 5, h.cell 6, h.cell 7, h.cell 8⟩
theorem Blk.qp90 {w : World} {g : Nat} {t : TypeId} {p : Qp} (h : Blk w g t p.cells) : Blk w g t (p.cells ++ []) := by rw [List.append_nil]; exact h
namespace Pn
theorem b_get {x : PX} {f : Nat} (h : f < x.B.length) : x.B[f] = b x f := by unfold b; simp [List.getD, h]
end Pn
set_option maxRecDepth 20000 in
theorem plend_any (w : World) (p : Qp) (hp : QpIn w p) (f : Nat) (hf : f ≤ 1000000) : Calls Tryz.prog 138 #[p.v, .int .i64 f] w (RetI w (Pn.endN p.x f)) := by
  have HP := Lib.hid hp
  have hbl := hp.bl
  clear hp
  go_enter Tryz.func138, Tryz.ntmps138
  go_upto_region 1 with (refine wpList_box_qp rfl (.tmp 0) rfl p rfl ?_; intro W1 hb1 hz1 hB1)
  have HB1 := Lib.hid hB1
  obtain ⟨-, c1, c2, -, -, -⟩ := Blk.qp hb1
  clear hB1 hb1 hz1
  generalize w.heap.size = g at c1 c2 ⊢
  by_cases h : f + 1 < p.x.B.length
  · have hi : (f : Int) + 1 < (p.x.B.length : Int) := by omega
    have HF : Hid (Pn.endN p.x f = p.x.B[f + 1]) := by show _ = _; unfold Pn.endN; rw [if_pos h, Pn.b_get h]
    obtain ⟨bb, oo, ha, -, hc⟩ := int_at (HP.out.b.below HB1.out) h
    rw [ha] at c1
    clear ha
    have hc' : W1.cell? ⟨bb, oo + ((f : Int) + 1).toNat, none⟩ = some (.int .i64 p.x.B[f + 1]) := by rw [show ((f : Int) + 1).toNat = f + 1 by omega]; exact hc
    go_wp2_with fail
    go_ret
    exact ⟨by rw [HF.out]; rfl, HB1.out⟩
  · have hi : ¬ (f : Int) + 1 < (p.x.B.length : Int) := by omega
    have HF : Hid (Pn.endN p.x f = p.x.W) := by show _ = _; unfold Pn.endN; rw [if_neg h]
    go_wp2_with fail
    go_ret
    exact ⟨by rw [HF.out]; rfl, HB1.out⟩
namespace Pn
theorem ofF_drop (x : PX) (at_ : Int) (i k : Nat) : ofF x at_ i (k + 1) = if b x i ≤ at_ ∧ at_ < endN x i then (i : Int) else ofF x at_ (i + 1) k := rfl
theorem ofF_le (x : PX) (at_ : Int) : ∀ k i, -1 ≤ ofF x at_ i k ∧ ofF x at_ i k < (i + k : Nat)
  | 0, i => by show -1 ≤ (-1 : Int) ∧ (-1 : Int) < _; omega
  | k + 1, i => by
    rw [ofF_drop]
    split
    · omega
    · have := ofF_le x at_ k (i + 1)
      omega
theorem ofT_le (x : PX) (at_ : Int) : -1 ≤ ofT x at_ ∧ ofT x at_ < (x.B.length : Int) := by
  have := ofF_le x at_ x.B.length 0
  unfold ofT
  omega
end Pn
set_option maxRecDepth 20000 in
set_option maxHeartbeats 1000000 in
theorem plof_any (w : World) (p : Qp) (hp : QpIn w p) (at_ : Int) : Calls Tryz.prog 141 #[p.v, .int .i64 at_] w (RetI w (Pn.ofT p.x at_)) := by
  have HP := Lib.hid hp
  have hbl := hp.bl
  obtain ⟨D, hD⟩ : ∃ D, Pn.ofT p.x at_ = D := ⟨_, rfl⟩
  have HD : Hid (Pn.ofF p.x at_ 0 p.x.B.length = D) := hD
  rw [hD]
  clear hp hD
  go_enter Tryz.func141, Tryz.ntmps141
  go_upto_region 1 with (refine wpList_box_qp rfl (.tmp 0) rfl p rfl ?_; intro W1 hb1 hz1 hB1)
  have HB1 := Lib.hid hB1
  have HH := Lib.hid hb1
  obtain ⟨-, c1, -⟩ := Blk.qp hb1
  obtain ⟨g2, hg2⟩ : ∃ g, w.heap.size = g := ⟨_, rfl⟩
  rw [hg2] at c1 HH
  rw [hg2]
  clear hB1 hz1 hb1 hg2
  go_wp2_with fail
  clear c1
  go_loopw [10] (fun iv wr => ∃ i : Nat, i ≤ p.x.B.length ∧ iv = .int .i64 (i : Int) ∧ Hid (Pn.ofF p.x at_ i (p.x.B.length - i) = D ∧ Below W1.heap.size W1 wr)) (fun iv _ => p.x.B.length - (intOf iv).toNat)
  case atStart => exact ⟨0, Nat.zero_le _, by go_num, HD.out, Below.refl _ _⟩
  case round =>
    obtain ⟨i, hi, rfl, HJ⟩ := hrel
    have HE := Lib.hid HJ.out.1
    have HBW := Lib.hid HJ.out.2
    clear HJ
    by_cases hlt : i < p.x.B.length
    · have hii : (i : Int) < (p.x.B.length : Int) := by omega
      have HPW := Lib.hid (HP.out.below (HB1.out.then HBW.out))
      obtain ⟨bb, oo, ha, -, hc⟩ := int_at HPW.out.b hlt
      have HX : Hid (D = if p.x.B[i] ≤ at_ ∧ at_ < Pn.endN p.x i then (i : Int) else Pn.ofF p.x at_ (i + 1) (p.x.B.length - (i + 1))) := by
        show _ = _
        rw [← HE.out, show p.x.B.length - i = p.x.B.length - (i + 1) + 1 by omega, Pn.ofF_drop, Pn.b_get hlt]
      have h2 := HH.out.below HBW.out
      rw [ha]
      clear ha
      generalize p.x.B[i] = bi at hc HX
      by_cases h1 : bi ≤ at_
      · obtain ⟨e0, e1, e2, e3, e4, e5, e6, e7, e8⟩ := Blk.qp9 (Blk.qp90 h2)
        clear h2
        go_wp2_with fail
        refine (show Calls _ _ #[p.v, _] _ _ from plend_any wr p HPW.out i (by omega)).mono ?_
        rintro e W3 ⟨rfl, hB3⟩
        have HB3 := Lib.hid (HBW.out.then hB3)
        clear hB3 hc e0 e1 e2 e3 e4 e5 e6 e7 e8
        by_cases h2 : at_ < Pn.endN p.x i
        · have HF : Hid (D = (i : Int)) := by show _ = _; rw [HX.out, if_pos ⟨h1, h2⟩]
          go_wp2_with fail
          go_ret
          exact ⟨by rw [HF.out]; rfl, HB1.out.then HB3.out⟩
        · have HF : Hid (Pn.ofF p.x at_ (i + 1) (p.x.B.length - (i + 1)) = D) := by show _ = _; rw [HX.out, if_neg (fun h => h2 h.2)]
          go_wp2_with fail
          go_roundw
          case rel => exact ⟨i + 1, by omega, by go_num, HF.out, HB3.out⟩
          case measure => simp [intOf]; omega
      · have HF : Hid (Pn.ofF p.x at_ (i + 1) (p.x.B.length - (i + 1)) = D) := by show _ = _; rw [HX.out, if_neg (fun h => h1 h.1)]
        clear h2
        go_wp2_with fail
        go_roundw
        case rel => exact ⟨i + 1, by omega, by go_num, HF.out, HBW.out⟩
        case measure => simp [intOf]; omega
    · have hii : ¬ (i : Int) < (p.x.B.length : Int) := by omega
      have HF : Hid (D = -1) := by show _ = _; rw [← HE.out, show p.x.B.length - i = 0 by omega]; rfl
      go_wp2_with fail
      go_ret
      exact ⟨by rw [HF.out]; rfl, HB1.out.then HBW.out⟩
end Go.Proofs.YtpahkaffknnjhaaGreatDoor
end

section
namespace Go.Proofs.YtpahkaffknnjhaaGreatDoor
set_option linter.unusedSimpArgs false
set_option linter.unusedVariables false
open Go.RowKit
namespace Pn
theorem foldl_orP_lt : ∀ (l : List (Nat × Bool)) (y : Nat × Bool), y.1 < 16 → (∀ z ∈ l, z.1 < 16) → (l.foldl orP y).1 < 16
  | [], _, h, _ => h
  | z :: l, y, h, hl => foldl_orP_lt l (orP y z) (or16 _ h _ (hl z List.mem_cons_self)) (fun u hu => hl u (List.mem_cons_of_mem _ hu))
theorem pow_lt16 {f : Int} (h0 : 0 ≤ f) (h : f < 4) : 2 ^ f.toNat < 16 := by
  have : f = 0 ∨ f = 1 ∨ f = 2 ∨ f = 3 := by omega
  rcases this with rfl | rfl | rfl | rfl <;> decide
theorem asksK_lt {x : PX} (hB : x.B.length ≤ 4) {k at_ : Int} {l : List (Nat × Bool)} (hl : ∀ z ∈ l, z.1 < 16) : (asksK x k at_ l).1 < 16 := by
  unfold asksK
  split
  · split
    · show 0 < 16; decide
    · have := ofT_le x at_
      exact foldl_orP_lt _ _ (pow_lt16 (by omega) (by omega)) hl
  · exact foldl_orP_lt _ _ (by show 0 < 16; decide) hl
mutual
theorem asks_lt {x : PX} (hB : x.B.length ≤ 4) : ∀ n : Nd, (asks x n).1 < 16
  | .mk _ _ _ _ _ _ _ args _ => asksK_lt hB (asksL_lt hB args)
theorem asksL_lt {x : PX} (hB : x.B.length ≤ 4) : ∀ l : List Nd, ∀ y ∈ asksL x l, y.1 < 16
  | [], y, h => by cases h
  | n :: l, y, h => by
    rcases List.mem_cons.1 h with h | h
    · rw [h]; exact asks_lt hB n
    · exact asksL_lt hB l y h
end
theorem asks_drop (x : PX) (L : List Nd) (i : Nat) (h : i < L.length) (y : Nat × Bool) : (asksL x (L.drop i)).foldl orP y = (asksL x (L.drop (i + 1))).foldl orP (orP y (asks x L[i])) := by
  rw [List.drop_eq_getElem_cons h]; rfl
end Pn
def RetAsk (w : World) (y : Nat × Bool) (e : Ending) (w' : World) : Prop := e = .returned (.tuple #[.int .u8 y.1, .bool y.2]) ∧ Below w.heap.size w w'
def AsksTo (w : World) (p : Qp) (n : Nd) : Prop := ∀ W, Below w.heap.size w W → Calls Tryz.prog 182 #[p.v, n.v] W (RetAsk W (Pn.asks p.x n))
set_option maxRecDepth 20000 in
set_option maxHeartbeats 4000000 in
theorem plasks_any (w : World) (p : Qp) (hp : QpIn w p) (hB4 : p.x.B.length ≤ 4) (n : Nd) (hn : NodeIn w n) : AsksTo w p n := by
  induction hn with
  | @mk n hr hin hlit hls hk hat hc hm ih =>
  have HR := Lib.hid hr
  have HI := Lib.hid ih
  have HP := Lib.hid hp
  have hcm : n.args.length ≤ 9223372036854775807 := by unfold maxLen at hm; omega
  clear hp hr hin hlit hls hk hat hc hm ih
  intro W hB
  have HBO := Lib.hid hB
  clear hB
  obtain ⟨D, hD⟩ : ∃ D, Pn.asks p.x n = D := ⟨_, rfl⟩
  have HD : Hid (Pn.asksK p.x n.k n.at_ (Pn.asksL p.x n.args) = D) := by show _ = _; rw [← hD, Pn.asks_eq]
  rw [hD]
  clear hD
  go_enter Tryz.func182, Tryz.ntmps182
  go_upto_region 2 with (first | (refine wpList_box_qp rfl (.tmp 0) rfl p rfl ?_; intro W1 hb1 hz1 hB1) | (refine wpList_box_nd rfl (.tmp 1) rfl n rfl ?_; intro W2 hb2 hz2 hB2))
  have hb12 := hb1.below hB2
  have HB2 := Lib.hid (hB1.then hB2)
  clear hb1 hB1 hB2 hz2 hz1
  obtain ⟨g2, hg2⟩ : ∃ g, W.heap.size = g := ⟨_, rfl⟩
  have HQ : Hid (Blk W2 g2 26 p.cells) := by show Blk _ _ _ _; rw [← hg2]; exact hb12
  rw [hg2]
  generalize W1.heap.size = g3 at hb2 ⊢
  have HNB := Lib.hid hb2
  obtain ⟨c0, -, -, -, -, -, c6, -, -, c9, -⟩ := Blk.c10 hb2
  clear hg2 hb12
  have HQQ : Hid (Below W2.heap.size W2 W2) := Below.refl _ _
  by_cases hk : n.k = 2
  · have hkb : (n.k == 2) = true := by simpa using hk
    have HDK : Hid ((if Pn.ofT p.x n.at_ < 0 then (0, true) else (Pn.asksL p.x n.args).foldl Pn.orP (2 ^ (Pn.ofT p.x n.at_).toNat, false)) = D) := by
      show _ = _
      rw [← HD.out]
      unfold Pn.asksK
      rw [if_pos hk]
    clear hk HD hb2 c9
    go_wp2_with (refine wpList_load_qp0 rfl (.tmp 2) rfl g2 rfl HQ.out ?_)
    refine (plof_any W2 p (HP.out.below (HBO.out.then HB2.out)) n.at_).mono ?_
    rintro e W3 ⟨rfl, hB3⟩
    have HB3 := Lib.hid (HB2.out.then hB3)
    have HQ3 := Lib.hid hB3
    obtain ⟨-, -, -, -, -, -, -, -, -, c9, -⟩ := Blk.c10 (HNB.out.below hB3)
    have hof := Pn.ofT_le p.x n.at_
    clear hB3 c0 c6
    generalize Pn.ofT p.x n.at_ = f at HDK hof ⊢
    by_cases hf : f < 0
    · have HF : Hid (D = (0, true)) := by show _ = _; rw [← HDK.out, if_pos hf]
      go_wp2_with fail
      go_ret2
      exact ⟨by rw [HF.out]; rfl, HB3.out⟩
    · have HD0 : Hid ((Pn.asksL p.x n.args).foldl Pn.orP (2 ^ f.toNat, false) = D) := by show _ = _; rw [← HDK.out, if_neg hf]
      have hfc : f = 0 ∨ f = 1 ∨ f = 2 ∨ f = 3 := by omega
      clear hof hf HDK
      rcases hfc with rfl | rfl | rfl | rfl
      · have HDX : Hid ((Pn.asksL p.x (n.args.drop 0)).foldl Pn.orP (1, false) = D) := by show _ = _; rw [← HD0.out]; rfl
        clear HD0
        go_upto_region 8 with fail
        clear c9
        go_loopw [6, 7, 27] (fun mv ov iv wr => ∃ (i m : Nat) (o : Bool), i ≤ n.args.length ∧ mv = .int .u8 (m : Nat) ∧ ov = .bool o ∧ iv = .int .i64 (i : Int) ∧ m < 16 ∧ Hid ((Pn.asksL p.x (n.args.drop i)).foldl Pn.orP (m, o) = D ∧ Below W3.heap.size W3 wr)) (fun _ _ iv _ => n.args.length - (intOf iv).toNat)
        case atStart => exact ⟨0, 1, false, Nat.zero_le _, by go_num, rfl, by go_num, (by omega), HDX.out, Below.refl _ _⟩
        case round =>
          obtain ⟨i, m, o, hi, rfl, rfl, rfl, hm, HJ⟩ := hrel
          have HD2 := Lib.hid HJ.out.1
          have HBW := Lib.hid HJ.out.2
          have HBV : Hid (Below W.heap.size W wr) := HB3.out.then HBW.out
          clear HJ
          by_cases hlt : i < n.args.length
          · have hii : (i : Int) < (n.args.length : Int) := by omega
            obtain ⟨bb, oo, ha, -, -⟩ := HR.out.at_ hlt
            have HIW : Hid (ERow eNd wr (some ⟨bb, oo, none⟩) n.args) := by show ERow _ _ _ _; rw [← ha]; exact HR.out.below (HBO.out.then HBV.out)
            obtain ⟨a, hna⟩ : ∃ a, n.args[i] = a := ⟨_, rfl⟩
            have HNA := Lib.hid hna
            have HIA := Lib.hid (HI.out a (by rw [← hna]; exact List.getElem_mem hlt))
            have HX : Hid ((Pn.asksL p.x (n.args.drop (i + 1))).foldl Pn.orP (m ||| (Pn.asks p.x a).1, o || (Pn.asks p.x a).2) = D) := by show _ = _; rw [← HD2.out, Pn.asks_drop p.x n.args i hlt, hna]; rfl
            have hal := Pn.asks_lt hB4 a
            rw [ha]
            clear ha hna
            go_upto_region 10 with (first | (refine wpList_load_nd_is rfl (.tmp 29) rfl HIW.out hlt a HNA.out rfl ?_) | (refine wpList_alloc_nd rfl rfl ?_; intro W6 hb6 hz6 hB6) | (refine wpList_store_nd rfl rfl (.tmp 10) (.tmp 30) rfl wr.heap.size rfl a rfl hb6 ?_; intro W7 hb7 hg7))
            have HB7 := Lib.hid (below_of_grown (HBW.out.then hB6) hg7 HBW.out.size (Nat.le_trans HBW.out.size hB6.size))
            clear hb6 hz6 hB6 hg7 HIW HNA
            have h27 := HQ.out.below (HQ3.out.then HB7.out)
            generalize wr.heap.size = g10 at hb7 ⊢
            go_wp2_with (first | (refine wpList_load_qp0 rfl (.tmp 2) rfl g2 rfl h27 ?_) | (refine wpList_load_nd rfl (.tmp 10) rfl g10 rfl hb7 ?_))
            refine (HIA.out W7 (HBO.out.then (HB3.out.then HB7.out))).mono ?_
            rintro e W8 ⟨rfl, hB8⟩
            have HB8 := Lib.hid (HB7.out.then hB8)
            have ho8 := or8 m hm _ hal
            clear hB8 hb7 h27
            generalize (Pn.asks p.x a).1 = am at HX hal ho8 ⊢
            generalize (Pn.asks p.x a).2 = ao at HX ⊢
            cases o with
            | true =>
              have HF9 : Hid ((Pn.asksL p.x (n.args.drop (i + 1))).foldl Pn.orP (m ||| am, true) = D) := by show _ = _; rw [← HX.out]; rfl
              go_wp2_with fail
              go_roundw
              case rel => exact ⟨i + 1, m ||| am, true, by omega, by go_num, rfl, by go_num, or16 m hm am hal, HF9.out, HB8.out⟩
              case measure => simp [intOf]; omega
            | false =>
              have HF9 : Hid ((Pn.asksL p.x (n.args.drop (i + 1))).foldl Pn.orP (m ||| am, ao) = D) := by show _ = _; rw [← HX.out]; rfl
              go_wp2_with fail
              go_roundw
              case rel => exact ⟨i + 1, m ||| am, ao, by omega, by go_num, rfl, by go_num, or16 m hm am hal, HF9.out, HB8.out⟩
              case measure => simp [intOf]; omega
          · have hii : ¬ (i : Int) < (n.args.length : Int) := by omega
            have HF : Hid (D = (m, o)) := by show _ = _; rw [← HD2.out, List.drop_eq_nil_of_le (by omega)]; rfl
            go_wp2_with fail
            go_ret2
            exact ⟨by rw [HF.out]; rfl, HBV.out⟩
      · have HDX : Hid ((Pn.asksL p.x (n.args.drop 0)).foldl Pn.orP (2, false) = D) := by show _ = _; rw [← HD0.out]; rfl
        clear HD0
        go_upto_region 8 with fail
        clear c9
        go_loopw [6, 7, 27] (fun mv ov iv wr => ∃ (i m : Nat) (o : Bool), i ≤ n.args.length ∧ mv = .int .u8 (m : Nat) ∧ ov = .bool o ∧ iv = .int .i64 (i : Int) ∧ m < 16 ∧ Hid ((Pn.asksL p.x (n.args.drop i)).foldl Pn.orP (m, o) = D ∧ Below W3.heap.size W3 wr)) (fun _ _ iv _ => n.args.length - (intOf iv).toNat)
        case atStart => exact ⟨0, 2, false, Nat.zero_le _, by go_num, rfl, by go_num, (by omega), HDX.out, Below.refl _ _⟩
        case round =>
          obtain ⟨i, m, o, hi, rfl, rfl, rfl, hm, HJ⟩ := hrel
          have HD2 := Lib.hid HJ.out.1
          have HBW := Lib.hid HJ.out.2
          have HBV : Hid (Below W.heap.size W wr) := HB3.out.then HBW.out
          clear HJ
          by_cases hlt : i < n.args.length
          · have hii : (i : Int) < (n.args.length : Int) := by omega
            obtain ⟨bb, oo, ha, -, -⟩ := HR.out.at_ hlt
            have HIW : Hid (ERow eNd wr (some ⟨bb, oo, none⟩) n.args) := by show ERow _ _ _ _; rw [← ha]; exact HR.out.below (HBO.out.then HBV.out)
            obtain ⟨a, hna⟩ : ∃ a, n.args[i] = a := ⟨_, rfl⟩
            have HNA := Lib.hid hna
            have HIA := Lib.hid (HI.out a (by rw [← hna]; exact List.getElem_mem hlt))
            have HX : Hid ((Pn.asksL p.x (n.args.drop (i + 1))).foldl Pn.orP (m ||| (Pn.asks p.x a).1, o || (Pn.asks p.x a).2) = D) := by show _ = _; rw [← HD2.out, Pn.asks_drop p.x n.args i hlt, hna]; rfl
            have hal := Pn.asks_lt hB4 a
            rw [ha]
            clear ha hna
            go_upto_region 10 with (first | (refine wpList_load_nd_is rfl (.tmp 29) rfl HIW.out hlt a HNA.out rfl ?_) | (refine wpList_alloc_nd rfl rfl ?_; intro W6 hb6 hz6 hB6) | (refine wpList_store_nd rfl rfl (.tmp 10) (.tmp 30) rfl wr.heap.size rfl a rfl hb6 ?_; intro W7 hb7 hg7))
            have HB7 := Lib.hid (below_of_grown (HBW.out.then hB6) hg7 HBW.out.size (Nat.le_trans HBW.out.size hB6.size))
            clear hb6 hz6 hB6 hg7 HIW HNA
            have h27 := HQ.out.below (HQ3.out.then HB7.out)
            generalize wr.heap.size = g10 at hb7 ⊢
            go_wp2_with (first | (refine wpList_load_qp0 rfl (.tmp 2) rfl g2 rfl h27 ?_) | (refine wpList_load_nd rfl (.tmp 10) rfl g10 rfl hb7 ?_))
            refine (HIA.out W7 (HBO.out.then (HB3.out.then HB7.out))).mono ?_
            rintro e W8 ⟨rfl, hB8⟩
            have HB8 := Lib.hid (HB7.out.then hB8)
            have ho8 := or8 m hm _ hal
            clear hB8 hb7 h27
            generalize (Pn.asks p.x a).1 = am at HX hal ho8 ⊢
            generalize (Pn.asks p.x a).2 = ao at HX ⊢
            cases o with
            | true =>
              have HF9 : Hid ((Pn.asksL p.x (n.args.drop (i + 1))).foldl Pn.orP (m ||| am, true) = D) := by show _ = _; rw [← HX.out]; rfl
              go_wp2_with fail
              go_roundw
              case rel => exact ⟨i + 1, m ||| am, true, by omega, by go_num, rfl, by go_num, or16 m hm am hal, HF9.out, HB8.out⟩
              case measure => simp [intOf]; omega
            | false =>
              have HF9 : Hid ((Pn.asksL p.x (n.args.drop (i + 1))).foldl Pn.orP (m ||| am, ao) = D) := by show _ = _; rw [← HX.out]; rfl
              go_wp2_with fail
              go_roundw
              case rel => exact ⟨i + 1, m ||| am, ao, by omega, by go_num, rfl, by go_num, or16 m hm am hal, HF9.out, HB8.out⟩
              case measure => simp [intOf]; omega
          · have hii : ¬ (i : Int) < (n.args.length : Int) := by omega
            have HF : Hid (D = (m, o)) := by show _ = _; rw [← HD2.out, List.drop_eq_nil_of_le (by omega)]; rfl
            go_wp2_with fail
            go_ret2
            exact ⟨by rw [HF.out]; rfl, HBV.out⟩
      · have HDX : Hid ((Pn.asksL p.x (n.args.drop 0)).foldl Pn.orP (4, false) = D) := by show _ = _; rw [← HD0.out]; rfl
        clear HD0
        go_upto_region 8 with fail
        clear c9
        go_loopw [6, 7, 27] (fun mv ov iv wr => ∃ (i m : Nat) (o : Bool), i ≤ n.args.length ∧ mv = .int .u8 (m : Nat) ∧ ov = .bool o ∧ iv = .int .i64 (i : Int) ∧ m < 16 ∧ Hid ((Pn.asksL p.x (n.args.drop i)).foldl Pn.orP (m, o) = D ∧ Below W3.heap.size W3 wr)) (fun _ _ iv _ => n.args.length - (intOf iv).toNat)
        case atStart => exact ⟨0, 4, false, Nat.zero_le _, by go_num, rfl, by go_num, (by omega), HDX.out, Below.refl _ _⟩
        case round =>
          obtain ⟨i, m, o, hi, rfl, rfl, rfl, hm, HJ⟩ := hrel
          have HD2 := Lib.hid HJ.out.1
          have HBW := Lib.hid HJ.out.2
          have HBV : Hid (Below W.heap.size W wr) := HB3.out.then HBW.out
          clear HJ
          by_cases hlt : i < n.args.length
          · have hii : (i : Int) < (n.args.length : Int) := by omega
            obtain ⟨bb, oo, ha, -, -⟩ := HR.out.at_ hlt
            have HIW : Hid (ERow eNd wr (some ⟨bb, oo, none⟩) n.args) := by show ERow _ _ _ _; rw [← ha]; exact HR.out.below (HBO.out.then HBV.out)
            obtain ⟨a, hna⟩ : ∃ a, n.args[i] = a := ⟨_, rfl⟩
            have HNA := Lib.hid hna
            have HIA := Lib.hid (HI.out a (by rw [← hna]; exact List.getElem_mem hlt))
            have HX : Hid ((Pn.asksL p.x (n.args.drop (i + 1))).foldl Pn.orP (m ||| (Pn.asks p.x a).1, o || (Pn.asks p.x a).2) = D) := by show _ = _; rw [← HD2.out, Pn.asks_drop p.x n.args i hlt, hna]; rfl
            have hal := Pn.asks_lt hB4 a
            rw [ha]
            clear ha hna
            go_upto_region 10 with (first | (refine wpList_load_nd_is rfl (.tmp 29) rfl HIW.out hlt a HNA.out rfl ?_) | (refine wpList_alloc_nd rfl rfl ?_; intro W6 hb6 hz6 hB6) | (refine wpList_store_nd rfl rfl (.tmp 10) (.tmp 30) rfl wr.heap.size rfl a rfl hb6 ?_; intro W7 hb7 hg7))
            have HB7 := Lib.hid (below_of_grown (HBW.out.then hB6) hg7 HBW.out.size (Nat.le_trans HBW.out.size hB6.size))
            clear hb6 hz6 hB6 hg7 HIW HNA
            have h27 := HQ.out.below (HQ3.out.then HB7.out)
            generalize wr.heap.size = g10 at hb7 ⊢
            go_wp2_with (first | (refine wpList_load_qp0 rfl (.tmp 2) rfl g2 rfl h27 ?_) | (refine wpList_load_nd rfl (.tmp 10) rfl g10 rfl hb7 ?_))
            refine (HIA.out W7 (HBO.out.then (HB3.out.then HB7.out))).mono ?_
            rintro e W8 ⟨rfl, hB8⟩
            have HB8 := Lib.hid (HB7.out.then hB8)
            have ho8 := or8 m hm _ hal
            clear hB8 hb7 h27
            generalize (Pn.asks p.x a).1 = am at HX hal ho8 ⊢
            generalize (Pn.asks p.x a).2 = ao at HX ⊢
            cases o with
            | true =>
              have HF9 : Hid ((Pn.asksL p.x (n.args.drop (i + 1))).foldl Pn.orP (m ||| am, true) = D) := by show _ = _; rw [← HX.out]; rfl
              go_wp2_with fail
              go_roundw
              case rel => exact ⟨i + 1, m ||| am, true, by omega, by go_num, rfl, by go_num, or16 m hm am hal, HF9.out, HB8.out⟩
              case measure => simp [intOf]; omega
            | false =>
              have HF9 : Hid ((Pn.asksL p.x (n.args.drop (i + 1))).foldl Pn.orP (m ||| am, ao) = D) := by show _ = _; rw [← HX.out]; rfl
              go_wp2_with fail
              go_roundw
              case rel => exact ⟨i + 1, m ||| am, ao, by omega, by go_num, rfl, by go_num, or16 m hm am hal, HF9.out, HB8.out⟩
              case measure => simp [intOf]; omega
          · have hii : ¬ (i : Int) < (n.args.length : Int) := by omega
            have HF : Hid (D = (m, o)) := by show _ = _; rw [← HD2.out, List.drop_eq_nil_of_le (by omega)]; rfl
            go_wp2_with fail
            go_ret2
            exact ⟨by rw [HF.out]; rfl, HBV.out⟩
      · have HDX : Hid ((Pn.asksL p.x (n.args.drop 0)).foldl Pn.orP (8, false) = D) := by show _ = _; rw [← HD0.out]; rfl
        clear HD0
        go_upto_region 8 with fail
        clear c9
        go_loopw [6, 7, 27] (fun mv ov iv wr => ∃ (i m : Nat) (o : Bool), i ≤ n.args.length ∧ mv = .int .u8 (m : Nat) ∧ ov = .bool o ∧ iv = .int .i64 (i : Int) ∧ m < 16 ∧ Hid ((Pn.asksL p.x (n.args.drop i)).foldl Pn.orP (m, o) = D ∧ Below W3.heap.size W3 wr)) (fun _ _ iv _ => n.args.length - (intOf iv).toNat)
        case atStart => exact ⟨0, 8, false, Nat.zero_le _, by go_num, rfl, by go_num, (by omega), HDX.out, Below.refl _ _⟩
        case round =>
          obtain ⟨i, m, o, hi, rfl, rfl, rfl, hm, HJ⟩ := hrel
          have HD2 := Lib.hid HJ.out.1
          have HBW := Lib.hid HJ.out.2
          have HBV : Hid (Below W.heap.size W wr) := HB3.out.then HBW.out
          clear HJ
          by_cases hlt : i < n.args.length
          · have hii : (i : Int) < (n.args.length : Int) := by omega
            obtain ⟨bb, oo, ha, -, -⟩ := HR.out.at_ hlt
            have HIW : Hid (ERow eNd wr (some ⟨bb, oo, none⟩) n.args) := by show ERow _ _ _ _; rw [← ha]; exact HR.out.below (HBO.out.then HBV.out)
            obtain ⟨a, hna⟩ : ∃ a, n.args[i] = a := ⟨_, rfl⟩
            have HNA := Lib.hid hna
            have HIA := Lib.hid (HI.out a (by rw [← hna]; exact List.getElem_mem hlt))
            have HX : Hid ((Pn.asksL p.x (n.args.drop (i + 1))).foldl Pn.orP (m ||| (Pn.asks p.x a).1, o || (Pn.asks p.x a).2) = D) := by show _ = _; rw [← HD2.out, Pn.asks_drop p.x n.args i hlt, hna]; rfl
            have hal := Pn.asks_lt hB4 a
            rw [ha]
            clear ha hna
            go_upto_region 10 with (first | (refine wpList_load_nd_is rfl (.tmp 29) rfl HIW.out hlt a HNA.out rfl ?_) | (refine wpList_alloc_nd rfl rfl ?_; intro W6 hb6 hz6 hB6) | (refine wpList_store_nd rfl rfl (.tmp 10) (.tmp 30) rfl wr.heap.size rfl a rfl hb6 ?_; intro W7 hb7 hg7))
            have HB7 := Lib.hid (below_of_grown (HBW.out.then hB6) hg7 HBW.out.size (Nat.le_trans HBW.out.size hB6.size))
            clear hb6 hz6 hB6 hg7 HIW HNA
            have h27 := HQ.out.below (HQ3.out.then HB7.out)
            generalize wr.heap.size = g10 at hb7 ⊢
            go_wp2_with (first | (refine wpList_load_qp0 rfl (.tmp 2) rfl g2 rfl h27 ?_) | (refine wpList_load_nd rfl (.tmp 10) rfl g10 rfl hb7 ?_))
            refine (HIA.out W7 (HBO.out.then (HB3.out.then HB7.out))).mono ?_
            rintro e W8 ⟨rfl, hB8⟩
            have HB8 := Lib.hid (HB7.out.then hB8)
            have ho8 := or8 m hm _ hal
            clear hB8 hb7 h27
            generalize (Pn.asks p.x a).1 = am at HX hal ho8 ⊢
            generalize (Pn.asks p.x a).2 = ao at HX ⊢
            cases o with
            | true =>
              have HF9 : Hid ((Pn.asksL p.x (n.args.drop (i + 1))).foldl Pn.orP (m ||| am, true) = D) := by show _ = _; rw [← HX.out]; rfl
              go_wp2_with fail
              go_roundw
              case rel => exact ⟨i + 1, m ||| am, true, by omega, by go_num, rfl, by go_num, or16 m hm am hal, HF9.out, HB8.out⟩
              case measure => simp [intOf]; omega
            | false =>
              have HF9 : Hid ((Pn.asksL p.x (n.args.drop (i + 1))).foldl Pn.orP (m ||| am, ao) = D) := by show _ = _; rw [← HX.out]; rfl
              go_wp2_with fail
              go_roundw
              case rel => exact ⟨i + 1, m ||| am, ao, by omega, by go_num, rfl, by go_num, or16 m hm am hal, HF9.out, HB8.out⟩
              case measure => simp [intOf]; omega
          · have hii : ¬ (i : Int) < (n.args.length : Int) := by omega
            have HF : Hid (D = (m, o)) := by show _ = _; rw [← HD2.out, List.drop_eq_nil_of_le (by omega)]; rfl
            go_wp2_with fail
            go_ret2
            exact ⟨by rw [HF.out]; rfl, HBV.out⟩
  · have hkb : (n.k == 2) = false := by simpa using hk
    have HDX : Hid ((Pn.asksL p.x (n.args.drop 0)).foldl Pn.orP (0, false) = D) := by
      show _ = _
      rw [← HD.out]
      unfold Pn.asksK
      rw [if_neg hk]
      rfl
    clear hk HD hb2 c6
    go_upto_region 8 with fail
    clear c0 c9
    go_loopw [6, 7, 27] (fun mv ov iv wr => ∃ (i m : Nat) (o : Bool), i ≤ n.args.length ∧ mv = .int .u8 (m : Nat) ∧ ov = .bool o ∧ iv = .int .i64 (i : Int) ∧ m < 16 ∧ Hid ((Pn.asksL p.x (n.args.drop i)).foldl Pn.orP (m, o) = D ∧ Below W2.heap.size W2 wr)) (fun _ _ iv _ => n.args.length - (intOf iv).toNat)
    case atStart => exact ⟨0, 0, false, Nat.zero_le _, by go_num, rfl, by go_num, (by omega), HDX.out, Below.refl _ _⟩
    case round =>
      obtain ⟨i, m, o, hi, rfl, rfl, rfl, hm, HJ⟩ := hrel
      have HD2 := Lib.hid HJ.out.1
      have HBW := Lib.hid HJ.out.2
      have HBV : Hid (Below W.heap.size W wr) := HB2.out.then HBW.out
      clear HJ
      by_cases hlt : i < n.args.length
      · have hii : (i : Int) < (n.args.length : Int) := by omega
        obtain ⟨bb, oo, ha, -, -⟩ := HR.out.at_ hlt
        have HIW : Hid (ERow eNd wr (some ⟨bb, oo, none⟩) n.args) := by show ERow _ _ _ _; rw [← ha]; exact HR.out.below (HBO.out.then HBV.out)
        obtain ⟨a, hna⟩ : ∃ a, n.args[i] = a := ⟨_, rfl⟩
        have HNA := Lib.hid hna
        have HIA := Lib.hid (HI.out a (by rw [← hna]; exact List.getElem_mem hlt))
        have HX : Hid ((Pn.asksL p.x (n.args.drop (i + 1))).foldl Pn.orP (m ||| (Pn.asks p.x a).1, o || (Pn.asks p.x a).2) = D) := by show _ = _; rw [← HD2.out, Pn.asks_drop p.x n.args i hlt, hna]; rfl
        have hal := Pn.asks_lt hB4 a
        rw [ha]
        clear ha hna
        go_upto_region 10 with (first | (refine wpList_load_nd_is rfl (.tmp 29) rfl HIW.out hlt a HNA.out rfl ?_) | (refine wpList_alloc_nd rfl rfl ?_; intro W6 hb6 hz6 hB6) | (refine wpList_store_nd rfl rfl (.tmp 10) (.tmp 30) rfl wr.heap.size rfl a rfl hb6 ?_; intro W7 hb7 hg7))
        have HB7 := Lib.hid (below_of_grown (HBW.out.then hB6) hg7 HBW.out.size (Nat.le_trans HBW.out.size hB6.size))
        clear hb6 hz6 hB6 hg7 HIW HNA
        have h27 := HQ.out.below (HQQ.out.then HB7.out)
        generalize wr.heap.size = g10 at hb7 ⊢
        go_wp2_with (first | (refine wpList_load_qp0 rfl (.tmp 2) rfl g2 rfl h27 ?_) | (refine wpList_load_nd rfl (.tmp 10) rfl g10 rfl hb7 ?_))
        refine (HIA.out W7 (HBO.out.then (HB2.out.then HB7.out))).mono ?_
        rintro e W8 ⟨rfl, hB8⟩
        have HB8 := Lib.hid (HB7.out.then hB8)
        have ho8 := or8 m hm _ hal
        clear hB8 hb7 h27
        generalize (Pn.asks p.x a).1 = am at HX hal ho8 ⊢
        generalize (Pn.asks p.x a).2 = ao at HX ⊢
        cases o with
        | true =>
          have HF9 : Hid ((Pn.asksL p.x (n.args.drop (i + 1))).foldl Pn.orP (m ||| am, true) = D) := by show _ = _; rw [← HX.out]; rfl
          go_wp2_with fail
          go_roundw
          case rel => exact ⟨i + 1, m ||| am, true, by omega, by go_num, rfl, by go_num, or16 m hm am hal, HF9.out, HB8.out⟩
          case measure => simp [intOf]; omega
        | false =>
          have HF9 : Hid ((Pn.asksL p.x (n.args.drop (i + 1))).foldl Pn.orP (m ||| am, ao) = D) := by show _ = _; rw [← HX.out]; rfl
          go_wp2_with fail
          go_roundw
          case rel => exact ⟨i + 1, m ||| am, ao, by omega, by go_num, rfl, by go_num, or16 m hm am hal, HF9.out, HB8.out⟩
          case measure => simp [intOf]; omega
      · have hii : ¬ (i : Int) < (n.args.length : Int) := by omega
        have HF : Hid (D = (m, o)) := by show _ = _; rw [← HD2.out, List.drop_eq_nil_of_le (by omega)]; rfl
        go_wp2_with fail
        go_ret2
        exact ⟨by rw [HF.out]; rfl, HBV.out⟩
end Go.Proofs.YtpahkaffknnjhaaGreatDoor
end

section
namespace Go.Proofs.YtpahkaffknnjhaaGreatDoor
set_option linter.unusedSimpArgs false
set_option linter.unusedVariables false
open Go.RowKit
section
variable {w : World} {ops : Array Oper} {rest : List Oper} {o : Oper} {a : Act} {Q : Exit → Act → World → Prop}
theorem so_zero (W : World) : (zeroValue 164).run Tryz.prog W = .ok (So.v ⟨0, false⟩) W := (zero_of_info (P := Tryz.prog) (t := 164) (v := So.v ⟨0, false⟩) (n := 2) (by kernel_rfl)).1 W
theorem so_info : (Tryz.prog.info? 164).map (·.size) = some 2 := by kernel_rfl
theorem wpList_alloc_so (hgd : o.guard = none) (hop : o.op = .alloc 164)
    (h : ∀ W, Blk W w.heap.size 164 [.int .i64 0, .bool false] → w.heap.size + 1 ≤ W.heap.size → Below w.heap.size w W → wpList Tryz.prog ops Q rest (a.put o.dst (.pointer (some ⟨w.heap.size, 0, none⟩))) W) : wpList Tryz.prog ops Q (o :: rest) a w :=
  wpList_alloc_z hgd 164 hop (so_zero _) fun W hW => by
    obtain ⟨h1, h2, h3⟩ := fresh1 (a := [.int .i64 0, .bool false]) hW
    exact h W h1 h2 h3
theorem wpList_store_so (hgd : o.guard = none) (hod : o.dst = none) (x y : Operand) (hop : o.op = .store 164 x y) (g : Nat) (hx : a.eval x = .pointer (some ⟨g, 0, none⟩)) (b : So) (hy : a.eval y = b.v) {T0 : TypeId} {u v : Value} (hb : Blk w g T0 [u, v])
    (h : ∀ W, Blk W g T0 b.cells → w.grownBy W (some g) → wpList Tryz.prog ops Q rest a W) : wpList Tryz.prog ops Q (o :: rest) a w :=
  wpList_store_blk hgd hod 164 x y hop g hx b.cells hy hb rfl so_info (eSo.one b) h
theorem wpList_load_so_at (hgd : o.guard = none) (x : Operand) (hop : o.op = .load 164 x) {b off : Nat} {L : List So} (hr : ERow eSo w (some ⟨b, off, none⟩) L) {j : Nat} (hj : j < L.length) (p : So) (hp : L[j] = p) (hx : a.eval x = .pointer (some ⟨b, off + j * 2, none⟩))
    (h : wpList Tryz.prog ops Q rest (a.put o.dst p.v) w) : wpList Tryz.prog ops Q (o :: rest) a w := by
  subst hp
  obtain ⟨b', off', e, hb, hrg⟩ := hr.range hj
  cases e
  exact wpList_load_mid hgd 164 x hop b (off + j * 2) hx L[j].cells _ hrg Tryz.underlying164 rfl so_info h
end
set_option maxRecDepth 20000 in
theorem plorders_any (w : World) (p : Qp) (hl : p.x.ord.length ≤ 1000000) : Calls Tryz.prog 107 #[p.v] w (RetBo w (Pn.orders p.x)) := by
  obtain ⟨D, hD⟩ : ∃ D, Pn.orders p.x = D := ⟨_, rfl⟩
  have HD : Hid ((!p.x.gr && !p.x.ord.isEmpty) = D) := hD
  rw [hD]
  clear hD
  go_enter Tryz.func107, Tryz.ntmps107
  go_upto_region 1 with (refine wpList_box_qp rfl (.tmp 0) rfl p rfl ?_; intro W1 hb1 hz1 hB1)
  have HB1 := Lib.hid hB1
  obtain ⟨-, -, -, -, c5, c7⟩ := Blk.qp hb1
  clear hB1 hz1 hb1
  generalize w.heap.size = g2 at c5 c7 ⊢
  cases hg : p.x.gr with
  | true =>
    have HF : Hid (D = false) := by show _ = _; rw [← HD.out, hg]; rfl
    rw [hg] at c5
    clear hg
    go_wp2_with fail
    go_ret
    exact ⟨by rw [HF.out]; rfl, HB1.out⟩
  | false =>
    have HF : Hid (D = decide (0 < p.x.ord.length)) := by
      show _ = _
      rw [← HD.out, hg]
      cases p.x.ord with
      | nil => rfl
      | cons s l => simp
    rw [hg] at c5
    clear hg
    go_wp2_with fail
    go_ret
    exact ⟨by rw [HF.out]; rfl, HB1.out⟩
namespace Pn
end Pn
set_option maxRecDepth 20000 in
set_option maxHeartbeats 4000000 in
theorem plmay_any (w : World) (p : Qp) (hp : QpIn w p) : Calls Tryz.prog 105 #[p.v] w (RetBo w (Pn.may p.x)) := by
  have HP := Lib.hid hp
  have htl := hp.tl
  have hbl := hp.bl
  obtain ⟨D, hD⟩ : ∃ D, Pn.may p.x = D := ⟨_, rfl⟩
  have HD := Lib.hid hD
  rw [hD]
  clear hp hD
  go_enter Tryz.func105, Tryz.ntmps105
  go_upto_region 1 with (refine wpList_box_qp rfl (.tmp 0) rfl p rfl ?_; intro W1 hb1 hz1 hB1)
  have HB1 := Lib.hid hB1
  obtain ⟨c0, c1, c2, -, -, -⟩ := Blk.qp hb1
  obtain ⟨g2, hg2⟩ : ∃ g, w.heap.size = g := ⟨_, rfl⟩
  have HQ : Hid (Blk W1 g2 26 p.cells) := by show Blk _ _ _ _; rw [← hg2]; exact hb1
  rw [hg2] at c0 c1 c2
  rw [hg2]
  clear hB1 hz1 hb1 hg2
  by_cases h1 : p.x.T.length < 1
  · have hi : (p.x.T.length : Int) < 1 := by omega
    have HF : Hid (D = false) := by
      show _ = _
      rw [← HD.out]
      unfold Pn.may Pn.may0
      simp [show ¬ 1 ≤ p.x.T.length by omega]
    go_wp2_with fail
    go_ret
    exact ⟨by rw [HF.out]; rfl, HB1.out⟩
  have i1 : ¬ (p.x.T.length : Int) < 1 := by omega
  by_cases h2 : 4 < p.x.T.length
  · have hi : (4 : Int) < (p.x.T.length : Int) := by omega
    have HF : Hid (D = false) := by
      show _ = _
      rw [← HD.out]
      unfold Pn.may Pn.may0
      simp [show ¬ p.x.T.length ≤ 4 by omega]
    go_wp2_with fail
    go_ret
    exact ⟨by rw [HF.out]; rfl, HB1.out⟩
  have i2 : ¬ (4 : Int) < (p.x.T.length : Int) := by omega
  by_cases h3 : p.x.B.length = p.x.T.length
  · have h3b : ((p.x.B.length : Int) != (p.x.T.length : Int)) = false := by simp [h3]
    obtain ⟨bb, oo, ha, -, hc⟩ := int_at (HP.out.b.below HB1.out) (i := 0) (by omega)
    have hi0 : (0 : Int) < (p.x.B.length : Int) := by omega
    obtain ⟨b0, hb0⟩ : ∃ b0, p.x.B[0] = b0 := ⟨_, rfl⟩
    have HB0 : Hid (Pn.b p.x 0 = b0) := by show _ = _; rw [← hb0, Pn.b_get]
    rw [hb0, Nat.add_zero] at hc
    rw [ha] at c1
    clear hb0 ha
    by_cases h4 : b0 = 0
    · have h4b : (b0 != 0) = false := by simp [h4]
      by_cases h5 : p.x.W ≤ (p.x.T.length : Int) * 6
      · have i5 : ¬ (p.x.T.length : Int) * 6 < p.x.W := by omega
        have HM : Hid (Pn.mayF p.x 0 p.x.T.length = D) := by
          show _ = _
          rw [← HD.out]
          unfold Pn.may Pn.may0
          simp [h2, h3, HB0.out, h4, h5]
          intro hc; omega
        have HLB := Lib.hid h3
        have hT4 : p.x.T.length ≤ 4 := by omega
        go_upto_region 5 with fail
        clear c0 c1 c2 hc h3b h4b i5 i1 i2 h1 h2 h4 h5 HB0 h3 hi0
        go_loopw [36] (fun iv wr => ∃ i : Nat, i ≤ p.x.T.length ∧ iv = .int .i64 (i : Int) ∧ Hid (Pn.mayF p.x i (p.x.T.length - i) = D ∧ Below W1.heap.size W1 wr)) (fun iv _ => p.x.T.length - (intOf iv).toNat)
        case atStart => exact ⟨0, Nat.zero_le _, by go_num, HM.out, Below.refl _ _⟩
        case round =>
          obtain ⟨i, hi, rfl, HJ⟩ := hrel
          have HE := Lib.hid HJ.out.1
          have HBW := Lib.hid HJ.out.2
          clear HJ
          by_cases hlt : i < p.x.T.length
          · have hii : (i : Int) < (p.x.T.length : Int) := by omega
            have HX : Hid ((decide (Pn.b p.x i < Pn.endN p.x i) && Pn.mayF p.x (i + 1) (p.x.T.length - (i + 1))) = D) := by
              show _ = _
              rw [← HE.out, show p.x.T.length - i = p.x.T.length - (i + 1) + 1 by omega]
              rfl
            have HBD : Hid (Below W1.heap.size W1 wr.drew) := HBW.out.drewR
            have HPW := Lib.hid (HP.out.below (HB1.out.then HBD.out))
            have h2 := HQ.out.below HBD.out
            have hiB : i < p.x.B.length := by rw [HLB.out]; exact hlt
            have HIB := Lib.hid hiB
            obtain ⟨bb2, oo2, ha2, hbl2, hc0⟩ := int_at HPW.out.b hiB
            have hc : wr.drew.cell? ⟨bb2, oo2 + i, none⟩ = some (.int .i64 (Pn.b p.x i)) := by rw [← Pn.b_get hiB]; exact hc0
            clear hc0
            have hbi : (i : Int) < (p.x.B.length : Int) := by omega
            obtain ⟨-, c1, -⟩ := Blk.qp h2
            rw [ha2] at c1
            go_upto_region 7 with fail
            refine wp_region_plan (.take 0 (.take 1 (.take 3 (.take 4 (.take 5 (.take 6 (.take 7 (.run 2 [3, 4, 5, 6, 7] (.take 8 .fin))))))))) (by kernel_rfl) (by kernel_rfl) (by kernel_rfl) (by kernel_rfl) ?_
            repeat' (first | (refine hZ _ _ ?_; clear hZ) | (refine hZ _ ?_; clear hZ) | (refine hZ ?_; clear hZ) | rw [again_nil] | rw [walk_fin] | ((first | rw [walk_take] | rw [walk_run] | rw [again_cons]); intro Z hZ; simp only [sel, List.getElem?_toArray, List.getElem?_cons_zero, List.getElem?_cons_succ]; go_wp2_with (refine wpList_load_qp0 rfl (.tmp 1) rfl g2 rfl h2 ?_)))
            refine (plend_any wr.drew p HPW.out i (by omega)).mono ?_
            rintro e W3 ⟨rfl, hB3⟩
            replace c1 := cell_later hB3 c1
            replace hc := cell_later hB3 hc
            have HB3 := Lib.hid (HBD.out.then hB3)
            clear hB3 h2 ha2 hbl2
            by_cases hlte : Pn.b p.x i < Pn.endN p.x i
            · have hle : ¬ Pn.endN p.x i ≤ Pn.b p.x i := by omega
              have HF : Hid (Pn.mayF p.x (i + 1) (p.x.T.length - (i + 1)) = D) := by show _ = _; rw [← HX.out, decide_eq_true hlte]; rfl
              go_wp2_with fail
              repeat' (first | (refine hZ _ _ ?_; clear hZ) | (refine hZ _ ?_; clear hZ) | (refine hZ ?_; clear hZ) | rw [again_nil] | rw [walk_fin] | ((first | rw [walk_take] | rw [walk_run] | rw [again_cons]); intro Z hZ; simp only [sel, List.getElem?_toArray, List.getElem?_cons_zero, List.getElem?_cons_succ]; go_wp2_with (fail)))
              go_wp2_with fail
              go_roundw
              case rel => exact ⟨i + 1, by omega, by go_num, HF.out, HB3.out⟩
              case measure => simp [intOf]; omega
            · have hle : Pn.endN p.x i ≤ Pn.b p.x i := by omega
              have HF : Hid (D = false) := by show _ = _; rw [← HX.out, decide_eq_false hlte]; rfl
              go_wp2_with fail
              repeat' (first | (refine hZ _ _ ?_; clear hZ) | (refine hZ _ ?_; clear hZ) | (refine hZ ?_; clear hZ) | rw [again_nil] | rw [walk_fin] | ((first | rw [walk_take] | rw [walk_run] | rw [again_cons]); intro Z hZ; simp only [sel, List.getElem?_toArray, List.getElem?_cons_zero, List.getElem?_cons_succ]; go_wp2_with (fail)))
              go_wp2_with fail
              go_ret
              exact ⟨by rw [HF.out]; rfl, HB1.out.then HB3.out⟩
          · have hii : ¬ (i : Int) < (p.x.T.length : Int) := by omega
            have HF : Hid (D = true) := by show _ = _; rw [← HE.out, show p.x.T.length - i = 0 by omega]; rfl
            go_wp2_with fail
            go_ret
            exact ⟨by rw [HF.out]; rfl, HB1.out.then HBW.out⟩
      · have i5 : (p.x.T.length : Int) * 6 < p.x.W := by omega
        have HF : Hid (D = false) := by
          show _ = _
          rw [← HD.out]
          unfold Pn.may Pn.may0
          simp [h5]
        go_wp2_with fail
        go_ret
        exact ⟨by rw [HF.out]; rfl, HB1.out⟩
    · have h4b : (b0 != 0) = true := by simp [h4]
      have HF : Hid (D = false) := by
        show _ = _
        rw [← HD.out]
        unfold Pn.may Pn.may0
        simp [HB0.out, h4]
      go_wp2_with fail
      go_ret
      exact ⟨by rw [HF.out]; rfl, HB1.out⟩
  · have h3b : ((p.x.B.length : Int) != (p.x.T.length : Int)) = true := by simp; omega
    have HF : Hid (D = false) := by
      show _ = _
      rw [← HD.out]
      unfold Pn.may Pn.may0
      simp [h3]
    go_wp2_with fail
    go_ret
    exact ⟨by rw [HF.out]; rfl, HB1.out⟩
end Go.Proofs.YtpahkaffknnjhaaGreatDoor
end

section
namespace Go.Proofs.YtpahkaffknnjhaaGreatDoor
set_option linter.unusedSimpArgs false
set_option linter.unusedVariables false
open Go.RowKit
namespace Pn
structure Sh (x : PX) : Prop where
  t1 : 1 ≤ x.T.length
  t4 : x.T.length ≤ 4
  bl : x.B.length = x.T.length
  lt : ∀ f, f < x.T.length → 0 ≤ b x f ∧ b x f < endN x f ∧ endN x f ≤ 24
theorem mayF_all {x : PX} : ∀ (k i : Nat), mayF x i k = true → ∀ f, i ≤ f → f < i + k → b x f < endN x f
  | 0, i, _, f, h1, h2 => by omega
  | k + 1, i, h, f, h1, h2 => by
    unfold mayF at h
    simp only [Bool.and_eq_true, decide_eq_true_eq] at h
    by_cases e : f = i
    · rw [e]; exact h.1
    · exact mayF_all k (i + 1) h.2 f (by omega) (by omega)
theorem sh_of_may {x : PX} (h : may x = true) : Sh x := by
  unfold may may0 at h
  simp only [Bool.and_eq_true, decide_eq_true_eq] at h
  obtain ⟨⟨⟨⟨⟨t1, t4⟩, bl⟩, b0⟩, W⟩, hF⟩ := h
  have hlt := mayF_all _ _ hF
  refine ⟨t1, t4, bl, fun f hf => ?_⟩
  have e : ∀ g, endN x g = if g + 1 < x.T.length then b x (g + 1) else x.W := fun g => by unfold endN; rw [bl]
  have l0 := hlt 0 (by omega)
  have l1 := hlt 1 (by omega)
  have l2 := hlt 2 (by omega)
  have l3 := hlt 3 (by omega)
  rw [e] at l0 l1 l2 l3
  rw [e]
  generalize x.T.length = n at *
  have hn : n = 1 ∨ n = 2 ∨ n = 3 ∨ n = 4 := by omega
  have hff : f = 0 ∨ f = 1 ∨ f = 2 ∨ f = 3 := by omega
  rcases hn with rfl | rfl | rfl | rfl <;> rcases hff with rfl | rfl | rfl | rfl <;> simp at * <;> omega
end Pn
namespace Pn
def out1 (x : PX) (f : Nat) (c : Int) : Bool := decide (c < 0 ∨ endN x f - b x f ≤ c)
theorem fitsD_out (x : PX) (f : Nat) (d : Df) : fitsD x f d = (d.t == x.T.getD f 0 && !d.cols.isEmpty && !d.cols.any (out1 x f)) := by
  unfold fitsD out1
  congr 1
  rw [List.not_any_eq_all_not]
  congr 1
  funext c
  rw [Bool.eq_iff_iff]
  simp
end Pn
set_option maxRecDepth 20000 in
set_option maxHeartbeats 400000 in
theorem plfits1_any (w : World) (p : Qp) (hp : QpIn w p) (hs : Pn.Sh p.x) (f : Nat) (hf : f < p.x.T.length) (g4 g6 : Nat) (t4 t6 : TypeId) (h4 : Blk w g4 t4 p.cells) (h6 : Blk w g6 t6 [.int .i64 f]) (c : Int) :
    Calls Tryz.prog 180 #[.int .i64 c, .pointer (some ⟨g4, 0, none⟩), .pointer (some ⟨g6, 0, none⟩)] w (RetBo w (Pn.out1 p.x f c)) := by
  have HP := Lib.hid hp
  have hl := hs.lt f hf
  have hfB : f < p.x.B.length := by rw [hs.bl]; exact hf
  obtain ⟨D, hD⟩ : ∃ D, Pn.out1 p.x f c = D := ⟨_, rfl⟩
  have HD := Lib.hid hD
  rw [hD]
  have H4 := Lib.hid h4
  have H6 := Lib.hid h6
  have HFB := Lib.hid hfB
  have h4d := h4.drew
  have h6d := h6.drew
  have hfi : (f : Int) < (p.x.B.length : Int) := by omega
  have hf4 : f < 4 := by have := hs.t4; omega
  clear hp hD hs h4 h6 hf
  go_enter Tryz.func180, Tryz.ntmps180
  go_upto_region 1 with fail
  by_cases hc : c < 0
  · have HF : Hid (D = true) := by show _ = _; rw [← HD.out]; unfold Pn.out1; exact decide_eq_true (.inl hc)
    refine wp_region_plan (.take 0 (.take 1 (.take 2 (.take 3 (.take 4 (.take 5 (.take 7 (.take 8 (.take 9 (.take 10 (.take 11 (.run 6 [3, 7, 8, 9, 10, 11] (.take 12 (.take 13 (.take 14 (.take 15 .fin)))))))))))))))) (by kernel_rfl) (by kernel_rfl) (by kernel_rfl) (by kernel_rfl) ?_
    repeat' (first | (refine hZ _ _ ?_; clear hZ) | (refine hZ _ ?_; clear hZ) | (refine hZ ?_; clear hZ) | rw [again_nil] | rw [walk_fin] | ((first | rw [walk_take] | rw [walk_run] | rw [again_cons]); intro Z hZ; simp only [sel, List.getElem?_toArray, List.getElem?_cons_zero, List.getElem?_cons_succ]; go_wp2_with (fail)))
    go_wp2_with fail
    go_ret
    exact ⟨by rw [HF.out]; rfl, (Below.refl _ _).drewR⟩
  · obtain ⟨d0, -⟩ := Blk.c1 h6d
    obtain ⟨e0, e1, e2, e3, e4, e5, e6, e7, e8⟩ := Blk.qp9 (Blk.qp90 h4d)
    obtain ⟨bb, oo, ha, -, hc0⟩ := int_at (HP.out.b.below (Below.refl _ _).drewR) hfB
    have hcb : w.drew.cell? ⟨bb, oo + f, none⟩ = some (.int .i64 (Pn.b p.x f)) := by rw [← Pn.b_get hfB]; exact hc0
    have HCE : Hid (Calls Tryz.prog 138 #[({ p with ba := some ⟨bb, oo, none⟩ } : Qp).v, .int .i64 f] w.drew (RetI w.drew (Pn.endN p.x f))) := by
      have h := plend_any w.drew p (HP.out.below (Below.refl _ _).drewR) f (by omega)
      have e : ({ p with ba := some ⟨bb, oo, none⟩ } : Qp) = p := by rw [← ha]
      rw [← e] at h
      exact h
    rw [ha] at e1
    clear hc0
    refine wp_region_plan (.take 0 (.take 1 (.take 2 (.take 3 (.take 4 (.take 5 (.take 7 (.take 8 (.take 9 (.take 10 (.take 11 (.run 6 [3, 7, 8, 9, 10, 11] (.take 12 (.take 13 (.take 14 (.take 15 .fin)))))))))))))))) (by kernel_rfl) (by kernel_rfl) (by kernel_rfl) (by kernel_rfl) ?_
    repeat' (first | (refine hZ _ _ ?_; clear hZ) | (refine hZ _ ?_; clear hZ) | (refine hZ ?_; clear hZ) | rw [again_nil] | rw [walk_fin] | ((first | rw [walk_take] | rw [walk_run] | rw [again_cons]); intro Z hZ; simp only [sel, List.getElem?_toArray, List.getElem?_cons_zero, List.getElem?_cons_succ]; go_wp2_with (fail)))
    refine (show Calls _ _ #[({ p with ba := some ⟨bb, oo, none⟩ } : Qp).v, _] _ _ from HCE.out).mono ?_
    rintro e W3 ⟨rfl, hB3⟩
    replace e1 := cell_later hB3 e1
    replace hcb := cell_later hB3 hcb
    replace d0 := cell_later hB3 d0
    obtain ⟨e0, -, e2, e3, e4, e5, e6, e7, e8⟩ := Blk.qp9 (Blk.qp90 ((H4.out.drew).below hB3))
    have HB3 : Hid (Below w.heap.size w W3) := (Below.refl w.heap.size w).drewR.trans hB3
    have HD2 : Hid ((decide (c < 0) || decide (Pn.endN p.x f - Pn.b p.x f ≤ c)) = D) := by show _ = _; rw [← HD.out]; unfold Pn.out1; rw [Bool.decide_or]
    clear hB3
    generalize Pn.endN p.x f = en at hl HD2 ⊢
    generalize Pn.b p.x f = bf at hl HD2 hcb ⊢
    go_wp2_with fail
    repeat' (first | (refine hZ _ _ ?_; clear hZ) | (refine hZ _ ?_; clear hZ) | (refine hZ ?_; clear hZ) | rw [again_nil] | rw [walk_fin] | ((first | rw [walk_take] | rw [walk_run] | rw [again_cons]); intro Z hZ; simp only [sel, List.getElem?_toArray, List.getElem?_cons_zero, List.getElem?_cons_succ]; go_wp2_with (fail)))
    go_wp2_with fail
    go_ret
    exact ⟨by rw [← HD2.out]; rfl, HB3.out⟩
theorem any_take_int {q : Int → Bool} {L : List Int} {i : Nat} (h : i < L.length) : (L.drop i).any q = (q L[i] || (L.drop (i + 1)).any q) := by
  rw [List.drop_eq_getElem_cons h, List.any_cons]
set_option maxRecDepth 20000 in
set_option maxHeartbeats 1000000 in
theorem plidx1_any (w : World) (p : Qp) (hp : QpIn w p) (hs : Pn.Sh p.x) (f : Nat) (hf : f < p.x.T.length) (g4 g6 : Nat) (t4 t6 : TypeId) (h4 : Blk w g4 t4 p.cells) (h6 : Blk w g6 t6 [.int .i64 f]) (A : Option Addr) (cc : Nat) (L : List Int) (hL : ERow eInt w A L) (hl : L.length ≤ 1000) :
    Calls Tryz.prog 186 #[.slice A L.length cc, .func (.func 180) #[] #[.pointer (some ⟨g4, 0, none⟩), .pointer (some ⟨g6, 0, none⟩)]] w (RetIx w (L.any (Pn.out1 p.x f))) := by
  have HL := Lib.hid hL
  have HC : Hid (∀ W, Below w.heap.size w W → ∀ c : Int, Calls Tryz.prog 180 #[.int .i64 c, .pointer (some ⟨g4, 0, none⟩), .pointer (some ⟨g6, 0, none⟩)] W (RetBo W (Pn.out1 p.x f c))) := fun W hB c => plfits1_any W p (hp.below hB) hs f hf g4 g6 t4 t6 (h4.below hB) (h6.below hB) c
  obtain ⟨D, hD⟩ : ∃ D, L.any (Pn.out1 p.x f) = D := ⟨_, rfl⟩
  have HD : Hid ((L.drop 0).any (Pn.out1 p.x f) = D) := hD
  rw [hD]
  clear hL hp hs h4 h6 hD hf
  go_enter Tryz.func186, Tryz.ntmps186
  go_wp2_with fail
  go_loopw [8] (fun iv wr => ∃ i : Nat, i ≤ L.length ∧ iv = .int .i64 (i : Int) ∧ Hid ((L.drop i).any (Pn.out1 p.x f) = D ∧ Below w.heap.size w wr)) (fun iv _ => L.length - (intOf iv).toNat)
  case atStart => exact ⟨0, Nat.zero_le _, by go_num, HD.out, Below.refl _ _⟩
  case round =>
    obtain ⟨i, hi, rfl, HJ⟩ := hrel
    have HE := Lib.hid HJ.out.1
    have HBW := Lib.hid HJ.out.2
    clear HJ
    by_cases hlt : i < L.length
    · have hii : (i : Int) < (L.length : Int) := by omega
      obtain ⟨bb, oo, ha, -, hc⟩ := int_at (HL.out.below HBW.out) hlt
      have HX : Hid ((Pn.out1 p.x f L[i] || (L.drop (i + 1)).any (Pn.out1 p.x f)) = D) := by show _ = _; rw [← any_take_int hlt]; exact HE.out
      rw [ha]
      clear ha
      generalize L[i] = y at hc HX
      go_wp2_with fail
      refine (HC.out wr HBW.out y).mono ?_
      rintro e W8 ⟨rfl, hB8⟩
      have HB8 := Lib.hid (HBW.out.then hB8)
      clear hB8 hc
      cases hb : Pn.out1 p.x f y with
      | true =>
        have HR : Hid (true = D) := by show _ = _; rw [← HX.out, hb]; rfl
        clear hb
        go_wp2_with fail
        go_ret
        exact ⟨i, rfl, by rw [← HR.out]; exact decide_eq_true (by omega), HB8.out⟩
      | false =>
        have HR : Hid ((L.drop (i + 1)).any (Pn.out1 p.x f) = D) := by show _ = _; rw [← HX.out, hb]; rfl
        clear hb
        go_wp2_with fail
        go_roundw
        case rel => exact ⟨i + 1, by omega, by go_num, HR.out, HB8.out⟩
        case measure => simp [intOf]; omega
    · have hii : ¬ (i : Int) < (L.length : Int) := by omega
      have HR : Hid (false = D) := by
        show _ = _
        rw [← HE.out, List.drop_eq_nil_of_le (by omega)]
        rfl
      go_wp2_with fail
      go_ret
      exact ⟨-1, rfl, HR.out, HBW.out⟩
theorem plctn1_any (w : World) (p : Qp) (hp : QpIn w p) (hs : Pn.Sh p.x) (f : Nat) (hf : f < p.x.T.length) (g4 g6 : Nat) (t4 t6 : TypeId) (h4 : Blk w g4 t4 p.cells) (h6 : Blk w g6 t6 [.int .i64 f]) (A : Option Addr) (cc : Nat) (L : List Int) (hL : ERow eInt w A L) (hl : L.length ≤ 1000) :
    Calls Tryz.prog 179 #[.slice A L.length cc, .func (.func 180) #[] #[.pointer (some ⟨g4, 0, none⟩), .pointer (some ⟨g6, 0, none⟩)]] w (RetBo w (L.any (Pn.out1 p.x f))) := by
  have HX := Lib.hid (plidx1_any w p hp hs f hf g4 g6 t4 t6 h4 h6 A cc L hL hl)
  clear hp hs hf h4 h6 hL
  go_enter Tryz.func179, Tryz.ntmps179
  go_wp2_with fail
  refine HX.out.mono ?_
  rintro e W8 ⟨k, rfl, hk, hB8⟩
  have HB8 := Lib.hid hB8
  have HK := Lib.hid hk
  clear hB8 hk
  go_wp2_with fail
  go_ret
  exact ⟨by rw [← HK.out]; rfl, HB8.out⟩
set_option maxRecDepth 20000 in
set_option maxHeartbeats 4000000 in
theorem plfits_any (w : World) (p : Qp) (hp : QpIn w p) (hs : Pn.Sh p.x) (A : Option Addr) (cc : Nat) (hd : DfsIn w A p.x.defs) (f ix : Int) : Calls Tryz.prog 166 #[p.v, .slice A p.x.defs.length cc, .int .i64 f, .int .i64 ix] w (RetBo w (Pn.fits p.x f ix)) := by
  have HP := Lib.hid hp
  have HS := Lib.hid hs
  have HDF := Lib.hid hd
  have hdl := hd.len
  have htl := hs.t4
  have hmf : ∀ (fn : Fn) (first cap : Array Value) (w : World), (Instr.makeFunc fn first cap).run Tryz.prog w = .ok (.func fn first cap) w := fun _ _ _ _ => rfl
  obtain ⟨D, hD⟩ : ∃ D, Pn.fits p.x f ix = D := ⟨_, rfl⟩
  have HD := Lib.hid hD
  rw [hD]
  clear hp hs hD hd
  go_enter Tryz.func166, Tryz.ntmps166
  go_upto_region 1 with (first | (refine wpList_box_qp rfl (.tmp 0) rfl p rfl ?_; intro W1 hb1 hz1 hB1))
  generalize hW2 : World.alloc W1 (.cells _ _) = W2
  obtain ⟨ba2, hz2, hB2⟩ := fresh1 hW2
  clear hW2
  have HQ := Lib.hid (hb1.below hB2)
  have HFB := Lib.hid ba2
  have HB2 := Lib.hid (hB1.then hB2)
  obtain ⟨g4, hg4⟩ : ∃ g, w.heap.size = g := ⟨_, rfl⟩
  obtain ⟨g6, hg6⟩ : ∃ g, W1.heap.size = g := ⟨_, rfl⟩
  rw [hg4] at HQ ⊢
  rw [hg6] at HFB ⊢
  clear hb1 hz1 hB1 ba2 hz2 hB2 hg4 hg6
  obtain ⟨d0, -⟩ := Blk.c1 HFB.out.drew
  obtain ⟨e0, -⟩ := Blk.qp HQ.out.drew
  by_cases h1 : ix < 0
  · have HF : Hid (D = false) := by
      show _ = _
      rw [← HD.out]
      unfold Pn.fits
      rw [decide_eq_false (by omega), Bool.false_and]
    go_upto_region 1 with fail
    refine wp_region_plan (.take 0 (.take 1 (.take 2 (.take 3 (.take 4 (.take 5 (.take 6 (.take 7 (.take 8 (.take 9 (.take 10 (.take 11 (.take 12 (.take 13 (.take 14 (.take 15 (.take 16 (.take 17 (.take 18 (.take 19 (.take 20 (.take 21 (.take 22 (.take 23 (.take 24 (.take 25 (.take 26 (.take 27 (.take 28 (.take 29 (.take 30 (.take 31 (.take 32 (.take 33 (.take 34 (.take 35 (.take 36 (.take 37 (.take 38 (.take 39 (.take 40 .fin))))))))))))))))))))))))))))))))))))))))) (by kernel_rfl) (by kernel_rfl) (by kernel_rfl) (by kernel_rfl) ?_
    repeat' (first | (refine hZ _ _ ?_; clear hZ) | (refine hZ _ ?_; clear hZ) | (refine hZ ?_; clear hZ) | rw [again_nil] | rw [walk_fin] | ((first | rw [walk_take] | rw [walk_run] | rw [again_cons]); intro Z hZ; simp only [sel, List.getElem?_toArray, List.getElem?_cons_zero, List.getElem?_cons_succ]; go_wp2_with (fail)))
    go_wp2_with fail
    go_ret
    exact ⟨by rw [HF.out]; rfl, HB2.out.drewR⟩
  by_cases h2 : (p.x.defs.length : Int) ≤ ix
  · have HF : Hid (D = false) := by
      show _ = _
      rw [← HD.out]
      unfold Pn.fits
      rw [decide_eq_false (by omega), Bool.false_and]
    go_upto_region 1 with fail
    refine wp_region_plan (.take 0 (.take 1 (.take 2 (.take 3 (.take 4 (.take 5 (.take 6 (.take 7 (.take 8 (.take 9 (.take 10 (.take 11 (.take 12 (.take 13 (.take 14 (.take 15 (.take 16 (.take 17 (.take 18 (.take 19 (.take 20 (.take 21 (.take 22 (.take 23 (.take 24 (.take 25 (.take 26 (.take 27 (.take 28 (.take 29 (.take 30 (.take 31 (.take 32 (.take 33 (.take 34 (.take 35 (.take 36 (.take 37 (.take 38 (.take 39 (.take 40 .fin))))))))))))))))))))))))))))))))))))))))) (by kernel_rfl) (by kernel_rfl) (by kernel_rfl) (by kernel_rfl) ?_
    repeat' (first | (refine hZ _ _ ?_; clear hZ) | (refine hZ _ ?_; clear hZ) | (refine hZ ?_; clear hZ) | rw [again_nil] | rw [walk_fin] | ((first | rw [walk_take] | rw [walk_run] | rw [again_cons]); intro Z hZ; simp only [sel, List.getElem?_toArray, List.getElem?_cons_zero, List.getElem?_cons_succ]; go_wp2_with (fail)))
    go_wp2_with fail
    go_ret
    exact ⟨by rw [HF.out]; rfl, HB2.out.drewR⟩
  by_cases h3 : f < 0
  · have HF : Hid (D = false) := by
      show _ = _
      rw [← HD.out]
      unfold Pn.fits
      rw [decide_eq_false (by omega), Bool.false_and]
    go_upto_region 1 with fail
    refine wp_region_plan (.take 0 (.take 1 (.take 2 (.take 3 (.take 4 (.take 5 (.take 6 (.take 7 (.take 8 (.take 9 (.take 10 (.take 11 (.take 12 (.take 13 (.take 14 (.take 15 (.take 16 (.take 17 (.take 18 (.take 19 (.take 20 (.take 21 (.take 22 (.take 23 (.take 24 (.take 25 (.take 26 (.take 27 (.take 28 (.take 29 (.take 30 (.take 31 (.take 32 (.take 33 (.take 34 (.take 35 (.take 36 (.take 37 (.take 38 (.take 39 (.take 40 .fin))))))))))))))))))))))))))))))))))))))))) (by kernel_rfl) (by kernel_rfl) (by kernel_rfl) (by kernel_rfl) ?_
    repeat' (first | (refine hZ _ _ ?_; clear hZ) | (refine hZ _ ?_; clear hZ) | (refine hZ ?_; clear hZ) | rw [again_nil] | rw [walk_fin] | ((first | rw [walk_take] | rw [walk_run] | rw [again_cons]); intro Z hZ; simp only [sel, List.getElem?_toArray, List.getElem?_cons_zero, List.getElem?_cons_succ]; go_wp2_with (fail)))
    go_wp2_with fail
    go_ret
    exact ⟨by rw [HF.out]; rfl, HB2.out.drewR⟩
  by_cases h4 : (p.x.T.length : Int) ≤ f
  · have HF : Hid (D = false) := by
      show _ = _
      rw [← HD.out]
      unfold Pn.fits
      rw [decide_eq_false (by omega), Bool.false_and]
    go_upto_region 1 with fail
    refine wp_region_plan (.take 0 (.take 1 (.take 2 (.take 3 (.take 4 (.take 5 (.take 6 (.take 7 (.take 8 (.take 9 (.take 10 (.take 11 (.take 12 (.take 13 (.take 14 (.take 15 (.take 16 (.take 17 (.take 18 (.take 19 (.take 20 (.take 21 (.take 22 (.take 23 (.take 24 (.take 25 (.take 26 (.take 27 (.take 28 (.take 29 (.take 30 (.take 31 (.take 32 (.take 33 (.take 34 (.take 35 (.take 36 (.take 37 (.take 38 (.take 39 (.take 40 .fin))))))))))))))))))))))))))))))))))))))))) (by kernel_rfl) (by kernel_rfl) (by kernel_rfl) (by kernel_rfl) ?_
    repeat' (first | (refine hZ _ _ ?_; clear hZ) | (refine hZ _ ?_; clear hZ) | (refine hZ ?_; clear hZ) | rw [again_nil] | rw [walk_fin] | ((first | rw [walk_take] | rw [walk_run] | rw [again_cons]); intro Z hZ; simp only [sel, List.getElem?_toArray, List.getElem?_cons_zero, List.getElem?_cons_succ]; go_wp2_with (fail)))
    go_wp2_with fail
    go_ret
    exact ⟨by rw [HF.out]; rfl, HB2.out.drewR⟩
  obtain ⟨i, rfl⟩ : ∃ i : Nat, ix = (i : Int) := ⟨ix.toNat, by omega⟩
  obtain ⟨k, rfl⟩ : ∃ k : Nat, f = (k : Int) := ⟨f.toNat, by omega⟩
  have hi : i < p.x.defs.length := by omega
  have hk : k < p.x.T.length := by omega
  have hii : (i : Int) < (p.x.defs.length : Int) := by omega
  have hkk : (k : Int) < (p.x.T.length : Int) := by omega
  obtain ⟨d, hd⟩ : ∃ d, p.x.defs[i] = d := ⟨_, rfl⟩
  have HDE : Hid (Pn.fitsD p.x k d = D) := by
    show _ = _
    rw [← HD.out]
    unfold Pn.fits
    rw [decide_eq_true (⟨by omega, hii, by omega, hkk⟩ : 0 ≤ (i : Int) ∧ (i : Int) < (p.x.defs.length : Int) ∧ 0 ≤ (k : Int) ∧ (k : Int) < (p.x.T.length : Int)), Bool.true_and, Int.toNat_natCast, Int.toNat_natCast]
    congr 1
    rw [← hd]
    simp [List.getD, hi]
  have hdm : d ∈ p.x.defs := by rw [← hd]; exact List.getElem_mem hi
  obtain ⟨t, ht⟩ : ∃ t, p.x.T[k] = t := ⟨_, rfl⟩
  have htg : p.x.T.getD k 0 = t := by rw [← ht]; simp [List.getD, hk]
  have HDE : Hid ((d.t == t && !d.cols.isEmpty && !d.cols.any (Pn.out1 p.x k)) = D) := by show _ = _; rw [← HDE.out, Pn.fitsD_out, htg]
  clear htg HD
  obtain ⟨bb, oo, ha, -, q0, q1⟩ := df_at (HDF.out.r.below HB2.out.drewR) hi
  obtain ⟨bt, ot, hat, -, q2⟩ := int_at (HP.out.t.below HB2.out.drewR) hk
  rw [hd] at q0 q1
  rw [ht] at q2
  rw [ha]
  rw [hat] at e0
  have HCR := Lib.hid (HDF.out.cr d hdm)
  have hcl := HDF.out.cl d hdm
  clear hd ht ha hat hdm h1 h2 h3 h4
  by_cases h5 : d.t = t
  · have h5b : (d.t != t) = false := by simp [h5]
    have HDE2 : Hid ((!d.cols.isEmpty && !d.cols.any (Pn.out1 p.x k)) = D) := by show _ = _; rw [← HDE.out, h5]; simp
    by_cases h6 : d.cols.length = 0
    · have h6b : ((d.cols.length : Int) == 0) = true := by simp [h6]
      have HF : Hid (D = false) := by show _ = _; rw [← HDE2.out, List.length_eq_zero_iff.1 h6]; rfl
      clear h5 h6
      go_upto_region 1 with fail
      refine wp_region_plan (.take 0 (.take 1 (.take 2 (.take 3 (.take 4 (.take 5 (.take 6 (.take 7 (.take 8 (.take 9 (.take 10 (.take 11 (.take 12 (.take 13 (.take 14 (.take 15 (.take 16 (.take 17 (.take 18 (.take 19 (.take 20 (.take 21 (.take 22 (.take 23 (.take 24 (.take 25 (.take 26 (.take 27 (.take 28 (.take 29 (.take 30 (.take 31 (.take 32 (.take 33 (.take 34 (.take 35 (.take 36 (.take 37 (.take 38 (.take 39 (.take 40 .fin))))))))))))))))))))))))))))))))))))))))) (by kernel_rfl) (by kernel_rfl) (by kernel_rfl) (by kernel_rfl) ?_
      repeat' (first | (refine hZ _ _ ?_; clear hZ) | (refine hZ _ ?_; clear hZ) | (refine hZ ?_; clear hZ) | rw [again_nil] | rw [walk_fin] | ((first | rw [walk_take] | rw [walk_run] | rw [again_cons]); intro Z hZ; simp only [sel, List.getElem?_toArray, List.getElem?_cons_zero, List.getElem?_cons_succ]; go_wp2_with (fail)))
      go_wp2_with fail
      go_ret
      exact ⟨by rw [HF.out]; rfl, HB2.out.drewR⟩
    · have h6b : ((d.cols.length : Int) == 0) = false := by rw [beq_eq_false_iff_ne]; omega
      have HDE3 : Hid ((!d.cols.any (Pn.out1 p.x k)) = D) := by
        show _ = _
        rw [← HDE2.out]
        have : d.cols.isEmpty = false := by cases hc : d.cols with | nil => rw [hc] at h6; exact absurd rfl h6 | cons a l => rfl
        rw [this]; rfl
      clear h5 h6 HDE HDE2
      go_upto_region 1 with fail
      refine wp_region_plan (.take 0 (.take 1 (.take 2 (.take 3 (.take 4 (.take 5 (.take 6 (.take 7 (.take 8 (.take 9 (.take 10 (.take 11 (.take 12 (.take 13 (.take 14 (.take 15 (.take 16 (.take 17 (.take 18 (.take 19 (.take 20 (.take 21 (.take 22 (.take 23 (.take 24 (.take 25 (.take 26 (.take 27 (.take 28 (.take 29 (.take 30 (.take 31 (.take 32 (.take 33 (.take 34 (.take 35 (.take 36 (.take 37 (.take 38 (.take 39 (.take 40 .fin))))))))))))))))))))))))))))))))))))))))) (by kernel_rfl) (by kernel_rfl) (by kernel_rfl) (by kernel_rfl) ?_
      repeat' (first | (refine hZ _ _ ?_; clear hZ) | (refine hZ _ ?_; clear hZ) | (refine hZ ?_; clear hZ) | rw [again_nil] | rw [walk_fin] | ((first | rw [walk_take] | rw [walk_run] | rw [again_cons]); intro Z hZ; simp only [sel, List.getElem?_toArray, List.getElem?_cons_zero, List.getElem?_cons_succ]; go_wp2_with (fail)))
      have HBD : Hid (Below w.heap.size w W2.drew) := HB2.out.drewR
      have HCC := Lib.hid (plctn1_any W2.drew p (HP.out.below HBD.out) HS.out k hk g4 g6 _ _ HQ.out.drew HFB.out.drew d.a d.c d.cols (HCR.out.below HBD.out) hcl)
      go_wp2_with fail
      refine HCC.out.mono ?_
      rintro e W8 ⟨rfl, hB8⟩
      have HB8 := Lib.hid (HBD.out.then hB8)
      clear hB8
      go_wp2_with fail
      go_ret
      exact ⟨by rw [← HDE3.out]; rfl, HB8.out⟩
  · have h5b : (d.t != t) = true := by simp [h5]
    have HF : Hid (D = false) := by show _ = _; rw [← HDE.out]; simp [h5]
    clear h5
    go_upto_region 1 with fail
    refine wp_region_plan (.take 0 (.take 1 (.take 2 (.take 3 (.take 4 (.take 5 (.take 6 (.take 7 (.take 8 (.take 9 (.take 10 (.take 11 (.take 12 (.take 13 (.take 14 (.take 15 (.take 16 (.take 17 (.take 18 (.take 19 (.take 20 (.take 21 (.take 22 (.take 23 (.take 24 (.take 25 (.take 26 (.take 27 (.take 28 (.take 29 (.take 30 (.take 31 (.take 32 (.take 33 (.take 34 (.take 35 (.take 36 (.take 37 (.take 38 (.take 39 (.take 40 .fin))))))))))))))))))))))))))))))))))))))))) (by kernel_rfl) (by kernel_rfl) (by kernel_rfl) (by kernel_rfl) ?_
    repeat' (first | (refine hZ _ _ ?_; clear hZ) | (refine hZ _ ?_; clear hZ) | (refine hZ ?_; clear hZ) | rw [again_nil] | rw [walk_fin] | ((first | rw [walk_take] | rw [walk_run] | rw [again_cons]); intro Z hZ; simp only [sel, List.getElem?_toArray, List.getElem?_cons_zero, List.getElem?_cons_succ]; go_wp2_with (fail)))
    go_wp2_with fail
    go_ret
    exact ⟨by rw [HF.out]; rfl, HB2.out.drewR⟩
end Go.Proofs.YtpahkaffknnjhaaGreatDoor
end

section
namespace Go.Proofs.YtpahkaffknnjhaaGreatDoor
set_option linter.unusedSimpArgs false
set_option linter.unusedVariables false
open Go.RowKit
theorem Blk.wq {w : World} {g : Nat} {t : TypeId} {p : Qp} {r : List Value} (h : Blk w g t (p.cells ++ r)) : w.cell? ⟨g, 1, none⟩ = some (.slice p.ba p.x.B.length p.bc) ∧ w.cell? ⟨g, 3, none⟩ = some (.slice p.wa p.x.wh.length p.wc) := ⟨h.cell 1, h.cell 3⟩
theorem Blk.wd {w : World} {g : Nat} {t : TypeId} {p : Qp} {v : Value} {r : List Value} (h : Blk w g t (p.cells ++ v :: r)) : w.cell? ⟨g, 9, none⟩ = some v := h.cell 9
namespace Pn
end Pn
end Go.Proofs.YtpahkaffknnjhaaGreatDoor
end

section
namespace Go.Proofs.YtpahkaffknnjhaaGreatDoor
set_option linter.unusedSimpArgs false
set_option linter.unusedVariables false
open Go.RowKit
set_option maxRecDepth 20000 in
set_option maxHeartbeats 1000000 in
theorem plcol_any (w : World) (g : Nat) (t : TypeId) (p : Qp) (da : Option Addr) (dc : Nat) (r : List Value) (hb : Blk w g t (p.cells ++ .slice da p.x.defs.length dc :: r)) (hp : QpIn w p) (hs : Pn.Sh p.x) (hd : DfsIn w da p.x.defs) (f i j : Nat) (hf : f < p.x.T.length) (hi : i < p.x.defs.length) (hj : j < p.x.defs[i].cols.length)
    (h0 : 0 ≤ p.x.defs[i].cols[j]) (h1 : p.x.defs[i].cols[j] ≤ 24) :
    Calls Tryz.prog 168 #[.pointer (some ⟨g, 0, none⟩), .int .i64 f, .int .i64 i, .int .i64 j] w fun e w' => e = .returned (.int .i64 (Pn.b p.x f + p.x.defs[i].cols[j])) ∧ Below w.heap.size w w' := by
  have hl := hs.lt f hf
  have hfB : f < p.x.B.length := by rw [hs.bl]; exact hf
  have hf4 := hs.t4
  have hfi : (f : Int) < (p.x.B.length : Int) := by omega
  have hdl := hd.len
  have hii : (i : Int) < (p.x.defs.length : Int) := by omega
  obtain ⟨d, hd0⟩ : ∃ d, p.x.defs[i] = d := ⟨_, rfl⟩
  have hdm : d ∈ p.x.defs := by rw [← hd0]; exact List.getElem_mem hi
  have hcl := hd.cl d hdm
  obtain ⟨bb, oo, ha, -, hc0⟩ := int_at (hp.b.below (Below.refl w.heap.size w).drewR) hfB
  have hc : w.drew.cell? ⟨bb, oo + f, none⟩ = some (.int .i64 (Pn.b p.x f)) := by rw [← Pn.b_get hfB]; exact hc0
  obtain ⟨bd, od, had, -, -, q1⟩ := df_at (hd.r.below (Below.refl w.heap.size w).drewR) hi
  simp only [hd0] at hj h0 h1 q1 ⊢
  have hjj : (j : Int) < (d.cols.length : Int) := by omega
  obtain ⟨bc, oc, hac, -, q2⟩ := int_at ((hd.cr d hdm).below (Below.refl w.heap.size w).drewR) hj
  obtain ⟨c1, -⟩ := Blk.wq hb.drew
  have c9 := Blk.wd hb.drew
  rw [ha] at c1
  rw [had] at c9
  rw [hac] at q1
  generalize d.cols[j] = v at h0 h1 q2 ⊢
  clear hp hs hd ha had hac hc0 hb hdm hd0
  go_enter Tryz.func168, Tryz.ntmps168
  go_upto_region 1 with fail
  refine wp_region_plan (.take 0 (.take 1 (.take 2 (.take 3 (.take 4 (.take 5 (.take 6 (.take 7 (.take 8 (.take 9 (.take 10 (.take 11 (.take 12 (.take 13 (.take 14 (.take 15 (.take 16 (.take 17 (.take 18 (.take 19 (.take 20 .fin))))))))))))))))))))) (by kernel_rfl) (by kernel_rfl) (by kernel_rfl) (by kernel_rfl) ?_
  repeat' (first | (refine hZ _ _ ?_; clear hZ) | (refine hZ _ ?_; clear hZ) | (refine hZ ?_; clear hZ) | rw [again_nil] | rw [walk_fin] | ((first | rw [walk_take] | rw [walk_run] | rw [again_cons]); intro Z hZ; simp only [sel, List.getElem?_toArray, List.getElem?_cons_zero, List.getElem?_cons_succ]; go_wp2_with (fail)))
  go_wp2_with fail
  go_ret
  exact ⟨rfl, (Below.refl _ _).drewR⟩
end Go.Proofs.YtpahkaffknnjhaaGreatDoor
end

section
namespace Go.Proofs.YtpahkaffknnjhaaGreatDoor
set_option linter.unusedSimpArgs false
set_option linter.unusedVariables false
open Go.RowKit
def eStr : Elem (List UInt8) where
  e := 9
  t := 49
  sz := 1
  bytes := 16
  zero := .string ByteArray.empty
  code := fun n => [txt n]
  pos := by decide
  few := by decide
  len := fun _ => rfl
  one := by
    intro x u hu
    simp at hu
    subst hu
    rfl
  zsz := rfl
  info := by kernel_rfl
  under := Tryz.underlying49
theorem str_at {w : World} {A : Option Addr} {L : List (List UInt8)} (h : ERow eStr w A L) {i : Nat} (hi : i < L.length) : ∃ b o, A = some ⟨b, o, none⟩ ∧ b < w.heap.size ∧ w.cell? ⟨b, o + i, none⟩ = some (txt L[i]) := by
  obtain ⟨b, o, e, hb, hc⟩ := h.at_ hi
  have := hc 0 _ rfl
  simp only [eStr, Nat.mul_one, Nat.add_zero] at this
  exact ⟨b, o, e, hb, this⟩
theorem strs_drop (L : List (List UInt8)) (x : List UInt8) (i : Nat) (hi : i < L.length) : (L.drop i).contains x = (x == L[i] || (L.drop (i + 1)).contains x) := by
  rw [List.drop_eq_getElem_cons hi, List.contains_cons]
def RetIs (w : World) (b : Bool) (e : Ending) (w' : World) : Prop := ∃ k : Int, e = .returned (.int .i64 k) ∧ decide (0 ≤ k) = b ∧ w = w'
set_option maxRecDepth 20000 in
set_option maxHeartbeats 1000000 in
theorem sindex_any (w : World) (A : Option Addr) (c : Nat) (L : List (List UInt8)) (hL : ERow eStr w A L) (hl : L.length ≤ 1000000) (x : List UInt8) :
    Calls Tryz.prog 187 #[.slice A L.length c, txt x] w (RetIs w (L.contains x)) := by
  have HL := Lib.hid hL
  clear hL
  obtain ⟨C, hC⟩ : ∃ C, L.contains x = C := ⟨_, rfl⟩
  have HC := Lib.hid hC
  rw [hC]
  clear hC
  have keq := run_str_eq
  have geq := eqg_eq
  go_enter Tryz.func187, Tryz.ntmps187
  go_wp2_with fail
  go_loopw [8] (fun iv wr => ∃ i : Nat, i ≤ L.length ∧ iv = .int .i64 (i : Int) ∧ Hid ((L.drop i).contains x = C ∧ w = wr)) (fun iv _ => L.length - (intOf iv).toNat)
  case atStart => exact ⟨0, Nat.zero_le _, by go_num, HC.out, rfl⟩
  case round =>
    obtain ⟨i, hi, rfl, HJ⟩ := hrel
    obtain ⟨hd, rfl⟩ := HJ.out
    have HD := Lib.hid hd
    clear HJ hd
    by_cases hlt : i < L.length
    · have hii : (i : Int) < (L.length : Int) := by omega
      obtain ⟨bb, oo, ha, -, hc⟩ := str_at HL.out hlt
      have HX : Hid ((x == L[i] || (L.drop (i + 1)).contains x) = C) := by show _ = _; rw [← strs_drop L x i hlt]; exact HD.out
      rw [ha]
      clear ha
      generalize L[i] = y at hc HX
      cases hxy : x == y with
      | true =>
        have HR : Hid (true = C) := by show _ = _; rw [← HX.out, hxy]; rfl
        go_wp2_with fail
        go_ret
        exact ⟨i, rfl, by rw [← HR.out]; exact decide_eq_true (by omega), rfl⟩
      | false =>
        have HR : Hid ((L.drop (i + 1)).contains x = C) := by show _ = _; rw [← HX.out, hxy]; rfl
        go_wp2_with fail
        go_roundw
        case rel => exact ⟨i + 1, by omega, by go_num, HR.out, trivial⟩
        case measure => simp [intOf]; omega
    · have hii : ¬ (i : Int) < (L.length : Int) := by omega
      have HR : Hid (false = C) := by
        show _ = _
        rw [← HD.out, List.drop_eq_nil_of_le (by omega)]
        rfl
      go_wp2_with fail
      go_ret
      exact ⟨-1, rfl, HR.out, rfl⟩
set_option maxRecDepth 20000 in
theorem scontains_any (w : World) (A : Option Addr) (c : Nat) (L : List (List UInt8)) (hL : ERow eStr w A L) (hl : L.length ≤ 1000000) (x : List UInt8) :
    Calls Tryz.prog 183 #[.slice A L.length c, txt x] w fun e w' => e = .returned (.bool (L.contains x)) ∧ w = w' := by
  have HL := Lib.hid hL
  clear hL
  obtain ⟨C, hC⟩ : ∃ C, L.contains x = C := ⟨_, rfl⟩
  have HC := Lib.hid (sindex_any w A c L HL.out hl x)
  rw [hC] at HC ⊢
  clear hC
  go_enter Tryz.func183, Tryz.ntmps183
  go_wp2_with fail
  refine HC.out.mono ?_
  rintro e W2 ⟨k, rfl, hk, rfl⟩
  have HK := Lib.hid hk
  clear hk
  go_wp2_with fail
  go_ret
  exact ⟨by rw [← HK.out]; rfl, rfl⟩
end Go.Proofs.YtpahkaffknnjhaaGreatDoor
end

section
namespace Go.Proofs.YtpahkaffknnjhaaGreatDoor
set_option linter.unusedSimpArgs false
set_option linter.unusedVariables false
open Go.RowKit
namespace Pn
def agF (x : PX) (y z : Nd) (op : List UInt8) (at_ : Int) (given : Nat) (ops : List (List UInt8)) (i : Nat) : Bool :=
  if i = 0 then agHit x y z op at_ given ops || agHit x z y (Ev.turnS op) at_ given ops else if i = 1 then agHit x z y (Ev.turnS op) at_ given ops else false
theorem agst_no {x : PX} {n : Nd} {at_ : Int} {given : Nat} {ops : List (List UInt8)} (h : n.k ≠ 7 ∨ n.args.length ≠ 2) : agst x n at_ given ops = false := by
  unfold agst
  by_cases hk : n.k = 7
  · have hl : n.args.length ≠ 2 := h.resolve_left (fun e => e hk)
    match n.args, hl with
    | [], _ => simp
    | [_], _ => simp
    | [_, _], h => exact absurd rfl h
    | _ :: _ :: _ :: _, _ => simp
  · rw [beq_eq_false_iff_ne.2 hk, Bool.false_and]
theorem agst_two {x : PX} {n y z : Nd} {at_ : Int} {given : Nat} {ops : List (List UInt8)} (hk : n.k = 7) (h : n.args = [y, z]) : agst x n at_ given ops = agF x y z n.op at_ given ops 0 := by
  unfold agst
  rw [hk, h]
  rfl
end Pn
set_option maxRecDepth 20000 in
set_option maxHeartbeats 8000000 in
theorem plagst_any (w : World) (p : Qp) (hp : QpIn w p) (hB4 : p.x.B.length ≤ 4) (n : Nd) (hn : NodeIn w n) (at_ : Int) (given : Nat) (hg16 : given < 16) (A : Option Addr) (c : Nat) (ops : List (List UInt8)) (hO : ERow eStr w A ops) (hl : ops.length ≤ 1000) :
    Calls Tryz.prog 169 #[p.v, n.v, .int .i64 at_, .int .u8 given, .slice A ops.length c] w (RetBo w (Pn.agst p.x n at_ given ops)) := by
  have HP := Lib.hid hp
  have HO := Lib.hid hO
  have hin := hn
  cases hin with
  | mk hr hin hlit hls hk hat hcc hm =>
  have hcm : n.args.length ≤ 9223372036854775807 := by unfold maxLen at hm; omega
  have HR := Lib.hid hr
  have HI := Lib.hid hin
  have HAK := Lib.hid (plasks_any w p hp hB4)
  obtain ⟨D, hD⟩ : ∃ D, Pn.agst p.x n at_ given ops = D := ⟨_, rfl⟩
  have HD := Lib.hid hD
  rw [hD]
  clear hp hO hr hin hlit hls hk hat hcc hm hD hn
  go_enter Tryz.func169, Tryz.ntmps169
  go_upto_region 1 with (first | (refine wpList_box_qp rfl (.tmp 0) rfl p rfl ?_; intro W1 hb1 hz1 hB1) | (refine wpList_box_nd rfl (.tmp 1) rfl n rfl ?_; intro W2 hb2 hz2 hB2))
  have hb12 := hb1.below hB2
  have HB2 := Lib.hid (hB1.then hB2)
  obtain ⟨g5, hg5⟩ : ∃ g, w.heap.size = g := ⟨_, rfl⟩
  have HQ : Hid (Blk W2 g5 26 p.cells) := by show Blk _ _ _ _; rw [← hg5]; exact hb12
  rw [hg5]
  clear hb1 hB1 hB2 hz2 hz1 hb12 hg5
  generalize W1.heap.size = g6 at hb2 ⊢
  have HNB := Lib.hid hb2
  obtain ⟨c0, -, -, -, -, -, -, -, -, c9, -⟩ := Blk.c10 hb2
  clear hb2
  by_cases hk : n.k = 7
  · have hkb : (n.k != 7) = false := by simp [hk]
    by_cases h2 : n.args.length = 2
    · have h2b : ((n.args.length : Int) != 2) = false := by simp [h2]
      obtain ⟨a, b, hab⟩ : ∃ a b, n.args = [a, b] := by
        match n.args, h2 with
        | [a, b], _ => exact ⟨a, b, rfl⟩
      have HE0 : Hid (Pn.agF p.x a b n.op at_ given ops 0 = D) := by show _ = _; rw [← HD.out, Pn.agst_two hk hab]
      have HAB := Lib.hid hab
      obtain ⟨op, hop⟩ : ∃ op, n.op = op := ⟨_, rfl⟩
      have HOP := Lib.hid hop
      rw [hop] at HE0
      clear hk h2 hab hop HD
      go_upto_region 4 with fail
      clear c0 c9 hkb h2b
      go_loopw [28] (fun iv wr => ∃ i : Nat, i ≤ 2 ∧ iv = .int .i64 (i : Int) ∧ Hid (Pn.agF p.x a b op at_ given ops i = D ∧ Below W2.heap.size W2 wr)) (fun iv _ => 2 - (intOf iv).toNat)
      case atStart => exact ⟨0, by omega, by go_num, HE0.out, Below.refl _ _⟩
      case round =>
        obtain ⟨i, hi, rfl, HJ⟩ := hrel
        have HE := Lib.hid HJ.out.1
        have HBW := Lib.hid HJ.out.2
        clear HJ
        have HLEN : Hid (n.args.length = 2) := by show _ = _; rw [HAB.out]; rfl
        have hi3 : i = 0 ∨ i = 1 ∨ i = 2 := by omega
        rcases hi3 with rfl | rfl | rfl
        · have hj : 0 < n.args.length := by have := HLEN.out; omega
          have hjz : 1 - 0 < n.args.length := by have := HLEN.out; omega
          have hji : (0 : Int) < (n.args.length : Int) := by omega
          have hjzi : (1 - 0 : Int) < (n.args.length : Int) := by omega
          obtain ⟨bb, oo, haa, -, -⟩ := HR.out.at_ hj
          have HIW : Hid (∀ W, Below W2.heap.size W2 W → ERow eNd W (some ⟨bb, oo, none⟩) n.args) := fun W hW => by rw [← haa]; exact HR.out.below (HB2.out.then hW)
          have HGX : Hid (n.args[0] = a) := by show _ = _; simp [HAB.out]
          have HGZ : Hid (n.args[1 - 0] = b) := by show _ = _; simp [HAB.out]
          have HZI := Lib.hid (HI.out b (by rw [HAB.out]; simp))
          have HHB : Hid (∀ W, Below W2.heap.size W2 W → W.cell? ⟨g6, 1, none⟩ = some (txt op) ∧ W.cell? ⟨g6, 9, none⟩ = some (.slice (some ⟨bb, oo, none⟩) n.args.length n.c)) := fun W hW => by
            obtain ⟨-, q1, -, -, -, -, -, -, -, q9, -⟩ := Blk.c10 (HNB.out.below hW)
            rw [HOP.out] at q1
            rw [haa] at q9
            exact ⟨q1, q9⟩
          rw [haa]
          clear haa
          go_upto_region 6 with (first | (refine wpList_load_nd_is rfl (.tmp 31) rfl (HIW.out _ HBW.out) hj a HGX.out rfl ?_) | (refine wpList_alloc_nd rfl rfl ?_; intro W6 hb6 hz6 hB6) | (refine wpList_store_nd rfl rfl (.tmp 12) (.tmp 32) rfl wr.heap.size rfl a rfl hb6 ?_; intro W7 hb7 hg7))
          have HB7 := Lib.hid (below_of_grown (HBW.out.then hB6) hg7 HBW.out.size (Nat.le_trans HBW.out.size hB6.size))
          clear hb6 hz6 hB6 hg7
          generalize wr.heap.size = g12 at hb7 ⊢
          obtain ⟨q1, -⟩ := HHB.out W7 HB7.out
          have HSTEP : Hid ((Pn.agHit p.x a b op at_ given ops || Pn.agF p.x a b op at_ given ops 1) = D) := by show _ = _; rw [← HE.out]; rfl
          go_upto_region 9 with fail
          clear q1
          have HBD : Hid (Below W2.heap.size W2 W7.drew) := HB7.out.drewR
          obtain ⟨-, q9⟩ := HHB.out W7.drew HBD.out
          have hqd := HQ.out.below HBD.out
          have HIR := Lib.hid (HIW.out W7.drew HBD.out)
          refine wp_region_plan (.take 0 (.take 1 (.take 2 (.take 3 (.take 4 (.take 5 (.take 6 (.run 7 [] (.take 8 (.take 9 (.take 10 (.take 11 (.take 12 .fin))))))))))))) (by kernel_rfl) (by kernel_rfl) (by kernel_rfl) (by kernel_rfl) ?_
          repeat' (first | (refine hZ _ _ ?_; clear hZ) | (refine hZ _ ?_; clear hZ) | (refine hZ ?_; clear hZ) | rw [again_nil] | rw [walk_fin] | ((first | rw [walk_take] | rw [walk_run] | rw [again_cons]); intro Z hZ; simp only [sel, List.getElem?_toArray, List.getElem?_cons_zero, List.getElem?_cons_succ]; go_wp2_with (first | (refine wpList_load_qp0 rfl (.tmp 5) rfl g5 rfl hqd ?_) | (refine wpList_load_nd_is rfl (.tmp 45) rfl HIR.out hjz b HGZ.out rfl ?_))))
          refine (HAK.out b HZI.out W7.drew (HB2.out.then HBD.out)).mono ?_
          rintro e W9 ⟨rfl, hB9⟩
          have HB9 := Lib.hid (HBD.out.then hB9)
          have hx9 := hb7.drew.below hB9
          obtain ⟨am, ham⟩ : ∃ am, (Pn.asks p.x b).1 = am := ⟨_, rfl⟩
          obtain ⟨ao, hao⟩ : ∃ ao, (Pn.asks p.x b).2 = ao := ⟨_, rfl⟩
          have HAM := Lib.hid ham
          have HAO := Lib.hid hao
          have hlt16 := Pn.asks_lt hB4 b
          rw [ham, hao]
          rw [ham] at hlt16
          clear ham hao
          have ham := hlt16
          clear hlt16 hB9 hqd q9 HIR hb7
          go_wp2_with fail
          repeat' (first | (refine hZ _ _ ?_; clear hZ) | (refine hZ _ ?_; clear hZ) | (refine hZ ?_; clear hZ) | rw [again_nil] | rw [walk_fin] | ((first | rw [walk_take] | rw [walk_run] | rw [again_cons]); intro Z hZ; simp only [sel, List.getElem?_toArray, List.getElem?_cons_zero, List.getElem?_cons_succ]; go_wp2_with (fail)))
          obtain ⟨x0, -, -, -, -, -, x6, -, -, -, -⟩ := Blk.c10 hx9
          by_cases h2 : a.k = 2
          · have h2b : (a.k == 2) = true := by simp [h2]
            by_cases hat : a.at_ = at_
            · have hab : (a.at_ == at_) = true := by simp [hat]
              cases hao : ao with
              | true =>
                have hao2 : (Pn.asks p.x b).2 = true := HAO.out.trans hao
                subst hao
                clear h2 hat
                have HN2 : Hid (Pn.agF p.x a b op at_ given ops 1 = D) := by
                  show _ = _
                  rw [← HSTEP.out, show Pn.agHit p.x a b (op) at_ given ops = false by unfold Pn.agHit; simp [hao2]]
                  rfl
                go_wp2_with fail
                go_roundw
                case rel => exact ⟨1, by omega, by go_num, HN2.out, HB9.out⟩
                case measure => simp [intOf]
              | false =>
                have hao2 : (Pn.asks p.x b).2 = false := HAO.out.trans hao
                subst hao
                cases hsub : Pn.sub am given with
                | false =>
                  have hs2 : Pn.sub (Pn.asks p.x b).1 given = false := by rw [HAM.out]; exact hsub
                  have ha8 : (bits BinOp.andNot IntKind.u8 (am : Int) (given : Int) == 0) = false := by rw [← hsub]; exact andNot8 am ham given hg16
                  clear h2 hat hsub
                  have HN2 : Hid (Pn.agF p.x a b op at_ given ops 1 = D) := by
                    show _ = _
                    rw [← HSTEP.out, show Pn.agHit p.x a b (op) at_ given ops = false by unfold Pn.agHit; simp [hs2]]
                    rfl
                  go_wp2_with fail
                  go_roundw
                  case rel => exact ⟨1, by omega, by go_num, HN2.out, HB9.out⟩
                  case measure => simp [intOf]
                | true =>
                  have hs2 : Pn.sub (Pn.asks p.x b).1 given = true := by rw [HAM.out]; exact hsub
                  have ha8 : (bits BinOp.andNot IntKind.u8 (am : Int) (given : Int) == 0) = true := by rw [← hsub]; exact andNot8 am ham given hg16
                  have HSC := Lib.hid (scontains_any W9 A c ops (HO.out.below (HB2.out.then HB9.out)) (by omega) (op))
                  have HHIT : Hid (Pn.agHit p.x a b (op) at_ given ops = ops.contains (op)) := by show _ = _; unfold Pn.agHit; simp [h2, hat, hao2, hs2]
                  clear h2 hat hsub
                  go_wp2_with fail
                  refine HSC.out.mono ?_
                  rintro e w10 ⟨rfl, rfl⟩
                  obtain ⟨C, hC⟩ : ∃ C, ops.contains (op) = C := ⟨_, rfl⟩
                  have HC := Lib.hid hC
                  rw [hC]
                  clear hC HSC
                  cases C with
                  | true =>
                    have HF : Hid (D = true) := by show _ = _; rw [← HSTEP.out, HHIT.out, HC.out]; rfl
                    go_wp2_with fail
                    go_ret
                    exact ⟨by rw [HF.out]; rfl, HB2.out.then HB9.out⟩
                  | false =>
                    have HN2 : Hid (Pn.agF p.x a b op at_ given ops 1 = D) := by show _ = _; rw [← HSTEP.out, HHIT.out, HC.out]; rfl
                    go_wp2_with fail
                    go_roundw
                    case rel => exact ⟨1, by omega, by go_num, HN2.out, HB9.out⟩
                    case measure => simp [intOf]
            · have hab : (a.at_ == at_) = false := by simp [hat]
              have HN2 : Hid (Pn.agF p.x a b op at_ given ops 1 = D) := by
                show _ = _
                rw [← HSTEP.out, show Pn.agHit p.x a b (op) at_ given ops = false by unfold Pn.agHit; simp [hat]]
                rfl
              go_wp2_with fail
              go_roundw
              case rel => exact ⟨1, by omega, by go_num, HN2.out, HB9.out⟩
              case measure => simp [intOf]
          · have h2b : (a.k == 2) = false := by simp [h2]
            have HN2 : Hid (Pn.agF p.x a b op at_ given ops 1 = D) := by
              show _ = _
              rw [← HSTEP.out, show Pn.agHit p.x a b (op) at_ given ops = false by unfold Pn.agHit; simp [h2]]
              rfl
            go_wp2_with fail
            go_roundw
            case rel => exact ⟨1, by omega, by go_num, HN2.out, HB9.out⟩
            case measure => simp [intOf]
        · have hj : 1 < n.args.length := by have := HLEN.out; omega
          have hjz : 1 - 1 < n.args.length := by have := HLEN.out; omega
          have hji : (1 : Int) < (n.args.length : Int) := by omega
          have hjzi : (1 - 1 : Int) < (n.args.length : Int) := by omega
          obtain ⟨bb, oo, haa, -, -⟩ := HR.out.at_ hj
          have HIW : Hid (∀ W, Below W2.heap.size W2 W → ERow eNd W (some ⟨bb, oo, none⟩) n.args) := fun W hW => by rw [← haa]; exact HR.out.below (HB2.out.then hW)
          have HGX : Hid (n.args[1] = b) := by show _ = _; simp [HAB.out]
          have HGZ : Hid (n.args[1 - 1] = a) := by show _ = _; simp [HAB.out]
          have HZI := Lib.hid (HI.out a (by rw [HAB.out]; simp))
          have HHB : Hid (∀ W, Below W2.heap.size W2 W → W.cell? ⟨g6, 1, none⟩ = some (txt op) ∧ W.cell? ⟨g6, 9, none⟩ = some (.slice (some ⟨bb, oo, none⟩) n.args.length n.c)) := fun W hW => by
            obtain ⟨-, q1, -, -, -, -, -, -, -, q9, -⟩ := Blk.c10 (HNB.out.below hW)
            rw [HOP.out] at q1
            rw [haa] at q9
            exact ⟨q1, q9⟩
          rw [haa]
          clear haa
          go_upto_region 6 with (first | (refine wpList_load_nd_is rfl (.tmp 31) rfl (HIW.out _ HBW.out) hj b HGX.out rfl ?_) | (refine wpList_alloc_nd rfl rfl ?_; intro W6 hb6 hz6 hB6) | (refine wpList_store_nd rfl rfl (.tmp 12) (.tmp 32) rfl wr.heap.size rfl b rfl hb6 ?_; intro W7 hb7 hg7))
          have HB7 := Lib.hid (below_of_grown (HBW.out.then hB6) hg7 HBW.out.size (Nat.le_trans HBW.out.size hB6.size))
          clear hb6 hz6 hB6 hg7
          generalize wr.heap.size = g12 at hb7 ⊢
          obtain ⟨q1, -⟩ := HHB.out W7 HB7.out
          have HSTEP : Hid ((Pn.agHit p.x b a (Ev.turnS op) at_ given ops || Pn.agF p.x a b op at_ given ops 2) = D) := by show _ = _; rw [← HE.out]; unfold Pn.agF; simp
          go_wp2_with fail
          refine (turn_any W7 op).mono ?_
          rintro e w8 ⟨rfl, hw8⟩
          rw [hw8]
          go_upto_region 9 with fail
          clear q1
          have HBD : Hid (Below W2.heap.size W2 W7.drew) := HB7.out.drewR
          obtain ⟨-, q9⟩ := HHB.out W7.drew HBD.out
          have hqd := HQ.out.below HBD.out
          have HIR := Lib.hid (HIW.out W7.drew HBD.out)
          refine wp_region_plan (.take 0 (.take 1 (.take 2 (.take 3 (.take 4 (.take 5 (.take 6 (.run 7 [] (.take 8 (.take 9 (.take 10 (.take 11 (.take 12 .fin))))))))))))) (by kernel_rfl) (by kernel_rfl) (by kernel_rfl) (by kernel_rfl) ?_
          repeat' (first | (refine hZ _ _ ?_; clear hZ) | (refine hZ _ ?_; clear hZ) | (refine hZ ?_; clear hZ) | rw [again_nil] | rw [walk_fin] | ((first | rw [walk_take] | rw [walk_run] | rw [again_cons]); intro Z hZ; simp only [sel, List.getElem?_toArray, List.getElem?_cons_zero, List.getElem?_cons_succ]; go_wp2_with (first | (refine wpList_load_qp0 rfl (.tmp 5) rfl g5 rfl hqd ?_) | (refine wpList_load_nd_is rfl (.tmp 45) rfl HIR.out hjz a HGZ.out rfl ?_))))
          refine (HAK.out a HZI.out W7.drew (HB2.out.then HBD.out)).mono ?_
          rintro e W9 ⟨rfl, hB9⟩
          have HB9 := Lib.hid (HBD.out.then hB9)
          have hx9 := hb7.drew.below hB9
          obtain ⟨am, ham⟩ : ∃ am, (Pn.asks p.x a).1 = am := ⟨_, rfl⟩
          obtain ⟨ao, hao⟩ : ∃ ao, (Pn.asks p.x a).2 = ao := ⟨_, rfl⟩
          have HAM := Lib.hid ham
          have HAO := Lib.hid hao
          have hlt16 := Pn.asks_lt hB4 a
          rw [ham, hao]
          rw [ham] at hlt16
          clear ham hao
          have ham := hlt16
          clear hlt16 hB9 hqd q9 HIR hb7
          go_wp2_with fail
          repeat' (first | (refine hZ _ _ ?_; clear hZ) | (refine hZ _ ?_; clear hZ) | (refine hZ ?_; clear hZ) | rw [again_nil] | rw [walk_fin] | ((first | rw [walk_take] | rw [walk_run] | rw [again_cons]); intro Z hZ; simp only [sel, List.getElem?_toArray, List.getElem?_cons_zero, List.getElem?_cons_succ]; go_wp2_with (fail)))
          obtain ⟨x0, -, -, -, -, -, x6, -, -, -, -⟩ := Blk.c10 hx9
          by_cases h2 : b.k = 2
          · have h2b : (b.k == 2) = true := by simp [h2]
            by_cases hat : b.at_ = at_
            · have hab : (b.at_ == at_) = true := by simp [hat]
              cases hao : ao with
              | true =>
                have hao2 : (Pn.asks p.x a).2 = true := HAO.out.trans hao
                subst hao
                clear h2 hat
                have HN2 : Hid (Pn.agF p.x a b op at_ given ops 2 = D) := by
                  show _ = _
                  rw [← HSTEP.out, show Pn.agHit p.x b a (Ev.turnS op) at_ given ops = false by unfold Pn.agHit; simp [hao2]]
                  rfl
                go_wp2_with fail
                go_roundw
                case rel => exact ⟨2, by omega, by go_num, HN2.out, HB9.out⟩
                case measure => simp [intOf]
              | false =>
                have hao2 : (Pn.asks p.x a).2 = false := HAO.out.trans hao
                subst hao
                cases hsub : Pn.sub am given with
                | false =>
                  have hs2 : Pn.sub (Pn.asks p.x a).1 given = false := by rw [HAM.out]; exact hsub
                  have ha8 : (bits BinOp.andNot IntKind.u8 (am : Int) (given : Int) == 0) = false := by rw [← hsub]; exact andNot8 am ham given hg16
                  clear h2 hat hsub
                  have HN2 : Hid (Pn.agF p.x a b op at_ given ops 2 = D) := by
                    show _ = _
                    rw [← HSTEP.out, show Pn.agHit p.x b a (Ev.turnS op) at_ given ops = false by unfold Pn.agHit; simp [hs2]]
                    rfl
                  go_wp2_with fail
                  go_roundw
                  case rel => exact ⟨2, by omega, by go_num, HN2.out, HB9.out⟩
                  case measure => simp [intOf]
                | true =>
                  have hs2 : Pn.sub (Pn.asks p.x a).1 given = true := by rw [HAM.out]; exact hsub
                  have ha8 : (bits BinOp.andNot IntKind.u8 (am : Int) (given : Int) == 0) = true := by rw [← hsub]; exact andNot8 am ham given hg16
                  have HSC := Lib.hid (scontains_any W9 A c ops (HO.out.below (HB2.out.then HB9.out)) (by omega) (Ev.turnS op))
                  have HHIT : Hid (Pn.agHit p.x b a (Ev.turnS op) at_ given ops = ops.contains (Ev.turnS op)) := by show _ = _; unfold Pn.agHit; simp [h2, hat, hao2, hs2]
                  clear h2 hat hsub
                  go_wp2_with fail
                  refine HSC.out.mono ?_
                  rintro e w10 ⟨rfl, rfl⟩
                  obtain ⟨C, hC⟩ : ∃ C, ops.contains (Ev.turnS op) = C := ⟨_, rfl⟩
                  have HC := Lib.hid hC
                  rw [hC]
                  clear hC HSC
                  cases C with
                  | true =>
                    have HF : Hid (D = true) := by show _ = _; rw [← HSTEP.out, HHIT.out, HC.out]; rfl
                    go_wp2_with fail
                    go_ret
                    exact ⟨by rw [HF.out]; rfl, HB2.out.then HB9.out⟩
                  | false =>
                    have HN2 : Hid (Pn.agF p.x a b op at_ given ops 2 = D) := by show _ = _; rw [← HSTEP.out, HHIT.out, HC.out]; rfl
                    go_wp2_with fail
                    go_roundw
                    case rel => exact ⟨2, by omega, by go_num, HN2.out, HB9.out⟩
                    case measure => simp [intOf]
            · have hab : (b.at_ == at_) = false := by simp [hat]
              have HN2 : Hid (Pn.agF p.x a b op at_ given ops 2 = D) := by
                show _ = _
                rw [← HSTEP.out, show Pn.agHit p.x b a (Ev.turnS op) at_ given ops = false by unfold Pn.agHit; simp [hat]]
                rfl
              go_wp2_with fail
              go_roundw
              case rel => exact ⟨2, by omega, by go_num, HN2.out, HB9.out⟩
              case measure => simp [intOf]
          · have h2b : (b.k == 2) = false := by simp [h2]
            have HN2 : Hid (Pn.agF p.x a b op at_ given ops 2 = D) := by
              show _ = _
              rw [← HSTEP.out, show Pn.agHit p.x b a (Ev.turnS op) at_ given ops = false by unfold Pn.agHit; simp [h2]]
              rfl
            go_wp2_with fail
            go_roundw
            case rel => exact ⟨2, by omega, by go_num, HN2.out, HB9.out⟩
            case measure => simp [intOf]
        · have HF : Hid (D = false) := by show _ = _; rw [← HE.out]; rfl
          have hi2 : ¬ (2 : Int) < (n.args.length : Int) := by have := HLEN.out; omega
          go_wp2_with fail
          go_ret
          exact ⟨by rw [HF.out]; rfl, HB2.out.then HBW.out⟩
    · have h2b : ((n.args.length : Int) != 2) = true := by simp; omega
      have HF : Hid (D = false) := by show _ = _; rw [← HD.out, Pn.agst_no (.inr h2)]
      clear hk h2
      go_wp2_with fail
      go_ret
      exact ⟨by rw [HF.out]; rfl, HB2.out⟩
  · have hkb : (n.k != 7) = true := by simp [hk]
    have HF : Hid (D = false) := by show _ = _; rw [← HD.out, Pn.agst_no (.inl hk)]
    clear hk c9
    go_wp2_with fail
    go_ret
    exact ⟨by rw [HF.out]; rfl, HB2.out⟩
end Go.Proofs.YtpahkaffknnjhaaGreatDoor
end

section
namespace Go.Proofs.YtpahkaffknnjhaaGreatDoor
set_option linter.unusedSimpArgs false
set_option linter.unusedVariables false
open Go.RowKit
set_option maxRecDepth 20000 in
theorem plequal_any (w : World) (p : Qp) (hp : QpIn w p) (hB4 : p.x.B.length ≤ 4) (n : Nd) (hn : NodeIn w n) (at_ : Int) (given : Nat) (hg16 : given < 16) :
    Calls Tryz.prog 167 #[p.v, n.v, .int .i64 at_, .int .u8 given] w (RetBo w (Pn.agst p.x n at_ given [[61]])) := by
  have HP := Lib.hid hp
  have HN := Lib.hid hn
  clear hp hn
  go_enter Tryz.func167, Tryz.ntmps167
  go_upto_region 1 with (first | (refine wpList_box_qp rfl (.tmp 0) rfl p rfl ?_; intro W1 hb1 hz1 hB1) | (refine wpList_box_nd rfl (.tmp 1) rfl n rfl ?_; intro W2 hb2 hz2 hB2))
  have hb12 := hb1.below hB2
  have HB2 := Lib.hid (hB1.then hB2)
  clear hb1 hB1 hB2 hz2 hz1
  go_wp2_with (first | (refine wpList_load_qp0 rfl (.tmp 4) rfl _ rfl hb12 ?_) | (refine wpList_load_nd rfl (.tmp 5) rfl _ rfl hb2 ?_))
  generalize hW3 : World.alloc W2 (.cells _ _) = W3
  obtain ⟨ba3, hz3, hB3⟩ := fresh1 hW3
  clear hW3
  have HB3 := Lib.hid (HB2.out.then hB3)
  have HAG := Lib.hid (plagst_any W3 p (HP.out.below HB3.out) hB4 n (nd_below15 HN.out HB3.out) at_ given hg16 (some ⟨W2.heap.size, 0, none⟩) 1 [[61]] (Blk.row eStr ba3 _ rfl (by simp [maxLen])) (by simp))
  clear hb12 hb2 ba3 hz3 hB3
  refine (show Calls _ _ _ _ _ from HAG.out).mono ?_
  rintro e W4 ⟨rfl, hB4⟩
  have HB4 := Lib.hid (HB3.out.then hB4)
  clear hB4
  go_wp2_with fail
  go_ret
  exact ⟨rfl, HB4.out⟩
end Go.Proofs.YtpahkaffknnjhaaGreatDoor
end

section
namespace Go.Proofs.YtpahkaffknnjhaaGreatDoor
set_option linter.unusedSimpArgs false
set_option linter.unusedVariables false
open Go.RowKit
namespace Pn
end Pn
end Go.Proofs.YtpahkaffknnjhaaGreatDoor
end

section
namespace Go.Proofs.YtpahkaffknnjhaaGreatDoor
set_option linter.unusedSimpArgs false
set_option linter.unusedVariables false
open Go.RowKit Go.Maps
section
variable {w : World} {ops : Array Oper} {rest : List Oper} {o : Oper} {a : Act} {Q : Exit → Act → World → Prop} {gm N : Nat} {f : Nat → Option Nat}
end
end Go.Proofs.YtpahkaffknnjhaaGreatDoor
end

section
namespace Go.Proofs.YtpahkaffknnjhaaGreatDoor
set_option linter.unusedSimpArgs false
set_option linter.unusedVariables false
open Go.RowKit
inductive Pm where
  | mk (op fr ix : Int) (ea : Option Addr) (eq : List Int) (ec : Nat) (low high cost rows : Int) (ka : Option Addr) (kids : List Pm) (kc : Nat)
namespace Pm
def op : Pm → Int | .mk op _ _ _ _ _ _ _ _ _ _ _ _ => op
def fr : Pm → Int | .mk _ fr _ _ _ _ _ _ _ _ _ _ _ => fr
def ix : Pm → Int | .mk _ _ ix _ _ _ _ _ _ _ _ _ _ => ix
def ea : Pm → Option Addr | .mk _ _ _ ea _ _ _ _ _ _ _ _ _ => ea
def eq : Pm → List Int | .mk _ _ _ _ eq _ _ _ _ _ _ _ _ => eq
def ec : Pm → Nat | .mk _ _ _ _ _ ec _ _ _ _ _ _ _ => ec
def low : Pm → Int | .mk _ _ _ _ _ _ low _ _ _ _ _ _ => low
def high : Pm → Int | .mk _ _ _ _ _ _ _ high _ _ _ _ _ => high
def cost : Pm → Int | .mk _ _ _ _ _ _ _ _ cost _ _ _ _ => cost
def rows : Pm → Int | .mk _ _ _ _ _ _ _ _ _ rows _ _ _ => rows
def ka : Pm → Option Addr | .mk _ _ _ _ _ _ _ _ _ _ ka _ _ => ka
def kids : Pm → List Pm | .mk _ _ _ _ _ _ _ _ _ _ _ kids _ => kids
def kc : Pm → Nat | .mk _ _ _ _ _ _ _ _ _ _ _ _ kc => kc
def cells (p : Pm) : List Value := [.int .i64 p.op, .int .i64 p.fr, .int .i64 p.ix, .slice p.ea p.eq.length p.ec, .int .i64 p.low, .int .i64 p.high, .int .i64 p.cost, .int .i64 p.rows, .slice p.ka p.kids.length p.kc]
def v (p : Pm) : Value := .agg p.cells.toArray
def nil : Pm := .mk 0 0 0 none [] 0 0 0 0 0 none [] 0
instance : Inhabited Pm := ⟨nil⟩
mutual
def e : Pm → Pl
  | .mk op fr ix _ eq _ low high cost rows _ kids _ => .mk op fr ix eq low high cost rows (eL kids)
def eL : List Pm → List Pl
  | [] => []
  | p :: l => e p :: eL l
end
theorem eL_map (l : List Pm) : eL l = l.map e := by
  induction l with
  | nil => rfl
  | cons p l ih => show e p :: eL l = _; rw [ih]; rfl
theorem e_eq (p : Pm) : p.e = .mk p.op p.fr p.ix p.eq p.low p.high p.cost p.rows (p.kids.map e) := by
  cases p with
  | mk op fr ix ea eq ec low high cost rows ka kids kc => show Pl.mk op fr ix eq low high cost rows (eL kids) = _; rw [eL_map]; rfl
theorem e_op (p : Pm) : p.e.op = p.op := by cases p; rfl
end Pm
def ePm : Elem Pm where
  e := 71
  t := 69
  sz := 9
  bytes := 104
  zero := Pm.nil.v
  code := fun x => x.cells
  pos := by decide
  few := by decide
  len := fun _ => rfl
  one := by
    intro x u hu
    simp [Pm.cells] at hu
    rcases hu with rfl | rfl | rfl | rfl | rfl | rfl | rfl | rfl | rfl <;> rfl
  zsz := rfl
  info := by kernel_rfl
  under := Tryz.underlying69
theorem pm_info : (Tryz.prog.info? 71).map (·.size) = some 9 := by kernel_rfl
theorem pm_zero (W : World) : (zeroValue 71).run Tryz.prog W = .ok Pm.nil.v W := (zero_of_info (P := Tryz.prog) (t := 71) (v := Pm.nil.v) (n := 9) (by kernel_rfl)).1 W
section
variable {w : World} {ops : Array Oper} {rest : List Oper} {o : Oper} {a : Act} {Q : Exit → Act → World → Prop}
theorem wpList_alloc_pm (hgd : o.guard = none) (hop : o.op = .alloc 71)
    (h : ∀ W, Blk W w.heap.size 71 Pm.nil.cells → w.heap.size + 1 ≤ W.heap.size → Below w.heap.size w W → wpList Tryz.prog ops Q rest (a.put o.dst (.pointer (some ⟨w.heap.size, 0, none⟩))) W) : wpList Tryz.prog ops Q (o :: rest) a w :=
  wpList_alloc_z hgd 71 hop (pm_zero _) fun W hW => by
    obtain ⟨h1, h2, h3⟩ := fresh1 (a := Pm.nil.cells) hW
    exact h W h1 h2 h3
theorem wpList_store_pm (hgd : o.guard = none) (hod : o.dst = none) (x y : Operand) (hop : o.op = .store 71 x y) (g : Nat) (hx : a.eval x = .pointer (some ⟨g, 0, none⟩)) (b : Pm) (hy : a.eval y = b.v) {T0 : TypeId} {old : Pm} (hb : Blk w g T0 old.cells)
    (h : ∀ W, Blk W g T0 b.cells → w.grownBy W (some g) → wpList Tryz.prog ops Q rest a W) : wpList Tryz.prog ops Q (o :: rest) a w :=
  wpList_store_blk hgd hod 71 x y hop g hx b.cells hy hb rfl pm_info (ePm.one b) h
theorem wpList_load_pm (hgd : o.guard = none) (x : Operand) (hop : o.op = .load 71 x) (g : Nat) (hx : a.eval x = .pointer (some ⟨g, 0, none⟩)) {T0 : TypeId} {b : Pm} (hb : Blk w g T0 b.cells)
    (h : wpList Tryz.prog ops Q rest (a.put o.dst b.v) w) : wpList Tryz.prog ops Q (o :: rest) a w :=
  wpList_load_mid hgd 71 x hop g 0 hx b.cells _ (hb.range 0 b.cells fun j _ => by rw [Nat.zero_add]) Tryz.underlying71 rfl pm_info h
theorem wpList_load_pm_at (hgd : o.guard = none) (x : Operand) (hop : o.op = .load 71 x) {b off : Nat} {L : List Pm} (hr : ERow ePm w (some ⟨b, off, none⟩) L) {j : Nat} (hj : j < L.length) (p : Pm) (hp : L[j] = p) (hx : a.eval x = .pointer (some ⟨b, off + j * 9, none⟩))
    (h : wpList Tryz.prog ops Q rest (a.put o.dst p.v) w) : wpList Tryz.prog ops Q (o :: rest) a w := by
  subst hp
  obtain ⟨b', off', e, hb, hrg⟩ := hr.range hj
  cases e
  exact wpList_load_mid hgd 71 x hop b (off + j * 9) hx L[j].cells _ hrg Tryz.underlying71 rfl pm_info h
theorem wpList_box_pm (hgd : o.guard = none) (x : Operand) (hop : o.op = .box 71 x) (b : Pm) (hx : a.eval x = b.v)
    (h : ∀ W, Blk W w.heap.size 71 b.cells → w.heap.size + 1 ≤ W.heap.size → Below w.heap.size w W → wpList Tryz.prog ops Q rest (a.put o.dst (.pointer (some ⟨w.heap.size, 0, none⟩))) W) : wpList Tryz.prog ops Q (o :: rest) a w :=
  wpList_plain hgd fun _ hK => by
    unfold Oper.wp execOp
    have e : (Instr.box 71 b.v).run Tryz.prog w = .ok (.pointer (some ⟨w.heap.size, 0, none⟩)) (w.alloc (.cells b.cells.toArray 71)) := by
      simp [Instr.box, Sem.run_bind, newVar, newRow]
      rfl
    simp only [hop, hx, Sem.run_bind, e, Result.andThen_ok, Sem.run_pure]
    obtain ⟨h1, h2, h3⟩ := fresh1 (w := w) (a := b.cells) (t := 71) rfl
    exact hK _ _ (h _ h1 h2 h3)
end
theorem Blk.pm {w : World} {g : Nat} {t : TypeId} {p : Pm} (h : Blk w g t p.cells) :
    w.cell? ⟨g, 0, none⟩ = some (.int .i64 p.op) ∧ w.cell? ⟨g, 1, none⟩ = some (.int .i64 p.fr) ∧ w.cell? ⟨g, 2, none⟩ = some (.int .i64 p.ix) ∧ w.cell? ⟨g, 3, none⟩ = some (.slice p.ea p.eq.length p.ec) ∧
    w.cell? ⟨g, 4, none⟩ = some (.int .i64 p.low) ∧ w.cell? ⟨g, 5, none⟩ = some (.int .i64 p.high) ∧ w.cell? ⟨g, 6, none⟩ = some (.int .i64 p.cost) ∧ w.cell? ⟨g, 7, none⟩ = some (.int .i64 p.rows) ∧ w.cell? ⟨g, 8, none⟩ = some (.slice p.ka p.kids.length p.kc) :=
  ⟨h.cell 0, h.cell 1, h.cell 2, h.cell 3, h.cell 4, h.cell 5, h.cell 6, h.cell 7, h.cell 8⟩
end Go.Proofs.YtpahkaffknnjhaaGreatDoor
end

section
namespace Go.Proofs.YtpahkaffknnjhaaGreatDoor
set_option linter.unusedSimpArgs false
set_option linter.unusedVariables false
open Go.RowKit
set_option maxRecDepth 20000 in
set_option maxHeartbeats 4000000 in
theorem stable0G_any (w : World) (q : Nat) :
    Calls Tryz.prog 75 #[.slice none 0 0, .func (.func 76) #[] #[.pointer (some ⟨q, 0, none⟩)]] w fun e w' => e = .returned (.tuple #[]) ∧ w = w' := by
  have HI : ∀ w, Hid (Calls Tryz.prog 150 #[.slice none 0 0, .int .i64 0, .int .i64 0, .func (.func 76) #[] #[.pointer (some ⟨q, 0, none⟩)]] w fun e w' => e = .returned (.tuple #[]) ∧ w = w') := by
    intro w
    show Calls _ _ _ _ _
    go_enter Tryz.func150, Tryz.ntmps150
    go_wp2_with fail
    go_loopw [8] (fun iv wr => iv = .int .i64 1 ∧ w = wr) (fun _ _ => 0)
    case atStart => exact ⟨by go_num, rfl⟩
    case round =>
      obtain ⟨rfl, rfl⟩ := hrel
      go_wp2_with fail
      go_end0
      exact ⟨rfl, rfl⟩
  have HS : ∀ w, Hid (Calls Tryz.prog 119 #[.slice none 0 0, .int .i64 0, .func (.func 76) #[] #[.pointer (some ⟨q, 0, none⟩)]] w fun e w' => e = .returned (.tuple #[]) ∧ w = w') := by
    intro w
    show Calls _ _ _ _ _
    go_enter Tryz.func119, Tryz.ntmps119
    go_wp2_with fail
    go_loopw [7, 8] (fun av bv wr => av = .int .i64 0 ∧ bv = .int .i64 20 ∧ w = wr) (fun _ _ _ => 0)
    case atStart => exact ⟨by go_num, by go_num, rfl⟩
    case round =>
      obtain ⟨rfl, rfl, rfl⟩ := hrel
      go_wp2_with fail
      refine (show Calls _ _ _ _ _ from (HI w).out).mono ?_
      rintro e W ⟨rfl, rfl⟩
      go_wp2_with fail
      go_loopw [6] (fun bv wr => bv = .int .i64 20 ∧ w = wr) (fun _ _ => 0)
      case atStart => exact ⟨by go_num, rfl⟩
      case round =>
        obtain ⟨rfl, rfl⟩ := hrel
        go_wp2_with fail
        go_end0
        exact ⟨rfl, rfl⟩
  go_enter Tryz.func75, Tryz.ntmps75
  go_wp2_with fail
  refine (show Calls _ _ _ _ _ from (HS w).out).mono ?_
  rintro e W ⟨rfl, rfl⟩
  go_wp2_with fail
  go_end0
  exact ⟨rfl, rfl⟩
set_option maxRecDepth 20000 in
set_option maxHeartbeats 4000000 in
theorem stable0V_any (w : World) (q : Nat) :
    Calls Tryz.prog 116 #[.slice none 0 0, .func (.func 117) #[] #[.pointer (some ⟨q, 0, none⟩)]] w fun e w' => e = .returned (.tuple #[]) ∧ w = w' := by
  have HI : ∀ w, Hid (Calls Tryz.prog 172 #[.slice none 0 0, .int .i64 0, .int .i64 0, .func (.func 117) #[] #[.pointer (some ⟨q, 0, none⟩)]] w fun e w' => e = .returned (.tuple #[]) ∧ w = w') := by
    intro w
    show Calls _ _ _ _ _
    go_enter Tryz.func172, Tryz.ntmps172
    go_wp2_with fail
    go_loopw [8] (fun iv wr => iv = .int .i64 1 ∧ w = wr) (fun _ _ => 0)
    case atStart => exact ⟨by go_num, rfl⟩
    case round =>
      obtain ⟨rfl, rfl⟩ := hrel
      go_wp2_with fail
      go_end0
      exact ⟨rfl, rfl⟩
  have HS : ∀ w, Hid (Calls Tryz.prog 149 #[.slice none 0 0, .int .i64 0, .func (.func 117) #[] #[.pointer (some ⟨q, 0, none⟩)]] w fun e w' => e = .returned (.tuple #[]) ∧ w = w') := by
    intro w
    show Calls _ _ _ _ _
    go_enter Tryz.func149, Tryz.ntmps149
    go_wp2_with fail
    go_loopw [7, 8] (fun av bv wr => av = .int .i64 0 ∧ bv = .int .i64 20 ∧ w = wr) (fun _ _ _ => 0)
    case atStart => exact ⟨by go_num, by go_num, rfl⟩
    case round =>
      obtain ⟨rfl, rfl, rfl⟩ := hrel
      go_wp2_with fail
      refine (show Calls _ _ _ _ _ from (HI w).out).mono ?_
      rintro e W ⟨rfl, rfl⟩
      go_wp2_with fail
      go_loopw [6] (fun bv wr => bv = .int .i64 20 ∧ w = wr) (fun _ _ => 0)
      case atStart => exact ⟨by go_num, rfl⟩
      case round =>
        obtain ⟨rfl, rfl⟩ := hrel
        go_wp2_with fail
        go_end0
        exact ⟨rfl, rfl⟩
  go_enter Tryz.func116, Tryz.ntmps116
  go_wp2_with fail
  refine (show Calls _ _ _ _ _ from (HS w).out).mono ?_
  rintro e W ⟨rfl, rfl⟩
  go_wp2_with fail
  go_end0
  exact ⟨rfl, rfl⟩
end Go.Proofs.YtpahkaffknnjhaaGreatDoor
end

section
namespace Go.Proofs.YtpahkaffknnjhaaGreatDoor
set_option linter.unusedSimpArgs false
set_option linter.unusedVariables false
open Go.RowKit
structure GLoop (B : Nat) (L : List Rw) (i : Nat) (W : World) (A : Option Addr) (c : Nat) (G : List Gr) : Prop where
  own : EOwn eGr W B A c G
  rows : ∀ r ∈ G, ERow eRw W r.a r.l
  mem : ∀ r ∈ G, ∀ x ∈ r.l, x ∈ L
  cap : ∀ r ∈ G, r.l.length ≤ r.c ∧ r.c ≤ maxLen
  ne : ∀ r ∈ G, r.l ≠ [] → ∀ a, r.a = some a → ∀ x, A = some x → a.block ≠ x.block
  nil : ∀ r ∈ G, r.a = none → r.l = []
  len : ∀ r ∈ G, r.l.length ≤ i
  size : B ≤ W.heap.size
variable {B i c : Nat} {L : List Rw} {W W' : World} {A : Option Addr} {G : List Gr}
theorem GLoop.start (hB : B ≤ W.heap.size) : GLoop B L 0 W none 0 [] :=
  ⟨EOwn.nil _ _, (by intro r hr; cases hr), (by intro r hr; cases hr), (by intro r hr; cases hr), (by intro r hr; cases hr), (by intro r hr; cases hr), (by intro r hr; cases hr), hB⟩
theorem GLoop.below (h : GLoop B L i W A c G) (hB : Below W.heap.size W W') : GLoop B L i W' A c G :=
  ⟨h.own.below hB, fun r hr => (h.rows r hr).below hB, h.mem, h.cap, h.ne, h.nil, h.len, Nat.le_trans h.size hB.size⟩
theorem erow_lt {w : World} {α : Type} {E : Elem α} {A : Option Addr} {L : List α} (h : ERow E w A L) (hl : L ≠ []) : ∀ a, A = some a → a.block < w.heap.size := by
  intro a ha
  obtain ⟨b, o, e, hb, -⟩ := h (List.length_pos_iff.2 hl)
  rw [ha] at e
  cases e
  exact hb
theorem GLoop.one (h : GLoop B L i W A c G) {x : Rw} (hx : x ∈ L) {w2 w3 : World} (hw2 : (W.alloc (.cells #[x.v] 37)).alloc (.cells #[.slice (some ⟨W.heap.size, 0, none⟩) 1 1] 126) = w2) {A3 : Option Addr} {c3 : Nat}
    (ho3 : EOwn eGr w3 B A3 c3 (G ++ [⟨some ⟨W.heap.size, 0, none⟩, [x], 1⟩])) (hg3 : w2.grownBy w3 (A.map (·.block))) (ha3 : A3.map (·.block) = A.map (·.block) ∨ A3.map (·.block) = some w2.heap.size) :
    GLoop B L (i + 1) w3 A3 c3 (G ++ [⟨some ⟨W.heap.size, 0, none⟩, [x], 1⟩]) := by
  have hB1 : Below W.heap.size W (W.alloc (.cells #[x.v] 37)) := (Below.refl _ _).alloc (Nat.le_refl _) _
  have hz1 : (W.alloc (.cells #[x.v] 37)).heap.size = W.heap.size + 1 := by simp
  have hB2 : Below (W.alloc (.cells #[x.v] 37)).heap.size (W.alloc (.cells #[x.v] 37)) w2 := by rw [← hw2]; exact (Below.refl _ _).alloc (Nat.le_refl _) _
  have hz2 : w2.heap.size = W.heap.size + 2 := by rw [← hw2]; simp
  have hrow : ERow eRw w2 (some ⟨W.heap.size, 0, none⟩) [x] := (ERow.lit eRw W x #[x.v] rfl _ rfl).below hB2
  have hAb : ∀ a, A = some a → a.block < W.heap.size := fun a ha => (h.own.block a ha).2
  have keep : ∀ (R : Option Addr) (l : List Rw), ERow eRw w2 R l → (l ≠ [] → ∀ a, R = some a → ∀ y, A = some y → a.block ≠ y.block) → ERow eRw w3 R l := fun R l hr hn hl => by
    refine hr.keep hg3.size (fun a ha hlt => hg3.block _ hlt ?_) hl
    intro e
    cases hA : A with
    | none => rw [hA] at e; simp at e
    | some y => rw [hA] at e; exact hn (List.length_pos_iff.1 hl) a ha y hA (by simpa using e)
  refine ⟨ho3, ?_, ?_, ?_, ?_, ?_, ?_, by have := h.size; have := hg3.size; omega⟩
  · intro r hr
    rcases List.mem_append.1 hr with hr | hr
    · exact keep _ _ ((h.rows r hr).below (hB1.then hB2)) (h.ne r hr)
    · rw [List.mem_singleton.1 hr]
      refine keep _ _ hrow fun _ a ha y hy => ?_
      cases ha
      have := hAb y hy
      show W.heap.size ≠ y.block
      omega
  · intro r hr y hy
    rcases List.mem_append.1 hr with hr | hr
    · exact h.mem r hr y hy
    · rw [List.mem_singleton.1 hr] at hy
      rw [List.mem_singleton.1 hy]; exact hx
  · intro r hr
    rcases List.mem_append.1 hr with hr | hr
    · exact h.cap r hr
    · rw [List.mem_singleton.1 hr]; exact ⟨Nat.le_refl _, by simp [maxLen]⟩
  · intro r hr hne a ha y hy
    have hy3 : some y.block = A.map (·.block) ∨ y.block = w2.heap.size := by
      rw [hy] at ha3
      rcases ha3 with e | e
      · exact .inl e
      · exact .inr (Option.some.inj e)
    rcases List.mem_append.1 hr with hr | hr
    · have hlt := erow_lt (h.rows r hr) hne a ha
      rcases hy3 with e | e
      · cases hA : A with
        | none => rw [hA] at e; simp at e
        | some z =>
          rw [hA] at e
          have := h.ne r hr hne a ha z hA
          simp at e
          omega
      · omega
    · rw [List.mem_singleton.1 hr] at ha
      cases ha
      show W.heap.size ≠ y.block
      rcases hy3 with e | e
      · cases hA : A with
        | none => rw [hA] at e; simp at e
        | some z =>
          rw [hA] at e
          have := hAb z hA
          simp at e
          omega
      · omega
  · intro r hr
    rcases List.mem_append.1 hr with hr | hr
    · exact h.nil r hr
    · rw [List.mem_singleton.1 hr]; intro e; cases e
  · intro r hr
    rcases List.mem_append.1 hr with hr | hr
    · have := h.len r hr; omega
    · rw [List.mem_singleton.1 hr]; simp
theorem GLoop.last {g : Nat} {G : List Gr} {r : Gr} (h : GLoop B L i W (some ⟨g, 0, none⟩) c (G ++ [r])) {x : Rw} (hx : x ∈ L) {w3 : World} (hB3 : Below W.heap.size W w3) {A5 : Option Addr} {c5 : Nat}
    (ho5 : EOwn eRw w3 W.heap.size A5 c5 (r.l ++ [x])) : GLoop B L (i + 1) (w3.setCell ⟨g, G.length, none⟩ (.slice A5 (r.l ++ [x]).length c5)) (some ⟨g, 0, none⟩) c (G ++ [⟨A5, r.l ++ [x], c5⟩]) := by
  have hown := h.own.below hB3
  have hgl : g < W.heap.size := (h.own.block _ rfl).2
  have hgr := grown_store w3 g G.length (.slice A5 (r.l ++ [x]).length c5)
  have keep : ∀ (R : Option Addr) (l : List Rw), ERow eRw w3 R l → (l ≠ [] → ∀ a, R = some a → a.block ≠ g) → ERow eRw (w3.setCell ⟨g, G.length, none⟩ (.slice A5 (r.l ++ [x]).length c5)) R l := fun R l hr hn hl => by
    refine hr.keep hgr.size (fun a ha hlt => hgr.block _ hlt ?_) hl
    have := hn (List.length_pos_iff.1 hl) a ha
    simpa using this
  refine ⟨?_, ?_, ?_, ?_, ?_, ?_, ?_, by have := h.size; have := hB3.size; have := hgr.size; omega⟩
  · have := hown.store (j := G.length) (k := 0) (by simp) (by decide) (⟨A5, r.l ++ [x], c5⟩ : Gr) (.slice A5 (r.l ++ [x]).length c5) rfl
    have e : (G ++ [r]).set G.length (⟨A5, r.l ++ [x], c5⟩ : Gr) = G ++ [⟨A5, r.l ++ [x], c5⟩] := by
      rw [List.set_append_right _ _ (Nat.le_refl _), Nat.sub_self]; rfl
    rw [e, show G.length * eGr.sz + 0 = G.length from Nat.mul_one _] at this
    exact this
  · intro s hs
    rcases List.mem_append.1 hs with hs | hs
    · refine keep _ _ ((h.rows s (by simp [hs])).below hB3) fun hn a ha => ?_
      exact h.ne s (by simp [hs]) hn a ha _ rfl
    · rw [List.mem_singleton.1 hs]
      refine keep _ _ ho5.row fun hn a ha => ?_
      have ha : A5 = some a := ha
      have := (ho5.block a ha).1
      omega
  · intro s hs y hy
    rcases List.mem_append.1 hs with hs | hs
    · exact h.mem s (by simp [hs]) y hy
    · rw [List.mem_singleton.1 hs] at hy
      rcases List.mem_append.1 hy with hy | hy
      · exact h.mem r (by simp) y hy
      · rw [List.mem_singleton.1 hy]; exact hx
  · intro s hs
    rcases List.mem_append.1 hs with hs | hs
    · exact h.cap s (by simp [hs])
    · rw [List.mem_singleton.1 hs]; exact ⟨ho5.cap, ho5.capMax⟩
  · intro s hs hn a ha y hy
    cases hy
    rcases List.mem_append.1 hs with hs | hs
    · exact h.ne s (by simp [hs]) hn a ha _ rfl
    · rw [List.mem_singleton.1 hs] at ha
      have ha : A5 = some a := ha
      have := (ho5.block a ha).1
      show a.block ≠ g
      omega
  · intro s hs hn
    rcases List.mem_append.1 hs with hs | hs
    · exact h.nil s (by simp [hs]) hn
    · rw [List.mem_singleton.1 hs] at hn
      have hn : A5 = none := hn
      rw [hn] at ho5
      rcases ho5.form with ⟨-, -, h⟩ | ⟨g, h, -⟩
      · simp at h
      · cases h
  · intro s hs
    rcases List.mem_append.1 hs with hs | hs
    · have := h.len s (by simp [hs]); omega
    · rw [List.mem_singleton.1 hs]
      have := h.len r (by simp)
      simp
      omega
end Go.Proofs.YtpahkaffknnjhaaGreatDoor
end

section
namespace Go.Proofs.YtpahkaffknnjhaaGreatDoor
set_option linter.unusedSimpArgs false
set_option linter.unusedVariables false
open Go.RowKit
structure GrsAt (B : Nat) (W : World) (A : Option Addr) (c : Nat) (G : List Gr) : Prop where
  own : EOwn eGr W B A c G
  rows : ∀ r ∈ G, RowsOk W r.a r.l
  cap : ∀ r ∈ G, r.l.length ≤ r.c ∧ r.c ≤ maxLen
  ne : ∀ r ∈ G, r.l ≠ [] → ∀ a, r.a = some a → ∀ x, A = some x → a.block ≠ x.block
  nil : ∀ r ∈ G, r.a = none → r.l = []
def RetG (w : World) (L : List (List Rw)) (e : Ending) (w' : World) : Prop := ∃ A c G, e = .returned (.slice A (List.length G) c) ∧ GrsAt w.heap.size w' A c G ∧ G.map Gr.l = L ∧ Below w.heap.size w w'
set_option maxRecDepth 100000 in
set_option maxHeartbeats 8000000 in
theorem groups_any (w : World) (q : Qr) (A : Option Addr) (c : Nat) (L : List Rw) (hq : QrIn w q) (hL : RowsOk w A L) (hlc : L.length ≤ c) (hcm : c ≤ maxLen) (hnil : A = none → L = []) :
    Calls Tryz.prog 74 #[q.v, .slice A L.length c] w (RetG w (Ev.baseG true q.group L)) := by
  have HQ := Lib.hid hq
  have HL := Lib.hid hL
  have HNIL := Lib.hid hnil
  have hlen := hL.len
  have hgl := hq.gl
  obtain ⟨D, hD⟩ : ∃ D, Ev.baseG true q.group L = D := ⟨_, rfl⟩
  rw [hD]
  have HD := Lib.hid hD
  clear hq hL hD hnil
  go_enter Tryz.func74, Tryz.ntmps74
  go_upto_region 1 with (refine wpList_box_qr rfl (.tmp 0) rfl q rfl ?_; intro W1 hb1 hz1 hB1)
  have HB1 := Lib.hid hB1
  have hgw : w.heap.size ≤ w.heap.size := Nat.le_refl _
  have hgz : w.heap.size < W1.heap.size := by omega
  clear hB1 hz1
  generalize hg2 : w.heap.size = g2 at hb1 hgw hgz ⊢
  have HG2 := Lib.hid hg2
  clear hg2
  obtain ⟨c4, -⟩ := Blk.qr hb1
  by_cases hg0 : q.group = []
  · have HD2 : Hid (D = [L]) := by show _ = _; rw [← HD.out, hg0]; rfl
    rw [hg0] at c4
    clear hg0
    go_wp2_with fail
    generalize hW2 : World.alloc W1 (.cells _ _) = W2
    obtain ⟨ba2, hz2, hB2⟩ := fresh1 hW2
    clear hW2
    have hgz1 : w.heap.size ≤ W1.heap.size := HB1.out.size
    have HF : Hid (RetG w D (.returned (.slice (some ⟨W1.heap.size, 0, none⟩) 1 1)) W2) := by
      refine ⟨some ⟨W1.heap.size, 0, none⟩, 1, [⟨A, L, c⟩], rfl, ⟨ba2.own eGr [⟨A, L, c⟩] rfl (by simp [maxLen]) hgz1, ?_, ?_, ?_, ?_⟩, by rw [HD2.out]; rfl, HB1.out.then hB2⟩
      · intro r hr
        rw [List.mem_singleton.1 hr]
        exact (HL.out.below (HB1.out.then hB2))
      · intro r hr
        rw [List.mem_singleton.1 hr]
        exact ⟨hlc, hcm⟩
      · intro r hr hne a ha x hx
        rw [List.mem_singleton.1 hr] at hne ha
        cases hx
        obtain ⟨b, o, e, hb, -⟩ := HL.out.r (List.length_pos_iff.2 hne)
        have ha : A = some a := ha
        rw [ha] at e
        cases e
        show b ≠ W1.heap.size
        omega
      · intro r hr
        rw [List.mem_singleton.1 hr]
        exact HNIL.out
    clear hB2 ba2 hz2
    go_ret
    exact HF.out
  · have hgp : 0 < q.group.length := List.length_pos_iff.2 hg0
    have hge : ((q.group.length : Int) == 0) = false := by simpa using hg0
    have HD2 : Hid (D = Ev.runs (Ev.rcmp (Ev.byOf q.group)) (Srt.ssort (Ev.rcmp (Ev.byOf q.group)) L)) := by show _ = _; rw [← HD.out]; unfold Ev.baseG; rw [if_pos rfl, if_neg hg0]
    go_upto_region 4 with fail
    generalize hW2 : World.alloc W1 (.cells _ _) = W2
    obtain ⟨ba2, hz2, hB2⟩ := fresh1 hW2
    clear hW2
    have hb2 := hb1.below hB2
    have HB2 := Lib.hid (HB1.out.then hB2)
    clear hB2 hb1 HB1 c4
    obtain ⟨c4, -⟩ := Blk.qr hb2
    generalize W1.heap.size = g5 at ba2 hz2 hgz ⊢
    have HST : Hid (Blk W2 g2 26 q.cells ∧ (∃ A c, Blk W2 g5 24 [.slice A 0 c] ∧ EOwn eSo W2 (g5 + 1) A c (Ev.byOf (q.group.take 0))) ∧ g5 + 1 ≤ W2.heap.size ∧ Below w.heap.size w W2) := ⟨hb2, ⟨none, 0, ba2, EOwn.nil _ _⟩, hz2, HB2.out⟩
    clear ba2 hz2 hb2 HB2
    go_wp2_with fail
    clear c4
    go_loopw [23] (fun iv wr => ∃ k : Nat, k ≤ q.group.length ∧ iv = .int .i64 (k : Int) ∧ Hid (Blk wr g2 26 q.cells ∧ (∃ A c, Blk wr g5 24 [.slice A k c] ∧ EOwn eSo wr (g5 + 1) A c (Ev.byOf (q.group.take k))) ∧ g5 + 1 ≤ wr.heap.size ∧ Below w.heap.size w wr)) (fun iv _ => q.group.length - (intOf iv).toNat)
    case atStart => exact ⟨0, Nat.zero_le _, by go_num, HST.out⟩
    case round =>
      obtain ⟨k, hk, rfl, HJ⟩ := hrel
      clear HST
      obtain ⟨b2, ⟨A1, c1, b5, ho⟩, hz, hB⟩ := HJ.out
      have HB := Lib.hid hB
      clear HJ hB
      have hbl : (Ev.byOf (q.group.take k)).length = k := by unfold Ev.byOf; rw [List.length_map, List.length_take]; omega
      by_cases hlt : k < q.group.length
      · have hii : (k : Int) < (q.group.length : Int) := by omega
        obtain ⟨ab, ao, ha, habl, q0⟩ := int_at (HQ.out.g.below HB.out) hlt
        have HTK : Hid (Ev.byOf (q.group.take (k + 1)) = Ev.byOf (q.group.take k) ++ [⟨q.group[k], false⟩]) := by show _ = _; unfold Ev.byOf; rw [List.take_succ_eq_append_getElem hlt, List.map_append]; rfl
        generalize q.group[k] = gk at q0 HTK ⊢
        have q5 := b5.cell 0
        simp only [List.getElem?_cons_zero] at q5
        go_upto_region 7 with fail
        have hoA := ho.alloc (.cells #[.int .i64 gk, .bool false] 164)
        have hrA := ERow.lit eSo wr ⟨gk, false⟩ #[.int .i64 gk, .bool false] rfl wr.heap.size rfl
        have hne5 : ∀ a, A1 = some a → g5 + 1 ≤ a.block := fun a ha => (ho.block a ha).1
        have b5A := b5.alloc (.cells #[.int .i64 gk, .bool false] 164)
        have b2A := b2.alloc (.cells #[.int .i64 gk, .bool false] 164)
        have HBA : Hid (Below w.heap.size w (wr.alloc (.cells #[.int .i64 gk, .bool false] 164))) := HB.out.then ((Below.refl wr.heap.size wr).alloc (Nat.le_refl _) _)
        have hnb5 : some g5 ≠ A1.map (·.block) := by
          intro e
          cases hA : A1 with
          | none => rw [hA] at e; simp at e
          | some a => rw [hA] at e; have := hne5 a hA; simp at e; omega
        have hnb2 : some g2 ≠ A1.map (·.block) := by
          intro e
          cases hA : A1 with
          | none => rw [hA] at e; simp at e
          | some a => rw [hA] at e; have := hne5 a hA; simp at e; omega
        clear ha q0 habl hne5
        go_wp2_with (at_builtin; refine wpList_append_elems eSo rfl (.tmp 27) (.tmp 30) rfl k rfl hoA hbl.symm 1 rfl hrA rfl (by simp; omega) (by simp; omega) ?_; intro A3 c3 w3 ho3 hb3 hg3 ha3; have b5B := b5A.grown hg3 hnb5; obtain ⟨p0, p1, p2⟩ := Blk.c1 b5B)
        have HR : Hid (Blk (w3.setCell ⟨g5, 0, none⟩ (.slice A3 (k + 1) c3)) g2 26 q.cells ∧ (∃ A c, Blk (w3.setCell ⟨g5, 0, none⟩ (.slice A3 (k + 1) c3)) g5 24 [.slice A (k + 1) c] ∧ EOwn eSo (w3.setCell ⟨g5, 0, none⟩ (.slice A3 (k + 1) c3)) (g5 + 1) A c (Ev.byOf (q.group.take (k + 1)))) ∧ g5 + 1 ≤ (w3.setCell ⟨g5, 0, none⟩ (.slice A3 (k + 1) c3)).heap.size ∧ Below w.heap.size w (w3.setCell ⟨g5, 0, none⟩ (.slice A3 (k + 1) c3))) := by
          refine ⟨(b2A.grown hg3 hnb2).other ⟨g5, 0, none⟩ (by show g2 ≠ g5; omega) _, ⟨A3, c3, b5B.set0, ?_⟩, ?_, ?_⟩
          · rw [HTK.out]
            refine ho3.set ⟨g5, 0, none⟩ (fun a ha => ?_) _
            have := (ho3.block a ha).1
            show a.block ≠ g5
            omega
          · have h1 := hb3.size
            have h2 := (grown_store w3 g5 0 (.slice A3 (k + 1) c3)).size
            simp at h1
            omega
          · have h1 := HG2.out
            exact below_of_grown (HBA.out.trans (hb3.mono (by omega))) (grown_store w3 g5 0 _) (by omega) (Nat.le_trans HBA.out.size hb3.size)
        have HR := Lib.hid HR
        clear ho3 hb3 hg3 ha3 b5B p0 p1 p2 b5A b2A hoA hrA hnb5 hnb2
        go_roundw
        case rel => exact ⟨k + 1, by omega, by go_num, HR.out⟩
        case measure => simp [intOf]; omega
      · have hii : ¬ (k : Int) < (q.group.length : Int) := by omega
        obtain rfl : k = q.group.length := by omega
        rw [List.take_length] at ho
        go_wp2_with fail
        have hA1 : ∀ a, A1 = some a → g5 + 1 ≤ a.block ∧ a.block < wr.heap.size := ho.block
        refine (rclone_any wr A c L (HL.out.below HB.out).r hlen).mono ?_
        rintro e W3 ⟨A3, c3, rfl, ho3, hB3⟩
        have b2 := b2.below hB3
        have b5 := b5.below hB3
        have ho := ho.below hB3
        have HB3 := Lib.hid (HB.out.then hB3)
        have hz3 : wr.heap.size ≤ W3.heap.size := hB3.size
        have hwz : g5 < wr.heap.size := hz
        clear hB3
        have hW : w.heap.size ≤ wr.heap.size := HB.out.size
        clear HB hz
        generalize wr.heap.size = z at ho3 hz3 hwz hW hA1
        rcases A3 with _ | a3
        · have hL0 : L = [] := by
            rcases ho3.form with ⟨-, -, h⟩ | ⟨g, h, -⟩
            · exact h
            · cases h
          have hc3 : c3 = 0 := by
            rcases ho3.form with ⟨-, h, -⟩ | ⟨g, h, -⟩
            · exact h
            · cases h
          have HF : Hid (RetG w D (.returned (.slice none 0 0)) W3) := ⟨none, 0, [], rfl, ⟨EOwn.nil _ _, (by intro r hr; cases hr), (by intro r hr; cases hr), (by intro r hr; cases hr), (by intro r hr; cases hr)⟩, by rw [HD2.out, hL0]; rfl, HB3.out⟩
          subst hL0 hc3
          clear b2 b5 ho ho3
          go_wp2_with fail
          refine (stable0V_any _ _).mono ?_
          rintro e W4 ⟨rfl, rfl⟩
          go_wp2_with fail
          go_loopw [9, 40] (fun v9 iv wr => v9 = .slice none 0 0 ∧ iv = .int .i64 0 ∧ W3 = wr) (fun _ _ _ => 0)
          case atStart => exact ⟨rfl, by go_num, rfl⟩
          case round =>
            obtain ⟨rfl, rfl, rfl⟩ := hrel
            go_wp2_with fail
            go_ret
            exact HF.out
        · obtain ⟨g, rfl⟩ : ∃ g, a3 = ⟨g, 0, none⟩ := by
            rcases ho3.form with ⟨h, -⟩ | ⟨g, h, -⟩
            · cases h
            · exact ⟨g, Option.some.inj h⟩
          obtain ⟨sp, hbk, hspl, hzg, hLc3, hc3m⟩ := ho3.toBlk
          rw [cells_rw] at hbk hspl
          have hA1g : ∀ a, A1 = some a → a.block ≠ g := fun a ha => by have := (hA1 a ha).2; omega
          have HA1G := Lib.hid hA1g
          have HBY := Lib.hid ho
          have hbyl : (Ev.byOf q.group).length = q.group.length := by unfold Ev.byOf; simp
          have hgb : ∀ W, W3.grownBy W (some g) → Blk W g5 24 [.slice A1 q.group.length c1] ∧ ERow eSo W A1 (Ev.byOf q.group) ∧ Below w.heap.size w W := fun W hW => by
            refine ⟨b5.grown hW (by simp; omega), (HBY.out.kept hW ?_).row, below_of_grown HB3.out hW (by omega) HB3.out.size⟩
            cases hA : A1 with
            | none => exact .inl rfl
            | some a => exact .inr (by simp; exact HA1G.out a hA)
          have HGB := Lib.hid hgb
          have HCMP : Hid (CmpsV W3 g g5 (Ev.rcmp (Ev.byOf q.group)) L) := fun W hW x hx y hy => by
            obtain ⟨k1, k2, k3⟩ := HGB.out W hW
            exact gcmp_any W g5 A1 (Ev.byOf q.group) c1 (by rw [hbyl]; exact k1) k2 (by
              intro s hs
              obtain ⟨n, hn, rfl⟩ := List.mem_map.1 hs
              exact HQ.out.gin n hn) (by rw [hbyl]; omega) x y ((HL.out.in_ x hx).below k3) ((HL.out.in_ y hy).below k3)
          have HSRT := Lib.hid (stableV_any W3 g g5 L.length c3 (Ev.rcmp (Ev.byOf q.group)) (Ev.rcmp_ord _) L sp hbk HCMP.out rfl hlen hLc3)
          clear hbk hgb hA1g hA1 ho ho3
          go_wp2_with fail
          refine (show Calls _ _ _ _ _ from HSRT.out).mono ?_
          rintro e W4 ⟨rfl, hbk, hg4⟩
          obtain ⟨S, hS⟩ : ∃ S, Srt.ssort (Ev.rcmp (Ev.byOf q.group)) L = S := ⟨_, rfl⟩
          have HSP : Hid (S.Perm L) := by show S.Perm L; rw [← hS]; exact Srt.ssort_perm _ L
          have HD3 : Hid (D = Ev.runs (Ev.rcmp (Ev.byOf q.group)) S) := by show _ = _; rw [HD2.out, hS]
          rw [hS] at hbk
          obtain ⟨k5, k6, k7⟩ := HGB.out W4 hg4
          have hsl : S.length = L.length := HSP.out.length_eq
          have HG : Hid (ERow eRw W4 (some ⟨g, 0, none⟩) S) := (EOwn.ofBlk (E := eRw) (B := 0) (c := c3) (sp := sp) (by rw [cells_rw]; exact hbk) (by rw [cells_rw]; simpa [hsl] using hspl) (by omega) hc3m (Nat.zero_le _)).row
          have HS5 := Lib.hid k5
          have HS6 := Lib.hid k6
          have HS7 := Lib.hid k7
          have hzw : w.heap.size ≤ W4.heap.size := k7.size
          clear HSRT hbk hg4 k5 k6 k7 HGB HCMP HBY HA1G b2 b5 hS
          have HSM : Hid (∀ x ∈ S, x ∈ L) := fun x hx => HSP.out.mem_iff.1 hx
          have HST : Hid (GLoop W4.heap.size L 0 W4 none 0 [] ∧ [] = Ev.runs (Ev.rcmp (Ev.byOf q.group)) (S.take 0) ∧ Below W4.heap.size W4 W4) := ⟨GLoop.start (Nat.le_refl _), by simp [Ev.runs], Below.refl _ _⟩
          go_wp2_with fail
          go_loopw [9, 40] (fun v9 iv wr => ∃ (i : Nat) (A9 : Option Addr) (c9 : Nat) (G : List Gr), i ≤ L.length ∧ G.length ≤ i ∧ iv = .int .i64 (i : Int) ∧ v9 = .slice A9 G.length c9 ∧ Hid (GLoop W4.heap.size L i wr A9 c9 G ∧ G.map Gr.l = Ev.runs (Ev.rcmp (Ev.byOf q.group)) (S.take i) ∧ Below W4.heap.size W4 wr)) (fun _ iv _ => L.length - (intOf iv).toNat)
          case atStart => exact ⟨0, none, 0, [], Nat.zero_le _, Nat.le_refl _, by go_num, rfl, HST.out⟩
          case round =>
            obtain ⟨i, A9, c9, G, hi, hGi, rfl, rfl, HJ⟩ := hrel
            clear HST
            by_cases hlt : i < L.length
            · have hii : (i : Int) < (L.length : Int) := by omega
              have hltS : i < S.length := by omega
              obtain ⟨sb, so, e, sbl, q0⟩ := rw_at (HG.out.below HJ.out.2.2) hltS
              cases e
              rw [Nat.zero_add] at q0
              have q5 := (HS5.out.below HJ.out.2.2).cell 0
              simp only [List.getElem?_cons_zero] at q5
              obtain ⟨x, hx⟩ : ∃ x, S[i] = x := ⟨_, rfl⟩
              have HXL : Hid (x ∈ L) := HSM.out x (by rw [← hx]; exact List.getElem_mem hltS)
              have HTK : Hid (S.take (i + 1) = S.take i ++ [x]) := by show _ = _; rw [List.take_succ_eq_append_getElem hltS, hx]
              rw [hx] at q0
              clear hx
              go_upto_region 15 with fail
              go_cut [57] from 45 to 57 (fun v wx => Hid (∃ b : Bool, v = .bool b ∧ Below wr.heap.size wr wx ∧ (b = false → Ev.runs (Ev.rcmp (Ev.byOf q.group)) (S.take (i + 1)) = Ev.runs (Ev.rcmp (Ev.byOf q.group)) (S.take i) ++ [[x]]) ∧ (b = true → Ev.runs (Ev.rcmp (Ev.byOf q.group)) (S.take i) ≠ [] ∧ Ev.runs (Ev.rcmp (Ev.byOf q.group)) (S.take (i + 1)) = (Ev.runs (Ev.rcmp (Ev.byOf q.group)) (S.take i)).dropLast ++ [(Ev.runs (Ev.rcmp (Ev.byOf q.group)) (S.take i)).getLastD [] ++ [x]])))
              case first =>
                rcases Nat.eq_zero_or_pos i with h0 | h0
                · subst h0
                  have HR : Hid (Ev.runs (Ev.rcmp (Ev.byOf q.group)) (S.take (0 + 1)) = Ev.runs (Ev.rcmp (Ev.byOf q.group)) (S.take 0) ++ [[x]]) := by show _ = _; rw [HTK.out]; simp [Ev.runs, Ev.consG]
                  clear q0 q5
                  refine wp_region_plan (.take 0 (.take 1 (.take 2 (.take 3 (.take 4 (.take 5 (.take 6 (.take 7 (.take 8 (.take 9 (.run 10 [] (.take 11 (.take 12 .fin))))))))))))) (by kernel_rfl) (by kernel_rfl) (by kernel_rfl) (by kernel_rfl) ?_
                  repeat' (first | (refine hZ _ _ ?_; clear hZ) | (refine hZ _ ?_; clear hZ) | (refine hZ ?_; clear hZ) | rw [again_nil] | rw [walk_fin] | ((first | rw [walk_take] | rw [walk_run] | rw [again_cons]); intro Z hZ; simp only [sel, List.getElem?_toArray, List.getElem?_cons_zero, List.getElem?_cons_succ]; go_wp2_with (fail)))
                  go_wp2_with fail
                  go_meet
                  case rel => exact ⟨false, rfl, (Below.refl _ _).drewR, fun _ => HR.out, by simp⟩
                · obtain ⟨j, rfl⟩ : ∃ j, i = j + 1 := ⟨i - 1, by omega⟩
                  have hjS : j < S.length := by omega
                  obtain ⟨sb2, so2, e2, -, q1⟩ := rw_at (HG.out.below HJ.out.2.2) hjS
                  cases e2
                  rw [Nat.zero_add] at q1
                  obtain ⟨y, hy⟩ : ∃ y, S[j] = y := ⟨_, rfl⟩
                  have HYL : Hid (y ∈ L) := HSM.out y (by rw [← hy]; exact List.getElem_mem hjS)
                  have HTJ : Hid (S.take (j + 1) = S.take j ++ [y]) := by show _ = _; rw [List.take_succ_eq_append_getElem hjS, hy]
                  have HR : Hid (Ev.runs (Ev.rcmp (Ev.byOf q.group)) (S.take (j + 1 + 1)) = Ev.snocG (Ev.rcmp (Ev.byOf q.group)) (Ev.runs (Ev.rcmp (Ev.byOf q.group)) (S.take (j + 1))) (some y) x) := by
                    show _ = _
                    rw [HTK.out, HTJ.out, List.append_assoc]
                    exact Ev.runs_snoc _ _ _
                  have HNE : Hid (Ev.runs (Ev.rcmp (Ev.byOf q.group)) (S.take (j + 1)) ≠ []) := Ev.runs_ne _ (by rw [HTJ.out]; simp)
                  rw [hy] at q1
                  clear hy
                  have hji : ((j + 1 : Nat) : Int) - 1 = (j : Int) := by omega
                  have HW : Hid (Below w.heap.size w wr) := HS7.out.trans (HJ.out.2.2.mono hzw)
                  have HCALL := Lib.hid (pordr_any wr.drew A1 y.a x.a c1 y.c x.c (Ev.byOf q.group) y.l x.l (HS6.out.below (HJ.out.2.2.trans ((Below.refl _ _).drewR.mono HJ.out.2.2.size))) (by
                    intro s hs
                    obtain ⟨n, hn, rfl⟩ := List.mem_map.1 hs
                    exact HQ.out.gin n hn) (by unfold Ev.byOf; rw [List.length_map]; omega) ((HL.out.in_ y HYL.out).below HW.out.drewR) ((HL.out.in_ x HXL.out).below HW.out.drewR))
                  rw [show (Ev.byOf q.group).length = q.group.length by unfold Ev.byOf; simp] at HCALL
                  refine wp_region_plan (.take 0 (.take 1 (.take 2 (.take 3 (.take 4 (.take 5 (.take 6 (.take 7 (.take 8 (.take 9 (.run 10 [] (.take 11 (.take 12 .fin))))))))))))) (by kernel_rfl) (by kernel_rfl) (by kernel_rfl) (by kernel_rfl) ?_
                  repeat' (first | (refine hZ _ _ ?_; clear hZ) | (refine hZ _ ?_; clear hZ) | (refine hZ ?_; clear hZ) | rw [again_nil] | rw [walk_fin] | ((first | rw [walk_take] | rw [walk_run] | rw [again_cons]); intro Z hZ; simp only [sel, List.getElem?_toArray, List.getElem?_cons_zero, List.getElem?_cons_succ]; go_wp2_with (fail)))
                  refine (show Calls _ _ #[.slice A1 q.group.length c1, y.v, x.v] _ _ from HCALL.out).mono ?_
                  rintro e W5 ⟨rfl, hB5⟩
                  have q5' := cell_later hB5 (show wr.drew.cell? _ = _ from q5)
                  have q1' := cell_later hB5 (show wr.drew.cell? _ = _ from q1)
                  have HB5 := Lib.hid ((Below.refl wr.heap.size wr).drewR.trans (hB5.mono (Nat.le_refl _)))
                  obtain ⟨o, ho⟩ : ∃ o, Ev.ordR (Ev.byOf q.group) y.l x.l = o := ⟨_, rfl⟩
                  have HO : Hid (Ev.rcmp (Ev.byOf q.group) y x = o) := ho
                  rw [ho]
                  clear hB5 q5 q1 q0 HCALL ho
                  by_cases hoz : o = 0
                  · have HRR : Hid (Ev.runs (Ev.rcmp (Ev.byOf q.group)) (S.take (j + 1)) ≠ [] ∧ Ev.runs (Ev.rcmp (Ev.byOf q.group)) (S.take (j + 1 + 1)) = (Ev.runs (Ev.rcmp (Ev.byOf q.group)) (S.take (j + 1))).dropLast ++ [(Ev.runs (Ev.rcmp (Ev.byOf q.group)) (S.take (j + 1))).getLastD [] ++ [x]]) := by
                      refine ⟨HNE.out, ?_⟩
                      rw [HR.out]
                      show (if _ then _ else _) = _
                      rw [if_pos (by rw [HO.out]; exact hoz)]
                    subst hoz
                    go_wp2_with fail
                    repeat' (first | (refine hZ _ _ ?_; clear hZ) | (refine hZ _ ?_; clear hZ) | (refine hZ ?_; clear hZ) | rw [again_nil] | rw [walk_fin] | ((first | rw [walk_take] | rw [walk_run] | rw [again_cons]); intro Z hZ; simp only [sel, List.getElem?_toArray, List.getElem?_cons_zero, List.getElem?_cons_succ]; go_wp2_with (fail)))
                    go_wp2_with fail
                    go_meet
                    case rel => exact ⟨true, rfl, HB5.out, by simp, fun _ => HRR.out⟩
                  · have HRR : Hid (Ev.runs (Ev.rcmp (Ev.byOf q.group)) (S.take (j + 1 + 1)) = Ev.runs (Ev.rcmp (Ev.byOf q.group)) (S.take (j + 1)) ++ [[x]]) := by
                      show _ = _
                      rw [HR.out]
                      show (if _ then _ else _) = _
                      rw [if_neg (by rw [HO.out]; exact hoz)]
                    have hob : (o == 0) = false := by simpa using hoz
                    go_wp2_with fail
                    repeat' (first | (refine hZ _ _ ?_; clear hZ) | (refine hZ _ ?_; clear hZ) | (refine hZ ?_; clear hZ) | rw [again_nil] | rw [walk_fin] | ((first | rw [walk_take] | rw [walk_run] | rw [again_cons]); intro Z hZ; simp only [sel, List.getElem?_toArray, List.getElem?_cons_zero, List.getElem?_cons_succ]; go_wp2_with (fail)))
                    go_wp2_with fail
                    go_meet
                    case rel => exact ⟨false, rfl, HB5.out, fun _ => HRR.out, by simp⟩
              case rest =>
                obtain ⟨b, rfl, hB5, hbf, hbt⟩ := hcut.out
                clear hcut q0 q5
                have HB5 := Lib.hid hB5
                have HJ5 : Hid (GLoop W4.heap.size L i wc A9 c9 G ∧ Below W4.heap.size W4 wc) := ⟨HJ.out.1.below hB5, HJ.out.2.2.trans (hB5.mono HJ.out.2.2.size)⟩
                have HGM : Hid (G.map Gr.l = Ev.runs (Ev.rcmp (Ev.byOf q.group)) (S.take i)) := HJ.out.2.1
                clear hB5 HJ
                cases b with
                | false =>
                  have HRN : Hid (Ev.runs (Ev.rcmp (Ev.byOf q.group)) (S.take (i + 1)) = (G ++ [(⟨some ⟨wc.heap.size, 0, none⟩, [x], 1⟩ : Gr)]).map Gr.l) := by show _ = _; rw [hbf rfl, ← HGM.out]; simp
                  clear hbf hbt
                  go_upto_region 18 with fail
                  have hoA := (HJ5.out.1.own.alloc (.cells #[.slice x.a x.l.length x.c] 37)).alloc (.cells #[.slice (some ⟨wc.heap.size, 0, none⟩) 1 1] 126)
                  have hrA := ERow.lit eGr (wc.alloc (.cells #[.slice x.a x.l.length x.c] 37)) ⟨some ⟨wc.heap.size, 0, none⟩, [x], 1⟩ #[.slice (some ⟨wc.heap.size, 0, none⟩) 1 1] rfl _ rfl
                  have hz1 : (wc.alloc (.cells #[.slice x.a x.l.length x.c] 37)).heap.size = wc.heap.size + 1 := by simp
                  rw [hz1] at hrA
                  unfold Rw.v
                  go_wp2_with (at_builtin; refine wpList_append_elems eGr rfl (.tmp 74) (.tmp 78) rfl _ rfl hoA rfl 1 rfl hrA rfl (by simp; omega) (by have := HJ5.out.1.size; simp; omega) ?_; intro A3 c3' w3 ho3 hb3 hg3 ha3)
                  have HR : Hid (GLoop W4.heap.size L (i + 1) w3 A3 c3' (G ++ [(⟨some ⟨wc.heap.size, 0, none⟩, [x], 1⟩ : Gr)]) ∧ (G ++ [(⟨some ⟨wc.heap.size, 0, none⟩, [x], 1⟩ : Gr)]).map Gr.l = Ev.runs (Ev.rcmp (Ev.byOf q.group)) (S.take (i + 1)) ∧ Below W4.heap.size W4 w3) :=
                    ⟨HJ5.out.1.one HXL.out rfl ho3 hg3 ha3, HRN.out.symm, (HJ5.out.2.trans ((((Below.refl wc.heap.size wc).alloc (Nat.le_refl _) _).then ((Below.refl _ _).alloc (Nat.le_refl _) _)).mono HJ5.out.1.size)).trans hb3⟩
                  clear hoA hrA ho3 hb3 hg3 ha3
                  go_roundw
                  case rel => exact ⟨i + 1, A3, c3', _, by omega, by simp; omega, by go_num, by simp, HR.out⟩
                  case measure => simp [intOf]; omega
                | true =>
                  obtain ⟨hne, hrun⟩ := hbt rfl
                  clear hbf hbt
                  have hG0 : G ≠ [] := fun e => hne (by rw [← HGM.out, e]; rfl)
                  obtain ⟨G', r, rfl⟩ : ∃ G' r, G = G' ++ [r] := ⟨G.dropLast, G.getLast hG0, (List.dropLast_concat_getLast hG0).symm⟩
                  have HRN : Hid (∀ A5 c5, Ev.runs (Ev.rcmp (Ev.byOf q.group)) (S.take (i + 1)) = (G' ++ [(⟨A5, r.l ++ [x], c5⟩ : Gr)]).map Gr.l) := fun A5 c5 => by
                    rw [hrun, ← HGM.out]
                    simp
                  clear hne hrun hG0
                  obtain ⟨g9, rfl⟩ : ∃ g9, A9 = some ⟨g9, 0, none⟩ := by
                    rcases HJ5.out.1.own.form with ⟨-, -, h⟩ | ⟨g9, h, -⟩
                    · simp at h
                    · exact ⟨g9, h⟩
                  have q9 : wc.cell? ⟨g9, G'.length, none⟩ = some r.h := by
                    have := HJ5.out.1.own.cell (j := G'.length) (k := 0) (v := r.h) (by simp) (by simp; rfl)
                    rw [show G'.length * eGr.sz + 0 = G'.length from Nat.mul_one _] at this
                    exact this
                  have hrc := HJ5.out.1.cap r (by simp)
                  have hrl := HJ5.out.1.len r (by simp)
                  have hGl : (G' ++ [r]).length = G'.length + 1 := by simp
                  rw [hGl] at hGi ⊢
                  unfold Gr.h at q9
                  unfold Rw.v
                  go_wp2_with fail
                  refine (clip_any _ r.a r.l.length r.c hrc.1 hrc.2).mono ?_
                  rintro e W6 ⟨rfl, rfl⟩
                  have hroA := (HJ5.out.1.rows r (by simp)).below ((Below.refl wc.heap.size wc).alloc (Nat.le_refl _) (.cells #[.slice x.a x.l.length x.c] 37))
                  have hrA := ERow.lit eRw wc x #[.slice x.a x.l.length x.c] rfl wc.heap.size rfl
                  have hBA : Below wc.heap.size wc (wc.alloc (.cells #[.slice x.a x.l.length x.c] 37)) := (Below.refl wc.heap.size wc).alloc (Nat.le_refl _) _
                  have q9a := cell_later hBA q9
                  have hnl : r.a = none → r.l.length = 0 := fun e => by rw [HJ5.out.1.nil r (by simp) e]; rfl
                  have hoG := HJ5.out.1.own.alloc (.cells #[.slice x.a x.l.length x.c] 37)
                  go_wp2_with (at_builtin; refine wpList_append_full eRw rfl (.tmp 68) (.tmp 70) rfl r.l.length rfl hroA rfl 1 ⟨wc.heap.size, 0, none⟩ rfl hrA rfl (by decide) (by simp; omega) hnl ?_; intro A5 c5 w5 ho5 hb5; have q9b := cell_later hb5 q9a; have f9b := (hoG.below hb5).free G'.length)
                  have HR : Hid (GLoop W4.heap.size L (i + 1) (w5.setCell ⟨g9, G'.length, none⟩ (.slice A5 (r.l.length + 1) c5)) (some ⟨g9, 0, none⟩) c9 (G' ++ [(⟨A5, r.l ++ [x], c5⟩ : Gr)]) ∧ (G' ++ [(⟨A5, r.l ++ [x], c5⟩ : Gr)]).map Gr.l = Ev.runs (Ev.rcmp (Ev.byOf q.group)) (S.take (i + 1)) ∧ Below W4.heap.size W4 (w5.setCell ⟨g9, G'.length, none⟩ (.slice A5 (r.l.length + 1) c5))) := by
                    have hbb : Below wc.heap.size wc w5 := hBA.then hb5
                    have h1 := HJ5.out.1.last HXL.out hbb (ho5.mono (by simp))
                    rw [show (r.l ++ [x]).length = r.l.length + 1 by simp] at h1
                    refine ⟨h1, (HRN.out A5 c5).symm, ?_⟩
                    have hg9 : W4.heap.size ≤ g9 := (HJ5.out.1.own.block _ rfl).1
                    have := HJ5.out.1.size
                    exact below_of_grown (HJ5.out.2.trans (hbb.mono HJ5.out.1.size)) (grown_store w5 g9 G'.length _) hg9 (Nat.le_trans HJ5.out.1.size hbb.size)
                  clear hoG hroA hrA hBA q9 q9a q9b f9b ho5 hb5 hnl
                  go_roundw
                  case rel => exact ⟨i + 1, _, c9, _, by omega, by simp; omega, by go_num, by simp, HR.out⟩
                  case measure => simp [intOf]; omega
            · have hii : ¬ (i : Int) < (L.length : Int) := by omega
              obtain rfl : i = L.length := by omega
              have HF : Hid (RetG w D (.returned (.slice A9 G.length c9)) wr) := by
                obtain ⟨h1, h2, h3⟩ := HJ.out
                have hb := HS7.out.trans (h3.mono hzw)
                refine ⟨A9, c9, G, rfl, ⟨h1.own.mono hzw, fun r hr => ⟨h1.rows r hr, fun x hx => (HL.out.in_ x (h1.mem r hr x hx)).below hb, by have := h1.len r hr; omega⟩, h1.cap, h1.ne, h1.nil⟩, ?_, hb⟩
                rw [h2, HD3.out, List.take_of_length_le (by omega)]
              go_wp2_with fail
              go_ret
              exact HF.out
end Go.Proofs.YtpahkaffknnjhaaGreatDoor
end

section
namespace Go.Proofs.YtpahkaffknnjhaaGreatDoor
set_option linter.unusedSimpArgs false
set_option linter.unusedVariables false
open Go.RowKit
structure RLoop (B : Nat) (W : World) (A : Option Addr) (c : Nat) (R : List Rw) : Prop where
  own : EOwn eRw W B A c R
  rows : ∀ r ∈ R, ERow eVa W r.a r.l
  cap : ∀ r ∈ R, r.l.length ≤ r.c ∧ r.c ≤ maxLen
  ok : ∀ r ∈ R, ∀ v ∈ r.l, v.ok
  ne : ∀ r ∈ R, r.l ≠ [] → ∀ a, r.a = some a → ∀ x, A = some x → a.block ≠ x.block
  size : B ≤ W.heap.size
variable {B c : Nat} {W W' : World} {A : Option Addr} {R : List Rw}
theorem RLoop.start (hB : B ≤ W.heap.size) : RLoop B W none 0 [] :=
  ⟨EOwn.nil _ _, (by intro r hr; cases hr), (by intro r hr; cases hr), (by intro r hr; cases hr), (by intro r hr; cases hr), hB⟩
theorem RLoop.below (h : RLoop B W A c R) (hB : Below W.heap.size W W') : RLoop B W' A c R :=
  ⟨h.own.below hB, fun r hr => (h.rows r hr).below hB, h.cap, h.ok, h.ne, Nat.le_trans h.size hB.size⟩
theorem RLoop.one (h : RLoop B W A c R) {w1 w2 w3 : World} (hB1 : Below W.heap.size W w1) {r : Rw} (hr : EOwn eVa w1 W.heap.size r.a r.c r.l) (hok : ∀ v ∈ r.l, v.ok) (hw2 : w1.alloc (.cells #[r.v] 37) = w2) {A3 : Option Addr} {c3 : Nat}
    (ho3 : EOwn eRw w3 B A3 c3 (R ++ [r])) (hg3 : w2.grownBy w3 (A.map (·.block))) (ha3 : A3.map (·.block) = A.map (·.block) ∨ A3.map (·.block) = some w2.heap.size) :
    RLoop B w3 A3 c3 (R ++ [r]) := by
  have hB2 : Below w1.heap.size w1 w2 := by rw [← hw2]; exact (Below.refl _ _).alloc (Nat.le_refl _) _
  have hz1 := hB1.size
  have hz2 := hB2.size
  have hAb : ∀ a, A = some a → a.block < W.heap.size := fun a ha => (h.own.block a ha).2
  have keep : ∀ (P : Option Addr) (l : List Va), ERow eVa w2 P l → (l ≠ [] → ∀ a, P = some a → ∀ y, A = some y → a.block ≠ y.block) → ERow eVa w3 P l := fun P l hr hn hl => by
    refine hr.keep hg3.size (fun a ha hlt => hg3.block _ hlt ?_) hl
    intro e
    cases hA : A with
    | none => rw [hA] at e; simp at e
    | some y => rw [hA] at e; exact hn (List.length_pos_iff.1 hl) a ha y hA (by simpa using e)
  refine ⟨ho3, ?_, ?_, ?_, ?_, by have := h.size; have := hg3.size; omega⟩
  · intro s hs
    rcases List.mem_append.1 hs with hs | hs
    · exact keep _ _ ((h.rows s hs).below (hB1.then hB2)) (h.ne s hs)
    · rw [List.mem_singleton.1 hs]
      refine keep _ _ (hr.row.below hB2) fun _ a ha y hy => ?_
      have := hAb y hy
      have := (hr.block a ha).1
      omega
  · intro s hs
    rcases List.mem_append.1 hs with hs | hs
    · exact h.cap s hs
    · rw [List.mem_singleton.1 hs]; exact ⟨hr.cap, hr.capMax⟩
  · intro s hs
    rcases List.mem_append.1 hs with hs | hs
    · exact h.ok s hs
    · rw [List.mem_singleton.1 hs]; exact hok
  · intro s hs hne a ha y hy
    have hy3 : some y.block = A.map (·.block) ∨ y.block = w2.heap.size := by
      rw [hy] at ha3
      rcases ha3 with e | e
      · exact .inl e
      · exact .inr (Option.some.inj e)
    rcases List.mem_append.1 hs with hs | hs
    · have hlt := erow_lt (h.rows s hs) hne a ha
      rcases hy3 with e | e
      · cases hA : A with
        | none => rw [hA] at e; simp at e
        | some z =>
          rw [hA] at e
          have := h.ne s hs hne a ha z hA
          simp at e
          omega
      · omega
    · rw [List.mem_singleton.1 hs] at ha
      have hb := hr.block a ha
      rcases hy3 with e | e
      · cases hA : A with
        | none => rw [hA] at e; simp at e
        | some z =>
          rw [hA] at e
          have := hAb z hA
          simp at e
          omega
      · omega
def RetRows (w : World) (P : List (List Va) → Prop) (e : Ending) (w' : World) : Prop := ∃ A c R, e = .returned (.slice A (List.length R) c) ∧ RLoop w.heap.size w' A c R ∧ P (R.map Rw.l) ∧ Below w.heap.size w w'
namespace Ev
theorem mg_on {α β : Type} {cmp : β → β → Int} (f : α → β) : ∀ (X Y : List α), (Srt.mg (fun x y => cmp (f x) (f y)) X Y).map f = Srt.mg cmp (X.map f) (Y.map f)
  | [], Y => by rw [List.map_nil, Srt.mg_nil_left, Srt.mg_nil_left]
  | x :: X, [] => by rw [List.map_nil, Srt.mg_nil_right, Srt.mg_nil_right]
  | x :: X, y :: Y => by
    rw [List.map_cons, List.map_cons, Srt.mg_cons, Srt.mg_cons]
    split
    · rw [List.map_cons, mg_on f (x :: X) Y]; rfl
    · rw [List.map_cons, mg_on f X (y :: Y)]; rfl
termination_by X Y => X.length + Y.length
theorem ssort_on {α β : Type} {cmp : β → β → Int} (f : α → β) (L : List α) : (Srt.ssort (fun x y => cmp (f x) (f y)) L).map f = Srt.ssort cmp (L.map f) := by
  induction L using Srt.list_snoc with
  | h0 => rfl
  | h1 L z ih => rw [Srt.ssort_snoc, mg_on, ih, List.map_append, List.map_cons, List.map_nil, Srt.ssort_snoc]
theorem runs_flatten (cmp : Rw → Rw → Int) (S : List Rw) : (runs cmp S).flatten = S := by
  induction S with
  | nil => rfl
  | cons x S ih =>
    show (consG cmp x (runs cmp S)).flatten = x :: S
    unfold consG
    revert ih
    cases runs cmp S with
    | nil => intro ih; rw [← ih]; rfl
    | cons g G =>
      intro ih
      dsimp only
      split
      · rw [← ih]; rfl
      · rw [← ih]; rfl
theorem baseG_mem {gr : Bool} {group : List Int} {L : List Rw} : ∀ g ∈ baseG gr group L, ∀ x ∈ g, x ∈ L := by
  intro g hg x hx
  unfold baseG at hg
  split at hg
  · split at hg
    · rw [List.mem_singleton.1 hg] at hx; exact hx
    · have : x ∈ (runs (rcmp (byOf group)) (Srt.ssort (rcmp (byOf group)) L)).flatten := List.mem_flatten.2 ⟨g, hg, hx⟩
      rw [runs_flatten] at this
      exact (Srt.ssort_perm _ _).mem_iff.1 this
  · obtain ⟨r, hr, rfl⟩ := List.mem_map.1 hg
    rw [List.mem_singleton.1 hx]; exact hr
end Ev
end Go.Proofs.YtpahkaffknnjhaaGreatDoor
end

