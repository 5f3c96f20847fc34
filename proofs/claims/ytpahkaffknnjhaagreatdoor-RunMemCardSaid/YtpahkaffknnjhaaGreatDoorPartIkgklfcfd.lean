/-
  Texts of a proof, one behind the other (each with its own head).
-/
import Derived.Test.YtpahkaffknnjhaaGreatDoorPartHieibblaf
section
/-
  The walk of RunMem.
-/
namespace Go.Proofs.YtpahkaffknnjhaaGreatDoor
set_option linter.unusedSimpArgs false
set_option linter.unusedVariables false
open Go.RowKit Go.Op

theorem below_drewN18 {B : Nat} {a w : World} (h : Below B a w) (n : Nat) : Below B a (w.drewN n) := ⟨h.os, h.tape, h.output, h.size, h.block⟩
/-- A case without a query. -/
def Cse.bare (x : Cse) : Cse := ⟨⟨⟨[], [], 0, [], false, [], [], [], []⟩, none, 0, none, 0, none, 0, none, [], 0, none, [], 0, none, 0, 0⟩, x.ta, x.G, x.tc, x.da, x.D, x.dc⟩
theorem CseRaw.bare {w : World} {x : Cse} (h : CseRaw w x) : CseRaw w x.bare :=
  ⟨⟨ERow.nil, (by intro n hn; cases hn), Nat.le_refl _, Nat.zero_le _, ERow.nil, (by intro n hn; cases hn), Nat.le_refl _, Nat.zero_le _, ⟨show (-9223372036854775808 : Int) ≤ 0 by decide, show (0 : Int) ≤ 9223372036854775807 by decide⟩, ERow.nil, (by intro n hn; cases hn), Nat.le_refl _, Nat.zero_le _, ERow.nil, (by intro n hn; cases hn), Nat.le_refl _, Nat.zero_le _⟩,
    ERow.nil, (by intro n hn; cases hn), ⟨Nat.le_refl _, Nat.zero_le _⟩, ⟨Nat.le_refl _, Nat.zero_le _⟩, h.t, h.tin, h.tl, h.d, h.din, h.dl⟩
theorem nx_tab {w : World} {T : List (List (List Va))} {t : Int} {g : Gr} (h : TabAt w T t g) {b : Int} {m : Nat} (hm : max b 0 = (m : Int)) {n : Int} {l : List Va} {f : Bool} (hv : NxVal (Run.nextOf T t b) n l f) :
    (∃ hm : m < g.l.length, f = true ∧ n = (m : Int) + 1 ∧ l = g.l[m].l) ∨ (¬ m < g.l.length ∧ f = false ∧ n = 0 ∧ l = []) := by
  unfold Run.nextOf at hv
  rw [hm, h.row, if_pos (by omega)] at hv
  simp only [Int.toNat_natCast] at hv
  by_cases hl : m < g.l.length
  · rw [List.getElem?_eq_getElem hl] at hv
    rcases hv with ⟨h1, -⟩ | ⟨q, h1, h2, h3⟩
    · simp at h1
    · simp at h1
      exact .inl ⟨hl, h3, by rw [h2, ← h1.1]; simp, h1.2.symm⟩
  · rw [List.getElem?_eq_none (by omega)] at hv
    rcases hv with ⟨-, h2, h3, h4⟩ | ⟨q, h1, -⟩
    · exact .inr ⟨hl, h4, h2, h3⟩
    · simp at h1
theorem ro_tab {w : World} {T : List (List (List Va))} {t : Int} {g : Gr} (h : TabAt w T t g) {b : Int} {l : List Va} {f : Bool} (hv : RoVal (Run.rowOf T t (b - 1)) l f) :
    (∃ (j : Nat) (hj : j < g.l.length), b = (j : Int) + 1 ∧ f = true ∧ l = g.l[j].l) ∨ (¬ (1 ≤ b ∧ b ≤ (g.l.length : Int)) ∧ f = false ∧ l = []) := by
  rw [h.row] at hv
  by_cases hb : 1 ≤ b ∧ b ≤ (g.l.length : Int)
  · have hj : (b - 1).toNat < g.l.length := by omega
    rw [if_pos (by omega), List.getElem?_eq_getElem hj] at hv
    rcases hv with ⟨h1, -⟩ | ⟨h1, h2⟩
    · cases h1
    · replace h1 := Option.some.inj h1
      exact .inl ⟨_, hj, by omega, h2, h1.symm⟩
  · have : (if 0 ≤ b - 1 then (g.l[(b - 1).toNat]?).map Rw.l else none) = none := by
      split
      · rw [List.getElem?_eq_none (by omega)]; rfl
      · rfl
    rw [this] at hv
    rcases hv with ⟨-, h2, h3⟩ | ⟨h1, -⟩
    · exact .inr ⟨hb, h3, h2⟩
    · simp at h1
theorem nx_none {n : Int} {l : List Va} {f : Bool} (h : NxVal none n l f) : f = false := by
  rcases h with ⟨-, -, -, h⟩ | ⟨q, h, -⟩
  · exact h
  · cases h
theorem ro_none {α : Type} {l : List α} {f : Bool} (h : RoVal none l f) : f = false := by
  rcases h with ⟨-, -, h⟩ | ⟨h, -⟩
  · exact h
  · cases h
namespace Run
theorem find_lt {L : List Bs} {m : Bs} {t : Nat} (h : t < L.length) (ht : t < find L m) : cmp L[t] m < 0 := by
  unfold find at ht
  induction L generalizing t with
  | nil => simp at h
  | cons x L ih =>
    rw [List.takeWhile_cons] at ht
    split at ht
    · next hx =>
      cases t with
      | zero => simpa using hx
      | succ t => exact ih (by simpa using h) (by simpa using ht)
    · simp at ht
theorem find_not {L : List Bs} {m : Bs} (h : find L m < L.length) : ¬ cmp L[find L m] m < 0 := by
  have key : ∀ (L : List Bs) (n : Nat) (hn : n = find L m) (h : n < L.length), ¬ cmp L[n] m < 0 := by
    intro L
    induction L with
    | nil => intro n _ h; simp at h
    | cons x L ih =>
      intro n hn h
      unfold find at hn
      rw [List.takeWhile_cons] at hn
      split at hn
      · subst hn
        exact ih _ rfl (by simpa [find] using h)
      · next hx =>
        subst hn
        simpa using hx
  exact key L _ rfl h
/-- The least key that does not come ahead, of the first i; and whether there is one. -/
def wantOf (M : List Bs) (k : Bs) (i : Nat) : Bs × Bool := if find M k < i then (M.getD (find M k) [], true) else ([], false)
theorem wantOf_zero (M : List Bs) (k : Bs) : wantOf M k 0 = ([], false) := by unfold wantOf; rw [if_neg (Nat.not_lt_zero _)]
theorem wantOf_less {M : List Bs} {k : Bs} {i : Nat} (hi : i < M.length) (h : Go.Op.bytesLess M[i] k = true) : wantOf M k (i + 1) = wantOf M k i := by
  have hne : find M k ≠ i := fun e => by
    subst e
    exact find_not hi (cmp_lt.2 h)
  unfold wantOf
  by_cases hf : find M k < i
  · rw [if_pos hf, if_pos (by omega)]
  · rw [if_neg hf, if_neg (by omega)]
theorem wantOf_has {M : List Bs} {k : Bs} {i : Nat} (h : (wantOf M k i).2 = true) : wantOf M k (i + 1) = wantOf M k i := by
  unfold wantOf at h ⊢
  by_cases hf : find M k < i
  · rw [if_pos hf, if_pos (by omega)]
  · rw [if_neg hf] at h; cases h
theorem wantOf_set {M : List Bs} {k : Bs} {i : Nat} (hi : i < M.length) (h : Go.Op.bytesLess M[i] k = false) (hh : (wantOf M k i).2 = false) : wantOf M k (i + 1) = (M[i], true) := by
  have hf : ¬ find M k < i := fun hf => by unfold wantOf at hh; rw [if_pos hf] at hh; cases hh
  have hn : ¬ i < find M k := fun hn => by
    have := cmp_lt.1 (find_lt hi hn)
    rw [h] at this
    cases this
  have he : find M k = i := by omega
  unfold wantOf
  rw [he, if_pos (Nat.lt_succ_self _), List.getD_eq_getElem?_getD, List.getElem?_eq_getElem hi]
  rfl
theorem wantOf_all {M : List Bs} {k : Bs} {l : Bs} {f : Bool} (hv : RoVal (M[find M k]?) l f) : wantOf M k M.length = (l, f) := by
  unfold wantOf
  by_cases hf : find M k < M.length
  · rw [if_pos hf, List.getD_eq_getElem?_getD]
    rw [List.getElem?_eq_getElem hf] at hv ⊢
    rcases hv with ⟨h1, -⟩ | ⟨h1, h2⟩
    · cases h1
    · rw [h2, ← Option.some.inj h1]; rfl
  · rw [if_neg hf]
    rw [List.getElem?_eq_none (by omega)] at hv
    rcases hv with ⟨-, h2, h3⟩ | ⟨h1, -⟩
    · rw [h2, h3]
    · cases h1
end Run
set_option maxRecDepth 100000 in
set_option maxHeartbeats 8000000 in
theorem runMem_walk (w : World) (v0 : Value) (h0 : CseW w v0) (v1 : Value) (h1 : PairW v1) (kA : Option Addr) (kc : Nat) (kl : List UInt8) (hkr : BRow w kA kl) (hkc : kl.length ≤ kc) (hkm : kc ≤ maxLen) :
    Calls Tryz.prog 3 #[v0, v1, .slice kA kl.length kc] w fun e w' => e = .returned (.bool true) ∧ Below w.heap.size w w' := by
  obtain ⟨x, rfl, hx⟩ := h0
  obtain ⟨a, b, rfl, ha, hb⟩ := h1
  have HX := Lib.hid hx
  have HK := Lib.hid hkr
  have HAB := Lib.hid (And.intro ha hb)
  have hkl : kl.length ≤ 9223372036854775807 := by unfold maxLen at hkm; omega
  have hgl : x.G.length ≤ 9223372036854775807 := by have := hx.tl; unfold maxLen at this; omega
  have hdl : x.D.length ≤ 9223372036854775807 := by have := hx.dl; unfold maxLen at this; omega
  clear hx hkr hkc hkm ha hb
  go_enter Tryz.func3, Tryz.ntmps3
  go_upto_region 1 with (refine wpList_box_cse rfl (.tmp 0) rfl x rfl ?_; intro W1 hb1 hz1 hB1)
  obtain ⟨g3, hg3⟩ : ∃ g, w.heap.size = g := ⟨_, rfl⟩
  generalize hW2 : World.alloc W1 (.cells _ _) = W2
  obtain ⟨ba2, hz2, hB2⟩ := fresh1 hW2
  clear hW2
  have HS2 : Hid (Below w.heap.size w W2 ∧ Blk W2 g3 30 x.cells) := by
    rw [hg3] at hb1 hB1
    exact ⟨by rw [hg3]; exact hB1.trans (hB2.mono (by omega)), hb1.below hB2⟩
  obtain ⟨p0, p1, -⟩ := Blk.c2 ba2
  rw [hg3]
  clear hb1 hz1 hB1 hz2 hB2 ba2
  generalize W1.heap.size = g4 at p0 p1 ⊢
  go_upto_region 2 with (go_quiet (fail))
  clear p0 p1
  have HS3 : Hid (Below w.heap.size w (W2.drewN nq) ∧ Blk (W2.drewN nq) g3 30 x.cells) := ⟨below_drewN18 HS2.out.1 _, HS2.out.2⟩
  clear HS2
  generalize W2.drewN nq = W3 at HS3 ⊢
  go_wp2_with fail
  refine (rlives_any W3).mono ?_
  rintro e W4 ⟨rfl, hB⟩
  have HS4 : Hid (Below w.heap.size w W4 ∧ Blk W4 g3 30 x.cells) := ⟨HS3.out.1.then hB, HS3.out.2.below hB⟩
  clear hB HS3
  obtain ⟨-, -, -, -, -, -, c9, c10, clt⟩ := Blk.cse HS4.out.2
  go_wp2_with fail
  clear c9 c10 clt
  refine (show Calls _ _ #[x.bare.v] _ _ from small18_any W4 x.bare (HX.out.below HS4.out.1).bare).mono ?_
  rintro e W5 ⟨sm, rfl, hsm, hB⟩
  have HS5 : Hid (Below w.heap.size w W5 ∧ Blk W5 g3 30 x.cells) := ⟨HS4.out.1.then hB, HS4.out.2.below hB⟩
  have HSM := Lib.hid hsm
  clear hB hsm HS4
  cases sm with
  | false =>
    go_wp2_with fail
    refine (rlives_any W5).mono ?_
    rintro e W9 ⟨rfl, hB⟩
    have HB9 := Lib.hid (HS5.out.1.then hB)
    clear hB
    go_wp2_with fail
    go_ret
    exact ⟨rfl, HB9.out⟩
  | true =>
    have HSC : Hid (SmallC x.bare) := HSM.out (by simp)
    clear HSM
    by_cases hk100 : 100 < kl.length
    · have hki : (100 : Int) < (kl.length : Int) := by omega
      go_wp2_with fail
      refine (rlives_any W5).mono ?_
      rintro e W9 ⟨rfl, hB⟩
      have HB9 := Lib.hid (HS5.out.1.then hB)
      clear hB
      go_wp2_with fail
      go_ret
      exact ⟨rfl, HB9.out⟩
    have hki : ¬ (100 : Int) < (kl.length : Int) := by omega
    go_upto_region 4 with fail
    obtain ⟨-, -, -, -, -, -, c9, c10, clt⟩ := Blk.cse HS5.out.2
    go_wp2_with fail
    clear c9 c10 clt
    have HTB : Hid (TbIn w x.ta x.G) := HX.out.bare.tb HSC.out
    have HDF : Hid (DfsIn w x.da x.D) := HX.out.bare.df HSC.out
    refine (newmem_any W5 x.ta x.tc x.G (HTB.out.below HS5.out.1) x.da x.dc x.D (HDF.out.below HS5.out.1) (by have := HSC.out.d; show x.D.length ≤ 100; exact Nat.le_trans this (by decide)) (fun d hd => Nat.le_trans (HSC.out.dc d hd) (by decide))).mono ?_
    rintro e W6 ⟨gm, G', K, rfl, hM, hG', hKG, hB⟩
    have HS6 : Hid (Below w.heap.size w W6 ∧ Blk W6 g3 30 x.cells) := ⟨HS5.out.1.then hB, HS5.out.2.below hB⟩
    have HM6 : Hid (MemAt W6 gm G' K) := hM
    obtain ⟨T, hT⟩ : ∃ T, x.G.map Run.rowsG = T := ⟨_, rfl⟩
    have HG' : Hid (G'.map Run.rowsG = T) := by rw [← hT]; exact hG'
    have HT := Lib.hid hT
    have HKG : Hid (K.map Run.keysG = x.D.map (Run.keysD T)) := by rw [← hT]; exact hKG
    have HSO : Hid (∀ k ∈ K, Srt.Sorted Run.cmp (Run.keysG k)) := fun k hk => by
      have : Run.keysG k ∈ K.map Run.keysG := List.mem_map.2 ⟨k, hk, rfl⟩
      rw [HKG.out] at this
      obtain ⟨d, -, hd⟩ := List.mem_map.1 this
      rw [← hd]
      exact Run.keys_sorted _ _
    clear hB hM hG' hKG hT HS5
    go_wp2_with fail
    have h := mnext_all W6 gm G' K HM6.out a b
    rw [HG'.out] at h
    refine h.mono ?_
    clear h
    rintro e W7 h
    obtain ⟨n1, A1, l1, c1, f1, rfl, hr1, hv1, hB⟩ := h.vals
    have HS7 : Hid (Below w.heap.size w W7 ∧ Blk W7 g3 30 x.cells ∧ MemAt W7 gm G' K ∧ ERow eVa W7 A1 l1) := ⟨HS6.out.1.then hB, HS6.out.2.below hB, HM6.out.below hB, hr1⟩
    have HV1 := Lib.hid hv1
    clear h hr1 hv1 hB HS6 HM6
    go_wp2_with fail
    have h := mrow_any W7 gm G' K HS7.out.2.2.1 a b HAB.out.2.1
    rw [HG'.out] at h
    refine h.mono ?_
    clear h
    rintro e W8 h
    obtain ⟨A2, l2, c2, f2, rfl, hr2, hv2, hB⟩ := h.vals
    have HS8 : Hid (Below w.heap.size w W8 ∧ Blk W8 g3 30 x.cells ∧ MemAt W8 gm G' K ∧ ERow eVa W8 A1 l1 ∧ ERow eVa W8 A2 l2) := ⟨HS7.out.1.then hB, HS7.out.2.1.below hB, HS7.out.2.2.1.below hB, HS7.out.2.2.2.below hB, hr2⟩
    have HV2 := Lib.hid hv2
    clear h hr2 hv2 hB HS7
    go_upto_region 8 with fail
    go_cut [87] from 79 to 87 (fun v wx => Hid (v = .bool (decide (0 ≤ a ∧ a < (x.G.length : Int))) ∧ W8 = wx))
    case first =>
      obtain ⟨-, -, -, -, -, -, c9, c10, clt⟩ := Blk.cse HS8.out.2.1
      by_cases ha0 : 0 ≤ a
      · by_cases hn : a < (x.G.length : Int)
        · have hd : Hid (decide (0 ≤ a ∧ a < (x.G.length : Int)) = true) := by show _ = _; simp [ha0, hn]
          go_wp2_with fail
          go_meet
          case rel => exact ⟨by rw [hd.out], rfl⟩
        · have hd : Hid (decide (0 ≤ a ∧ a < (x.G.length : Int)) = false) := by show _ = _; simp; omega
          go_wp2_with fail
          go_meet
          case rel => exact ⟨by rw [hd.out], rfl⟩
      · have hai : a < 0 := by omega
        have hd : Hid (decide (0 ≤ a ∧ a < (x.G.length : Int)) = false) := by show _ = _; simp; omega
        go_wp2_with fail
        go_meet
        case rel => exact ⟨by rw [hd.out], rfl⟩
    case rest =>
      obtain ⟨rfl, rfl⟩ := hcut.out
      clear hcut
      go_upto_if 87 with fail
      go_cut [17] from 87 to 92 (fun v17 wx => ∃ (ga : Option Addr) (R : List Rw) (gc : Nat), v17 = .slice ga R.length gc ∧ Hid (W8 = wx ∧ TabAt W8 T a ⟨ga, R, gc⟩))
      case first =>
        obtain ⟨-, -, -, -, -, -, c9, c10, clt⟩ := Blk.cse HS8.out.2.1
        by_cases hd : 0 ≤ a ∧ a < (x.G.length : Int)
        · rw [decide_eq_true hd]
          obtain ⟨n, rfl⟩ := Int.eq_ofNat_of_zero_le hd.1
          have hn : n < x.G.length := by omega
          have hni : (n : Int) < (x.G.length : Int) := by omega
          have HTA : Hid (TabAt W8 T n x.G[n]) := by rw [← HT.out]; exact (HX.out.bare.tab HSC.out hn).below HS8.out.1
          obtain ⟨bb, oo, ha2, -, q0⟩ := T3_at (HX.out.t.below HS8.out.1) hn
          rw [ha2] at c9
          generalize x.G[n] = g at HTA q0
          unfold Gr.h at q0
          clear hd
          go_wp2_with fail
          go_meet
          case rel => exact ⟨g.a, g.l, g.c, rfl, rfl, HTA.out⟩
        · rw [decide_eq_false hd]
          have HTA : Hid (TabAt W8 T a ⟨none, [], 0⟩) := TabAt.nil (by rw [← HT.out, List.length_map]; omega)
          clear hd
          go_wp2_with fail
          go_meet
          case rel => exact ⟨none, [], 0, rfl, rfl, HTA.out⟩
      case rest =>
        obtain ⟨ga, R, gc, rfl, hh⟩ := hcut
        obtain ⟨rfl, hta⟩ := hh.out
        have HTA := Lib.hid hta
        clear hh hta
        obtain ⟨m, hm⟩ : ∃ m : Nat, max b 0 = (m : Int) := ⟨(max b 0).toNat, by omega⟩
        have hmx := hm
        have HM := Lib.hid hm
        have hgll : R.length ≤ 60 := HTA.out.2.1
        have HN1 : Hid ((∃ hm : m < R.length, f1 = true ∧ n1 = (m : Int) + 1 ∧ l1 = R[m].l) ∨ (¬ m < R.length ∧ f1 = false ∧ n1 = 0 ∧ l1 = [])) := nx_tab HTA.out HM.out HV1.out
        have HN2 : Hid ((∃ (j : Nat) (hj : j < R.length), b = (j : Int) + 1 ∧ f2 = true ∧ l2 = R[j].l) ∨ (¬ (1 ≤ b ∧ b ≤ (R.length : Int)) ∧ f2 = false ∧ l2 = [])) := ro_tab HTA.out HV2.out
        clear HV1 HV2
        clear hm
        go_upto_region 11 with fail
        clear hmx
        go_cut [120] from 95 to 120 (fun v wx => Hid (v = .bool false ∧ W8 = wx))
        case first =>
          rcases HN1.out with ⟨hm, rfl, hn1, hl1⟩ | ⟨hm, rfl, hn1, hl1⟩ <;> rcases HN2.out with ⟨j, hj, hb, rfl, hl2⟩ | ⟨hj, rfl, hl2⟩ <;> clear hn1 hl1 hl2 HN1 HN2
          · have hmi : (m : Int) < (R.length : Int) := by omega
            have hb1 : (1 : Int) ≤ b := by omega
            have hb2 : b ≤ (R.length : Int) := by omega
            clear hb
            go_wp2_with fail
            go_meet
            case rel => exact ⟨rfl, rfl⟩
          · have hmi : (m : Int) < (R.length : Int) := by omega
            by_cases hb1 : (1 : Int) ≤ b
            · have hb2 : ¬ b ≤ (R.length : Int) := by omega
              clear hj
              go_wp2_with fail
              go_meet
              case rel => exact ⟨rfl, rfl⟩
            · clear hj
              go_wp2_with fail
              go_meet
              case rel => exact ⟨rfl, rfl⟩
          · have hmi : ¬ (m : Int) < (R.length : Int) := by omega
            have hb1 : (1 : Int) ≤ b := by omega
            have hb2 : b ≤ (R.length : Int) := by omega
            clear hb
            go_wp2_with fail
            go_meet
            case rel => exact ⟨rfl, rfl⟩
          · have hmi : ¬ (m : Int) < (R.length : Int) := by omega
            by_cases hb1 : (1 : Int) ≤ b
            · have hb2 : ¬ b ≤ (R.length : Int) := by omega
              clear hj
              go_wp2_with fail
              go_meet
              case rel => exact ⟨rfl, rfl⟩
            · clear hj
              go_wp2_with fail
              go_meet
              case rel => exact ⟨rfl, rfl⟩
        case rest =>
          obtain ⟨rfl, rfl⟩ := hcut.out
          clear hcut
          go_upto_region 13 with fail
          go_cut [171] from 121 to 171 (fun v wx => Hid (v = .bool false ∧ Below W8.heap.size W8 wx))
          case first =>
            have HOK : Hid (∀ r ∈ R, RowOk W8 r.a r.l) := HTA.out.1.in_
            rcases HN1.out with ⟨hm, rfl, rfl, hl1⟩ | ⟨hm, rfl, rfl, rfl⟩ <;> rcases HN2.out with ⟨j, hj, rfl, rfl, hl2⟩ | ⟨hj, rfl, rfl⟩ <;> clear HN1 HN2
            · obtain ⟨bb, oo, rfl, -, q0⟩ := rw_at HTA.out.1.r hm
              obtain ⟨bb2, oo2, he, -, q1⟩ := rw_at HTA.out.1.r hj
              cases he
              have HO1 := Lib.hid (HOK.out _ (List.getElem_mem hm))
              have HO2 := Lib.hid (HOK.out _ (List.getElem_mem hj))
              have hmi : (m : Int) + 1 ≤ 9223372036854775807 := by omega
              have hji : (j : Int) + 1 - 1 = (j : Int) := by omega
              have HV1 := Lib.hid HS8.out.2.2.2
              obtain ⟨r, hr⟩ : ∃ r, R[m] = r := ⟨_, rfl⟩
              obtain ⟨r2, hr2⟩ : ∃ r, R[j] = r := ⟨_, rfl⟩
              have HL1 : Hid (r.l.length ≤ 12 ∧ l1 = r.l) := ⟨by rw [← hr]; exact HTA.out.2.2.1 _ (List.getElem_mem hm), by rw [hl1, hr]⟩
              have HL2 : Hid (r2.l.length ≤ 12 ∧ l2 = r2.l) := ⟨by rw [← hr2]; exact HTA.out.2.2.1 _ (List.getElem_mem hj), by rw [hl2, hr2]⟩
              rw [hr] at q0 HO1
              rw [hr2] at q1 HO2
              have HQ1 := Lib.hid q1
              unfold Rw.v at q0 HQ1
              clear q1 hr hr2 hl1 hl2
              go_wp2_with fail
              refine (show Calls _ _ #[.slice A1 l1.length c1, .slice r.a r.l.length r.c] _ _ from by rw [HL1.out.2]; exact sameself_any W8 A1 r.a c1 r.c r.l (by have := HV1.out.1; rwa [HL1.out.2] at this) HO1.out.r HO1.out.ok (by have := HL1.out.1; omega)).mono ?_
              rintro e W9 ⟨rfl, hB⟩
              have q1 := cell_later hB HQ1.out
              have HB9 := Lib.hid hB
              clear hB q0 hmi
              go_wp2_with fail
              refine (show Calls _ _ #[.slice A2 l2.length c2, .slice r2.a r2.l.length r2.c] _ _ from by rw [HL2.out.2]; exact sameself_any W9 A2 r2.a c2 r2.c r2.l (by have := HV1.out.2.below HB9.out; rwa [HL2.out.2] at this) (HO2.out.r.below HB9.out) HO2.out.ok (by have := HL2.out.1; omega)).mono ?_
              rintro e W10 ⟨rfl, hB⟩
              have HB10 := Lib.hid (HB9.out.then hB)
              clear hB q1 hji
              go_wp2_with fail
              go_meet
              case rel => exact ⟨rfl, HB10.out⟩
            · obtain ⟨bb, oo, rfl, -, q0⟩ := rw_at HTA.out.1.r hm
              have HO1 := Lib.hid (HOK.out _ (List.getElem_mem hm))
              have hmi : (m : Int) + 1 ≤ 9223372036854775807 := by omega
              have HV1 := Lib.hid HS8.out.2.2.2
              obtain ⟨r, hr⟩ : ∃ r, R[m] = r := ⟨_, rfl⟩
              have HL1 : Hid (r.l.length ≤ 12 ∧ l1 = r.l) := ⟨by rw [← hr]; exact HTA.out.2.2.1 _ (List.getElem_mem hm), by rw [hl1, hr]⟩
              rw [hr] at q0 HO1
              unfold Rw.v at q0
              clear hr hj hl1
              go_wp2_with fail
              refine (show Calls _ _ #[.slice A1 l1.length c1, .slice r.a r.l.length r.c] _ _ from by rw [HL1.out.2]; exact sameself_any W8 A1 r.a c1 r.c r.l (by have := HV1.out.1; rwa [HL1.out.2] at this) HO1.out.r HO1.out.ok (by have := HL1.out.1; omega)).mono ?_
              rintro e W9 ⟨rfl, hB⟩
              have HB9 := Lib.hid hB
              clear hB q0 hmi
              go_wp2_with fail
              go_meet
              case rel => exact ⟨rfl, HB9.out⟩
            · obtain ⟨bb2, oo2, rfl, -, q1⟩ := rw_at HTA.out.1.r hj
              have HO2 := Lib.hid (HOK.out _ (List.getElem_mem hj))
              have hji : (j : Int) + 1 - 1 = (j : Int) := by omega
              have HV1 := Lib.hid HS8.out.2.2.2
              obtain ⟨r2, hr2⟩ : ∃ r, R[j] = r := ⟨_, rfl⟩
              have HL2 : Hid (r2.l.length ≤ 12 ∧ l2 = r2.l) := ⟨by rw [← hr2]; exact HTA.out.2.2.1 _ (List.getElem_mem hj), by rw [hl2, hr2]⟩
              rw [hr2] at q1 HO2
              unfold Rw.v at q1
              clear hr2 hm hl2
              go_wp2_with fail
              refine (show Calls _ _ #[.slice A2 l2.length c2, .slice r2.a r2.l.length r2.c] _ _ from by rw [HL2.out.2]; exact sameself_any W8 A2 r2.a c2 r2.c r2.l (by have := HV1.out.2; rwa [HL2.out.2] at this) HO2.out.r HO2.out.ok (by have := HL2.out.1; omega)).mono ?_
              rintro e W9 ⟨rfl, hB⟩
              have HB9 := Lib.hid hB
              clear hB q1 hji
              go_wp2_with fail
              go_meet
              case rel => exact ⟨rfl, HB9.out⟩
            · clear hm hj
              go_wp2_with fail
              go_meet
              case rel => exact ⟨rfl, Below.refl _ _⟩
          case rest =>
            obtain ⟨rfl, hB⟩ := hcut.out
            have HS9 : Hid (Below w.heap.size w wc ∧ Blk wc g3 30 x.cells ∧ MemAt wc gm G' K) := ⟨HS8.out.1.then hB, HS8.out.2.1.below hB, HS8.out.2.2.1.below hB⟩
            clear hcut hB HS8 HN1 HN2 HTA HM
            obtain ⟨-, -, -, -, -, -, c9, c10, clt⟩ := Blk.cse HS9.out.2.1
            go_upto_region 16 with fail
            clear c9 c10 clt
            go_loopw [175] (fun iv wr => ∃ i : Nat, i ≤ x.D.length ∧ iv = .int .i64 (i : Int) ∧ Hid (Below w.heap.size w wr ∧ Blk wr g3 30 x.cells ∧ MemAt wr gm G' K)) (fun iv _ => x.D.length - (intOf iv).toNat)
            case atStart => exact ⟨0, Nat.zero_le _, by go_num, HS9.out⟩
            case round =>
              obtain ⟨i, hi, rfl, HJ⟩ := hrel
              clear HS9
              by_cases hlt : i < x.D.length
              · have hii : (i : Int) < (x.D.length : Int) := by omega
                obtain ⟨bb, oo, hda, -, -⟩ := df_at HX.out.d hlt
                have HIW : Hid (ERow eDf wr (some ⟨bb, oo, none⟩) x.D) := by show ERow _ _ _ _; rw [← hda]; exact HX.out.d.below HJ.out.1
                have HDI := Lib.hid (HX.out.din _ (List.getElem_mem hlt))
                have HDL := Lib.hid (HSC.out.dc _ (List.getElem_mem hlt))
                obtain ⟨d, hd⟩ : ∃ d, x.D[i] = d := ⟨_, rfl⟩
                have HD := Lib.hid hd
                have HDL : Hid (d.cols.length ≤ 6) := by rw [← hd]; exact HDL.out
                rw [hd] at HDI
                have HKI : Hid (Run.keysAt (K.map Run.keysG) i = Run.keysD T d) := by
                  show _ = _
                  rw [HKG.out]
                  unfold Run.keysAt
                  rw [if_pos ⟨by omega, by simpa using hlt⟩, List.getD_eq_getElem?_getD]
                  simp [hlt, hd]
                clear hd
                rw [hda]
                go_upto_region 18 with (first | (refine wpList_load_df_at rfl (.tmp 178) rfl HIW.out hlt d HD.out rfl ?_) | (refine wpList_alloc_df rfl rfl ?_; intro W6 hb6 hz6 hB6) | (refine wpList_store_df rfl rfl (.tmp 20) (.tmp 179) rfl wr.heap.size rfl d rfl hb6 ?_; intro Wa hb7 hg7))
                have HBW := Lib.hid (below_of_grown hB6 hg7 (Nat.le_refl _) hB6.size)
                have HSA : Hid (Below w.heap.size w Wa ∧ Blk Wa g3 30 x.cells ∧ MemAt Wa gm G' K) := ⟨HJ.out.1.then HBW.out, HJ.out.2.1.below HBW.out, HJ.out.2.2.below HBW.out⟩
                clear hb6 hz6 hB6 hg7 HIW HBW HJ HD
                generalize wr.heap.size = g7 at hb7 ⊢
                have HB7 := Lib.hid hb7
                clear hb7
                go_upto_region 19 with fail
                obtain ⟨t, ht⟩ : ∃ t, d.t = t := ⟨_, rfl⟩
                have HDT := Lib.hid ht
                clear ht
                go_cut [190] from 180 to 190 (fun v wx => Hid (v = .bool (decide (0 ≤ t ∧ t < (x.G.length : Int))) ∧ Wa = wx))
                case first =>
                  obtain ⟨-, -, -, -, -, -, c9, c10, clt⟩ := Blk.cse HSA.out.2.1
                  have d0 := HB7.out.cell 0
                  simp only [Df.cells, List.getElem?_cons_zero] at d0
                  rw [HDT.out] at d0
                  clear HDT
                  by_cases ha0 : 0 ≤ t
                  · by_cases hn : t < (x.G.length : Int)
                    · have hd : Hid (decide (0 ≤ t ∧ t < (x.G.length : Int)) = true) := by show _ = _; simp [ha0, hn]
                      go_wp2_with fail
                      go_meet
                      case rel => exact ⟨by rw [hd.out], rfl⟩
                    · have hd : Hid (decide (0 ≤ t ∧ t < (x.G.length : Int)) = false) := by show _ = _; simp; omega
                      go_wp2_with fail
                      go_meet
                      case rel => exact ⟨by rw [hd.out], rfl⟩
                  · have hai : t < 0 := by omega
                    have hd : Hid (decide (0 ≤ t ∧ t < (x.G.length : Int)) = false) := by show _ = _; simp; omega
                    go_wp2_with fail
                    go_meet
                    case rel => exact ⟨by rw [hd.out], rfl⟩
                case rest =>
                  obtain ⟨rfl, rfl⟩ := hcut.out
                  clear hcut
                  go_upto_if 190 with fail
                  go_cut [21] from 190 to 196 (fun v wx => ∃ (ta : Option Addr) (S : List Rw) (tc : Nat), v = .slice ta S.length tc ∧ Hid (Wa = wx ∧ TabAt Wa T t ⟨ta, S, tc⟩))
                  case first =>
                    obtain ⟨-, -, -, -, -, -, c9, c10, clt⟩ := Blk.cse HSA.out.2.1
                    have d0 := HB7.out.cell 0
                    simp only [Df.cells, List.getElem?_cons_zero] at d0
                    rw [HDT.out] at d0
                    clear HDT
                    by_cases hd : 0 ≤ t ∧ t < (x.G.length : Int)
                    · rw [decide_eq_true hd]
                      obtain ⟨n, rfl⟩ := Int.eq_ofNat_of_zero_le hd.1
                      have hn : n < x.G.length := by omega
                      have hni : (n : Int) < (x.G.length : Int) := by omega
                      have HTA : Hid (TabAt Wa T n x.G[n]) := by rw [← HT.out]; exact (HX.out.bare.tab HSC.out hn).below HSA.out.1
                      obtain ⟨bb, oo, ha2, -, q0⟩ := T3_at (HX.out.t.below HSA.out.1) hn
                      rw [ha2] at c9
                      generalize x.G[n] = g at HTA q0
                      unfold Gr.h at q0
                      clear hd
                      go_wp2_with fail
                      go_meet
                      case rel => exact ⟨g.a, g.l, g.c, rfl, rfl, HTA.out⟩
                    · rw [decide_eq_false hd]
                      have HTA : Hid (TabAt Wa T t ⟨none, [], 0⟩) := TabAt.nil (by rw [← HT.out, List.length_map]; omega)
                      clear hd
                      go_wp2_with fail
                      go_meet
                      case rel => exact ⟨none, [], 0, rfl, rfl, HTA.out⟩
                  case rest =>
                    obtain ⟨ta, S, tc, rfl, hh⟩ := hcut
                    obtain ⟨rfl, hta⟩ := hh.out
                    have HTA := Lib.hid hta
                    clear hh hta
                    have hsl : S.length ≤ 60 := HTA.out.2.1
                    go_wp2_with fail
                    have h := mseek_any Wa gm G' K HSA.out.2.2 HSO.out (i : Int) kA kc kl (HK.out.below HSA.out.1)
                    rw [Run.seekOf_at, HKI.out] at h
                    refine h.mono ?_
                    clear h
                    rintro e Wb h
                    obtain ⟨A5, l5, c5, f5, rfl, hr5, hv5, hB⟩ := h.vals
                    have HSB : Hid (Below w.heap.size w Wb ∧ Blk Wb g3 30 x.cells ∧ MemAt Wb gm G' K ∧ BRow Wb A5 l5) := ⟨HSA.out.1.then hB, HSA.out.2.1.below hB, HSA.out.2.2.below hB, hr5⟩
                    have HTB2 := Lib.hid (HTA.out.below hB)
                    have HB8 := Lib.hid (HB7.out.below hB)
                    have HV5 : Hid (RoVal ((Run.keysD T d)[Run.find (Run.keysD T d) kl]?) l5 f5) := hv5
                    clear h hr5 hv5 hB HSA HTA HB7
                    have d1 := HB8.out.cell 1
                    simp only [Df.cells, List.getElem?_cons_zero, List.getElem?_cons_succ] at d1
                    obtain ⟨M, hMD⟩ : ∃ M, Run.keysD T d = M := ⟨_, rfl⟩
                    have HKM : Hid (Run.keys d.cols (S.map Rw.l) = M) := by
                      show _ = _
                      rw [← hMD]
                      unfold Run.keysD
                      rw [HDT.out, ← HTB2.out.2.2.2.2]
                    rw [hMD] at HV5
                    clear hMD
                    have HML : Hid (M.length = S.length) := by show _ = _; rw [← HKM.out, Run.keys_length, List.length_map]
                    go_wp2_with fail
                    have h := dkeys_any Wb d.a d.c d.cols (HDI.out.1.below HSB.out.1) (by have := HDL.out; omega) ta tc S HTB2.out.1.r (fun r hr => ⟨HTB2.out.1.in_ r hr, HTB2.out.2.2.2.1 r hr⟩) (by omega)
                    rw [HKM.out] at h
                    refine h.mono ?_
                    clear h d1
                    rintro e Wc ⟨A6, c6, rfl, hr6, hB⟩
                    have HSC2 : Hid (Below w.heap.size w Wc ∧ Blk Wc g3 30 x.cells ∧ MemAt Wc gm G' K ∧ BRow Wc A5 l5 ∧ BRow Wc kA kl ∧ ERow eS18 Wc A6 M) := ⟨HSB.out.1.then hB, HSB.out.2.1.below hB, HSB.out.2.2.1.below hB, HSB.out.2.2.2.below hB, HK.out.below (HSB.out.1.then hB), hr6⟩
                    have hml : M.length ≤ 60 := by have := HML.out; omega
                    clear hr6 hB HSB HTB2 HB8 HDI HDL HKM HML HDT hsl
                    go_wp2_with fail
                    go_loopw [25, 26, 210] (fun v25 v26 jv wq => ∃ (j : Nat) (wn : List UInt8) (hs : Bool), v25 = txt wn ∧ v26 = .bool hs ∧ jv = .int .i64 (j : Int) ∧ j ≤ M.length ∧ Wc = wq ∧ Hid (Run.wantOf M kl j = (wn, hs))) (fun _ _ jv _ => M.length - (intOf jv).toNat)
                    case atStart => exact ⟨0, [], false, rfl, rfl, by go_num, Nat.zero_le _, by simp, Run.wantOf_zero _ _⟩
                    case round =>
                      obtain ⟨j, wn, hs, rfl, rfl, rfl, hj, rfl, HJ⟩ := hrel
                      have hs1 : (convert 32 9 (.slice kA kl.length kc)).run Tryz.prog Wc = .ok (txt kl) Wc := run_string_bytes _ kc HSC2.out.2.2.2.2.1
                      by_cases hjl : j < M.length
                      · have hji : (j : Int) < (M.length : Int) := by omega
                        obtain ⟨b6, o6, hA6, -, q6⟩ := s18_at HSC2.out.2.2.2.2.2 hjl
                        have kge := run_str_geq
                        rw [hA6]
                        clear hA6
                        have HLS : Hid (bytesLess M[j] kl = true → Run.wantOf M kl (j + 1) = Run.wantOf M kl j) := fun h => Run.wantOf_less hjl h
                        have HST : Hid (bytesLess M[j] kl = false → (Run.wantOf M kl j).2 = false → Run.wantOf M kl (j + 1) = (M[j], true)) := fun h h2 => Run.wantOf_set hjl h h2
                        generalize M[j] = mk at q6 HLS HST
                        cases hb : Op.bytesLess mk kl with
                        | true =>
                          have HN : Hid (Run.wantOf M kl (j + 1) = (wn, hs)) := by show _ = _; rw [HLS.out hb, HJ.out]
                          clear HLS HST
                          go_wp2_with fail
                          go_roundw
                          case rel => exact ⟨j + 1, wn, hs, rfl, rfl, by go_num, by omega, by simp, HN.out⟩
                          case measure => simp [intOf]; omega
                        | false =>
                          cases hs with
                          | true =>
                            have HN : Hid (Run.wantOf M kl (j + 1) = (wn, true)) := by show _ = _; rw [Run.wantOf_has (by rw [HJ.out]), HJ.out]
                            clear HLS HST
                            go_wp2_with fail
                            go_roundw
                            case rel => exact ⟨j + 1, wn, true, rfl, rfl, by go_num, by omega, by simp, HN.out⟩
                            case measure => simp [intOf]; omega
                          | false =>
                            have HN : Hid (Run.wantOf M kl (j + 1) = (mk, true)) := HST.out hb (by rw [HJ.out])
                            clear HLS HST
                            go_wp2_with fail
                            go_roundw
                            case rel => exact ⟨j + 1, mk, true, rfl, rfl, by go_num, by omega, by simp, HN.out⟩
                            case measure => simp [intOf]; omega
                      · have hji : ¬ (j : Int) < (M.length : Int) := by omega
                        have hwn : (wn, hs) = (l5, f5) := by
                          rw [← HJ.out, show j = M.length by omega]
                          exact Run.wantOf_all HV5.out
                        obtain ⟨rfl, rfl⟩ := Prod.mk.inj hwn
                        have hs2 : (convert 32 9 (.slice A5 wn.length c5)).run Tryz.prog Wc = .ok (txt wn) Wc := run_string_bytes _ c5 HSC2.out.2.2.2.1
                        have kne := run_str_ne
                        have gne := eqg_ne
                        clear hwn hs1 HV5 HJ
                        go_upto_region 29 with fail
                        go_wp2_with fail
                        go_roundw
                        case rel => exact ⟨i + 1, by omega, by go_num, HSC2.out.1, HSC2.out.2.1, HSC2.out.2.2.1⟩
                        case measure => simp [intOf]; omega
              · have hii : ¬ (i : Int) < (x.D.length : Int) := by omega
                go_wp2_with fail
                refine (mnext_nil wr a b).mono ?_
                rintro e Wa h
                obtain ⟨n3, A3, l3, c3, f3, rfl, -, hv3, hB⟩ := h.vals
                obtain rfl : f3 = false := nx_none hv3
                have HSA : Hid (Below w.heap.size w Wa ∧ Blk Wa g3 30 x.cells ∧ MemAt Wa gm G' K) := ⟨HJ.out.1.then hB, HJ.out.2.1.below hB, HJ.out.2.2.below hB⟩
                clear h hv3 hB HJ
                go_wp2_with fail
                refine (mrow_nil Wa a b).mono ?_
                rintro e Wb h
                obtain ⟨A4, l4, c4, f4, rfl, -, hv4, hB⟩ := h.vals
                obtain rfl : f4 = false := ro_none hv4
                have HSB : Hid (Below w.heap.size w Wb ∧ Blk Wb g3 30 x.cells ∧ MemAt Wb gm G' K) := ⟨HSA.out.1.then hB, HSA.out.2.1.below hB, HSA.out.2.2.below hB⟩
                clear h hv4 hB HSA
                go_wp2_with fail
                refine (mseek_nil Wb a _).mono ?_
                rintro e Wc h
                obtain ⟨A5, l5, c5, f5, rfl, -, hv5, hB⟩ := h.vals
                obtain rfl : f5 = false := ro_none hv5
                have HSC2 : Hid (Below w.heap.size w Wc ∧ Blk Wc g3 30 x.cells ∧ MemAt Wc gm G' K) := ⟨HSB.out.1.then hB, HSB.out.2.1.below hB, HSB.out.2.2.below hB⟩
                clear h hv5 hB HSB
                obtain ⟨-, -, -, -, -, -, c9, c10, clt⟩ := Blk.cse HSC2.out.2.1
                go_wp2_with fail
                clear c9 c10 clt
                have hKL : K.length = x.D.length := by have := congrArg List.length HKG.out; simpa using this
                have h := mseek_any Wc gm G' K HSC2.out.2.2 HSO.out (x.D.length : Int) kA kc kl (HK.out.below HSC2.out.1)
                rw [Run.seekOf_at, show Run.keysAt (K.map Run.keysG) (x.D.length : Int) = [] from by unfold Run.keysAt; rw [if_neg (by rw [List.length_map, hKL]; omega)]] at h
                clear hKL
                refine h.mono ?_
                clear h
                rintro e Wd h
                obtain ⟨A6, l6, c6, f6, rfl, -, hv6, hB⟩ := h.vals
                obtain rfl : f6 = false := ro_none hv6
                have HBD := Lib.hid (HSC2.out.1.then hB)
                clear h hv6 hB HSC2
                go_wp2_with fail
                go_ret
                exact ⟨rfl, HBD.out⟩
end Go.Proofs.YtpahkaffknnjhaaGreatDoor
end

