/-
  Texts of a proof, one behind the other (each with its own head).
-/
import Derived.Test.YtcfoihihinijlaaGreatPartEfajlcepe
section
namespace Go.Proofs.YtcfoihihinijlaaGreat
set_option linter.unusedSimpArgs false
set_option linter.unusedVariables false
open Go.RowKit Go.Maps
theorem rec_short {w : World} {B lim : Nat} {T : TB} {t : Pag.TX} (h : TxAt w B lim T t) (hl : lim ≤ 1601) : (Pag.record t.all (Pag.keys t.all lim)).length ≤ 900000 := by
  have hk : (Pag.keys t.all lim).length ≤ lim := Pag.keys_length _ _
  have h1 := Pag.record_length t.all (Pag.keys t.all lim) fun n hn => by
    have h1 := Pag.mem_keys.1 hn
    refine ⟨by omega, ?_⟩
    obtain ⟨b, hb⟩ := Option.isSome_iff_exists.1 h1.2
    rw [hb]
    show b.length = 512
    have hp : ∀ i b, t.pages i = some b → b.length = 512 := fun i b hb => by
      obtain ⟨p, -, e, -, h5⟩ := h.map.has_ hb
      rw [← e]; exact h5
    unfold Pag.TX.all at hb
    split at hb
    · unfold Pag.put at hb
      split at hb
      · cases hb
        exact Pag.encode_length _ h.rl
      · exact hp _ _ hb
    · exact hp _ _ hb
  unfold Pag.record
  rw [List.length_append]
  have h2 := (Pag.num_two (Pag.keys t.all lim).length (by omega)).2
  omega
section
variable {g : Pag.PG} {x : Option Pag.TX}
theorem settle_tx (h : g.settle.2 = 0) : ({ g with tx := x } : Pag.PG).settle = ({ g.settle.1 with tx := x }, 0) := by
  unfold Pag.PG.settle at h ⊢
  dsimp only at h ⊢
  split at h
  · next hh => exact absurd h hh
  · next h1 =>
    rw [if_neg h1, if_neg h1]
    split at h
    · next hh => exact absurd h hh
    · next h2 =>
      rw [if_neg h2, if_neg h2]
      split at h
      · next hh => exact absurd h hh
      · next h3 => rw [if_neg h3, if_neg h3]
theorem settle_tx2 (h : g.settle.2 ≠ 0) : ({ g with tx := x } : Pag.PG).settle = g.settle := by
  unfold Pag.PG.settle at h ⊢
  dsimp only at h ⊢
  split
  · rfl
  · next h1 =>
    rw [if_neg h1] at h
    split
    · rfl
    · next h2 =>
      rw [if_neg h2] at h
      split
      · rfl
      · next h3 =>
        rw [if_neg h3] at h
        exact absurd rfl h
theorem settle_keeps (h : g.settle.2 = 0) : g.settle.1.blocks = g.blocks ∧ g.settle.1.pages = g.pages := by
  unfold Pag.PG.settle at h ⊢
  dsimp only at h ⊢
  split
  · exact ⟨rfl, rfl⟩
  · split
    · exact ⟨rfl, rfl⟩
    · split <;> exact ⟨rfl, rfl⟩
end
set_option maxRecDepth 20000 in
set_option maxHeartbeats 8000000 in
theorem pcommit_tx (w0 w : World) (G : GB) (n : Nat) (g : Pag.PG) (t : Pag.TX) (h : PagAt w0 w G n g) (hg : g.tx = some t) (hn : n + 5000 < 1000000) (hb : g.broken = false) :
    Calls Tryz.prog 14 #[.pointer (some ⟨G.gp, 0, none⟩)] w (RetPg w0 w G (n + 5000) g.commit.1 g.commit.2) := by
  obtain ⟨K, hK⟩ : ∃ K, Pag.keys t.all (g.pages + 1) = K := ⟨_, rfl⟩
  have HK := Lib.hid hK
  have HG := Lib.hid hg
  have HPG := Lib.hid h.rest.pages
  have HBL := Lib.hid h.rest.blocks
  obtain ⟨T, hT⟩ : ∃ T, G.tx = some T := by
    rcases h.split with ⟨-, q2⟩ | ⟨T', t', q1, -⟩
    · rw [hg] at q2; cases q2
    · exact ⟨T', q1⟩
  have HT := Lib.hid hT
  have H0 := Lib.hid h
  have HSH : Hid ((Pag.record t.all K).length ≤ 900000) := by
    show _ ≤ _
    rw [← hK]
    exact rec_short (h.txAt hT hg) (by have := HPG.out; omega)
  have HB := Lib.hid (pbroken_any w0 w G n g h)
  rw [hb] at HB
  have hc := h.cellsS hT
  have hct := (h.txAt hT hg).blk.c4
  obtain ⟨R, hR⟩ : ∃ R, g.commit = R := ⟨_, rfl⟩
  have HR : Hid (R = if K = [] then ({ g with tx := none }, 0) else if Pag.most g.blocks < (K.length : Int) then ({ g with tx := none }, 40) else if (g.l.room - g.l.data.length : Int) < ((Pag.record t.all K).length : Int) + 16 then (if g.settle.2 ≠ 0 then g.settle else g.settle.1.keep t K) else g.keep t K) := by
    show _ = _
    rw [← hR]
    unfold Pag.PG.commit
    rw [hg]
    simp only
    rw [if_neg (by rw [hb]; simp), hK]
  rw [hR]
  clear h hg hb hK hT hR
  go_enter Tryz.func14, Tryz.ntmps14
  go_wp2_with fail
  refine HB.out.mono ?_
  rintro e w1 ⟨rfl, rfl⟩
  go_upto_if 29 with fail
  go_cut [29] from 29 to 39 (fun v29 wx => ∃ F2, Hid (PagAt w0 wx { G with tx := some { T with F := F2 } } n { g with tx := some { t with pages := t.all } } ∧ Keeps w wx G.own))
  case first =>
    cases ho : t.own with
    | true =>
      rw [ho] at hct
      have hall : t.all = Pag.put t.pages 0 (Pag.encode t.m) := by unfold Pag.TX.all; rw [if_pos ho]
      have HALL := Lib.hid hall
      have hta := H0.out.txAt HT.out HG.out
      have hbd : Below w.heap.size w w.drew := (Below.refl _ _).drew
      have HEN := Lib.hid (encode_any w.drew t.m _ T.au T.cu T.ar T.cr (hta.used.below hbd) hta.ul (hta.root.row.below hbd) hta.rl)
      have HEL : Hid ((Pag.encode t.m).length = 512) := Pag.encode_length _ hta.rl
      have HP1 : Hid (0 < g.pages + 1) := Nat.succ_pos _
      have HP2 : Hid (g.pages + 1 < 100000000) := by show _ < _; have := HPG.out; omega
      clear ho hall hta hbd
      go_wp2_with fail
      refine wp_region_plan (.take 0 (.take 1 (.take 2 (.take 3 (.take 4 (.take 5 (.take 6 (.take 7 (.run 8 [0, 1, 2, 3] (.run 9 [] .fin)))))))))) (by kernel_rfl) (by kernel_rfl) (by kernel_rfl) (by kernel_rfl) ?_
      repeat' (first | (refine hZ _ _ ?_; clear hZ) | (refine hZ _ ?_; clear hZ) | (refine hZ ?_; clear hZ) | rw [again_nil] | rw [walk_fin] | ((first | rw [walk_take] | rw [walk_run] | rw [again_cons]); intro Z hZ; simp only [sel, List.getElem?_toArray, List.getElem?_cons_zero, List.getElem?_cons_succ]; go_wp2_with (fail)))
      refine (show Calls _ _ #[.agg #[.slice T.au t.m.used.length T.cu, .slice T.ar t.m.root.length T.cr]] _ _ from HEN.out).mono ?_
      rintro e w2 ⟨A2, c2, rfl, ho2, hb2⟩
      have hbd : Below w.heap.size w w2 := (Below.refl _ _).drew.trans hb2
      have hp2 := H0.out.below hbd
      have HM := Lib.hid (hp2.txAt HT.out HG.out).map
      replace hc := hp2.cellsS HT.out
      replace hct := (hp2.txAt HT.out HG.out).blk.c4
      have H2 := Lib.hid (And.intro hp2 (And.intro ho2 hbd))
      clear ho2 hb2 hbd hp2 HEN
      go_wp2_with fail
      repeat' (first | (refine hZ _ _ ?_; clear hZ) | (refine hZ _ ?_; clear hZ) | (refine hZ ?_; clear hZ) | rw [again_nil] | rw [walk_fin] | ((first | rw [walk_take] | rw [walk_run] | rw [again_cons]); intro Z hZ; simp only [sel, List.getElem?_toArray, List.getElem?_cons_zero, List.getElem?_cons_succ]; go_wp2_with (refine wpList_pg_update rfl rfl _ _ _ rfl rfl HM.out.map 0 rfl HP1.out HP2.out _ rfl ?_; intro w3 hm3 hg3; have H3 := Lib.hid (And.intro hm3 hg3); clear hm3 hg3)))
      go_wp2_with fail
      go_meet
      case rel =>
        obtain ⟨hm3, hg3⟩ := H3.out
        obtain ⟨hp2, ho2, hbd⟩ := H2.out
        have hpm := HM.out.put (p := ⟨A2, c2, Pag.encode t.m⟩) hm3 hg3 (BRowU.own ho2) HEL.out
        refine ⟨fun j => if j = 0 then some ⟨A2, c2, Pag.encode t.m⟩ else T.F j, ?_, (Keeps.of_below hbd).trans ((Keeps.of_grown hg3).mono fun i hi => .inr (.inr (.inr (.inr (.inl ⟨T, HT.out, .inr (.inl hi)⟩)))))⟩
        have hfin := hp2.txMap HT.out HG.out hpm hg3
        rw [HALL.out]
        exact hfin
    | false =>
      rw [ho] at hct
      have hall : t.all = t.pages := by unfold Pag.TX.all; rw [if_neg (by rw [ho]; simp)]
      have HALL := Lib.hid hall
      clear ho hall
      go_wp2_with fail
      go_meet
      case rel =>
        refine ⟨T.F, ?_, Keeps.refl _ _⟩
        rw [HALL.out]
        have h := H0.out
        have e1 : ({ G with tx := some { T with F := T.F } } : GB) = G := by rw [← HT.out]
        have e2 : ({ g with tx := some { t with pages := t.pages } } : Pag.PG) = g := by rw [← HG.out]
        rw [e1, e2]
        exact h
  case rest =>
    obtain ⟨F2, HX⟩ := hcut
    have hta := HX.out.1.txAt rfl rfl
    have hc := HX.out.1.cellsS rfl
    have hct := hta.blk.c4
    have hKL : nkeys (fun i => (F2 i).map Bp.v) (g.pages + 1) = K := by rw [hta.map.keys]; exact HK.out
    have HKL := Lib.hid hKL
    have HTA := Lib.hid hta
    have hfr := HX.out.1.free
    clear hta hKL
    by_cases hk0 : K = []
    · have HRE : Hid (R = ({ g with tx := none }, 0)) := by show _ = _; rw [HR.out, if_pos hk0]
      have HL0 : Hid ((nkeys (fun i => (F2 i).map Bp.v) (g.pages + 1)).length = 0) := by show _ = _; rw [HKL.out, hk0]; rfl
      clear hk0 HR
      go_wp2_with (refine wpList_pg_len rfl _ rfl rfl HTA.out.map.map ?_; rw [HL0.out])
      go_ret
      rw [HRE.out]
      have hd : PagAt w0 (wc.setCell ⟨G.gp, 8, none⟩ (.pointer none)) { G with tx := none } n { g with tx := none } := HX.out.1.dropTx
      refine ⟨{ G with tx := none }, rfl, rfl, rfl, hd.more (by omega), fun i hi => .inl (G.own_noTx hi), HX.out.2.set ⟨G.gp, 8, none⟩ (.inl (.inr (.inr (.inl rfl)))) _⟩
    · have HKP : Hid (K.length ≠ 0) := by show _ ≠ _; simpa using hk0
      have HRE : Hid (R = if Pag.most g.blocks < (K.length : Int) then ({ g with tx := none }, 40) else if (g.l.room - g.l.data.length : Int) < ((Pag.record t.all K).length : Int) + 16 then (if g.settle.2 ≠ 0 then g.settle else g.settle.1.keep t K) else g.keep t K) := by show _ = _; rw [HR.out, if_neg hk0]
      have HKN : Hid ((nkeys (fun i => (F2 i).map Bp.v) (g.pages + 1)).length = K.length) := by show _ = _; rw [HKL.out]
      have hkl : K.length ≤ 1601 := by rw [← HKL.out]; exact Nat.le_trans (nkeys_le _ _) (by have := HPG.out; omega)
      have hk1 : ((K.length : Int) == 0) = false := by have := HKP.out; simp; omega
      clear hk0 HR
      have hbd : Below wc.heap.size wc wc.drew := (Below.refl _ _).drew
      have HMO := Lib.hid (most_any wc.drew g.blocks (by omega) (by have := HBL.out; omega))
      clear hbd
      go_wp2_with (refine wpList_pg_len rfl _ rfl rfl HTA.out.map.map ?_; rw [HKN.out])
      refine wp_region_plan (.take 0 (.take 1 (.take 2 (.take 3 (.take 4 (.take 5 (.take 6 (.take 7 (.take 8 (.run 9 [] (.take 10 .fin))))))))))) (by kernel_rfl) (by kernel_rfl) (by kernel_rfl) (by kernel_rfl) ?_
      repeat' (first | (refine hZ _ _ ?_; clear hZ) | (refine hZ _ ?_; clear hZ) | (refine hZ ?_; clear hZ) | rw [again_nil] | rw [walk_fin] | ((first | rw [walk_take] | rw [walk_run] | rw [again_cons]); intro Z hZ; simp only [sel, List.getElem?_toArray, List.getElem?_cons_zero, List.getElem?_cons_succ]; go_wp2_with (refine wpList_pg_len rfl _ rfl rfl HTA.out.map.map ?_; rw [HKN.out])))
      refine HMO.out.mono ?_
      rintro e w5 ⟨rfl, rfl⟩
      by_cases hmo : Pag.most g.blocks < (K.length : Int)
      · have HRE2 : Hid (R = ({ g with tx := none }, 40)) := by show _ = _; rw [HRE.out, if_pos hmo]
        clear HRE HMO
        go_wp2_with fail
        repeat' (first | (refine hZ _ _ ?_; clear hZ) | (refine hZ _ ?_; clear hZ) | (refine hZ ?_; clear hZ) | rw [again_nil] | rw [walk_fin] | ((first | rw [walk_take] | rw [walk_run] | rw [again_cons]); intro Z hZ; simp only [sel, List.getElem?_toArray, List.getElem?_cons_zero, List.getElem?_cons_succ]; go_wp2_with (refine wpList_pg_len rfl _ rfl rfl HTA.out.map.map ?_; rw [HKN.out])))
        go_wp2_with fail
        go_ret
        rw [HRE2.out]
        have hd : PagAt w0 (wc.setCell ⟨G.gp, 8, none⟩ (.pointer none)) { G with tx := none } n { g with tx := none } := HX.out.1.dropTx
        refine ⟨{ G with tx := none }, rfl, rfl, rfl, (hd.more (by omega)).below (Below.refl _ _).drew, fun i hi => .inl (G.own_noTx hi), ?_⟩
        exact (HX.out.2.set ⟨G.gp, 8, none⟩ (.inl (.inr (.inr (.inl rfl)))) _).then (Below.refl _ _).drew
      · have HRE2 : Hid (R = if (g.l.room - g.l.data.length : Int) < ((Pag.record t.all K).length : Int) + 16 then (if g.settle.2 ≠ 0 then g.settle else g.settle.1.keep t K) else g.keep t K) := by show _ = _; rw [HRE.out, if_neg hmo]
        clear HRE HMO
        go_wp2_with fail
        repeat' (first | (refine hZ _ _ ?_; clear hZ) | (refine hZ _ ?_; clear hZ) | (refine hZ ?_; clear hZ) | rw [again_nil] | rw [walk_fin] | ((first | rw [walk_take] | rw [walk_run] | rw [again_cons]); intro Z hZ; simp only [sel, List.getElem?_toArray, List.getElem?_cons_zero, List.getElem?_cons_succ]; go_wp2_with (refine wpList_pg_len rfl _ rfl rfl HTA.out.map.map ?_; rw [HKN.out])))
        go_upto_region 13 with fail
        have hbd : Below wc.heap.size wc wc.drew := (Below.refl _ _).drew
        have H9 : Hid (PagAt w0 wc.drew { G with tx := some { T with F := F2 } } n { g with tx := some { t with pages := t.all } } ∧ Keeps w wc.drew G.own) := ⟨HX.out.1.below hbd, HX.out.2.then hbd⟩
        clear HX HTA hbd hmo hc hct
        generalize wc.drew = wd at H9 ⊢
        have hc := H9.out.1.cellsS rfl
        have hta := H9.out.1.txAt rfl rfl
        have hct := hta.blk.c4
        obtain ⟨D, hown, hD⟩ := hta.map.map
        have HOW := Lib.hid hown
        have HDD := Lib.hid hD
        clear hta hown hD
        go_upto_region 14 with (refine wpList_pg_range rfl _ rfl D rfl HOW.out ?_; intro we hre hbe hse)
        have H10 : Hid (we.ranges Tryz.prog 3 heldE T.gm wd.heap.size (g.pages + 1) D (has D) (Maps.size D) ∧ Below wd.heap.size wd we) := ⟨hre, hbe⟩
        clear hre hbe hse hc hct
        obtain ⟨r, hr⟩ : ∃ r, wd.heap.size = r := ⟨_, rfl⟩
        have HRR := Lib.hid hr
        rw [hr] at H10 ⊢
        clear hr
        go_loopw [4] (fun ov wr => ∃ (L : List Nat) (A : Option Addr) (c : Nat) (left : Lit → Bool) (cnt : Nat), L.length ≤ 1601 ∧ ov = .slice A L.length c ∧ Hid (EOwn eInt wr r A c (L.map fun n : Nat => (n : Int)) ∧ wr.ranges Tryz.prog 3 heldE T.gm r (g.pages + 1) D left cnt ∧ CollI D left L ∧ Below r wd wr)) (fun _ wr => wr.rangeLeft T.gm r)
        case atStart => exact ⟨[], none, 0, _, _, Nat.zero_le _, rfl, EOwn.nil _ _, H10.out.1, CollI.start D, H10.out.2⟩
        case round =>
          obtain ⟨L, A, c, left, cnt, hll, rfl, HJ⟩ := hrel
          have hmeas := HJ.out.2.1.left_eq
          have HLM : Hid (L.length = (L.map fun n : Nat => (n : Int)).length) := by show _ = _; simp
          go_wp2_with (first
            | (refine wpList_pg_next rfl _ rfl rfl HJ.out.2.1 HJ.out.2.2.1 HDD.out ?_ ?_; intro hl0; rotate_left; intro k cv w6 left' cnt' hC' hkl hr' hlt' hg' hen; have H6 := Lib.hid (coll_more HJ.out.1 HJ.out.2.1 HJ.out.2.2.2 hr' hg' (k : Int)); clear hr' hg')
            | (at_builtin; refine wpList_append_elems eInt rfl (.tmp 71) (.tmp 73) rfl _ rfl H6.out.1 HLM.out _ rfl H6.out.2.1 rfl (by rw [← HLM.out]; simp; omega) H6.out.2.2.2.2 ?_; intro A7 c7 w7 ho7 hb7 hg7 _; have H7 := Lib.hid (And.intro ho7 (And.intro (ranges_append H6.out.2.2.1 H6.out.1 hg7) (H6.out.2.2.2.1.trans hb7))); clear ho7 hb7 hg7))
          case roundEnd =>
            refine ⟨⟨L ++ [k], A7, c7, left', cnt', ?_, by simp, ?_⟩, ?_⟩
            · exact Nat.le_trans (hC'.len HDD.out) (by have := HPG.out; omega)
            · refine ⟨?_, H7.out.2.1, hC', H7.out.2.2⟩
              have := H7.out.1
              rw [List.map_append]
              exact this
            · rw [H7.out.2.1.left_eq, hmeas]
              exact hlt'
          have hsorted := HJ.out.2.2.1.done hl0 HDD.out
          rw [HKL.out] at hsorted
          have HSO := Lib.hid hsorted
          have hll2 : (L.map fun n : Nat => (n : Int)).length ≤ 1000000 := by simp; omega
          have HSI := Lib.hid (sortI_any wr r c A _ HJ.out.1 hll2)
          have hLK : L.length = K.length := by
            have := congrArg List.length hsorted
            rw [List.length_mergeSort, List.length_map, List.length_map] at this
            exact this
          rw [hsorted, ← HLM.out, hLK] at HSI
          rw [hLK]
          have HBW := Lib.hid HJ.out.2.2.2
          clear hsorted hll2 hLK hl0 hmeas hll HJ HLM
          refine HSI.out.mono ?_
          rintro e w7 ⟨rfl, ho7, hg7⟩
          have HB7 : Hid (Below wd.heap.size wd w7) := by
            show Below _ _ _
            rw [HRR.out]
            refine HBW.out.grown hg7 (HRR.out ▸ HBW.out.size) fun j hj => ?_
            cases hA : A with
            | none => rw [hA] at hj; cases hj
            | some a =>
              rw [hA] at hj
              cases hj
              exact (ho7.block a hA).1
          have hKlen : (K.map fun n : Nat => (n : Int)).length = K.length := List.length_map _
          obtain ⟨aa, rfl, -⟩ := in_own ho7 (i := 0) (by rw [hKlen]; have := HKP.out; omega)
          have HO7 := Lib.hid ho7
          have hw64 := w64_small (n := K.length) (by omega)
          have HNM := Lib.hid (wnum_any w7 K.length (by unfold two64; omega))
          clear ho7 hg7 HSI HBW hKlen
          go_wp2_with fail
          refine HNM.out.mono ?_
          rintro e w8 ⟨A8, c8, rfl, ho8, hb8⟩
          have H8 : Hid (recTo t.all K 0 = Wire.num K.length ∧ BRowU w8 A8 (recTo t.all K 0) ∧ EOwn eInt w8 r (some ⟨aa, 0, none⟩) c (K.map fun n : Nat => (n : Int)) ∧ Below wd.heap.size wd w8) := by
            have e : recTo t.all K 0 = Wire.num K.length := by simp [recTo]
            exact ⟨e, e ▸ BRowU.own ho8, HO7.out.below hb8, HB7.out.then hb8⟩
          clear ho8 hb8 HNM hw64
          go_wp2_with fail
          go_loopw [6, 83] (fun sv iv wr => ∃ (i : Nat) (A6 : Option Addr) (c6 : Nat), i ≤ K.length ∧ iv = .int .i64 (i : Int) ∧ sv = .slice A6 (recTo t.all K i).length c6 ∧ Hid (BRowU wr A6 (recTo t.all K i) ∧ EOwn eInt wr r (some ⟨aa, 0, none⟩) c (K.map fun n : Nat => (n : Int)) ∧ Below wd.heap.size wd wr)) (fun _ iv _ => K.length - (intOf iv).toNat)
          case atStart => exact ⟨0, A8, c8, Nat.zero_le _, by go_num, by rw [H8.out.1], H8.out.2⟩
          case round =>
            obtain ⟨i, A6, c6, hi, rfl, rfl, HJ⟩ := hrel
            by_cases hlt : i < K.length
            · have hii : (i : Int) < (K.length : Int) := by omega
              obtain ⟨a', ha', hcell⟩ := in_own HJ.out.2.1 (i := i) (by rw [List.length_map]; exact hlt)
              cases ha'
              rw [List.getElem_map] at hcell
              have HST := Lib.hid (recTo_step t.all K i hlt)
              have hmem : K[i] ∈ K := List.getElem_mem hlt
              obtain ⟨kk, hkk⟩ : ∃ kk, K[i] = kk := ⟨_, rfl⟩
              rw [hkk] at hcell HST hmem
              have HPW := Lib.hid (H9.out.1.below HJ.out.2.2)
              have hc := HPW.out.cellsS rfl
              have hta := HPW.out.txAt rfl rfl
              have hct := hta.blk.c4
              have hkn : kk < g.pages + 1 ∧ (t.all kk).isSome = true := by
                have h1 := HK.out
                rw [← h1] at hmem
                exact Pag.mem_keys.1 hmem
              obtain ⟨bs, hbs⟩ := Option.isSome_iff_exists.1 hkn.2
              obtain ⟨p, hF, hl, hrow, h512⟩ := hta.map.has_ hbs
              have HF : Hid (((F2 kk).map Bp.v).getD (.slice none 0 0) = .slice p.a p.l.length p.c) := by show _ = _; rw [show F2 kk = some p from hF]; rfl
              have HGD : Hid ((t.all kk).getD [] = p.l) := by show _ = _; rw [hbs, hl]; rfl
              have HM := Lib.hid hta.map.map
              have HKB : Hid (kk < 9223372036854775808) := by show kk < _; have := HPG.out; omega
              have hw64 := w64_small (n := kk) (by have := HPG.out; omega)
              have HRW := Lib.hid (And.intro hrow h512)
              have HKS : Hid (kk ≤ 1600) := by show kk ≤ _; have := HPG.out; omega
              clear hta hmem hkk hkn hbs hF hl hrow h512
              go_upto_region 22 with fail
              refine wp_region_plan (.take 0 (.take 1 (.take 2 (.take 4 (.take 5 (.take 6 (.take 7 (.take 8 (.take 9 (.take 10 (.run 3 [0, 4, 5, 6, 7, 8, 9, 10] (.run 11 [0] (.run 12 [] (.run 13 [] (.take 14 .fin))))))))))))))) (by kernel_rfl) (by kernel_rfl) (by kernel_rfl) (by kernel_rfl) ?_
              repeat' (first | (refine hZ _ _ ?_; clear hZ) | (refine hZ _ ?_; clear hZ) | (refine hZ ?_; clear hZ) | rw [again_nil] | rw [walk_fin] | ((first | rw [walk_take] | rw [walk_run] | rw [again_cons]); intro Z hZ; simp only [sel, List.getElem?_toArray, List.getElem?_cons_zero, List.getElem?_cons_succ]; go_wp2_with (first | (refine wpList_pg_at rfl _ _ rfl rfl HM.out kk rfl HKB.out (zero_bytes _) _ HF.out ?_) | (refine wpList_str_of rfl _ rfl rfl rfl HRW.out.1.row ?_))))
              refine (wnum_any wr.drew kk (by have := HKS.out; unfold two64; omega)).mono ?_
              rintro e w9 ⟨A9, c9, rfl, ho9, hb9⟩
              have hbd : Below wr.heap.size wr w9 := (Below.refl _ _).drew.trans hb9
              have HPW9 := Lib.hid (HPW.out.below hbd)
              replace hc := HPW9.out.cellsS rfl
              replace hct := (HPW9.out.txAt rfl rfl).blk.c4
              replace HM := Lib.hid (HPW9.out.txAt rfl rfl).map.map
              replace HRW := Lib.hid (And.intro (HRW.out.1.below hbd) HRW.out.2)
              have H9a := Lib.hid (And.intro ho9 (And.intro hbd (And.intro (HJ.out.1.below hbd) (And.intro (HJ.out.2.1.below hbd) (HJ.out.2.2.then hbd)))))
              replace hcell := cell_later hbd hcell
              clear ho9 hb9 hbd HPW
              go_wp2_with fail
              repeat' (first | (refine hZ _ _ ?_; clear hZ) | (refine hZ _ ?_; clear hZ) | (refine hZ ?_; clear hZ) | rw [again_nil] | rw [walk_fin] | ((first | rw [walk_take] | rw [walk_run] | rw [again_cons]); intro Z hZ; simp only [sel, List.getElem?_toArray, List.getElem?_cons_zero, List.getElem?_cons_succ]; go_wp2_with (first | (refine wpList_pg_at rfl _ _ rfl rfl HM.out kk rfl HKB.out (zero_bytes _) _ HF.out ?_) | (refine wpList_str_of rfl _ rfl rfl rfl HRW.out.1.row ?_))))
              refine (wtext_any w9 p.l (by have := HRW.out.2; omega)).mono ?_
              rintro e w10 ⟨A10, c10, rfl, ho10, hb10⟩
              have HPW10 := Lib.hid (HPW9.out.below hb10)
              replace hc := HPW10.out.cellsS rfl
              replace hct := (HPW10.out.txAt rfl rfl).blk.c4
              replace HM := Lib.hid (HPW10.out.txAt rfl rfl).map.map
              replace HRW := Lib.hid (And.intro (HRW.out.1.below hb10) HRW.out.2)
              have H10a := Lib.hid (And.intro ho10 (And.intro (H9a.out.1.below hb10) (And.intro (H9a.out.2.2.1.below hb10) (And.intro (H9a.out.2.2.2.1.below hb10) (H9a.out.2.2.2.2.then hb10)))))
              replace hcell := cell_later hb10 hcell
              clear ho10 hb10 HPW9 H9a
              go_wp2_with fail
              repeat' (first | (refine hZ _ _ ?_; clear hZ) | (refine hZ _ ?_; clear hZ) | (refine hZ ?_; clear hZ) | rw [again_nil] | rw [walk_fin] | ((first | rw [walk_take] | rw [walk_run] | rw [again_cons]); intro Z hZ; simp only [sel, List.getElem?_toArray, List.getElem?_cons_zero, List.getElem?_cons_succ]; go_wp2_with (first | (refine wpList_pg_at rfl _ _ rfl rfl HM.out kk rfl HKB.out (zero_bytes _) _ HF.out ?_) | (refine wpList_str_of rfl _ rfl rfl rfl HRW.out.1.row ?_))))
              have hrl : (recTo t.all K (i + 1)).length ≤ 900000 := Nat.le_trans (recTo_le _ _ _) HSH.out
              have hst := HST.out
              rw [HGD.out] at hst
              have hlen3 : (recTo t.all K i).length + (Wire.num kk).length + (Wire.text p.l).length ≤ 900000 := by
                rw [hst, List.length_append, List.length_append] at hrl
                omega
              refine (bconcat3 _ _ 3 ⟨A6, c6, recTo t.all K i⟩ ⟨A9, c9, Wire.num kk⟩ ⟨A10, c10, Wire.text p.l⟩ (Row.new _ _ _) ⟨H10a.out.2.2.1.row.alloc _, ?_⟩ ⟨H10a.out.2.1.row.alloc _, ?_⟩ ⟨H10a.out.1.row.alloc _, ?_⟩ ?_).mono ?_
              · show (recTo t.all K i).length ≤ _; omega
              · show (Wire.num kk).length ≤ _; omega
              · show (Wire.text p.l).length ≤ _; omega
              · show (recTo t.all K i).length + (Wire.num kk).length + (Wire.text p.l).length ≤ _; omega
              rintro e w11 ⟨A11, c11, rfl, ho11, hb11⟩
              have hba := ((Below.refl w10.heap.size w10).alloc (Nat.le_refl _) (.cells #[(⟨A6, c6, recTo t.all K i⟩ : Part).v, (⟨A9, c9, Wire.num kk⟩ : Part).v, (⟨A10, c10, Wire.text p.l⟩ : Part).v] 56)).then hb11
              have HPW11 := Lib.hid (HPW10.out.below hba)
              replace hc := HPW11.out.cellsS rfl
              replace hct := (HPW11.out.txAt rfl rfl).blk.c4
              replace HM := Lib.hid (HPW11.out.txAt rfl rfl).map.map
              replace HRW := Lib.hid (And.intro (HRW.out.1.below hba) HRW.out.2)
              have H11 : Hid (BRowU w11 A11 (recTo t.all K (i + 1)) ∧ EOwn eInt w11 r (some ⟨aa, 0, none⟩) c (K.map fun n : Nat => (n : Int)) ∧ Below wd.heap.size wd w11) := by
                refine ⟨?_, H10a.out.2.2.2.1.below hba, H10a.out.2.2.2.2.then hba⟩
                rw [hst]
                exact BRowU.own ho11
              have HLL : Hid ((recTo t.all K i ++ (Wire.num kk ++ Wire.text p.l)).length = (recTo t.all K (i + 1)).length) := by show _ = _; rw [hst]
              replace hcell := cell_later hba hcell
              simp only
              rw [HLL.out]
              clear ho11 hb11 hba HPW10 H10a hst hrl hlen3 HST
              go_wp2_with fail
              repeat' (first | (refine hZ _ _ ?_; clear hZ) | (refine hZ _ ?_; clear hZ) | (refine hZ ?_; clear hZ) | rw [again_nil] | rw [walk_fin] | ((first | rw [walk_take] | rw [walk_run] | rw [again_cons]); intro Z hZ; simp only [sel, List.getElem?_toArray, List.getElem?_cons_zero, List.getElem?_cons_succ]; go_wp2_with (first | (refine wpList_pg_at rfl _ _ rfl rfl HM.out kk rfl HKB.out (zero_bytes _) _ HF.out ?_) | (refine wpList_str_of rfl _ rfl rfl rfl HRW.out.1.row ?_))))
              go_wp2_with fail
              go_roundw
              case rel => exact ⟨i + 1, A11, c11, by omega, by go_num, rfl, H11.out⟩
              case measure => simp [intOf]; omega
            · have hii : ¬ (i : Int) < (K.length : Int) := by omega
              obtain rfl : i = K.length := by omega
              have hrec := recTo_all t.all K
              rw [hrec] at HJ ⊢
              generalize hrd : Pag.record t.all K = rec at *
              have HRD := Lib.hid hrd
              clear hrd
              have HPW := Lib.hid (H9.out.1.below HJ.out.2.2)
              have hc := HPW.out.cellsS rfl
              have HRM := Lib.hid (wroom_any wr _ G.k G.gl g.l HPW.out.wl.log)
              have hsh := HSH.out
              clear hrec
              go_wp2_with fail
              refine HRM.out.mono ?_
              rintro e w9 ⟨rfl, rfl⟩
              have hbd : Below wr.heap.size wr wr.drew := (Below.refl _ _).drew
              have HPD := Lib.hid (HPW.out.below hbd)
              have H20 : Hid (BRowU wr.drew A6 rec ∧ EOwn eInt wr.drew r (some ⟨aa, 0, none⟩) c (K.map fun n : Nat => (n : Int)) ∧ Keeps w wr.drew G.own) := ⟨HJ.out.1.below hbd, HJ.out.2.1.below hbd, (H9.out.2.then HJ.out.2.2).then hbd⟩
              replace hc := HPD.out.cellsS rfl
              clear hbd HPW HJ HRM
              generalize wr.drew = wq at HPD H20 hc ⊢
              go_upto_if 110 with fail
              go_cut [9] from 110 to 115 (fun _ wx => ∃ (F : Nat → Option Bp) (g2 : Pag.PG) (m : Nat), Hid (m ≤ n + 2000 ∧ R = g2.keep t K ∧ g2.pages ≤ 1600 ∧ g2.pages = g.pages ∧ PagAt w0 wx { G with F := F, tx := some { T with F := F2 } } m { g2 with tx := some { t with pages := t.all } } ∧ BRowU wx A6 rec ∧ EOwn eInt wx r (some ⟨aa, 0, none⟩) c (K.map fun n : Nat => (n : Int)) ∧ Keeps w wx G.own))
              case first =>
                by_cases hq : ((g.l.room : Int) - (g.l.data.length : Int)) < ((rec.length : Int) + 16)
                · have hre := HRE2.out
                  rw [if_pos hq] at hre
                  have HRE3 := Lib.hid hre
                  have HSE := Lib.hid (psettle_any w0 wq _ n _ HPD.out (by omega))
                  clear hre HRE2
                  go_wp2_with fail
                  refine HSE.out.mono ?_
                  rintro e w9 ⟨⟨G', rfl, e1, e2, hp9, ho9, hk9⟩, hz9⟩
                  have H30 := Lib.hid (And.intro hp9 (And.intro ho9 (And.intro hk9 (And.intro hz9 (And.intro e1 e2)))))
                  clear e1 e2 hp9 ho9 hk9 hz9 HSE
                  by_cases he : g.settle.2 = 0
                  · have hst := settle_tx (x := some { t with pages := t.all }) he
                    have hre := HRE3.out
                    rw [if_neg (by simp [he])] at hre
                    have HRE4 := Lib.hid hre
                    have h0 : (({ g with tx := some { t with pages := t.all } } : Pag.PG).settle).2 = 0 := by rw [hst]
                    obtain ⟨F9, hp9, hk9⟩ := H30.out.2.2.2.1 h0
                    rw [hst] at hp9
                    have hks := settle_keeps he
                    rw [h0]
                    have H31 := Lib.hid (And.intro hp9 (And.intro hk9 hks))
                    clear hst he hre h0 hp9 hk9 hks HRE3
                    go_wp2_with fail
                    go_meet
                    case rel =>
                      have hp := H31.out.1
                      have hk := H31.out.2.1
                      have hks := H31.out.2.2
                      have hoff : ∀ U, U = 5 ∨ U = 3 → Off wq ({ G with tx := some { T with F := F2 } } : GB).own U := fun U hU => by
                        rcases hU with rfl | rfl <;> exact HPD.out.offOwn (by decide) (by decide) (by decide) (by decide) (by decide) (by decide) (by decide) (by decide)
                      refine ⟨F9, g.settle.1, n + 2000, Nat.le_refl _, HRE4.out, by rw [hks.2]; exact HPG.out, hks.2, hp, H20.out.1.offK hk (hoff _ (.inl rfl)), H20.out.2.1.offK hk (hoff _ (.inr rfl)), H20.out.2.2.trans (hk.mono fun i hi => GB.own_F HT.out hi)⟩
                  · have hst := settle_tx2 (x := some { t with pages := t.all }) he
                    have hre := HRE3.out
                    rw [if_pos he] at hre
                    have HRE4 := Lib.hid hre
                    rw [hst] at H30
                    rw [hst]
                    have he2 := code_ne he
                    clear hst he hre HRE3
                    go_wp2_with fail
                    go_ret
                    rw [HRE4.out]
                    obtain ⟨hp9, ho9, hk9, -, e1, e2⟩ := H30.out
                    refine ⟨G', rfl, e1, e2, hp9.more (by omega), fun i hi => ?_, H20.out.2.2.trans (hk9.mono fun i hi => GB.own_F HT.out hi)⟩
                    rcases ho9 i hi with h | h
                    · exact .inl (GB.own_F HT.out h)
                    · exact .inr (Nat.le_trans H20.out.2.2.size h)
                · have hre := HRE2.out
                  rw [if_neg hq] at hre
                  have HRE3 := Lib.hid hre
                  clear hre HRE2
                  go_wp2_with fail
                  go_meet
                  case rel => exact ⟨G.F, g, n, by omega, HRE3.out, HPG.out, rfl, HPD.out, H20.out⟩
              case rest =>
               obtain ⟨F9, g2, m, HQ⟩ := hcut
               have hsh := HSH.out
               have HPD := Lib.hid HQ.out.2.2.2.2.1
               have H20 := Lib.hid HQ.out.2.2.2.2.2
               have HRE2 := Lib.hid HQ.out.2.1
               have hc := HPD.out.cellsS rfl
               have hct := (HPD.out.txAt rfl rfl).blk.c4
               go_upto_region 28 with fail
               generalize wc = wq at HPD H20 HQ hc hct ⊢
               go_wp2_with fail
               have hba : Below wq.heap.size wq (wq.alloc (.cells #[.slice A6 rec.length c6] 56)) := (Below.refl _ _).alloc (Nat.le_refl _) _
               have HAD := Lib.hid (wadd_any w0 (wq.alloc (.cells #[.slice A6 rec.length c6] 56)) G.k G.gl m g2.d g2.l (HPD.out.below hba).wl (by have := HQ.out.1; omega) (some ⟨wq.heap.size, 0, none⟩) 1 [⟨A6, c6, rec⟩] (ERow.lit ePart wq ⟨A6, c6, rec⟩ #[.slice A6 rec.length c6] rfl wq.heap.size rfl) (fun q hq => by rw [List.mem_singleton.1 hq]; exact ⟨(H20.out.1.below hba).row, by show rec.length ≤ _; omega⟩) (by show 1 ≤ 1000000; omega))
               have H21 := Lib.hid (And.intro (HPD.out.below hba) (And.intro (H20.out.2.1.below hba) (H20.out.2.2.then hba)))
               clear hba HPD H20
               obtain ⟨ad, had⟩ : ∃ ad, g2.d.add g2.l [rec] = ad := ⟨_, rfl⟩
               rw [show List.map (fun q : Part => q.l) [⟨A6, c6, rec⟩] = [rec] from rfl, had] at HAD
               have HKE : Hid (R = if ad.e ≠ 0 then (({ g2 with d := ad.d, l := ad.l } : Pag.PG).fail, ad.e) else ({ g2 with d := ad.d, l := ad.l, over := Pag.laid t.all K g2.over, q := Pag.dropAll g2.q K, sure := t.m, tx := none }, 0)) := by
                 show _ = _
                 have e : Pag.over_ t.all g2.over = Pag.laid t.all K g2.over := by
                   rw [← HK.out]
                   refine (Pag.laid_keys (fun i hi => ?_) g2.over).symm
                   have hm := (H21.out.1.txAt rfl rfl).map
                   refine (hm.eq i).trans ?_
                   obtain ⟨D', -, hD'⟩ := hm.map
                   have := hD'.high (lim := g2.pages + 1) (by rw [HQ.out.2.2.2.1]; exact hi)
                   show (F2 i).map Bp.l = none
                   change (F2 i).map Bp.v = none at this
                   cases hF : F2 i with
                   | none => rfl
                   | some p => rw [hF] at this; cases this
                 rw [HRE2.out, ← e, ← had, ← HRD.out]
                 rfl
               clear had HRD HRE2
               refine (show Calls _ _ #[_, .slice _ 1 1] _ _ from HAD.out).mono ?_
               rintro e w10 ⟨rfl, hwl, hk10⟩
               have hp10 := H21.out.1.log hwl hk10 (Nat.le_add_right m 1010)
               have H22 := Lib.hid (And.intro hp10 (And.intro (H21.out.2.1.offK hk10 (H21.out.1.wl.offOwn (T := 3) (by decide) (by decide) (by decide))) (H21.out.2.2.trans (hk10.mono fun i hi => .inl hi))))
               clear hwl hk10 H21 HAD hp10
               have hc := H22.out.1.cellsS rfl
               by_cases he : ad.e = 0
               · have hke := HKE.out
                 rw [if_neg (by simp [he])] at hke
                 have HKE2 := Lib.hid hke
                 have he0 : (ad.e != 0) = false := by simp [he]
                 clear hke HKE
                 clear he
                 have HN := Lib.hid hn
                 clear hn
                 go_wp2_with fail
                 go_loopw [130] (fun iv wr => ∃ (i : Nat) (F : Nat → Option Bp) (o : Pag.Pgs) (q : PS), i ≤ K.length ∧ iv = .int .i64 (i : Int) ∧ Hid (Pag.laid t.all (K.drop i) o = Pag.laid t.all K g2.over ∧ Pag.dropAll q (K.drop i) = Pag.dropAll g2.q K ∧ PagAt w0 wr { G with F := F, tx := some { T with F := F2 } } (m + 1010 + i) { g2 with d := ad.d, l := ad.l, over := o, q := q, tx := some { t with pages := t.all } } ∧ EOwn eInt wr r (some ⟨aa, 0, none⟩) c (K.map fun n : Nat => (n : Int)) ∧ Keeps w wr G.own)) (fun iv _ => K.length - (intOf iv).toNat)
                 case atStart => exact ⟨0, F9, g2.over, g2.q, Nat.zero_le _, by go_num, rfl, rfl, H22.out⟩
                 case round =>
                   obtain ⟨i, F, o, q, hi, rfl, HJ⟩ := hrel
                   by_cases hlt : i < K.length
                   · have hii : (i : Int) < (K.length : Int) := by omega
                     obtain ⟨a', ha', hcell⟩ := in_own HJ.out.2.2.2.1 (i := i) (by rw [List.length_map]; exact hlt)
                     cases ha'
                     rw [List.getElem_map] at hcell
                     have hmem : K[i] ∈ K := List.getElem_mem hlt
                     have hdrop := List.drop_eq_getElem_cons hlt
                     obtain ⟨kk, hkk⟩ : ∃ kk, K[i] = kk := ⟨_, rfl⟩
                     rw [hkk] at hcell hmem hdrop
                     have hbd : Below wr.heap.size wr wr.drew := (Below.refl _ _).drew
                     have HPW := Lib.hid (HJ.out.2.2.1.below hbd)
                     have hc := HPW.out.cellsS rfl
                     have hta := HPW.out.txAt rfl rfl
                     have hct := hta.blk.c4
                     have hkn : kk < g2.pages + 1 ∧ (t.all kk).isSome = true := by
                       have h1 := HK.out
                       rw [HQ.out.2.2.2.1]
                       rw [← h1] at hmem
                       exact Pag.mem_keys.1 hmem
                     obtain ⟨bs, hbs⟩ := Option.isSome_iff_exists.1 hkn.2
                     obtain ⟨p, hF, hl, hrow, h512⟩ := hta.map.has_ hbs
                     have HF : Hid (((F2 kk).map Bp.v).getD (.slice none 0 0) = .slice p.a p.l.length p.c) := by show _ = _; rw [show F2 kk = some p from hF]; rfl
                     have HGD : Hid ((t.all kk).getD [] = p.l) := by show _ = _; rw [hbs, hl]; rfl
                     have HM := Lib.hid hta.map.map
                     have HO := Lib.hid HPW.out.rest.map
                     have HKB : Hid (kk < 9223372036854775808) := by show kk < _; have := HQ.out.2.2.1; omega
                     have HKS : Hid (kk < g2.pages + 1) := hkn.1
                     have HKL2 : Hid (g2.pages + 1 < 100000000) := by show _ < _; have := HQ.out.2.2.1; omega
                     have HRW := Lib.hid (And.intro hrow h512)
                     have HDR := Lib.hid hdrop
                     have HBD := Lib.hid hbd
                     have HLT := Lib.hid hlt
                     clear hta hmem hkk hkn hbs hF hl hrow h512 hdrop hbd
                     go_upto_region 34 with fail
                     refine wp_region_plan (.take 0 (.take 1 (.take 2 (.take 3 (.take 4 (.take 5 (.take 6 (.take 7 (.take 8 (.take 9 (.take 10 (.run 11 [] .fin)))))))))))) (by kernel_rfl) (by kernel_rfl) (by kernel_rfl) (by kernel_rfl) ?_
                     repeat' (first | (refine hZ _ _ ?_; clear hZ) | (refine hZ _ ?_; clear hZ) | (refine hZ ?_; clear hZ) | rw [again_nil] | rw [walk_fin] | ((first | rw [walk_take] | rw [walk_run] | rw [again_cons]); intro Z hZ; simp only [sel, List.getElem?_toArray, List.getElem?_cons_zero, List.getElem?_cons_succ]; go_wp2_with (first | (refine wpList_pg_at rfl _ _ rfl rfl HM.out kk rfl HKB.out (zero_bytes _) _ HF.out ?_) | (refine wpList_pg_update rfl rfl _ _ _ rfl rfl HO.out.map kk rfl HKS.out HKL2.out _ rfl ?_; intro w12 hm12 hg12; have H12 := Lib.hid (And.intro hm12 hg12); clear hm12 hg12))))
                     have hp12 := HPW.out.overMap (HO.out.put (p := p) H12.out.1 H12.out.2 HRW.out.1 HRW.out.2) H12.out.2
                     have htg := HPW.out.mapTag
                     have hk12 : Keeps wr.drew w12 (fun i => i = G.gm) := Keeps.of_grown H12.out.2
                     have H13 := Lib.hid (And.intro hp12 (And.intro ((HJ.out.2.2.2.1.below HBD.out).offK hk12 (Off.one (T := 3) (by rw [show tagOf wr.drew G.gm = none from htg]; simp))) ((HJ.out.2.2.2.2.then HBD.out).trans (hk12.mono fun i hi => .inr (.inr (.inr (.inl hi)))))))
                     have HDX := Lib.hid (drop_x _ w12 w0.heap.size _ G.b q hp12.pool (kk : Int) (by omega) (by have := HKB.out; omega))
                     replace hc := hp12.cellsS rfl
                     clear hp12 htg hk12 hct HM HO H12 HPW
                     go_wp2_with fail
                     refine HDX.out.mono ?_
                     rintro e w14 ⟨rfl, hpl, hk14⟩
                     have hp14 := H13.out.1.pools hpl hk14 (Nat.le_succ _)
                     have H15 := Lib.hid (And.intro hp14 (And.intro (H13.out.2.1.offK hk14 (H13.out.1.pool.off (T := 3) (by decide) (by decide))) (H13.out.2.2.trans (hk14.mono fun i hi => .inr (.inl hi)))))
                     clear hpl hk14 hp14 HDX H13
                     go_wp2_with fail
                     go_roundw
                     case rel =>
                       refine ⟨i + 1, fun j => if j = kk then some p else F j, Pag.put o kk p.l, (q.drop kk).2, HLT.out, by go_num, ?_, ?_, H15.out⟩
                       · rw [← HJ.out.1, HDR.out, laid_cons, HGD.out]
                       · rw [← HJ.out.2.1, HDR.out]
                         rfl
                     case measure => simp [intOf]; omega
                   · have hii : ¬ (i : Int) < (K.length : Int) := by omega
                     obtain rfl : i = K.length := by omega
                     have hc := HJ.out.2.2.1.cellsS rfl
                     have hct := (HJ.out.2.2.1.txAt rfl rfl).blk.c4
                     have hfr := HJ.out.2.2.1.free
                     go_wp2_with fail
                     go_ret
                     rw [HKE2.out]
                     obtain ⟨h1, h2, h3, h4, h5⟩ := HJ.out
                     rw [List.drop_length] at h1 h2
                     have ho : o = Pag.laid t.all K g2.over := h1
                     have hq : q = Pag.dropAll g2.q K := h2
                     rw [← ho, ← hq]
                     refine ⟨{ G with F := F, au := T.au, cu := T.cu, ar := T.ar, cr := T.cr, tx := none }, rfl, rfl, rfl, (h3.keepTx rfl rfl).more (by have := HN.out; have := HQ.out.1; omega), fun i hi => ?_, ((h5.set ⟨G.gp, 5, none⟩ (.inl (.inr (.inr (.inl rfl)))) _).set ⟨G.gp, 6, none⟩ (.inl (.inr (.inr (.inl rfl)))) _).set ⟨G.gp, 8, none⟩ (.inl (.inr (.inr (.inl rfl)))) _⟩
                     rcases hi with hi | hi | hi | hi | ⟨T', hT', -⟩ | ⟨a, ha, hi⟩
                     · exact .inl (.inl hi)
                     · exact .inl (.inr (.inl hi))
                     · exact .inl (.inr (.inr (.inl hi)))
                     · exact .inl (.inr (.inr (.inr (.inl hi))))
                     · cases hT'
                     · exact .inl (.inr (.inr (.inr (.inr (.inl ⟨T, HT.out, .inr (.inr ⟨a, ha, hi⟩)⟩)))))
               · have hke := HKE.out
                 rw [if_pos he] at hke
                 have HKE2 := Lib.hid hke
                 have he2 := code_ne he
                 have HPF := Lib.hid (pfail_any w0 w10 _ _ _ H22.out.1 ad.e)
                 clear hke HKE he
                 go_wp2_with fail
                 refine HPF.out.mono ?_
                 rintro e w11 ⟨G', rfl, e1, e2, hp11, ho11, hk11⟩
                 have H23 := Lib.hid (And.intro e1 (And.intro e2 (And.intro hp11 (And.intro ho11 hk11))))
                 clear e1 e2 hp11 ho11 hk11
                 go_wp2_with fail
                 go_ret
                 rw [HKE2.out]
                 obtain ⟨e1, e2, hp11, ho11, hk11⟩ := H23.out
                 refine ⟨G', rfl, e1, e2, hp11.more (by have := HQ.out.1; omega), fun i hi => ?_, H22.out.2.2.trans (hk11.mono fun i hi => GB.own_F HT.out hi)⟩
                 rcases ho11 i hi with h | h
                 · exact .inl (GB.own_F HT.out h)
                 · exact .inr (Nat.le_trans H22.out.2.2.size h)
set_option maxRecDepth 20000 in
set_option maxHeartbeats 1000000 in
theorem pcommit_any (w0 w : World) (G : GB) (n : Nat) (g : Pag.PG) (h : PagAt w0 w G n g) (hn : n + 5000 < 1000000) :
    Calls Tryz.prog 14 #[.pointer (some ⟨G.gp, 0, none⟩)] w (RetPg w0 w G (n + 5000) g.commit.1 g.commit.2) := by
  have HB := Lib.hid (pbroken_any w0 w G n g h)
  have H0 := Lib.hid h
  cases hb : g.broken with
  | true =>
    have HR : Hid (g.commit = (g, 3)) := by show _ = _; unfold Pag.PG.commit; cases g.tx <;> simp [hb]
    rw [hb] at HB
    have HR := Lib.hid HR.out
    clear h hb
    go_enter Tryz.func14, Tryz.ntmps14
    go_wp2_with fail
    refine HB.out.mono ?_
    rintro e w1 ⟨rfl, rfl⟩
    go_wp2_with fail
    go_ret
    rw [HR.out]
    exact ⟨G, rfl, rfl, rfl, H0.out.more (by omega), fun i hi => .inl hi, Keeps.refl _ _⟩
  | false =>
    rcases h.split with ⟨hT, hg⟩ | ⟨T, t, hT, hg, -⟩
    · have HR : Hid (g.commit = (g, 3)) := by show _ = _; unfold Pag.PG.commit; rw [hg]
      rw [hb] at HB
      have hc := h.cells
      rw [GB.txv_none hT] at hc
      clear h hb hT hg
      go_enter Tryz.func14, Tryz.ntmps14
      go_wp2_with fail
      refine HB.out.mono ?_
      rintro e w1 ⟨rfl, rfl⟩
      go_wp2_with fail
      go_ret
      rw [HR.out]
      exact ⟨G, rfl, rfl, rfl, H0.out.more (by omega), fun i hi => .inl hi, Keeps.refl _ _⟩
    · exact pcommit_tx w0 w G n g t h hg hn hb
end Go.Proofs.YtcfoihihinijlaaGreat
end

section
namespace Go.Proofs.YtcfoihihinijlaaGreat
set_option linter.unusedSimpArgs false
set_option linter.unusedVariables false
open Go.RowKit Go.Maps
theorem pgfill_step (c : UInt8) (i : Nat) (h : i < 512) : (List.replicate i c ++ List.replicate (512 - i) (0 : UInt8)).set i c = List.replicate (i + 1) c ++ List.replicate (512 - (i + 1)) 0 := by
  obtain ⟨k, hk⟩ : ∃ k, 512 - i = k + 1 := ⟨511 - i, by omega⟩
  rw [hk, show 512 - (i + 1) = k by omega, List.replicate_succ, List.replicate_succ', List.append_assoc, List.set_append_right _ _ (by simp)]
  simp
set_option maxRecDepth 20000 in
set_option maxHeartbeats 1000000 in
theorem page512_any (w : World) (c : UInt8) :
    Calls Tryz.prog 45 #[.int .u8 (c.toNat : Int)] w fun e w' => ∃ A cap, e = .returned (.slice A 512 cap) ∧ BOwn w' w.heap.size A cap (List.replicate 512 c) ∧ Below w.heap.size w w' := by
  go_enter Tryz.func45, Tryz.ntmps45
  go_wp2_with (refine wpList_make_zeros rfl (.const (.int .i64 512)) (.const (.int .i64 512)) rfl _ _ _ _ 512 rfl rfl rfl rfl (by decide) (Nat.le_refl _) ?_; intro w1 ho hb)
  have HI : Hid (BOwn w1 w.heap.size (some ⟨w.heap.size, 0, none⟩) 512 (List.replicate 0 c ++ List.replicate (512 - 0) 0) ∧ Below w.heap.size w w1) := ⟨by simpa using ho, hb⟩
  clear ho hb
  go_loopw [8] (fun iv wr => ∃ i : Nat, i ≤ 512 ∧ iv = .int .i64 i ∧ Hid (BOwn wr w.heap.size (some ⟨w.heap.size, 0, none⟩) 512 (List.replicate i c ++ List.replicate (512 - i) 0) ∧ Below w.heap.size w wr)) (fun iv _ => 512 - (intOf iv).toNat)
  case atStart => exact ⟨0, by omega, rfl, HI.out⟩
  case round =>
    obtain ⟨i, hi, rfl, HJ⟩ := hrel
    clear HI
    by_cases hlt : i < 512
    · have hii : (i : Int) < 512 := by omega
      have hl : (List.replicate i c ++ List.replicate (512 - i) (0 : UInt8)).length = 512 := by simp; omega
      have hcell : (wr.cell? ⟨w.heap.size, i, none⟩).isSome = true := by rw [HJ.out.1.cell (by rw [hl]; exact hlt)]; rfl
      have hce := HJ.out.1.cell (j := i) (by rw [hl]; exact hlt)
      have hfr := HJ.out.1.free i
      go_wp2_with fail
      go_roundw
      case rel =>
        refine ⟨i + 1, by omega, by go_num, ?_, HJ.out.2.setCell (p := ⟨w.heap.size, i, none⟩) (Nat.le_refl _) _⟩
        rw [← pgfill_step c i hlt]
        exact HJ.out.1.store i c _ rfl
      case measure => simp [intOf]; omega
    · obtain rfl : i = 512 := by omega
      have HC : Hid (BOwn wr w.heap.size (some ⟨w.heap.size, 0, none⟩) 512 (List.replicate 512 c) ∧ Below w.heap.size w wr) := ⟨by simpa using HJ.out.1, HJ.out.2⟩
      clear HJ hlt
      go_wp2_with fail
      go_ret
      exact ⟨_, 512, rfl, HC.out⟩
theorem pg_str_eq (l m : List UInt8) (w : World) : (binOp .eql 9 (txt l) (txt m)).run Tryz.prog w = .ok (.bool (l == m)) w := by
  unfold txt
  rw [binOp_string_eql, pg_txt_list, pg_txt_list]
  rfl
theorem pg_eqg2 (t : TypeId) (x y : Operand) (l m : List UInt8) : eqGuard .eql t x y (txt l) (txt m) = pure () := rfl
set_option maxRecDepth 20000 in
set_option maxHeartbeats 4000000 in
theorem pglives_any (w : World) : Calls Tryz.prog 10 #[] w fun e w' => e = .returned (.bool true) ∧ Below w.heap.size w w' := by
  go_enter Tryz.func10, Tryz.ntmps10
  go_wp2_with fail
  refine (DL.new (w0 := w) 20 (by decide) (by decide) (Below.refl _ _)).mono ?_
  rintro e w1 ⟨k, rfl, hL1, -⟩
  have HL1 := Lib.hid hL1
  clear hL1
  go_wp2_with fail
  obtain ⟨g0, ho, hok, hnow, hsu, htx, hbl, hpg, hsq⟩ := Pag.open_new_ok (blocks := 8) (pages := 10) (frames := 2) (by decide) (by decide) (by decide) (by decide) (by decide) (by decide)
  have hinv : Pag.Inv g0 [] 20 (Pag.empty 10) := ⟨hok, fun t ht => by rw [htx] at ht; cases ht⟩
  obtain ⟨g1, g2, g3, g4, t3, e1, e2, e3, e4, ⟨i1, i2, i3, ht3, hb3, hp3⟩, hf⟩ := Pag.lives_ok hinv (by rw [hbl, hpg]) hnow hbl hpg (by rw [hsu, hpg]) htx hsq (List.replicate 512 120) (by simp)
  have ho' : Pag.open_ (DS.new 20) ((8 : Nat) : Int) ((2 : Nat) : Int) = (g0.d, some g0, 0) := ho
  have hop := popen_any w w1 k (DS.new 20) 0 8 10 2 HL1.out (by decide) (by decide) (by decide) (by decide) (by decide) (by decide) (by decide) (by decide)
  rw [ho'] at hop
  have E1 := Lib.hid e1
  have E2 := Lib.hid e2
  have E3 := Lib.hid e3
  have E4 := Lib.hid e4
  have I1 := Lib.hid i1
  have I2 := Lib.hid i2
  have I3 := Lib.hid (And.intro i3 (And.intro ht3 (And.intro hb3 hp3)))
  have HF := Lib.hid hf
  clear ho ho' hok hnow hsu htx hbl hpg hsq hinv e1 e2 e3 e4 i1 i2 i3 ht3 hb3 hp3 hf
  refine hop.mono ?_
  rintro e w2 ⟨h0, -⟩
  obtain ⟨G, rfl, hGk, hGt, hp, hown, hk2⟩ := h0 g0 rfl
  have H2 := Lib.hid (And.intro hp hGk)
  clear hop h0 hGk hGt hp hown hk2
  go_wp2_with fail
  have hb := pbegin_any w w2 G _ g0 H2.out.1
  rw [E1.out] at hb
  refine hb.mono ?_
  rintro e w3 ⟨G3, rfl, p3, k3, hp3, -, -⟩
  have H3 := Lib.hid (And.intro hp3 (k3.trans H2.out.2))
  rw [← p3]
  clear hb p3 k3 hp3 H2 E1
  go_wp2_with fail
  have ha := palloc_any w w3 G3 _ g1 H3.out.1 I1.out.now_ul
  rw [E2.out] at ha
  refine ha.mono ?_
  rintro e w4 ⟨G4, rfl, p4, k4, hp4, -, -⟩
  have H4 := Lib.hid (And.intro hp4 (k4.trans H3.out.2))
  rw [← p4]
  clear ha p4 k4 hp4 H3 E2 I1
  go_wp2_with fail
  refine (page512_any w4 120).mono ?_
  rintro e w5 ⟨A5, c5, rfl, ho5, hb5⟩
  have H5 := Lib.hid (And.intro (H4.out.1.below hb5) (And.intro ho5.row H4.out.2))
  clear ho5 hb5 H4
  go_wp2_with fail
  have hq := pput_any w w5 G4 _ g2 H5.out.1 I2.out.now_ul 1 (by decide) (by decide) A5 c5 (List.replicate 512 120) H5.out.2.1 (by simp)
  rw [E3.out, List.length_replicate] at hq
  refine hq.mono ?_
  rintro e w6 ⟨G6, rfl, p6, k6, hp6, -, -⟩
  have H6 := Lib.hid (And.intro hp6 (k6.trans H5.out.2.2))
  rw [← p6]
  clear hq p6 k6 hp6 H5 E3 I2
  go_wp2_with fail
  have hc := pcommit_any w w6 G6 _ g3 H6.out.1 (by decide)
  rw [E4.out] at hc
  refine hc.mono ?_
  rintro e w7 ⟨G7, rfl, p7, k7, hp7, -, -⟩
  have H7 : Hid (DL w w7 k g4.d (0 + 20 + 5000)) := (k7.trans H6.out.2) ▸ hp7.wl.dl
  rw [← p7]
  clear hc p7 k7 hp7 H6 E4 I3
  go_wp2_with fail
  refine (H7.out.crash ⟨0, 0, 0⟩ (by decide)).mono ?_
  rintro e w8 ⟨rfl, hd8, -⟩
  have H8 := Lib.hid hd8
  clear hd8 H7
  go_wp2_with fail
  refine H8.out.up.mono ?_
  rintro e w9 ⟨rfl, hd9, -⟩
  have H9 := Lib.hid hd9
  clear hd9 H8
  go_wp2_with fail
  obtain ⟨g5, g6, e5, e6, hp6, hul, hlen⟩ := HF.out ⟨0, 0, 0⟩
  have E6 := Lib.hid e6
  have HUL := Lib.hid (And.intro hul hp6)
  have hop := popen_any w w9 k _ _ 8 10 2 H9.out (by decide) hlen (by decide) (by decide) (by decide) (by decide) (by decide) (by decide)
  rw [show Pag.open_ ({ g4.d.crash ⟨0, 0, 0⟩ with down := false } : DS) ((8 : Nat) : Int) ((2 : Nat) : Int) = (g5.d, some g5, 0) from e5] at hop
  clear e5 e6 hp6 hul hlen HF
  refine hop.mono ?_
  rintro e w10 ⟨h0, -⟩
  obtain ⟨G8, rfl, -, -, hp, -, -⟩ := h0 g5 rfl
  have H10 := Lib.hid hp
  clear hop h0 hp H9
  go_wp2_with fail
  have hpa := ppage_any w w10 G8 _ g5 H10.out (by decide) HUL.out.1 1 (by decide) (by decide)
  rw [E6.out] at hpa
  refine hpa.mono ?_
  rintro e w11 ⟨G9, A9, c9, rfl, hb9, hc9, -, p9, -, hp9, -, -⟩
  have hx9 : BRow w11 A9 (List.replicate 512 120) := hb9
  obtain ⟨X, hX⟩ : ∃ X, List.replicate 512 (120 : UInt8) = X := ⟨_, rfl⟩
  have HX := Lib.hid hX
  have HXL : Hid (512 = X.length) := by show _ = _; rw [← hX]; simp
  rw [hX] at hx9
  have H11 := Lib.hid (And.intro hp9 hx9)
  rw [← p9]
  simp only [List.length_replicate]
  clear hpa p9 hp9 hb9 hx9 E6 H10 hX hc9
  go_wp2_with fail
  have hbd : Below w11.heap.size w11 w11.drew := (Below.refl _ _).drew
  have HBD := Lib.hid hbd
  clear hbd
  go_upto_region 14 with fail
  refine wp_region_plan (.take 0 (.take 1 (.take 2 (.take 3 (.take 4 (.run 5 [3, 4] (.take 6 (.take 7 (.take 8 (.take 9 (.take 10 (.run 11 [] (.take 12 (.take 13 (.take 14 .fin))))))))))))))) (by kernel_rfl) (by kernel_rfl) (by kernel_rfl) (by kernel_rfl) ?_
  repeat' (first | (refine hZ _ _ ?_; clear hZ) | (refine hZ _ ?_; clear hZ) | (refine hZ ?_; clear hZ) | rw [again_nil] | rw [walk_fin] | ((first | rw [walk_take] | rw [walk_run] | rw [again_cons]); intro Z hZ; simp only [sel, List.getElem?_toArray, List.getElem?_cons_zero, List.getElem?_cons_succ]; go_wp2_with (first | (refine wpList_guardP (by kernel_rfl) ?_; refine wpList_str_of rfl (.tmp 69) rfl rfl HXL.out (H11.out.2.below HBD.out) ?_))))
  refine (page512_any w11.drew 120).mono ?_
  rintro e w12 ⟨A12, c12, rfl, ho12, hb12⟩
  rw [HX.out] at ho12
  have H12 := Lib.hid (And.intro ho12.row (And.intro (HBD.out.then hb12) (H11.out.1.below (HBD.out.then hb12))))
  clear ho12 hb12
  have keq := fun w => pg_str_eq X X w
  simp only [beq_self_eq_true] at keq
  have heg := pg_eqg2
  go_wp2_with fail
  repeat' (first | (refine hZ _ _ ?_; clear hZ) | (refine hZ _ ?_; clear hZ) | (refine hZ ?_; clear hZ) | rw [again_nil] | rw [walk_fin] | ((first | rw [walk_take] | rw [walk_run] | rw [again_cons]); intro Z hZ; simp only [sel, List.getElem?_toArray, List.getElem?_cons_zero, List.getElem?_cons_succ]; go_wp2_with (first | (refine wpList_guardP (by kernel_rfl) ?_; refine wpList_str_of rfl (.tmp 71) rfl rfl HXL.out H12.out.1 ?_) | (refine wpList_guardP (by kernel_rfl) ?_; refine wpList_str_of rfl (.tmp 69) rfl rfl HXL.out (H11.out.2.below H12.out.2.1) ?_))))
  have hpp := ppages_any w w12 G9 _ g6 H12.out.2.2
  rw [HUL.out.2] at hpp
  refine hpp.mono ?_
  rintro e w13 ⟨rfl, rfl⟩
  clear hpp
  go_wp2_with fail
  repeat' (first | (refine hZ _ _ ?_; clear hZ) | (refine hZ _ ?_; clear hZ) | (refine hZ ?_; clear hZ) | rw [again_nil] | rw [walk_fin] | ((first | rw [walk_take] | rw [walk_run] | rw [again_cons]); intro Z hZ; simp only [sel, List.getElem?_toArray, List.getElem?_cons_zero, List.getElem?_cons_succ]; go_wp2_with (fail)))
  go_wp2_with fail
  go_ret
  exact ⟨rfl, H12.out.2.2.wl.dl.bel⟩
end Go.Proofs.YtcfoihihinijlaaGreat
end

section
namespace Go.Proofs.YtcfoihihinijlaaGreat
set_option linter.unusedSimpArgs false
set_option linter.unusedVariables false
open Go.RowKit Go.Deep Go.WideShapes Go.ChangeShapes
structure OpP where
  k : Int
  n : Int
  c : UInt8
  odd : Bool
  A : Option Addr
  cap : Nat
  root : List UInt8
  f : DF
instance : Inhabited OpP := ⟨⟨0, 0, 0, false, none, 0, [], ⟨0, 0, 0⟩⟩⟩
def eOpP : Elem OpP where
  e := 58
  t := 22
  sz := 8
  bytes := 72
  zero := .agg #[.int .i64 0, .int .i64 0, .int .u8 0, .bool false, .slice none 0 0, .int .i64 0, .int .u64 0, .int .i64 0]
  code := fun o => [.int .i64 o.k, .int .i64 o.n, bv o.c, .bool o.odd, .slice o.A o.root.length o.cap, .int .i64 o.f.at_, .int .u64 (o.f.keep : Nat), .int .i64 o.f.torn]
  pos := by decide
  few := by decide
  len := fun _ => rfl
  one := by
    intro x u hu
    simp at hu
    rcases hu with rfl | rfl | rfl | rfl | rfl | rfl | rfl | rfl <;> rfl
  zsz := rfl
  info := by kernel_rfl
  under := Tryz.underlying22
def i6B (n : Int) : Prop := -9223372036854775808 ≤ n ∧ n ≤ 9223372036854775807
def DF.Fine6 (f : DF) : Prop := f.keep < 18446744073709551616 ∧ i6B f.torn ∧ i6B f.at_
structure OpP.Fine (w : World) (o : OpP) : Prop where
  k : i6B o.k
  n : i6B o.n
  row : BRow w o.A o.root
  f : o.f.Fine6
def ScriptP (w : World) (v : Value) : Prop := ∃ A c L, v = .slice A (List.length L) c ∧ ERow eOpP w A L ∧ (∀ o ∈ L, o.Fine w) ∧ L.length ≤ c ∧ c ≤ maxLen
theorem OpP.Fine.below {w w' : World} {o : OpP} (h : o.Fine w) (hb : Below w.heap.size w w') : o.Fine w' := ⟨h.k, h.n, h.row.below hb, h.f⟩
section
variable {H : Type} {enc : TypeId × Value → H} {w : World} {base : Nat} {spare : Nat → Bool} {held : Bool} {fuel : Nat} {cs : List Value} {x : DataW H × List MemPlace}
theorem open_u64p {t : TypeId} (ht : Tryz.prog.underlying t = some (.int .u64)) (h : DataW.trod enc Tryz.prog w base spare held fuel t cs = some x) : ∃ n : Nat, cs = [.int .u64 (n : Int)] ∧ n < 18446744073709551616 := by
  obtain ⟨n, rfl, _, hw⟩ := DataW.trod_int ht h
  simp [Lit.wf, IntKind.min, IntKind.max, IntKind.signed, IntKind.bits] at hw
  obtain ⟨m, rfl⟩ : ∃ m : Nat, n = (m : Int) := ⟨n.toNat, by omega⟩
  exact ⟨m, rfl, by omega⟩
theorem open_u8p {t : TypeId} (ht : Tryz.prog.underlying t = some (.int .u8)) (h : DataW.trod enc Tryz.prog w base spare held fuel t cs = some x) : ∃ c : UInt8, cs = [bv c] := by
  obtain ⟨n, rfl, _, hw⟩ := DataW.trod_int ht h
  simp [Lit.wf, IntKind.min, IntKind.max, IntKind.signed, IntKind.bits] at hw
  refine ⟨UInt8.ofNat n.toNat, ?_⟩
  simp [bv]
  omega
set_option maxRecDepth 20000 in
theorem open_fall6 (h : DataW.trod enc Tryz.prog w base spare held fuel 47 cs = some x) (hlen : cs.length = 3) : ∃ f : DF, cs = eDF.code f ∧ f.Fine6 := by
  obtain ⟨xs, k, rfl, rfl, _, hxl, hfs⟩ := DataW.trod_struct Tryz.underlying47 h
  match xs, hxl, cs, hlen with
  | [y0, y1, y2], _, [v0, v1, v2], _ =>
    have g0 := hfs 0 _ rfl
    have g1 := hfs 1 _ rfl
    have g2 := hfs 2 _ rfl
    obtain ⟨n0, e0, b0⟩ := open_i64 Tryz.underlying3 (by simpa using g0)
    obtain ⟨n1, e1, b1⟩ := open_u64p Tryz.underlying45 (by simpa using g1)
    obtain ⟨n2, e2, b2⟩ := open_i64 Tryz.underlying3 (by simpa using g2)
    have q3 : Tryz.prog.cellsOf 3 = 1 := by kernel_rfl
    have q4 : Tryz.prog.cellsOf 45 = 1 := by kernel_rfl
    have e0' : v0 = .int .i64 n0 := by simpa [q3] using e0
    have e1' : v1 = .int .u64 (n1 : Int) := by simpa [q4] using e1
    have e2' : v2 = .int .i64 n2 := by simpa [q3] using e2
    subst e0' e1' e2'
    exact ⟨⟨n0, n1, n2⟩, rfl, b1, b2, b0⟩
set_option maxRecDepth 20000 in
theorem open_opp (h : DataW.trod enc Tryz.prog w base spare held fuel 58 cs = some x) (hlen : cs.length = 8) : ∃ o : OpP, cs = eOpP.code o ∧ o.Fine w := by
  obtain ⟨xs, k, rfl, rfl, _, hxl, hfs⟩ := DataW.trod_struct Tryz.underlying58 h
  match xs, hxl, cs, hlen with
  | [y0, y1, y2, y3, y4, y5], _, [v0, v1, v2, v3, v4, v5, v6, v7], _ =>
    have g0 := hfs 0 _ rfl
    have g1 := hfs 1 _ rfl
    have g2 := hfs 2 _ rfl
    have g3 := hfs 3 _ rfl
    have g4 := hfs 4 _ rfl
    have g5 := hfs 5 _ rfl
    have q3 : Tryz.prog.cellsOf 3 = 1 := by kernel_rfl
    have q4 : Tryz.prog.cellsOf 5 = 1 := by kernel_rfl
    have q6 : Tryz.prog.cellsOf 4 = 1 := by kernel_rfl
    have q7 : Tryz.prog.cellsOf 47 = 3 := by kernel_rfl
    have q8 : Tryz.prog.cellsOf 56 = 1 := by kernel_rfl
    obtain ⟨n0, e0, b0⟩ := open_i64 Tryz.underlying3 (by simpa using g0)
    obtain ⟨n1, e1, b1⟩ := open_i64 Tryz.underlying3 (by simpa using g1)
    obtain ⟨n2, e2⟩ := open_u8p Tryz.underlying5 (by simpa using g2)
    obtain ⟨n3, e3, _⟩ := DataW.trod_bool Tryz.underlying4 (by simpa using g3)
    obtain ⟨A, l, c, e4, r4, l4, m4⟩ := open_bytes (by simpa using g4)
    obtain ⟨n5, e5, b5⟩ := open_fall6 (by simpa using g5) (by simp [q7])
    have e0' : v0 = .int .i64 n0 := by simpa [q3] using e0
    have e1' : v1 = .int .i64 n1 := by simpa [q3] using e1
    have e2' : v2 = bv n2 := by simpa [q4] using e2
    have e3' : v3 = .bool n3 := by simpa [q6] using e3
    have e4' : v4 = .slice A l.length c := by simpa [q8] using e4
    have e5' : [v5, v6, v7] = eDF.code n5 := by simpa [q7] using e5
    subst e0' e1' e2' e3' e4'
    obtain ⟨f0, f1, f2⟩ := n5
    simp [eDF] at e5'
    obtain ⟨rfl, rfl, rfl⟩ := e5'
    exact ⟨⟨n0, n1, n2, n3, A, c, l, ⟨f0, f1, f2⟩⟩, rfl, b0, b1, r4, b5⟩
end
set_option maxRecDepth 20000 in
theorem opp_in {H : Type} {enc : TypeId × Value → H} {w : World} {base : Nat} {v : Value} {d : DataW H} {p : List MemPlace}
    (_hv : Value.okWide Tryz.prog w .any base 22 v) (h : DataW.Trod enc Tryz.prog w 0 (fun _ => true) true 22 v d p) : ScriptP w v := by
  obtain ⟨a0, len0, cap0, rfl⟩ := okWide_slice Tryz.underlying22 _hv
  obtain ⟨fuel, hf⟩ := h
  obtain ⟨A, L, c, h1, h2, h3, h4, h5⟩ := open_elems eOpP (by kernel_rfl) (OpP.Fine w) (fun fuel cs x h hlen => open_opp h hlen) hf
  simp [Value.cells] at h1
  obtain ⟨rfl, rfl, rfl⟩ := h1
  exact ⟨_, _, L, rfl, h2, h3, h4, h5⟩
theorem opp_at {w : World} {A : Option Addr} {L : List OpP} (h : ERow eOpP w A L) {i : Nat} (hi : i < L.length) : ∃ b o, A = some ⟨b, o, none⟩ ∧ b < w.heap.size ∧
    (w.cell? ⟨b, o + i * 8, none⟩ = some (.int .i64 L[i].k) ∧ w.cell? ⟨b, o + i * 8 + 1, none⟩ = some (.int .i64 L[i].n) ∧ w.cell? ⟨b, o + i * 8 + 2, none⟩ = some (.int .u8 (L[i].c.toNat : Nat)) ∧ w.cell? ⟨b, o + i * 8 + 3, none⟩ = some (.bool L[i].odd) ∧ w.cell? ⟨b, o + i * 8 + 4, none⟩ = some (.slice L[i].A L[i].root.length L[i].cap) ∧
      w.cell? ⟨b, o + i * 8 + 5, none⟩ = some (.int .i64 L[i].f.at_) ∧ w.cell? ⟨b, o + i * 8 + 6, none⟩ = some (.int .u64 (L[i].f.keep : Nat)) ∧ w.cell? ⟨b, o + i * 8 + 7, none⟩ = some (.int .i64 L[i].f.torn)) := by
  obtain ⟨b, o, e, hb, hc⟩ := h.at_ hi
  exact ⟨b, o, e, hb, hc 0 _ rfl, hc 1 _ rfl, hc 2 _ rfl, hc 3 _ rfl, hc 4 _ rfl, hc 5 _ rfl, hc 6 _ rfl, hc 7 _ rfl⟩
end Go.Proofs.YtcfoihihinijlaaGreat
end

section
namespace Go.Proofs.YtcfoihihinijlaaGreat
set_option linter.unusedSimpArgs false
set_option linter.unusedVariables false
open Go.RowKit Go.Maps
section
variable {w : World} {ops : Array Oper} {rest : List Oper} {o : Oper} {a : Act} {Q : Exit → Act → World → Prop} {gm lim : Nat} {f : Nat → Option Value}
theorem wpList_pg_del (hg : o.guard = none) (m x : Operand) (hop : o.op = Op.call { callee := Callee.builtin Builtin.delete, args := #[m, x], argTypes := #[116, 3] }) (hm : a.eval m = .map (some gm)) (h : NMap w gm lim f) (k : Nat) (hx : a.eval x = .int .i64 k) (hk : k < 9223372036854775808)
    (hK : ∀ w', NMap w' gm lim (fun j => if j = k then none else f j) → w.grownBy w' (some gm) → wpList Tryz.prog ops Q rest (a.put o.dst (.tuple #[])) w') : wpList Tryz.prog ops Q (o :: rest) a w := by
  obtain ⟨D, hown, hD⟩ := h
  refine wpList_delete_own w hg m x 116 3 hop 56 pgKeyed Tryz.underlying116 heldE gm lim D hm hown _ _ hx (pgint_key hk) fun w' hown' ht => ?_
  exact hK w' ⟨_, hown', hD.del k⟩ ht.grown
end
section
variable {w w' : World} {gm lim : Nat} {F : Nat → Option Bp} {m : Pag.Pgs}
theorem PMap.del (h : PMap w gm lim F m) {k : Nat} (hn : NMap w' gm lim (fun j => if j = k then none else (F j).map Bp.v)) (hg : w.grownBy w' (some gm)) : PMap w' gm lim (fun j => if j = k then none else F j) (Pag.del m k) := by
  have hk := Keeps.of_grown hg
  have ho : Off w (fun i => i = gm) 5 := Off.one (by rw [h.map.tag]; simp)
  refine ⟨?_, fun i q hq => ?_, fun i => ?_⟩
  · have e : (fun j => if j = k then none else (F j).map Bp.v) = fun j => (if j = k then none else F j).map Bp.v := by
      funext j
      split <;> rfl
    rw [e] at hn
    exact hn
  · split at hq
    · cases hq
    · exact ⟨(h.row i q hq).1.offK hk ho, (h.row i q hq).2⟩
  · unfold Pag.del
    split
    · rfl
    · exact h.eq i
end
section
variable {w0 w w' : World} {G : GB} {n : Nat} {g : Pag.PG} {T : TB} {t : Pag.TX}
theorem PagAt.txBlk (h : PagAt w0 w G n g) (hT : G.tx = some T) (hg : g.tx = some t) (i : Nat) (v : Value) {T' : TB} {t' : Pag.TX} (e1 : T'.gt = T.gt) (e2 : T'.au = T.au) (e3 : T'.cu = T.cu) (e4 : T'.gm = T.gm) (e5 : t'.m.used = t.m.used) (e6 : t'.pages = t.pages) (e7 : T'.F = T.F) (hcs : (txCells T t).set i v = txCells T' t') (hr : BRowU w T'.ar t'.m.root) (hrl : t'.m.root.length ≤ 64) :
    PagAt w0 (w.setCell ⟨T.gt, i, none⟩ v) { G with tx := some T' } n { g with tx := some t' } := by
  rcases h.split with ⟨hT', -⟩ | ⟨T2, t2, hT', hg', ht, m1, m2, m3⟩
  · rw [hT'] at hT; cases hT
  · rw [hT] at hT'; rw [hg] at hg'
    cases hT'; cases hg'
    have htag := ht.blk.tag
    have hk := Keeps.of_grown (grown_store w T.gt i v)
    have o : ∀ U, U ≠ 121 → Off w (fun i => i = T.gt) U := fun U hU => Off.one (by rw [htag]; exact fun e => hU (Option.some.inj e).symm)
    refine h.txSet hT (grown_store _ T.gt i v) (.inl rfl) e1 e2 (by rw [htag]; decide) (fun U hU => ?_) (.inr (NoU8.blk ht.blk fun v hv m => ?_)) (fun e => ?_) (fun e => ?_) (fun a' ha' e => ?_) ht.lo ⟨?_, ?_, ?_, hr.offK hk (o _ (by decide)), hrl, ?_, by rw [e1]; exact ht.lo, by rw [e4]; exact ht.mlo⟩ (by rw [e4]; exact m1) (by rw [e4]; exact m2) (fun a a' ha ha' => m3 a a' (by rw [← e2]; exact ha) ha')
    · rw [htag]
      intro e
      obtain rfl := Option.some.inj e
      revert hU
      decide
    · unfold txCells at hv
      simp at hv
      rcases hv with rfl | rfl | rfl | rfl <;> simp
    · have := h.pool.tags.2.2; rw [← e, htag] at this; cases this
    · have := h.mapTag; rw [← e, htag] at this; cases this
    · have := h.rest.used.tag a' ha'; rw [e, htag] at this; revert this; decide
    · rw [← hcs, e1]; exact ht.blk.set i _
    · rw [e2, e3, e5]; exact ht.used.offK hk (o _ (by decide))
    · rw [e5]; exact ht.ul
    · rw [e4, e6, e7]
      exact ht.map.offK hk (fun e => by have := ht.map.map.tag; rw [e, htag] at this; cases this) (o _ (by decide))
theorem PagAt.flag (h : PagAt w0 w G n g) (hT : G.tx = some T) (hg : g.tx = some t) {a : Nat} (ha : T.au = some ⟨a, 0, none⟩) {j : Nat} (hj : j < t.m.used.length) (b : Bool) :
    PagAt w0 (w.setCell ⟨a, j, none⟩ (.bool b)) { G with tx := some T } n { g with tx := some ⟨{ t.m with used := t.m.used.set j b }, t.pages, t.own⟩ } := by
  rcases h.split with ⟨hT', -⟩ | ⟨T', t', hT', hg', ht, m1, m2, m3⟩
  · rw [hT'] at hT; cases hT
  · rw [hT] at hT'; rw [hg] at hg'
    cases hT'; cases hg'
    have htag : tagOf w a = some 4 := ht.used.tag _ ha
    have hs : EOwn eBl (w.setCell ⟨a, j, none⟩ (.bool b)) w0.heap.size T.au T.cu (t.m.used.set j b) := by
      have hu := ht.used
      rw [ha] at hu ⊢
      have := hu.store (j := j) (k := 0) hj (by decide) b (.bool b) rfl
      simpa [eBl] using this
    have hk := Keeps.of_grown (grown_store w a j (.bool b))
    have o : ∀ U, U ≠ 4 → Off w (fun i => i = a) U := fun U hU => Off.one (by rw [htag]; exact fun e => hU (Option.some.inj e).symm)
    have hne : ∀ a', G.au = some a' → a'.block ≠ a := fun a' ha' e => m3 _ _ ha ha' e.symm
    have hlo : w0.heap.size ≤ a := (ht.used.block _ ha).1
    have hu8 : G.xs a := .inr ⟨T, _, hT, ha, rfl⟩
    refine h.txSet hT (grown_store w a j (.bool b)) (.inr (.inr ⟨_, ha, rfl⟩)) rfl rfl (by rw [htag]; decide) (fun U hU => ?_) (.inl hu8) (fun e => ?_) (fun e => ?_) hne hlo ⟨?_, hs, ?_, ht.root.offK hk (o _ (by decide)), ht.rl, ht.map.offK hk (fun e => ?_) (o _ (by decide)), ht.lo, ht.mlo⟩ m1 m2 m3
    · rw [htag]
      intro e
      obtain rfl := Option.some.inj e
      revert hU
      decide
    · have := h.pool.tags.2.2; rw [← e, htag] at this; cases this
    · have := h.mapTag; rw [← e, htag] at this; cases this
    · have := ht.blk.offK hk (o _ (by decide))
      unfold txCells at this ⊢
      simp only [List.length_set]
      exact this
    · simp only [List.length_set]; exact ht.ul
    · have := ht.map.map.tag; rw [e, htag] at this; cases this
theorem PagAt.txDel (h : PagAt w0 w G n g) (hT : G.tx = some T) (hg : g.tx = some t) {k : Nat} (hm : PMap w' T.gm (g.pages + 1) (fun j => if j = k then none else T.F j) (Pag.del t.pages k)) (hgr : w.grownBy w' (some T.gm)) :
    PagAt w0 w' { G with tx := some { T with F := fun j => if j = k then none else T.F j } } n { g with tx := some { t with pages := Pag.del t.pages k } } := by
  rcases h.split with ⟨hT', -⟩ | ⟨T', t', hT', hg', ht, m1, m2, m3⟩
  · rw [hT'] at hT; cases hT
  · rw [hT] at hT'; rw [hg] at hg'
    cases hT'; cases hg'
    have htag := ht.map.map.tag
    have hk := Keeps.of_grown hgr
    have o : ∀ U, Off w (fun i => i = T.gm) U := fun U => Off.one (by rw [htag]; simp)
    refine h.txSet hT hgr (.inr (.inl rfl)) rfl rfl (by rw [htag]; simp) (fun U _ => by rw [htag]; simp) (.inr (NoU8.map ht.map.map)) m2 m1 (fun a ha e => ?_) ht.mlo ⟨ht.blk.offK hk (o _), ht.used.offK hk (o _), ht.ul, ht.root.offK hk (o _), ht.rl, hm, ht.lo, ht.mlo⟩ m1 m2 m3
    have := h.rest.used.tag a ha
    rw [e, htag] at this
    cases this
end
set_option maxRecDepth 20000 in
set_option maxHeartbeats 4000000 in
theorem prollback_any (w0 w : World) (G : GB) (n : Nat) (g : Pag.PG) (h : PagAt w0 w G n g) :
    Calls Tryz.prog 39 #[.pointer (some ⟨G.gp, 0, none⟩)] w (RetPg w0 w G n g.rollback.1 g.rollback.2) := by
  have HB := Lib.hid (pbroken_any w0 w G n g h)
  have H0 := Lib.hid h
  cases hb : g.broken with
  | true =>
    have HR : Hid (g.rollback = (g, 3)) := by show _ = _; unfold Pag.PG.rollback; cases g.tx <;> simp [hb]
    rw [hb] at HB
    clear h hb
    go_enter Tryz.func39, Tryz.ntmps39
    go_wp2_with fail
    refine HB.out.mono ?_
    rintro e w1 ⟨rfl, rfl⟩
    go_wp2_with fail
    go_ret
    rw [HR.out]
    exact ⟨G, rfl, rfl, rfl, H0.out, fun i hi => .inl hi, Keeps.refl _ _⟩
  | false =>
  rw [hb] at HB
  rcases h.split with ⟨hT, hg⟩ | ⟨T, t, hT, hg, ht, m1, m2, m3⟩
  · have HR : Hid (g.rollback = (g, 3)) := by show _ = _; unfold Pag.PG.rollback; rw [hg]; first | done | simp
    have hc := h.cellsN hT
    clear h hb hT hg
    go_enter Tryz.func39, Tryz.ntmps39
    go_wp2_with fail
    refine HB.out.mono ?_
    rintro e w1 ⟨rfl, rfl⟩
    go_wp2_with fail
    go_ret
    rw [HR.out]
    exact ⟨G, rfl, rfl, rfl, H0.out, fun i hi => .inl hi, Keeps.refl _ _⟩
  have HR : Hid (g.rollback = ({ g with tx := none }, 0)) := by show _ = _; unfold Pag.PG.rollback; rw [hg, hb]; simp
  have hc := h.cellsS hT
  have hfr := h.free
  clear h hb hT hg ht m1 m2 m3
  go_enter Tryz.func39, Tryz.ntmps39
  go_wp2_with fail
  refine HB.out.mono ?_
  rintro e w1 ⟨rfl, rfl⟩
  go_wp2_with fail
  go_ret
  rw [HR.out]
  exact ⟨{ G with tx := none }, rfl, rfl, rfl, H0.out.dropTx, fun i hi => .inl (G.own_noTx hi), (Keeps.refl _ _).set ⟨G.gp, 8, none⟩ (.inl (.inr (.inr (.inl rfl)))) _⟩
set_option maxRecDepth 20000 in
set_option maxHeartbeats 4000000 in
theorem pcheckpoint_any (w0 w : World) (G : GB) (n : Nat) (g : Pag.PG) (h : PagAt w0 w G n g) (hn : n + 2000 < 1000000) :
    Calls Tryz.prog 21 #[.pointer (some ⟨G.gp, 0, none⟩)] w (RetPg w0 w G (n + 2000) g.checkpoint.1 g.checkpoint.2) := by
  have HB := Lib.hid (pbroken_any w0 w G n g h)
  have H0 := Lib.hid h
  cases hb : g.broken with
  | true =>
    have HR : Hid (g.checkpoint = (g, 3)) := by show _ = _; unfold Pag.PG.checkpoint; simp [hb]
    rw [hb] at HB
    clear h hb
    go_enter Tryz.func21, Tryz.ntmps21
    go_wp2_with fail
    refine HB.out.mono ?_
    rintro e w1 ⟨rfl, rfl⟩
    go_wp2_with fail
    go_ret
    rw [HR.out]
    exact ⟨G, rfl, rfl, rfl, H0.out.more (by omega), fun i hi => .inl hi, Keeps.refl _ _⟩
  | false =>
  rw [hb] at HB
  rcases h.split with ⟨hT, hg⟩ | ⟨T, t, hT, hg, ht, m1, m2, m3⟩
  · have HR : Hid (g.checkpoint = g.settle) := by show _ = _; unfold Pag.PG.checkpoint; rw [hg]; simp [hb]
    have hc := h.cellsN hT
    have HS := Lib.hid (psettle_any w0 w G n g h hn)
    clear h hb hT hg
    go_enter Tryz.func21, Tryz.ntmps21
    go_wp2_with fail
    refine HB.out.mono ?_
    rintro e w1 ⟨rfl, rfl⟩
    go_wp2_with fail
    refine HS.out.mono ?_
    rintro e w2 ⟨⟨G2, rfl, hr⟩, -⟩
    have H2 := Lib.hid hr
    clear hr
    go_wp2_with fail
    go_ret
    rw [HR.out]
    exact ⟨G2, rfl, H2.out⟩
  · have HR : Hid (g.checkpoint = (g, 3)) := by show _ = _; unfold Pag.PG.checkpoint; rw [hg]; simp
    have hc := h.cellsS hT
    clear h hb hT hg ht m1 m2 m3
    go_enter Tryz.func21, Tryz.ntmps21
    go_wp2_with fail
    refine HB.out.mono ?_
    rintro e w1 ⟨rfl, rfl⟩
    go_wp2_with fail
    go_ret
    rw [HR.out]
    exact ⟨G, rfl, rfl, rfl, H0.out.more (by omega), fun i hi => .inl hi, Keeps.refl _ _⟩
def RetBs (w : World) (l : List UInt8) (e : Ending) (w' : World) : Prop := ∃ A c, e = .returned (.slice A l.length c) ∧ BOwn w' w.heap.size A c l ∧ Below w.heap.size w w'
theorem mt_field1 (x y : Value) (w : World) : (Instr.field 115 (.agg #[x, y]) 1).run Tryz.prog w = .ok y w := by kernel_rfl
set_option maxRecDepth 20000 in
set_option maxHeartbeats 4000000 in
theorem proot_any (w0 w : World) (G : GB) (n : Nat) (g : Pag.PG) (h : PagAt w0 w G n g) (hrl : g.now.root.length ≤ 64) :
    Calls Tryz.prog 63 #[.pointer (some ⟨G.gp, 0, none⟩)] w (RetBs w g.root) := by
  have HB := Lib.hid (pbroken_any w0 w G n g h)
  have HN := Lib.hid (pnow_any w0 w G n g h)
  cases hb : g.broken with
  | true =>
    have HR : Hid (g.root = []) := by show _ = _; unfold Pag.PG.root; rw [if_pos hb]
    rw [hb] at HB
    clear h hb
    go_enter Tryz.func63, Tryz.ntmps63
    go_wp2_with fail
    refine HB.out.mono ?_
    rintro e w1 ⟨rfl, rfl⟩
    go_wp2_with fail
    go_ret
    rw [HR.out]
    exact ⟨none, 0, rfl, BOwn.nil _ _, Below.refl _ _⟩
  | false =>
    have HR : Hid (g.root = g.now.root) := by show _ = _; unfold Pag.PG.root; rw [if_neg (by rw [hb]; simp)]
    have HRL := Lib.hid hrl
    rw [hb] at HB
    clear h hb hrl
    go_enter Tryz.func63, Tryz.ntmps63
    go_wp2_with fail
    refine HB.out.mono ?_
    rintro e w1 ⟨rfl, rfl⟩
    go_wp2_with fail
    refine HN.out.mono ?_
    rintro e w2 ⟨a, c, r, d, rfl, -, hr, hb2⟩
    have HC := Lib.hid (clone_any w2 r d g.now.root hr.row (by have := HRL.out; omega))
    have H2 := Lib.hid hb2
    have hf := mt_field1
    clear hr hb2
    unfold mtV
    go_wp2_with fail
    refine HC.out.mono ?_
    rintro e w3 ⟨A3, c3, rfl, ho3, hb3⟩
    have H3 := Lib.hid (And.intro (ho3.mono H2.out.size) (H2.out.then hb3))
    clear ho3 hb3
    go_wp2_with fail
    go_ret
    rw [HR.out]
    exact ⟨A3, c3, rfl, H3.out.1, H3.out.2⟩
set_option maxRecDepth 20000 in
set_option maxHeartbeats 4000000 in
theorem psetRoot_any (w0 w : World) (G : GB) (n : Nat) (g : Pag.PG) (h : PagAt w0 w G n g) (A : Option Addr) (c : Nat) (l : List UInt8) (hr : BRow w A l) (hl : l.length ≤ 1000000) :
    Calls Tryz.prog 50 #[.pointer (some ⟨G.gp, 0, none⟩), .slice A l.length c] w (RetPg w0 w G n (g.setRoot l).1 (g.setRoot l).2) := by
  have HB := Lib.hid (pbroken_any w0 w G n g h)
  have H0 := Lib.hid h
  cases hb : g.broken with
  | true =>
    have HR : Hid (g.setRoot l = (g, 3)) := by show _ = _; unfold Pag.PG.setRoot; cases g.tx <;> simp [hb]
    rw [hb] at HB
    clear h hb
    go_enter Tryz.func50, Tryz.ntmps50
    go_wp2_with fail
    refine HB.out.mono ?_
    rintro e w1 ⟨rfl, rfl⟩
    go_wp2_with fail
    go_ret
    rw [HR.out]
    exact ⟨G, rfl, rfl, rfl, H0.out, fun i hi => .inl hi, Keeps.refl _ _⟩
  | false =>
  rw [hb] at HB
  rcases h.split with ⟨hT, hg⟩ | ⟨T, t, hT, hg, ht, m1, m2, m3⟩
  · have HR : Hid (g.setRoot l = (g, 3)) := by show _ = _; unfold Pag.PG.setRoot; rw [hg]; first | done | simp
    have hc := h.cellsN hT
    clear h hb hT hg
    go_enter Tryz.func50, Tryz.ntmps50
    go_wp2_with fail
    refine HB.out.mono ?_
    rintro e w1 ⟨rfl, rfl⟩
    go_wp2_with fail
    go_ret
    rw [HR.out]
    exact ⟨G, rfl, rfl, rfl, H0.out, fun i hi => .inl hi, Keeps.refl _ _⟩
  by_cases h64 : 64 < l.length
  · have HR : Hid (g.setRoot l = (g, 4)) := by show _ = _; unfold Pag.PG.setRoot; rw [hg]; simp [hb, h64]
    have hc := h.cellsS hT
    have hll : (64 : Int) < (l.length : Int) := by omega
    clear h hb hT hg ht m1 m2 m3 h64
    go_enter Tryz.func50, Tryz.ntmps50
    go_wp2_with fail
    refine HB.out.mono ?_
    rintro e w1 ⟨rfl, rfl⟩
    go_wp2_with fail
    go_ret
    rw [HR.out]
    exact ⟨G, rfl, rfl, rfl, H0.out, fun i hi => .inl hi, Keeps.refl _ _⟩
  · have HR : Hid (g.setRoot l = ({ g with tx := some { t with m := { t.m with root := l }, own := true } }, 0)) := by show _ = _; unfold Pag.PG.setRoot; rw [hg]; simp [hb, h64]
    have hc := h.cellsS hT
    have HT := Lib.hid hT
    have HG := Lib.hid hg
    have HTA := Lib.hid ht
    have hct := ht.blk.c4
    have hll : (l.length : Int) ≤ 64 := by omega
    have HC := Lib.hid (clone_any w.drew A c l (hr.below (Below.refl _ _).drew) hl)
    have HLL := Lib.hid h64
    clear h hb hT hg ht m1 m2 m3 h64
    go_enter Tryz.func50, Tryz.ntmps50
    go_wp2_with fail
    refine HB.out.mono ?_
    rintro e w1 ⟨rfl, rfl⟩
    go_wp2_with fail
    refine wp_region_plan (.take 0 (.take 1 (.take 2 (.take 3 (.take 4 (.take 5 (.take 6 (.take 7 (.take 8 (.run 9 [0, 1, 2, 3, 4, 5, 6, 7] (.take 10 (.take 11 (.take 12 (.run 13 [] (.take 14 (.take 15 (.run 16 [] .fin))))))))))))))))) (by kernel_rfl) (by kernel_rfl) (by kernel_rfl) (by kernel_rfl) ?_
    repeat' (first | (refine hZ _ _ ?_; clear hZ) | (refine hZ _ ?_; clear hZ) | (refine hZ ?_; clear hZ) | rw [again_nil] | rw [walk_fin] | ((first | rw [walk_take] | rw [walk_run] | rw [again_cons]); intro Z hZ; simp only [sel, List.getElem?_toArray, List.getElem?_cons_zero, List.getElem?_cons_succ]; go_wp2_with (fail)))
    refine HC.out.mono ?_
    rintro e w2 ⟨A2, c2, rfl, ho2, hb2⟩
    have hbd : Below w.heap.size w w2 := (Below.refl _ _).drew.trans hb2
    have h2 := H0.out.below hbd
    have hc := h2.cellsS HT.out
    have hct := (HTA.out.blk.below hbd).c4
    have H2 := Lib.hid (And.intro h2 (And.intro ho2 hbd))
    clear h2 ho2 hb2 hbd HC
    go_wp2_with fail
    repeat' (first | (refine hZ _ _ ?_; clear hZ) | (refine hZ _ ?_; clear hZ) | (refine hZ ?_; clear hZ) | rw [again_nil] | rw [walk_fin] | ((first | rw [walk_take] | rw [walk_run] | rw [again_cons]); intro Z hZ; simp only [sel, List.getElem?_toArray, List.getElem?_cons_zero, List.getElem?_cons_succ]; go_wp2_with (fail)))
    go_wp2_with fail
    go_ret
    obtain ⟨h2, ho2, hbd⟩ := H2.out
    have ht2 := h2.txAt HT.out HG.out
    have h3 := h2.txBlk HT.out HG.out 1 (.slice A2 l.length c2) (T' := { T with ar := A2, cr := c2 }) (t' := { t with m := { t.m with root := l } }) rfl rfl rfl rfl rfl rfl rfl rfl (BRowU.own ho2) (by have := HLL.out; show l.length ≤ 64; omega)
    have h4 := h3.txBlk rfl rfl 3 (.bool true) (T' := { T with ar := A2, cr := c2 }) (t' := { t with m := { t.m with root := l }, own := true }) rfl rfl rfl rfl rfl rfl rfl rfl (h3.txAt rfl rfl).root (by have := HLL.out; show l.length ≤ 64; omega)
    rw [HR.out]
    refine ⟨{ G with tx := some { T with ar := A2, cr := c2 } }, rfl, rfl, rfl, h4, fun i hi => ?_, (((Keeps.of_below hbd).set ⟨T.gt, 1, none⟩ (.inl ?_) _).set ⟨T.gt, 3, none⟩ (.inl ?_) _)⟩
    · rcases G.own_withTx _ hi with hi | hi
      · exact .inl hi
      · exact .inl (.inr (.inr (.inr (.inr (.inl ⟨T, HT.out, hi⟩)))))
    · exact .inr (.inr (.inr (.inr (.inl ⟨T, HT.out, .inl rfl⟩))))
    · exact .inr (.inr (.inr (.inr (.inl ⟨T, HT.out, .inl rfl⟩))))
set_option maxRecDepth 20000 in
set_option maxHeartbeats 4000000 in
theorem pfree_any (w0 w : World) (G : GB) (n : Nat) (g : Pag.PG) (h : PagAt w0 w G n g) (hu : g.now.used.length = g.pages + 1) (k : Int) (h1 : -9223372036854775808 ≤ k) (h2 : k ≤ 9223372036854775807) :
    Calls Tryz.prog 49 #[.pointer (some ⟨G.gp, 0, none⟩), .int .i64 k] w (RetPg w0 w G n (g.free k).1 (g.free k).2) := by
  have HH := Lib.hid (phas_any w0 w G n g h hu k h1 h2)
  have HB := Lib.hid (pbroken_any w0 w G n g h)
  have H0 := Lib.hid h
  cases hb : g.broken with
  | true =>
    have HR : Hid (g.free k = (g, 3)) := by show _ = _; unfold Pag.PG.free; cases g.tx <;> simp [hb]
    rw [hb] at HB
    clear h hb
    go_enter Tryz.func49, Tryz.ntmps49
    go_wp2_with fail
    refine HB.out.mono ?_
    rintro e w1 ⟨rfl, rfl⟩
    go_wp2_with fail
    go_ret
    rw [HR.out]
    exact ⟨G, rfl, rfl, rfl, H0.out, fun i hi => .inl hi, Keeps.refl _ _⟩
  | false =>
  rw [hb] at HB
  rcases h.split with ⟨hT, hg⟩ | ⟨T, t, hT, hg, ht, m1, m2, m3⟩
  · have HR : Hid (g.free k = (g, 3)) := by show _ = _; unfold Pag.PG.free; rw [hg]; first | done | simp
    have hc := h.cellsN hT
    clear h hb hT hg
    go_enter Tryz.func49, Tryz.ntmps49
    go_wp2_with fail
    refine HB.out.mono ?_
    rintro e w1 ⟨rfl, rfl⟩
    go_wp2_with fail
    go_ret
    rw [HR.out]
    exact ⟨G, rfl, rfl, rfl, H0.out, fun i hi => .inl hi, Keeps.refl _ _⟩
  have hc := h.cellsS hT
  have HT := Lib.hid hT
  have HG := Lib.hid hg
  have HTA := Lib.hid ht
  by_cases hz : g.has k = 0
  · obtain ⟨-, k1, k2⟩ := has_zero hz
    obtain ⟨j, rfl⟩ : ∃ j : Nat, k = (j : Int) := ⟨k.toNat, by omega⟩
    have HR : Hid (g.free (j : Int) = ({ g with tx := some ⟨{ t.m with used := t.m.used.set j false }, Pag.del t.pages j, true⟩ }, 0)) := by
      show _ = _
      unfold Pag.PG.free
      rw [hg]
      simp [hb, hz]
    have hju : j < t.m.used.length := by
      have : g.now = t.m := by unfold Pag.PG.now; rw [hg]
      rw [this] at hu
      omega
    have HJU := Lib.hid hju
    have HKB : Hid (j < 9223372036854775808) := by show j < _; have := h.rest.pages; omega
    have hct := ht.blk.c4
    rw [hz] at HH
    clear h hb hT hg ht m1 m2 m3 hz k1 k2 hu
    go_enter Tryz.func49, Tryz.ntmps49
    go_wp2_with fail
    refine HB.out.mono ?_
    rintro e w1 ⟨rfl, rfl⟩
    go_wp2_with fail
    refine HH.out.mono ?_
    rintro e w1 ⟨rfl, hb1⟩
    have h1 := H0.out.below hb1
    replace hc := h1.cellsS HT.out
    have hta := h1.txAt HT.out HG.out
    obtain ⟨ab, ha, hcell, hfree, hab, htab⟩ := bl_own hta.used hju
    have hfg := hta.blk.free 3
    have hne : T.gt ≠ ab := fun e => by have := hta.blk.tag; rw [e, htab] at this; revert this; decide
    have hlt := hta.blk.lt
    replace hct := hta.blk.c4
    rw [ha] at hct
    have HA := Lib.hid ha
    have H1 := Lib.hid (And.intro h1 hb1)
    have hlen : (j : Int) < (t.m.used.length : Int) := by omega
    clear h1 hb1 hta ha HH
    go_upto_region 6 with fail
    refine wp_region_plan (.take 0 (.take 1 (.take 2 (.take 3 (.take 4 (.take 5 (.take 6 (.take 7 (.take 8 (.take 9 (.take 10 (.take 11 (.take 12 (.take 13 (.run 14 [] (.take 15 (.take 16 (.run 17 [] .fin)))))))))))))))))) (by kernel_rfl) (by kernel_rfl) (by kernel_rfl) (by kernel_rfl) ?_
    repeat' (first | (refine hZ _ _ ?_; clear hZ) | (refine hZ _ ?_; clear hZ) | (refine hZ ?_; clear hZ) | rw [again_nil] | rw [walk_fin] | ((first | rw [walk_take] | rw [walk_run] | rw [again_cons]); intro Z hZ; simp only [sel, List.getElem?_toArray, List.getElem?_cons_zero, List.getElem?_cons_succ]; go_wp2_with (fail)))
    have h2 := (((H1.out.1.flag HT.out HG.out HA.out HJU.out false).txBlk rfl rfl 3 (.bool true) (T' := T) (t' := ⟨{ t.m with used := t.m.used.set j false }, t.pages, true⟩) rfl rfl rfl rfl rfl rfl rfl rfl ((H1.out.1.flag HT.out HG.out HA.out HJU.out false).txAt rfl rfl).root (H1.out.1.txAt HT.out HG.out).rl)).below (Below.refl _ _).drew
    have hk2 : Keeps w ((w1.setCell ⟨ab, j, none⟩ (.bool false)).setCell ⟨T.gt, 3, none⟩ (.bool true)).drew G.own := by
      refine Keeps.then (((Keeps.of_below H1.out.2).set ⟨ab, j, none⟩ (.inl ?_) _).set ⟨T.gt, 3, none⟩ (.inl ?_) _) (Below.refl _ _).drew
      · exact .inr (.inr (.inr (.inr (.inl ⟨T, HT.out, .inr (.inr ⟨_, HA.out, rfl⟩)⟩))))
      · exact .inr (.inr (.inr (.inr (.inl ⟨T, HT.out, .inl rfl⟩))))
    generalize ((w1.setCell ⟨ab, j, none⟩ (.bool false)).setCell ⟨T.gt, 3, none⟩ (.bool true)).drew = W2 at h2 hk2 ⊢
    replace hc := h2.cellsS rfl
    replace hct := (h2.txAt rfl rfl).blk.c4
    have HM := Lib.hid (h2.txAt rfl rfl).map
    have H2 := Lib.hid (And.intro h2 hk2)
    clear h2 hk2 hcell hfree hab htab hne hlt hfg hju hlen H1
    go_wp2_with (refine wpList_pg_del rfl _ _ rfl rfl HM.out.map j rfl HKB.out ?_; intro w3 hm3 hg3; have H3 := Lib.hid (And.intro hm3 hg3); clear hm3 hg3)
    go_ret
    have h3 := H2.out.1.txDel rfl rfl (HM.out.del H3.out.1 H3.out.2) H3.out.2
    rw [HR.out]
    refine ⟨{ G with tx := some { T with F := fun i => if i = j then none else T.F i } }, rfl, rfl, rfl, h3, fun i hi => ?_, H2.out.2.trans ((Keeps.of_grown H3.out.2).mono fun i hi => ?_)⟩
    · rcases G.own_withTx _ hi with hi | hi
      · exact .inl hi
      · exact .inl (.inr (.inr (.inr (.inr (.inl ⟨T, HT.out, hi⟩)))))
    · exact .inr (.inr (.inr (.inr (.inl ⟨T, HT.out, .inr (.inl hi)⟩))))
  · have HR : Hid (g.free k = (g, g.has k)) := by
      show _ = _
      unfold Pag.PG.free
      rw [hg]
      simp [hb, hz]
    have he2 := code_ne hz
    clear h hb hT hg ht m1 m2 m3 hz hu
    generalize g.has k = x at *
    go_enter Tryz.func49, Tryz.ntmps49
    go_wp2_with fail
    refine HB.out.mono ?_
    rintro e w1 ⟨rfl, rfl⟩
    go_wp2_with fail
    refine HH.out.mono ?_
    rintro e w1 ⟨rfl, hb1⟩
    have H1 := Lib.hid hb1
    clear hb1
    go_wp2_with fail
    go_ret
    rw [HR.out]
    exact ⟨G, rfl, rfl, rfl, H0.out.below H1.out, fun i hi => .inl hi, Keeps.of_below H1.out⟩
end Go.Proofs.YtcfoihihinijlaaGreat
end

section
namespace Go.Proofs.YtcfoihihinijlaaGreat
set_option linter.unusedSimpArgs false
set_option linter.unusedVariables false
open Go.RowKit Go.Maps
def shortP (o : OpP) : Bool := decide (o.root.length ≤ 100)
def fitsP (L : List OpP) : Bool := decide (L.length ≤ 60) && L.all shortP
def TellsP (w : World) (b : Bool) (e : Ending) (w' : World) : Prop := e = .returned (.bool b) ∧ Below w.heap.size w w'
def sizeV (log pages frames : Nat) : Value := .agg #[.int .i64 log, .int .i64 pages, .int .i64 frames]
set_option maxRecDepth 20000 in
set_option maxHeartbeats 2000000 in
theorem pgfits_any (w : World) (log pages frames : Nat) (h1 : 4 ≤ log) (h2 : log ≤ 16) (h3 : 1 ≤ pages) (h4 : pages ≤ 12) (h5 : 1 ≤ frames) (h6 : frames ≤ 9) (A : Option Addr) (c : Nat) (L : List OpP) (hr : ERow eOpP w A L) :
    Calls Tryz.prog 11 #[sizeV log pages frames, .slice A L.length c] w (TellsP w (fitsP L)) := by
  have e1 : ¬ (log : Int) < 4 := by omega
  have e2 : ¬ (16 : Int) < (log : Int) := by omega
  have e3 : ¬ (pages : Int) < 1 := by omega
  have e4 : ¬ (12 : Int) < (pages : Int) := by omega
  have e5 : ¬ (frames : Int) < 1 := by omega
  have e6 : ¬ (9 : Int) < (frames : Int) := by omega
  clear h1 h2 h3 h4 h5 h6
  have HR := Lib.hid hr
  clear hr
  unfold sizeV
  by_cases hl : L.length ≤ 60
  · have hl2 : ¬ (60 : Int) < (L.length : Int) := by omega
    have HF : Hid (fitsP L = L.all shortP) := by show _ = _; unfold fitsP; simp [hl]
    have HL := Lib.hid hl
    clear hl
    go_enter Tryz.func11, Tryz.ntmps11
    go_wp2_with fail
    go_loopw [42] (fun iv wr => ∃ i : Nat, i ≤ L.length ∧ iv = .int .i64 (i : Int) ∧ Hid (L.all shortP = (L.drop i).all shortP ∧ Below w.heap.size w wr)) (fun iv _ => L.length - (intOf iv).toNat)
    case atStart => exact ⟨0, by omega, by go_num, by simp, (Below.refl _ _).alloc (Nat.le_refl _) _⟩
    case round =>
      obtain ⟨i, hi, rfl, HS⟩ := hrel
      by_cases hlt : i < L.length
      · obtain ⟨b, o, rfl, hb, hcc⟩ := opp_at (HR.out.below HS.out.2) hlt
        have hlti : (i : Int) < (L.length : Int) := by omega
        have hz := HS.out.2.size
        have HD : Hid ((L.drop i).all shortP = (shortP L[i] && (L.drop (i + 1)).all shortP)) := by
          show _ = _
          rw [List.drop_eq_getElem_cons hlt, List.all_cons]
        generalize L[i] = q at hcc HD
        by_cases h6 : 100 < q.root.length
        · have h6i : (100 : Int) < (q.root.length : Int) := by omega
          have HDE : Hid (shortP q = false) := by show _ = _; unfold shortP; rw [decide_eq_false (by omega)]
          go_wp2_with fail
          go_ret
          rw [HF.out, HS.out.1, HD.out, HDE.out]
          exact ⟨by simp, HS.out.2.alloc hz _⟩
        · have h6i : ¬ (100 : Int) < (q.root.length : Int) := by omega
          have HDE : Hid (shortP q = true) := by show _ = _; unfold shortP; rw [decide_eq_true (by omega)]
          clear h6
          have hl60 := HL.out
          go_wp2_with fail
          go_roundw
          case rel => exact ⟨i + 1, by omega, by go_num, by rw [HS.out.1, HD.out, HDE.out]; simp, HS.out.2.alloc hz _⟩
          case measure => simp [intOf]; omega
      · have hlti : ¬ (i : Int) < (L.length : Int) := by omega
        have HD : Hid ((L.drop i).all shortP = true) := by show _ = _; rw [List.drop_eq_nil_of_le (by omega)]; rfl
        go_wp2_with fail
        go_ret
        rw [HF.out, HS.out.1, HD.out]
        exact ⟨rfl, HS.out.2⟩
  · have hl2 : (60 : Int) < (L.length : Int) := by omega
    have HF : Hid (fitsP L = false) := by show _ = _; unfold fitsP; simp [hl]
    clear hl
    go_enter Tryz.func11, Tryz.ntmps11
    go_wp2_with fail
    go_ret
    rw [HF.out]
    exact ⟨rfl, (Below.refl _ _).alloc (Nat.le_refl _) _⟩
def bothC (log pages frames : Nat) (gd gp : Nat) (most : Int) : List Value :=
  [.int .i64 (log : Nat), .int .i64 (pages : Nat), .int .i64 (frames : Nat), .pointer (some ⟨gd, 0, none⟩), .pointer (some ⟨gp, 0, none⟩), .int .i64 (pages : Nat), .int .i64 most, .slice none 0 0, .string ByteArray.empty, .slice none 0 0, .string ByteArray.empty, .bool false, .slice none 0 0, .bool false, .slice none 0 0, .string ByteArray.empty]
theorem DL.new2 {w0 w : World} (m : Nat) (h0 : 0 < m) (hm : m ≤ 4096) (hb : Below w0.heap.size w0 w) :
    Calls Tryz.prog 44 #[.int .i64 m] w fun e w' => ∃ k, e = .returned (.tuple #[.pointer (some ⟨k.gd, 0, none⟩), .int .i64 0]) ∧ DL w0 w' k (DS.new m) 0 ∧ (∀ i, k.own i → w.heap.size ≤ i) ∧ Below w.heap.size w w' := by
  refine (dnew_any w m h0 hm).mono fun e w' ⟨k, he, hD, hB⟩ => ⟨k, he, ⟨?_, dgood_new m h0 hm, Nat.le_refl _, Nat.le_refl _, hb.trans (hB.mono hb.size)⟩, fun i hi => ?_, hB⟩
  · obtain ⟨⟨cb, np, cp, nf, cf, Ap, Af, h1, h2, h3, h4, h5, h6, h7, h8, h9, h10⟩, lo⟩ := hD
    exact ⟨⟨cb, np, cp, nf, cf, Ap, Af, h1, h2, h3, h4, h5, h6, h7.mono hb.size, h8.mono hb.size, h9.mono hb.size, h10⟩, Nat.le_trans hb.size lo⟩
  · rcases hi with rfl | rfl
    · exact hD.lo
    · exact hD.head.2.2.2
end Go.Proofs.YtcfoihihinijlaaGreat
end

section
namespace Go.Proofs.YtcfoihihinijlaaGreat
set_option linter.unusedSimpArgs false
set_option linter.unusedVariables false
open Go.RowKit Go.Maps
theorem mod_word6 (x : Int) (c m : Int) (hm : 0 < m) (hm2 : m ≤ 1000) (hc0 : 0 ≤ c) (hc : c ≤ 1000) : ∃ l : Nat, c ≤ l ∧ (l : Int) < c + m ∧ wrap64 (c + wrap64 ((IntKind.u64.wrap x).tmod m)) = (l : Int) ∧ (l : Int) = c + (IntKind.u64.wrap x).tmod m := by
  have h0 : 0 ≤ IntKind.u64.wrap x := by simp [IntKind.wrap, IntKind.signed, IntKind.bits]; omega
  rw [Int.tmod_eq_emod_of_nonneg h0]
  have h1 := Int.emod_nonneg (IntKind.u64.wrap x) (by omega : m ≠ 0)
  have h2 := Int.emod_lt_of_pos (IntKind.u64.wrap x) hm
  generalize IntKind.u64.wrap x % m = r at *
  refine ⟨(c + r).toNat, by omega, by omega, ?_, by omega⟩
  have e1 : wrap64 r = r := by unfold wrap64; omega
  have e2 : wrap64 (c + r) = c + r := by unfold wrap64; omega
  rw [e1, e2]
  omega
namespace Pag
end Pag
theorem own_chain {G G1 G2 : GB} {w w1 : World} (h1 : ∀ i, G1.own i → G.own i ∨ w.heap.size ≤ i) (hs : w.heap.size ≤ w1.heap.size) (h2 : ∀ i, G2.own i → G1.own i ∨ w1.heap.size ≤ i) : ∀ i, G2.own i → G.own i ∨ w.heap.size ≤ i := fun i hi => by
  rcases h2 i hi with h | h
  · exact h1 i h
  · exact .inr (Nat.le_trans hs h)
theorem keeps_chain {w w1 w2 : World} {G G1 : GB} (hk : Keeps w w1 G.own) (h1 : ∀ i, G1.own i → G.own i ∨ w.heap.size ≤ i) (hk2 : Keeps w1 w2 G1.own) : Keeps w w2 G.own :=
  ⟨hk2.os.trans hk.os, hk2.tape.trans hk.tape, hk2.output.trans hk.output, Nat.le_trans hk.size hk2.size, fun i hi hs => (hk2.block i (Nat.lt_of_lt_of_le hi hk.size) (fun h => by
    rcases h1 i h with h | h
    · exact hs h
    · omega)).trans (hk.block i hi hs)⟩
end Go.Proofs.YtcfoihihinijlaaGreat
end

section
namespace Go.Proofs.YtcfoihihinijlaaGreat
set_option linter.unusedSimpArgs false
set_option linter.unusedVariables false
open Go.RowKit
abbrev PgE := Int × List UInt8
def ePgE : Elem PgE where
  e := 132
  t := 34
  sz := 2
  bytes := 24
  zero := .agg #[.int .i64 0, .string ByteArray.empty]
  code := fun o => [.int .i64 o.1, txt o.2]
  pos := by decide
  few := by decide
  len := fun _ => rfl
  one := by
    intro x u hu
    simp at hu
    rcases hu with rfl | rfl <;> rfl
  zsz := rfl
  info := by kernel_rfl
  under := Tryz.underlying34
end Go.Proofs.YtcfoihihinijlaaGreat
end

section
namespace Go.Proofs.YtcfoihihinijlaaGreat
set_option linter.unusedSimpArgs false
set_option linter.unusedVariables false
open Go.RowKit Go.Maps
namespace Pag
def PG.cont (g : PG) (C : Nat → List UInt8) (n : Nat) : List UInt8 := (g.tx.bind fun t => t.pages n).getD (C n)
def PG.lst (g : PG) (C : Nat → List UInt8) : List PgE := g.used.map fun n : Nat => ((n : Int), g.cont C n)
theorem used_has {g : PG} {n : Nat} (h : n ∈ g.used) (h0 : g.now.used.getD 0 false = false) : g.has (n : Int) = 0 ∧ n ≤ g.pages := by
  unfold PG.used at h
  split at h
  · cases h
  · next hb =>
    obtain ⟨h1, h2⟩ := List.mem_filter.1 h
    have h3 := List.mem_range.1 h1
    refine ⟨?_, by omega⟩
    unfold PG.has
    rw [if_neg hb, if_neg]
    rw [not_or, not_or]
    refine ⟨fun h4 => ?_, by omega, by rw [Int.toNat_natCast, h2]; simp⟩
    have : n = 0 := by omega
    rw [this, h0] at h2
    cases h2
structure U0 (g : PG) : Prop where
  sure : g.sure.used.getD 0 false = false
  tx : ∀ t, g.tx = some t → t.m.used.getD 0 false = false
section
variable {g : PG}
theorem U0.now (h : U0 g) : g.now.used.getD 0 false = false := by
  unfold PG.now
  cases e : g.tx with
  | none => exact h.sure
  | some t => exact h.tx t e
theorem U0.noTx (h : U0 g) {g' : PG} (e1 : g'.sure = g.sure) (e2 : g'.tx = none) : U0 g' := ⟨by rw [e1]; exact h.sure, fun t ht => by rw [e2] at ht; cases ht⟩
theorem U0.same (h : U0 g) {g' : PG} (e1 : g'.sure = g.sure) (e2 : g'.tx = g.tx) : U0 g' := ⟨by rw [e1]; exact h.sure, fun t ht => h.tx t (by rw [← e2]; exact ht)⟩
theorem U0.set (h : U0 g) {t : TX} (ht : t.m.used.getD 0 false = false) : U0 { g with tx := some t } := ⟨h.sure, fun t' e => by cases e; exact ht⟩
theorem U0.begin (h : U0 g) : U0 g.begin.1 := by
  unfold PG.begin
  split
  · exact h
  · exact h.set h.sure
theorem freeF_ge (u : List Bool) : ∀ (k n m : Nat), freeF u n k = some m → n ≤ m
  | 0, n, m, h => by cases h
  | k + 1, n, m, h => by
    unfold freeF at h
    split at h
    · cases h; exact Nat.le_refl _
    · exact Nat.le_trans (Nat.le_succ n) (freeF_ge u k (n + 1) m h)
theorem set_zero {u : List Bool} {n : Nat} (hn : 1 ≤ n) (b : Bool) : (u.set n b).getD 0 false = u.getD 0 false := by
  rw [List.getD_eq_getElem?_getD, List.getElem?_set_ne (by omega), ← List.getD_eq_getElem?_getD]
theorem U0.alloc (h : U0 g) : U0 g.alloc.1 := by
  unfold PG.alloc
  cases ht : g.tx with
  | none => exact h
  | some t =>
    dsimp only
    split
    · exact h
    · split
      · exact h
      · next n hn =>
        refine h.set ?_
        show (t.m.used.set n true).getD 0 false = false
        rw [set_zero (freeF_ge _ _ _ _ hn)]
        exact h.tx t ht
theorem U0.put (h : U0 g) (n : Int) (b : List UInt8) : U0 (g.put n b).1 := by
  unfold PG.put
  cases ht : g.tx with
  | none => exact h
  | some t =>
    dsimp only
    split
    · exact h
    · split
      · exact h
      · split
        · exact h
        · exact h.set (h.tx t ht)
theorem U0.free (h : U0 g) (n : Int) : U0 (g.free n).1 := by
  unfold PG.free
  cases ht : g.tx with
  | none => exact h
  | some t =>
    dsimp only
    split
    · exact h
    · split
      · exact h
      · next hh =>
        have h1 : 1 ≤ n := by
          have h0 : g.has n = 0 := by simpa using hh
          unfold PG.has at h0
          split at h0
          · cases h0
          · split at h0
            · cases h0
            · next hn => omega
        refine h.set ?_
        show (t.m.used.set n.toNat false).getD 0 false = false
        rw [set_zero (by omega)]
        exact h.tx t ht
theorem U0.setRoot (h : U0 g) (b : List UInt8) : U0 (g.setRoot b).1 := by
  unfold PG.setRoot
  cases ht : g.tx with
  | none => exact h
  | some t =>
    dsimp only
    split
    · exact h
    · split
      · exact h
      · exact h.set (h.tx t ht)
theorem U0.rollback (h : U0 g) : U0 g.rollback.1 := by
  unfold PG.rollback
  split
  · exact h
  · exact h.noTx rfl rfl
theorem U0.settle (h : U0 g) : U0 g.settle.1 := by
  unfold PG.settle
  dsimp only
  split
  · exact h.noTx rfl rfl
  · split
    · exact h.noTx rfl rfl
    · split
      · exact h.noTx rfl rfl
      · exact h.same rfl rfl
theorem U0.checkpoint (h : U0 g) : U0 g.checkpoint.1 := by
  unfold PG.checkpoint
  split
  · exact h
  · exact h.settle
theorem U0.keep (h : U0 g) {t : TX} (ht : t.m.used.getD 0 false = false) (L : List Nat) : U0 (g.keep t L).1 := by
  unfold PG.keep
  dsimp only
  split
  · exact h.noTx rfl rfl
  · exact ⟨ht, fun t' e => by cases e⟩
theorem U0.commit (h : U0 g) : U0 g.commit.1 := by
  unfold PG.commit
  cases ht : g.tx with
  | none => exact h
  | some t =>
    dsimp only
    split
    · exact h
    · split
      · exact h.noTx rfl rfl
      · split
        · exact h.noTx rfl rfl
        · split
          · split
            · exact h.settle
            · exact h.settle.keep (h.tx t ht) _
          · exact h.keep (h.tx t ht) _
theorem U0.free_ (pages : Nat) : (MT.free pages).used.getD 0 false = false := by
  unfold MT.free
  rw [List.getD_eq_getElem?_getD, List.getElem?_replicate]
  split <;> rfl
end
end Pag
theorem Keeps.low {w w1 w2 : World} {S : Nat → Prop} (h : Keeps w w1 S) (hb : Below w.heap.size w1 w2) : Keeps w w2 S :=
  ⟨hb.os.trans h.os, hb.tape.trans h.tape, hb.output.trans h.output, Nat.le_trans h.size hb.size, fun i hi hs => (hb.block i hi).trans (h.block i hi hs)⟩
theorem keeps_row {α : Type} {E : Elem α} {w w' : World} {B c : Nat} {A : Option Addr} {L : List α} (ho : EOwn E w B A c L) (hg : w.grownBy w' (A.map (·.block))) : Keeps w w' (fun i => ∃ a, A = some a ∧ i = a.block) ∧ (∀ i, (∃ a, A = some a ∧ i = a.block) → tagOf w i = some E.e) ∧ ∀ i, (∃ a, A = some a ∧ i = a.block) → B ≤ i := by
  refine ⟨⟨hg.os, hg.tape, hg.output, hg.size, fun i hi hs => hg.block i hi ?_⟩, ?_, ?_⟩
  · cases A with
    | none => simp
    | some a =>
      simp only [Option.map_some, ne_eq, Option.some.injEq]
      exact fun e => hs ⟨a, rfl, e⟩
  · rintro i ⟨a, ha, rfl⟩
    exact ho.tag a ha
  · rintro i ⟨a, ha, rfl⟩
    exact (ho.block a ha).1
theorem off_row {w : World} {S : Nat → Prop} {T U : TypeId} (h : ∀ i, S i → tagOf w i = some T) (hne : T ≠ U) : Off w S U := fun i hi => by
  rw [h i hi]
  exact fun e => hne (Option.some.inj e)
theorem used_len {g : Pag.PG} : g.used.length ≤ g.pages + 1 := by
  unfold Pag.PG.used
  split
  · exact Nat.zero_le _
  · exact Nat.le_trans (List.length_filter_le _ _) (by simp)
structure StL (w0 w W : World) (G : GB) (n : Nat) (g : Pag.PG) (L : List PgE) (A : Option Addr) (c gs : Nat) (s : Value) (rt : List UInt8) (A4 : Option Addr) (c4 : Nat) (Gx : GB) (U : List Int) : Prop where
  row : EOwn ePgE W w.heap.size A c L
  blk : Blk W gs 36 [s, txt rt]
  blk2 : Blk W w.heap.size 36 [.slice none 0 0, .string ⟨#[]⟩]
  used : EOwn eInt W w.heap.size A4 c4 U
  gp : Gx.gp = G.gp
  k : Gx.k = G.k
  pag : PagAt w0 W Gx n g
  own : ∀ i, Gx.own i → G.own i ∨ w.heap.size ≤ i
  kp : Keeps w W G.own
section
variable {w0 w W W' : World} {G Gx : GB} {n : Nat} {g : Pag.PG} {L L' : List PgE} {A A' A4 : Option Addr} {c c' gs c4 : Nat} {s : Value} {rt : List UInt8} {U : List Int}
theorem StL.below (h : StL w0 w W G n g L A c gs s rt A4 c4 Gx U) (hb : Below W.heap.size W W') : StL w0 w W' G n g L A c gs s rt A4 c4 Gx U :=
  ⟨h.row.below hb, h.blk.below hb, h.blk2.below hb, h.used.below hb, h.gp, h.k, h.pag.below hb, h.own, h.kp.then hb⟩
theorem StL.app (h : StL w0 w W G n g L A c gs s rt A4 c4 Gx U) (h0 : w0.heap.size ≤ w.heap.size) (ho : EOwn ePgE W' w.heap.size A' c' L') (hb : Below w.heap.size W W') (hg : W.grownBy W' (A.map (·.block))) : StL w0 w W' G n g L' A' c' gs s rt A4 c4 Gx U := by
  obtain ⟨hk, ht, hl⟩ := keeps_row h.row hg
  exact ⟨ho, h.blk.offK hk (off_row ht (by decide)), h.blk2.offK hk (off_row ht (by decide)), h.used.offK hk (off_row (U := 3) ht (by decide)), h.gp, h.k, h.pag.offOther hk ht (by decide) (by decide) (fun i hi => Nat.le_trans h0 (hl i hi)), h.own, h.kp.low hb⟩
theorem StL.store (h : StL w0 w W G n g L A c gs s rt A4 c4 Gx U) (h0 : w0.heap.size ≤ w.heap.size) (hgs : w.heap.size < gs) (v : Value) : StL w0 w (W.setCell ⟨gs, 0, none⟩ v) G n g L A c gs v rt A4 c4 Gx U := by
  have hg := grown_store W gs 0 v
  have hk := Keeps.of_grown hg
  have ht : ∀ i, i = gs → tagOf W i = some 36 := fun i hi => by rw [hi]; exact h.blk.tag
  exact ⟨h.row.offK hk (off_row (U := 132) ht (by decide)), h.blk.set0, h.blk2.other ⟨gs, 0, none⟩ (by show w.heap.size ≠ gs; omega) _, h.used.offK hk (off_row (U := 3) ht (by decide)), h.gp, h.k, h.pag.offOther hk ht (by decide) (by decide) (fun i hi => by omega), h.own, h.kp.low ((Below.refl _ _).setCell (p := ⟨gs, 0, none⟩) (Nat.le_of_lt hgs) _)⟩
end
end Go.Proofs.YtcfoihihinijlaaGreat
end

section
namespace Go.Proofs.YtcfoihihinijlaaGreat
set_option linter.unusedSimpArgs false
set_option linter.unusedVariables false
namespace Pag
theorem read_same_d (g : PG) (n : Nat) : (g.read n).1.d = g.d := by
  unfold PG.read
  cases g.over n with
  | some b => rfl
  | none =>
    dsimp only
    cases (g.q.get n).1 with
    | some b => rfl
    | none =>
      dsimp only
      split <;> rfl
theorem page_same_d (g : PG) (n : Int) : (g.page n).1.d = g.d := by
  unfold PG.page
  split
  · rfl
  · cases (g.tx.bind fun t => t.pages n.toNat) with
    | some b => rfl
    | none => exact read_same_d g _
theorem page_d (g : PG) (D : DS) (hb : D.blocks = g.d.blocks) (hd : D.down = g.d.down) (n : Int) : ({ g with d := D } : PG).page n = ({ (g.page n).1 with d := D }, (g.page n).2.1, (g.page n).2.2) := by
  have hh : ({ g with d := D } : PG).has n = g.has n := rfl
  have h2 := read_d g D hb hd n.toNat
  unfold PG.page
  rw [hh]
  by_cases h : g.has n ≠ 0
  · rw [if_pos h, if_pos h]
  · rw [if_neg h, if_neg h]
    have e : ({ g with d := D } : PG).tx = g.tx := rfl
    rw [e]
    cases (g.tx.bind fun t => t.pages n.toNat) with
    | some b => rfl
    | none => exact h2
structure Lk (g : PG) (R : List (List UInt8)) (N : Nat) (C : Nat → List UInt8) : Prop where
  inv : Inv { g with d := { g.d with falls := [], down := false } } R N C
  up : g.d.down = false
section
variable {g : PG} {R : List (List UInt8)} {N : Nat} {C : Nat → List UInt8}
theorem Inv.lk (h : Inv g R N C) : Lk g R N C := by
  have hs := h.pg.j.still
  have e : ({ g.d with falls := [], down := false } : DS) = g.d := by
    have h1 := hs.falls
    have h2 := hs.down
    cases hd : g.d
    rw [hd] at h1 h2
    simp at h1 h2
    simp [h1, h2]
  exact ⟨by rw [e]; exact h, hs.down⟩
theorem Lk.page (h : Lk g R N C) (n : Int) : ∃ q, g.page n = ({ g with q := q }, if g.has n ≠ 0 then [] else g.cont C n.toNat, g.has n) ∧ Lk { g with q := q } R N C := by
  obtain ⟨q, e, hi⟩ := h.inv.page n
  rw [page_d g { g.d with falls := [], down := false } rfl h.up.symm n] at e
  have hd := page_same_d g n
  refine ⟨q, ?_, ⟨hi, h.up⟩⟩
  rcases hp : g.page n with ⟨p, x, c⟩
  rw [hp] at e hd
  simp only [Prod.mk.injEq] at e
  obtain ⟨e1, e2, e3⟩ := e
  have ep : p = { g with q := q } := by
    cases p
    cases g
    simp_all
  rw [ep, e2, e3]
  rfl
theorem Lk.ul (h : Lk g R N C) : g.now.used.length = g.pages + 1 := h.inv.now_ul
theorem Lk.rl (h : Lk g R N C) : g.now.root.length ≤ 64 := h.inv.now_rl
end
end Pag
end Go.Proofs.YtcfoihihinijlaaGreat
end

section
namespace Go.Proofs.YtcfoihihinijlaaGreat
set_option linter.unusedSimpArgs false
set_option linter.unusedVariables false
namespace Pag
section
variable {d : DS} {S : MT} {blocks pages N s : Nat} {C : Nat → List UInt8} {g : PG}
end
end Pag
end Go.Proofs.YtcfoihihinijlaaGreat
end

section
namespace Go.Proofs.YtcfoihihinijlaaGreat
set_option linter.unusedSimpArgs false
set_option linter.unusedVariables false
namespace Pag
section
variable {g : PG} {R : List (List UInt8)} {N : Nat} {C : Nat → List UInt8}
def TxOnly (g g' : PG) : Prop := ∃ t, g' = { g with tx := t } ∧ (g.tx.isSome = true → t.isSome = true)
theorem TxOnly.refl (g : PG) : TxOnly g g := ⟨g.tx, rfl, fun h => h⟩
theorem TxOnly.trans {g g1 g2 : PG} (h : TxOnly g g1) (h2 : TxOnly g1 g2) : TxOnly g g2 := by
  obtain ⟨t, rfl, k⟩ := h
  obtain ⟨t', rfl, k'⟩ := h2
  exact ⟨t', rfl, fun h => k' (k h)⟩
theorem txOnly_begin (g : PG) : TxOnly g g.begin.1 := by
  unfold PG.begin
  split
  · exact TxOnly.refl g
  · exact ⟨_, rfl, fun _ => rfl⟩
theorem txOnly_alloc (g : PG) : TxOnly g g.alloc.1 := by
  unfold PG.alloc
  cases ht : g.tx with
  | none => exact TxOnly.refl g
  | some t =>
    dsimp only
    split
    · exact TxOnly.refl g
    · split
      · exact TxOnly.refl g
      · exact ⟨_, rfl, fun _ => rfl⟩
theorem txOnly_put (g : PG) (n : Int) (b : List UInt8) : TxOnly g (g.put n b).1 := by
  unfold PG.put
  cases ht : g.tx with
  | none => exact TxOnly.refl g
  | some t =>
    dsimp only
    split
    · exact TxOnly.refl g
    · split
      · exact TxOnly.refl g
      · split
        · exact TxOnly.refl g
        · exact ⟨_, rfl, fun _ => rfl⟩
theorem txOnly_free (g : PG) (n : Int) : TxOnly g (g.free n).1 := by
  unfold PG.free
  cases ht : g.tx with
  | none => exact TxOnly.refl g
  | some t =>
    dsimp only
    split
    · exact TxOnly.refl g
    · split
      · exact TxOnly.refl g
      · exact ⟨_, rfl, fun _ => rfl⟩
theorem txOnly_setRoot (g : PG) (b : List UInt8) : TxOnly g (g.setRoot b).1 := by
  unfold PG.setRoot
  cases ht : g.tx with
  | none => exact TxOnly.refl g
  | some t =>
    dsimp only
    split
    · exact TxOnly.refl g
    · split
      · exact TxOnly.refl g
      · exact ⟨_, rfl, fun _ => rfl⟩
end
end Pag
end Go.Proofs.YtcfoihihinijlaaGreat
end

section
namespace Go.Proofs.YtcfoihihinijlaaGreat
set_option linter.unusedSimpArgs false
set_option linter.unusedVariables false
open Go.RowKit Go.Maps Go.WideShapes Go.ChangeShapes
theorem int_at {w : World} {A : Option Addr} {L : List Int} (h : ERow eInt w A L) {i : Nat} (hi : i < L.length) : ∃ b o, A = some ⟨b, o, none⟩ ∧ b < w.heap.size ∧ w.cell? ⟨b, o + i, none⟩ = some (.int .i64 L[i]) := by
  obtain ⟨b, o, e, hb, hc⟩ := h.at_ hi
  have := hc 0 _ rfl
  simp only [eInt, Nat.mul_one, Nat.add_zero] at this
  exact ⟨b, o, e, hb, this⟩
end Go.Proofs.YtcfoihihinijlaaGreat
end

section
namespace Go.Proofs.YtcfoihihinijlaaGreat
set_option linter.unusedSimpArgs false
set_option linter.unusedVariables false
open Go.RowKit Go.Maps
namespace Pag
abbrev Sta := List PgE × List UInt8
def atI : List PgE → Int → Nat
  | [], _ => 0
  | p :: L, n => if p.1 < n then atI L n + 1 else 0
def atB (L : List PgE) (n : Int) : Bool := match L[atI L n]? with
  | some p => p.1 == n
  | none => false
theorem atI_le : ∀ (L : List PgE) (n : Int), atI L n ≤ L.length
  | [], _ => Nat.le_refl _
  | p :: L, n => by
    unfold atI
    split
    · exact Nat.succ_le_succ (atI_le L n)
    · exact Nat.zero_le _
theorem atI_step (L : List PgE) (n : Int) : ∀ i, i ≤ atI L n → (∃ p, L[i]? = some p ∧ p.1 < n ∧ i + 1 ≤ atI L n) ∨ (i = atI L n ∧ ∀ p, L[i]? = some p → ¬ p.1 < n) := by
  induction L with
  | nil => exact fun i hi => .inr ⟨by unfold atI at hi ⊢; omega, fun p hp => by simp at hp⟩
  | cons q L ih =>
    intro i hi
    unfold atI at hi ⊢
    by_cases hq : q.1 < n
    · rw [if_pos hq] at hi ⊢
      cases i with
      | zero => exact .inl ⟨q, rfl, hq, by omega⟩
      | succ i =>
        rcases ih i (by omega) with ⟨p, h1, h2, h3⟩ | ⟨h1, h2⟩
        · exact .inl ⟨p, h1, h2, by omega⟩
        · exact .inr ⟨by omega, h2⟩
    · rw [if_neg hq] at hi ⊢
      obtain rfl : i = 0 := by omega
      exact .inr ⟨rfl, fun p hp => by cases hp; exact hq⟩
theorem atB_lt {L : List PgE} {n : Int} (h : atB L n = true) : atI L n < L.length := by
  unfold atB at h
  split at h
  · next p hp => exact (List.getElem?_eq_some_iff.1 hp).1
  · cases h
def restL (L : List PgE) (n : Int) : List PgE := if atB L n = true then L.drop (atI L n + 1) else L.drop (atI L n)
def layL (L : List PgE) (n : Int) (b : List UInt8) : List PgE := L.take (atI L n) ++ [(n, b)] ++ restL L n
def withoutL (l : List Int) (n : Int) : List Int := l.filter fun x => x != n
def putL (l : List Int) (n : Int) : List Int := withoutL l n ++ [n]
theorem layL_length (L : List PgE) (n : Int) (b : List UInt8) : (layL L n b).length ≤ L.length + 1 := by
  have := atI_le L n
  unfold layL restL
  rw [List.length_append, List.length_append, List.length_take]
  split
  · rw [List.length_drop]; simp; omega
  · rw [List.length_drop]; simp; omega
theorem withoutL_length (l : List Int) (n : Int) : (withoutL l n).length ≤ l.length := List.length_filter_le _ _
theorem putL_length (l : List Int) (n : Int) : (putL l n).length ≤ l.length + 1 := by
  unfold putL
  rw [List.length_append]
  have := withoutL_length l n
  simp
  omega
structure Sto where
  pages : Int
  most : Int
  sure : Sta
  now : Sta
  in_ : Bool
  put : List Int
  own : Bool
namespace Sto
def begin (s : Sto) : Sto × Int := if s.in_ = true then (s, 3) else ({ s with in_ := true, now := s.sure, put := [], own := false }, 0)
def read (s : Sto) (n : Int) : List UInt8 × Int := match s.now.1[atI s.now.1 n]? with
  | some p => if p.1 = n then (p.2, 0) else ([], 2)
  | none => ([], 2)
def puts (s : Sto) (n : Int) (b : List UInt8) : Sto × Int :=
  if s.in_ = false then (s, 3) else if atB s.now.1 n = false then (s, 2) else if b.length ≠ 512 then (s, 1)
  else ({ s with now := (layL s.now.1 n b, s.now.2), put := putL s.put n }, 0)
def freeN (L : List PgE) (n : Int) : Nat → Option Int
  | 0 => none
  | k + 1 => if atB L n = false then some n else freeN L (n + 1) k
def alloc (s : Sto) : Sto × Int × Int :=
  if s.in_ = false then (s, 0, 3) else match freeN s.now.1 1 s.pages.toNat with
    | some n => ({ s with now := (layL s.now.1 n (List.replicate 512 0), s.now.2), put := putL s.put n, own := true }, n, 0)
    | none => (s, 0, 5)
def free (s : Sto) (n : Int) : Sto × Int :=
  if s.in_ = false then (s, 3) else if atB s.now.1 n = false then (s, 2)
  else ({ s with now := (s.now.1.take (atI s.now.1 n) ++ s.now.1.drop (atI s.now.1 n + 1), s.now.2), put := withoutL s.put n, own := true }, 0)
def setRoot (s : Sto) (b : List UInt8) : Sto × Int :=
  if s.in_ = false then (s, 3) else if 64 < b.length then (s, 4) else ({ s with now := (s.now.1, b), own := true }, 0)
def commit (s : Sto) : Sto × Int :=
  if s.in_ = false then (s, 3) else
  if s.most < (if s.own = true then (s.put.length : Int) + 1 else (s.put.length : Int)) then ({ s with in_ := false, now := s.sure }, 40)
  else ({ s with in_ := false, sure := s.now }, 0)
def rollback (s : Sto) : Sto × Int := if s.in_ = false then (s, 3) else ({ s with in_ := false, now := s.sure }, 0)
end Sto
end Pag
structure SA where
  a1 : Option Addr
  c1 : Nat
  a2 : Option Addr
  c2 : Nat
  a3 : Option Addr
  c3 : Nat
def stoC (s : Pag.Sto) (a : SA) : List Value :=
  [.int .i64 s.pages, .int .i64 s.most, .slice a.a1 s.sure.1.length a.c1, txt s.sure.2, .slice a.a2 s.now.1.length a.c2, txt s.now.2, .bool s.in_, .slice a.a3 s.put.length a.c3, .bool s.own]
def stoV (s : Pag.Sto) (a : SA) : Value := .agg #[.int .i64 s.pages, .int .i64 s.most, .slice a.a1 s.sure.1.length a.c1, txt s.sure.2, .slice a.a2 s.now.1.length a.c2, txt s.now.2, .bool s.in_, .slice a.a3 s.put.length a.c3, .bool s.own]
structure StoR (w : World) (s : Pag.Sto) (a : SA) : Prop where
  sure : EOwn ePgE w 0 a.a1 a.c1 s.sure.1
  now : EOwn ePgE w 0 a.a2 a.c2 s.now.1
  put : EOwn eInt w 0 a.a3 a.c3 s.put
theorem StoR.below {w w' : World} {s : Pag.Sto} {a : SA} (h : StoR w s a) (hb : Below w.heap.size w w') : StoR w' s a := ⟨h.sure.below hb, h.now.below hb, h.put.below hb⟩
def RetSto (w : World) (s : Pag.Sto) (c : Int) (e : Ending) (w' : World) : Prop := ∃ a, e = .returned (.tuple #[stoV s a, .int .i64 c]) ∧ StoR w' s a ∧ Below w.heap.size w w'
theorem Blk.c9 {w : World} {g : Nat} {t : TypeId} {a b c d e f x y z : Value} (h : Blk w g t [a, b, c, d, e, f, x, y, z]) :
    (w.cell? ⟨g, 0, none⟩ = some a ∧ w.cell? ⟨g, 1, none⟩ = some b ∧ w.cell? ⟨g, 2, none⟩ = some c ∧ w.cell? ⟨g, 3, none⟩ = some d ∧ w.cell? ⟨g, 4, none⟩ = some e ∧ w.cell? ⟨g, 5, none⟩ = some f ∧ w.cell? ⟨g, 6, none⟩ = some x ∧ w.cell? ⟨g, 7, none⟩ = some y ∧ w.cell? ⟨g, 8, none⟩ = some z) ∧
    (w.frozen? ⟨g, 0, none⟩ = false ∧ w.frozen? ⟨g, 1, none⟩ = false ∧ w.frozen? ⟨g, 2, none⟩ = false ∧ w.frozen? ⟨g, 3, none⟩ = false ∧ w.frozen? ⟨g, 4, none⟩ = false ∧ w.frozen? ⟨g, 5, none⟩ = false ∧ w.frozen? ⟨g, 6, none⟩ = false ∧ w.frozen? ⟨g, 7, none⟩ = false ∧ w.frozen? ⟨g, 8, none⟩ = false) ∧ g < w.heap.size :=
  ⟨⟨h.cell 0, h.cell 1, h.cell 2, h.cell 3, h.cell 4, h.cell 5, h.cell 6, h.cell 7, h.cell 8⟩, ⟨h.free 0, h.free 1, h.free 2, h.free 3, h.free 4, h.free 5, h.free 6, h.free 7, h.free 8⟩, h.lt⟩
theorem sto_mem {w : World} {g : Nat} {T0 : TypeId} {s : Pag.Sto} {a : SA} (hb : Blk w g T0 (stoC s a)) : (loadVar 39 ⟨g, 0, none⟩).run Tryz.prog w = .ok (stoV s a) w := by
  obtain ⟨⟨h0, h1, h2, h3, h4, h5, h6, h7, h8⟩, -, -⟩ := Blk.c9 hb
  unfold stoV
  go_simp
theorem sta_mem {w : World} {g : Nat} {T0 : TypeId} {x y : Value} (hb : Blk w g T0 [x, y]) : (loadVar 36 ⟨g, 0, none⟩).run Tryz.prog w = .ok (.agg #[x, y]) w := by
  have h0 := hb.cell 0
  have h1 := hb.cell 1
  simp only [List.getElem?_cons_zero, List.getElem?_cons_succ] at h0 h1
  go_simp
end Go.Proofs.YtcfoihihinijlaaGreat
end

section
namespace Go.Proofs.YtcfoihihinijlaaGreat
set_option linter.unusedSimpArgs false
set_option linter.unusedVariables false
open Go.RowKit Go.Maps
theorem pge_at {w : World} {A : Option Addr} {L : List PgE} (h : ERow ePgE w A L) {i : Nat} (hi : i < L.length) : ∃ b o, A = some ⟨b, o, none⟩ ∧ b < w.heap.size ∧ w.cell? ⟨b, o + i * 2, none⟩ = some (.int .i64 L[i].1) ∧ w.cell? ⟨b, o + i * 2 + 1, none⟩ = some (txt L[i].2) := by
  obtain ⟨b, o, e, hb, hc⟩ := h.at_ hi
  exact ⟨b, o, e, hb, hc 0 _ rfl, hc 1 _ rfl⟩
theorem EOwn.max {α : Type} {E : Elem α} {w : World} {B c : Nat} {A : Option Addr} {L : List α} (h : EOwn E w B A c L) : L.length ≤ maxLen := Nat.le_trans h.cap h.capMax
def RetAt (w : World) (L : List PgE) (n : Int) (e : Ending) (w' : World) : Prop := e = .returned (.tuple #[.int .i64 (Pag.atI L n : Nat), .bool (Pag.atB L n)]) ∧ Below w.heap.size w w'
set_option maxRecDepth 20000 in
set_option maxHeartbeats 2000000 in
theorem rat_any (w : World) (A : Option Addr) (c : Nat) (L : List PgE) (rt : List UInt8) (n : Int) (hr : EOwn ePgE w 0 A c L) :
    Calls Tryz.prog 121 #[.agg #[.slice A L.length c, txt rt], .int .i64 n] w (RetAt w L n) := by
  have hmax : L.length ≤ 9223372036854775807 := Nat.le_trans hr.max (by simp [maxLen])
  have HR := Lib.hid hr
  clear hr
  go_enter Tryz.func121, Tryz.ntmps121
  go_upto_region 1 with fail
  generalize hW1 : World.alloc w (.cells _ _) = W1
  obtain ⟨ba1, hz1, hB1⟩ := fresh1 hW1
  clear hW1
  have hbl : Blk W1 w.heap.size 36 [.slice A L.length c, txt rt] := ba1
  have hc1 := hbl.c2
  have H1 := Lib.hid (And.intro (HR.out.row.below hB1) hB1)
  clear ba1 hz1 hB1 hbl HR
  go_wp2_with fail
  go_loopw [6] (fun iv wr => ∃ i : Nat, i ≤ Pag.atI L n ∧ iv = .int .i64 (i : Int) ∧ wr = W1) (fun iv _ => L.length - (intOf iv).toNat)
  case atStart => exact ⟨0, Nat.zero_le _, by go_num, by trivial⟩
  case round =>
    obtain ⟨i, hi, rfl, rfl⟩ := hrel
    rcases Pag.atI_step L n i hi with ⟨p, h1, h2, h3⟩ | ⟨rfl, h2⟩
    · obtain ⟨hlt, hp⟩ := List.getElem?_eq_some_iff.1 h1
      obtain ⟨b, o, rfl, hb, hc, -⟩ := pge_at H1.out.1 hlt
      rw [hp] at hc
      have hlti : (i : Int) < (L.length : Int) := by omega
      have H3 := Lib.hid (And.intro h3 hlt)
      clear h1 h3 hp
      go_wp2_with fail
      go_roundw
      case rel => exact ⟨i + 1, H3.out.1, by go_num, by trivial⟩
      case measure => have := H3.out.2; simp [intOf]; omega
    · have hle := Pag.atI_le L n
      have HE : Hid (∀ b, b = Pag.atB L n → RetAt w L n (.returned (.tuple #[.int .i64 (Pag.atI L n : Nat), .bool b])) wr.drew) := fun b hb => by rw [hb]; exact ⟨rfl, H1.out.2.then (Below.refl _ _).drew⟩
      by_cases hlt : Pag.atI L n < L.length
      · obtain ⟨b, o, rfl, hb, hc, -⟩ := pge_at H1.out.1 hlt
        have h3 := h2 _ (List.getElem?_eq_getElem hlt)
        have hq : Pag.atB L n = (L[Pag.atI L n].1 == n) := by unfold Pag.atB; rw [List.getElem?_eq_getElem hlt]
        have HQ := Lib.hid hq
        obtain ⟨k, hk⟩ : ∃ k, L[Pag.atI L n].1 = k := ⟨_, rfl⟩
        rw [hk] at hc h3 hq
        have HX : Hid ((k == n) = Pag.atB L n) := hq.symm
        obtain ⟨i, hi⟩ : ∃ i, Pag.atI L n = i := ⟨_, rfl⟩
        rw [hi] at hc hlt HE ⊢
        have hlti : (i : Int) < (L.length : Int) := by omega
        clear h2 hk hi hq HQ hle
        go_wp2_with fail
        refine wp_region_plan (.take 0 (.take 1 (.take 2 (.take 3 (.take 4 (.take 5 (.take 6 (.take 7 (.take 8 (.take 9 (.take 10 (.take 11 (.take 12 (.take 13 (.take 14 (.take 15 (.take 16 (.take 17 .fin)))))))))))))))))) (by kernel_rfl) (by kernel_rfl) (by kernel_rfl) (by kernel_rfl) ?_
        repeat' (first | (refine hZ _ _ ?_; clear hZ) | (refine hZ _ ?_; clear hZ) | (refine hZ ?_; clear hZ) | rw [again_nil] | rw [walk_fin] | ((first | rw [walk_take] | rw [walk_run] | rw [again_cons]); intro Z hZ; simp only [sel, List.getElem?_toArray, List.getElem?_cons_zero, List.getElem?_cons_succ]; go_wp2_with (fail)))
        go_wp2_with fail
        go_ret2
        exact HE.out _ HX.out
      · have hlti : ¬ ((Pag.atI L n : Nat) : Int) < (L.length : Int) := by omega
        have HX : Hid (false = Pag.atB L n) := by
          show _ = _
          unfold Pag.atB
          rw [List.getElem?_eq_none (by omega)]
        obtain ⟨i, hi⟩ : ∃ i, Pag.atI L n = i := ⟨_, rfl⟩
        rw [hi] at HE hlti ⊢
        clear h2 hlt hle hi
        go_wp2_with fail
        refine wp_region_plan (.take 0 (.take 1 (.take 2 (.take 3 (.take 4 (.take 5 (.take 6 (.take 7 (.take 8 (.take 9 (.take 10 (.take 11 (.take 12 (.take 13 (.take 14 (.take 15 (.take 16 (.take 17 .fin)))))))))))))))))) (by kernel_rfl) (by kernel_rfl) (by kernel_rfl) (by kernel_rfl) ?_
        repeat' (first | (refine hZ _ _ ?_; clear hZ) | (refine hZ _ ?_; clear hZ) | (refine hZ ?_; clear hZ) | rw [again_nil] | rw [walk_fin] | ((first | rw [walk_take] | rw [walk_run] | rw [again_cons]); intro Z hZ; simp only [sel, List.getElem?_toArray, List.getElem?_cons_zero, List.getElem?_cons_succ]; go_wp2_with (fail)))
        go_wp2_with fail
        go_ret2
        exact HE.out _ HX.out
def RetIs (w : World) (l : List Int) (e : Ending) (w' : World) : Prop := ∃ A c, e = .returned (.slice A l.length c) ∧ EOwn eInt w' w.heap.size A c l ∧ Below w.heap.size w w'
theorem without_succ (l : List Int) (n : Int) (i : Nat) (h : i < l.length) : Pag.withoutL (l.take (i + 1)) n = if l[i] = n then Pag.withoutL (l.take i) n else Pag.withoutL (l.take i) n ++ [l[i]] := by
  unfold Pag.withoutL
  rw [List.take_add_one, List.getElem?_eq_getElem h]
  simp only [Option.toList_some, List.filter_append]
  split
  · next e => simp [e]
  · next e => simp [e]
theorem without_le (l : List Int) (n : Int) (i : Nat) : (Pag.withoutL (l.take i) n).length ≤ i := Nat.le_trans (Pag.withoutL_length _ _) (by rw [List.length_take]; omega)
set_option maxRecDepth 20000 in
set_option maxHeartbeats 2000000 in
theorem rwithout_any (w : World) (A : Option Addr) (c : Nat) (l : List Int) (n : Int) (hr : ERow eInt w A l) (hl : l.length ≤ 1000) :
    Calls Tryz.prog 125 #[.slice A l.length c, .int .i64 n] w (RetIs w (Pag.withoutL l n)) := by
  have HR := Lib.hid hr
  have hw0 := Below.refl w.heap.size w
  have HW0 := Lib.hid hw0
  clear hr hw0
  go_enter Tryz.func125, Tryz.ntmps125
  go_wp2_with fail
  go_loopw [5, 6] (fun ov iv wr => ∃ (i : Nat) (A : Option Addr) (c : Nat), i ≤ l.length ∧ iv = .int .i64 (i : Int) ∧ ov = .slice A (Pag.withoutL (l.take i) n).length c ∧ Hid (EOwn eInt wr w.heap.size A c (Pag.withoutL (l.take i) n) ∧ Below w.heap.size w wr)) (fun _ iv _ => l.length - (intOf iv).toNat)
  case atStart => exact ⟨0, none, 0, Nat.zero_le _, by go_num, by simp [Pag.withoutL], EOwn.nil _ _, HW0.out⟩
  case round =>
    obtain ⟨i, A, cc, hi, rfl, rfl, HJ⟩ := hrel
    by_cases hlt : i < l.length
    · have hii : (i : Int) < (l.length : Int) := by omega
      obtain ⟨b, o, rfl, hb, hcell⟩ := int_at (HR.out.below HJ.out.2) hlt
      have hs := without_succ l n i hlt
      have hL := without_le l n i
      obtain ⟨k, hk⟩ : ∃ k, l[i] = k := ⟨_, rfl⟩
      rw [hk] at hcell hs
      by_cases hkn : k = n
      · subst hkn
        rw [if_pos rfl] at hs
        have HS := Lib.hid hs
        clear hs hk
        go_wp2_with fail
        go_roundw
        case rel => exact ⟨i + 1, A, cc, by omega, by go_num, by rw [HS.out], by rw [HS.out]; exact HJ.out⟩
        case measure => simp [intOf]; omega
      · rw [if_neg hkn] at hs
        have HS := Lib.hid hs
        clear hs hk
        have HE := Lib.hid HJ.out.1
        have HW := Lib.hid HJ.out.2
        clear HJ
        generalize Pag.withoutL (l.take i) n = L at *
        have hBa : Below wr.heap.size wr (wr.alloc (.cells #[.int .i64 k] 3)) := (Below.refl _ _).alloc (Nat.le_refl _) _
        have H5 := Lib.hid (And.intro (HE.out.below hBa) (And.intro (ERow.lit eInt wr k #[.int .i64 k] rfl wr.heap.size rfl) (HW.out.then hBa)))
        have hsz : w.heap.size ≤ (wr.alloc (.cells #[.int .i64 k] 3)).heap.size := H5.out.2.2.size
        clear hBa
        go_wp2_with (at_builtin; refine wpList_append_elems eInt rfl (.tmp 19) (.tmp 24) rfl _ rfl H5.out.1 rfl _ rfl H5.out.2.1 rfl (by simp; omega) hsz ?_; intro A6 c6 W6 ho6 hb6 hg6 _)
        have H6 := Lib.hid (And.intro ho6 (H5.out.2.2.trans hb6))
        clear ho6 hb6 hg6
        go_roundw
        case rel => exact ⟨i + 1, A6, c6, by omega, by go_num, by rw [HS.out]; simp, by rw [HS.out]; exact H6.out⟩
        case measure => simp [intOf]; omega
    · have hii : ¬ (i : Int) < (l.length : Int) := by omega
      obtain rfl : i = l.length := by omega
      have ht : l.take l.length = l := List.take_length
      rw [ht] at HJ ⊢
      go_wp2_with fail
      go_ret
      exact ⟨A, cc, rfl, HJ.out.1, HJ.out.2⟩
set_option maxRecDepth 20000 in
set_option maxHeartbeats 2000000 in
theorem rput_any (w : World) (A : Option Addr) (c : Nat) (l : List Int) (n : Int) (hr : ERow eInt w A l) (hl : l.length ≤ 1000) :
    Calls Tryz.prog 123 #[.slice A l.length c, .int .i64 n] w (RetIs w (Pag.putL l n)) := by
  have HW := Lib.hid (rwithout_any w A c l n hr hl)
  have hL := Pag.withoutL_length l n
  have HE : Hid (Pag.putL l n = Pag.withoutL l n ++ [n]) := rfl
  have hll := hl
  generalize Pag.withoutL l n = L at *
  clear hr
  go_enter Tryz.func123, Tryz.ntmps123
  go_wp2_with fail
  refine HW.out.mono ?_
  rintro e w1 ⟨A1, c1, rfl, ho, hb⟩
  have H1 := Lib.hid (And.intro ho hb)
  clear ho hb HW
  have hBa : Below w1.heap.size w1 (w1.alloc (.cells #[.int .i64 n] 3)) := (Below.refl _ _).alloc (Nat.le_refl _) _
  have H5 := Lib.hid (And.intro (H1.out.1.below hBa) (And.intro (ERow.lit eInt w1 n #[.int .i64 n] rfl w1.heap.size rfl) (H1.out.2.then hBa)))
  have hsz : w.heap.size ≤ (w1.alloc (.cells #[.int .i64 n] 3)).heap.size := H5.out.2.2.size
  clear hBa
  go_wp2_with (at_builtin; refine wpList_append_elems eInt rfl (.tmp 7) (.tmp 9) rfl _ rfl H5.out.1 rfl _ rfl H5.out.2.1 rfl (by simp; omega) hsz ?_; intro A6 c6 W6 ho6 hb6 hg6 _)
  go_ret
  rw [HE.out]
  exact ⟨A6, c6, by simp, ho6, H5.out.2.2.trans hb6⟩
end Go.Proofs.YtcfoihihinijlaaGreat
end

section
namespace Go.Proofs.YtcfoihihinijlaaGreat
set_option linter.unusedSimpArgs false
set_option linter.unusedVariables false
open Go.RowKit Go.Maps
def RetLk (w0 w : World) (G : GB) (n : Nat) (g : Pag.PG) (R : List (List UInt8)) (N : Nat) (C : Nat → List UInt8) (b : Bool) (e : Ending) (w' : World) : Prop :=
  ∃ G' q, e = .returned (.bool b) ∧ G'.gp = G.gp ∧ G'.k = G.k ∧ PagAt w0 w' G' n { g with q := q } ∧ Pag.Lk { g with q := q } R N C ∧ (∀ i, G'.own i → G.own i ∨ w.heap.size ≤ i) ∧ Keeps w w' G.own
theorem Pag.lst_length (g : Pag.PG) (C : Nat → List UInt8) : (g.lst C).length = g.used.length := List.length_map _
set_option maxRecDepth 20000 in
set_option maxHeartbeats 4000000 in
theorem pglike_any (w0 w : World) (G : GB) (n : Nat) (g : Pag.PG) (R : List (List UInt8)) (N : Nat) (C : Nat → List UInt8) (h : PagAt w0 w G n g) (hi : Pag.Lk g R N C) (h0 : Pag.U0 g) (hp : g.pages ≤ 16) (hn : n + 40 < 1000000)
    (A : Option Addr) (c : Nat) (L : List PgE) (rt : List UInt8) (hr : EOwn ePgE w 0 A c L) (hL : ∀ q ∈ L, i6B q.1) :
    Calls Tryz.prog 22 #[.pointer (some ⟨G.gp, 0, none⟩), .agg #[.slice A L.length c, txt rt]] w (RetLk w0 w G (n + 40) g R N C (decide (g.lst C = L ∧ g.root = rt))) := by
  have H0 := Lib.hid h
  have HI := Lib.hid hi
  have HU0 := Lib.hid h0
  have HPG := Lib.hid hp
  have HN := Lib.hid hn
  have HR := Lib.hid hr
  have HLB := Lib.hid hL
  have HLL := Lib.hid (Pag.lst_length g C)
  obtain ⟨ans, hans⟩ : ∃ ans, decide (g.lst C = L ∧ g.root = rt) = ans := ⟨_, rfl⟩
  rw [hans]
  have HANS := Lib.hid hans
  clear h hi h0 hp hn hr hL hans
  go_enter Tryz.func22, Tryz.ntmps22
  go_upto_region 1 with fail
  generalize hW1 : World.alloc w (.cells _ _) = W1
  obtain ⟨ba1, hz1, hB1⟩ := fresh1 hW1
  clear hW1
  have hbl : Blk W1 w.heap.size 36 [.slice A L.length c, txt rt] := ba1
  have H1 := Lib.hid (And.intro (H0.out.below hB1) (And.intro hbl (And.intro hB1 (HR.out.below hB1))))
  have HUS := Lib.hid (pused_any w0 W1 G n g (H0.out.below hB1) HI.out.ul)
  clear ba1 hz1 hB1 hbl H0 HR
  go_wp2_with fail
  refine HUS.out.mono ?_
  rintro e w2 ⟨A2, c2, rfl, ho2, hb2⟩
  have hlen : (g.used.map fun n : Nat => (n : Int)).length = g.used.length := List.length_map _
  have H2 := Lib.hid (And.intro (H1.out.1.below hb2) (And.intro (H1.out.2.1.below hb2) (And.intro (H1.out.2.2.1.then hb2) (And.intro (H1.out.2.2.2.below hb2) ho2))))
  have hc1 := H2.out.2.1.c2
  rw [hlen]
  clear ho2 hb2 HUS hlen H1
  have HUL : Hid (g.used.length ≤ 17) := Nat.le_trans used_len (by have := HPG.out; omega)
  by_cases hll : g.used.length = L.length
  · have HRO := Lib.hid (proot_any w0 w2.drew G n g (H2.out.1.below (Below.refl _ _).drew) HI.out.rl)
    have hl17 : L.length ≤ 17 := hll ▸ HUL.out
    have hlni : ¬ ((g.used.length : Int) ≠ (L.length : Int)) := by omega
    obtain ⟨X, hX⟩ : ∃ X, g.root = X := ⟨_, rfl⟩
    obtain ⟨t, ht⟩ : ∃ t, txt rt = .string t := ⟨_, rfl⟩
    rw [hX] at HRO
    have HX := Lib.hid hX
    have HTT := Lib.hid ht
    have hne := fun w => pg_str_ne X rt w
    have heg := fun t x y => pg_eqg t x y X rt
    obtain ⟨b, hb⟩ : ∃ b, (X == rt) = b := ⟨_, rfl⟩
    rw [hb] at hne
    have HBB := Lib.hid hb
    rw [ht] at hc1 hne heg ⊢
    rw [hll]
    clear hX ht hb
    go_upto_region 2 with fail
    refine wp_region_plan (.take 0 (.take 1 (.take 2 (.take 3 (.take 4 (.take 5 (.take 6 (.take 7 (.take 10 (.take 11 (.run 8 [10, 11] (.take 9 (.take 12 (.take 13 .fin)))))))))))))) (by kernel_rfl) (by kernel_rfl) (by kernel_rfl) (by kernel_rfl) ?_
    repeat' (first | (refine hZ _ _ ?_; clear hZ) | (refine hZ _ ?_; clear hZ) | (refine hZ ?_; clear hZ) | rw [again_nil] | rw [walk_fin] | ((first | rw [walk_take] | rw [walk_run] | rw [again_cons]); intro Z hZ; simp only [sel, List.getElem?_toArray, List.getElem?_cons_zero, List.getElem?_cons_succ]; go_wp2_with (fail)))
    refine HRO.out.mono ?_
    rintro e w3 ⟨A3, c3, rfl, ho3, hb3⟩
    have H3 := Lib.hid (And.intro (H2.out.1.below ((Below.refl _ _).drew.then hb3)) (And.intro ho3.row (And.intro (H2.out.2.2.1.then ((Below.refl _ _).drew.then hb3)) (And.intro (H2.out.2.2.2.1.below ((Below.refl _ _).drew.then hb3)) (H2.out.2.2.2.2.below ((Below.refl _ _).drew.then hb3))))))
    have hc1 := (H2.out.2.1.below ((Below.refl _ _).drew.then hb3)).c2
    rw [HTT.out] at hc1
    clear ho3 hb3 HRO
    go_wp2_with fail
    repeat' (first | (refine hZ _ _ ?_; clear hZ) | (refine hZ _ ?_; clear hZ) | (refine hZ ?_; clear hZ) | rw [again_nil] | rw [walk_fin] | ((first | rw [walk_take] | rw [walk_run] | rw [again_cons]); intro Z hZ; simp only [sel, List.getElem?_toArray, List.getElem?_cons_zero, List.getElem?_cons_succ]; go_wp2_with (first | (refine wpList_guardP (by kernel_rfl) ?_; refine wpList_str_of rfl (.tmp 20) rfl rfl rfl H3.out.2.1 ?_))))
    cases b with
    | false =>
      have HF : Hid (ans = false) := by
        show _ = _
        rw [← HANS.out]
        refine decide_eq_false fun ⟨_, e⟩ => ?_
        have h1 := HBB.out
        rw [← HX.out, e] at h1
        simp at h1
      clear hne heg hc1
      go_wp2_with fail
      go_ret
      rw [HF.out]
      exact ⟨G, g.q, rfl, rfl, rfl, H3.out.1.more (by omega), HI.out, fun i hi => .inl hi, Keeps.of_below H3.out.2.2.1⟩
    | true =>
      have HRT : Hid (g.root = rt) := by
        show _ = _
        rw [HX.out]
        exact eq_of_beq HBB.out
      clear hne heg HBB HX hlni
      have HLN := Lib.hid hll
      clear hll
      go_wp2_with fail
      go_loopw [29] (fun iv wr => ∃ i : Nat, i ≤ L.length ∧ iv = .int .i64 (i : Int) ∧ Hid ((g.lst C).take i = L.take i ∧ ∃ Gx q, PagAt w0 wr Gx (n + 2 * i) { g with q := q } ∧ Pag.Lk { g with q := q } R N C ∧ Gx.gp = G.gp ∧ Gx.k = G.k ∧ (∀ i, Gx.own i → G.own i ∨ w.heap.size ≤ i) ∧ Keeps w wr G.own ∧ EOwn ePgE wr 0 A c L ∧ EOwn eInt wr W1.heap.size A2 c2 (g.used.map fun n : Nat => (n : Int)))) (fun iv _ => L.length - (intOf iv).toNat)
      case atStart => exact ⟨0, Nat.zero_le _, by go_num, rfl, G, g.q, H3.out.1, HI.out, rfl, rfl, fun i hi => .inl hi, Keeps.of_below H3.out.2.2.1, H3.out.2.2.2.1, H3.out.2.2.2.2⟩
      case round =>
        obtain ⟨i, hi, rfl, HS⟩ := hrel
        by_cases hlt : i < L.length
        · have hlti : (i : Int) < (L.length : Int) := by omega
          obtain ⟨htk, Gx, q, hpg, hlk, e1, e2, hown, hkp, hrow, hus⟩ := HS.out
          obtain ⟨b, o, rfl, hb, hcA, hcB⟩ := pge_at hrow.row hlt
          have hul : (g.used.map fun n : Nat => (n : Int)).length = g.used.length := List.length_map _
          have hlt2 : i < g.used.length := by rw [HLN.out]; exact hlt
          obtain ⟨aa, rfl, hcell⟩ := in_own hus (i := i) (by rw [hul]; exact hlt2)
          rw [List.getElem_map] at hcell
          have hmem : g.used[i] ∈ g.used := List.getElem_mem hlt2
          have hLi : L[i] ∈ L := List.getElem_mem hlt
          have hib := HLB.out _ hLi
          have hgi : (g.lst C)[i]? = some (((g.used[i] : Nat) : Int), g.cont C g.used[i]) := by
            unfold Pag.PG.lst
            rw [List.getElem?_map, List.getElem?_eq_getElem hlt2]
            rfl
          have hli : L[i]? = some L[i] := List.getElem?_eq_getElem hlt
          obtain ⟨kk, hkk⟩ : ∃ kk, g.used[i] = kk := ⟨_, rfl⟩
          have hcell2 : wr.cell? ⟨aa, i, none⟩ = some (.int .i64 (kk : Nat)) := by rw [← hkk]; exact hcell
          clear hcell
          rw [hkk] at hmem hgi
          obtain ⟨⟨m, x⟩, hmx⟩ : ∃ mx, L[i] = mx := ⟨_, rfl⟩
          rw [hmx] at hcA hcB hib hli
          obtain ⟨tx, htx⟩ : ∃ t, txt x = .string t := ⟨_, rfl⟩
          rw [htx] at hcB
          obtain ⟨q', hpe, hlk'⟩ := hlk.page m
          have hst : ∀ ok, ok = decide (((kk : Nat) : Int) = m ∧ g.cont C kk = x) → if ok = true then (g.lst C).take (i + 1) = L.take (i + 1) else ans = false := fun ok hok => by
            by_cases hh : ((kk : Nat) : Int) = m ∧ g.cont C kk = x
            · rw [decide_eq_true hh] at hok
              rw [hok, if_pos rfl, List.take_add_one, List.take_add_one, htk, hgi, hli, hh.1, hh.2]
            · rw [decide_eq_false hh] at hok
              rw [hok, if_neg (by simp), ← HANS.out]
              refine decide_eq_false fun ⟨e, _⟩ => hh ?_
              rw [e, hli] at hgi
              simp only [Option.some.injEq, Prod.mk.injEq] at hgi
              exact ⟨hgi.1.symm, hgi.2.symm⟩
          have hpa : ∀ W, Below wr.heap.size wr W → Calls Tryz.prog 46 #[.pointer (some ⟨G.gp, 0, none⟩), .int .i64 m] W (RetPage w0 W Gx (n + 2 * i + 2) ({ g with q := q' }, if g.has m ≠ 0 then [] else g.cont C m.toNat, g.has m)) := fun W hW => by
            have h := ppage_any w0 W Gx (n + 2 * i) { g with q := q } (hpg.below hW) (by have := HN.out; omega) hlk.ul m hib.1 hib.2
            rw [hpe, e1] at h
            exact h
          have off : ∀ T, (T = 36 ∨ T = 132 ∨ T = 3) → ∀ W, Below wr.heap.size wr W → Off W Gx.own T := fun T hT W hW => by
            rcases hT with rfl | rfl | rfl <;> exact (hpg.below hW).offOwn (by decide) (by decide) (by decide) (by decide) (by decide) (by decide) (by decide) (by decide)
          have HST := Lib.hid hst
          have HPA := Lib.hid hpa
          have HOFF := Lib.hid off
          have HK := Lib.hid (And.intro hlk' (And.intro e1 (And.intro e2 (And.intro hown (And.intro hkp (And.intro hrow hus))))))
          have HM := Lib.hid (And.intro hmem hgi)
          have HTX := Lib.hid htx
          have HKK : Hid ((g.used.map fun n : Nat => (n : Int))[i]? = some ((kk : Nat) : Int)) := by
            show _ = _
            rw [List.getElem?_map, List.getElem?_eq_getElem hlt2, ← hkk]
            rfl
          clear hst hpa off hlk hlk' e1 e2 hown hkp hrow hus hpe hmem hgi htx htk hpg hLi hli hkk hmx hul hlt2 HS hib
          by_cases hkm : ((kk : Nat) : Int) = m
          · subst hkm
            obtain ⟨hhas, -⟩ := Pag.used_has HM.out.1 HU0.out.now
            have hpa := HPA.out
            rw [hhas, if_neg (by simp), Int.toNat_natCast] at hpa
            obtain ⟨X2, hX2⟩ : ∃ X, g.cont C kk = X := ⟨_, rfl⟩
            have hst := HST.out
            rw [hX2] at hpa hst
            have HPA2 := Lib.hid hpa
            obtain ⟨bb, hbb⟩ : ∃ b, (X2 == x) = b := ⟨_, rfl⟩
            have HBB : Hid (if bb = true then (g.lst C).take (i + 1) = L.take (i + 1) else ans = false) := hst bb (by rw [← hbb]; by_cases h : X2 = x <;> simp [h])
            have hne := fun w => pg_str_ne X2 x w
            have heg := fun t x' y => pg_eqg t x' y X2 x
            rw [hbb] at hne
            rw [HTX.out] at hne heg
            clear hhas hpa hX2 hst hbb HPA HST
            go_wp2_with fail
            generalize hW4 : World.alloc wr (.cells _ _) = W4
            obtain ⟨ba4, hz4, hB4⟩ := fresh1 hW4
            clear hW4
            have H4 := Lib.hid (And.intro ba4 hB4)
            clear ba4 hB4 hz4
            refine (HPA2.out W4 H4.out.2).mono ?_
            rintro e w5 ⟨G5, A5, c5, rfl, hb5, hc5, -, f1, f2, hp5, ho5, hk5⟩
            dsimp only at hb5 hc5 hp5 ⊢
            obtain ⟨hlk', e1, e2, hown, hkp, hrow, hus⟩ := HK.out
            have hbd : Below w5.heap.size w5 w5.drew := (Below.refl _ _).drew
            have hrow5 := (hrow.below H4.out.2).offK hk5 (HOFF.out _ (.inr (.inl rfl)) W4 H4.out.2)
            have hus5 := (hus.below H4.out.2).offK hk5 (HOFF.out 3 (.inr (.inr rfl)) W4 H4.out.2)
            have hbl5 := (H4.out.1.offK hk5 (HOFF.out 132 (.inr (.inl rfl)) W4 H4.out.2)).c2
            have hki := HKK.out
            obtain ⟨hil, hki⟩ := List.getElem?_eq_some_iff.1 hki
            obtain ⟨aa', hae, hcell5⟩ := in_own hus5 hil
            cases hae
            rw [hki] at hcell5
            have hsz := hkp.size
            have hk4 := hkp.then H4.out.2
            have H5 : Hid (∀ i', i' = i + 1 → BRow w5.drew A5 X2 ∧ PagAt w0 w5.drew G5 (n + 2 * i') { g with q := q' } ∧ Pag.Lk { g with q := q' } R N C ∧ G5.gp = G.gp ∧ G5.k = G.k ∧ (∀ i, G5.own i → G.own i ∨ w.heap.size ≤ i) ∧ Keeps w w5.drew G.own ∧ EOwn ePgE w5.drew 0 (some ⟨b, o, none⟩) c L ∧ EOwn eInt w5.drew W1.heap.size (some ⟨aa, 0, none⟩) c2 (g.used.map fun n : Nat => (n : Int))) := fun i' hi' => by
              subst hi'
              exact ⟨hb5.below hbd, hp5.below hbd, hlk', f1.trans e1, f2.trans e2, own_chain hown (Nat.le_trans hsz H4.out.2.size) ho5, (keeps_chain hk4 hown hk5).then hbd, hrow5.below hbd, hus5.below hbd⟩
            clear hc5 f1 f2 hp5 ho5 hk5 hlk' e1 e2 hown hkp hrow hus hrow5 hus5 hki hil hsz hk4 hb5 hbd
            go_wp2_with fail
            go_upto_region 8 with fail
            refine wp_region_plan (.take 0 (.take 1 (.take 2 (.take 3 (.take 4 (.take 5 (.take 6 (.take 7 (.take 8 (.take 9 (.take 10 (.take 11 (.take 12 (.take 13 (.take 14 (.take 15 (.take 16 (.take 17 .fin)))))))))))))))))) (by kernel_rfl) (by kernel_rfl) (by kernel_rfl) (by kernel_rfl) ?_
            repeat' (first | (refine hZ _ _ ?_; clear hZ) | (refine hZ _ ?_; clear hZ) | (refine hZ ?_; clear hZ) | rw [again_nil] | rw [walk_fin] | ((first | rw [walk_take] | rw [walk_run] | rw [again_cons]); intro Z hZ; simp only [sel, List.getElem?_toArray, List.getElem?_cons_zero, List.getElem?_cons_succ]; go_wp2_with (first | (refine wpList_guardP (by kernel_rfl) ?_; refine wpList_str_of rfl (.tmp 53) rfl rfl rfl (H5.out _ rfl).1 ?_))))
            cases bb with
            | true =>
              clear hne heg
              go_wp2_with fail
              go_roundw
              case rel =>
                have hb1 : (g.lst C).take (i + 1) = L.take (i + 1) := by simpa using HBB.out
                exact ⟨_, _, _, _, _, _, ⟨i + 1, by omega, rfl, hb1, G5, q', (H5.out _ rfl).2⟩, rfl, rfl, rfl, rfl, rfl, by go_num⟩
              case measure => simp [intOf]; omega
            | false =>
              clear hne heg
              go_wp2_with fail
              go_ret
              obtain ⟨-, h1, h2, h3, h4, h5, h6, -⟩ := H5.out _ rfl
              rw [show ans = false from by simpa using HBB.out]
              exact ⟨G5, q', rfl, h3, h4, h1.more (by omega), h2, h5, h6⟩
          · have HF : Hid (ans = false) := by
              show _ = _
              have h := HST.out false (decide_eq_false (fun h => hkm h.1)).symm
              simpa using h
            have hpa := HPA.out
            obtain ⟨X2, hX2⟩ : ∃ X, (if g.has m ≠ 0 then [] else g.cont C m.toNat) = X := ⟨_, rfl⟩
            obtain ⟨ee, hee⟩ : ∃ ee, g.has m = ee := ⟨_, rfl⟩
            rw [hX2, hee] at hpa
            have HPA2 := Lib.hid hpa
            have hkm2 : (((kk : Nat) : Int) != m) = true := by simp; exact hkm
            clear hpa hX2 hee HPA HST hkm
            go_wp2_with fail
            generalize hW4 : World.alloc wr (.cells _ _) = W4
            obtain ⟨ba4, hz4, hB4⟩ := fresh1 hW4
            clear hW4
            have H4 := Lib.hid (And.intro ba4 hB4)
            clear ba4 hB4 hz4
            refine (HPA2.out W4 H4.out.2).mono ?_
            rintro e w5 ⟨G5, A5, c5, rfl, hb5, hc5, -, f1, f2, hp5, ho5, hk5⟩
            dsimp only at hb5 hc5 hp5 ⊢
            obtain ⟨hlk', e1, e2, hown, hkp, hrow, hus⟩ := HK.out
            have hbd : Below w5.heap.size w5 w5.drew := (Below.refl _ _).drew
            have hrow5 := (hrow.below H4.out.2).offK hk5 (HOFF.out _ (.inr (.inl rfl)) W4 H4.out.2)
            have hus5 := (hus.below H4.out.2).offK hk5 (HOFF.out 3 (.inr (.inr rfl)) W4 H4.out.2)
            have hbl5 := (H4.out.1.offK hk5 (HOFF.out 132 (.inr (.inl rfl)) W4 H4.out.2)).c2
            have hki := HKK.out
            obtain ⟨hil, hki⟩ := List.getElem?_eq_some_iff.1 hki
            obtain ⟨aa', hae, hcell5⟩ := in_own hus5 hil
            cases hae
            rw [hki] at hcell5
            have hsz := hkp.size
            have hk4 := hkp.then H4.out.2
            have H5 : Hid (∀ i', i' = i + 1 → BRow w5.drew A5 X2 ∧ PagAt w0 w5.drew G5 (n + 2 * i') { g with q := q' } ∧ Pag.Lk { g with q := q' } R N C ∧ G5.gp = G.gp ∧ G5.k = G.k ∧ (∀ i, G5.own i → G.own i ∨ w.heap.size ≤ i) ∧ Keeps w w5.drew G.own ∧ EOwn ePgE w5.drew 0 (some ⟨b, o, none⟩) c L ∧ EOwn eInt w5.drew W1.heap.size (some ⟨aa, 0, none⟩) c2 (g.used.map fun n : Nat => (n : Int))) := fun i' hi' => by
              subst hi'
              exact ⟨hb5.below hbd, hp5.below hbd, hlk', f1.trans e1, f2.trans e2, own_chain hown (Nat.le_trans hsz H4.out.2.size) ho5, (keeps_chain hk4 hown hk5).then hbd, hrow5.below hbd, hus5.below hbd⟩
            clear hc5 f1 f2 hp5 ho5 hk5 hlk' e1 e2 hown hkp hrow hus hrow5 hus5 hki hil hsz hk4 hb5 hbd
            go_wp2_with fail
            go_upto_region 8 with fail
            refine wp_region_plan (.take 0 (.take 1 (.take 2 (.take 3 (.take 4 (.take 5 (.take 6 (.take 7 (.take 8 (.take 9 (.take 10 (.take 11 (.take 12 (.take 13 (.take 14 (.take 15 (.take 16 (.take 17 .fin)))))))))))))))))) (by kernel_rfl) (by kernel_rfl) (by kernel_rfl) (by kernel_rfl) ?_
            repeat' (first | (refine hZ _ _ ?_; clear hZ) | (refine hZ _ ?_; clear hZ) | (refine hZ ?_; clear hZ) | rw [again_nil] | rw [walk_fin] | ((first | rw [walk_take] | rw [walk_run] | rw [again_cons]); intro Z hZ; simp only [sel, List.getElem?_toArray, List.getElem?_cons_zero, List.getElem?_cons_succ]; go_wp2_with (fail)))
            go_wp2_with fail
            go_ret
            obtain ⟨-, h1, h2, h3, h4, h5, h6, -⟩ := H5.out _ rfl
            rw [HF.out]
            exact ⟨G5, q', rfl, h3, h4, h1.more (by omega), h2, h5, h6⟩
        · have HF : Hid (ans = true) := by
            show _ = _
            rw [← HANS.out]
            refine decide_eq_true ⟨?_, HRT.out⟩
            obtain ⟨htk, -⟩ := HS.out
            obtain rfl : i = L.length := by omega
            rw [List.take_length, List.take_of_length_le (by rw [HLL.out, HLN.out]; exact Nat.le_refl _)] at htk
            exact htk
          have hlti : ¬ (i : Int) < (L.length : Int) := by omega
          go_wp2_with fail
          go_ret
          rw [HF.out]
          obtain ⟨htk, Gx, q, hpg, hlk, e1, e2, hown, hkp, hrow, hus⟩ := HS.out
          exact ⟨Gx, q, rfl, e1, e2, hpg.more (by omega), hlk, hown, hkp⟩
  · have hlni : ((g.used.length : Int) != (L.length : Int)) = true := by simp; omega
    have HF : Hid (ans = false) := by
      show _ = _
      rw [← HANS.out]
      refine decide_eq_false fun ⟨e, _⟩ => hll ?_
      rw [← HLL.out, e]
    have hw2 : Below w2.heap.size w2 w2.drew := (Below.refl _ _).drew
    have H3 : Hid (PagAt w0 w2.drew G (n + 40) g ∧ Below w.heap.size w w2.drew) := ⟨(H2.out.1.below hw2).more (by omega), H2.out.2.2.1.then hw2⟩
    clear hw2
    go_upto_region 2 with fail
    refine wp_region_plan (.take 0 (.take 1 (.take 2 (.take 3 (.take 4 (.take 5 (.take 6 (.take 7 (.take 10 (.take 11 (.run 8 [10, 11] (.take 9 (.take 12 (.take 13 .fin)))))))))))))) (by kernel_rfl) (by kernel_rfl) (by kernel_rfl) (by kernel_rfl) ?_
    repeat' (first | (refine hZ _ _ ?_; clear hZ) | (refine hZ _ ?_; clear hZ) | (refine hZ ?_; clear hZ) | rw [again_nil] | rw [walk_fin] | ((first | rw [walk_take] | rw [walk_run] | rw [again_cons]); intro Z hZ; simp only [sel, List.getElem?_toArray, List.getElem?_cons_zero, List.getElem?_cons_succ]; go_wp2_with (fail)))
    go_wp2_with fail
    go_ret
    rw [HF.out]
    exact ⟨G, g.q, rfl, rfl, rfl, H3.out.1, HI.out, fun i hi => .inl hi, Keeps.of_below H3.out.2⟩
end Go.Proofs.YtcfoihihinijlaaGreat
end

section
namespace Go.Proofs.YtcfoihihinijlaaGreat
set_option linter.unusedSimpArgs false
set_option linter.unusedVariables false
open Go.RowKit Go.Maps
def RetSta (w0 w : World) (G : GB) (n : Nat) (g : Pag.PG) (R : List (List UInt8)) (N : Nat) (C : Nat → List UInt8) (e : Ending) (w' : World) : Prop :=
  ∃ G' q A c, e = .returned (.agg #[.slice A (g.lst C).length c, txt g.root]) ∧ EOwn ePgE w' w.heap.size A c (g.lst C) ∧ G'.gp = G.gp ∧ G'.k = G.k ∧ PagAt w0 w' G' n { g with q := q } ∧ Pag.Lk { g with q := q } R N C ∧ (∀ i, G'.own i → G.own i ∨ w.heap.size ≤ i) ∧ Keeps w w' G.own
set_option maxRecDepth 20000 in
set_option maxHeartbeats 4000000 in
theorem pgstate_any (w0 w : World) (G : GB) (n : Nat) (g : Pag.PG) (R : List (List UInt8)) (N : Nat) (C : Nat → List UInt8) (h : PagAt w0 w G n g) (hi : Pag.Lk g R N C) (h0 : Pag.U0 g) (hp : g.pages ≤ 16) (hn : n + 40 < 1000000) :
    Calls Tryz.prog 15 #[.pointer (some ⟨G.gp, 0, none⟩)] w (RetSta w0 w G (n + 40) g R N C) := by
  have H0 := Lib.hid h
  have HI := Lib.hid hi
  have HU0 := Lib.hid h0
  have HPG := Lib.hid hp
  have HN := Lib.hid hn
  clear h hi h0 hp hn
  go_enter Tryz.func15, Tryz.ntmps15
  go_upto_region 1 with fail
  generalize hW1 : World.alloc w (.cells _ _) = W1
  obtain ⟨ba1, hz1, hB1⟩ := fresh1 hW1
  clear hW1
  have H1 := Lib.hid (And.intro (H0.out.below hB1) (And.intro ba1 hB1))
  have HRO := Lib.hid (proot_any w0 W1 G n g (H0.out.below hB1) HI.out.rl)
  clear ba1 hz1 hB1
  go_wp2_with fail
  refine HRO.out.mono ?_
  rintro e w2 ⟨A2, c2, rfl, ho2, hb2⟩
  have hcv := run_string_bytes w2 (c := c2) ho2.row
  have H2 := Lib.hid (And.intro (H1.out.1.below hb2) (And.intro (H1.out.2.1.below hb2) (H1.out.2.2.then hb2)))
  obtain ⟨rt, hrt⟩ : ∃ rt, g.root = rt := ⟨_, rfl⟩
  have HRT := Lib.hid hrt
  rw [hrt] at hcv ⊢
  clear ho2 hb2 HRO hrt
  unfold txt at hcv
  go_upto_region 2 with fail
  generalize hW3 : World.alloc w2 (.cells _ _) = W3
  obtain ⟨ba3, hz3, hB3⟩ := fresh1 hW3
  clear hW3
  have hbl3 : Blk W3 w2.heap.size 36 [.slice none 0 0, txt rt] := ba3
  have H3 := Lib.hid (And.intro (H2.out.1.below hB3) (And.intro (H2.out.2.1.below hB3) (And.intro hbl3 (H2.out.2.2.then hB3))))
  have HGS : Hid (w.heap.size < w2.heap.size) := H2.out.2.1.lt
  clear ba3 hbl3 hz3 hB3 hcv H1 H2
  have HUS := Lib.hid (pused_any w0 W3 G n g H3.out.1 HI.out.ul)
  go_wp2_with fail
  refine HUS.out.mono ?_
  rintro e w4 ⟨A4, c4, rfl, ho4, hb4⟩
  obtain ⟨gs, hgs⟩ : ∃ gs, w2.heap.size = gs := ⟨_, rfl⟩
  rw [hgs] at H3 HGS ⊢
  have hlen : (g.used.map fun n : Nat => (n : Int)).length = g.used.length := List.length_map _
  have H4 := Lib.hid (And.intro (H3.out.1.below hb4) (And.intro (H3.out.2.1.below hb4) (And.intro (H3.out.2.2.1.below hb4) (And.intro (H3.out.2.2.2.then hb4) (ho4.mono H3.out.2.2.2.size)))))
  have hul : g.used.length ≤ 17 := Nat.le_trans used_len (by have := HPG.out; omega)
  rw [hlen]
  clear ho4 hb4 HUS hlen hgs
  go_wp2_with fail
  have hw0 : Hid (w0.heap.size ≤ w.heap.size) := H0.out.wl.dl.bel.size
  go_loopw [15] (fun iv wr => ∃ i : Nat, i ≤ g.used.length ∧ iv = .int .i64 (i : Int) ∧ Hid (∃ A c Gx q, StL w0 w wr G (n + 2 * i) { g with q := q } ((g.lst C).take i) A c gs (.slice A i c) rt A4 c4 Gx (g.used.map fun n : Nat => (n : Int)) ∧ Pag.Lk { g with q := q } R N C)) (fun iv _ => g.used.length - (intOf iv).toNat)
  case atStart => exact ⟨0, by omega, by go_num, none, 0, G, g.q, ⟨by simp; exact EOwn.nil _ _, H4.out.2.2.1, H4.out.2.1, H4.out.2.2.2.2, rfl, rfl, H4.out.1, fun i hi => .inl hi, Keeps.of_below H4.out.2.2.2.1⟩, HI.out⟩
  case round =>
    obtain ⟨i, hi, rfl, HS⟩ := hrel
    obtain ⟨A, c, Gx, q, hst, hin⟩ := HS.out
    by_cases hlt : i < g.used.length
    · obtain ⟨aa, rfl, hcell⟩ := in_own hst.used (i := i) (by rw [List.length_map]; exact hlt)
      rw [List.getElem_map] at hcell
      have hmem : g.used[i] ∈ g.used := List.getElem_mem hlt
      have htake : (g.lst C).take (i + 1) = (g.lst C).take i ++ [(((g.used[i] : Nat) : Int), g.cont C g.used[i])] := by
        unfold Pag.PG.lst
        rw [List.take_add_one, List.getElem?_map, List.getElem?_eq_getElem hlt]
        rfl
      have htl : ((g.lst C).take i).length = i := by unfold Pag.PG.lst; rw [List.length_take, List.length_map]; omega
      obtain ⟨kk, hkk⟩ : ∃ kk, g.used[i] = kk := ⟨_, rfl⟩
      have hcell2 : wr.cell? ⟨aa, i, none⟩ = some (.int .i64 (kk : Nat)) := by rw [← hkk]; exact hcell
      clear hcell
      rw [hkk] at hmem htake
      obtain ⟨hhas, hle⟩ := Pag.used_has hmem HU0.out.now
      obtain ⟨q', hpe, hin'⟩ := hin.page (kk : Int)
      have hh2 : ({ g with q := q } : Pag.PG).has (kk : Int) = 0 := hhas
      rw [hh2, if_neg (by simp)] at hpe
      obtain ⟨X, hX⟩ : ∃ X, g.cont C kk = X := ⟨_, rfl⟩
      have hpe2 : ({ g with q := q } : Pag.PG).page (kk : Int) = ({ g with q := q' }, X, 0) := by rw [← hX]; exact hpe
      have hpa := ppage_any w0 wr Gx (n + 2 * i) { g with q := q } hst.pag (by have := HN.out; omega) hin.ul (kk : Int) (by omega) (by have := HPG.out; omega)
      rw [hpe2, hst.gp] at hpa
      rw [hX] at htake
      obtain ⟨Li, hLi⟩ : ∃ Li, (g.lst C).take i = Li := ⟨_, rfl⟩
      rw [hLi] at htl htake hst
      obtain rfl : i = Li.length := htl.symm
      have hlti : (Li.length : Int) < (g.used.length : Int) := by omega
      have hl17 : Li.length + 1 ≤ 1073741824 := by omega
      obtain ⟨U, hU⟩ : ∃ U, (g.used.map fun n : Nat => (n : Int)) = U := ⟨_, rfl⟩
      rw [hU] at hst
      have HU := Lib.hid hU
      clear hU
      have HPA := Lib.hid hpa
      have HTK := Lib.hid (And.intro htake hl17)
      have HIN := Lib.hid hin'
      have HS2 := Lib.hid hst
      clear hst hin hin' hpe hpe2 hpa hhas hh2 hmem hle htake htl hkk HS hX hLi hl17
      go_wp2_with fail
      refine HPA.out.mono ?_
      rintro e w5 ⟨G5, A5, c5, rfl, hb5, hc5, -, f1, f2, hp5, ho5, hk5⟩
      simp only at hb5 hc5 hp5 ⊢
      have hcv := run_string_bytes w5 (c := c5) hb5
      obtain ⟨g5, hg5⟩ : ∃ g5, ({ g with q := q' } : Pag.PG) = g5 := ⟨_, rfl⟩
      rw [hg5] at hp5
      have H5 : Hid (StL w0 w w5 G (n + 2 * Li.length + 2) g5 Li A c gs (.slice A Li.length c) rt (some ⟨aa, 0, none⟩) c4 G5 U) := by
        have h := HS2.out
        have off : ∀ T, (T = 36 ∨ T = 132 ∨ T = 3) → Off wr Gx.own T := fun T hT => by
          rcases hT with rfl | rfl | rfl <;> exact h.pag.offOwn (by decide) (by decide) (by decide) (by decide) (by decide) (by decide) (by decide) (by decide)
        exact ⟨h.row.offK hk5 (off _ (.inr (.inl rfl))), h.blk.offK hk5 (off _ (.inl rfl)), h.blk2.offK hk5 (off _ (.inl rfl)), h.used.offK hk5 (off _ (.inr (.inr rfl))), f1.trans h.gp, f2.trans h.k, hp5, own_chain h.own h.kp.size ho5, keeps_chain h.kp h.own hk5⟩
      have hgs5 := H5.out.blk.c2
      have HG5 := Lib.hid hg5
      obtain ⟨t5, hs5⟩ : ∃ t5, txt X = .string t5 := ⟨_, rfl⟩
      rw [hs5] at hcv
      have HTX : Hid ([Value.int .i64 (kk : Nat), .string t5] = ePgE.code ((kk : Int), X)) := by show _ = _; rw [← hs5]; rfl
      clear hb5 hc5 hp5 ho5 hk5 f1 f2 HPA HS2 hg5 hs5
      have hba : Below w5.heap.size w5 (w5.alloc (.cells #[.int .i64 (kk : Nat), .string t5] 132)) := (Below.refl _ _).alloc (Nat.le_refl _) _
      have H6 := Lib.hid (And.intro (H5.out.below hba) (And.intro (ERow.lit ePgE w5 ((kk : Int), X) #[.int .i64 (kk : Nat), .string t5] HTX.out w5.heap.size rfl) (Nat.le_trans (Nat.le_of_lt H5.out.blk2.lt) hba.size)))
      clear hba H5
      go_wp2_with (at_builtin; refine wpList_append_elems ePgE rfl (.tmp 26) (.tmp 31) rfl _ rfl H6.out.1.row rfl _ rfl H6.out.2.1 rfl HTK.out.2 H6.out.2.2 ?_; intro A7 c7 w7 ho7 hb7 hg7 _; have H7 := Lib.hid (H6.out.1.app hw0.out ho7 hb7 hg7); replace hgs5 := H7.out.blk.c2; clear ho7 hb7 hg7)
      go_roundw
      case rel =>
        have hst := H7.out.store hw0.out HGS.out (.slice A7 (Li.length + 1) c7)
        have hn2 : n + 2 * (Li.length + 1) = n + 2 * Li.length + 2 := by omega
        refine ⟨Li.length + 1, hlt, by go_num, A7, c7, G5, q', ?_, HIN.out⟩
        rw [HTK.out.1, HU.out, hn2, HG5.out]
        exact hst
      case measure => simp [intOf]; omega
    · have hlti : ¬ (i : Int) < (g.used.length : Int) := by omega
      obtain rfl : i = g.used.length := by omega
      have hg5 := hst.blk.c2
      have hg6 := hst.blk2.c2
      have HST := Lib.hid hst
      have HIN := Lib.hid hin
      clear hst hin HS
      obtain ⟨t, ht⟩ : ∃ t, txt rt = .string t := ⟨_, rfl⟩
      have HTT := Lib.hid ht
      rw [ht] at hg5
      clear ht
      go_wp2_with fail
      have hst := HST.out
      have hb2 := hst.blk2.all2 (u := .slice A g.used.length c) (v := .string t)
      have hg := (grown_store wr w.heap.size 0 (.slice A g.used.length c)).set_ ⟨w.heap.size, 1, none⟩ rfl (.string t)
      have hk := Keeps.of_grown hg
      have htg : ∀ i, i = w.heap.size → tagOf wr i = some 36 := fun i hi => by rw [hi]; exact hst.blk2.tag
      have hpg := hst.pag.offOther hk htg (by decide) (by decide) (fun i hi => by rw [hi]; exact hw0.out)
      have hrow := hst.row.offK hk (off_row (U := 132) htg (by decide))
      have hkp : Keeps w _ G.own := hst.kp.low (((Below.refl w.heap.size wr).setCell (p := ⟨w.heap.size, 0, none⟩) (Nat.le_refl _) (.slice A g.used.length c)).setCell (p := ⟨w.heap.size, 1, none⟩) (Nat.le_refl _) (.string t))
      refine ret_mem1 rfl rfl rfl (sta_mem hb2) ?_
      have htl : (g.lst C).take g.used.length = g.lst C := List.take_of_length_le (by rw [Pag.lst_length]; exact Nat.le_refl _)
      rw [htl] at hrow
      refine ⟨Gx, q, A, c, ?_, hrow, hst.gp, hst.k, hpg.more (by omega), HIN.out, hst.own, hkp⟩
      rw [Pag.lst_length, HRT.out, HTT.out]
end Go.Proofs.YtcfoihihinijlaaGreat
end

section
namespace Go.Proofs.YtcfoihihinijlaaGreat
set_option linter.unusedSimpArgs false
set_option linter.unusedVariables false
open Go.RowKit Go.Maps
theorem Blk.all9 {w : World} {g : Nat} {t : TypeId} {a b c d e f x y z a' b' c' d' e' f' x' y' z' : Value} (h : Blk w g t [a, b, c, d, e, f, x, y, z]) :
    Blk (((((((((w.setCell ⟨g, 0, none⟩ a').setCell ⟨g, 1, none⟩ b').setCell ⟨g, 2, none⟩ c').setCell ⟨g, 3, none⟩ d').setCell ⟨g, 4, none⟩ e').setCell ⟨g, 5, none⟩ f').setCell ⟨g, 6, none⟩ x').setCell ⟨g, 7, none⟩ y').setCell ⟨g, 8, none⟩ z') g t [a', b', c', d', e', f', x', y', z'] :=
  ((((((((h.set 0 a').set 1 b').set 2 c').set 3 d').set 4 e').set 5 f').set 6 x').set 7 y').set 8 z'
theorem below9 {B : Nat} {w0 w : World} {g : Nat} {a' b' c' d' e' f' x' y' z' : Value} (h : Below B w0 w) (hg : B ≤ g) :
    Below B w0 (((((((((w.setCell ⟨g, 0, none⟩ a').setCell ⟨g, 1, none⟩ b').setCell ⟨g, 2, none⟩ c').setCell ⟨g, 3, none⟩ d').setCell ⟨g, 4, none⟩ e').setCell ⟨g, 5, none⟩ f').setCell ⟨g, 6, none⟩ x').setCell ⟨g, 7, none⟩ y').setCell ⟨g, 8, none⟩ z') :=
  ((((((((h.setCell hg _).setCell hg _).setCell hg _).setCell hg _).setCell hg _).setCell hg _).setCell hg _).setCell hg _).setCell hg _
structure R2 (w W : World) : Prop where
  res : ∃ v0 v1 v2 v3 v4 v5 v6 v7 v8, Blk W (w.heap.size + 1) 39 [v0, v1, v2, v3, v4, v5, v6, v7, v8]
  bel : Below w.heap.size w W
theorem R2.new {w W : World} {v0 v1 v2 v3 v4 v5 v6 v7 v8 : Value} (hb : Blk W (w.heap.size + 1) 39 [v0, v1, v2, v3, v4, v5, v6, v7, v8]) (hB : Below w.heap.size w W) : R2 w W := ⟨⟨_, _, _, _, _, _, _, _, _, hb⟩, hB⟩
theorem R2.below {w W W' : World} (h : R2 w W) (hb : Below W.heap.size W W') : R2 w W' := by
  obtain ⟨⟨v0, v1, v2, v3, v4, v5, v6, v7, v8, hr⟩, hB⟩ := h
  exact ⟨⟨_, _, _, _, _, _, _, _, _, hr.below hb⟩, hB.then hb⟩
theorem R2.set {w W : World} (h : R2 w W) (i : Nat) (v : Value) : R2 w (W.setCell ⟨w.heap.size, i, none⟩ v) := by
  obtain ⟨⟨v0, v1, v2, v3, v4, v5, v6, v7, v8, hr⟩, hB⟩ := h
  exact ⟨⟨_, _, _, _, _, _, _, _, _, hr.other ⟨w.heap.size, i, none⟩ (by show w.heap.size + 1 ≠ w.heap.size; omega) v⟩, hB.setCell (p := ⟨w.heap.size, i, none⟩) (Nat.le_refl _) v⟩
theorem R2.set9 {w W : World} (h : R2 w W) (s : Pag.Sto) (A : SA) :
    Blk (((((((((W.setCell ⟨w.heap.size + 1, 0, none⟩ (.int .i64 s.pages)).setCell ⟨w.heap.size + 1, 1, none⟩ (.int .i64 s.most)).setCell ⟨w.heap.size + 1, 2, none⟩ (.slice A.a1 s.sure.1.length A.c1)).setCell ⟨w.heap.size + 1, 3, none⟩ (txt s.sure.2)).setCell ⟨w.heap.size + 1, 4, none⟩ (.slice A.a2 s.now.1.length A.c2)).setCell ⟨w.heap.size + 1, 5, none⟩ (txt s.now.2)).setCell ⟨w.heap.size + 1, 6, none⟩ (.bool s.in_)).setCell ⟨w.heap.size + 1, 7, none⟩ (.slice A.a3 s.put.length A.c3)).setCell ⟨w.heap.size + 1, 8, none⟩ (.bool s.own)) (w.heap.size + 1) 39 (stoC s A) ∧
    Below w.heap.size w (((((((((W.setCell ⟨w.heap.size + 1, 0, none⟩ (.int .i64 s.pages)).setCell ⟨w.heap.size + 1, 1, none⟩ (.int .i64 s.most)).setCell ⟨w.heap.size + 1, 2, none⟩ (.slice A.a1 s.sure.1.length A.c1)).setCell ⟨w.heap.size + 1, 3, none⟩ (txt s.sure.2)).setCell ⟨w.heap.size + 1, 4, none⟩ (.slice A.a2 s.now.1.length A.c2)).setCell ⟨w.heap.size + 1, 5, none⟩ (txt s.now.2)).setCell ⟨w.heap.size + 1, 6, none⟩ (.bool s.in_)).setCell ⟨w.heap.size + 1, 7, none⟩ (.slice A.a3 s.put.length A.c3)).setCell ⟨w.heap.size + 1, 8, none⟩ (.bool s.own)) := by
  obtain ⟨⟨v0, v1, v2, v3, v4, v5, v6, v7, v8, hr⟩, hB⟩ := h
  exact ⟨Blk.all9 hr, below9 hB (Nat.le_succ _)⟩
theorem R2.ret {fn : Func} {a : Act} {w W : World} {p u : Tmp} {c : Int} (h : R2 w W) (s : Pag.Sto) (A : SA) (hs : ∀ W', Below w.heap.size w W' → (∀ i < W.heap.size, i ≠ w.heap.size + 1 → W'.heap[i]? = W.heap[i]?) → W.heap.size ≤ W'.heap.size → StoR W' s A) (hf : fn.results = #[.cell p 39, .tmp u]) (hd : a.defers = [])
    (hp : a.tmps.getD p undef = .pointer (some ⟨w.heap.size + 1, 0, none⟩)) (hu : a.tmps.getD u undef = .int .i64 c) :
    bodyPost Tryz.prog fn (RetSto w s c) .ret a (((((((((W.setCell ⟨w.heap.size + 1, 0, none⟩ (.int .i64 s.pages)).setCell ⟨w.heap.size + 1, 1, none⟩ (.int .i64 s.most)).setCell ⟨w.heap.size + 1, 2, none⟩ (.slice A.a1 s.sure.1.length A.c1)).setCell ⟨w.heap.size + 1, 3, none⟩ (txt s.sure.2)).setCell ⟨w.heap.size + 1, 4, none⟩ (.slice A.a2 s.now.1.length A.c2)).setCell ⟨w.heap.size + 1, 5, none⟩ (txt s.now.2)).setCell ⟨w.heap.size + 1, 6, none⟩ (.bool s.in_)).setCell ⟨w.heap.size + 1, 7, none⟩ (.slice A.a3 s.put.length A.c3)).setCell ⟨w.heap.size + 1, 8, none⟩ (.bool s.own)) := by
  obtain ⟨hb, hB⟩ := h.set9 s A
  refine ret_mem2 hf hd hp hu (sto_mem hb) ⟨A, rfl, hs _ hB (fun i _ hi => ?_) ?_, hB⟩
  · simp only [heap_setCell_other _ ⟨w.heap.size + 1, _, none⟩ i _ hi]
  · simp
set_option maxRecDepth 20000 in
set_option maxHeartbeats 2000000 in
theorem rbegin_any (w : World) (s : Pag.Sto) (a : SA) (hr : StoR w s a) : Calls Tryz.prog 74 #[stoV s a] w (RetSto w s.begin.1 s.begin.2) := by
  obtain ⟨pages, most, ⟨L1, r1⟩, ⟨L2, r2⟩, b, pl, own⟩ := s
  obtain ⟨a1, c1, a2, c2, a3, c3⟩ := a
  have HR := Lib.hid hr
  clear hr
  unfold stoV
  obtain ⟨t1, ht1⟩ : ∃ t1, txt r1 = .string t1 := ⟨_, rfl⟩
  obtain ⟨t2, ht2⟩ : ∃ t2, txt r2 = .string t2 := ⟨_, rfl⟩
  have HT := Lib.hid (And.intro ht1 ht2)
  simp only [ht1, ht2]
  clear ht1 ht2
  go_enter Tryz.func74, Tryz.ntmps74
  go_upto_region 1 with fail
  generalize hW1 : ((World.alloc w (.cells _ _)).alloc (.cells _ _)) = W1
  obtain ⟨ba1, bb1, hz1, hB1⟩ := fresh2 hW1
  clear hW1
  have hx := Blk.c9 ba1
  have hy := Blk.c9 bb1
  have H1 := Lib.hid (R2.new bb1 hB1)
  clear ba1 bb1 hz1 hB1
  cases b with
  | true =>
    go_wp2_with fail
    simp only [← HT.out.1, ← HT.out.2]
    refine R2.ret (by repeat (first | exact H1.out | refine R2.set ?_ _ _)) ⟨pages, most, ⟨L1, r1⟩, ⟨L2, r2⟩, true, pl, own⟩ ⟨a1, c1, a2, c2, a3, c3⟩ (fun W' hB _ _ => ?_) rfl rfl rfl rfl
    exact HR.out.below hB
  | false =>
    go_wp2_with fail
    simp only [← HT.out.1, ← HT.out.2]
    refine R2.ret (by repeat (first | exact H1.out | refine R2.set ?_ _ _)) ⟨pages, most, ⟨L1, r1⟩, ⟨L1, r1⟩, true, [], false⟩ ⟨a1, c1, a1, c1, none, 0⟩ (fun W' hB _ _ => ?_) rfl rfl rfl rfl
    have h := HR.out.below hB
    exact ⟨h.sure, h.sure, EOwn.nil _ _⟩
set_option maxRecDepth 20000 in
set_option maxHeartbeats 2000000 in
theorem rrollback_any (w : World) (s : Pag.Sto) (a : SA) (hr : StoR w s a) : Calls Tryz.prog 82 #[stoV s a] w (RetSto w s.rollback.1 s.rollback.2) := by
  obtain ⟨pages, most, ⟨L1, r1⟩, ⟨L2, r2⟩, b, pl, own⟩ := s
  obtain ⟨a1, c1, a2, c2, a3, c3⟩ := a
  have HR := Lib.hid hr
  clear hr
  unfold stoV
  obtain ⟨t1, ht1⟩ : ∃ t1, txt r1 = .string t1 := ⟨_, rfl⟩
  obtain ⟨t2, ht2⟩ : ∃ t2, txt r2 = .string t2 := ⟨_, rfl⟩
  have HT := Lib.hid (And.intro ht1 ht2)
  simp only [ht1, ht2]
  clear ht1 ht2
  go_enter Tryz.func82, Tryz.ntmps82
  go_upto_region 1 with fail
  generalize hW1 : ((World.alloc w (.cells _ _)).alloc (.cells _ _)) = W1
  obtain ⟨ba1, bb1, hz1, hB1⟩ := fresh2 hW1
  clear hW1
  have hx := Blk.c9 ba1
  have hy := Blk.c9 bb1
  have H1 := Lib.hid (R2.new bb1 hB1)
  clear ba1 bb1 hz1 hB1
  cases b with
  | false =>
    go_wp2_with fail
    simp only [← HT.out.1, ← HT.out.2]
    refine R2.ret (by repeat (first | exact H1.out | refine R2.set ?_ _ _)) ⟨pages, most, ⟨L1, r1⟩, ⟨L2, r2⟩, false, pl, own⟩ ⟨a1, c1, a2, c2, a3, c3⟩ (fun W' hB _ _ => ?_) rfl rfl rfl rfl
    exact HR.out.below hB
  | true =>
    go_wp2_with fail
    simp only [← HT.out.1, ← HT.out.2]
    refine R2.ret (by repeat (first | exact H1.out | refine R2.set ?_ _ _)) ⟨pages, most, ⟨L1, r1⟩, ⟨L1, r1⟩, false, pl, own⟩ ⟨a1, c1, a1, c1, a3, c3⟩ (fun W' hB _ _ => ?_) rfl rfl rfl rfl
    have h := HR.out.below hB
    exact ⟨h.sure, h.sure, h.put⟩
set_option maxRecDepth 20000 in
set_option maxHeartbeats 2000000 in
theorem rcommit_any (w : World) (s : Pag.Sto) (a : SA) (hr : StoR w s a) (hl : s.put.length ≤ 1000) : Calls Tryz.prog 80 #[stoV s a] w (RetSto w s.commit.1 s.commit.2) := by
  obtain ⟨pages, most, ⟨L1, r1⟩, ⟨L2, r2⟩, b, pl, own⟩ := s
  obtain ⟨a1, c1, a2, c2, a3, c3⟩ := a
  have HR := Lib.hid hr
  clear hr
  unfold stoV
  obtain ⟨t1, ht1⟩ : ∃ t1, txt r1 = .string t1 := ⟨_, rfl⟩
  obtain ⟨t2, ht2⟩ : ∃ t2, txt r2 = .string t2 := ⟨_, rfl⟩
  have HT := Lib.hid (And.intro ht1 ht2)
  simp only [ht1, ht2]
  clear ht1 ht2
  go_enter Tryz.func80, Tryz.ntmps80
  go_upto_region 1 with fail
  generalize hW1 : ((World.alloc w (.cells _ _)).alloc (.cells _ _)) = W1
  obtain ⟨ba1, bb1, hz1, hB1⟩ := fresh2 hW1
  clear hW1
  have hx := Blk.c9 ba1
  have hy := Blk.c9 bb1
  have H1 := Lib.hid (R2.new bb1 hB1)
  clear ba1 bb1 hz1 hB1
  have hl : pl.length ≤ 1000 := hl
  cases b with
  | false =>
    go_wp2_with fail
    simp only [← HT.out.1, ← HT.out.2]
    refine R2.ret (by repeat (first | exact H1.out | refine R2.set ?_ _ _)) ⟨pages, most, ⟨L1, r1⟩, ⟨L2, r2⟩, false, pl, own⟩ ⟨a1, c1, a2, c2, a3, c3⟩ (fun W' hB _ _ => ?_) rfl rfl rfl rfl
    exact HR.out.below hB
  | true =>
    cases own with
    | true =>
      by_cases hm : most < (pl.length : Int) + 1
      · have HE : Hid (Pag.Sto.commit ⟨pages, most, ⟨L1, r1⟩, ⟨L2, r2⟩, true, pl, true⟩ = (⟨pages, most, ⟨L1, r1⟩, ⟨L1, r1⟩, false, pl, true⟩, 40)) := by show _ = _; unfold Pag.Sto.commit; simp [hm]
        go_wp2_with fail
        rw [HE.out]
        simp only [← HT.out.1, ← HT.out.2]
        refine R2.ret (by repeat (first | exact H1.out | refine R2.set ?_ _ _)) ⟨pages, most, ⟨L1, r1⟩, ⟨L1, r1⟩, false, pl, true⟩ ⟨a1, c1, a1, c1, a3, c3⟩ (fun W' hB _ _ => ?_) rfl rfl rfl rfl
        have h := HR.out.below hB
        exact ⟨h.sure, h.sure, h.put⟩
      · have HE : Hid (Pag.Sto.commit ⟨pages, most, ⟨L1, r1⟩, ⟨L2, r2⟩, true, pl, true⟩ = (⟨pages, most, ⟨L2, r2⟩, ⟨L2, r2⟩, false, pl, true⟩, 0)) := by show _ = _; unfold Pag.Sto.commit; simp [hm]
        go_wp2_with fail
        rw [HE.out]
        simp only [← HT.out.1, ← HT.out.2]
        refine R2.ret (by repeat (first | exact H1.out | refine R2.set ?_ _ _)) ⟨pages, most, ⟨L2, r2⟩, ⟨L2, r2⟩, false, pl, true⟩ ⟨a2, c2, a2, c2, a3, c3⟩ (fun W' hB _ _ => ?_) rfl rfl rfl rfl
        have h := HR.out.below hB
        exact ⟨h.now, h.now, h.put⟩
    | false =>
      by_cases hm : most < (pl.length : Int)
      · have HE : Hid (Pag.Sto.commit ⟨pages, most, ⟨L1, r1⟩, ⟨L2, r2⟩, true, pl, false⟩ = (⟨pages, most, ⟨L1, r1⟩, ⟨L1, r1⟩, false, pl, false⟩, 40)) := by show _ = _; unfold Pag.Sto.commit; simp [hm]
        go_wp2_with fail
        rw [HE.out]
        simp only [← HT.out.1, ← HT.out.2]
        refine R2.ret (by repeat (first | exact H1.out | refine R2.set ?_ _ _)) ⟨pages, most, ⟨L1, r1⟩, ⟨L1, r1⟩, false, pl, false⟩ ⟨a1, c1, a1, c1, a3, c3⟩ (fun W' hB _ _ => ?_) rfl rfl rfl rfl
        have h := HR.out.below hB
        exact ⟨h.sure, h.sure, h.put⟩
      · have HE : Hid (Pag.Sto.commit ⟨pages, most, ⟨L1, r1⟩, ⟨L2, r2⟩, true, pl, false⟩ = (⟨pages, most, ⟨L2, r2⟩, ⟨L2, r2⟩, false, pl, false⟩, 0)) := by show _ = _; unfold Pag.Sto.commit; simp [hm]
        go_wp2_with fail
        rw [HE.out]
        simp only [← HT.out.1, ← HT.out.2]
        refine R2.ret (by repeat (first | exact H1.out | refine R2.set ?_ _ _)) ⟨pages, most, ⟨L2, r2⟩, ⟨L2, r2⟩, false, pl, false⟩ ⟨a2, c2, a2, c2, a3, c3⟩ (fun W' hB _ _ => ?_) rfl rfl rfl rfl
        have h := HR.out.below hB
        exact ⟨h.now, h.now, h.put⟩
set_option maxRecDepth 20000 in
set_option maxHeartbeats 2000000 in
theorem rsetRoot_any (w : World) (s : Pag.Sto) (a : SA) (hr : StoR w s a) (x : List UInt8) : Calls Tryz.prog 79 #[stoV s a, txt x] w (RetSto w (s.setRoot x).1 (s.setRoot x).2) := by
  have hlen : ∃ t, txt x = .string t ∧ t.size = x.length := ⟨_, rfl, by show x.toArray.size = _; simp⟩
  obtain ⟨t, ht, htl⟩ := hlen
  have HX := Lib.hid ht
  rw [ht]
  clear ht
  obtain ⟨pages, most, ⟨L1, r1⟩, ⟨L2, r2⟩, b, pl, own⟩ := s
  obtain ⟨a1, c1, a2, c2, a3, c3⟩ := a
  have HR := Lib.hid hr
  clear hr
  unfold stoV
  obtain ⟨t1, ht1⟩ : ∃ t1, txt r1 = .string t1 := ⟨_, rfl⟩
  obtain ⟨t2, ht2⟩ : ∃ t2, txt r2 = .string t2 := ⟨_, rfl⟩
  have HT := Lib.hid (And.intro ht1 ht2)
  simp only [ht1, ht2]
  clear ht1 ht2
  go_enter Tryz.func79, Tryz.ntmps79
  go_upto_region 1 with fail
  generalize hW1 : ((World.alloc w (.cells _ _)).alloc (.cells _ _)) = W1
  obtain ⟨ba1, bb1, hz1, hB1⟩ := fresh2 hW1
  clear hW1
  have hx := Blk.c9 ba1
  have hy := Blk.c9 bb1
  have H1 := Lib.hid (R2.new bb1 hB1)
  clear ba1 bb1 hz1 hB1
  cases b with
  | false =>
    go_wp2_with fail
    simp only [← HT.out.1, ← HT.out.2]
    refine R2.ret (by repeat (first | exact H1.out | refine R2.set ?_ _ _)) ⟨pages, most, ⟨L1, r1⟩, ⟨L2, r2⟩, false, pl, own⟩ ⟨a1, c1, a2, c2, a3, c3⟩ (fun W' hB _ _ => ?_) rfl rfl rfl rfl
    exact HR.out.below hB
  | true =>
    by_cases hm : (64 : Int) < (t.size : Int)
    · have HE : Hid (Pag.Sto.setRoot ⟨pages, most, ⟨L1, r1⟩, ⟨L2, r2⟩, true, pl, own⟩ x = (⟨pages, most, ⟨L1, r1⟩, ⟨L2, r2⟩, true, pl, own⟩, 4)) := by show _ = _; unfold Pag.Sto.setRoot; rw [if_neg (by simp), if_pos (by omega)]
      clear htl
      go_wp2_with fail
      rw [HE.out]
      simp only [← HT.out.1, ← HT.out.2]
      refine R2.ret (by repeat (first | exact H1.out | refine R2.set ?_ _ _)) ⟨pages, most, ⟨L1, r1⟩, ⟨L2, r2⟩, true, pl, own⟩ ⟨a1, c1, a2, c2, a3, c3⟩ (fun W' hB _ _ => ?_) rfl rfl rfl rfl
      exact HR.out.below hB
    · have HE : Hid (Pag.Sto.setRoot ⟨pages, most, ⟨L1, r1⟩, ⟨L2, r2⟩, true, pl, own⟩ x = (⟨pages, most, ⟨L1, r1⟩, ⟨L2, x⟩, true, pl, true⟩, 0)) := by show _ = _; unfold Pag.Sto.setRoot; rw [if_neg (by simp), if_neg (by omega)]
      clear htl
      go_wp2_with fail
      rw [HE.out]
      simp only [← HT.out.1, ← HT.out.2, ← HX.out]
      refine R2.ret (by repeat (first | exact H1.out | refine R2.set ?_ _ _)) ⟨pages, most, ⟨L1, r1⟩, ⟨L2, x⟩, true, pl, true⟩ ⟨a1, c1, a2, c2, a3, c3⟩ (fun W' hB _ _ => ?_) rfl rfl rfl rfl
      have h := HR.out.below hB
      exact ⟨h.sure, h.now, h.put⟩
end Go.Proofs.YtcfoihihinijlaaGreat
end

section
namespace Go.Proofs.YtcfoihihinijlaaGreat
set_option linter.unusedSimpArgs false
set_option linter.unusedVariables false
open Go.RowKit
section
variable {α : Type} (E : Elem α) {w0 : World} {A : Option Addr} {L : List α}
theorem sizeOf_E (w : World) : (sizeOf E.e).run Tryz.prog w = .ok E.sz w := by
  obtain ⟨i, hi, hz, hs, hby⟩ := info_parts E.info
  simp [sizeOf, typeInfo, hi, hs]
theorem elem_E : Tryz.prog.elem E.t = E.e := by
  unfold Program.elem
  rw [E.under]
theorem row_cutE (h : ERow E w0 A L) (c i n : Nat) (hn : i + n ≤ c) : ERow E w0 (if c = i then A else A.map (·.add (i * E.sz))) ((L.drop i).take n) := by
  by_cases hc : c = i
  · obtain rfl : n = 0 := by omega
    rw [List.take_zero]
    exact ERow.nil
  · rw [if_neg hc]
    exact (h.drop i).take n
theorem cutE_l (h : ERow E w0 A L) (c : Nat) (lo : Int) (i : Nat) (e1 : lo = (i : Int)) (hi : i ≤ L.length) (hc : L.length ≤ c) :
    ∃ As cs, (∀ w, (Instr.slice E.t (.slice A L.length c) (some (.int .i64 lo)) none none).run Tryz.prog w = .ok (.slice As (L.length - i) cs) w) ∧ ERow E w0 As (L.drop i) ∧ L.length - i ≤ cs ∧ cs ≤ c := by
  subst e1
  have hr := row_cutE E h c i (L.length - i) (by omega)
  rw [List.take_of_length_le (by simp)] at hr
  refine ⟨if c = i then A else A.map (·.add (i * E.sz)), c - i, fun w => ?_, hr, by omega, by omega⟩
  rw [run_slice_l (P := Tryz.prog) w E.t A L.length c (by rw [elem_E]; exact E.under) .i64 i (by omega) (by omega), elem_E, sizeOf_E]
  simp [sliced]
theorem cutE_h (A : Option Addr) (len c : Nat) (hi : Int) (n : Nat) (e : hi = (n : Int)) (hc : n ≤ c) (w : World) :
    (Instr.slice E.t (.slice A len c) none (some (.int .i64 hi)) none).run Tryz.prog w = .ok (.slice A n c) w := by
  subst e
  rw [run_slice_h (P := Tryz.prog) w E.t A len c (by rw [elem_E]; exact E.under) .i64 n (by omega) (by omega), elem_E, sizeOf_E]
  simp only [sliced, Result.andThen_ok, Int.toNat_natCast, Nat.sub_zero, Nat.zero_mul]
  cases A with
  | none => simp
  | some a => simp [Addr.add]
theorem EOwn.lit0 {w : World} {B : Nat} (hB : B ≤ w.heap.size) : EOwn E (w.alloc (.cells #[] E.e)) B (some ⟨w.heap.size, 0, none⟩) 0 ([] : List α) :=
  EOwn.new w [] (by simp [maxLen]) hB #[] rfl
end
end Go.Proofs.YtcfoihihinijlaaGreat
end

section
namespace Go.Proofs.YtcfoihihinijlaaGreat
set_option linter.unusedSimpArgs false
set_option linter.unusedVariables false
open Go.RowKit Go.Maps
def RetLyS (w : World) (L : List PgE) (rt : List UInt8) (e : Ending) (w' : World) : Prop :=
  ∃ A c, e = .returned (.agg #[.slice A L.length c, txt rt]) ∧ EOwn ePgE w' w.heap.size A c L ∧ Below w.heap.size w w'
set_option maxRecDepth 20000 in
set_option maxHeartbeats 4000000 in
theorem rlay_any (w : World) (A : Option Addr) (c : Nat) (L : List PgE) (rt : List UInt8) (n : Int) (b : List UInt8) (hr : EOwn ePgE w 0 A c L) (hl : L.length ≤ 1000) :
    Calls Tryz.prog 122 #[.agg #[.slice A L.length c, txt rt], .int .i64 n, txt b] w (RetLyS w (Pag.layL L n b) rt) := by
  have HL := Lib.hid hl
  have hcap := hr.cap
  go_enter Tryz.func122, Tryz.ntmps122
  go_upto_region 1 with fail
  generalize hW1 : ((World.alloc w (.cells _ _)).alloc (.cells _ _)) = W1
  obtain ⟨ba1, bb1, hz1, hB1⟩ := fresh2 hW1
  clear hW1
  have hbl : Blk W1 w.heap.size 36 [.slice A L.length c, txt rt] := ba1
  have hbr : Blk W1 (w.heap.size + 1) 36 [.slice none 0 0, .string ByteArray.empty] := bb1
  have hc1 := hbl.c2
  have HAT := Lib.hid (rat_any W1 A c L rt n (hr.below hB1))
  have H1 := Lib.hid (And.intro hbl (And.intro hbr (And.intro (hr.below hB1) hB1)))
  clear ba1 bb1 hz1 hB1 hbl hbr hr
  go_wp2_with fail
  refine HAT.out.mono ?_
  rintro e w2 ⟨rfl, hb2⟩
  have H2 := Lib.hid (And.intro (H1.out.1.below hb2) (And.intro (H1.out.2.1.below hb2) (And.intro (H1.out.2.2.1.below hb2) (H1.out.2.2.2.then hb2))))
  have hc2 := H2.out.1.c2
  have HI := Lib.hid (Pag.atI_le L n)
  clear hb2 HAT H1 hc1
  obtain ⟨bs, hbs⟩ : ∃ bs, Pag.atB L n = bs := ⟨_, rfl⟩
  obtain ⟨k, hk⟩ : ∃ k : Nat, k = (if bs = true then Pag.atI L n + 1 else Pag.atI L n) := ⟨_, rfl⟩
  have hkl : k ≤ L.length := by
    rw [hk]
    split
    · next e => have := Pag.atB_lt (hbs.trans e); omega
    · exact HI.out
  have HLAY : Hid (Pag.layL L n b = L.take (Pag.atI L n) ++ [(n, b)] ++ L.drop k) := by
    show _ = _
    unfold Pag.layL Pag.restL
    rw [hbs, hk]
    split <;> rfl
  obtain ⟨i, hi⟩ : ∃ i, Pag.atI L n = i := ⟨_, rfl⟩
  rw [hi] at HI HLAY hk ⊢
  rw [hbs]
  have HAN := Lib.hid (And.intro hbs hi)
  clear hbs hi
  obtain ⟨tb, htb⟩ : ∃ t, txt b = .string t := ⟨_, rfl⟩
  obtain ⟨tr, htr⟩ : ∃ t, txt rt = .string t := ⟨_, rfl⟩
  have HTB := Lib.hid (And.intro htb htr)
  rw [htr] at hc2
  simp only [htb, htr]
  clear htb htr
  have hik : (i : Int) ≤ (L.length : Int) := by have := HI.out; omega
  have hcapi : (L.length : Int) ≤ (c : Int) := by omega
  obtain ⟨As1, cs1, hs1', hrow1, -, -⟩ := cutE_l ePgE H2.out.2.2.1.row c (i : Int) i rfl HI.out hcap
  have hs1 : ∀ w, (Instr.slice 34 (.slice A L.length c) (some (.int .i64 (i : Int))) none none).run Tryz.prog w = .ok (.slice As1 (L.length - i) cs1) w := hs1'
  clear hs1'
  have hs2 : ∀ w, (Instr.slice 34 (.slice A L.length c) none (some (.int .i64 (i : Int))) none).run Tryz.prog w = .ok (.slice A i c) w := cutE_h ePgE A L.length c (i : Int) i rfl (Nat.le_trans HI.out hcap)
  have hx : ∃ As cs, ERow ePgE w2 As (L.drop k) ∧ (bs = false → As = As1 ∧ cs = cs1 ∧ k = i) ∧ (bs = true → ∀ w, (Instr.slice 34 (.slice A L.length c) (some (.int .i64 ((i : Int) + 1))) none none).run Tryz.prog w = .ok (.slice As (L.length - k) cs) w) := by
    cases bs with
    | false =>
      obtain rfl : k = i := by rw [hk]; rfl
      exact ⟨As1, cs1, hrow1, fun _ => ⟨rfl, rfl, rfl⟩, fun h => (by cases h)⟩
    | true =>
      obtain rfl : k = i + 1 := by rw [hk]; rfl
      obtain ⟨As2, cs2, h2, hrow2, -, -⟩ := cutE_l ePgE H2.out.2.2.1.row c ((i : Int) + 1) (i + 1) (by omega) hkl hcap
      exact ⟨As2, cs2, hrow2, fun h => (by cases h), fun _ => h2⟩
  obtain ⟨As, cs, hrowk, hxf, hxt⟩ := hx
  have HRK := Lib.hid hrowk
  have HK := Lib.hid hkl
  clear hrow1 hrowk hk hkl
  obtain ⟨T, hT⟩ : ∃ T, L.take i = T := ⟨_, rfl⟩
  have hli : i = T.length := by rw [← hT, List.length_take]; have := HI.out; omega
  have htr := H2.out.2.2.1.row.take i
  rw [hT] at htr HLAY
  have HTR := Lib.hid htr
  have hb1000 : T.length ≤ 1000 := by rw [← hli]; exact Nat.le_trans HI.out hl
  obtain ⟨K, hK⟩ : ∃ K, L.drop k = K := ⟨_, rfl⟩
  have hK1000 : K.length ≤ 1000 := by rw [← hK, List.length_drop]; omega
  have HKL : Hid (L.length - k = K.length) := by show _ = _; rw [← hK, List.length_drop]
  rw [hK] at HRK HLAY
  subst hli
  clear htr hT hK HK
  cases bs with
  | false =>
    obtain ⟨rfl, rfl, rfl⟩ := hxf rfl
    clear hxf hxt
    have hb3 : Below w2.heap.size w2 (w2.alloc (.cells #[] 132)) := Below.alloc1 _ _
    have H3 := Lib.hid (And.intro (EOwn.lit0 ePgE (w := w2) (Nat.le_refl _)) (And.intro (HTR.out.below hb3) hb3))
    clear hb3
    go_upto_region 6 with (at_builtin; refine wpList_append_elems ePgE rfl (.tmp 27) (.tmp 31) rfl _ rfl H3.out.1 rfl _ rfl H3.out.2.1 rfl (by simp; omega) H3.out.2.2.size ?_; intro A5 c5 w5 ho5 hb5 hg5 _)
    have H5 : Hid (EOwn ePgE w5 w2.heap.size A5 c5 T ∧ Below w2.heap.size w2 w5) := ⟨by simpa using ho5, H3.out.2.2.trans hb5⟩
    clear ho5 hb5 hg5 H3
    have hba := Below.alloc1 w5 (.cells #[.int .i64 n, .string tb] 132)
    have H6 := Lib.hid (And.intro (H5.out.1.below hba) (And.intro (ERow.lit ePgE w5 (n, b) #[.int .i64 n, .string tb] (by show [Value.int .i64 n, .string tb] = [.int .i64 n, txt b]; rw [HTB.out.1]) w5.heap.size rfl) (H5.out.2.then hba)))
    clear hba
    go_upto_region 7 with (at_builtin; refine wpList_append_elems ePgE rfl (.tmp 33) (.tmp 37) rfl _ rfl H6.out.1 rfl _ rfl H6.out.2.1 rfl (by simp; omega) H6.out.2.2.size ?_; intro A7 c7 w7 ho7 hb7 hg7 _)
    have hb72 : Below w2.heap.size w2 w7.drew := (H6.out.2.2.trans hb7).drewR
    have H7 : Hid (EOwn ePgE w7.drew w2.heap.size A7 c7 (T ++ [(n, b)]) ∧ ERow ePgE w7.drew As K ∧ w2.heap.size ≤ w7.drew.heap.size ∧ Below w2.heap.size w2 w7.drew) := ⟨ho7, HRK.out.below hb72, hb72.size, hb72⟩
    have hc7 := (H2.out.1.below hb72).c2
    have hd7 := (H2.out.2.1.below hb72).c2
    rw [HTB.out.2] at hc7
    clear hb72 ho7 hb7 hg7 H6 H5 hc2
    refine wp_region_plan (.take 0 (.take 1 (.take 3 (.take 4 (.run 2 [3, 4] (.take 5 (.run 6 [] .fin))))))) (by kernel_rfl) (by kernel_rfl) (by kernel_rfl) (by kernel_rfl) ?_
    repeat' (first | (refine hZ _ _ ?_; clear hZ) | (refine hZ _ ?_; clear hZ) | (refine hZ ?_; clear hZ) | rw [again_nil] | rw [walk_fin] | ((first | rw [walk_take] | rw [walk_run] | rw [again_cons]); intro Z hZ; simp only [sel, List.getElem?_toArray, List.getElem?_cons_zero, List.getElem?_cons_succ]; go_wp2_with (at_builtin; refine wpList_append_elems ePgE rfl (.tmp 39) (.tmp 40) rfl _ rfl H7.out.1 (by simp) _ rfl H7.out.2.1 HKL.out (by simp; omega) H7.out.2.2.1 ?_; intro A9 c9 w9 HO9 HB9 HG9 _; have hc7 := (H2.out.1.below (H7.out.2.2.2.trans HB9)).c2; have hd7 := (H2.out.2.1.below (H7.out.2.2.2.trans HB9)).c2; rw [HTB.out.2] at hc7)))
    go_wp2_with fail
    have hB9 : Below w2.heap.size w2 w9 := H7.out.2.2.2.trans HB9
    have hb := (H2.out.2.1.below hB9).all2 (u := .slice A9 (T.length + 1 + K.length) c9) (v := .string tr)
    have hB := (((H2.out.2.2.2.then hB9).setCell (p := ⟨w.heap.size + 1, 0, none⟩) (Nat.le_succ _) (.slice A9 (T.length + 1 + K.length) c9)).setCell (p := ⟨w.heap.size + 1, 1, none⟩) (Nat.le_succ _) (.string tr))
    have hne : ∀ a, A9 = some a → a.block ≠ w.heap.size + 1 := fun a ha e => by
      have h1 := (HO9.block a ha).1
      have h2 := H2.out.2.1.lt
      omega
    have hrow := ((HO9.set ⟨w.heap.size + 1, 0, none⟩ hne (.slice A9 (T.length + 1 + K.length) c9)).set ⟨w.heap.size + 1, 1, none⟩ hne (.string tr)).mono H2.out.2.2.2.size
    refine ret_mem1 rfl rfl rfl (sta_mem hb) ?_
    rw [HLAY.out]
    refine ⟨A9, c9, ?_, hrow, hB⟩
    rw [HTB.out.2]
    simp
    omega
  | true =>
    have hs3 := hxt rfl
    clear hxf hxt
    have hb3 : Below w2.heap.size w2 (w2.alloc (.cells #[] 132)) := Below.alloc1 _ _
    have H3 := Lib.hid (And.intro (EOwn.lit0 ePgE (w := w2) (Nat.le_refl _)) (And.intro (HTR.out.below hb3) hb3))
    clear hb3
    go_upto_region 6 with (at_builtin; refine wpList_append_elems ePgE rfl (.tmp 27) (.tmp 31) rfl _ rfl H3.out.1 rfl _ rfl H3.out.2.1 rfl (by simp; omega) H3.out.2.2.size ?_; intro A5 c5 w5 ho5 hb5 hg5 _)
    have H5 : Hid (EOwn ePgE w5 w2.heap.size A5 c5 T ∧ Below w2.heap.size w2 w5) := ⟨by simpa using ho5, H3.out.2.2.trans hb5⟩
    clear ho5 hb5 hg5 H3
    have hba := Below.alloc1 w5 (.cells #[.int .i64 n, .string tb] 132)
    have H6 := Lib.hid (And.intro (H5.out.1.below hba) (And.intro (ERow.lit ePgE w5 (n, b) #[.int .i64 n, .string tb] (by show [Value.int .i64 n, .string tb] = [.int .i64 n, txt b]; rw [HTB.out.1]) w5.heap.size rfl) (H5.out.2.then hba)))
    clear hba
    go_upto_region 7 with (at_builtin; refine wpList_append_elems ePgE rfl (.tmp 33) (.tmp 37) rfl _ rfl H6.out.1 rfl _ rfl H6.out.2.1 rfl (by simp; omega) H6.out.2.2.size ?_; intro A7 c7 w7 ho7 hb7 hg7 _)
    have hb72 : Below w2.heap.size w2 w7.drew := (H6.out.2.2.trans hb7).drewR
    have H7 : Hid (EOwn ePgE w7.drew w2.heap.size A7 c7 (T ++ [(n, b)]) ∧ ERow ePgE w7.drew As K ∧ w2.heap.size ≤ w7.drew.heap.size ∧ Below w2.heap.size w2 w7.drew) := ⟨ho7, HRK.out.below hb72, hb72.size, hb72⟩
    have hc7 := (H2.out.1.below hb72).c2
    have hd7 := (H2.out.2.1.below hb72).c2
    rw [HTB.out.2] at hc7
    clear hb72 ho7 hb7 hg7 H6 H5 hc2
    refine wp_region_plan (.take 0 (.take 1 (.take 3 (.take 4 (.run 2 [3, 4] (.take 5 (.run 6 [] .fin))))))) (by kernel_rfl) (by kernel_rfl) (by kernel_rfl) (by kernel_rfl) ?_
    repeat' (first | (refine hZ _ _ ?_; clear hZ) | (refine hZ _ ?_; clear hZ) | (refine hZ ?_; clear hZ) | rw [again_nil] | rw [walk_fin] | ((first | rw [walk_take] | rw [walk_run] | rw [again_cons]); intro Z hZ; simp only [sel, List.getElem?_toArray, List.getElem?_cons_zero, List.getElem?_cons_succ]; go_wp2_with (at_builtin; refine wpList_append_elems ePgE rfl (.tmp 39) (.tmp 40) rfl _ rfl H7.out.1 (by simp) _ rfl H7.out.2.1 HKL.out (by simp; omega) H7.out.2.2.1 ?_; intro A9 c9 w9 HO9 HB9 HG9 _; have hc7 := (H2.out.1.below (H7.out.2.2.2.trans HB9)).c2; have hd7 := (H2.out.2.1.below (H7.out.2.2.2.trans HB9)).c2; rw [HTB.out.2] at hc7)))
    go_wp2_with fail
    have hB9 : Below w2.heap.size w2 w9 := H7.out.2.2.2.trans HB9
    have hb := (H2.out.2.1.below hB9).all2 (u := .slice A9 (T.length + 1 + K.length) c9) (v := .string tr)
    have hB := (((H2.out.2.2.2.then hB9).setCell (p := ⟨w.heap.size + 1, 0, none⟩) (Nat.le_succ _) (.slice A9 (T.length + 1 + K.length) c9)).setCell (p := ⟨w.heap.size + 1, 1, none⟩) (Nat.le_succ _) (.string tr))
    have hne : ∀ a, A9 = some a → a.block ≠ w.heap.size + 1 := fun a ha e => by
      have h1 := (HO9.block a ha).1
      have h2 := H2.out.2.1.lt
      omega
    have hrow := ((HO9.set ⟨w.heap.size + 1, 0, none⟩ hne (.slice A9 (T.length + 1 + K.length) c9)).set ⟨w.heap.size + 1, 1, none⟩ hne (.string tr)).mono H2.out.2.2.2.size
    refine ret_mem1 rfl rfl rfl (sta_mem hb) ?_
    rw [HLAY.out]
    refine ⟨A9, c9, ?_, hrow, hB⟩
    rw [HTB.out.2]
    simp
    omega
theorem EOwn.last {α : Type} {E : Elem α} {W W' : World} {B c g : Nat} {A : Option Addr} {L : List α} (h : EOwn E W B A c L) (hB : g + 1 < B) (hk : ∀ i < W.heap.size, i ≠ g + 1 → W'.heap[i]? = W.heap[i]?) : EOwn E W' 0 A c L :=
  (h.keep fun a ha => hk _ (h.block a ha).2 (by have := (h.block a ha).1; omega)).mono (Nat.zero_le _)
theorem EOwn.low {α : Type} {E : Elem α} {W : World} {B c g i : Nat} {A : Option Addr} {L : List α} (h : EOwn E W B A c L) (hB : g < B) (v : Value) : EOwn E (W.setCell ⟨g, i, none⟩ v) B A c L :=
  h.set _ (fun a ha e => by have := (h.block a ha).1; have : a.block = g := e; omega) v
set_option maxRecDepth 20000 in
set_option maxHeartbeats 2000000 in
theorem rread_any (w : World) (s : Pag.Sto) (a : SA) (hr : StoR w s a) (n : Int) : Calls Tryz.prog 124 #[stoV s a, .int .i64 n] w fun e w' => e = .returned (.tuple #[txt (s.read n).1, .int .i64 (s.read n).2]) ∧ Below w.heap.size w w' := by
  obtain ⟨pages, most, ⟨L1, r1⟩, ⟨L2, r2⟩, b, pl, own⟩ := s
  obtain ⟨a1, c1, a2, c2, a3, c3⟩ := a
  have HR := Lib.hid hr
  clear hr
  unfold stoV
  obtain ⟨t1, ht1⟩ : ∃ t1, txt r1 = .string t1 := ⟨_, rfl⟩
  obtain ⟨t2, ht2⟩ : ∃ t2, txt r2 = .string t2 := ⟨_, rfl⟩
  have HT := Lib.hid (And.intro ht1 ht2)
  simp only [ht1, ht2]
  clear ht1 ht2
  go_enter Tryz.func124, Tryz.ntmps124
  go_upto_region 1 with fail
  generalize hW1 : World.alloc w (.cells _ _) = W1
  obtain ⟨ba1, hz1, hB1⟩ := fresh1 hW1
  clear hW1
  have hx := Blk.c9 ba1
  have hat := rat_any W1 a2 c2 L2 r2 n (HR.out.now.below hB1)
  rw [HT.out.2] at hat
  have HAT := Lib.hid hat
  have H1 := Lib.hid (And.intro ba1 hB1)
  clear ba1 hz1 hB1 hat
  go_wp2_with fail
  refine HAT.out.mono ?_
  rintro e w2 ⟨rfl, hb2⟩
  have hx := Blk.c9 (H1.out.1.below hb2)
  have HB := Lib.hid (H1.out.2.then hb2)
  clear hb2 HAT H1
  cases hb : Pag.atB L2 n with
  | false =>
    have HE : Hid (Pag.Sto.read ⟨pages, most, ⟨L1, r1⟩, ⟨L2, r2⟩, b, pl, own⟩ n = ([], 2)) := by
      show _ = _
      unfold Pag.Sto.read
      dsimp only
      unfold Pag.atB at hb
      cases hq : L2[Pag.atI L2 n]? with
      | none => rfl
      | some p =>
        rw [hq] at hb
        dsimp only at hb ⊢
        rw [if_neg (by simpa using hb)]
    clear hb
    go_wp2_with fail
    go_ret2
    rw [HE.out]
    exact ⟨rfl, HB.out⟩
  | true =>
    have hlt := Pag.atB_lt hb
    obtain ⟨bb, o, rfl, hbb, -, hc⟩ := pge_at (HR.out.now.row.below HB.out) hlt
    obtain ⟨⟨m, x⟩, hmx⟩ : ∃ p, L2[Pag.atI L2 n] = p := ⟨_, rfl⟩
    have HE : Hid (Pag.Sto.read ⟨pages, most, ⟨L1, r1⟩, ⟨L2, r2⟩, b, pl, own⟩ n = (x, 0)) := by
      show _ = _
      unfold Pag.Sto.read
      dsimp only
      unfold Pag.atB at hb
      rw [List.getElem?_eq_getElem hlt, hmx] at hb ⊢
      dsimp only at hb ⊢
      rw [if_pos (by simpa using hb)]
    rw [hmx] at hc
    obtain ⟨tx, htx⟩ : ∃ t, txt x = .string t := ⟨_, rfl⟩
    have HTX := Lib.hid htx
    rw [htx] at hc
    obtain ⟨i, hi⟩ : ∃ i, Pag.atI L2 n = i := ⟨_, rfl⟩
    rw [hi] at hc hlt ⊢
    have hlti : (i : Int) < (L2.length : Int) := by omega
    clear htx hmx hb hi
    go_wp2_with fail
    go_ret2
    rw [HE.out, HTX.out]
    exact ⟨rfl, HB.out⟩
end Go.Proofs.YtcfoihihinijlaaGreat
end

section
namespace Go.Proofs.YtcfoihihinijlaaGreat
set_option linter.unusedSimpArgs false
set_option linter.unusedVariables false
open Go.RowKit Go.Maps
set_option maxRecDepth 20000 in
set_option maxHeartbeats 4000000 in
theorem rputs_any (w : World) (s : Pag.Sto) (a : SA) (hr : StoR w s a) (n : Int) (x : List UInt8) (h1 : s.now.1.length ≤ 1000) (h2 : s.put.length ≤ 1000) : Calls Tryz.prog 75 #[stoV s a, .int .i64 n, txt x] w (RetSto w (s.puts n x).1 (s.puts n x).2) := by
  obtain ⟨tx, htx, htl⟩ : ∃ t, txt x = .string t ∧ t.size = x.length := ⟨_, rfl, by show x.toArray.size = _; simp⟩
  have HX := Lib.hid htx
  rw [htx]
  clear htx
  obtain ⟨pages, most, ⟨L1, r1⟩, ⟨L2, r2⟩, b, pl, own⟩ := s
  obtain ⟨a1, c1, a2, c2, a3, c3⟩ := a
  have HR := Lib.hid hr
  clear hr
  unfold stoV
  obtain ⟨t1, ht1⟩ : ∃ t1, txt r1 = .string t1 := ⟨_, rfl⟩
  obtain ⟨t2, ht2⟩ : ∃ t2, txt r2 = .string t2 := ⟨_, rfl⟩
  have HT := Lib.hid (And.intro ht1 ht2)
  simp only [ht1, ht2]
  clear ht1 ht2
  go_enter Tryz.func75, Tryz.ntmps75
  go_upto_region 1 with fail
  have h1 : L2.length ≤ 1000 := h1
  have h2 : pl.length ≤ 1000 := h2
  have HLE := Lib.hid (And.intro h1 h2)
  clear h1 h2
  generalize hW1 : ((World.alloc w (.cells _ _)).alloc (.cells _ _)) = W1
  obtain ⟨ba1, bb1, hz1, hB1⟩ := fresh2 hW1
  clear hW1
  have hx := Blk.c9 ba1
  have hy := Blk.c9 bb1
  have hat := rat_any W1 a2 c2 L2 r2 n (HR.out.now.below hB1)
  rw [HT.out.2] at hat
  have HAT := Lib.hid hat
  have H1 := Lib.hid (And.intro (R2.new bb1 hB1) (And.intro ba1 bb1))
  clear ba1 bb1 hz1 hB1 hat
  go_wp2_with fail
  refine HAT.out.mono ?_
  rintro e w2 ⟨rfl, hb2⟩
  have H2 := Lib.hid (And.intro (H1.out.1.below hb2) (And.intro (H1.out.2.1.below hb2) (H1.out.2.2.below hb2)))
  have hx := Blk.c9 H2.out.2.1
  have hy := Blk.c9 H2.out.2.2
  clear hb2 HAT H1
  cases b with
  | false =>
    have HE : Hid (Pag.Sto.puts ⟨pages, most, ⟨L1, r1⟩, ⟨L2, r2⟩, false, pl, own⟩ n x = (⟨pages, most, ⟨L1, r1⟩, ⟨L2, r2⟩, false, pl, own⟩, 3)) := rfl
    go_wp2_with fail
    rw [HE.out]
    simp only [← HT.out.1, ← HT.out.2]
    refine R2.ret (by repeat (first | exact H2.out.1 | refine R2.set ?_ _ _)) ⟨pages, most, ⟨L1, r1⟩, ⟨L2, r2⟩, false, pl, own⟩ ⟨a1, c1, a2, c2, a3, c3⟩ (fun W' hB _ _ => ?_) rfl rfl rfl rfl
    exact HR.out.below hB
  | true =>
    cases hb : Pag.atB L2 n with
    | false =>
      have HE : Hid (Pag.Sto.puts ⟨pages, most, ⟨L1, r1⟩, ⟨L2, r2⟩, true, pl, own⟩ n x = (⟨pages, most, ⟨L1, r1⟩, ⟨L2, r2⟩, true, pl, own⟩, 2)) := by show _ = _; unfold Pag.Sto.puts; rw [if_neg (by simp), if_pos hb]
      clear hb
      go_wp2_with fail
      rw [HE.out]
      simp only [← HT.out.1, ← HT.out.2]
      refine R2.ret (by repeat (first | exact H2.out.1 | refine R2.set ?_ _ _)) ⟨pages, most, ⟨L1, r1⟩, ⟨L2, r2⟩, true, pl, own⟩ ⟨a1, c1, a2, c2, a3, c3⟩ (fun W' hB _ _ => ?_) rfl rfl rfl rfl
      exact HR.out.below hB
    | true =>
      by_cases h512 : x.length = 512
      · have htz : (tx.size : Int) = 512 := by omega
        have HE : Hid (Pag.Sto.puts ⟨pages, most, ⟨L1, r1⟩, ⟨L2, r2⟩, true, pl, own⟩ n x = (⟨pages, most, ⟨L1, r1⟩, ⟨Pag.layL L2 n x, r2⟩, true, Pag.putL pl n, own⟩, 0)) := by show _ = _; unfold Pag.Sto.puts; rw [if_neg (by simp), if_neg (by rw [hb]; simp), if_neg (by rw [h512]; simp)]
        have hlay := rlay_any w2.drew a2 c2 L2 r2 n x (HR.out.now.below (H2.out.1.bel.then (Below.refl _ _).drew)) HLE.out.1
        rw [HT.out.2, HX.out] at hlay
        have HLAY := Lib.hid hlay
        clear hlay htl h512 hb
        go_upto_region 8 with fail
        refine wp_region_plan (.take 0 (.take 1 (.take 2 (.take 3 (.take 5 (.take 6 (.take 7 (.run 4 [5, 6, 7] (.take 9 (.run 8 [9] (.run 10 [] (.take 11 (.run 12 [] .fin))))))))))))) (by kernel_rfl) (by kernel_rfl) (by kernel_rfl) (by kernel_rfl) ?_
        repeat' (first | (refine hZ _ _ ?_; clear hZ) | (refine hZ _ ?_; clear hZ) | (refine hZ ?_; clear hZ) | rw [again_nil] | rw [walk_fin] | ((first | rw [walk_take] | rw [walk_run] | rw [again_cons]); intro Z hZ; simp only [sel, List.getElem?_toArray, List.getElem?_cons_zero, List.getElem?_cons_succ]; go_wp2_with (fail)))
        refine HLAY.out.mono ?_
        rintro e w3 ⟨A3, c3', rfl, ho3, hb3⟩
        have hb23 : Below w2.heap.size w2 w3 := (Below.refl _ _).drew.then hb3
        have hput := rput_any w3 a3 c3 pl n (HR.out.put.row.below ((H2.out.1.bel.then hb23))) HLE.out.2
        have HPUT := Lib.hid hput
        have hlo : w.heap.size + 1 < w2.drew.heap.size := H2.out.2.2.lt
        have H3 := Lib.hid (And.intro (H2.out.1.below hb23) (And.intro (H2.out.2.1.below hb23) (And.intro (H2.out.2.2.below hb23) (And.intro ho3 hlo))))
        have hx := Blk.c9 H3.out.2.1
        have hy := Blk.c9 H3.out.2.2.1
        rw [HT.out.2]
        clear hb23 hput hlo hb3 ho3 HLAY H2
        go_wp2_with fail
        repeat' (first | (refine hZ _ _ ?_; clear hZ) | (refine hZ _ ?_; clear hZ) | (refine hZ ?_; clear hZ) | rw [again_nil] | rw [walk_fin] | ((first | rw [walk_take] | rw [walk_run] | rw [again_cons]); intro Z hZ; simp only [sel, List.getElem?_toArray, List.getElem?_cons_zero, List.getElem?_cons_succ]; go_wp2_with (fail)))
        refine HPUT.out.mono ?_
        rintro e w4 ⟨A4, c4, rfl, ho4, hb4⟩
        have hlo4 : w.heap.size + 1 < w3.heap.size := H3.out.2.2.1.lt
        have H4 := Lib.hid (And.intro (H3.out.1.below hb4) (And.intro (H3.out.2.1.below hb4) (And.intro (H3.out.2.2.1.below hb4) (And.intro (H3.out.2.2.2.1.below hb4) (And.intro ho4 (And.intro H3.out.2.2.2.2 hlo4))))))
        have hx := Blk.c9 H4.out.2.1
        have hy := Blk.c9 H4.out.2.2.1
        clear ho4 hb4 hlo4 HPUT H3
        go_wp2_with fail
        repeat' (first | (refine hZ _ _ ?_; clear hZ) | (refine hZ _ ?_; clear hZ) | (refine hZ ?_; clear hZ) | rw [again_nil] | rw [walk_fin] | ((first | rw [walk_take] | rw [walk_run] | rw [again_cons]); intro Z hZ; simp only [sel, List.getElem?_toArray, List.getElem?_cons_zero, List.getElem?_cons_succ]; go_wp2_with (fail)))
        go_wp2_with fail
        rw [HE.out]
        simp only [← HT.out.1, ← HT.out.2]
        refine R2.ret (by repeat (first | exact H4.out.1 | refine R2.set ?_ _ _)) ⟨pages, most, ⟨L1, r1⟩, ⟨Pag.layL L2 n x, r2⟩, true, Pag.putL pl n, own⟩ ⟨a1, c1, A3, c3', A4, c4⟩ (fun W' hB hk _ => ?_) rfl rfl rfl rfl
        obtain ⟨-, -, -, h3, h4, h5, h6⟩ := H4.out
        exact ⟨HR.out.sure.below hB, EOwn.last (((h3.low (by omega) _).low (by omega) _).low (by omega) _) h5 hk, EOwn.last (((h4.low (by omega) _).low (by omega) _).low (by omega) _) h6 hk⟩
      · have htz : ¬ (tx.size : Int) = 512 := by omega
        have HE : Hid (Pag.Sto.puts ⟨pages, most, ⟨L1, r1⟩, ⟨L2, r2⟩, true, pl, own⟩ n x = (⟨pages, most, ⟨L1, r1⟩, ⟨L2, r2⟩, true, pl, own⟩, 1)) := by show _ = _; unfold Pag.Sto.puts; rw [if_neg (by simp), if_neg (by rw [hb]; simp), if_pos h512]
        clear hb h512 htl
        go_wp2_with fail
        rw [HE.out]
        simp only [← HT.out.1, ← HT.out.2]
        refine R2.ret (by repeat (first | exact H2.out.1 | refine R2.set ?_ _ _)) ⟨pages, most, ⟨L1, r1⟩, ⟨L2, r2⟩, true, pl, own⟩ ⟨a1, c1, a2, c2, a3, c3⟩ (fun W' hB _ _ => ?_) rfl rfl rfl rfl
        exact HR.out.below hB
end Go.Proofs.YtcfoihihinijlaaGreat
end

