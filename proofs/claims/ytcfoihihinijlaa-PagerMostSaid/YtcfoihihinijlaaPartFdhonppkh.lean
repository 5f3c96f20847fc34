/-
  Texts of a proof, one behind the other (each with its own head).
-/
import Derived.Test.YtcfoihihinijlaaPartEddpfakhc
section
namespace Go.Proofs.Ytcfoihihinijlaa
set_option linter.unusedSimpArgs false
set_option linter.unusedVariables false
open Go.RowKit Go.Maps
theorem rec_short {w : World} {B lim : Nat} {T : TB} {t : Pag.TX} (h : TxAt w B lim T t) (hl : lim ≤ 1601) : (Pag.record t.all (Pag.keys t.all lim)).length ≤ 900000 := by
  have hk : (Pag.keys t.all lim).length ≤ lim := Pag.keys_length _ _
  have h1 := Pag.record_length t.all (Pag.keys t.all lim) fun n hn => by
    have h1 := Pag.mem_keys.1 hn
    refine ⟨by omega, ?_⟩
    obtain ⟨b, hb⟩ := Option.isSome_iff_exists.1 h1.2
    rw [hb]
    show b.length = 512
    have hp : ∀ i b, t.pages i = some b → b.length = 512 := fun i b hb => by
      obtain ⟨p, -, e, -, h5⟩ := h.map.has_ hb
      rw [← e]; exact h5
    unfold Pag.TX.all at hb
    split at hb
    · unfold Pag.put at hb
      split at hb
      · cases hb
        exact Pag.encode_length _ h.rl
      · exact hp _ _ hb
    · exact hp _ _ hb
  unfold Pag.record
  rw [List.length_append]
  have h2 := (Pag.num_two (Pag.keys t.all lim).length (by omega)).2
  omega
section
variable {g : Pag.PG} {x : Option Pag.TX}
theorem settle_tx (h : g.settle.2 = 0) : ({ g with tx := x } : Pag.PG).settle = ({ g.settle.1 with tx := x }, 0) := by
  unfold Pag.PG.settle at h ⊢
  dsimp only at h ⊢
  split at h
  · next hh => exact absurd h hh
  · next h1 =>
    rw [if_neg h1, if_neg h1]
    split at h
    · next hh => exact absurd h hh
    · next h2 =>
      rw [if_neg h2, if_neg h2]
      split at h
      · next hh => exact absurd h hh
      · next h3 => rw [if_neg h3, if_neg h3]
theorem settle_tx2 (h : g.settle.2 ≠ 0) : ({ g with tx := x } : Pag.PG).settle = g.settle := by
  unfold Pag.PG.settle at h ⊢
  dsimp only at h ⊢
  split
  · rfl
  · next h1 =>
    rw [if_neg h1] at h
    split
    · rfl
    · next h2 =>
      rw [if_neg h2] at h
      split
      · rfl
      · next h3 =>
        rw [if_neg h3] at h
        exact absurd rfl h
theorem settle_keeps (h : g.settle.2 = 0) : g.settle.1.blocks = g.blocks ∧ g.settle.1.pages = g.pages := by
  unfold Pag.PG.settle at h ⊢
  dsimp only at h ⊢
  split
  · exact ⟨rfl, rfl⟩
  · split
    · exact ⟨rfl, rfl⟩
    · split <;> exact ⟨rfl, rfl⟩
end
set_option maxRecDepth 20000 in
set_option maxHeartbeats 8000000 in
theorem pcommit_tx (w0 w : World) (G : GB) (n : Nat) (g : Pag.PG) (t : Pag.TX) (h : PagAt w0 w G n g) (hg : g.tx = some t) (hn : n + 5000 < 1000000) (hb : g.broken = false) :
    Calls Try.prog 11 #[.pointer (some ⟨G.gp, 0, none⟩)] w (RetPg w0 w G (n + 5000) g.commit.1 g.commit.2) := by
  obtain ⟨K, hK⟩ : ∃ K, Pag.keys t.all (g.pages + 1) = K := ⟨_, rfl⟩
  have HK := Lib.hid hK
  have HG := Lib.hid hg
  have HPG := Lib.hid h.rest.pages
  have HBL := Lib.hid h.rest.blocks
  obtain ⟨T, hT⟩ : ∃ T, G.tx = some T := by
    rcases h.split with ⟨-, q2⟩ | ⟨T', t', q1, -⟩
    · rw [hg] at q2; cases q2
    · exact ⟨T', q1⟩
  have HT := Lib.hid hT
  have H0 := Lib.hid h
  have HSH : Hid ((Pag.record t.all K).length ≤ 900000) := by
    show _ ≤ _
    rw [← hK]
    exact rec_short (h.txAt hT hg) (by have := HPG.out; omega)
  have HB := Lib.hid (pbroken_any w0 w G n g h)
  rw [hb] at HB
  have hc := h.cellsS hT
  have hct := (h.txAt hT hg).blk.c4
  obtain ⟨R, hR⟩ : ∃ R, g.commit = R := ⟨_, rfl⟩
  have HR : Hid (R = if K = [] then ({ g with tx := none }, 0) else if Pag.most g.blocks < (K.length : Int) then ({ g with tx := none }, 40) else if (g.l.room - g.l.data.length : Int) < ((Pag.record t.all K).length : Int) + 16 then (if g.settle.2 ≠ 0 then g.settle else g.settle.1.keep t K) else g.keep t K) := by
    show _ = _
    rw [← hR]
    unfold Pag.PG.commit
    rw [hg]
    simp only
    rw [if_neg (by rw [hb]; simp), hK]
  rw [hR]
  clear h hg hb hK hT hR
  go_enter Try.func11, Try.ntmps11
  go_wp2_with fail
  refine HB.out.mono ?_
  rintro e w1 ⟨rfl, rfl⟩
  go_upto_if 29 with fail
  go_cut [29] from 29 to 39 (fun v29 wx => ∃ F2, Hid (PagAt w0 wx { G with tx := some { T with F := F2 } } n { g with tx := some { t with pages := t.all } } ∧ Keeps w wx G.own))
  case first =>
    cases ho : t.own with
    | true =>
      rw [ho] at hct
      have hall : t.all = Pag.put t.pages 0 (Pag.encode t.m) := by unfold Pag.TX.all; rw [if_pos ho]
      have HALL := Lib.hid hall
      have hta := H0.out.txAt HT.out HG.out
      have hbd : Below w.heap.size w w.drew := (Below.refl _ _).drew
      have HEN := Lib.hid (encode_any w.drew t.m _ T.au T.cu T.ar T.cr (hta.used.below hbd) hta.ul (hta.root.row.below hbd) hta.rl)
      have HEL : Hid ((Pag.encode t.m).length = 512) := Pag.encode_length _ hta.rl
      have HP1 : Hid (0 < g.pages + 1) := Nat.succ_pos _
      have HP2 : Hid (g.pages + 1 < 100000000) := by show _ < _; have := HPG.out; omega
      clear ho hall hta hbd
      go_wp2_with fail
      refine wp_region_plan (.take 0 (.take 1 (.take 2 (.take 3 (.take 4 (.take 5 (.take 6 (.take 7 (.run 8 [0, 1, 2, 3] (.run 9 [] .fin)))))))))) (by kernel_rfl) (by kernel_rfl) (by kernel_rfl) (by kernel_rfl) ?_
      repeat' (first | (refine hZ _ _ ?_; clear hZ) | (refine hZ _ ?_; clear hZ) | (refine hZ ?_; clear hZ) | rw [again_nil] | rw [walk_fin] | ((first | rw [walk_take] | rw [walk_run] | rw [again_cons]); intro Z hZ; simp only [sel, List.getElem?_toArray, List.getElem?_cons_zero, List.getElem?_cons_succ]; go_wp2_with (fail)))
      refine (show Calls _ _ #[.agg #[.slice T.au t.m.used.length T.cu, .slice T.ar t.m.root.length T.cr]] _ _ from HEN.out).mono ?_
      rintro e w2 ⟨A2, c2, rfl, ho2, hb2⟩
      have hbd : Below w.heap.size w w2 := (Below.refl _ _).drew.trans hb2
      have hp2 := H0.out.below hbd
      have HM := Lib.hid (hp2.txAt HT.out HG.out).map
      replace hc := hp2.cellsS HT.out
      replace hct := (hp2.txAt HT.out HG.out).blk.c4
      have H2 := Lib.hid (And.intro hp2 (And.intro ho2 hbd))
      clear ho2 hb2 hbd hp2 HEN
      go_wp2_with fail
      repeat' (first | (refine hZ _ _ ?_; clear hZ) | (refine hZ _ ?_; clear hZ) | (refine hZ ?_; clear hZ) | rw [again_nil] | rw [walk_fin] | ((first | rw [walk_take] | rw [walk_run] | rw [again_cons]); intro Z hZ; simp only [sel, List.getElem?_toArray, List.getElem?_cons_zero, List.getElem?_cons_succ]; go_wp2_with (refine wpList_pg_update rfl rfl _ _ _ rfl rfl HM.out.map 0 rfl HP1.out HP2.out _ rfl ?_; intro w3 hm3 hg3; have H3 := Lib.hid (And.intro hm3 hg3); clear hm3 hg3)))
      go_wp2_with fail
      go_meet
      case rel =>
        obtain ⟨hm3, hg3⟩ := H3.out
        obtain ⟨hp2, ho2, hbd⟩ := H2.out
        have hpm := HM.out.put (p := ⟨A2, c2, Pag.encode t.m⟩) hm3 hg3 (BRowU.own ho2) HEL.out
        refine ⟨fun j => if j = 0 then some ⟨A2, c2, Pag.encode t.m⟩ else T.F j, ?_, (Keeps.of_below hbd).trans ((Keeps.of_grown hg3).mono fun i hi => .inr (.inr (.inr (.inr ⟨T, HT.out, .inr (.inl hi)⟩))))⟩
        have hfin := hp2.txMap HT.out HG.out hpm hg3
        rw [HALL.out]
        exact hfin
    | false =>
      rw [ho] at hct
      have hall : t.all = t.pages := by unfold Pag.TX.all; rw [if_neg (by rw [ho]; simp)]
      have HALL := Lib.hid hall
      clear ho hall
      go_wp2_with fail
      go_meet
      case rel =>
        refine ⟨T.F, ?_, Keeps.refl _ _⟩
        rw [HALL.out]
        have h := H0.out
        have e1 : ({ G with tx := some { T with F := T.F } } : GB) = G := by rw [← HT.out]
        have e2 : ({ g with tx := some { t with pages := t.pages } } : Pag.PG) = g := by rw [← HG.out]
        rw [e1, e2]
        exact h
  case rest =>
    obtain ⟨F2, HX⟩ := hcut
    have hta := HX.out.1.txAt rfl rfl
    have hc := HX.out.1.cellsS rfl
    have hct := hta.blk.c4
    have hKL : nkeys (fun i => (F2 i).map Bp.v) (g.pages + 1) = K := by rw [hta.map.keys]; exact HK.out
    have HKL := Lib.hid hKL
    have HTA := Lib.hid hta
    have hfr := HX.out.1.free
    clear hta hKL
    by_cases hk0 : K = []
    · have HRE : Hid (R = ({ g with tx := none }, 0)) := by show _ = _; rw [HR.out, if_pos hk0]
      have HL0 : Hid ((nkeys (fun i => (F2 i).map Bp.v) (g.pages + 1)).length = 0) := by show _ = _; rw [HKL.out, hk0]; rfl
      clear hk0 HR
      go_wp2_with (refine wpList_pg_len rfl _ rfl rfl HTA.out.map.map ?_; rw [HL0.out])
      go_ret
      rw [HRE.out]
      have hd : PagAt w0 (wc.setCell ⟨G.gp, 8, none⟩ (.pointer none)) { G with tx := none } n { g with tx := none } := HX.out.1.dropTx
      refine ⟨{ G with tx := none }, rfl, rfl, rfl, hd.more (by omega), fun i hi => .inl (G.own_noTx hi), HX.out.2.set ⟨G.gp, 8, none⟩ (.inl (.inr (.inr (.inl rfl)))) _⟩
    · have HKP : Hid (K.length ≠ 0) := by show _ ≠ _; simpa using hk0
      have HRE : Hid (R = if Pag.most g.blocks < (K.length : Int) then ({ g with tx := none }, 40) else if (g.l.room - g.l.data.length : Int) < ((Pag.record t.all K).length : Int) + 16 then (if g.settle.2 ≠ 0 then g.settle else g.settle.1.keep t K) else g.keep t K) := by show _ = _; rw [HR.out, if_neg hk0]
      have HKN : Hid ((nkeys (fun i => (F2 i).map Bp.v) (g.pages + 1)).length = K.length) := by show _ = _; rw [HKL.out]
      have hkl : K.length ≤ 1601 := by rw [← HKL.out]; exact Nat.le_trans (nkeys_le _ _) (by have := HPG.out; omega)
      have hk1 : ((K.length : Int) == 0) = false := by have := HKP.out; simp; omega
      clear hk0 HR
      have hbd : Below wc.heap.size wc wc.drew := (Below.refl _ _).drew
      have HMO := Lib.hid (most_any wc.drew g.blocks (by omega) (by have := HBL.out; omega))
      clear hbd
      go_wp2_with (refine wpList_pg_len rfl _ rfl rfl HTA.out.map.map ?_; rw [HKN.out])
      refine wp_region_plan (.take 0 (.take 1 (.take 2 (.take 3 (.take 4 (.take 5 (.take 6 (.take 7 (.take 8 (.run 9 [] (.take 10 .fin))))))))))) (by kernel_rfl) (by kernel_rfl) (by kernel_rfl) (by kernel_rfl) ?_
      repeat' (first | (refine hZ _ _ ?_; clear hZ) | (refine hZ _ ?_; clear hZ) | (refine hZ ?_; clear hZ) | rw [again_nil] | rw [walk_fin] | ((first | rw [walk_take] | rw [walk_run] | rw [again_cons]); intro Z hZ; simp only [sel, List.getElem?_toArray, List.getElem?_cons_zero, List.getElem?_cons_succ]; go_wp2_with (refine wpList_pg_len rfl _ rfl rfl HTA.out.map.map ?_; rw [HKN.out])))
      refine HMO.out.mono ?_
      rintro e w5 ⟨rfl, rfl⟩
      by_cases hmo : Pag.most g.blocks < (K.length : Int)
      · have HRE2 : Hid (R = ({ g with tx := none }, 40)) := by show _ = _; rw [HRE.out, if_pos hmo]
        clear HRE HMO
        go_wp2_with fail
        repeat' (first | (refine hZ _ _ ?_; clear hZ) | (refine hZ _ ?_; clear hZ) | (refine hZ ?_; clear hZ) | rw [again_nil] | rw [walk_fin] | ((first | rw [walk_take] | rw [walk_run] | rw [again_cons]); intro Z hZ; simp only [sel, List.getElem?_toArray, List.getElem?_cons_zero, List.getElem?_cons_succ]; go_wp2_with (refine wpList_pg_len rfl _ rfl rfl HTA.out.map.map ?_; rw [HKN.out])))
        go_wp2_with fail
        go_ret
        rw [HRE2.out]
        have hd : PagAt w0 (wc.setCell ⟨G.gp, 8, none⟩ (.pointer none)) { G with tx := none } n { g with tx := none } := HX.out.1.dropTx
        refine ⟨{ G with tx := none }, rfl, rfl, rfl, (hd.more (by omega)).below (Below.refl _ _).drew, fun i hi => .inl (G.own_noTx hi), ?_⟩
        exact (HX.out.2.set ⟨G.gp, 8, none⟩ (.inl (.inr (.inr (.inl rfl)))) _).then (Below.refl _ _).drew
      · have HRE2 : Hid (R = if (g.l.room - g.l.data.length : Int) < ((Pag.record t.all K).length : Int) + 16 then (if g.settle.2 ≠ 0 then g.settle else g.settle.1.keep t K) else g.keep t K) := by show _ = _; rw [HRE.out, if_neg hmo]
        clear HRE HMO
        go_wp2_with fail
        repeat' (first | (refine hZ _ _ ?_; clear hZ) | (refine hZ _ ?_; clear hZ) | (refine hZ ?_; clear hZ) | rw [again_nil] | rw [walk_fin] | ((first | rw [walk_take] | rw [walk_run] | rw [again_cons]); intro Z hZ; simp only [sel, List.getElem?_toArray, List.getElem?_cons_zero, List.getElem?_cons_succ]; go_wp2_with (refine wpList_pg_len rfl _ rfl rfl HTA.out.map.map ?_; rw [HKN.out])))
        go_upto_region 13 with fail
        have hbd : Below wc.heap.size wc wc.drew := (Below.refl _ _).drew
        have H9 : Hid (PagAt w0 wc.drew { G with tx := some { T with F := F2 } } n { g with tx := some { t with pages := t.all } } ∧ Keeps w wc.drew G.own) := ⟨HX.out.1.below hbd, HX.out.2.then hbd⟩
        clear HX HTA hbd hmo hc hct
        generalize wc.drew = wd at H9 ⊢
        have hc := H9.out.1.cellsS rfl
        have hta := H9.out.1.txAt rfl rfl
        have hct := hta.blk.c4
        obtain ⟨D, hown, hD⟩ := hta.map.map
        have HOW := Lib.hid hown
        have HDD := Lib.hid hD
        clear hta hown hD
        go_upto_region 14 with (refine wpList_pg_range rfl _ rfl D rfl HOW.out ?_; intro we hre hbe hse)
        have H10 : Hid (we.ranges Try.prog 3 heldE T.gm wd.heap.size (g.pages + 1) D (has D) (Maps.size D) ∧ Below wd.heap.size wd we) := ⟨hre, hbe⟩
        clear hre hbe hse hc hct
        obtain ⟨r, hr⟩ : ∃ r, wd.heap.size = r := ⟨_, rfl⟩
        have HRR := Lib.hid hr
        rw [hr] at H10 ⊢
        clear hr
        go_loopw [4] (fun ov wr => ∃ (L : List Nat) (A : Option Addr) (c : Nat) (left : Lit → Bool) (cnt : Nat), L.length ≤ 1601 ∧ ov = .slice A L.length c ∧ Hid (EOwn eInt wr r A c (L.map fun n : Nat => (n : Int)) ∧ wr.ranges Try.prog 3 heldE T.gm r (g.pages + 1) D left cnt ∧ CollI D left L ∧ Below r wd wr)) (fun _ wr => wr.rangeLeft T.gm r)
        case atStart => exact ⟨[], none, 0, _, _, Nat.zero_le _, rfl, EOwn.nil _ _, H10.out.1, CollI.start D, H10.out.2⟩
        case round =>
          obtain ⟨L, A, c, left, cnt, hll, rfl, HJ⟩ := hrel
          have hmeas := HJ.out.2.1.left_eq
          have HLM : Hid (L.length = (L.map fun n : Nat => (n : Int)).length) := by show _ = _; simp
          go_wp2_with (first
            | (refine wpList_pg_next rfl _ rfl rfl HJ.out.2.1 HJ.out.2.2.1 HDD.out ?_ ?_; intro hl0; rotate_left; intro k cv w6 left' cnt' hC' hkl hr' hlt' hg' hen; have H6 := Lib.hid (coll_more HJ.out.1 HJ.out.2.1 HJ.out.2.2.2 hr' hg' (k : Int)); clear hr' hg')
            | (at_builtin; refine wpList_append_elems eInt rfl (.tmp 71) (.tmp 73) rfl _ rfl H6.out.1 HLM.out _ rfl H6.out.2.1 rfl (by rw [← HLM.out]; simp; omega) H6.out.2.2.2.2 ?_; intro A7 c7 w7 ho7 hb7 hg7 _; have H7 := Lib.hid (And.intro ho7 (And.intro (ranges_append H6.out.2.2.1 H6.out.1 hg7) (H6.out.2.2.2.1.trans hb7))); clear ho7 hb7 hg7))
          case roundEnd =>
            refine ⟨⟨L ++ [k], A7, c7, left', cnt', ?_, by simp, ?_⟩, ?_⟩
            · exact Nat.le_trans (hC'.len HDD.out) (by have := HPG.out; omega)
            · refine ⟨?_, H7.out.2.1, hC', H7.out.2.2⟩
              have := H7.out.1
              rw [List.map_append]
              exact this
            · rw [H7.out.2.1.left_eq, hmeas]
              exact hlt'
          have hsorted := HJ.out.2.2.1.done hl0 HDD.out
          rw [HKL.out] at hsorted
          have HSO := Lib.hid hsorted
          have hll2 : (L.map fun n : Nat => (n : Int)).length ≤ 1000000 := by simp; omega
          have HSI := Lib.hid (sortI_any wr r c A _ HJ.out.1 hll2)
          have hLK : L.length = K.length := by
            have := congrArg List.length hsorted
            rw [List.length_mergeSort, List.length_map, List.length_map] at this
            exact this
          rw [hsorted, ← HLM.out, hLK] at HSI
          rw [hLK]
          have HBW := Lib.hid HJ.out.2.2.2
          clear hsorted hll2 hLK hl0 hmeas hll HJ HLM
          refine HSI.out.mono ?_
          rintro e w7 ⟨rfl, ho7, hg7⟩
          have HB7 : Hid (Below wd.heap.size wd w7) := by
            show Below _ _ _
            rw [HRR.out]
            refine HBW.out.grown hg7 (HRR.out ▸ HBW.out.size) fun j hj => ?_
            cases hA : A with
            | none => rw [hA] at hj; cases hj
            | some a =>
              rw [hA] at hj
              cases hj
              exact (ho7.block a hA).1
          have hKlen : (K.map fun n : Nat => (n : Int)).length = K.length := List.length_map _
          obtain ⟨aa, rfl, -⟩ := in_own ho7 (i := 0) (by rw [hKlen]; have := HKP.out; omega)
          have HO7 := Lib.hid ho7
          have hw64 := w64_small (n := K.length) (by omega)
          have HNM := Lib.hid (wnum_any w7 K.length (by unfold two64; omega))
          clear ho7 hg7 HSI HBW hKlen
          go_wp2_with fail
          refine HNM.out.mono ?_
          rintro e w8 ⟨A8, c8, rfl, ho8, hb8⟩
          have H8 : Hid (recTo t.all K 0 = Wire.num K.length ∧ BRowU w8 A8 (recTo t.all K 0) ∧ EOwn eInt w8 r (some ⟨aa, 0, none⟩) c (K.map fun n : Nat => (n : Int)) ∧ Below wd.heap.size wd w8) := by
            have e : recTo t.all K 0 = Wire.num K.length := by simp [recTo]
            exact ⟨e, e ▸ BRowU.own ho8, HO7.out.below hb8, HB7.out.then hb8⟩
          clear ho8 hb8 HNM hw64
          go_wp2_with fail
          go_loopw [6, 83] (fun sv iv wr => ∃ (i : Nat) (A6 : Option Addr) (c6 : Nat), i ≤ K.length ∧ iv = .int .i64 (i : Int) ∧ sv = .slice A6 (recTo t.all K i).length c6 ∧ Hid (BRowU wr A6 (recTo t.all K i) ∧ EOwn eInt wr r (some ⟨aa, 0, none⟩) c (K.map fun n : Nat => (n : Int)) ∧ Below wd.heap.size wd wr)) (fun _ iv _ => K.length - (intOf iv).toNat)
          case atStart => exact ⟨0, A8, c8, Nat.zero_le _, by go_num, by rw [H8.out.1], H8.out.2⟩
          case round =>
            obtain ⟨i, A6, c6, hi, rfl, rfl, HJ⟩ := hrel
            by_cases hlt : i < K.length
            · have hii : (i : Int) < (K.length : Int) := by omega
              obtain ⟨a', ha', hcell⟩ := in_own HJ.out.2.1 (i := i) (by rw [List.length_map]; exact hlt)
              cases ha'
              rw [List.getElem_map] at hcell
              have HST := Lib.hid (recTo_step t.all K i hlt)
              have hmem : K[i] ∈ K := List.getElem_mem hlt
              obtain ⟨kk, hkk⟩ : ∃ kk, K[i] = kk := ⟨_, rfl⟩
              rw [hkk] at hcell HST hmem
              have HPW := Lib.hid (H9.out.1.below HJ.out.2.2)
              have hc := HPW.out.cellsS rfl
              have hta := HPW.out.txAt rfl rfl
              have hct := hta.blk.c4
              have hkn : kk < g.pages + 1 ∧ (t.all kk).isSome = true := by
                have h1 := HK.out
                rw [← h1] at hmem
                exact Pag.mem_keys.1 hmem
              obtain ⟨bs, hbs⟩ := Option.isSome_iff_exists.1 hkn.2
              obtain ⟨p, hF, hl, hrow, h512⟩ := hta.map.has_ hbs
              have HF : Hid (((F2 kk).map Bp.v).getD (.slice none 0 0) = .slice p.a p.l.length p.c) := by show _ = _; rw [show F2 kk = some p from hF]; rfl
              have HGD : Hid ((t.all kk).getD [] = p.l) := by show _ = _; rw [hbs, hl]; rfl
              have HM := Lib.hid hta.map.map
              have HKB : Hid (kk < 9223372036854775808) := by show kk < _; have := HPG.out; omega
              have hw64 := w64_small (n := kk) (by have := HPG.out; omega)
              have HRW := Lib.hid (And.intro hrow h512)
              have HKS : Hid (kk ≤ 1600) := by show kk ≤ _; have := HPG.out; omega
              clear hta hmem hkk hkn hbs hF hl hrow h512
              go_upto_region 22 with fail
              refine wp_region_plan (.take 0 (.take 1 (.take 2 (.take 4 (.take 5 (.take 6 (.take 7 (.take 8 (.take 9 (.take 10 (.run 3 [0, 4, 5, 6, 7, 8, 9, 10] (.run 11 [0] (.run 12 [] (.run 13 [] (.take 14 .fin))))))))))))))) (by kernel_rfl) (by kernel_rfl) (by kernel_rfl) (by kernel_rfl) ?_
              repeat' (first | (refine hZ _ _ ?_; clear hZ) | (refine hZ _ ?_; clear hZ) | (refine hZ ?_; clear hZ) | rw [again_nil] | rw [walk_fin] | ((first | rw [walk_take] | rw [walk_run] | rw [again_cons]); intro Z hZ; simp only [sel, List.getElem?_toArray, List.getElem?_cons_zero, List.getElem?_cons_succ]; go_wp2_with (first | (refine wpList_pg_at rfl _ _ rfl rfl HM.out kk rfl HKB.out (zero_bytes _) _ HF.out ?_) | (refine wpList_str_of rfl _ rfl rfl rfl HRW.out.1.row ?_))))
              refine (wnum_any wr.drew kk (by have := HKS.out; unfold two64; omega)).mono ?_
              rintro e w9 ⟨A9, c9, rfl, ho9, hb9⟩
              have hbd : Below wr.heap.size wr w9 := (Below.refl _ _).drew.trans hb9
              have HPW9 := Lib.hid (HPW.out.below hbd)
              replace hc := HPW9.out.cellsS rfl
              replace hct := (HPW9.out.txAt rfl rfl).blk.c4
              replace HM := Lib.hid (HPW9.out.txAt rfl rfl).map.map
              replace HRW := Lib.hid (And.intro (HRW.out.1.below hbd) HRW.out.2)
              have H9a := Lib.hid (And.intro ho9 (And.intro hbd (And.intro (HJ.out.1.below hbd) (And.intro (HJ.out.2.1.below hbd) (HJ.out.2.2.then hbd)))))
              replace hcell := cell_later hbd hcell
              clear ho9 hb9 hbd HPW
              go_wp2_with fail
              repeat' (first | (refine hZ _ _ ?_; clear hZ) | (refine hZ _ ?_; clear hZ) | (refine hZ ?_; clear hZ) | rw [again_nil] | rw [walk_fin] | ((first | rw [walk_take] | rw [walk_run] | rw [again_cons]); intro Z hZ; simp only [sel, List.getElem?_toArray, List.getElem?_cons_zero, List.getElem?_cons_succ]; go_wp2_with (first | (refine wpList_pg_at rfl _ _ rfl rfl HM.out kk rfl HKB.out (zero_bytes _) _ HF.out ?_) | (refine wpList_str_of rfl _ rfl rfl rfl HRW.out.1.row ?_))))
              refine (wtext_any w9 p.l (by have := HRW.out.2; omega)).mono ?_
              rintro e w10 ⟨A10, c10, rfl, ho10, hb10⟩
              have HPW10 := Lib.hid (HPW9.out.below hb10)
              replace hc := HPW10.out.cellsS rfl
              replace hct := (HPW10.out.txAt rfl rfl).blk.c4
              replace HM := Lib.hid (HPW10.out.txAt rfl rfl).map.map
              replace HRW := Lib.hid (And.intro (HRW.out.1.below hb10) HRW.out.2)
              have H10a := Lib.hid (And.intro ho10 (And.intro (H9a.out.1.below hb10) (And.intro (H9a.out.2.2.1.below hb10) (And.intro (H9a.out.2.2.2.1.below hb10) (H9a.out.2.2.2.2.then hb10)))))
              replace hcell := cell_later hb10 hcell
              clear ho10 hb10 HPW9 H9a
              go_wp2_with fail
              repeat' (first | (refine hZ _ _ ?_; clear hZ) | (refine hZ _ ?_; clear hZ) | (refine hZ ?_; clear hZ) | rw [again_nil] | rw [walk_fin] | ((first | rw [walk_take] | rw [walk_run] | rw [again_cons]); intro Z hZ; simp only [sel, List.getElem?_toArray, List.getElem?_cons_zero, List.getElem?_cons_succ]; go_wp2_with (first | (refine wpList_pg_at rfl _ _ rfl rfl HM.out kk rfl HKB.out (zero_bytes _) _ HF.out ?_) | (refine wpList_str_of rfl _ rfl rfl rfl HRW.out.1.row ?_))))
              have hrl : (recTo t.all K (i + 1)).length ≤ 900000 := Nat.le_trans (recTo_le _ _ _) HSH.out
              have hst := HST.out
              rw [HGD.out] at hst
              have hlen3 : (recTo t.all K i).length + (Wire.num kk).length + (Wire.text p.l).length ≤ 900000 := by
                rw [hst, List.length_append, List.length_append] at hrl
                omega
              refine (bconcat3 _ _ 3 ⟨A6, c6, recTo t.all K i⟩ ⟨A9, c9, Wire.num kk⟩ ⟨A10, c10, Wire.text p.l⟩ (Row.new _ _ _) ⟨H10a.out.2.2.1.row.alloc _, ?_⟩ ⟨H10a.out.2.1.row.alloc _, ?_⟩ ⟨H10a.out.1.row.alloc _, ?_⟩ ?_).mono ?_
              · show (recTo t.all K i).length ≤ _; omega
              · show (Wire.num kk).length ≤ _; omega
              · show (Wire.text p.l).length ≤ _; omega
              · show (recTo t.all K i).length + (Wire.num kk).length + (Wire.text p.l).length ≤ _; omega
              rintro e w11 ⟨A11, c11, rfl, ho11, hb11⟩
              have hba := ((Below.refl w10.heap.size w10).alloc (Nat.le_refl _) (.cells #[(⟨A6, c6, recTo t.all K i⟩ : Part).v, (⟨A9, c9, Wire.num kk⟩ : Part).v, (⟨A10, c10, Wire.text p.l⟩ : Part).v] 39)).then hb11
              have HPW11 := Lib.hid (HPW10.out.below hba)
              replace hc := HPW11.out.cellsS rfl
              replace hct := (HPW11.out.txAt rfl rfl).blk.c4
              replace HM := Lib.hid (HPW11.out.txAt rfl rfl).map.map
              replace HRW := Lib.hid (And.intro (HRW.out.1.below hba) HRW.out.2)
              have H11 : Hid (BRowU w11 A11 (recTo t.all K (i + 1)) ∧ EOwn eInt w11 r (some ⟨aa, 0, none⟩) c (K.map fun n : Nat => (n : Int)) ∧ Below wd.heap.size wd w11) := by
                refine ⟨?_, H10a.out.2.2.2.1.below hba, H10a.out.2.2.2.2.then hba⟩
                rw [hst]
                exact BRowU.own ho11
              have HLL : Hid ((recTo t.all K i ++ (Wire.num kk ++ Wire.text p.l)).length = (recTo t.all K (i + 1)).length) := by show _ = _; rw [hst]
              replace hcell := cell_later hba hcell
              simp only
              rw [HLL.out]
              clear ho11 hb11 hba HPW10 H10a hst hrl hlen3 HST
              go_wp2_with fail
              repeat' (first | (refine hZ _ _ ?_; clear hZ) | (refine hZ _ ?_; clear hZ) | (refine hZ ?_; clear hZ) | rw [again_nil] | rw [walk_fin] | ((first | rw [walk_take] | rw [walk_run] | rw [again_cons]); intro Z hZ; simp only [sel, List.getElem?_toArray, List.getElem?_cons_zero, List.getElem?_cons_succ]; go_wp2_with (first | (refine wpList_pg_at rfl _ _ rfl rfl HM.out kk rfl HKB.out (zero_bytes _) _ HF.out ?_) | (refine wpList_str_of rfl _ rfl rfl rfl HRW.out.1.row ?_))))
              go_wp2_with fail
              go_roundw
              case rel => exact ⟨i + 1, A11, c11, by omega, by go_num, rfl, H11.out⟩
              case measure => simp [intOf]; omega
            · have hii : ¬ (i : Int) < (K.length : Int) := by omega
              obtain rfl : i = K.length := by omega
              have hrec := recTo_all t.all K
              rw [hrec] at HJ ⊢
              generalize hrd : Pag.record t.all K = rec at *
              have HRD := Lib.hid hrd
              clear hrd
              have HPW := Lib.hid (H9.out.1.below HJ.out.2.2)
              have hc := HPW.out.cellsS rfl
              have HRM := Lib.hid (wroom_any wr _ G.k G.gl g.l HPW.out.wl.log)
              have hsh := HSH.out
              clear hrec
              go_wp2_with fail
              refine HRM.out.mono ?_
              rintro e w9 ⟨rfl, rfl⟩
              have hbd : Below wr.heap.size wr wr.drew := (Below.refl _ _).drew
              have HPD := Lib.hid (HPW.out.below hbd)
              have H20 : Hid (BRowU wr.drew A6 rec ∧ EOwn eInt wr.drew r (some ⟨aa, 0, none⟩) c (K.map fun n : Nat => (n : Int)) ∧ Keeps w wr.drew G.own) := ⟨HJ.out.1.below hbd, HJ.out.2.1.below hbd, (H9.out.2.then HJ.out.2.2).then hbd⟩
              replace hc := HPD.out.cellsS rfl
              clear hbd HPW HJ HRM
              generalize wr.drew = wq at HPD H20 hc ⊢
              go_upto_if 110 with fail
              go_cut [9] from 110 to 115 (fun _ wx => ∃ (F : Nat → Option Bp) (g2 : Pag.PG) (m : Nat), Hid (m ≤ n + 2000 ∧ R = g2.keep t K ∧ g2.pages ≤ 1600 ∧ g2.pages = g.pages ∧ PagAt w0 wx { G with F := F, tx := some { T with F := F2 } } m { g2 with tx := some { t with pages := t.all } } ∧ BRowU wx A6 rec ∧ EOwn eInt wx r (some ⟨aa, 0, none⟩) c (K.map fun n : Nat => (n : Int)) ∧ Keeps w wx G.own))
              case first =>
                by_cases hq : ((g.l.room : Int) - (g.l.data.length : Int)) < ((rec.length : Int) + 16)
                · have hre := HRE2.out
                  rw [if_pos hq] at hre
                  have HRE3 := Lib.hid hre
                  have HSE := Lib.hid (psettle_any w0 wq _ n _ HPD.out (by omega))
                  clear hre HRE2
                  go_wp2_with fail
                  refine HSE.out.mono ?_
                  rintro e w9 ⟨⟨G', rfl, e1, e2, hp9, ho9, hk9⟩, hz9⟩
                  have H30 := Lib.hid (And.intro hp9 (And.intro ho9 (And.intro hk9 (And.intro hz9 (And.intro e1 e2)))))
                  clear e1 e2 hp9 ho9 hk9 hz9 HSE
                  by_cases he : g.settle.2 = 0
                  · have hst := settle_tx (x := some { t with pages := t.all }) he
                    have hre := HRE3.out
                    rw [if_neg (by simp [he])] at hre
                    have HRE4 := Lib.hid hre
                    have h0 : (({ g with tx := some { t with pages := t.all } } : Pag.PG).settle).2 = 0 := by rw [hst]
                    obtain ⟨F9, hp9, hk9⟩ := H30.out.2.2.2.1 h0
                    rw [hst] at hp9
                    have hks := settle_keeps he
                    rw [h0]
                    have H31 := Lib.hid (And.intro hp9 (And.intro hk9 hks))
                    clear hst he hre h0 hp9 hk9 hks HRE3
                    go_wp2_with fail
                    go_meet
                    case rel =>
                      have hp := H31.out.1
                      have hk := H31.out.2.1
                      have hks := H31.out.2.2
                      have hoff : ∀ U, U = 5 ∨ U = 3 → Off wq ({ G with tx := some { T with F := F2 } } : GB).own U := fun U hU => by
                        rcases hU with rfl | rfl <;> exact HPD.out.offOwn (by decide) (by decide) (by decide) (by decide) (by decide) (by decide) (by decide) (by decide)
                      refine ⟨F9, g.settle.1, n + 2000, Nat.le_refl _, HRE4.out, by rw [hks.2]; exact HPG.out, hks.2, hp, H20.out.1.offK hk (hoff _ (.inl rfl)), H20.out.2.1.offK hk (hoff _ (.inr rfl)), H20.out.2.2.trans (hk.mono fun i hi => GB.own_F HT.out hi)⟩
                  · have hst := settle_tx2 (x := some { t with pages := t.all }) he
                    have hre := HRE3.out
                    rw [if_pos he] at hre
                    have HRE4 := Lib.hid hre
                    rw [hst] at H30
                    rw [hst]
                    have he2 := code_ne he
                    clear hst he hre HRE3
                    go_wp2_with fail
                    go_ret
                    rw [HRE4.out]
                    obtain ⟨hp9, ho9, hk9, -, e1, e2⟩ := H30.out
                    refine ⟨G', rfl, e1, e2, hp9.more (by omega), fun i hi => ?_, H20.out.2.2.trans (hk9.mono fun i hi => GB.own_F HT.out hi)⟩
                    rcases ho9 i hi with h | h
                    · exact .inl (GB.own_F HT.out h)
                    · exact .inr (Nat.le_trans H20.out.2.2.size h)
                · have hre := HRE2.out
                  rw [if_neg hq] at hre
                  have HRE3 := Lib.hid hre
                  clear hre HRE2
                  go_wp2_with fail
                  go_meet
                  case rel => exact ⟨G.F, g, n, by omega, HRE3.out, HPG.out, rfl, HPD.out, H20.out⟩
              case rest =>
               obtain ⟨F9, g2, m, HQ⟩ := hcut
               have hsh := HSH.out
               have HPD := Lib.hid HQ.out.2.2.2.2.1
               have H20 := Lib.hid HQ.out.2.2.2.2.2
               have HRE2 := Lib.hid HQ.out.2.1
               have hc := HPD.out.cellsS rfl
               have hct := (HPD.out.txAt rfl rfl).blk.c4
               go_upto_region 28 with fail
               generalize wc = wq at HPD H20 HQ hc hct ⊢
               go_wp2_with fail
               have hba : Below wq.heap.size wq (wq.alloc (.cells #[.slice A6 rec.length c6] 39)) := (Below.refl _ _).alloc (Nat.le_refl _) _
               have HAD := Lib.hid (wadd_any w0 (wq.alloc (.cells #[.slice A6 rec.length c6] 39)) G.k G.gl m g2.d g2.l (HPD.out.below hba).wl (by have := HQ.out.1; omega) (some ⟨wq.heap.size, 0, none⟩) 1 [⟨A6, c6, rec⟩] (ERow.lit ePart wq ⟨A6, c6, rec⟩ #[.slice A6 rec.length c6] rfl wq.heap.size rfl) (fun q hq => by rw [List.mem_singleton.1 hq]; exact ⟨(H20.out.1.below hba).row, by show rec.length ≤ _; omega⟩) (by show 1 ≤ 1000000; omega))
               have H21 := Lib.hid (And.intro (HPD.out.below hba) (And.intro (H20.out.2.1.below hba) (H20.out.2.2.then hba)))
               clear hba HPD H20
               obtain ⟨ad, had⟩ : ∃ ad, g2.d.add g2.l [rec] = ad := ⟨_, rfl⟩
               rw [show List.map (fun q : Part => q.l) [⟨A6, c6, rec⟩] = [rec] from rfl, had] at HAD
               have HKE : Hid (R = if ad.e ≠ 0 then (({ g2 with d := ad.d, l := ad.l } : Pag.PG).fail, ad.e) else ({ g2 with d := ad.d, l := ad.l, over := Pag.laid t.all K g2.over, q := Pag.dropAll g2.q K, sure := t.m, tx := none }, 0)) := by
                 show _ = _
                 have e : Pag.over_ t.all g2.over = Pag.laid t.all K g2.over := by
                   rw [← HK.out]
                   refine (Pag.laid_keys (fun i hi => ?_) g2.over).symm
                   have hm := (H21.out.1.txAt rfl rfl).map
                   refine (hm.eq i).trans ?_
                   obtain ⟨D', -, hD'⟩ := hm.map
                   have := hD'.high (lim := g2.pages + 1) (by rw [HQ.out.2.2.2.1]; exact hi)
                   show (F2 i).map Bp.l = none
                   change (F2 i).map Bp.v = none at this
                   cases hF : F2 i with
                   | none => rfl
                   | some p => rw [hF] at this; cases this
                 rw [HRE2.out, ← e, ← had, ← HRD.out]
                 rfl
               clear had HRD HRE2
               refine (show Calls _ _ #[_, .slice _ 1 1] _ _ from HAD.out).mono ?_
               rintro e w10 ⟨rfl, hwl, hk10⟩
               have hp10 := H21.out.1.log hwl hk10 (Nat.le_add_right m 1010)
               have H22 := Lib.hid (And.intro hp10 (And.intro (H21.out.2.1.offK hk10 (H21.out.1.wl.offOwn (T := 3) (by decide) (by decide) (by decide))) (H21.out.2.2.trans (hk10.mono fun i hi => .inl hi))))
               clear hwl hk10 H21 HAD hp10
               have hc := H22.out.1.cellsS rfl
               by_cases he : ad.e = 0
               · have hke := HKE.out
                 rw [if_neg (by simp [he])] at hke
                 have HKE2 := Lib.hid hke
                 have he0 : (ad.e != 0) = false := by simp [he]
                 clear hke HKE
                 clear he
                 have HN := Lib.hid hn
                 clear hn
                 go_wp2_with fail
                 go_loopw [130] (fun iv wr => ∃ (i : Nat) (F : Nat → Option Bp) (o : Pag.Pgs) (q : PS), i ≤ K.length ∧ iv = .int .i64 (i : Int) ∧ Hid (Pag.laid t.all (K.drop i) o = Pag.laid t.all K g2.over ∧ Pag.dropAll q (K.drop i) = Pag.dropAll g2.q K ∧ PagAt w0 wr { G with F := F, tx := some { T with F := F2 } } (m + 1010 + i) { g2 with d := ad.d, l := ad.l, over := o, q := q, tx := some { t with pages := t.all } } ∧ EOwn eInt wr r (some ⟨aa, 0, none⟩) c (K.map fun n : Nat => (n : Int)) ∧ Keeps w wr G.own)) (fun iv _ => K.length - (intOf iv).toNat)
                 case atStart => exact ⟨0, F9, g2.over, g2.q, Nat.zero_le _, by go_num, rfl, rfl, H22.out⟩
                 case round =>
                   obtain ⟨i, F, o, q, hi, rfl, HJ⟩ := hrel
                   by_cases hlt : i < K.length
                   · have hii : (i : Int) < (K.length : Int) := by omega
                     obtain ⟨a', ha', hcell⟩ := in_own HJ.out.2.2.2.1 (i := i) (by rw [List.length_map]; exact hlt)
                     cases ha'
                     rw [List.getElem_map] at hcell
                     have hmem : K[i] ∈ K := List.getElem_mem hlt
                     have hdrop := List.drop_eq_getElem_cons hlt
                     obtain ⟨kk, hkk⟩ : ∃ kk, K[i] = kk := ⟨_, rfl⟩
                     rw [hkk] at hcell hmem hdrop
                     have hbd : Below wr.heap.size wr wr.drew := (Below.refl _ _).drew
                     have HPW := Lib.hid (HJ.out.2.2.1.below hbd)
                     have hc := HPW.out.cellsS rfl
                     have hta := HPW.out.txAt rfl rfl
                     have hct := hta.blk.c4
                     have hkn : kk < g2.pages + 1 ∧ (t.all kk).isSome = true := by
                       have h1 := HK.out
                       rw [HQ.out.2.2.2.1]
                       rw [← h1] at hmem
                       exact Pag.mem_keys.1 hmem
                     obtain ⟨bs, hbs⟩ := Option.isSome_iff_exists.1 hkn.2
                     obtain ⟨p, hF, hl, hrow, h512⟩ := hta.map.has_ hbs
                     have HF : Hid (((F2 kk).map Bp.v).getD (.slice none 0 0) = .slice p.a p.l.length p.c) := by show _ = _; rw [show F2 kk = some p from hF]; rfl
                     have HGD : Hid ((t.all kk).getD [] = p.l) := by show _ = _; rw [hbs, hl]; rfl
                     have HM := Lib.hid hta.map.map
                     have HO := Lib.hid HPW.out.rest.map
                     have HKB : Hid (kk < 9223372036854775808) := by show kk < _; have := HQ.out.2.2.1; omega
                     have HKS : Hid (kk < g2.pages + 1) := hkn.1
                     have HKL2 : Hid (g2.pages + 1 < 100000000) := by show _ < _; have := HQ.out.2.2.1; omega
                     have HRW := Lib.hid (And.intro hrow h512)
                     have HDR := Lib.hid hdrop
                     have HBD := Lib.hid hbd
                     have HLT := Lib.hid hlt
                     clear hta hmem hkk hkn hbs hF hl hrow h512 hdrop hbd
                     go_upto_region 34 with fail
                     refine wp_region_plan (.take 0 (.take 1 (.take 2 (.take 3 (.take 4 (.take 5 (.take 6 (.take 7 (.take 8 (.take 9 (.take 10 (.run 11 [] .fin)))))))))))) (by kernel_rfl) (by kernel_rfl) (by kernel_rfl) (by kernel_rfl) ?_
                     repeat' (first | (refine hZ _ _ ?_; clear hZ) | (refine hZ _ ?_; clear hZ) | (refine hZ ?_; clear hZ) | rw [again_nil] | rw [walk_fin] | ((first | rw [walk_take] | rw [walk_run] | rw [again_cons]); intro Z hZ; simp only [sel, List.getElem?_toArray, List.getElem?_cons_zero, List.getElem?_cons_succ]; go_wp2_with (first | (refine wpList_pg_at rfl _ _ rfl rfl HM.out kk rfl HKB.out (zero_bytes _) _ HF.out ?_) | (refine wpList_pg_update rfl rfl _ _ _ rfl rfl HO.out.map kk rfl HKS.out HKL2.out _ rfl ?_; intro w12 hm12 hg12; have H12 := Lib.hid (And.intro hm12 hg12); clear hm12 hg12))))
                     have hp12 := HPW.out.overMap (HO.out.put (p := p) H12.out.1 H12.out.2 HRW.out.1 HRW.out.2) H12.out.2
                     have htg := HPW.out.mapTag
                     have hk12 : Keeps wr.drew w12 (fun i => i = G.gm) := Keeps.of_grown H12.out.2
                     have H13 := Lib.hid (And.intro hp12 (And.intro ((HJ.out.2.2.2.1.below HBD.out).offK hk12 (Off.one (T := 3) (by rw [show tagOf wr.drew G.gm = none from htg]; simp))) ((HJ.out.2.2.2.2.then HBD.out).trans (hk12.mono fun i hi => .inr (.inr (.inr (.inl hi)))))))
                     have HDX := Lib.hid (drop_x _ w12 w0.heap.size _ G.b q hp12.pool (kk : Int) (by omega) (by have := HKB.out; omega))
                     replace hc := hp12.cellsS rfl
                     clear hp12 htg hk12 hct HM HO H12 HPW
                     go_wp2_with fail
                     refine HDX.out.mono ?_
                     rintro e w14 ⟨rfl, hpl, hk14⟩
                     have hp14 := H13.out.1.pools hpl hk14 (Nat.le_succ _)
                     have H15 := Lib.hid (And.intro hp14 (And.intro (H13.out.2.1.offK hk14 (H13.out.1.pool.off (T := 3) (by decide) (by decide))) (H13.out.2.2.trans (hk14.mono fun i hi => .inr (.inl hi)))))
                     clear hpl hk14 hp14 HDX H13
                     go_wp2_with fail
                     go_roundw
                     case rel =>
                       refine ⟨i + 1, fun j => if j = kk then some p else F j, Pag.put o kk p.l, (q.drop kk).2, HLT.out, by go_num, ?_, ?_, H15.out⟩
                       · rw [← HJ.out.1, HDR.out, laid_cons, HGD.out]
                       · rw [← HJ.out.2.1, HDR.out]
                         rfl
                     case measure => simp [intOf]; omega
                   · have hii : ¬ (i : Int) < (K.length : Int) := by omega
                     obtain rfl : i = K.length := by omega
                     have hc := HJ.out.2.2.1.cellsS rfl
                     have hct := (HJ.out.2.2.1.txAt rfl rfl).blk.c4
                     have hfr := HJ.out.2.2.1.free
                     go_wp2_with fail
                     go_ret
                     rw [HKE2.out]
                     obtain ⟨h1, h2, h3, h4, h5⟩ := HJ.out
                     rw [List.drop_length] at h1 h2
                     have ho : o = Pag.laid t.all K g2.over := h1
                     have hq : q = Pag.dropAll g2.q K := h2
                     rw [← ho, ← hq]
                     refine ⟨{ G with F := F, au := T.au, cu := T.cu, ar := T.ar, cr := T.cr, tx := none }, rfl, rfl, rfl, (h3.keepTx rfl rfl).more (by have := HN.out; have := HQ.out.1; omega), fun i hi => ?_, ((h5.set ⟨G.gp, 5, none⟩ (.inl (.inr (.inr (.inl rfl)))) _).set ⟨G.gp, 6, none⟩ (.inl (.inr (.inr (.inl rfl)))) _).set ⟨G.gp, 8, none⟩ (.inl (.inr (.inr (.inl rfl)))) _⟩
                     rcases hi with hi | hi | hi | hi | ⟨T', hT', -⟩
                     · exact .inl (.inl hi)
                     · exact .inl (.inr (.inl hi))
                     · exact .inl (.inr (.inr (.inl hi)))
                     · exact .inl (.inr (.inr (.inr (.inl hi))))
                     · cases hT'
               · have hke := HKE.out
                 rw [if_pos he] at hke
                 have HKE2 := Lib.hid hke
                 have he2 := code_ne he
                 have HPF := Lib.hid (pfail_any w0 w10 _ _ _ H22.out.1 ad.e)
                 clear hke HKE he
                 go_wp2_with fail
                 refine HPF.out.mono ?_
                 rintro e w11 ⟨G', rfl, e1, e2, hp11, ho11, hk11⟩
                 have H23 := Lib.hid (And.intro e1 (And.intro e2 (And.intro hp11 (And.intro ho11 hk11))))
                 clear e1 e2 hp11 ho11 hk11
                 go_wp2_with fail
                 go_ret
                 rw [HKE2.out]
                 obtain ⟨e1, e2, hp11, ho11, hk11⟩ := H23.out
                 refine ⟨G', rfl, e1, e2, hp11.more (by have := HQ.out.1; omega), fun i hi => ?_, H22.out.2.2.trans (hk11.mono fun i hi => GB.own_F HT.out hi)⟩
                 rcases ho11 i hi with h | h
                 · exact .inl (GB.own_F HT.out h)
                 · exact .inr (Nat.le_trans H22.out.2.2.size h)
set_option maxRecDepth 20000 in
set_option maxHeartbeats 1000000 in
theorem pcommit_any (w0 w : World) (G : GB) (n : Nat) (g : Pag.PG) (h : PagAt w0 w G n g) (hn : n + 5000 < 1000000) :
    Calls Try.prog 11 #[.pointer (some ⟨G.gp, 0, none⟩)] w (RetPg w0 w G (n + 5000) g.commit.1 g.commit.2) := by
  have HB := Lib.hid (pbroken_any w0 w G n g h)
  have H0 := Lib.hid h
  cases hb : g.broken with
  | true =>
    have HR : Hid (g.commit = (g, 3)) := by show _ = _; unfold Pag.PG.commit; cases g.tx <;> simp [hb]
    rw [hb] at HB
    have HR := Lib.hid HR.out
    clear h hb
    go_enter Try.func11, Try.ntmps11
    go_wp2_with fail
    refine HB.out.mono ?_
    rintro e w1 ⟨rfl, rfl⟩
    go_wp2_with fail
    go_ret
    rw [HR.out]
    exact ⟨G, rfl, rfl, rfl, H0.out.more (by omega), fun i hi => .inl hi, Keeps.refl _ _⟩
  | false =>
    rcases h.split with ⟨hT, hg⟩ | ⟨T, t, hT, hg, -⟩
    · have HR : Hid (g.commit = (g, 3)) := by show _ = _; unfold Pag.PG.commit; rw [hg]
      rw [hb] at HB
      have hc := h.cells
      rw [GB.txv_none hT] at hc
      clear h hb hT hg
      go_enter Try.func11, Try.ntmps11
      go_wp2_with fail
      refine HB.out.mono ?_
      rintro e w1 ⟨rfl, rfl⟩
      go_wp2_with fail
      go_ret
      rw [HR.out]
      exact ⟨G, rfl, rfl, rfl, H0.out.more (by omega), fun i hi => .inl hi, Keeps.refl _ _⟩
    · exact pcommit_tx w0 w G n g t h hg hn hb
end Go.Proofs.Ytcfoihihinijlaa
end

section
namespace Go.Proofs.Ytcfoihihinijlaa
set_option linter.unusedSimpArgs false
set_option linter.unusedVariables false
open Go.RowKit Go.Maps
theorem pgfill_step (c : UInt8) (i : Nat) (h : i < 512) : (List.replicate i c ++ List.replicate (512 - i) (0 : UInt8)).set i c = List.replicate (i + 1) c ++ List.replicate (512 - (i + 1)) 0 := by
  obtain ⟨k, hk⟩ : ∃ k, 512 - i = k + 1 := ⟨511 - i, by omega⟩
  rw [hk, show 512 - (i + 1) = k by omega, List.replicate_succ, List.replicate_succ', List.append_assoc, List.set_append_right _ _ (by simp)]
  simp
set_option maxRecDepth 20000 in
set_option maxHeartbeats 1000000 in
theorem page512_any (w : World) (c : UInt8) :
    Calls Try.prog 14 #[.int .u8 (c.toNat : Int)] w fun e w' => ∃ A cap, e = .returned (.slice A 512 cap) ∧ BOwn w' w.heap.size A cap (List.replicate 512 c) ∧ Below w.heap.size w w' := by
  go_enter Try.func14, Try.ntmps14
  go_wp2_with (refine wpList_make_zeros rfl (.const (.int .i64 512)) (.const (.int .i64 512)) rfl _ _ _ _ 512 rfl rfl rfl rfl (by decide) (Nat.le_refl _) ?_; intro w1 ho hb)
  have HI : Hid (BOwn w1 w.heap.size (some ⟨w.heap.size, 0, none⟩) 512 (List.replicate 0 c ++ List.replicate (512 - 0) 0) ∧ Below w.heap.size w w1) := ⟨by simpa using ho, hb⟩
  clear ho hb
  go_loopw [8] (fun iv wr => ∃ i : Nat, i ≤ 512 ∧ iv = .int .i64 i ∧ Hid (BOwn wr w.heap.size (some ⟨w.heap.size, 0, none⟩) 512 (List.replicate i c ++ List.replicate (512 - i) 0) ∧ Below w.heap.size w wr)) (fun iv _ => 512 - (intOf iv).toNat)
  case atStart => exact ⟨0, by omega, rfl, HI.out⟩
  case round =>
    obtain ⟨i, hi, rfl, HJ⟩ := hrel
    clear HI
    by_cases hlt : i < 512
    · have hii : (i : Int) < 512 := by omega
      have hl : (List.replicate i c ++ List.replicate (512 - i) (0 : UInt8)).length = 512 := by simp; omega
      have hcell : (wr.cell? ⟨w.heap.size, i, none⟩).isSome = true := by rw [HJ.out.1.cell (by rw [hl]; exact hlt)]; rfl
      have hce := HJ.out.1.cell (j := i) (by rw [hl]; exact hlt)
      have hfr := HJ.out.1.free i
      go_wp2_with fail
      go_roundw
      case rel =>
        refine ⟨i + 1, by omega, by go_num, ?_, HJ.out.2.setCell (p := ⟨w.heap.size, i, none⟩) (Nat.le_refl _) _⟩
        rw [← pgfill_step c i hlt]
        exact HJ.out.1.store i c _ rfl
      case measure => simp [intOf]; omega
    · obtain rfl : i = 512 := by omega
      have HC : Hid (BOwn wr w.heap.size (some ⟨w.heap.size, 0, none⟩) 512 (List.replicate 512 c) ∧ Below w.heap.size w wr) := ⟨by simpa using HJ.out.1, HJ.out.2⟩
      clear HJ hlt
      go_wp2_with fail
      go_ret
      exact ⟨_, 512, rfl, HC.out⟩
theorem pg_str_eq (l m : List UInt8) (w : World) : (binOp .eql 9 (txt l) (txt m)).run Try.prog w = .ok (.bool (l == m)) w := by
  unfold txt
  rw [binOp_string_eql, pg_txt_list, pg_txt_list]
  rfl
theorem pg_eqg2 (t : TypeId) (x y : Operand) (l m : List UInt8) : eqGuard .eql t x y (txt l) (txt m) = pure () := rfl
set_option maxRecDepth 20000 in
set_option maxHeartbeats 4000000 in
theorem pglives_any (w : World) : Calls Try.prog 4 #[] w fun e w' => e = .returned (.bool true) ∧ Below w.heap.size w w' := by
  go_enter Try.func4, Try.ntmps4
  go_wp2_with fail
  refine (DL.new (w0 := w) 20 (by decide) (by decide) (Below.refl _ _)).mono ?_
  rintro e w1 ⟨k, rfl, hL1, -⟩
  have HL1 := Lib.hid hL1
  clear hL1
  go_wp2_with fail
  obtain ⟨g0, ho, hok, hnow, hsu, htx, hbl, hpg, hsq⟩ := Pag.open_new_ok (blocks := 8) (pages := 10) (frames := 2) (by decide) (by decide) (by decide) (by decide) (by decide) (by decide)
  have hinv : Pag.Inv g0 [] 20 (Pag.empty 10) := ⟨hok, fun t ht => by rw [htx] at ht; cases ht⟩
  obtain ⟨g1, g2, g3, g4, t3, e1, e2, e3, e4, ⟨i1, i2, i3, ht3, hb3, hp3⟩, hf⟩ := Pag.lives_ok hinv (by rw [hbl, hpg]) hnow hbl hpg (by rw [hsu, hpg]) htx hsq (List.replicate 512 120) (by simp)
  have ho' : Pag.open_ (DS.new 20) ((8 : Nat) : Int) ((2 : Nat) : Int) = (g0.d, some g0, 0) := ho
  have hop := popen_any w w1 k (DS.new 20) 0 8 10 2 HL1.out (by decide) (by decide) (by decide) (by decide) (by decide) (by decide) (by decide) (by decide)
  rw [ho'] at hop
  have E1 := Lib.hid e1
  have E2 := Lib.hid e2
  have E3 := Lib.hid e3
  have E4 := Lib.hid e4
  have I1 := Lib.hid i1
  have I2 := Lib.hid i2
  have I3 := Lib.hid (And.intro i3 (And.intro ht3 (And.intro hb3 hp3)))
  have HF := Lib.hid hf
  clear ho ho' hok hnow hsu htx hbl hpg hsq hinv e1 e2 e3 e4 i1 i2 i3 ht3 hb3 hp3 hf
  refine hop.mono ?_
  rintro e w2 ⟨h0, -⟩
  obtain ⟨G, rfl, hGk, hGt, hp, hown, hk2⟩ := h0 g0 rfl
  have H2 := Lib.hid (And.intro hp hGk)
  clear hop h0 hGk hGt hp hown hk2
  go_wp2_with fail
  have hb := pbegin_any w w2 G _ g0 H2.out.1
  rw [E1.out] at hb
  refine hb.mono ?_
  rintro e w3 ⟨G3, rfl, p3, k3, hp3, -, -⟩
  have H3 := Lib.hid (And.intro hp3 (k3.trans H2.out.2))
  rw [← p3]
  clear hb p3 k3 hp3 H2 E1
  go_wp2_with fail
  have ha := palloc_any w w3 G3 _ g1 H3.out.1 I1.out.now_ul
  rw [E2.out] at ha
  refine ha.mono ?_
  rintro e w4 ⟨G4, rfl, p4, k4, hp4, -, -⟩
  have H4 := Lib.hid (And.intro hp4 (k4.trans H3.out.2))
  rw [← p4]
  clear ha p4 k4 hp4 H3 E2 I1
  go_wp2_with fail
  refine (page512_any w4 120).mono ?_
  rintro e w5 ⟨A5, c5, rfl, ho5, hb5⟩
  have H5 := Lib.hid (And.intro (H4.out.1.below hb5) (And.intro ho5.row H4.out.2))
  clear ho5 hb5 H4
  go_wp2_with fail
  have hq := pput_any w w5 G4 _ g2 H5.out.1 I2.out.now_ul 1 (by decide) (by decide) A5 c5 (List.replicate 512 120) H5.out.2.1 (by simp)
  rw [E3.out, List.length_replicate] at hq
  refine hq.mono ?_
  rintro e w6 ⟨G6, rfl, p6, k6, hp6, -, -⟩
  have H6 := Lib.hid (And.intro hp6 (k6.trans H5.out.2.2))
  rw [← p6]
  clear hq p6 k6 hp6 H5 E3 I2
  go_wp2_with fail
  have hc := pcommit_any w w6 G6 _ g3 H6.out.1 (by decide)
  rw [E4.out] at hc
  refine hc.mono ?_
  rintro e w7 ⟨G7, rfl, p7, k7, hp7, -, -⟩
  have H7 : Hid (DL w w7 k g4.d (0 + 20 + 5000)) := (k7.trans H6.out.2) ▸ hp7.wl.dl
  rw [← p7]
  clear hc p7 k7 hp7 H6 E4 I3
  go_wp2_with fail
  refine (H7.out.crash ⟨0, 0, 0⟩ (by decide)).mono ?_
  rintro e w8 ⟨rfl, hd8, -⟩
  have H8 := Lib.hid hd8
  clear hd8 H7
  go_wp2_with fail
  refine H8.out.up.mono ?_
  rintro e w9 ⟨rfl, hd9, -⟩
  have H9 := Lib.hid hd9
  clear hd9 H8
  go_wp2_with fail
  obtain ⟨g5, g6, e5, e6, hp6, hul, hlen⟩ := HF.out ⟨0, 0, 0⟩
  have E6 := Lib.hid e6
  have HUL := Lib.hid (And.intro hul hp6)
  have hop := popen_any w w9 k _ _ 8 10 2 H9.out (by decide) hlen (by decide) (by decide) (by decide) (by decide) (by decide) (by decide)
  rw [show Pag.open_ ({ g4.d.crash ⟨0, 0, 0⟩ with down := false } : DS) ((8 : Nat) : Int) ((2 : Nat) : Int) = (g5.d, some g5, 0) from e5] at hop
  clear e5 e6 hp6 hul hlen HF
  refine hop.mono ?_
  rintro e w10 ⟨h0, -⟩
  obtain ⟨G8, rfl, -, -, hp, -, -⟩ := h0 g5 rfl
  have H10 := Lib.hid hp
  clear hop h0 hp H9
  go_wp2_with fail
  have hpa := ppage_any w w10 G8 _ g5 H10.out (by decide) HUL.out.1 1 (by decide) (by decide)
  rw [E6.out] at hpa
  refine hpa.mono ?_
  rintro e w11 ⟨G9, A9, c9, rfl, hb9, hc9, -, p9, -, hp9, -, -⟩
  have hx9 : BRow w11 A9 (List.replicate 512 120) := hb9
  obtain ⟨X, hX⟩ : ∃ X, List.replicate 512 (120 : UInt8) = X := ⟨_, rfl⟩
  have HX := Lib.hid hX
  have HXL : Hid (512 = X.length) := by show _ = _; rw [← hX]; simp
  rw [hX] at hx9
  have H11 := Lib.hid (And.intro hp9 hx9)
  rw [← p9]
  simp only [List.length_replicate]
  clear hpa p9 hp9 hb9 hx9 E6 H10 hX hc9
  go_wp2_with fail
  have hbd : Below w11.heap.size w11 w11.drew := (Below.refl _ _).drew
  have HBD := Lib.hid hbd
  clear hbd
  go_upto_region 14 with fail
  refine wp_region_plan (.take 0 (.take 1 (.take 2 (.take 3 (.take 4 (.run 5 [3, 4] (.take 6 (.take 7 (.take 8 (.take 9 (.take 10 (.run 11 [] (.take 12 (.take 13 (.take 14 .fin))))))))))))))) (by kernel_rfl) (by kernel_rfl) (by kernel_rfl) (by kernel_rfl) ?_
  repeat' (first | (refine hZ _ _ ?_; clear hZ) | (refine hZ _ ?_; clear hZ) | (refine hZ ?_; clear hZ) | rw [again_nil] | rw [walk_fin] | ((first | rw [walk_take] | rw [walk_run] | rw [again_cons]); intro Z hZ; simp only [sel, List.getElem?_toArray, List.getElem?_cons_zero, List.getElem?_cons_succ]; go_wp2_with (first | (refine wpList_guardP (by kernel_rfl) ?_; refine wpList_str_of rfl (.tmp 69) rfl rfl HXL.out (H11.out.2.below HBD.out) ?_))))
  refine (page512_any w11.drew 120).mono ?_
  rintro e w12 ⟨A12, c12, rfl, ho12, hb12⟩
  rw [HX.out] at ho12
  have H12 := Lib.hid (And.intro ho12.row (And.intro (HBD.out.then hb12) (H11.out.1.below (HBD.out.then hb12))))
  clear ho12 hb12
  have keq := fun w => pg_str_eq X X w
  simp only [beq_self_eq_true] at keq
  have heg := pg_eqg2
  go_wp2_with fail
  repeat' (first | (refine hZ _ _ ?_; clear hZ) | (refine hZ _ ?_; clear hZ) | (refine hZ ?_; clear hZ) | rw [again_nil] | rw [walk_fin] | ((first | rw [walk_take] | rw [walk_run] | rw [again_cons]); intro Z hZ; simp only [sel, List.getElem?_toArray, List.getElem?_cons_zero, List.getElem?_cons_succ]; go_wp2_with (first | (refine wpList_guardP (by kernel_rfl) ?_; refine wpList_str_of rfl (.tmp 71) rfl rfl HXL.out H12.out.1 ?_) | (refine wpList_guardP (by kernel_rfl) ?_; refine wpList_str_of rfl (.tmp 69) rfl rfl HXL.out (H11.out.2.below H12.out.2.1) ?_))))
  have hpp := ppages_any w w12 G9 _ g6 H12.out.2.2
  rw [HUL.out.2] at hpp
  refine hpp.mono ?_
  rintro e w13 ⟨rfl, rfl⟩
  clear hpp
  go_wp2_with fail
  repeat' (first | (refine hZ _ _ ?_; clear hZ) | (refine hZ _ ?_; clear hZ) | (refine hZ ?_; clear hZ) | rw [again_nil] | rw [walk_fin] | ((first | rw [walk_take] | rw [walk_run] | rw [again_cons]); intro Z hZ; simp only [sel, List.getElem?_toArray, List.getElem?_cons_zero, List.getElem?_cons_succ]; go_wp2_with (fail)))
  go_wp2_with fail
  go_ret
  exact ⟨rfl, H12.out.2.2.wl.dl.bel⟩
end Go.Proofs.Ytcfoihihinijlaa
end

section
namespace Go.Proofs.Ytcfoihihinijlaa
set_option linter.unusedSimpArgs false
set_option linter.unusedVariables false
open Go.RowKit Go.Maps
theorem mod_word (x : Int) (c m : Int) (hm : 0 < m) (hm2 : m ≤ 1000) (hc0 : 0 ≤ c) (hc : c ≤ 1000) : ∃ l : Nat, c ≤ l ∧ (l : Int) < c + m ∧ wrap64 (c + wrap64 ((IntKind.u64.wrap x).tmod m)) = (l : Int) := by
  have h0 : 0 ≤ IntKind.u64.wrap x := by simp [IntKind.wrap, IntKind.signed, IntKind.bits]; omega
  rw [Int.tmod_eq_emod_of_nonneg h0]
  have h1 := Int.emod_nonneg (IntKind.u64.wrap x) (by omega : m ≠ 0)
  have h2 := Int.emod_lt_of_pos (IntKind.u64.wrap x) hm
  generalize IntKind.u64.wrap x % m = r at *
  refine ⟨(c + r).toNat, by omega, by omega, ?_⟩
  have e1 : wrap64 r = r := by unfold wrap64; omega
  have e2 : wrap64 (c + r) = c + r := by unfold wrap64; omega
  rw [e1, e2]
  omega
set_option maxRecDepth 20000 in
set_option maxHeartbeats 4000000 in
theorem pagerMost_walk (w : World) (a : Int) (wa : (Lit.int .i64 a).wf = true) (b : Int) (wb : (Lit.int .i64 b).wf = true) :
    Calls Try.prog 3 #[.int .i64 a, .int .i64 b] w fun e w' => e = .returned (.bool true) ∧ Below w.heap.size w w' := by
  have ha1 : -9223372036854775808 ≤ a ∧ a ≤ 9223372036854775807 := by
    simp [Lit.wf, IntKind.min, IntKind.max, IntKind.signed, IntKind.bits] at wa
    omega
  have HA := Lib.hid ha1
  clear wa wb ha1
  go_enter Try.func3, Try.ntmps3
  go_wp2_with fail
  refine (pglives_any w).mono ?_
  rintro e w1 ⟨rfl, hb1⟩
  have HB1 := Lib.hid hb1
  clear hb1
  go_wp2_with fail
  refine (most_any w1 a HA.out.1 HA.out.2).mono ?_
  rintro e w2 ⟨rfl, rfl⟩
  go_wp2_with fail
  refine (rmost_any w1 a HA.out.1 HA.out.2).mono ?_
  rintro e w2 ⟨rfl, rfl⟩
  obtain ⟨l, hl1, hl2, hle⟩ := mod_word a 4 12 (by decide) (by decide) (by decide) (by decide)
  obtain ⟨m, hm1, hm2, hme⟩ := mod_word b 1 16 (by decide) (by decide) (by decide) (by decide)
  obtain ⟨g0, ho, hok, hnow, hsu, htx, hbl, hpg, hsq⟩ := Pag.open_new_ok (blocks := l) (pages := 16) (frames := 1) (by omega) (by omega) (by decide) (by decide) (by decide) (by decide)
  have hinv : Pag.Inv g0 [] (l + 16 + 2) (Pag.empty 16) := ⟨hok, fun t ht => by rw [htx] at ht; cases ht⟩
  obtain ⟨hbg, htk⟩ := Pag.Took.begin hinv (by rw [hsu, hpg]) htx
  have hin2 := hinv.begin
  rw [hbg] at hin2
  have hll : 4 ≤ l ∧ l ≤ 15 := by omega
  have hmm : 1 ≤ m ∧ m ≤ 16 := by omega
  have HLL := Lib.hid hll
  have HMM := Lib.hid hmm
  have H0 : Hid (Pag.open_ (DS.new (l + 16 + 2)) (l : Int) ((1 : Nat) : Int) = (g0.d, some g0, 0) ∧ g0.blocks = l ∧ g0.pages = 16 ∧ g0.l.seq = 1 ∧ g0.sure = Pag.MT.free 16) := ⟨ho, hbl, hpg, hsq, hsu⟩
  have HBG := Lib.hid (And.intro hbg (And.intro htk hin2))
  have HN1 : Hid (wrap64 (wrap64 ((l : Int) + 2) + 16) = ((l + 16 + 2 : Nat) : Int)) := by
    show _ = _
    have e1 : wrap64 ((l : Int) + 2) = l + 2 := by unfold wrap64; omega
    rw [e1]
    unfold wrap64
    omega
  clear ho hok hnow hsu htx hbl hpg hsq hinv hbg htk hin2 hl1 hl2 hm1 hm2 hll hmm
  go_upto_region 7 with fail
  rw [hle, hme]
  clear hle hme
  go_wp2_with fail
  rw [HN1.out]
  refine (DL.new (w0 := w) (l + 16 + 2) (by omega) (by have := HLL.out; omega) HB1.out).mono ?_
  rintro e w2 ⟨k, rfl, hL1, -⟩
  have HL1 := Lib.hid hL1
  clear hL1
  go_wp2_with fail
  have hop := popen_any w w2 k (DS.new (l + 16 + 2)) 0 l 16 1 HL1.out (by decide) (by simp [DS.new]) HLL.out.1 (by have := HLL.out; omega) (by decide) (by decide) (by decide) (by decide)
  rw [H0.out.1] at hop
  refine hop.mono ?_
  rintro e w3 ⟨h0, -⟩
  obtain ⟨G, rfl, -, -, hp, -, -⟩ := h0 g0 rfl
  have H3 := Lib.hid hp
  clear hop h0 hp HL1
  go_wp2_with fail
  have hb := pbegin_any w w3 G _ g0 H3.out
  rw [HBG.out.1] at hb
  refine hb.mono ?_
  rintro e w4 ⟨G4, rfl, p4, -, hp4, -, -⟩
  obtain ⟨gp, hgp⟩ : ∃ gp, G4.gp = gp := ⟨_, rfl⟩
  have H4 : Hid (∃ G g t N C, G.gp = gp ∧ PagAt w w4 G 20 g ∧ Pag.Took g 0 t ∧ Pag.Inv g [] N C ∧ g.pages = 16 ∧ g.blocks = l ∧ g.l.seq = 1 ∧ g.sure = Pag.MT.free 16) := ⟨_, _, _, _, _, hgp, hp4, HBG.out.2.1, HBG.out.2.2, H0.out.2.2.1, H0.out.2.1, H0.out.2.2.2.1, H0.out.2.2.2.2⟩
  rw [← p4, hgp]
  clear hb p4 hp4 H3 HBG H0 hgp HN1 HB1
  have hm16 := HMM.out.2
  go_wp2_with fail
  go_loopw [55] (fun iv wr => ∃ i : Nat, i ≤ m ∧ iv = .int .i64 (i : Int) ∧ Hid (∃ G g t N C, G.gp = gp ∧ PagAt w wr G 20 g ∧ Pag.Took g i t ∧ Pag.Inv g [] N C ∧ g.pages = 16 ∧ g.blocks = l ∧ g.l.seq = 1 ∧ g.sure = Pag.MT.free 16)) (fun iv _ => m - (intOf iv).toNat)
  case atStart => exact ⟨0, Nat.zero_le _, by go_num, H4.out⟩
  case round =>
    obtain ⟨i, hi, rfl, HJ⟩ := hrel
    obtain ⟨G, g, t, N, C, rfl, hp, htk, hin, hpg, hbl, hsq, hsu⟩ := HJ.out
    by_cases hlt : i < m
    · have hii : (i : Int) < (m : Int) := by omega
      obtain ⟨t', hal, htk', -⟩ := htk.alloc hin (by rw [hpg]; omega)
      have hin' := hin.alloc
      rw [hal] at hin'
      have ha := palloc_any w wr G _ g hp hin.now_ul
      rw [hal, show ((i + 1 : Nat) : Int) = (i : Int) + 1 from by omega] at ha
      have HAL := Lib.hid ha
      have H5 := Lib.hid (And.intro htk' (And.intro hin' (And.intro hpg (And.intro hbl (And.intro hsq hsu)))))
      clear hp htk hin hpg hbl hsq hsu HJ htk' hin' ha hal
      go_wp2_with fail
      refine HAL.out.mono ?_
      rintro e w5 ⟨G5, rfl, p5, -, hp5, -, -⟩
      have H6 := Lib.hid hp5
      clear hp5 HAL
      go_wp2_with fail
      go_roundw
      case rel => exact ⟨i + 1, by omega, by go_num, _, _, _, _, _, p5, H6.out, H5.out.1, H5.out.2.1, H5.out.2.2⟩
      case measure => simp [intOf]; omega
    · have hii : ¬ (i : Int) < (m : Int) := by omega
      obtain rfl : i = m := by omega
      obtain ⟨g', e, hco, hbr, htx', hpg', hul', hfin⟩ := htk.commit hin HMM.out.1 HMM.out.2 hpg (by rw [hsq]; decide) (by rw [hsu, hpg])
      have hcc := pcommit_any w wr G 20 g hp (by decide)
      rw [hco] at hcc
      rw [hbl] at hfin
      have HCC := Lib.hid hcc
      have H7 := Lib.hid (And.intro hbr (And.intro htx' hul'))
      have HMO := Lib.hid (most_any wr l (by omega) (by have := HLL.out; omega))
      have HFI := Lib.hid hfin
      clear hp htk hin hpg hbl hsq hsu HJ hco hbr htx' hpg' hul' hfin hcc
      go_wp2_with fail
      refine HMO.out.mono ?_
      rintro e w5 ⟨rfl, rfl⟩
      clear HMO H4
      by_cases hm : Pag.most l < (i : Int) + 1
      · have hf := HFI.out
        rw [if_pos (by omega)] at hf
        obtain ⟨rfl, hus⟩ := hf
        have HUS := Lib.hid hus
        have hm2 : ¬ (i : Int) + 1 ≤ Pag.most l := by omega
        clear HFI hus
        generalize Pag.most l = M at *
        go_wp2_with fail
        refine HCC.out.mono ?_
        rintro e w6 ⟨G6, rfl, p6, -, hp6, -, -⟩
        have hu := pused_any w w6 G6 _ g' hp6 H7.out.2.2
        rw [HUS.out] at hu
        have HU := Lib.hid hu
        have H8 := Lib.hid hp6
        rw [← p6]
        clear hp6 hu HCC HUS p6
        go_wp2_with fail
        refine HU.out.mono ?_
        rintro e w7 ⟨A7, c7, rfl, -, hb7⟩
        have H9 := Lib.hid (H8.out.below hb7)
        clear hb7 HU
        simp only [List.map_nil, List.length_nil]
        go_wp2_with fail
        have hbe := pbegin_any w w7 G6 _ g' H9.out
        rw [show g'.begin = ({ g' with tx := some ⟨g'.sure, Pag.none_, false⟩ }, 0) from by unfold Pag.PG.begin; rw [if_neg (by rw [H7.out.1, H7.out.2.1]; simp)]] at hbe
        refine hbe.mono ?_
        rintro e w8 ⟨G8, rfl, -, -, hp8, -, -⟩
        have H10 := Lib.hid hp8
        clear hbe hp8
        go_wp2_with fail
        go_ret
        exact ⟨rfl, H10.out.wl.dl.bel⟩
      · have hf := HFI.out
        rw [if_neg (by omega)] at hf
        obtain ⟨rfl, hus⟩ := hf
        have HUS := Lib.hid hus
        have hm2 : (i : Int) + 1 ≤ Pag.most l := by omega
        clear HFI hus
        generalize Pag.most l = M at *
        go_wp2_with fail
        refine HCC.out.mono ?_
        rintro e w6 ⟨G6, rfl, p6, -, hp6, -, -⟩
        have hu := pused_any w w6 G6 _ g' hp6 H7.out.2.2
        have HU := Lib.hid hu
        have H8 := Lib.hid hp6
        rw [← p6]
        clear hp6 hu HCC p6
        go_wp2_with fail
        refine HU.out.mono ?_
        rintro e w7 ⟨A7, c7, rfl, -, hb7⟩
        have H9 := Lib.hid (H8.out.below hb7)
        rw [List.length_map, HUS.out]
        clear hb7 HU
        go_wp2_with fail
        go_ret
        exact ⟨rfl, H9.out.wl.dl.bel⟩
end Go.Proofs.Ytcfoihihinijlaa
end

