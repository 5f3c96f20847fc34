/-
  The walk of dowserlaw05.PoolLast.
-/
import Derived.Test.YtjaopecjmmnbiaaPoolBounds
import Derived.Test.YtjaopecjmmnbiaaRegionRead
namespace Go.Proofs.Ytjaopecjmmnbiaa
set_option linter.unusedSimpArgs false
set_option linter.unusedVariables false
open Go.RowKit Go.Maps

/-- What PoolLast keeps of a pool: each page that is at hand was put, with the bytes that stand by. -/
def Linked (q : PS) (las : List (List UInt8)) (hs : List Int) : Prop :=
  las.length = 16 ∧ hs.length = 16 ∧ ∀ p i, whereOf q.L p = some i → ∃ m : Nat, p = (m : Int) ∧ m < 16 ∧ hs[m]? = some 1 ∧ las[m]? = some (q.L.getD i fr0).s
structure LInv (w : World) (B g7 g8 : Nat) (b : PB) (N : Nat) (q : PS) (las : List (List UInt8)) (hs : List Int) (wr : World) : Prop where
  pool : PoolOf wr B b N q
  l7 : Blk wr g7 38 (las.map txt)
  l8 : Blk wr g8 39 (hs.map (Value.int .i64))
  own : ∀ k, b.own k → k < g7 ∧ k < g8
  wB : w.heap.size ≤ B
  bel : Below w.heap.size w wr
theorem PoolOf.aside {w w' : World} {B N g : Nat} {b : PB} {q : PS} {T : TypeId} {cs : List Value} (h : PoolOf w B b N q) (hg : w.grownBy w' (some g)) (hb : Blk w g T cs) (hc : ∀ v ∈ cs, ∀ n, v ≠ .int .u8 n) (ho : ¬ b.own g) : PoolOf w' B b N q := by
  have hk : Keeps w w' (fun k => k = g) := ⟨hg.os, hg.tape, hg.output, hg.size, fun k hk hn => hg.block k hk (by simpa using hn)⟩
  obtain ⟨p, c, rfl, h1, h2, r⟩ := h
  refine ⟨p, c, rfl, h1.kept' h2.n0 hk (fun k ho' e => ho (e ▸ ho')) (fun f hf => ?_), h2, r⟩
  cases hs : f.s with
  | nil => exact BRow.nil
  | cons y s =>
    have hbr := h1.bytes f hf
    rw [hs] at hbr
    exact hbr.kept hk (fun a ha => hbr.ne_blk (by simp) hb hc a ha)
section
variable {w wr w' : World} {B g7 g8 N N' : Nat} {b : PB} {q q' : PS} {las : List (List UInt8)} {hs : List Int}
theorem LInv.pooled (h : LInv w B g7 g8 b N q las hs wr) (hp : PoolOf w' B b N' q') (hk : Keeps wr w' b.own) : LInv w B g7 g8 b N' q' las hs w' :=
  ⟨hp, h.l7.kept hk (fun ho => by have := (h.own _ ho).1; omega), h.l8.kept hk (fun ho => by have := (h.own _ ho).2; omega), h.own, h.wB, hk.below h.bel h.bel.size (fun k hk => by have := (h.pool.lt k hk).1; have := h.wB; omega)⟩
theorem LInv.below (h : LInv w B g7 g8 b N q las hs wr) (hb : Below wr.heap.size wr w') : LInv w B g7 g8 b N q las hs w' :=
  ⟨h.pool.below hb, h.l7.below hb, h.l8.below hb, h.own, h.wB, h.bel.trans (hb.mono h.bel.size)⟩
theorem LInv.ge (h : LInv w B g7 g8 b N q las hs wr) : w.heap.size ≤ g7 ∧ w.heap.size ≤ g8 := by
  have h1 := h.pool.lt b.gp (.inl rfl)
  have h2 := h.own b.gp (.inl rfl)
  have := h.wB
  omega
theorem LInv.ne (h : LInv w B g7 g8 b N q las hs wr) : g7 ≠ g8 := by
  rintro rfl
  have h1 := h.l7
  have h2 := h.l8
  unfold Blk at h1 h2
  rw [h1] at h2
  simp at h2
theorem LInv.set7 (h : LInv w B g7 g8 b N q las hs wr) (m : Nat) (s : List UInt8) : LInv w B g7 g8 b N q (las.set m s) hs (wr.setCell ⟨g7, m, none⟩ (txt s)) := by
  have hg := grown_store wr g7 m (txt s)
  refine ⟨h.pool.aside hg h.l7 (by simp [txt]) (fun ho => by have := (h.own _ ho).1; omega), ?_, h.l8.grown hg (by simpa using h.ne.symm), h.own, h.wB, h.bel.setCell (p := ⟨g7, m, none⟩) h.ge.1 _⟩
  rw [List.map_set]
  exact h.l7.set m (txt s)
theorem LInv.set8 (h : LInv w B g7 g8 b N q las hs wr) (m : Nat) (x : Int) : LInv w B g7 g8 b N q las (hs.set m x) (wr.setCell ⟨g8, m, none⟩ (.int .i64 x)) := by
  have hg := grown_store wr g8 m (.int .i64 x)
  refine ⟨h.pool.aside hg h.l8 (by simp) (fun ho => by have := (h.own _ ho).2; omega), h.l7.grown hg (by simpa using h.ne), ?_, h.own, h.wB, h.bel.setCell (p := ⟨g8, m, none⟩) h.ge.2 _⟩
  rw [List.map_set]
  exact h.l8.set m (.int .i64 x)
end
/-! Plain -/
theorem get_none {q : PS} {k : Int} (h : whereOf q.L k = none) : q.get k = (none, { q with misses := q.misses + 1 }) := by unfold PS.get; rw [h]
theorem get_some {q : PS} {k : Int} {i : Nat} (h : whereOf q.L k = some i) : q.get k = (some (q.L.getD i fr0).s, { q with hits := q.hits + 1, L := q.L.set i { q.L.getD i fr0 with mark := true } }) := by unfold PS.get; rw [h]
theorem getD_set_mark (L : List Fr) (i j : Nat) (x : Bool) : ((L.set i { L.getD i fr0 with mark := x }).getD j fr0).s = (L.getD j fr0).s := by
  rw [List.getD_eq_getElem?_getD, List.getElem?_set]
  by_cases h : i = j
  · subst h
    rw [if_pos rfl]
    by_cases hi : i < L.length
    · rw [if_pos hi]; rfl
    · rw [if_neg hi, List.getD_eq_getElem?_getD, List.getElem?_eq_none (by omega)]
  · rw [if_neg h, List.getD_eq_getElem?_getD]
theorem where_get (q : PS) (k : Int) : whereOf (q.get k).2.L = whereOf q.L := by
  cases h : whereOf q.L k with
  | none => rw [get_none h]
  | some i =>
    rw [get_some h]
    obtain ⟨hi, _⟩ := where_some h
    have e : q.L.getD i fr0 = q.L[i] := by simp [hi]
    simp only [e]
    exact whereOf_mark _ _ hi _
theorem Linked.get {q : PS} {las : List (List UInt8)} {hs : List Int} (h : Linked q las hs) (k : Int) : Linked (q.get k).2 las hs := by
  refine ⟨h.1, h.2.1, fun p i hp => ?_⟩
  rw [where_get] at hp
  obtain ⟨m, e, hm, h1, h2⟩ := h.2.2 p i hp
  refine ⟨m, e, hm, h1, ?_⟩
  cases hk : whereOf q.L k with
  | none => rw [get_none hk]; exact h2
  | some j => rw [get_some hk]; simp only [getD_set_mark]; exact h2
theorem where_put {q : PS} (hG : Good q) {k : Int} (h0 : 0 ≤ k) (f : Fr) (hf : f.page = k) : ∃ a, a < q.L.length ∧ ∃ M, Alike q.L M ∧ (q.put k f).2.L = M.set a f ∧ (∀ i (hi : i < M.length), i ≠ a → M[i].page ≠ k) ∧ Once M := by
  cases hk : whereOf q.L k with
  | some i =>
    obtain ⟨hi, _⟩ := where_some hk
    exact ⟨i, hi, q.L, .refl _, by unfold PS.put; rw [hk], where_other hG.once hk, hG.once⟩
  | none =>
    obtain ⟨a, b, _⟩ := place_ok hG
    have hn2 : whereOf q.place.2.L k = none := by rw [a.where_eq]; exact hk
    exact ⟨q.place.1, b, q.place.2.L, a, by unfold PS.put; rw [hk], fun i hi _ => where_none hn2 h0 i hi, a.once hG.once⟩
theorem put_there {q : PS} (hG : Good q) {m : Nat} (l : List UInt8) (las : List (List UInt8)) (hs : List Int) (hm : m < 16) (h : Linked q las hs) :
    Linked (q.put m ⟨m, true, l, none, 0⟩).2 (las.set m l) (hs.set m 1) ∧ ∃ i, whereOf (q.put m ⟨m, true, l, none, 0⟩).2.L m = some i ∧ ((q.put m ⟨m, true, l, none, 0⟩).2.L.getD i fr0).s = l := by
  obtain ⟨a, ha, M, hal, hM, hoth, hone⟩ := where_put hG (k := m) (by omega) ⟨m, true, l, none, 0⟩ rfl
  have haM : a < M.length := by rw [hal.1]; exact ha
  have hw := where_set hone haM ⟨m, true, l, none, 0⟩ (fun _ i hi hne => hoth i hi hne)
  rw [hM]
  refine ⟨⟨by simpa using h.1, by simpa using h.2.1, fun p i hp => ?_⟩, a, ?_, by simp [haM]⟩
  · rw [hM] at hp ⊢
    rw [hw] at hp
    by_cases hpm : 0 ≤ p ∧ p = (m : Int)
    · rw [if_pos hpm] at hp
      obtain rfl := Option.some.inj hp
      refine ⟨m, hpm.2, hm, ?_, ?_⟩
      · rw [List.getElem?_set_self (by rw [h.2.1]; exact hm)]
      · rw [List.getElem?_set_self (by rw [h.1]; exact hm)]
        simp [haM]
    · rw [if_neg hpm] at hp
      by_cases hpa : p = M[a].page
      · rw [if_pos hpa] at hp; cases hp
      · rw [if_neg hpa, hal.where_eq] at hp
        obtain ⟨m', e, hm', h1, h2⟩ := h.2.2 p i hp
        obtain ⟨hi, hip, _⟩ := where_some hp
        have hne : m ≠ m' := by
          rintro rfl
          exact hpm ⟨by omega, e⟩
        have hai : a ≠ i := by
          rintro rfl
          exact hpa (by rw [(hal.2 a ha haM).1]; exact hip.symm)
        refine ⟨m', e, hm', by rw [List.getElem?_set_ne hne]; exact h1, ?_⟩
        rw [List.getElem?_set_ne hne, h2, List.getD_eq_getElem?_getD, List.getD_eq_getElem?_getD, List.getElem?_set_ne hai]
        have hiM : i < M.length := by rw [hal.1]; exact hi
        rw [List.getElem?_eq_getElem hi, List.getElem?_eq_getElem hiM]
        simp [(hal.2 i hi hiM).2.1]
  · rw [hw, if_pos ⟨by omega, rfl⟩]
theorem drop_gone {q : PS} (hG : Good q) {m : Nat} (las : List (List UInt8)) (hs : List Int) (h : Linked q las hs) : Linked (q.drop m).2 las (hs.set m 0) ∧ whereOf (q.drop m).2.L m = none := by
  cases hk : whereOf q.L m with
  | none =>
    have e : q.drop m = (false, q) := by unfold PS.drop; rw [hk]
    rw [e]
    refine ⟨⟨h.1, by simpa using h.2.1, fun p i hp => ?_⟩, hk⟩
    obtain ⟨m', e', hm', h1, h2⟩ := h.2.2 p i hp
    have hne : m ≠ m' := by
      rintro rfl
      rw [e'] at hp
      rw [hk] at hp
      cases hp
    exact ⟨m', e', hm', by rw [List.getElem?_set_ne hne]; exact h1, h2⟩
  | some j =>
    obtain ⟨hj, hjp, h0⟩ := where_some hk
    have e : q.drop m = (true, { q with L := q.L.set j fr0 }) := by unfold PS.drop; rw [hk]
    have hw := where_set hG.once hj fr0 (fun h => absurd h (by simp [fr0]))
    rw [e]
    simp only
    refine ⟨⟨h.1, by simpa using h.2.1, fun p i hp => ?_⟩, ?_⟩
    · simp only at hp
      rw [hw, if_neg (fun h : 0 ≤ p ∧ p = fr0.page => by have h1 := h.1; have h2 := h.2; simp only [fr0] at h2; omega)] at hp
      by_cases hpj : p = q.L[j].page
      · rw [if_pos hpj] at hp; cases hp
      · rw [if_neg hpj] at hp
        obtain ⟨m', e', hm', h1, h2⟩ := h.2.2 p i hp
        obtain ⟨hi, hip, _⟩ := where_some hp
        have hne : m ≠ m' := by
          rintro rfl
          exact hpj (by rw [e', hjp])
        have hji : j ≠ i := by
          rintro rfl
          exact hpj hip.symm
        refine ⟨m', e', hm', by rw [List.getElem?_set_ne hne]; exact h1, ?_⟩
        rw [h2, List.getD_eq_getElem?_getD, List.getD_eq_getElem?_getD, List.getElem?_set_ne hji]
    · rw [hw, if_neg (fun h : 0 ≤ (m : Int) ∧ (m : Int) = fr0.page => by have h2 := h.2; simp only [fr0] at h2; omega), if_pos hjp.symm]

set_option maxRecDepth 20000 in
set_option maxHeartbeats 2000000 in
theorem poolLast_main (w : World) (n : Int) (A : Option Addr) (c : Nat) (L : List OpB) (hr : ERow eOp w A L) (hf : ∀ o ∈ L, o.Fine w) (hfit : fitsB L = true) :
    Calls Try.prog 5 #[.int .i64 n, .slice A L.length c] w fun e w' => e = .returned (.bool true) ∧ Below w.heap.size w w' := by
  have hL : L.length ≤ 300 ∧ ∀ o ∈ L, o.l.length ≤ 100 := by
    unfold fitsB at hfit
    simpa using hfit
  obtain ⟨m, hm, hrem⟩ := u64_rem_any n 64 (by decide)
  simp only [Int.cast_ofNat_Int] at hrem
  have HF := Lib.hid (And.intro hf (And.intro hr hL))
  have HFIT := Lib.hid hfit
  have hlen := hL.1
  clear hf hr hL hfit
  go_enter Try.func5, Try.ntmps5
  go_wp2_with fail
  refine (lives_any w).mono ?_
  rintro e w1 ⟨rfl, hB1⟩
  have HB1 := Lib.hid hB1
  clear hB1
  go_wp2_with fail
  refine (fits_any w1 A c L (HF.out.2.1.below HB1.out) (by simp [maxLen]; omega) (fun o ho => by have := HF.out.2.2.2 o ho; simp [maxLen]; omega)).mono ?_
  rintro e w2 ⟨rfl, hB2⟩
  rw [HFIT.out]
  have HB2 := Lib.hid (HB1.out.trans (hB2.mono HB1.out.size))
  clear hB2
  go_wp2_with fail
  have hkk : (1 + (m : Int)) = ((1 + m : Nat) : Int) := by omega
  rw [hkk]
  clear hkk hrem
  obtain ⟨k, hk⟩ : ∃ k, 1 + m = k := ⟨_, rfl⟩
  rw [hk]
  have hk0 : 0 < k := by omega
  have hk9 : k ≤ 64 := by omega
  clear hk
  refine (new_of w2 k hk0 hk9).mono ?_
  rintro e w3 ⟨b, rfl, hP3, hB3⟩
  have hz2 := HB2.out.size
  have HP3 := Lib.hid hP3
  have HB3 := Lib.hid (HB2.out.trans (hB3.mono hz2))
  clear hB3 hP3
  go_wp2_with fail
  generalize hW0 : ((World.alloc w3 (.cells _ _)).alloc (.cells _ _)) = W
  obtain ⟨ba0, bb0, hz0, hB0⟩ := fresh2 hW0
  clear hW0
  have HI : Hid (Linked (PS.new k) (List.replicate 16 []) (List.replicate 16 0) ∧ LInv w w2.heap.size w3.heap.size (w3.heap.size + 1) b 0 (PS.new k) (List.replicate 16 []) (List.replicate 16 0) W) :=
    ⟨⟨rfl, rfl, fun p i hp => by
      obtain ⟨hi, e, h0⟩ := where_some hp
      simp [PS.new, fr0] at e
      omega⟩, ⟨HP3.out.below hB0, ba0, bb0, fun k hk => by have := (HP3.out.lt k hk).2; omega, hz2, HB3.out.trans (hB0.mono HB3.out.size)⟩⟩
  clear ba0 bb0 hB0
  go_loopw [37] (fun iv wr => ∃ (i N : Nat) (q : PS) (las : List (List UInt8)) (hs : List Int), i ≤ L.length ∧ N ≤ 2 * i ∧ iv = .int .i64 i ∧ Hid (Linked q las hs ∧ LInv w w2.heap.size w3.heap.size (w3.heap.size + 1) b N q las hs wr)) (fun iv _ => L.length - (intOf iv).toNat)
  case atStart => exact ⟨0, 0, _, _, _, by omega, by omega, rfl, HI⟩
  case round =>
    obtain ⟨i, N, q, las, hs, hi, hNi, rfl, HS⟩ := hrel
    clear HI
    by_cases hlt : i < L.length
    · have hlti : (i : Int) < (L.length : Int) := by omega
      have hN : N < 1000000 := by omega
      have hN1 : N + 1 < 1000000 := by omega
      obtain ⟨bo, o, rfl, hb, d0, d1, d2⟩ := op_at (HF.out.2.1.below HS.out.2.bel) hlt
      have hfi := HF.out.1 L[i] (List.getElem_mem hlt)
      have hli := HF.out.2.2.2 L[i] (List.getElem_mem hlt)
      generalize L[i] = p at d0 d1 d2 hfi hli
      obtain ⟨pk, pn, pA, pc, pl⟩ := p
      obtain ⟨hk, hpn, hbr, hcl, hcm⟩ := hfi
      simp only at d0 d1 d2 hk hpn hbr hcl hcm hli
      have HBR := Lib.hid hbr
      obtain ⟨x, hx, hxr⟩ := u64_rem_any pn 16 (by decide)
      simp only [Int.cast_ofNat_Int] at hxr
      clear hbr
      go_upto_region 9 with (fail)
      generalize hW1 : World.alloc wr (.cells _ _) = W1
      obtain ⟨ba1, hz1, hB1⟩ := fresh1 hW1
      clear hW1
      have HI1 := Lib.hid (HS.out.2.below hB1)
      have HBO := Lib.hid ba1
      have hz1 := HS.out.2.bel.size
      have hcc := ba1.c3
      have h7r : w3.heap.size + 1 < wr.heap.size := HS.out.2.l8.lt
      have hx7 : las.length = 16 := HS.out.1.1
      have hx8 : hs.length = 16 := HS.out.1.2.1
      have hlo1 : -9223372036854775808 ≤ (x : Int) := by omega
      have hhi1 : (x : Int) ≤ 9223372036854775807 := by omega
      have HXX := Lib.hid (And.intro hx7 hx8)
      clear ba1 hB1 d0 d1 d2 hx7 hx8
      rcases kind3_all pk with hk3 | hk3 | hk3
      · go_wp2_with fail
        refine (get_of W1 w2.heap.size N b q HI1.out.pool hN x hlo1 hhi1).mono ?_
        intro e w5 hI5
        obtain ⟨⟨A5, c5, rfl, hbr5, hfr5⟩, hP5, hK5⟩ := hI5
        have HI5 := Lib.hid (HI1.out.pooled hP5 hK5)
        have HL5 := Lib.hid (HS.out.1.get x)
        have HFR5 := Lib.hid (And.intro hbr5 hfr5)
        clear hcc hP5 hK5 hbr5 hfr5
        cases hwx : whereOf q.L x with
        | none =>
          have hg := get_none hwx
          rw [hg] at HI5 HL5 ⊢
          clear hg hwx HFR5
          simp only [Option.isSome_none, Option.getD_none]
          go_wp2_with fail
          go_quiet (fail)
          go_wp2_with fail
          go_roundw
          case rel => exact ⟨i + 1, N + 1, _, las, hs, by omega, by omega, by go_num, HL5.out, HI5.out.below ⟨rfl, rfl, rfl, Nat.le_refl _, fun _ _ => rfl⟩⟩
          case measure => simp [intOf]; omega
        | some y =>
          have hg := get_some hwx
          obtain ⟨m', e', hm', h1, h2⟩ := HS.out.1.2.2 _ _ hwx
          obtain rfl : x = m' := by omega
          rw [hg] at HI5 HL5 HFR5 ⊢
          have e8 := HI5.out.l8.cell x
          have e7 := HI5.out.l7.cell x
          rw [List.getElem?_map, h1] at e8
          rw [List.getElem?_map, h2] at e7
          simp only [Option.map_some, txt] at e7 e8
          have hxi : (x : Int) < 16 := by omega
          have hcv := run_string_bytes w5.drew c5 HFR5.out.1.drew
          simp only [Option.isSome_some, Option.getD_some] at hcv ⊢
          unfold txt at hcv
          clear hg hwx HFR5 e' hm' h1 h2
          generalize (q.L.getD y fr0).s = s at e7 hcv ⊢
          go_wp2_with fail
          apply wp_region_read (R := fun j x' => match j with
            | 0 => x' = .bool true
            | 1 => x' = .bool true
            | 2 => x' = .int .i64 x
            | 3 => x' = .pointer (some ⟨w3.heap.size + 1, x, none⟩)
            | 4 => x' = .int .i64 1
            | 5 => x' = .bool false
            | 6 => x' = .bool false
            | 7 => x' = .slice A5 s.length c5
            | 8 => x' = .string ⟨s.toArray⟩
            | 9 => x' = .int .i64 x
            | 10 => x' = .pointer (some ⟨w3.heap.size, x, none⟩)
            | 11 => x' = .string ⟨s.toArray⟩
            | 12 => x' = .bool false
            | 13 => x' = .bool false
            | 14 => x' = .bool false
            | _ => True)
          case hG => (intro v; simp only [regFrame, List.zipIdx_cons, List.zipIdx_nil, List.foldl_cons, List.foldl_nil, Act.put, List.setIfInBounds_toArray, List.set_cons_zero, List.set_cons_succ, Nat.reduceAdd]; rfl)
          case hm => kernel_rfl
          case honce => rfl
          case hlow => kernel_rfl
          case hstep =>
            refine ⟨?_, ?_, ?_, ?_, ?_, ?_, ?_, ?_, ?_, ?_, ?_, ?_, ?_, ?_, ?_, trivial⟩ <;> (intro v hd; simp only [Deps, Region.binds, ↓reduceIte, and_true] at hd) <;> (try (first | exact opDoes_move _ rfl rfl ⟨rfl, rfl⟩ | exact opDoes_assign _ rfl rfl ⟨rfl, rfl⟩ | (refine opDoes_run rfl ?_ ⟨rfl, rfl⟩; go_simp; done) | exact opDoes_gmove _ (wanted_guard rfl rfl rfl (by simp only [hd]; rfl)) rfl ⟨rfl, rfl⟩ | (refine opDoes_grun (wanted_guard rfl rfl rfl (by simp only [hd]; rfl)) ?_ ⟨rfl, rfl⟩; go_simp; done) | exact opDoes_skipped rfl rfl rfl (by simp only [hd]; rfl) ⟨rfl, trivial⟩ | (refine opDoes_assign _ rfl rfl ⟨rfl, ?_⟩; go_simp; done)))
          case hend =>
            intro v h
            simp only [AllOps, Nat.zero_add, Nat.reduceAdd, and_true] at h
            rw [h.2.2.2.2.2.2.2.2.2.2.2.2.2.2]
            go_wp2_with fail
            go_roundw
            case rel => exact ⟨i + 1, N + 1, _, las, hs, by omega, by omega, by go_num, HL5.out, HI5.out.below ⟨rfl, rfl, rfl, Nat.le_refl _, fun _ _ => rfl⟩⟩
            case measure => simp [intOf]; omega
      · have HLP := Lib.hid (put_there HI1.out.pool.good pl las hs hx HS.out.1)
        have hxn : ¬ (x : Int) < 0 := by omega
        have hput := put_anyx (fun _ => False) W1 w2.heap.size N b q (HI1.out.pool.toX (fun _ h => h.elim)) (fun _ h => h.elim) hN x hhi1 pA pc pl (HBR.out.below HI1.out.bel) (by omega) (fun hne a ha ho => by
          obtain ⟨b', o', e, hlt', _⟩ := HBR.out (by cases pl with | nil => exact absurd rfl hne | cons y l => simp)
          rw [ha] at e
          obtain rfl := Option.some.inj e
          have h1 := (HI1.out.pool.lt _ ho).1
          have h2 := HI1.out.wB
          simp only at h1
          omega)
        unfold PutAny PS.putAny at hput
        rw [if_neg hxn] at hput
        go_wp2_with fail
        refine hput.mono ?_
        intro e w5 hI5
        obtain ⟨rfl, hP5, hK5⟩ := hI5
        generalize q.put (x : Int) ⟨(x : Int), true, pl, none, 0⟩ = mq at hP5 HLP ⊢
        obtain ⟨m6, q6⟩ := mq
        simp only at hP5 HLP ⊢
        have HI5 := Lib.hid (HI1.out.pooled hP5.toOf hK5)
        have HBO5 := Lib.hid (HBO.out.kept hK5 (fun ho => by have := (HI1.out.own _ ho).2; omega))
        have hcc5 := And.intro HBO5.out.c3 (And.intro HI5.out.l7.lt HI5.out.l8.lt)
        have hcv := run_string_bytes w5 pc (HBR.out.below HI5.out.bel)
        unfold txt at hcv
        have hxi : (x : Int) < 16 := by omega
        have e8 := HI5.out.l8.cell x
        have e7 := HI5.out.l7.cell x
        have f8 := HI5.out.l8.free x
        have f7 := HI5.out.l7.free x
        rw [List.getElem?_map, List.getElem?_eq_getElem (by rw [HXX.out.2]; exact hx)] at e8
        rw [List.getElem?_map, List.getElem?_eq_getElem (by rw [HXX.out.1]; exact hx)] at e7
        simp only [Option.map_some, txt] at e7 e8
        have HI6 := Lib.hid ((HI5.out.set7 x pl).set8 x 1)
        have h7ne := HI5.out.ne
        unfold txt at HI6
        clear hcc hP5 hK5 hput
        go_wp2_with fail
        generalize ((World.setCell w5 _ _).setCell _ _) = W6 at HI6 ⊢
        clear e7 e8 f7 f8 hcv
        refine (get_of W6 w2.heap.size (N + 1) b q6 HI6.out.pool hN1 x hlo1 hhi1).mono ?_
        intro e w7 hI7
        obtain ⟨⟨A7, c7, rfl, hbr7, hfr7⟩, hP7, hK7⟩ := hI7
        obtain ⟨hlk, y, hy1, hy2⟩ := HLP.out
        have hg := get_some hy1
        rw [hy2] at hg
        have HI7 := Lib.hid (HI6.out.pooled hP7 hK7)
        have HL7 := Lib.hid (hlk.get x)
        rw [hg] at HI7 HL7 hbr7 ⊢
        have hcv := run_string_bytes w7.drew c7 hbr7.drew
        have e7 := HI7.out.l7.cell x
        rw [List.getElem?_map, List.getElem?_set_self (by rw [HXX.out.1]; exact hx)] at e7
        simp only [Option.map_some, txt, Option.getD_some, Option.isSome_some] at e7 hcv ⊢
        have h7lt := HI7.out.l7.lt
        clear hP7 hK7 hlk hy1 hy2 hg hbr7 hfr7 hcc5
        go_wp2_with fail
        apply wp_region_read (R := fun j x' => match j with
          | 0 => x' = .bool true
          | 1 => x' = .bool false
          | 2 => x' = .bool false
          | 3 => x' = .slice A7 pl.length c7
          | 4 => x' = .string ⟨pl.toArray⟩
          | 5 => x' = .int .i64 x
          | 6 => x' = .pointer (some ⟨w3.heap.size, x, none⟩)
          | 7 => x' = .string ⟨pl.toArray⟩
          | 8 => x' = .bool false
          | 9 => x' = .bool false
          | _ => True)
        case hG => (intro v; simp only [regFrame, List.zipIdx_cons, List.zipIdx_nil, List.foldl_cons, List.foldl_nil, Act.put, List.setIfInBounds_toArray, List.set_cons_zero, List.set_cons_succ, Nat.reduceAdd]; rfl)
        case hm => kernel_rfl
        case honce => rfl
        case hlow => kernel_rfl
        case hstep =>
          refine ⟨?_, ?_, ?_, ?_, ?_, ?_, ?_, ?_, ?_, ?_, trivial⟩ <;> (intro v hd; simp only [Deps, Region.binds, ↓reduceIte, and_true] at hd) <;> (try (first | exact opDoes_move _ rfl rfl ⟨rfl, rfl⟩ | exact opDoes_assign _ rfl rfl ⟨rfl, rfl⟩ | (refine opDoes_run rfl ?_ ⟨rfl, rfl⟩; go_simp; done) | exact opDoes_gmove _ (wanted_guard rfl rfl rfl (by simp only [hd]; rfl)) rfl ⟨rfl, rfl⟩ | (refine opDoes_grun (wanted_guard rfl rfl rfl (by simp only [hd]; rfl)) ?_ ⟨rfl, rfl⟩; go_simp; done) | exact opDoes_skipped rfl rfl rfl (by simp only [hd]; rfl) ⟨rfl, trivial⟩ | (refine opDoes_assign _ rfl rfl ⟨rfl, ?_⟩; go_simp; done)))
        case hend =>
          intro v h
          simp only [AllOps, Nat.zero_add, Nat.reduceAdd, and_true] at h
          rw [h.2.2.2.2.2.2.2.2.2]
          go_wp2_with fail
          go_roundw
          case rel => exact ⟨i + 1, N + 2, _, _, _, by omega, by omega, by go_num, HL7.out, HI7.out.below ⟨rfl, rfl, rfl, Nat.le_refl _, fun _ _ => rfl⟩⟩
          case measure => simp [intOf]; omega
      · have HLD := Lib.hid (drop_gone HI1.out.pool.good (m := x) las hs HS.out.1)
        have hdr := drop_of W1 w2.heap.size N b q HI1.out.pool x hlo1 hhi1
        unfold DropIs at hdr
        go_wp2_with fail
        refine hdr.mono ?_
        intro e w5 hI5
        obtain ⟨rfl, hP5, hK5⟩ := hI5
        generalize q.drop (x : Int) = mq at hP5 HLD ⊢
        obtain ⟨m6, q6⟩ := mq
        simp only at hP5 HLD ⊢
        have HI5 := Lib.hid (HI1.out.pooled hP5 hK5)
        have hcc5 := HI5.out.l8.lt
        have hxi : (x : Int) < 16 := by omega
        have e8 := HI5.out.l8.cell x
        have f8 := HI5.out.l8.free x
        rw [List.getElem?_map, List.getElem?_eq_getElem (by rw [HXX.out.2]; exact hx)] at e8
        simp only [Option.map_some] at e8
        have HI6 := Lib.hid (HI5.out.set8 x 0)
        clear hcc hP5 hK5 hdr
        go_wp2_with fail
        generalize (World.setCell w5 _ _) = W6 at HI6 ⊢
        clear e8 f8 hcc5
        refine (get_of W6 w2.heap.size (N + 1) b q6 HI6.out.pool hN1 x hlo1 hhi1).mono ?_
        intro e w7 hI7
        obtain ⟨⟨A7, c7, rfl, hbr7, hfr7⟩, hP7, hK7⟩ := hI7
        obtain ⟨hlk, hy1⟩ := HLD.out
        have hg := get_none hy1
        have HI7 := Lib.hid (HI6.out.pooled hP7 hK7)
        have HL7 := Lib.hid (hlk.get x)
        rw [hg] at HI7 HL7 ⊢
        simp only [Option.getD_none, Option.isSome_none]
        clear hP7 hK7 hlk hy1 hg hbr7 hfr7
        go_wp2_with fail
        go_roundw
        case rel => exact ⟨i + 1, N + 2, _, _, _, by omega, by omega, by go_num, HL7.out, HI7.out⟩
        case measure => simp [intOf]; omega
    · obtain rfl : i = L.length := by omega
      have hlti : ¬ (L.length : Int) < (L.length : Int) := by omega
      go_wp2_with fail
      go_ret
      exact ⟨rfl, HS.out.2.bel⟩

set_option maxRecDepth 20000 in
set_option maxHeartbeats 1000000 in
theorem poolLast_walk (w : World) (n : Int) (_wf : (Lit.int .i64 n).wf = true) (v : Value) (hv : ScriptIn w v) :
    Calls Try.prog 5 #[.int .i64 n, v] w fun e w' => e = .returned (.bool true) ∧ Below w.heap.size w w' := by
  obtain ⟨A, c, L, rfl, hr, hf, hlc, hcm⟩ := hv
  have hfl : ∀ o ∈ L, o.l.length ≤ maxLen := fun o ho => Nat.le_trans (hf o ho).2.2.2.1 (hf o ho).2.2.2.2
  by_cases hfit : fitsB L = true
  · exact poolLast_main w n A c L hr hf hfit
  · have hff : fitsB L = false := by simpa using hfit
    have HF := Lib.hid hff
    have HR := Lib.hid hr
    have HL := Lib.hid hfl
    clear hfit hr hfl hf hff
    go_enter Try.func5, Try.ntmps5
    go_wp2_with fail
    refine (lives_any w).mono ?_
    rintro e w1 ⟨rfl, hB1⟩
    have HB1 := Lib.hid hB1
    clear hB1
    go_wp2_with fail
    refine (fits_any w1 A c L (HR.out.below HB1.out) (Nat.le_trans hlc hcm) HL.out).mono ?_
    rintro e w2 ⟨rfl, hB2⟩
    rw [HF.out]
    have HB2 := Lib.hid (HB1.out.trans (hB2.mono HB1.out.size))
    clear hB2
    go_wp2_with fail
    refine (lives_any w2).mono ?_
    rintro e w3 ⟨rfl, hB3⟩
    go_wp2_with fail
    go_ret
    exact ⟨rfl, HB2.out.trans (hB3.mono HB2.out.size)⟩
end Go.Proofs.Ytjaopecjmmnbiaa
