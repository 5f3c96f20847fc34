/-
  The contracts of the document's pool: New, Put.
-/
import Derived.Test.YtjaopecjmmnbiaaPoolRefDrop
import Derived.Deep.LoopGhost
namespace Go.Proofs.Ytjaopecjmmnbiaa
set_option linter.unusedSimpArgs false
set_option linter.unusedVariables false
open Go.RowKit Go.Maps

theorem EOwn.ne_blk {α : Type} {E : Elem α} {w : World} {B c g : Nat} {A : Option Addr} {L : List α} {T : TypeId} {cs : List Value} (h : EOwn E w B A c L) (hb : Blk w g T cs) (hT : T ≠ E.e) : ∀ a, A = some a → a.block ≠ g := by
  rintro a ha rfl
  rcases h.form with ⟨rfl, _⟩ | ⟨g', rfl, _, _, _, _, cur, hg⟩
  · cases ha
  · obtain rfl := Option.some.inj ha
    rw [hb] at hg
    simp at hg
    exact hT hg.2
theorem map_block_ne {A : Option Addr} {g : Nat} (h : ∀ a, A = some a → a.block ≠ g) : some g ≠ A.map (·.block) := by
  cases A with
  | none => simp
  | some a => simpa using fun e => h a rfl e.symm

/-- What the document's New leaves. -/
def RefNewed (w : World) (n : Nat) (e : Ending) (w' : World) : Prop := (∃ A' c', e = .returned (rpv (PS.new n) A' c') ∧ RRow w' w.heap.size A' (PS.new n).L) ∧ Below w.heap.size w w'

set_option maxRecDepth 20000 in
set_option maxHeartbeats 1000000 in
theorem refnew_any (w : World) (n : Nat) (hn : n ≤ 64) :
    Calls Try.prog 15 #[.int .i64 n] w (RefNewed w n) := by
  go_enter Try.func15, Try.ntmps15
  go_wp2_with fail
  generalize hW0 : ((World.alloc w (.cells _ _)).alloc (.cells _ _)) = W
  obtain ⟨ba0, bb0, hz0, hB0⟩ := fresh2 hW0
  clear hW0
  go_loopw [4] (fun iv wr => ∃ i : Nat, i ≤ n ∧ iv = .int .i64 i ∧ Hid (∃ A c, Blk wr (w.heap.size + 1) 46 [.slice A i c, .int .i64 0, .int .i64 0, .int .i64 0] ∧ EOwn eRF wr w.heap.size A c (List.replicate i fr0) ∧
    Blk wr w.heap.size 46 [.slice none 0 0, .int .i64 0, .int .i64 0, .int .i64 0] ∧ Below w.heap.size w wr)) (fun iv _ => n - (intOf iv).toNat)
  case atStart => exact ⟨0, by omega, rfl, none, 0, bb0, EOwn.nil _ _, ba0, hB0⟩
  case round =>
    obtain ⟨i, hi, rfl, HS⟩ := hrel
    clear ba0 bb0 hB0
    obtain ⟨A, c, hbp, ho, hbr, hB⟩ := HS.out
    have hz := hB.size
    have hcc := And.intro hbp.c4 hbr.c4
    by_cases hlt : i < n
    · have hlti : (i : Int) < (n : Int) := by omega
      have HO := Lib.hid ho
      have HB := Lib.hid hB
      have HP := Lib.hid hbp
      have HRR := Lib.hid hbr
      clear ho hB hbp hbr
      go_wp2_with (at_builtin; refine wpList_append_elems eRF rfl (.tmp 12) (.tmp 14) rfl i rfl (HO.out.below (fresh1 rfl).2.2) (by simp) _ rfl ((fresh1 rfl).1.row eRF [fr0] rfl (by simp [maxLen])) rfl (by simp; omega) (by simp; omega) ?_; intro A3 c3 w3 ho3 hb3 hg3 _; simp only [List.length_replicate, List.length_cons, List.length_nil, Nat.zero_add]; have e1 : Blk w3 (w.heap.size + 1) 46 [.slice A i c, .int .i64 0, .int .i64 0, .int .i64 0] := ((HP.out.below (fresh1 rfl).2.2).grown hg3 (map_block_ne (HO.out.ne_blk HP.out (by decide)))); have e2 : Blk w3 w.heap.size 46 [.slice none 0 0, .int .i64 0, .int .i64 0, .int .i64 0] := ((HRR.out.below (fresh1 rfl).2.2).grown hg3 (map_block_ne (HO.out.ne_blk HRR.out (by decide)))); have hcc3 := And.intro e1.c4 e2.c4; have HE := Lib.hid (And.intro e1 (And.intro e2 (And.intro ho3 hb3))); clear e1 e2 ho3 hb3 hg3 hcc)
      obtain ⟨e1, e2, ho3, hb3⟩ := HE.out
      have hL : List.replicate i fr0 ++ [fr0] = List.replicate (i + 1) fr0 := by rw [List.replicate_succ']
      rw [hL] at ho3
      have hB3 := (HB.out.trans ((fresh1 rfl).2.2.mono hz)).trans hb3
      go_roundw
      case rel =>
        refine ⟨i + 1, by omega, by go_num, A3, c3, e1.set0, ho3.set _ (ho3.ne_blk e1 (by decide)) _, e2.other _ (by show w.heap.size ≠ w.heap.size + 1; omega) _, hB3.setCell (p := ⟨w.heap.size + 1, 0, none⟩) (by show w.heap.size ≤ w.heap.size + 1; omega) _⟩
      case measure => simp [intOf]; omega
    · obtain rfl : i = n := by omega
      have hlti : ¬ (i : Int) < (i : Int) := by omega
      have HO := Lib.hid ho
      have HB := Lib.hid hB
      have HP := Lib.hid hbp
      have HRR := Lib.hid hbr
      clear ho hB hbp hbr
      go_wp2_with fail
      have hF := below_storeFrom (B := w.heap.size) (g := w.heap.size) (Nat.le_refl _) [.slice A i c, .int .i64 0, .int .i64 0, .int .i64 0] 0 HB.out
      have hb := HRR.out.all4 (u := .slice A i c) (v := .int .i64 0) (x := .int .i64 0) (y := .int .i64 0)
      have hne := HO.out.ne_blk HRR.out (by decide)
      have ho := ((((HO.out.set ⟨w.heap.size, 0, none⟩ hne (.slice A i c)).set ⟨w.heap.size, 1, none⟩ hne (.int .i64 0)).set ⟨w.heap.size, 2, none⟩ hne (.int .i64 0)).set ⟨w.heap.size, 3, none⟩ hne (.int .i64 0))
      refine ret_mem1 rfl rfl rfl (load_rp hb) ?_
      exact ⟨⟨A, c, by simp [rpv, PS.new], ho.rrow (Nat.le_refl _)⟩, hF⟩

/-- What the document's Put leaves. -/
def RefPutted (w : World) (lo : Nat) (q : PS) (k : Int) (l : List UInt8) (e : Ending) (w' : World) : Prop :=
  (∃ A' c', e = .returned (.tuple #[rpv (q.put k ⟨k, true, l, none, 0⟩).2 A' c', .int .i64 (q.put k ⟨k, true, l, none, 0⟩).1]) ∧ RRow w' lo A' (q.put k ⟨k, true, l, none, 0⟩).2.L) ∧ Below w.heap.size w w'
def RefPutNeg (w : World) (q : PS) (A : Option Addr) (c : Nat) (e : Ending) (w' : World) : Prop :=
  e = .returned (.tuple #[rpv q A c, .int .i64 (-1)]) ∧ Below w.heap.size w w'

set_option maxRecDepth 20000 in
set_option maxHeartbeats 1000000 in
theorem refput_neg (w : World) (lo : Nat) (q : PS) (A : Option Addr) (c : Nat) (hr : RRow w lo A q.L) (k : Int) (hk : k < 0) (l : List UInt8) :
    Calls Try.prog 17 #[rpv q A c, .int .i64 k, txt l] w (RefPutNeg w q A c) := by
  unfold rpv txt
  go_enter Try.func17, Try.ntmps17
  go_upto_region 1 with (fail)
  generalize hW0 : ((World.alloc w (.cells _ _)).alloc (.cells _ _)) = W
  obtain ⟨ba0, bb0, hz0, hB0⟩ := fresh2 hW0
  clear hW0
  have HB0 := Lib.hid hB0
  have BA := Lib.hid ba0
  have BB := Lib.hid bb0
  have hcc := And.intro ba0.c4 bb0.c4
  have HR := Lib.hid hr
  have HR1 := Lib.hid (hr.below hB0)
  clear ba0 bb0 hB0 hr
  go_wp2_with fail
  have b1 := BB.out.all4 (u := .slice A q.L.length c) (v := .int .i64 (q.hand : Nat)) (x := .int .i64 q.hits) (y := .int .i64 q.misses)
  have hF := below_storeFrom (B := w.heap.size) (g := w.heap.size + 1) (by omega) [.slice A q.L.length c, .int .i64 (q.hand : Nat), .int .i64 q.hits, .int .i64 q.misses] 0 HB0.out
  refine ret_mem2 rfl rfl rfl rfl (load_rp b1) ?_
  exact ⟨rfl, hF⟩

theorem first_at : ∀ (L : List Fr) (i : Nat), (∀ f ∈ L, f.page = -1 ∨ 0 ≤ f.page) → firstEmpty L i = match L.findIdx? (fun f => f.page == -1) with | some j => ((i + j : Nat) : Int) | none => -1
  | [], i, _ => rfl
  | f :: L, i, h => by
    unfold firstEmpty
    rw [List.findIdx?_cons]
    rcases h f (by simp) with hf | hf
    · rw [if_pos (by omega)]
      simp [hf]
    · have hne : (f.page == -1) = false := by simp; omega
      rw [if_neg (by omega), first_at L (i + 1) (fun g hg => h g (by simp [hg])), hne]
      simp only [Bool.false_eq_true, if_false]
      cases L.findIdx? (fun f => f.page == -1) with
      | none => rfl
      | some j => simp only [Option.map_some]; congr 1; omega
theorem atOf_first {q : PS} (h : Good q) : atOf q.L (-1) = firstEmpty q.L 0 := by
  rw [first_at q.L 0 (fun f hf => by rcases h.pages f hf with e | e; exact .inl e; exact .inr e.1)]
  unfold atOf
  cases q.L.findIdx? (fun f => f.page == -1) <;> simp

/-- What holds at the head of the loop of Put: a place is found, or the hand goes on. -/
def Sweeping (q : PS) (k : Int) (l : List UInt8) (n : Nat) (at_ gone : Value) (r : PS) : Prop :=
  r.L.length = q.L.length ∧ r.hits = q.hits ∧ r.misses = q.misses ∧
  ((∃ (i : Nat) (g : Int), i < r.L.length ∧ at_ = .int .i64 i ∧ gone = .int .i64 g ∧ q.put k ⟨k, true, l, none, 0⟩ = (g, { r with L := r.L.set i ⟨k, true, l, none, 0⟩ })) ∨
   (at_ = .int .i64 (-1) ∧ gone = .int .i64 (-1) ∧ r.hand < r.L.length ∧ marked r.L < n ∧
     q.put k ⟨k, true, l, none, 0⟩ = (((sweep n r.L r.hand).2.1.getD (sweep n r.L r.hand).1 fr0).page, { r with L := (sweep n r.L r.hand).2.1.set (sweep n r.L r.hand).1 ⟨k, true, l, none, 0⟩, hand := (sweep n r.L r.hand).2.2 })))
def SweepAt (w : World) (lo : Nat) (wr : World) (A : Option Addr) (c : Nat) (r : PS) : Prop :=
  Blk wr w.heap.size 46 [.slice A r.L.length c, .int .i64 (r.hand : Nat), .int .i64 r.hits, .int .i64 r.misses] ∧ RRow wr lo A r.L ∧ (∀ a, A = some a → a.block ≠ w.heap.size ∧ a.block ≠ w.heap.size + 1) ∧
    Blk wr (w.heap.size + 1) 46 [.slice none 0 0, .int .i64 0, .int .i64 0, .int .i64 0] ∧ Below w.heap.size w wr

set_option maxRecDepth 20000 in
set_option maxHeartbeats 2000000 in
theorem refput_pos (w : World) (lo : Nat) (hlo : lo ≤ w.heap.size) (q : PS) (hG : Good q) (A : Option Addr) (c : Nat) (hr : RRow w lo A q.L) (hfr : ∀ a, A = some a → a.block < w.heap.size) (k : Int) (hk : 0 ≤ k) (l : List UInt8) :
    Calls Try.prog 17 #[rpv q A c, .int .i64 k, txt l] w (RefPutted w w.heap.size q k l) := by
  have hl := hG.n1
  have hkn : ¬ k < 0 := by omega
  cases hw : whereOf q.L k with
  | some i =>
    obtain ⟨hi, _, h0⟩ := where_some hw
    have HG : Hid (q.put k ⟨k, true, l, none, 0⟩ = (-1, { q with L := q.L.set i ⟨k, true, l, none, 0⟩ })) := by show _ = _; unfold PS.put; rw [hw]
    have HA := Lib.hid (refat_any · q A c · hl k)
    rw [atOf_some hw] at HA
    clear hw
    have hi64 : (i : Int) ≤ 64 := by omega
    unfold rpv at HA
    unfold rpv txt
    go_enter Try.func17, Try.ntmps17
    go_upto_region 1 with (fail)
    generalize hW0 : ((World.alloc w (.cells _ _)).alloc (.cells _ _)) = W
    obtain ⟨ba0, bb0, hz0, hB0⟩ := fresh2 hW0
    clear hW0
    have HB0 := Lib.hid hB0
    have BA := Lib.hid ba0
    have BB := Lib.hid bb0
    have hcc := And.intro ba0.c4 bb0.c4
    have HR := Lib.hid hr
    have HR1 := Lib.hid (hr.below hB0)
    clear ba0 bb0 hB0 hr
    go_wp2_with fail
    refine (HA.out W HR1.out.1).mono ?_
    rintro e w1 ⟨rfl, hb1⟩
    have HB1 := HB0.out.trans (hb1.mono HB0.out.size)
    have BA1 := BA.out.below hb1
    have BB1 := BB.out.below hb1
    have hcc1 := And.intro BA1.c4 BB1.c4
    have HS : Hid (SweepAt w lo w1 A c q) := ⟨BA1, HR.out.below HB1, fun a ha => by have := hfr a ha; omega, BB1, HB1⟩
    clear hcc BA1 BB1 hb1 HB1
    go_wp2_with fail
    clear hcc1
    go_loopg [8, 9] 0 (fun n av gv wr => ∃ (A : Option Addr) (c : Nat) (r : PS), Hid (SweepAt w lo wr A c r) ∧ Hid (Sweeping q k l n av gv r))
    case atStart => exact ⟨A, c, q, HS, ⟨rfl, rfl, rfl, .inl ⟨i, -1, hi, rfl, rfl, HG.out⟩⟩⟩
    case round =>
      obtain ⟨A3, c3, r, HS3, HX⟩ := hrel
      clear HS
      obtain ⟨b0, hrr, hne, b1, hB⟩ := HS3.out
      have hz := hB.size
      have hcc3 := And.intro b0.c4 b1.c4
      have HR3 := Lib.hid hrr
      have HB3 := Lib.hid hB
      have HP3 := Lib.hid (And.intro b0 b1)
      clear b0 hrr b1 hB
      obtain ⟨hL, hhit, hmis, hcase⟩ := HX.out
      have hrl : r.L.length ≤ 64 := by omega
      have HHM := Lib.hid (And.intro hhit hmis)
      have HL3 := Lib.hid hL
      clear hhit hmis hL HX
      rcases hcase with ⟨i, g, hi, rfl, rfl, hput⟩ | ⟨rfl, rfl, hh, hmk, hput⟩
      · have HPUT := Lib.hid hput
        have hi64 : (i : Int) ≤ 64 := by omega
        have HW := Lib.hid (refwith_any wr r A3 c3 HR3.out.1 hrl i hi ⟨k, true, l, none, 0⟩)
        unfold rpv rfv txt at HW
        clear hput
        go_wp2_with fail
        refine HW.out.mono ?_
        rintro e w5 ⟨⟨A5, c5, rfl, ho5⟩, hb5⟩
        have b5 := HP3.out.2.below hb5
        have hcc5 := b5.c4
        have HB5 := Lib.hid (And.intro b5 (And.intro ho5 (HB3.out.trans (hb5.mono hz))))
        clear hb5 ho5 b5 HW hcc3
        go_wp2_with fail
        have hbl := HB5.out.1.all4 (u := .slice A5 r.L.length c5) (v := .int .i64 (r.hand : Nat)) (x := .int .i64 r.hits) (y := .int .i64 r.misses)
        have hF := below_storeFrom (B := w.heap.size) (g := w.heap.size + 1) (by omega) [.slice A5 r.L.length c5, .int .i64 (r.hand : Nat), .int .i64 r.hits, .int .i64 r.misses] 0 HB5.out.2.2
        have hne5 : ∀ a, A5 = some a → a.block ≠ w.heap.size + 1 := fun a ha => by have h1 := (HB5.out.2.1.block a ha).1; have h2 := HP3.out.2.lt; omega
        have ho5 := (((HB5.out.2.1.set ⟨w.heap.size + 1, 0, none⟩ hne5 (.slice A5 r.L.length c5)).set ⟨w.heap.size + 1, 1, none⟩ hne5 (.int .i64 (r.hand : Nat))).set ⟨w.heap.size + 1, 2, none⟩ hne5 (.int .i64 r.hits)).set ⟨w.heap.size + 1, 3, none⟩ hne5 (.int .i64 r.misses)
        refine ret_mem2 rfl rfl rfl rfl (load_rp hbl) ?_
        unfold RefPutted
        rw [HPUT.out]
        exact ⟨⟨A5, c5, by simp [rpv], ho5.rrow (by omega)⟩, hF⟩
      · have HPUT := Lib.hid hput
        clear hput
        obtain ⟨n, rfl⟩ : ∃ n, gk = n + 1 := ⟨gk - 1, by omega⟩
        obtain ⟨b, o, hA, hb, d0, d1, d2⟩ := rf_at HR3.out.1 hh
        subst hA
        obtain ⟨hne0, hne1⟩ := hne _ rfl
        simp only at hne0 hne1
        have hhi : (r.hand : Int) < (r.L.length : Int) := by omega
        have hnz : (r.L.length : Int) ≠ 0 := by omega
        have hnz2 : ((r.L.length : Int) == 0) = false := by simpa using hnz
        have hLLi : (r.L.length : Int) ≤ 64 := by omega
        obtain ⟨h', hh'⟩ : ∃ h', (r.hand + 1) % r.L.length = h' := ⟨_, rfl⟩
        have hmodi : ((r.hand : Int) + 1) % (r.L.length : Int) = (h' : Int) := by rw [← hh']; simp
        have hlt2 : h' < r.L.length := by rw [← hh']; exact Nat.mod_lt _ (by omega)
        have HH := Lib.hid hh'
        clear hh' hne
        cases hm : r.L[r.hand].mark with
        | true =>
          have HSW : Hid (sweep (n + 1) r.L r.hand = sweep n (r.L.set r.hand { r.L[r.hand] with mark := false }) h') := by
            show _ = _
            conv => lhs; unfold sweep
            rw [dif_pos hh, if_pos hm, HH.out]
          have hms := marked_set r.L r.hand hh hm
          rw [hm] at d1
          have HM := Lib.hid (And.intro hm hms)
          clear hm hms
          go_upto_region 10 with (fail)
          generalize hW4 : World.alloc wr (.cells _ _) = W4
          obtain ⟨ba4, hz4, hB4⟩ := fresh1 hW4
          clear hW4
          have b40 := HP3.out.1.below hB4
          have b41 := HP3.out.2.below hB4
          have hcc4 := And.intro b40.c4 (And.intro b41.c4 ba4.c3)
          have HR4 := HR3.out.below hB4
          have HW := Lib.hid (refwith_any W4 r (some ⟨b, o, none⟩) c3 HR4.1 hrl r.hand hh { r.L[r.hand] with mark := false })
          have HB4 := Lib.hid (And.intro b40 (And.intro b41 (HB3.out.trans (hB4.mono hz))))
          unfold rpv rfv txt at HW
          clear b40 b41 ba4 hB4 HR4 hcc3 d0 d1 d2
          go_wp2_with fail
          refine HW.out.mono ?_
          rintro e w5 ⟨⟨A5, c5, rfl, ho5⟩, hb5⟩
          have b50 := HB4.out.1.below hb5
          have b51 := HB4.out.2.1.below hb5
          have hcc5 := And.intro b50.c4 b51.c4
          have hz4 : w.heap.size + 1 < W4.heap.size := HB4.out.2.1.lt
          have HB5 := Lib.hid (And.intro b50 (And.intro b51 (And.intro ho5 (HB4.out.2.2.trans (hb5.mono (by omega))))))
          clear hb5 ho5 b50 b51 HW hcc4
          go_wp2_with fail
          go_roundg n
          case measure => omega
          case rel =>
            obtain ⟨b50, b51, ho5, hB5⟩ := HB5.out
            have hbl := (b50.all4 (u := .slice A5 r.L.length c5) (v := .int .i64 (r.hand : Nat)) (x := .int .i64 r.hits) (y := .int .i64 r.misses)).set1 (u := .int .i64 (h' : Nat))
            have hF := (below_storeFrom (B := w.heap.size) (g := w.heap.size) (by omega) [.slice A5 r.L.length c5, .int .i64 (r.hand : Nat), .int .i64 r.hits, .int .i64 r.misses] 0 hB5).setCell (p := ⟨w.heap.size, 1, none⟩) (Nat.le_refl _) (.int .i64 (h' : Nat))
            have hne5 : ∀ a, A5 = some a → a.block ≠ w.heap.size := fun a ha => by have h1 := (ho5.block a ha).1; omega
            have ho6 := ((((ho5.set ⟨w.heap.size, 0, none⟩ hne5 (.slice A5 r.L.length c5)).set ⟨w.heap.size, 1, none⟩ hne5 (.int .i64 (r.hand : Nat))).set ⟨w.heap.size, 2, none⟩ hne5 (.int .i64 r.hits)).set ⟨w.heap.size, 3, none⟩ hne5 (.int .i64 r.misses)).set ⟨w.heap.size, 1, none⟩ hne5 (.int .i64 (h' : Nat))
            have hoth := (((((b51.other ⟨w.heap.size, 0, none⟩ (by show w.heap.size + 1 ≠ w.heap.size; omega) (.slice A5 r.L.length c5)).other ⟨w.heap.size, 1, none⟩ (by show w.heap.size + 1 ≠ w.heap.size; omega) (.int .i64 (r.hand : Nat))).other ⟨w.heap.size, 2, none⟩ (by show w.heap.size + 1 ≠ w.heap.size; omega) (.int .i64 r.hits)).other ⟨w.heap.size, 3, none⟩ (by show w.heap.size + 1 ≠ w.heap.size; omega) (.int .i64 r.misses)).other ⟨w.heap.size, 1, none⟩ (by show w.heap.size + 1 ≠ w.heap.size; omega) (.int .i64 (h' : Nat)))
            refine ⟨A5, c5, { r with L := r.L.set r.hand { r.L[r.hand] with mark := false }, hand := h' }, ⟨by simpa using hbl, ho6.rrow (by omega), fun a ha => by have h1 := (ho5.block a ha).1; omega, hoth, hF⟩, ⟨by simpa using HL3.out, HHM.out.1, HHM.out.2, .inr ⟨rfl, rfl, by simpa using hlt2, ?_, ?_⟩⟩⟩
            · exact Nat.lt_of_succ_le (Nat.le_trans (Nat.le_of_eq HM.out.2) (Nat.le_of_lt_succ hmk))
            · rw [HPUT.out, HSW.out]
        | false =>
          have HSW : Hid (sweep (n + 1) r.L r.hand = (r.hand, r.L, h')) := by
            show _ = _
            unfold sweep
            rw [dif_pos hh, if_neg (by simp [hm]), HH.out]
          rw [hm] at d1
          clear hm
          go_wp2_with fail
          go_quiet (fail)
          go_wp2_with fail
          have hf := fresh1 (rfl : wr.alloc (.cells ([.int .i64 r.L[r.hand].page, .bool false, .string ⟨r.L[r.hand].s.toArray⟩] : List Value).toArray 57) = _)
          go_roundg 0
          case measure => omega
          case rel =>
            have hB4 : Below wr.heap.size wr ((wr.alloc (.cells #[.int .i64 r.L[r.hand].page, .bool false, .string ⟨r.L[r.hand].s.toArray⟩] 57)).drewN nq) := ⟨hf.2.2.os, hf.2.2.tape, hf.2.2.output, hf.2.2.size, hf.2.2.block⟩
            have b40 := (HP3.out.1.below hB4).set1 (u := .int .i64 (h' : Nat))
            have b41 := (HP3.out.2.below hB4).other ⟨w.heap.size, 1, none⟩ (by show w.heap.size + 1 ≠ w.heap.size; omega) (.int .i64 (h' : Nat))
            have hF := (HB3.out.trans (hB4.mono hz)).setCell (p := ⟨w.heap.size, 1, none⟩) (Nat.le_refl _) (.int .i64 (h' : Nat))
            refine ⟨some ⟨b, o, none⟩, c3, { r with hand := h' }, ⟨b40, ⟨(HR3.out.1.below hB4).keep (by simp) (fun a ha _ => heap_setCell_other _ _ _ _ (by obtain rfl := Option.some.inj ha; exact hne0)), HR3.out.2⟩, fun a ha => by obtain rfl := Option.some.inj ha; exact ⟨hne0, hne1⟩, b41, hF⟩, ⟨HL3.out, HHM.out.1, HHM.out.2, .inl ⟨r.hand, r.L[r.hand].page, hh, rfl, rfl, ?_⟩⟩⟩
            rw [HPUT.out, HSW.out]
            simp [hh]
  | none =>
    have HG : Hid (q.put k ⟨k, true, l, none, 0⟩ = ((q.place.2.L.getD q.place.1 fr0).page, { q.place.2 with L := q.place.2.L.set q.place.1 ⟨k, true, l, none, 0⟩ })) := by show _ = _; unfold PS.put; rw [hw]
    have HA := Lib.hid (refat_any · q A c · hl k)
    have HA2 := Lib.hid (refat_any · q A c · hl (-1))
    rw [atOf_none hk hw] at HA
    rw [atOf_first hG] at HA2
    clear hw
    by_cases hf : 0 ≤ firstEmpty q.L 0
    · obtain ⟨i, hi, he, hneg⟩ := firstEmpty_at q.L 0 hf
      have HG2 : Hid (q.put k ⟨k, true, l, none, 0⟩ = (-1, { q with L := q.L.set i ⟨k, true, l, none, 0⟩ })) := by
        show _ = _
        rw [HG.out]
        have e2 : q.place = (i, q) := by unfold PS.place; rw [if_pos hf, he]; simp
        have e3 : q.L[i].page = -1 := by rcases hG.pages _ (List.getElem_mem hi) with e | e; exact e; omega
        rw [e2]
        simp only [List.getD_eq_getElem?_getD, List.getElem?_eq_getElem hi, Option.getD_some, e3]
      rw [he] at HA2
      clear hf he hneg
      simp only [Nat.zero_add] at HA2
      have hi64 : (i : Int) ≤ 64 := by omega
      unfold rpv at HA HA2
      unfold rpv txt
      go_enter Try.func17, Try.ntmps17
      go_upto_region 1 with (fail)
      generalize hW0 : ((World.alloc w (.cells _ _)).alloc (.cells _ _)) = W
      obtain ⟨ba0, bb0, hz0, hB0⟩ := fresh2 hW0
      clear hW0
      have HB0 := Lib.hid hB0
      have BA := Lib.hid ba0
      have BB := Lib.hid bb0
      have hcc := And.intro ba0.c4 bb0.c4
      have HR := Lib.hid hr
      have HR1 := Lib.hid (hr.below hB0)
      clear ba0 bb0 hB0 hr
      go_wp2_with fail
      refine (HA.out W HR1.out.1).mono ?_
      rintro e w1 ⟨rfl, hb1⟩
      have HB1 := Lib.hid (HB0.out.trans (hb1.mono HB0.out.size))
      have BA1 := Lib.hid (BA.out.below hb1)
      have BB1 := Lib.hid (BB.out.below hb1)
      have hcc1 := And.intro BA1.out.c4 BB1.out.c4
      clear hcc hb1
      go_wp2_with fail
      refine (HA2.out w1 (HR.out.1.below HB1.out)).mono ?_
      rintro e w2 ⟨rfl, hb2⟩
      have HB2 := HB1.out.trans (hb2.mono HB1.out.size)
      have HS : Hid (SweepAt w lo w2 A c q) := ⟨BA1.out.below hb2, HR.out.below HB2, fun a ha => by have := hfr a ha; omega, BB1.out.below hb2, HB2⟩
      have hcc2 := And.intro (BA1.out.below hb2).c4 (BB1.out.below hb2).c4
      clear hb2 HB2 hcc1
      go_wp2_with fail
      have hcc1 := trivial
      clear hcc1
      go_loopg [8, 9] 0 (fun n av gv wr => ∃ (A : Option Addr) (c : Nat) (r : PS), Hid (SweepAt w lo wr A c r) ∧ Hid (Sweeping q k l n av gv r))
      case atStart => exact ⟨A, c, q, HS, ⟨rfl, rfl, rfl, .inl ⟨i, -1, hi, rfl, rfl, HG2.out⟩⟩⟩
      case round =>
        obtain ⟨A3, c3, r, HS3, HX⟩ := hrel
        clear HS
        obtain ⟨b0, hrr, hne, b1, hB⟩ := HS3.out
        have hz := hB.size
        have hcc3 := And.intro b0.c4 b1.c4
        have HR3 := Lib.hid hrr
        have HB3 := Lib.hid hB
        have HP3 := Lib.hid (And.intro b0 b1)
        clear b0 hrr b1 hB
        obtain ⟨hL, hhit, hmis, hcase⟩ := HX.out
        have hrl : r.L.length ≤ 64 := by omega
        have HHM := Lib.hid (And.intro hhit hmis)
        have HL3 := Lib.hid hL
        clear hhit hmis hL HX
        rcases hcase with ⟨i, g, hi, rfl, rfl, hput⟩ | ⟨rfl, rfl, hh, hmk, hput⟩
        · have HPUT := Lib.hid hput
          have hi64 : (i : Int) ≤ 64 := by omega
          have HW := Lib.hid (refwith_any wr r A3 c3 HR3.out.1 hrl i hi ⟨k, true, l, none, 0⟩)
          unfold rpv rfv txt at HW
          clear hput
          go_wp2_with fail
          refine HW.out.mono ?_
          rintro e w5 ⟨⟨A5, c5, rfl, ho5⟩, hb5⟩
          have b5 := HP3.out.2.below hb5
          have hcc5 := b5.c4
          have HB5 := Lib.hid (And.intro b5 (And.intro ho5 (HB3.out.trans (hb5.mono hz))))
          clear hb5 ho5 b5 HW hcc3
          go_wp2_with fail
          have hbl := HB5.out.1.all4 (u := .slice A5 r.L.length c5) (v := .int .i64 (r.hand : Nat)) (x := .int .i64 r.hits) (y := .int .i64 r.misses)
          have hF := below_storeFrom (B := w.heap.size) (g := w.heap.size + 1) (by omega) [.slice A5 r.L.length c5, .int .i64 (r.hand : Nat), .int .i64 r.hits, .int .i64 r.misses] 0 HB5.out.2.2
          have hne5 : ∀ a, A5 = some a → a.block ≠ w.heap.size + 1 := fun a ha => by have h1 := (HB5.out.2.1.block a ha).1; have h2 := HP3.out.2.lt; omega
          have ho5 := (((HB5.out.2.1.set ⟨w.heap.size + 1, 0, none⟩ hne5 (.slice A5 r.L.length c5)).set ⟨w.heap.size + 1, 1, none⟩ hne5 (.int .i64 (r.hand : Nat))).set ⟨w.heap.size + 1, 2, none⟩ hne5 (.int .i64 r.hits)).set ⟨w.heap.size + 1, 3, none⟩ hne5 (.int .i64 r.misses)
          refine ret_mem2 rfl rfl rfl rfl (load_rp hbl) ?_
          unfold RefPutted
          rw [HPUT.out]
          exact ⟨⟨A5, c5, by simp [rpv], ho5.rrow (by omega)⟩, hF⟩
        · have HPUT := Lib.hid hput
          clear hput
          obtain ⟨n, rfl⟩ : ∃ n, gk = n + 1 := ⟨gk - 1, by omega⟩
          obtain ⟨b, o, hA, hb, d0, d1, d2⟩ := rf_at HR3.out.1 hh
          subst hA
          obtain ⟨hne0, hne1⟩ := hne _ rfl
          simp only at hne0 hne1
          have hhi : (r.hand : Int) < (r.L.length : Int) := by omega
          have hnz : (r.L.length : Int) ≠ 0 := by omega
          have hnz2 : ((r.L.length : Int) == 0) = false := by simpa using hnz
          have hLLi : (r.L.length : Int) ≤ 64 := by omega
          obtain ⟨h', hh'⟩ : ∃ h', (r.hand + 1) % r.L.length = h' := ⟨_, rfl⟩
          have hmodi : ((r.hand : Int) + 1) % (r.L.length : Int) = (h' : Int) := by rw [← hh']; simp
          have hlt2 : h' < r.L.length := by rw [← hh']; exact Nat.mod_lt _ (by omega)
          have HH := Lib.hid hh'
          clear hh' hne
          cases hm : r.L[r.hand].mark with
          | true =>
            have HSW : Hid (sweep (n + 1) r.L r.hand = sweep n (r.L.set r.hand { r.L[r.hand] with mark := false }) h') := by
              show _ = _
              conv => lhs; unfold sweep
              rw [dif_pos hh, if_pos hm, HH.out]
            have hms := marked_set r.L r.hand hh hm
            rw [hm] at d1
            have HM := Lib.hid (And.intro hm hms)
            clear hm hms
            go_upto_region 10 with (fail)
            generalize hW4 : World.alloc wr (.cells _ _) = W4
            obtain ⟨ba4, hz4, hB4⟩ := fresh1 hW4
            clear hW4
            have b40 := HP3.out.1.below hB4
            have b41 := HP3.out.2.below hB4
            have hcc4 := And.intro b40.c4 (And.intro b41.c4 ba4.c3)
            have HR4 := HR3.out.below hB4
            have HW := Lib.hid (refwith_any W4 r (some ⟨b, o, none⟩) c3 HR4.1 hrl r.hand hh { r.L[r.hand] with mark := false })
            have HB4 := Lib.hid (And.intro b40 (And.intro b41 (HB3.out.trans (hB4.mono hz))))
            unfold rpv rfv txt at HW
            clear b40 b41 ba4 hB4 HR4 hcc3 d0 d1 d2
            go_wp2_with fail
            refine HW.out.mono ?_
            rintro e w5 ⟨⟨A5, c5, rfl, ho5⟩, hb5⟩
            have b50 := HB4.out.1.below hb5
            have b51 := HB4.out.2.1.below hb5
            have hcc5 := And.intro b50.c4 b51.c4
            have hz4 : w.heap.size + 1 < W4.heap.size := HB4.out.2.1.lt
            have HB5 := Lib.hid (And.intro b50 (And.intro b51 (And.intro ho5 (HB4.out.2.2.trans (hb5.mono (by omega))))))
            clear hb5 ho5 b50 b51 HW hcc4
            go_wp2_with fail
            go_roundg n
            case measure => omega
            case rel =>
              obtain ⟨b50, b51, ho5, hB5⟩ := HB5.out
              have hbl := (b50.all4 (u := .slice A5 r.L.length c5) (v := .int .i64 (r.hand : Nat)) (x := .int .i64 r.hits) (y := .int .i64 r.misses)).set1 (u := .int .i64 (h' : Nat))
              have hF := (below_storeFrom (B := w.heap.size) (g := w.heap.size) (by omega) [.slice A5 r.L.length c5, .int .i64 (r.hand : Nat), .int .i64 r.hits, .int .i64 r.misses] 0 hB5).setCell (p := ⟨w.heap.size, 1, none⟩) (Nat.le_refl _) (.int .i64 (h' : Nat))
              have hne5 : ∀ a, A5 = some a → a.block ≠ w.heap.size := fun a ha => by have h1 := (ho5.block a ha).1; omega
              have ho6 := ((((ho5.set ⟨w.heap.size, 0, none⟩ hne5 (.slice A5 r.L.length c5)).set ⟨w.heap.size, 1, none⟩ hne5 (.int .i64 (r.hand : Nat))).set ⟨w.heap.size, 2, none⟩ hne5 (.int .i64 r.hits)).set ⟨w.heap.size, 3, none⟩ hne5 (.int .i64 r.misses)).set ⟨w.heap.size, 1, none⟩ hne5 (.int .i64 (h' : Nat))
              have hoth := (((((b51.other ⟨w.heap.size, 0, none⟩ (by show w.heap.size + 1 ≠ w.heap.size; omega) (.slice A5 r.L.length c5)).other ⟨w.heap.size, 1, none⟩ (by show w.heap.size + 1 ≠ w.heap.size; omega) (.int .i64 (r.hand : Nat))).other ⟨w.heap.size, 2, none⟩ (by show w.heap.size + 1 ≠ w.heap.size; omega) (.int .i64 r.hits)).other ⟨w.heap.size, 3, none⟩ (by show w.heap.size + 1 ≠ w.heap.size; omega) (.int .i64 r.misses)).other ⟨w.heap.size, 1, none⟩ (by show w.heap.size + 1 ≠ w.heap.size; omega) (.int .i64 (h' : Nat)))
              refine ⟨A5, c5, { r with L := r.L.set r.hand { r.L[r.hand] with mark := false }, hand := h' }, ⟨by simpa using hbl, ho6.rrow (by omega), fun a ha => by have h1 := (ho5.block a ha).1; omega, hoth, hF⟩, ⟨by simpa using HL3.out, HHM.out.1, HHM.out.2, .inr ⟨rfl, rfl, by simpa using hlt2, ?_, ?_⟩⟩⟩
              · exact Nat.lt_of_succ_le (Nat.le_trans (Nat.le_of_eq HM.out.2) (Nat.le_of_lt_succ hmk))
              · rw [HPUT.out, HSW.out]
          | false =>
            have HSW : Hid (sweep (n + 1) r.L r.hand = (r.hand, r.L, h')) := by
              show _ = _
              unfold sweep
              rw [dif_pos hh, if_neg (by simp [hm]), HH.out]
            rw [hm] at d1
            clear hm
            go_wp2_with fail
            go_quiet (fail)
            go_wp2_with fail
            have hf := fresh1 (rfl : wr.alloc (.cells ([.int .i64 r.L[r.hand].page, .bool false, .string ⟨r.L[r.hand].s.toArray⟩] : List Value).toArray 57) = _)
            go_roundg 0
            case measure => omega
            case rel =>
              have hB4 : Below wr.heap.size wr ((wr.alloc (.cells #[.int .i64 r.L[r.hand].page, .bool false, .string ⟨r.L[r.hand].s.toArray⟩] 57)).drewN nq) := ⟨hf.2.2.os, hf.2.2.tape, hf.2.2.output, hf.2.2.size, hf.2.2.block⟩
              have b40 := (HP3.out.1.below hB4).set1 (u := .int .i64 (h' : Nat))
              have b41 := (HP3.out.2.below hB4).other ⟨w.heap.size, 1, none⟩ (by show w.heap.size + 1 ≠ w.heap.size; omega) (.int .i64 (h' : Nat))
              have hF := (HB3.out.trans (hB4.mono hz)).setCell (p := ⟨w.heap.size, 1, none⟩) (Nat.le_refl _) (.int .i64 (h' : Nat))
              refine ⟨some ⟨b, o, none⟩, c3, { r with hand := h' }, ⟨b40, ⟨(HR3.out.1.below hB4).keep (by simp) (fun a ha _ => heap_setCell_other _ _ _ _ (by obtain rfl := Option.some.inj ha; exact hne0)), HR3.out.2⟩, fun a ha => by obtain rfl := Option.some.inj ha; exact ⟨hne0, hne1⟩, b41, hF⟩, ⟨HL3.out, HHM.out.1, HHM.out.2, .inl ⟨r.hand, r.L[r.hand].page, hh, rfl, rfl, ?_⟩⟩⟩
              rw [HPUT.out, HSW.out]
              simp [hh]
    · have HG2 : Hid (q.put k ⟨k, true, l, none, 0⟩ = (((sweep (marked q.L + 1) q.L q.hand).2.1.getD (sweep (marked q.L + 1) q.L q.hand).1 fr0).page, { q with L := (sweep (marked q.L + 1) q.L q.hand).2.1.set (sweep (marked q.L + 1) q.L q.hand).1 ⟨k, true, l, none, 0⟩, hand := (sweep (marked q.L + 1) q.L q.hand).2.2 })) := by
        show _ = _
        rw [HG.out]
        unfold PS.place
        rw [if_neg hf]
      have hfe : firstEmpty q.L 0 = -1 := by
        rw [← atOf_first hG] at hf ⊢
        unfold atOf at hf ⊢
        split
        · rename_i e; rw [e] at hf; simp at hf
        · rfl
      have hhd := hG.hand
      rw [hfe] at HA2
      clear hf hfe
      unfold rpv at HA HA2
      unfold rpv txt
      go_enter Try.func17, Try.ntmps17
      go_upto_region 1 with (fail)
      generalize hW0 : ((World.alloc w (.cells _ _)).alloc (.cells _ _)) = W
      obtain ⟨ba0, bb0, hz0, hB0⟩ := fresh2 hW0
      clear hW0
      have HB0 := Lib.hid hB0
      have BA := Lib.hid ba0
      have BB := Lib.hid bb0
      have hcc := And.intro ba0.c4 bb0.c4
      have HR := Lib.hid hr
      have HR1 := Lib.hid (hr.below hB0)
      clear ba0 bb0 hB0 hr
      go_wp2_with fail
      refine (HA.out W HR1.out.1).mono ?_
      rintro e w1 ⟨rfl, hb1⟩
      have HB1 := Lib.hid (HB0.out.trans (hb1.mono HB0.out.size))
      have BA1 := Lib.hid (BA.out.below hb1)
      have BB1 := Lib.hid (BB.out.below hb1)
      have hcc1 := And.intro BA1.out.c4 BB1.out.c4
      clear hcc hb1
      go_wp2_with fail
      refine (HA2.out w1 (HR.out.1.below HB1.out)).mono ?_
      rintro e w2 ⟨rfl, hb2⟩
      have HB2 := HB1.out.trans (hb2.mono HB1.out.size)
      have HS : Hid (SweepAt w lo w2 A c q) := ⟨BA1.out.below hb2, HR.out.below HB2, fun a ha => by have := hfr a ha; omega, BB1.out.below hb2, HB2⟩
      clear hb2 HB2 hcc1
      go_wp2_with fail
      have hcc1 := trivial
      clear hcc1
      go_loopg [8, 9] (marked q.L + 1) (fun n av gv wr => ∃ (A : Option Addr) (c : Nat) (r : PS), Hid (SweepAt w lo wr A c r) ∧ Hid (Sweeping q k l n av gv r))
      case atStart => exact ⟨A, c, q, HS, ⟨rfl, rfl, rfl, .inr ⟨rfl, rfl, hhd, Nat.lt_succ_self _, HG2.out⟩⟩⟩
      case round =>
        obtain ⟨A3, c3, r, HS3, HX⟩ := hrel
        clear HS
        obtain ⟨b0, hrr, hne, b1, hB⟩ := HS3.out
        have hz := hB.size
        have hcc3 := And.intro b0.c4 b1.c4
        have HR3 := Lib.hid hrr
        have HB3 := Lib.hid hB
        have HP3 := Lib.hid (And.intro b0 b1)
        clear b0 hrr b1 hB
        obtain ⟨hL, hhit, hmis, hcase⟩ := HX.out
        have hrl : r.L.length ≤ 64 := by omega
        have HHM := Lib.hid (And.intro hhit hmis)
        have HL3 := Lib.hid hL
        clear hhit hmis hL HX
        rcases hcase with ⟨i, g, hi, rfl, rfl, hput⟩ | ⟨rfl, rfl, hh, hmk, hput⟩
        · have HPUT := Lib.hid hput
          have hi64 : (i : Int) ≤ 64 := by omega
          have HW := Lib.hid (refwith_any wr r A3 c3 HR3.out.1 hrl i hi ⟨k, true, l, none, 0⟩)
          unfold rpv rfv txt at HW
          clear hput
          go_wp2_with fail
          refine HW.out.mono ?_
          rintro e w5 ⟨⟨A5, c5, rfl, ho5⟩, hb5⟩
          have b5 := HP3.out.2.below hb5
          have hcc5 := b5.c4
          have HB5 := Lib.hid (And.intro b5 (And.intro ho5 (HB3.out.trans (hb5.mono hz))))
          clear hb5 ho5 b5 HW hcc3
          go_wp2_with fail
          have hbl := HB5.out.1.all4 (u := .slice A5 r.L.length c5) (v := .int .i64 (r.hand : Nat)) (x := .int .i64 r.hits) (y := .int .i64 r.misses)
          have hF := below_storeFrom (B := w.heap.size) (g := w.heap.size + 1) (by omega) [.slice A5 r.L.length c5, .int .i64 (r.hand : Nat), .int .i64 r.hits, .int .i64 r.misses] 0 HB5.out.2.2
          have hne5 : ∀ a, A5 = some a → a.block ≠ w.heap.size + 1 := fun a ha => by have h1 := (HB5.out.2.1.block a ha).1; have h2 := HP3.out.2.lt; omega
          have ho5 := (((HB5.out.2.1.set ⟨w.heap.size + 1, 0, none⟩ hne5 (.slice A5 r.L.length c5)).set ⟨w.heap.size + 1, 1, none⟩ hne5 (.int .i64 (r.hand : Nat))).set ⟨w.heap.size + 1, 2, none⟩ hne5 (.int .i64 r.hits)).set ⟨w.heap.size + 1, 3, none⟩ hne5 (.int .i64 r.misses)
          refine ret_mem2 rfl rfl rfl rfl (load_rp hbl) ?_
          unfold RefPutted
          rw [HPUT.out]
          exact ⟨⟨A5, c5, by simp [rpv], ho5.rrow (by omega)⟩, hF⟩
        · have HPUT := Lib.hid hput
          clear hput
          obtain ⟨n, rfl⟩ : ∃ n, gk = n + 1 := ⟨gk - 1, by omega⟩
          obtain ⟨b, o, hA, hb, d0, d1, d2⟩ := rf_at HR3.out.1 hh
          subst hA
          obtain ⟨hne0, hne1⟩ := hne _ rfl
          simp only at hne0 hne1
          have hhi : (r.hand : Int) < (r.L.length : Int) := by omega
          have hnz : (r.L.length : Int) ≠ 0 := by omega
          have hnz2 : ((r.L.length : Int) == 0) = false := by simpa using hnz
          have hLLi : (r.L.length : Int) ≤ 64 := by omega
          obtain ⟨h', hh'⟩ : ∃ h', (r.hand + 1) % r.L.length = h' := ⟨_, rfl⟩
          have hmodi : ((r.hand : Int) + 1) % (r.L.length : Int) = (h' : Int) := by rw [← hh']; simp
          have hlt2 : h' < r.L.length := by rw [← hh']; exact Nat.mod_lt _ (by omega)
          have HH := Lib.hid hh'
          clear hh' hne
          cases hm : r.L[r.hand].mark with
          | true =>
            have HSW : Hid (sweep (n + 1) r.L r.hand = sweep n (r.L.set r.hand { r.L[r.hand] with mark := false }) h') := by
              show _ = _
              conv => lhs; unfold sweep
              rw [dif_pos hh, if_pos hm, HH.out]
            have hms := marked_set r.L r.hand hh hm
            rw [hm] at d1
            have HM := Lib.hid (And.intro hm hms)
            clear hm hms
            go_upto_region 10 with (fail)
            generalize hW4 : World.alloc wr (.cells _ _) = W4
            obtain ⟨ba4, hz4, hB4⟩ := fresh1 hW4
            clear hW4
            have b40 := HP3.out.1.below hB4
            have b41 := HP3.out.2.below hB4
            have hcc4 := And.intro b40.c4 (And.intro b41.c4 ba4.c3)
            have HR4 := HR3.out.below hB4
            have HW := Lib.hid (refwith_any W4 r (some ⟨b, o, none⟩) c3 HR4.1 hrl r.hand hh { r.L[r.hand] with mark := false })
            have HB4 := Lib.hid (And.intro b40 (And.intro b41 (HB3.out.trans (hB4.mono hz))))
            unfold rpv rfv txt at HW
            clear b40 b41 ba4 hB4 HR4 hcc3 d0 d1 d2
            go_wp2_with fail
            refine HW.out.mono ?_
            rintro e w5 ⟨⟨A5, c5, rfl, ho5⟩, hb5⟩
            have b50 := HB4.out.1.below hb5
            have b51 := HB4.out.2.1.below hb5
            have hcc5 := And.intro b50.c4 b51.c4
            have hz4 : w.heap.size + 1 < W4.heap.size := HB4.out.2.1.lt
            have HB5 := Lib.hid (And.intro b50 (And.intro b51 (And.intro ho5 (HB4.out.2.2.trans (hb5.mono (by omega))))))
            clear hb5 ho5 b50 b51 HW hcc4
            go_wp2_with fail
            go_roundg n
            case measure => omega
            case rel =>
              obtain ⟨b50, b51, ho5, hB5⟩ := HB5.out
              have hbl := (b50.all4 (u := .slice A5 r.L.length c5) (v := .int .i64 (r.hand : Nat)) (x := .int .i64 r.hits) (y := .int .i64 r.misses)).set1 (u := .int .i64 (h' : Nat))
              have hF := (below_storeFrom (B := w.heap.size) (g := w.heap.size) (by omega) [.slice A5 r.L.length c5, .int .i64 (r.hand : Nat), .int .i64 r.hits, .int .i64 r.misses] 0 hB5).setCell (p := ⟨w.heap.size, 1, none⟩) (Nat.le_refl _) (.int .i64 (h' : Nat))
              have hne5 : ∀ a, A5 = some a → a.block ≠ w.heap.size := fun a ha => by have h1 := (ho5.block a ha).1; omega
              have ho6 := ((((ho5.set ⟨w.heap.size, 0, none⟩ hne5 (.slice A5 r.L.length c5)).set ⟨w.heap.size, 1, none⟩ hne5 (.int .i64 (r.hand : Nat))).set ⟨w.heap.size, 2, none⟩ hne5 (.int .i64 r.hits)).set ⟨w.heap.size, 3, none⟩ hne5 (.int .i64 r.misses)).set ⟨w.heap.size, 1, none⟩ hne5 (.int .i64 (h' : Nat))
              have hoth := (((((b51.other ⟨w.heap.size, 0, none⟩ (by show w.heap.size + 1 ≠ w.heap.size; omega) (.slice A5 r.L.length c5)).other ⟨w.heap.size, 1, none⟩ (by show w.heap.size + 1 ≠ w.heap.size; omega) (.int .i64 (r.hand : Nat))).other ⟨w.heap.size, 2, none⟩ (by show w.heap.size + 1 ≠ w.heap.size; omega) (.int .i64 r.hits)).other ⟨w.heap.size, 3, none⟩ (by show w.heap.size + 1 ≠ w.heap.size; omega) (.int .i64 r.misses)).other ⟨w.heap.size, 1, none⟩ (by show w.heap.size + 1 ≠ w.heap.size; omega) (.int .i64 (h' : Nat)))
              refine ⟨A5, c5, { r with L := r.L.set r.hand { r.L[r.hand] with mark := false }, hand := h' }, ⟨by simpa using hbl, ho6.rrow (by omega), fun a ha => by have h1 := (ho5.block a ha).1; omega, hoth, hF⟩, ⟨by simpa using HL3.out, HHM.out.1, HHM.out.2, .inr ⟨rfl, rfl, by simpa using hlt2, ?_, ?_⟩⟩⟩
              · exact Nat.lt_of_succ_le (Nat.le_trans (Nat.le_of_eq HM.out.2) (Nat.le_of_lt_succ hmk))
              · rw [HPUT.out, HSW.out]
          | false =>
            have HSW : Hid (sweep (n + 1) r.L r.hand = (r.hand, r.L, h')) := by
              show _ = _
              unfold sweep
              rw [dif_pos hh, if_neg (by simp [hm]), HH.out]
            rw [hm] at d1
            clear hm
            go_wp2_with fail
            go_quiet (fail)
            go_wp2_with fail
            have hf := fresh1 (rfl : wr.alloc (.cells ([.int .i64 r.L[r.hand].page, .bool false, .string ⟨r.L[r.hand].s.toArray⟩] : List Value).toArray 57) = _)
            go_roundg 0
            case measure => omega
            case rel =>
              have hB4 : Below wr.heap.size wr ((wr.alloc (.cells #[.int .i64 r.L[r.hand].page, .bool false, .string ⟨r.L[r.hand].s.toArray⟩] 57)).drewN nq) := ⟨hf.2.2.os, hf.2.2.tape, hf.2.2.output, hf.2.2.size, hf.2.2.block⟩
              have b40 := (HP3.out.1.below hB4).set1 (u := .int .i64 (h' : Nat))
              have b41 := (HP3.out.2.below hB4).other ⟨w.heap.size, 1, none⟩ (by show w.heap.size + 1 ≠ w.heap.size; omega) (.int .i64 (h' : Nat))
              have hF := (HB3.out.trans (hB4.mono hz)).setCell (p := ⟨w.heap.size, 1, none⟩) (Nat.le_refl _) (.int .i64 (h' : Nat))
              refine ⟨some ⟨b, o, none⟩, c3, { r with hand := h' }, ⟨b40, ⟨(HR3.out.1.below hB4).keep (by simp) (fun a ha _ => heap_setCell_other _ _ _ _ (by obtain rfl := Option.some.inj ha; exact hne0)), HR3.out.2⟩, fun a ha => by obtain rfl := Option.some.inj ha; exact ⟨hne0, hne1⟩, b41, hF⟩, ⟨HL3.out, HHM.out.1, HHM.out.2, .inl ⟨r.hand, r.L[r.hand].page, hh, rfl, rfl, ?_⟩⟩⟩
              rw [HPUT.out, HSW.out]
              simp [hh]
end Go.Proofs.Ytjaopecjmmnbiaa
