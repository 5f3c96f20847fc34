/-
  The contract of pool's Put.
-/
import Derived.Test.YtjaopecjmmnbiaaPoolPut2
import Derived.Test.YtjaopecjmmnbiaaRegionLast
namespace Go.Proofs.Ytjaopecjmmnbiaa
set_option linter.unusedSimpArgs false
set_option linter.unusedVariables false
open Go.RowKit Go.Maps

set_option maxHeartbeats 400000 in
theorem put_neg (w : World) (B N c : Nat) (b : PB) (p : PS) (_hP : PoolAt w B b N c p) (k : Int) (hk : k < 0) (A : Option Addr) (l c' : Nat) :
    Calls Try.prog 10 #[.pointer (some ⟨b.gp, 0, none⟩), .int .i64 k, .slice A l c'] w fun e w' => e = .returned (.int .i64 (-1)) ∧ w = w' := by
  go_enter Try.func10, Try.ntmps10
  go_wp2_with fail
  go_ret
  exact ⟨rfl, rfl⟩

/-- What stands in the room of the operations of Put's last region. -/
def PutR (b : PB) (p : PS) (c i : Nat) (k : Int) (A2 : Option Addr) (c2 : Nat) (l : List UInt8) (w0 : World) (j : Nat) (x : Value) (w : World) : Prop :=
  match j with
  | 0 => x = .pointer (some ⟨b.gp, 0, none⟩)
  | 1 => x = .pointer (some ⟨b.gp, 0, none⟩)
  | 2 => x = .pointer (some ⟨b.gp, 0, none⟩)
  | 3 => x = .slice (some ⟨b.gf, 0, none⟩) p.L.length c
  | 4 => x = .int .i64 (i : Nat)
  | 5 => x = .int .i64 k
  | 6 => x = .slice A2 l.length c2
  | 7 => ∃ A' c', x = .slice A' l.length c' ∧ BRow w A' l ∧ ∀ a, A' = some a → w0.heap.size ≤ a.block
  | 8 => ∃ A' c', x = .agg #[.int .i64 k, .bool true, .slice A' l.length c'] ∧ BRow w A' l ∧ ∀ a, A' = some a → w0.heap.size ≤ a.block
  | 9 => x = .pointer (some ⟨b.gf, i * 3, none⟩)
  | _ => True
theorem PutR.below {b : PB} {p : PS} {c i : Nat} {k : Int} {A2 : Option Addr} {c2 : Nat} {l : List UInt8} {w0 : World} {j : Nat} {x : Value} {w w' : World} (hb : Below w.heap.size w w') (h : PutR b p c i k A2 c2 l w0 j x w) : PutR b p c i k A2 c2 l w0 j x w' := by
  unfold PutR at h ⊢
  split at h <;> try exact h
  · obtain ⟨A, c, h1, h2, h3⟩ := h
    exact ⟨A, c, h1, h2.below hb, h3⟩
  · obtain ⟨A, c, h1, h2, h3⟩ := h
    exact ⟨A, c, h1, h2.below hb, h3⟩
theorem PoolF.lt {w : World} {B N c : Nat} {b : PB} {p : PS} {f : Int → Option Nat} (h : PoolF w B b N c p f) (h0 : 0 < p.L.length) : ∀ k, b.own k → k < w.heap.size := by
  obtain ⟨cur, hf⟩ : ∃ cur, w.heap[b.gf]? = some (.cells cur 65 (0, 0)) := by
    rcases h.frames.2 with ⟨hv, hz⟩ | ⟨g, cap, cur, hv, _, hg, _⟩
    · omega
    · simp only [Value.slice.injEq, Option.some.injEq, Addr.mk.injEq] at hv
      obtain ⟨⟨rfl, _, _⟩, _⟩ := hv
      exact ⟨cur, hg⟩
  obtain ⟨D, ⟨es, clock, hm, _⟩, _⟩ := h.map
  rintro k (rfl | rfl | rfl)
  · exact (Array.getElem?_eq_some_iff.1 h.head).1
  · exact (Array.getElem?_eq_some_iff.1 hf).1
  · exact (Array.getElem?_eq_some_iff.1 hm).1

theorem where_hit {L : List Fr} (ho : Once L) {k : Int} (h0 : 0 ≤ k) {i : Nat} (hk : whereOf L k = some i) (f : Fr) (hf : f.page = k) : whereOf (L.set i f) = whereOf L := by
  obtain ⟨hi, hpk, _⟩ := where_some hk
  funext j
  rw [where_set ho hi f (fun _ => hf ▸ where_other ho hk) j, hpk, hf]
  by_cases hj : j = k
  · subst hj; rw [if_pos ⟨h0, rfl⟩, hk]
  · rw [if_neg (fun h => hj h.2), if_neg hj]
theorem where_miss {L : List Fr} (ho : Once L) {k : Int} (h0 : 0 ≤ k) (hk : whereOf L k = none) {i : Nat} (hi : i < L.length) (f : Fr) (hf : f.page = k) :
    whereOf (L.set i f) = fun j => if j = k then some i else if j = L[i].page then none else whereOf L j := by
  funext j
  rw [where_set ho hi f (fun _ i hi _ => hf ▸ where_none hk h0 i hi) j, hf]
  by_cases hj : j = k
  · subst hj; rw [if_pos ⟨h0, rfl⟩, if_pos rfl]
  · rw [if_neg (fun h => hj h.2), if_neg hj]
theorem where_neg {L : List Fr} {j : Int} (hj : j < 0) : whereOf L j = none := by unfold whereOf; rw [if_neg (by omega)]
theorem where_neg_eq {L : List Fr} (ho : Once L) {k : Int} (h0 : 0 ≤ k) (hk : whereOf L k = none) {i : Nat} (hi : i < L.length) (hn : L[i].page < 0) (f : Fr) (hf : f.page = k) :
    whereOf (L.set i f) = fun j => if j = k then some i else whereOf L j := by
  rw [where_miss ho h0 hk hi f hf]
  funext j
  by_cases hj : j = k
  · rw [if_pos hj, if_pos hj]
  · rw [if_neg hj, if_neg hj]
    split
    · rename_i e
      rw [where_neg (by omega)]
    · rfl
theorem Row.kept {w w' : World} {A : Option Addr} {xs : List Value} {S : Nat → Prop} (h : Row w A xs) (hk : Keeps w w' S) (hf : ∀ a, A = some a → ¬ S a.block) : Row w' A xs := fun hl => by
  obtain ⟨b, o, rfl, hlt, hc⟩ := h hl
  exact ⟨b, o, rfl, Nat.lt_of_lt_of_le hlt hk.size, fun j hj => (World.cell?_of_block (hk.block b hlt (hf _ rfl))).trans (hc j hj)⟩
theorem BRow.kept {w w' : World} {A : Option Addr} {l : List UInt8} {S : Nat → Prop} (h : BRow w A l) (hk : Keeps w w' S) (hf : ∀ a, A = some a → ¬ S a.block) : BRow w' A l := Row.kept h hk hf
theorem BRow.kept0 {w w' : World} {A : Option Addr} {l : List UInt8} {S : Nat → Prop} (h : BRow w A l) (hk : Keeps w w' S) (hf : l ≠ [] → ∀ a, A = some a → ¬ S a.block) : BRow w' A l := by
  cases l with
  | nil => exact BRow.nil
  | cons x l => exact h.kept hk (hf (by simp))
theorem Keeps.grown {w w' w'' : World} {S : Nat → Prop} {g : Nat} (h : Keeps w w' S) (hg : w'.grownBy w'' (some g)) (hs : S g) : Keeps w w'' S :=
  h.trans ⟨hg.os, hg.tape, hg.output, hg.size, fun k hk hn => hg.block k hk (by simp; rintro rfl; exact hn hs)⟩

set_option maxRecDepth 20000 in
set_option maxHeartbeats 2000000 in
theorem put_hit (w : World) (B N c : Nat) (b : PB) (p : PS) (hP : PoolAt w B b N c p) (hG : Good p) (k : Int) (h1 : 0 ≤ k) (h2 : k ≤ 9223372036854775807) (i : Nat) (hk : whereOf p.L k = some i)
    (A2 : Option Addr) (c2 : Nat) (l : List UInt8) (hr : BRow w A2 l) (hl : l.length ≤ 1000000) :
    Calls Try.prog 10 #[.pointer (some ⟨b.gp, 0, none⟩), .int .i64 k, .slice A2 l.length c2] w fun e w' =>
      e = .returned (.int .i64 (-1)) ∧ (∃ A' c', PoolAt w' B b N c { p with L := p.L.set i ⟨k, true, l, A', c'⟩ } ∧ ∀ a, A' = some a → w.heap.size ≤ a.block) ∧ Keeps w w' b.own := by
  obtain ⟨hi, hpk, _⟩ := where_some hk
  have hn0 := hG.n0
  have hn1 := hG.n1
  have c2' : w.cell? ⟨b.gp, 2, none⟩ = some (.map (some b.gm)) := by rw [cell_of_row w _ 2 _ _ _ hP.head]; rfl
  have hii : (i : Int) < (p.L.length : Int) := by omega
  have hk0 : ¬ k < 0 := by omega
  have hks : -9223372036854775808 ≤ k := by omega
  have HP := Lib.hid hP
  have HX := Lib.hid hP.toF
  have HRX := Lib.hid hr
  have HK := Lib.hid hk
  clear hP hk hr hpk
  go_enter Try.func10, Try.ntmps10
  go_wp2_with (at_lookup; refine wpList_pool_lookup rfl (.tmp 20) (.tmp 21) rfl rfl HP.out.map k rfl hks h2 (zero_int w) ?_; rw [HK.out]; simp only [Option.getD_some, Option.isSome_some])
  apply wp_region_last (n := 10) (PutR b p c i k A2 c2 l w) (fun w' => Below (w).heap.size w w') (fun w w' => Below w.heap.size w w')
  case hG => (intro v; simp only [regFrame, List.zipIdx_cons, List.zipIdx_nil, List.foldl_cons, List.foldl_nil, Act.put, List.setIfInBounds_toArray, List.set_cons_zero, List.set_cons_succ, Nat.reduceAdd]; rfl)
  case hm => kernel_rfl
  case honce => rfl
  case hlow => kernel_rfl
  case hall => kernel_rfl
  case hn => rfl
  case ho => rfl
  case hog => rfl
  case hod => rfl
  case hR => exact fun i x w w' hb h => h.below hb
  case hW => exact fun w w' h hb => h.trans (hb.mono h.size)
  case h0 => exact (Below.refl _ _).drew
  case hstep =>
    refine ⟨?_, ?_, ?_, ?_, ?_, ?_, ?_, ?_, ?_, ?_, trivial⟩ <;> (intro v w1 hI hd; simp only [Deps, Region.binds, ↓reduceIte, PutR, and_true] at hd)
    · exact opDoes_move _ rfl rfl ⟨Below.refl _ _, rfl⟩
    · refine opDoes_run (x := .pointer (some ⟨b.gp, 0, none⟩)) rfl ?_ ⟨Below.refl _ _, rfl⟩
      go_simp
    · refine opDoes_run (x := .pointer (some ⟨b.gp, 0, none⟩)) rfl ?_ ⟨Below.refl _ _, rfl⟩
      go_simp
    · have c0 : w1.cell? ⟨b.gp, 0, none⟩ = some (.slice (some ⟨b.gf, 0, none⟩) (p).L.length c) := by rw [hI.cell (p := ⟨b.gp, 0, none⟩) (Array.getElem?_eq_some_iff.1 HX.out.head).1, cell_of_row _ _ 0 _ _ _ HX.out.head]; rfl
      refine opDoes_run (x := .slice (some ⟨b.gf, 0, none⟩) (p).L.length c) rfl ?_ ⟨Below.refl _ _, rfl⟩
      go_simp
    · exact opDoes_move _ rfl rfl ⟨Below.refl _ _, rfl⟩
    · exact opDoes_move _ rfl rfl ⟨Below.refl _ _, rfl⟩
    · exact opDoes_move _ rfl rfl ⟨Below.refl _ _, rfl⟩
    · refine opDoes_call _ _ _ #[.slice A2 l.length c2] rfl rfl (by go_simp) (Try.call22 _ _) ?_
      refine (clone_any w1 A2 c2 l (HRX.out.below hI) hl).mono fun e w2 ⟨A', c', he, ho, hb⟩ => ⟨_, he, hb, A', c', rfl, ho.row, fun a ha => Nat.le_trans hI.size (ho.block a ha).1⟩
    · obtain ⟨h55, A', c', h57, hbr, hfa⟩ := hd
      refine opDoes_run (x := .agg #[.int .i64 k, .bool true, .slice A' l.length c']) rfl ?_ ⟨Below.refl _ _, A', c', rfl, hbr, hfa⟩
      clear hfa hbr
      go_simp
    · refine opDoes_run (x := .pointer (some ⟨b.gf, i * 3, none⟩)) rfl ?_ ⟨Below.refl _ _, rfl⟩
      go_simp
  case hend =>
    intro v w1 hI h
    simp only [List.take, AllOps, Nat.zero_add, Nat.reduceAdd, and_true, PutR] at h
    obtain ⟨-, -, -, -, -, -, -, -, ⟨A', c', h8, hbr, hfa⟩, h9⟩ := h
    have hF := HX.out.below hI
    obtain ⟨d0, d1, d2⟩ := hF.frames.cell (hi)
    have g0 : w1.frozen? ⟨b.gf, i * 3, none⟩ = false := hF.frames.free _
    have g1 : w1.frozen? ⟨b.gf, i * 3 + 1, none⟩ = false := hF.frames.free _
    have g2 : w1.frozen? ⟨b.gf, i * 3 + 2, none⟩ = false := hF.frames.free _
    have hfar : ∀ a, A' = some a → ¬ b.own a.block := fun a ha ho => by
      have q1 := hfa a ha
      have q2 := HX.out.lt (by omega) _ ho
      omega
    have hS := hF.store hi ⟨k, true, l, A', c'⟩ hbr hfar
    have hK : Keeps w (((w1.setCell ⟨b.gf, i * 3, none⟩ (.int .i64 k)).setCell ⟨b.gf, i * 3 + 1, none⟩ (.bool true)).setCell ⟨b.gf, i * 3 + 2, none⟩ (.slice A' l.length c')) b.own :=
      (((Keeps.of_below hI).set ⟨b.gf, i * 3, none⟩ (.inl (.inr (.inl rfl))) _).set ⟨b.gf, i * 3 + 1, none⟩ (.inl (.inr (.inl rfl))) _).set ⟨b.gf, i * 3 + 2, none⟩ (.inl (.inr (.inl rfl))) _
    have HS := Lib.hid (And.intro hS hK)
    have HFA := Lib.hid hfa
    clear hS hK hfar hfa hbr hF hI
    refine ⟨(((w1.setCell ⟨b.gf, i * 3, none⟩ (.int .i64 k)).setCell ⟨b.gf, i * 3 + 1, none⟩ (.bool true)).setCell ⟨b.gf, i * 3 + 2, none⟩ (.slice A' l.length c')), ?_, ?_⟩
    · simp only [execOp]
      go_simp
    · have HS' := HS
      rw [h8, h9]
      clear h8 h9 d0 d1 d2 g0 g1 g2 HS
      go_wp2_with fail
      go_ret
      have HS := HS'
      exact ⟨rfl, ⟨A', ⟨c', HS.out.1.toAt (where_hit hG.once h1 HK.out _ rfl).symm⟩, HFA.out⟩, HS.out.2⟩

theorem mod_nat_cell {L : List Fr} {q : Nat} (hq : q < L.length) : L.getD q fr0 = L[q] := by simp [hq]

set_option maxRecDepth 20000 in
set_option maxHeartbeats 2000000 in
theorem put_miss (w : World) (B N c : Nat) (b : PB) (p : PS) (hP : PoolAt w B b N c p) (hG : Good p) (hN : N < 1000000) (k : Int) (h1 : 0 ≤ k) (h2 : k ≤ 9223372036854775807) (hk : whereOf p.L k = none)
    (A2 : Option Addr) (c2 : Nat) (l : List UInt8) (hr : BRow w A2 l) (hl : l.length ≤ 1000000) (hfar2 : l ≠ [] → ∀ a, A2 = some a → ¬ b.own a.block) :
    Calls Try.prog 10 #[.pointer (some ⟨b.gp, 0, none⟩), .int .i64 k, .slice A2 l.length c2] w fun e w' =>
      e = .returned (.int .i64 (p.place.2.L.getD p.place.1 fr0).page) ∧ (∃ A' c', PoolAt w' B b (N + 1) c { p.place.2 with L := p.place.2.L.set p.place.1 ⟨k, true, l, A', c'⟩ } ∧ ∀ a, A' = some a → w.heap.size ≤ a.block) ∧ Keeps w w' b.own := by
  have hn0 := hG.n0
  have hn1 := hG.n1
  have c2' : w.cell? ⟨b.gp, 2, none⟩ = some (.map (some b.gm)) := by rw [cell_of_row w _ 2 _ _ _ hP.head]; rfl
  have hk0 : ¬ k < 0 := by omega
  have hks : -9223372036854775808 ≤ k := by omega
  have hpl := place_any w B N c b p hP hn1 hn0 hG.hand
  obtain ⟨hal, hq, _⟩ := place_ok hG
  have hG1 := hG.place
  have hk1 : whereOf p.place.2.L k = none := by rw [hal.where_eq]; exact hk
  rw [← hal.1] at hq
  generalize p.place = q0 at hpl hal hq hG1 hk1
  obtain ⟨q, p1⟩ := q0
  simp only at hpl hal hq hG1 hk1
  rw [mod_nat_cell hq]
  have hpg := hG1.pages p1.L[q] (List.getElem_mem hq)
  have HPL := Lib.hid hpl
  have HP := Lib.hid hP
  have HR := Lib.hid hr
  have HK := Lib.hid hk
  have HK1 := Lib.hid hk1
  have hm1 := hG1.n1
  have hm0 := hG1.n0
  clear hP hk hr hpl hk1 hal
  go_enter Try.func10, Try.ntmps10
  go_wp2_with (at_lookup; refine wpList_pool_lookup rfl (.tmp 20) (.tmp 21) rfl rfl HP.out.map k rfl hks h2 (zero_int w) ?_; rw [HK.out]; simp only [Option.getD_none, Option.isSome_none])
  refine HPL.out.mono ?_
  rintro e w1 ⟨rfl, hP1, hK1⟩
  have hqi : (q : Int) < (p1.L.length : Int) := by omega
  have c0 : w1.cell? ⟨b.gp, 0, none⟩ = some (.slice (some ⟨b.gf, 0, none⟩) p1.L.length c) := by rw [cell_of_row _ _ 0 _ _ _ hP1.head]; rfl
  have c2 : w1.cell? ⟨b.gp, 2, none⟩ = some (.map (some b.gm)) := by rw [cell_of_row _ _ 2 _ _ _ hP1.head]; rfl
  obtain ⟨d0, -, -⟩ := hP1.frames.cell hq
  have hr1 := HR.out.kept0 hK1 hfar2
  have HK1' := Lib.hid hK1
  have HP1 := Lib.hid hP1
  have HR1 := Lib.hid hr1
  clear hP1 hK1 hr1
  by_cases hpos : 0 ≤ p1.L[q].page
  · have hhi : p1.L[q].page ≤ 9223372036854775807 := by omega
    have hlo : -9223372036854775808 ≤ p1.L[q].page := by omega
    go_wp2_with (first | (at_delete; refine wpList_pool_delete rfl (.tmp 42) (.tmp 43) rfl rfl HP1.out.map _ rfl hlo hhi ?_; intro w2 hm2 hg2; have hX2 := HP1.out.toF.turn hm0 hm2 hg2; have HX2 := Lib.hid hX2; have HG2 := Lib.hid hg2; have c22 : w2.cell? ⟨b.gp, 2, none⟩ = some (.map (some b.gm)) := (by rw [cell_of_row _ _ 2 _ _ _ hX2.head]; rfl); clear hX2 hm2 hg2) | (at_mapUpdate; refine wpList_pool_update rfl (.tmp 47) (.tmp 48) (.tmp 49) rfl rfl HX2.out.map hN k rfl hks h2 q rfl (by omega) ?_; intro w3 hm3 hg3; have hX3 := HX2.out.turn hm0 hm3 hg3; have HX := Lib.hid hX3; have HG3 := Lib.hid hg3; clear hX3 hm3 hg3))
    have HRX : Hid (BRow w3 A2 l) := HR1.out.kept0 (((Keeps.refl w1 b.own).grown HG2.out (.inr (.inr rfl))).grown HG3.out (.inr (.inr rfl))) hfar2
    have HKX : Hid (Keeps w w3 b.own) := (HK1'.out.grown HG2.out (.inr (.inr rfl))).grown HG3.out (.inr (.inr rfl))
    clear c0 c2 c22 d0
    apply wp_region_last (n := 10) (PutR b p1 c q k A2 c2 l w3) (fun w' => Below (w3).heap.size w3 w') (fun w w' => Below w.heap.size w w')
    case hG => (intro v; simp only [regFrame, List.zipIdx_cons, List.zipIdx_nil, List.foldl_cons, List.foldl_nil, Act.put, List.setIfInBounds_toArray, List.set_cons_zero, List.set_cons_succ, Nat.reduceAdd]; rfl)
    case hm => kernel_rfl
    case honce => rfl
    case hlow => kernel_rfl
    case hall => kernel_rfl
    case hn => rfl
    case ho => rfl
    case hog => rfl
    case hod => rfl
    case hR => exact fun i x w w' hb h => h.below hb
    case hW => exact fun w w' h hb => h.trans (hb.mono h.size)
    case h0 => exact (Below.refl _ _).drew
    case hstep =>
      refine ⟨?_, ?_, ?_, ?_, ?_, ?_, ?_, ?_, ?_, ?_, trivial⟩ <;> (intro v w1 hI hd; simp only [Deps, Region.binds, ↓reduceIte, PutR, and_true] at hd)
      · exact opDoes_move _ rfl rfl ⟨Below.refl _ _, rfl⟩
      · refine opDoes_run (x := .pointer (some ⟨b.gp, 0, none⟩)) rfl ?_ ⟨Below.refl _ _, rfl⟩
        go_simp
      · refine opDoes_run (x := .pointer (some ⟨b.gp, 0, none⟩)) rfl ?_ ⟨Below.refl _ _, rfl⟩
        go_simp
      · have c0 : w1.cell? ⟨b.gp, 0, none⟩ = some (.slice (some ⟨b.gf, 0, none⟩) (p1).L.length c) := by rw [hI.cell (p := ⟨b.gp, 0, none⟩) (Array.getElem?_eq_some_iff.1 HX.out.head).1, cell_of_row _ _ 0 _ _ _ HX.out.head]; rfl
        refine opDoes_run (x := .slice (some ⟨b.gf, 0, none⟩) (p1).L.length c) rfl ?_ ⟨Below.refl _ _, rfl⟩
        go_simp
      · exact opDoes_move _ rfl rfl ⟨Below.refl _ _, rfl⟩
      · exact opDoes_move _ rfl rfl ⟨Below.refl _ _, rfl⟩
      · exact opDoes_move _ rfl rfl ⟨Below.refl _ _, rfl⟩
      · refine opDoes_call _ _ _ #[.slice A2 l.length c2] rfl rfl (by go_simp) (Try.call22 _ _) ?_
        refine (clone_any w1 A2 c2 l (HRX.out.below hI) hl).mono fun e w2 ⟨A', c', he, ho, hb⟩ => ⟨_, he, hb, A', c', rfl, ho.row, fun a ha => Nat.le_trans hI.size (ho.block a ha).1⟩
      · obtain ⟨h55, A', c', h57, hbr, hfa⟩ := hd
        refine opDoes_run (x := .agg #[.int .i64 k, .bool true, .slice A' l.length c']) rfl ?_ ⟨Below.refl _ _, A', c', rfl, hbr, hfa⟩
        clear hfa hbr
        go_simp
      · refine opDoes_run (x := .pointer (some ⟨b.gf, q * 3, none⟩)) rfl ?_ ⟨Below.refl _ _, rfl⟩
        go_simp
    case hend =>
      intro v w1 hI h
      simp only [List.take, AllOps, Nat.zero_add, Nat.reduceAdd, and_true, PutR] at h
      obtain ⟨-, -, -, -, -, -, -, -, ⟨A', c', h8, hbr, hfa⟩, h9⟩ := h
      have hF := HX.out.below hI
      obtain ⟨d0, d1, d2⟩ := hF.frames.cell (hq)
      have g0 : w1.frozen? ⟨b.gf, q * 3, none⟩ = false := hF.frames.free _
      have g1 : w1.frozen? ⟨b.gf, q * 3 + 1, none⟩ = false := hF.frames.free _
      have g2 : w1.frozen? ⟨b.gf, q * 3 + 2, none⟩ = false := hF.frames.free _
      have hfar : ∀ a, A' = some a → ¬ b.own a.block := fun a ha ho => by
        have q1 := hfa a ha
        have q2 := HX.out.lt (by omega) _ ho
        omega
      have hS := hF.store hq ⟨k, true, l, A', c'⟩ hbr hfar
      have hK : Keeps w3 (((w1.setCell ⟨b.gf, q * 3, none⟩ (.int .i64 k)).setCell ⟨b.gf, q * 3 + 1, none⟩ (.bool true)).setCell ⟨b.gf, q * 3 + 2, none⟩ (.slice A' l.length c')) b.own :=
        (((Keeps.of_below hI).set ⟨b.gf, q * 3, none⟩ (.inl (.inr (.inl rfl))) _).set ⟨b.gf, q * 3 + 1, none⟩ (.inl (.inr (.inl rfl))) _).set ⟨b.gf, q * 3 + 2, none⟩ (.inl (.inr (.inl rfl))) _
      have HS := Lib.hid (And.intro hS hK)
      have HFA := Lib.hid hfa
      clear hS hK hfar hfa hbr hF hI
      refine ⟨(((w1.setCell ⟨b.gf, q * 3, none⟩ (.int .i64 k)).setCell ⟨b.gf, q * 3 + 1, none⟩ (.bool true)).setCell ⟨b.gf, q * 3 + 2, none⟩ (.slice A' l.length c')), ?_, ?_⟩
      · simp only [execOp]
        go_simp
      · have HS' := HS
        rw [h8, h9]
        clear h8 h9 d0 d1 d2 g0 g1 g2 HS
        go_wp2_with fail
        go_ret
        have HS := HS'
        exact ⟨rfl, ⟨A', ⟨c', HS.out.1.toAt (where_miss hG1.once h1 HK1.out hq _ rfl).symm⟩, fun a ha => Nat.le_trans HKX.out.size (HFA.out a ha)⟩, HKX.out.trans HS.out.2⟩
  · have hneg : p1.L[q].page = -1 := by omega
    have HNEG := Lib.hid hneg
    clear hneg
    go_wp2_with (at_mapUpdate; refine wpList_pool_update rfl (.tmp 47) (.tmp 48) (.tmp 49) rfl rfl HP1.out.map hN k rfl hks h2 q rfl (by omega) ?_; intro w3 hm3 hg3; have hX3 := HP1.out.toF.turn hm0 hm3 hg3; have HX := Lib.hid hX3; have HG3 := Lib.hid hg3; clear hX3 hm3 hg3)
    have HRX : Hid (BRow w3 A2 l) := HR1.out.kept0 ((Keeps.refl w1 b.own).grown HG3.out (.inr (.inr rfl))) hfar2
    have HKX : Hid (Keeps w w3 b.own) := HK1'.out.grown HG3.out (.inr (.inr rfl))
    clear c0 c2 d0
    apply wp_region_last (n := 10) (PutR b p1 c q k A2 c2 l w3) (fun w' => Below (w3).heap.size w3 w') (fun w w' => Below w.heap.size w w')
    case hG => (intro v; simp only [regFrame, List.zipIdx_cons, List.zipIdx_nil, List.foldl_cons, List.foldl_nil, Act.put, List.setIfInBounds_toArray, List.set_cons_zero, List.set_cons_succ, Nat.reduceAdd]; rfl)
    case hm => kernel_rfl
    case honce => rfl
    case hlow => kernel_rfl
    case hall => kernel_rfl
    case hn => rfl
    case ho => rfl
    case hog => rfl
    case hod => rfl
    case hR => exact fun i x w w' hb h => h.below hb
    case hW => exact fun w w' h hb => h.trans (hb.mono h.size)
    case h0 => exact (Below.refl _ _).drew
    case hstep =>
      refine ⟨?_, ?_, ?_, ?_, ?_, ?_, ?_, ?_, ?_, ?_, trivial⟩ <;> (intro v w1 hI hd; simp only [Deps, Region.binds, ↓reduceIte, PutR, and_true] at hd)
      · exact opDoes_move _ rfl rfl ⟨Below.refl _ _, rfl⟩
      · refine opDoes_run (x := .pointer (some ⟨b.gp, 0, none⟩)) rfl ?_ ⟨Below.refl _ _, rfl⟩
        go_simp
      · refine opDoes_run (x := .pointer (some ⟨b.gp, 0, none⟩)) rfl ?_ ⟨Below.refl _ _, rfl⟩
        go_simp
      · have c0 : w1.cell? ⟨b.gp, 0, none⟩ = some (.slice (some ⟨b.gf, 0, none⟩) (p1).L.length c) := by rw [hI.cell (p := ⟨b.gp, 0, none⟩) (Array.getElem?_eq_some_iff.1 HX.out.head).1, cell_of_row _ _ 0 _ _ _ HX.out.head]; rfl
        refine opDoes_run (x := .slice (some ⟨b.gf, 0, none⟩) (p1).L.length c) rfl ?_ ⟨Below.refl _ _, rfl⟩
        go_simp
      · exact opDoes_move _ rfl rfl ⟨Below.refl _ _, rfl⟩
      · exact opDoes_move _ rfl rfl ⟨Below.refl _ _, rfl⟩
      · exact opDoes_move _ rfl rfl ⟨Below.refl _ _, rfl⟩
      · refine opDoes_call _ _ _ #[.slice A2 l.length c2] rfl rfl (by go_simp) (Try.call22 _ _) ?_
        refine (clone_any w1 A2 c2 l (HRX.out.below hI) hl).mono fun e w2 ⟨A', c', he, ho, hb⟩ => ⟨_, he, hb, A', c', rfl, ho.row, fun a ha => Nat.le_trans hI.size (ho.block a ha).1⟩
      · obtain ⟨h55, A', c', h57, hbr, hfa⟩ := hd
        refine opDoes_run (x := .agg #[.int .i64 k, .bool true, .slice A' l.length c']) rfl ?_ ⟨Below.refl _ _, A', c', rfl, hbr, hfa⟩
        clear hfa hbr
        go_simp
      · refine opDoes_run (x := .pointer (some ⟨b.gf, q * 3, none⟩)) rfl ?_ ⟨Below.refl _ _, rfl⟩
        go_simp
    case hend =>
      intro v w1 hI h
      simp only [List.take, AllOps, Nat.zero_add, Nat.reduceAdd, and_true, PutR] at h
      obtain ⟨-, -, -, -, -, -, -, -, ⟨A', c', h8, hbr, hfa⟩, h9⟩ := h
      have hF := HX.out.below hI
      obtain ⟨d0, d1, d2⟩ := hF.frames.cell (hq)
      have g0 : w1.frozen? ⟨b.gf, q * 3, none⟩ = false := hF.frames.free _
      have g1 : w1.frozen? ⟨b.gf, q * 3 + 1, none⟩ = false := hF.frames.free _
      have g2 : w1.frozen? ⟨b.gf, q * 3 + 2, none⟩ = false := hF.frames.free _
      have hfar : ∀ a, A' = some a → ¬ b.own a.block := fun a ha ho => by
        have q1 := hfa a ha
        have q2 := HX.out.lt (by omega) _ ho
        omega
      have hS := hF.store hq ⟨k, true, l, A', c'⟩ hbr hfar
      have hK : Keeps w3 (((w1.setCell ⟨b.gf, q * 3, none⟩ (.int .i64 k)).setCell ⟨b.gf, q * 3 + 1, none⟩ (.bool true)).setCell ⟨b.gf, q * 3 + 2, none⟩ (.slice A' l.length c')) b.own :=
        (((Keeps.of_below hI).set ⟨b.gf, q * 3, none⟩ (.inl (.inr (.inl rfl))) _).set ⟨b.gf, q * 3 + 1, none⟩ (.inl (.inr (.inl rfl))) _).set ⟨b.gf, q * 3 + 2, none⟩ (.inl (.inr (.inl rfl))) _
      have HS := Lib.hid (And.intro hS hK)
      have HFA := Lib.hid hfa
      clear hS hK hfar hfa hbr hF hI
      refine ⟨(((w1.setCell ⟨b.gf, q * 3, none⟩ (.int .i64 k)).setCell ⟨b.gf, q * 3 + 1, none⟩ (.bool true)).setCell ⟨b.gf, q * 3 + 2, none⟩ (.slice A' l.length c')), ?_, ?_⟩
      · simp only [execOp]
        go_simp
      · have HS' := HS
        rw [h8, h9]
        clear h8 h9 d0 d1 d2 g0 g1 g2 HS
        go_wp2_with fail
        go_ret
        have HS := HS'
        exact ⟨rfl, ⟨A', ⟨c', HS.out.1.toAt (where_neg_eq hG1.once h1 HK1.out hq (HNEG.out ▸ (by decide)) _ rfl).symm⟩, fun a ha => Nat.le_trans HKX.out.size (HFA.out a ha)⟩, HKX.out.trans HS.out.2⟩
end Go.Proofs.Ytjaopecjmmnbiaa
