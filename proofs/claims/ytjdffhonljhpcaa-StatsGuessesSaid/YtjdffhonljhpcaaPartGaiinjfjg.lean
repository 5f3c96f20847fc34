/-
  Texts of a proof, one behind the other (each with its own head).
-/
import Derived.Test.YtjdffhonljhpcaaPartFlhnefado
section
/-
  The walk of StatsShares.
-/
namespace Go.Proofs.Ytjdffhonljhpcaa
set_option linter.unusedSimpArgs false
set_option linter.unusedVariables false
open Go.RowKit Go.Deep Go.WideShapes Go.ChangeShapes

namespace Ev
theorem belowN_le {b : Int} (h0 : 0 ≤ b) (h1 : b ≤ 1000) (v : Va) (bs : List Int) (p : Int → Bool) : 0 ≤ belowN b v bs p ∧ belowN b v bs p ≤ 1000 := by
  unfold belowN
  split
  · omega
  · next h =>
    have hne : bs ≠ [] := fun e => h (.inr e)
    have hp : 0 < bs.length := List.length_pos_iff.2 hne
    have hc : bs.countP p ≤ bs.length := List.countP_le_length
    have e1 : b * (bs.countP p : Nat) ≤ b * (bs.length : Nat) := Int.mul_le_mul_of_nonneg_left (by omega) h0
    have e2 : b * (bs.countP p : Nat) / (bs.length : Nat) ≤ b := Int.ediv_le_of_le_mul (by omega) e1
    exact ⟨Int.ediv_nonneg (Int.mul_nonneg h0 (by omega)) (by omega), by omega⟩
theorem share_le {r : Int} {c : Cs} (hn : 0 ≤ c.n ∧ c.n ≤ r) (op : List UInt8) (v : Va) : 0 ≤ share r c op v ∧ share r c op v ≤ 1000 := by
  unfold share
  by_cases h : r = 0 ∨ v.k = 0
  · rw [if_pos h]; omega
  rw [if_neg h]
  have hr : 0 < r := by have : r ≠ 0 := fun e => h (.inl e); omega
  have hb0 : 0 ≤ 1000 * (r - c.n) / r := Int.ediv_nonneg (by omega) (by omega)
  have hb1 : 1000 * (r - c.n) / r ≤ 1000 := Int.ediv_le_of_le_mul hr (by omega)
  generalize 1000 * (r - c.n) / r = b at hb0 hb1
  have hs := sameN_le hb0 hb1 (d := c.d)
  split
  · exact hs
  split
  · omega
  split
  · exact belowN_le hb0 hb1 ..
  split
  · exact belowN_le hb0 hb1 ..
  split
  · exact belowN_le hb0 hb1 ..
  split
  · exact belowN_le hb0 hb1 ..
  omega
theorem shareN_le (r : Int) (c : Cs) (op : List UInt8) (v : Va) : 0 ≤ shareN r c op v ∧ shareN r c op v ≤ 1000 := share_le (c := clnC r c) (near_le (rowsN_le r).1) op _
end Ev
/-- What is known of a table and a column, as it comes in. -/
def Kn (r : Int) (c : Cs) : List Value := [.int .i64 r, .int .i64 c.d, .int .i64 c.n, .slice c.a c.b.length c.c]
def KnownW (w : World) (v : Value) : Prop := ∃ (r : Int) (c : Cs), v = .agg (Kn r c).toArray ∧ ERow eI64 w c.a c.b ∧ (∀ x ∈ c.b, -9223372036854775808 ≤ x ∧ x ≤ 9223372036854775807) ∧ c.b.length ≤ c.c ∧ c.c ≤ maxLen
def ValW (v : Value) : Prop := ∃ a : Va, v = a.v ∧ a.In
section
variable {H : Type} {enc : TypeId × Value → H} {w : World} {base : Nat} {spare : Nat → Bool} {held : Bool} {fuel : Nat} {cs : List Value} {x : DataW H × List MemPlace}
theorem open_i64list (h : DataW.trod enc Try.prog w base spare held fuel 29 cs = some x) : ∃ A L c, cs = [.slice A (List.length L) c] ∧ ERow eI64 w A L ∧ (∀ n ∈ L, -9223372036854775808 ≤ n ∧ n ≤ 9223372036854775807) ∧ L.length ≤ c ∧ c ≤ maxLen :=
  open_elems eI64 (by kernel_rfl) _ (fun fuel cs x h _ => by
    obtain ⟨n, rfl, h1, h2⟩ := open_i64 Try.underlying2 h
    exact ⟨n, rfl, h1, h2⟩) h
set_option maxRecDepth 20000 in
theorem open_cs (h : DataW.trod enc Try.prog w base spare held fuel 31 cs = some x) (hlen : cs.length = 3) : ∃ c : Cs, cs = c.cells ∧ ERow eI64 w c.a c.b ∧ (∀ n ∈ c.b, -9223372036854775808 ≤ n ∧ n ≤ 9223372036854775807) ∧ c.b.length ≤ c.c ∧ c.c ≤ maxLen := by
  obtain ⟨xs, k, hk, rfl, _, hxl, hfs⟩ := DataW.trod_struct Try.underlying31 h
  match xs, hxl, cs, hlen with
  | [y0, y1, y2], _, [v0, v1, v2], _ =>
    have g0 := hfs 0 _ rfl
    have g1 := hfs 1 _ rfl
    have g2 := hfs 2 _ rfl
    have q0 : Try.prog.cellsOf 2 = 1 := by kernel_rfl
    have q1 : Try.prog.cellsOf 29 = 1 := by kernel_rfl
    simp [q0, q1] at g0 g1 g2
    obtain ⟨n0, e0, _⟩ := open_i64 Try.underlying2 g0
    obtain ⟨n1, e1, _⟩ := open_i64 Try.underlying2 g1
    obtain ⟨A, L, c, e2, r2, i2, l2, m2⟩ := open_i64list g2
    have e0' : v0 = .int .i64 n0 := by simpa using e0
    have e1' : v1 = .int .i64 n1 := by simpa using e1
    have e2' : v2 = .slice A L.length c := by simpa using e2
    subst e0' e1' e2'
    exact ⟨⟨n0, n1, A, L, c⟩, rfl, r2, i2, l2, m2⟩
set_option maxRecDepth 20000 in
theorem open_known (h : DataW.trod enc Try.prog w base spare held fuel 41 cs = some x) (hlen : cs.length = 4) : ∃ r, ∃ c : Cs, cs = Kn r c ∧ ERow eI64 w c.a c.b ∧ (∀ n ∈ c.b, -9223372036854775808 ≤ n ∧ n ≤ 9223372036854775807) ∧ c.b.length ≤ c.c ∧ c.c ≤ maxLen := by
  obtain ⟨xs, k, hk, rfl, _, hxl, hfs⟩ := DataW.trod_struct Try.underlying41 h
  match xs, hxl, cs, hlen with
  | [y0, y1], _, [v0, v1, v2, v3], _ =>
    have g0 := hfs 0 _ rfl
    have g1 := hfs 1 _ rfl
    have q0 : Try.prog.cellsOf 2 = 1 := by kernel_rfl
    have q1 : Try.prog.cellsOf 31 = 3 := by kernel_rfl
    simp [q0, q1] at g0 g1
    obtain ⟨n0, e0, _⟩ := open_i64 Try.underlying2 g0
    obtain ⟨c, e1, r⟩ := open_cs g1 rfl
    have e0' : v0 = .int .i64 n0 := by simpa using e0
    subst e0'
    exact ⟨n0, c, by unfold Kn; rw [e1]; rfl, r⟩
end
set_option maxRecDepth 20000 in
theorem known_in {H : Type} {enc : TypeId × Value → H} {w : World} {base : Nat} {v : Value} {d : DataW H} {p : List MemPlace}
    (hv : Value.okWide Try.prog w .any base 41 v) (h : DataW.Trod enc Try.prog w 0 (fun _ => true) true 41 v d p) : KnownW w v := by
  have hag : ∃ cs : Array Value, v = .agg cs := by
    simp only [Value.okWide, Try.underlying41] at hv
    obtain ⟨cs, h1, _⟩ := hv
    exact ⟨cs, h1⟩
  obtain ⟨cs, rfl⟩ := hag
  obtain ⟨fuel, hf⟩ := h
  have h9 : Try.prog.cellsOf 41 = 4 := by kernel_rfl
  have hlen : cs.toList.length = 4 := by
    obtain ⟨xs, k, hk, -, hcl, hxl, hfs⟩ := DataW.trod_struct Try.underlying41 hf
    rw [h9] at hcl
    simpa [Value.cells] using hcl
  obtain ⟨r, c, e, hq⟩ := open_known hf hlen
  refine ⟨r, c, ?_, hq⟩
  rw [← e]
  rfl
set_option maxRecDepth 20000 in
theorem value_in {H : Type} {enc : TypeId × Value → H} {w : World} {base : Nat} {v : Value} {d : DataW H} {p : List MemPlace}
    (hv : Value.okWide Try.prog w .any base 35 v) (h : DataW.Trod enc Try.prog w 0 (fun _ => true) true 35 v d p) : ValW v := by
  have hag : ∃ cs : Array Value, v = .agg cs := by
    simp only [Value.okWide, Try.underlying35] at hv
    obtain ⟨cs, h1, _⟩ := hv
    exact ⟨cs, h1⟩
  obtain ⟨cs, rfl⟩ := hag
  obtain ⟨fuel, hf⟩ := h
  have h9 : Try.prog.cellsOf 35 = 4 := by kernel_rfl
  have hlen : cs.toList.length = 4 := by
    obtain ⟨xs, k, hk, -, hcl, hxl, hfs⟩ := DataW.trod_struct Try.underlying35 hf
    rw [h9] at hcl
    simpa [Value.cells] using hcl
  obtain ⟨a, e, hq⟩ := open_va hf hlen
  refine ⟨a, ?_, hq⟩
  show Value.agg cs = .agg a.cells.toArray
  have e' : cs.toList = a.cells := e
  rw [← e']
/-- Texts, in a row. -/
def eTx : Elem (List UInt8) where
  e := 9
  t := 42
  sz := 1
  bytes := 16
  zero := .string ⟨#[]⟩
  code := fun s => [txt s]
  pos := by decide
  few := by decide
  len := fun _ => rfl
  one := by
    intro x u hu
    simp at hu
    subst hu
    rfl
  zsz := rfl
  info := by kernel_rfl
  under := Try.underlying42
theorem tx_at {w : World} {A : Option Addr} {L : List (List UInt8)} (h : ERow eTx w A L) {j : Nat} (hj : j < L.length) : ∃ b o, A = some ⟨b, o, none⟩ ∧ b < w.heap.size ∧ w.cell? ⟨b, o + j, none⟩ = some (txt L[j]) := by
  obtain ⟨b, o, e, hb, hc⟩ := h.at_ hj
  refine ⟨b, o, e, hb, ?_⟩
  have := hc 0 _ rfl
  rwa [show o + (j * eTx.sz + 0) = o + j by show o + (j * 1 + 0) = _; omega] at this
section
variable {w : World} {ops : Array Oper} {rest : List Oper} {o : Oper} {a : Act} {Q : Exit → Act → World → Prop}
theorem wpList_box_kn (hgd : o.guard = none) (x : Operand) (hop : o.op = .box 41 x) (r : Int) (c : Cs) (hx : a.eval x = .agg (Kn r c).toArray)
    (h : ∀ W, Blk W w.heap.size 41 (Kn r c) → w.heap.size + 1 ≤ W.heap.size → Below w.heap.size w W → wpList Try.prog ops Q rest (a.put o.dst (.pointer (some ⟨w.heap.size, 0, none⟩))) W) : wpList Try.prog ops Q (o :: rest) a w :=
  wpList_plain hgd fun _ hK => by
    unfold Oper.wp execOp
    have e : (Instr.box 41 (.agg (Kn r c).toArray)).run Try.prog w = .ok (.pointer (some ⟨w.heap.size, 0, none⟩)) (w.alloc (.cells (Kn r c).toArray 41)) := by
      simp [Instr.box, Sem.run_bind, newVar, newRow]
      rfl
    simp only [hop, hx, Sem.run_bind, e, Result.andThen_ok, Sem.run_pure]
    obtain ⟨h1, h2, h3⟩ := fresh1 (w := w) (a := Kn r c) (t := 41) rfl
    exact hK _ _ (h _ h1 h2 h3)
theorem wpList_load_kn (hgd : o.guard = none) (x : Operand) (hop : o.op = .load 31 x) (g : Nat) (hx : a.eval x = .pointer (some ⟨g, 1, none⟩)) {T0 : TypeId} {r : Int} {c : Cs} (hb : Blk w g T0 (Kn r c))
    (h : wpList Try.prog ops Q rest (a.put o.dst c.v) w) : wpList Try.prog ops Q (o :: rest) a w :=
  wpList_load_mid hgd 31 x hop g 1 hx c.cells _ (hb.range 1 c.cells fun j _ => by rw [Nat.add_comm]; rfl) Try.underlying31 rfl cs_info h
end
theorem guard_tx_ne (t : TypeId) (x y : Operand) (l m : List UInt8) : eqGuard .neq t x y (txt l) (txt m) = pure () := rfl
theorem run_tx_same (l : List UInt8) (w : World) : (binOp .neq 9 (txt l) (txt l)).run Try.prog w = .ok (.bool false) w := by
  rw [run_str_ne]
  simp
set_option maxRecDepth 100000 in
set_option maxHeartbeats 8000000 in
theorem statsShares_walk (w : World) (v0 : Value) (h0 : KnownW w v0) (op : ByteArray) (hop : op.size ≤ maxLen) (v2 : Value) (h2 : ValW v2) :
    Calls Try.prog 5 #[v0, .string op, v2] w fun e w' => e = .returned (.bool true) ∧ Below w.heap.size w w' := by
  obtain ⟨r, c, rfl, hr, hbw, hlc, hcm⟩ := h0
  obtain ⟨v, rfl, hv⟩ := h2
  obtain ⟨s, rfl⟩ : ∃ s : List UInt8, op = ⟨s.toArray⟩ := ⟨op.data.toList, by simp⟩
  have HR := Lib.hid hr
  have HBW := Lib.hid hbw
  have HV := Lib.hid hv
  have hbl : c.b.length ≤ 9223372036854775807 := by unfold maxLen at hcm; omega
  have hvl : v.s.length ≤ 9223372036854775807 := by have := hv.len; unfold maxLen at this; omega
  clear hr hbw hv hlc hcm hop
  go_enter Try.func5, Try.ntmps5
  go_upto_region 1 with (first | (refine wpList_box_kn rfl (.tmp 0) rfl r c rfl ?_; intro W1 hb1 hz1 hB1) | (refine wpList_box_va rfl (.tmp 2) rfl v rfl ?_; intro W2 hb2 hz2 hB2))
  have h12 := hb1.below hB2
  have HB2 := Lib.hid (hB1.then hB2)
  have h57 : w.heap.size < W1.heap.size := by omega
  clear hb1 hB1 hB2 hz1
  obtain ⟨g5, hg5⟩ : ∃ g, W1.heap.size = g := ⟨_, rfl⟩
  obtain ⟨g3, hg3⟩ : ∃ g, w.heap.size = g := ⟨_, rfl⟩
  rw [hg5] at hb2 h57
  rw [hg3] at h12 h57
  rw [hg5, hg3]
  have HG3 := Lib.hid hg3
  clear hg5 hg3
  have c0 : W2.drew.cell? _ = _ := h12.cell 0
  simp only [Kn, List.getElem?_cons_zero] at c0
  have h12d := h12.drew
  refine wp_region_plan (.take 0 (.take 1 (.take 2 (.take 3 (.run 4 [0, 1, 2, 3] (.take 5 (.run 6 [] .fin))))))) (by kernel_rfl) (by kernel_rfl) (by kernel_rfl) (by kernel_rfl) ?_
  repeat' (first | (refine hZ _ _ ?_; clear hZ) | (refine hZ _ ?_; clear hZ) | (refine hZ ?_; clear hZ) | rw [again_nil] | rw [walk_fin] | ((first | rw [walk_take] | rw [walk_run] | rw [again_cons]); intro Z hZ; simp only [sel, List.getElem?_toArray, List.getElem?_cons_zero, List.getElem?_cons_succ]; go_wp2_with (first | (refine wpList_load_kn rfl (.tmp 14) rfl g3 rfl h12d ?_) | (refine wpList_alloc_cs rfl rfl ?_; intro W3 h8 hz3 hB3; have h12d := h12d.below hB3; have c0 := cell_later hB3 c0) | (refine wpList_store_cs rfl rfl (.tmp 8) (.tmp 15) rfl W2.heap.size rfl c rfl h8 ?_; intro W4 h84 hg4))))
  go_wp2_with fail
  have hg2 : g5 < W2.heap.size := hb2.lt
  have h54 := (hb2.drew.below hB3).grown hg4 (by simp; omega)
  have HB4 : Hid (Below w.heap.size w W4) := below_of_grown (HB2.out.drewR.then hB3) hg4 HB2.out.size (Nat.le_trans HB2.out.size hB3.size)
  clear h8 hz3 hB3 hg4 c0 h12 h12d hb2
  obtain ⟨g8, hg8⟩ : ∃ g, W2.heap.size = g := ⟨_, rfl⟩
  rw [hg8] at h84
  rw [hg8]
  clear hg8 hg2 hz2
  refine (stlives_any W4).mono ?_
  rintro e W5 ⟨rfl, hB⟩
  have h85 := h84.below hB
  have h55 := h54.below hB
  have HB5 := Lib.hid (HB4.out.then hB)
  clear hB h84 h54
  obtain ⟨-, -, e2, -⟩ := Blk.c3 h85
  have q3 := h55.cell 3
  simp only [Va.cells, List.getElem?_cons_zero, List.getElem?_cons_succ] at q3
  unfold txt at q3
  have hsz : (ByteArray.mk v.s.toArray).size = v.s.length := slen_size v.s
  by_cases h100 : 100 < c.b.length
  · have hi100 : (100 : Int) < (c.b.length : Int) := by omega
    go_wp2_with fail
    refine (stlives_any W5).mono ?_
    rintro e W9 ⟨rfl, hB⟩
    have HB9 := Lib.hid (HB5.out.then hB)
    clear hB
    go_wp2_with fail
    go_ret
    exact ⟨rfl, HB9.out⟩
  have hi100 : ¬ (100 : Int) < (c.b.length : Int) := by omega
  by_cases h101 : 100 < v.s.length
  · have hi101 : (100 : Int) < (v.s.length : Int) := by omega
    go_wp2_with fail
    refine (stlives_any W5).mono ?_
    rintro e W9 ⟨rfl, hB⟩
    have HB9 := Lib.hid (HB5.out.then hB)
    clear hB
    go_wp2_with fail
    go_ret
    exact ⟨rfl, HB9.out⟩
  have hi101 : ¬ (100 : Int) < (v.s.length : Int) := by omega
  go_upto_region 5 with fail
  generalize hW6 : World.alloc W5 (.cells _ _) = W6
  obtain ⟨ba6, hz6, hB6⟩ := fresh1 hW6
  clear hW6
  have HH := Lib.hid (And.intro (h85.below hB6) (h55.below hB6))
  have HB6 := Lib.hid (HB5.out.then hB6)
  have hL5 : 7 ≤ 7 := Nat.le_refl _
  obtain ⟨L, hL⟩ : ∃ L : List (List UInt8), L = [s, [61], [60, 62], [60], [60, 61], [62], [62, 61]] := ⟨_, rfl⟩
  have HLR : Hid (ERow eTx W6 (some ⟨W5.heap.size, 0, none⟩) L) := by subst hL; exact Blk.row eTx ba6 _ rfl (by simp [maxLen])
  have HLL : Hid (L.length = 7) := by rw [hL]; rfl
  have hb1000 : c.b.length ≤ 1000 := by omega
  obtain ⟨gl, hgl⟩ : ∃ g, W5.heap.size = g := ⟨_, rfl⟩
  rw [hgl] at HLR
  rw [hgl]
  clear hL ba6 hz6 hB6 hgl e2 q3 hsz hi100 hi101 h100 h101 h85 h55 hL5
  have hgx := guard_tx_ne
  have hrx := run_tx_same
  go_loopw [34] (fun iv wr => ∃ i : Nat, i ≤ 7 ∧ iv = .int .i64 (i : Int) ∧ Hid (Below W6.heap.size W6 wr)) (fun iv _ => 7 - (intOf iv).toNat)
  case atStart => exact ⟨0, Nat.zero_le _, by go_num, Below.refl _ _⟩
  case round =>
    obtain ⟨i, hi, rfl, HJ⟩ := hrel
    by_cases hlt : i < 7
    · have hii : (i : Int) < 7 := by omega
      have hiL : i < L.length := by rw [HLL.out]; exact hlt
      obtain ⟨b', o', hA, -, q0⟩ := tx_at (HLR.out.below HJ.out) hiL
      cases hA
      rw [Nat.zero_add] at q0
      generalize L[i] = t at q0
      clear hiL
      have h8 := HH.out.1.below HJ.out
      have h5 := HH.out.2.below HJ.out
      have HBW2 : Hid (Below w.heap.size w wr) := HB6.out.then HJ.out
      go_wp2_with (first | (refine wpList_load_cs rfl (.tmp 8) rfl g8 rfl h8 ?_) | (refine wpList_load_va rfl (.tmp 5) rfl g5 rfl h5 ?_))
      refine (share_any wr r c t v HV.out.ok (HR.out.below HBW2.out) hb1000).mono ?_
      rintro e w1 ⟨rfl, hB⟩
      have h8 := h8.below hB
      have h5 := h5.below hB
      have HB1 := Lib.hid (HBW2.out.then hB)
      have HK1 := Lib.hid (HJ.out.then hB)
      clear hB q0
      obtain ⟨D, hD⟩ : ∃ D, Ev.shareN r c t v = D := ⟨_, rfl⟩
      have HD := Lib.hid hD
      have hDl := Ev.shareN_le r c t v
      rw [hD] at hDl
      rw [hD]
      clear hD
      go_wp2_with (first | (refine wpList_load_cs rfl (.tmp 8) rfl g8 rfl h8 ?_) | (refine wpList_load_va rfl (.tmp 5) rfl g5 rfl h5 ?_))
      refine (rshare_any w1 r c t v HV.out.ok (HR.out.below HB1.out) hb1000 HBW.out).mono ?_
      rintro e w2 ⟨rfl, hB⟩
      have HB2 := Lib.hid (HB1.out.then hB)
      have HK2 := Lib.hid (HK1.out.then hB)
      rw [HD.out]
      clear hB h8 h5
      go_wp2_with fail
      refine (turn_any w2 t).mono ?_
      rintro e w3 ⟨rfl, h3⟩
      rw [h3]
      clear h3
      go_wp2_with fail
      refine (rturn_any w2 t).mono ?_
      rintro e w3 ⟨rfl, hB⟩
      have HB3 := Lib.hid (HB2.out.then hB)
      have HK3 := Lib.hid (HK2.out.then hB)
      clear hB
      go_wp2_with fail
      refine (turn_any w3 t).mono ?_
      rintro e w4 ⟨rfl, h4⟩
      rw [h4]
      clear h4
      go_wp2_with fail
      refine (turn_any w3 (Ev.turnS t)).mono ?_
      rintro e w4 ⟨rfl, h4⟩
      rw [h4, Ev.turnS_turnS]
      clear h4
      go_wp2_with fail
      go_roundw
      case rel => exact ⟨i + 1, by omega, by go_num, HK3.out⟩
      case measure => simp [intOf]; omega
    · have hii : ¬ (i : Int) < 7 := by omega
      go_wp2_with fail
      go_ret
      exact ⟨rfl, HB6.out.then HJ.out⟩
end Go.Proofs.Ytjdffhonljhpcaa
end

section
/-
  The contracts of the law's size, and of both Columns.
-/
namespace Go.Proofs.Ytjdffhonljhpcaa
set_option linter.unusedSimpArgs false
set_option linter.unusedVariables false
open Go.RowKit

/-- Some number. -/
def RetNum15 (w : World) (e : Ending) (w' : World) : Prop := ∃ r : Int, e = .returned (.int .i64 r) ∧ Below w.heap.size w w'
/-- size answers some number. -/
def SizesTo15 (w : World) (n : Nd) : Prop := ∀ W, Below w.heap.size w W → ∀ m : Int, Calls Try.prog 20 #[n.v, .int .i64 m] W (RetNum15 W)
set_option maxRecDepth 20000 in
set_option maxHeartbeats 4000000 in
theorem size15_any (w : World) (n : Nd) (hn : NodeIn w n) : SizesTo15 w n := by
  induction hn with
  | @mk n hr hin hlit hls hk hat hc hm ih =>
  have HR := Lib.hid hr
  have HI := Lib.hid ih
  have hcm : n.args.length ≤ 9223372036854775807 := by unfold maxLen at hm; omega
  clear hr hin hlit hls hk hat hc hm ih
  intro W hB m
  have HB := Lib.hid hB
  clear hB
  go_enter Try.func20, Try.ntmps20
  go_upto_region 1 with (refine wpList_box_nd rfl (.tmp 0) rfl n rfl ?_; intro W1 hb1 hz1 hB1)
  have HB1 := Lib.hid hB1
  obtain ⟨-, -, -, -, -, -, -, -, -, c9, -⟩ := Blk.c10 hb1
  clear hB1 hb1 hz1
  generalize W.heap.size = g2 at c9 ⊢
  go_wp2_with fail
  clear c9
  go_loopw [5, 11] (fun v5 iv wr => ∃ (r : Int) (i : Nat), v5 = .int .i64 r ∧ i ≤ n.args.length ∧ iv = .int .i64 (i : Int) ∧ Hid (Below W.heap.size W wr)) (fun _ iv _ => n.args.length - (intOf iv).toNat)
  case atStart => exact ⟨_, 0, rfl, Nat.zero_le _, by go_num, HB1.out⟩
  case round =>
    obtain ⟨r, i, rfl, hi, rfl, HJ⟩ := hrel
    by_cases hlt : i < n.args.length
    · have hii : (i : Int) < (n.args.length : Int) := by omega
      obtain ⟨bb, oo, ha, -, -⟩ := HR.out.at_ hlt
      have HIW : Hid (ERow eNd wr (some ⟨bb, oo, none⟩) n.args) := by show ERow _ _ _ _; rw [← ha]; exact HR.out.below (HB.out.then HJ.out)
      rw [ha]
      clear ha
      go_upto_region 5 with (first | (refine wpList_load_nd_at rfl (.tmp 13) rfl HIW.out hlt rfl ?_) | (refine wpList_alloc_nd rfl rfl ?_; intro W6 hb6 hz6 hB6) | (refine wpList_store_nd rfl rfl (.tmp 7) (.tmp 14) rfl wr.heap.size rfl n.args[i] rfl hb6 ?_; intro W7 hb7 hg7))
      have HB7 := Lib.hid (below_of_grown (HJ.out.then hB6) hg7 HJ.out.size (Nat.le_trans HJ.out.size hB6.size))
      clear hb6 hz6 hB6 hg7 HIW
      generalize wr.heap.size = g7 at hb7 ⊢
      by_cases hrm : m < r
      · go_wp2_with fail
        go_ret
        exact ⟨r, rfl, HB7.out⟩
      · go_wp2_with (refine wpList_load_nd rfl (.tmp 7) rfl g7 rfl hb7 ?_)
        refine (HI.out _ (List.getElem_mem hlt) W7 (HB.out.then HB7.out) _).mono ?_
        rintro e W8 ⟨r2, rfl, hB8⟩
        have HB8 := Lib.hid (HB7.out.then hB8)
        clear hB8 hb7
        go_wp2_with fail
        go_roundw
        case rel => exact ⟨_, i + 1, rfl, by omega, by go_num, HB8.out⟩
        case measure => simp [intOf]; omega
    · have hii : ¬ (i : Int) < (n.args.length : Int) := by omega
      go_wp2_with fail
      go_ret
      exact ⟨r, rfl, HJ.out⟩
namespace Ev
mutual
/-- Has a node a column? -/
def hasCol : Nd → Bool
  | .mk k _ _ _ _ _ _ args _ => k == 2 || hasColL args
def hasColL : List Nd → Bool
  | [] => false
  | n :: l => hasCol n || hasColL l
end
theorem hasCol_eq (n : Nd) : hasCol n = (n.k == 2 || hasColL n.args) := by cases n; rfl
theorem hasColL_any (l : List Nd) : hasColL l = l.any hasCol := by
  induction l with
  | nil => rfl
  | cons n l ih => show (hasCol n || hasColL l) = _; rw [ih]; rfl
end Ev
def RetBo (w : World) (b : Bool) (e : Ending) (w' : World) : Prop := e = .returned (.bool b) ∧ Below w.heap.size w w'
/-- What stats.Columns answers, in all worlds behind w. -/
def ColsTo (w : World) (n : Nd) : Prop := ∀ W, Below w.heap.size w W → Calls Try.prog 24 #[n.v] W (RetBo W (Ev.hasCol n))
def RetIx (w : World) (b : Bool) (e : Ending) (w' : World) : Prop := ∃ k : Int, e = .returned (.int .i64 k) ∧ decide (0 ≤ k) = b ∧ Below w.heap.size w w'
theorem hasCol_take {L : List Nd} {i : Nat} (h : i < L.length) : (L.take (i + 1)).any Ev.hasCol = ((L.take i).any Ev.hasCol || Ev.hasCol L[i]) := by
  rw [List.take_succ_eq_append_getElem h, List.any_append]
  simp
set_option maxRecDepth 20000 in
set_option maxHeartbeats 4000000 in
theorem idxf_any (w : World) (A : Option Addr) (c : Nat) (L : List Nd) (hL : ERow eNd w A L) (hlen : L.length ≤ 9223372036854775807) (ih : ∀ m ∈ L, ColsTo w m) (W : World) (hB : Below w.heap.size w W) :
    Calls Try.prog 96 #[.slice A L.length c, .func (.func 24) #[] #[]] W (RetIx W (Ev.hasColL L)) := by
  have HL := Lib.hid (hL.below hB)
  have HI := Lib.hid ih
  have HB := Lib.hid hB
  have HD := Lib.hid (Ev.hasColL_any L)
  clear hL ih hB
  go_enter Try.func96, Try.ntmps96
  go_wp2_with fail
  go_loopw [8] (fun iv wr => ∃ i : Nat, i ≤ L.length ∧ iv = .int .i64 (i : Int) ∧ Hid ((L.take i).any Ev.hasCol = false ∧ Below W.heap.size W wr)) (fun iv _ => L.length - (intOf iv).toNat)
  case atStart => exact ⟨0, Nat.zero_le _, by go_num, by simp, Below.refl _ _⟩
  case round =>
    obtain ⟨i, hi, rfl, HJ⟩ := hrel
    by_cases hlt : i < L.length
    · have hii : (i : Int) < (L.length : Int) := by omega
      obtain ⟨bb, oo, ha, -, -⟩ := HL.out.at_ hlt
      have HIW : Hid (ERow eNd wr (some ⟨bb, oo, none⟩) L) := by show ERow _ _ _ _; rw [← ha]; exact HL.out.below HJ.out.2
      have HTK := Lib.hid (hasCol_take hlt)
      rw [ha]
      clear ha
      go_wp2_with (refine wpList_load_nd_at rfl (.tmp 14) rfl HIW.out hlt rfl ?_)
      refine (HI.out _ (List.getElem_mem hlt) wr (HB.out.then HJ.out.2)).mono ?_
      rintro e W8 ⟨rfl, hB8⟩
      have HB8 := Lib.hid (HJ.out.2.then hB8)
      clear hB8
      cases hb : Ev.hasCol L[i] with
      | true =>
        have HR : Hid (decide (0 ≤ (i : Int)) = Ev.hasColL L) := by
          show _ = _
          rw [HD.out, decide_eq_true (by omega)]
          exact (List.any_eq_true.2 ⟨L[i], List.getElem_mem hlt, hb⟩).symm
        clear hb
        go_wp2_with fail
        go_ret
        exact ⟨_, rfl, HR.out, HB8.out⟩
      | false =>
        have HR : Hid ((L.take (i + 1)).any Ev.hasCol = false) := by show _ = _; rw [HTK.out, HJ.out.1, hb]; rfl
        clear hb
        go_wp2_with fail
        go_roundw
        case rel => exact ⟨i + 1, by omega, by go_num, HR.out, HB8.out⟩
        case measure => simp [intOf]; omega
    · have hii : ¬ (i : Int) < (L.length : Int) := by omega
      have HR : Hid (decide (0 ≤ (-1 : Int)) = Ev.hasColL L) := by
        show _ = _
        have e := HJ.out.1
        rw [List.take_of_length_le (by omega)] at e
        rw [HD.out, e]
        rfl
      go_wp2_with fail
      go_ret
      exact ⟨_, rfl, HR.out, HJ.out.2⟩
theorem ctnf_any (w : World) (A : Option Addr) (c : Nat) (L : List Nd) (hL : ERow eNd w A L) (hlen : L.length ≤ 9223372036854775807) (ih : ∀ m ∈ L, ColsTo w m) (W : World) (hB : Below w.heap.size w W) :
    Calls Try.prog 53 #[.slice A L.length c, .func (.func 24) #[] #[]] W (RetBo W (Ev.hasColL L)) := by
  have HX := Lib.hid (idxf_any w A c L hL hlen ih W hB)
  clear hL ih hB
  go_enter Try.func53, Try.ntmps53
  go_wp2_with fail
  refine HX.out.mono ?_
  rintro e W8 ⟨k, rfl, hk, hB8⟩
  have HB8 := Lib.hid hB8
  have HK := Lib.hid hk
  clear hB8 hk
  go_wp2_with fail
  go_ret
  exact ⟨by rw [← HK.out]; rfl, HB8.out⟩
set_option maxRecDepth 20000 in
set_option maxHeartbeats 4000000 in
theorem cols_any (w : World) (n : Nd) (hn : NodeIn w n) : ColsTo w n := by
  induction hn with
  | @mk n hr hin hlit hls hk hat hc hm ih =>
  have hcm : n.args.length ≤ 9223372036854775807 := by unfold maxLen at hm; omega
  have HX := Lib.hid (fun W hB => ctnf_any w n.a n.c n.args hr hcm ih W hB)
  have HD := Lib.hid (Ev.hasCol_eq n)
  clear hr hin hlit hls hk hat hc hm ih
  intro W hB
  have HB := Lib.hid hB
  clear hB
  generalize Ev.hasCol n = D at HD ⊢
  go_enter Try.func24, Try.ntmps24
  go_upto_region 1 with (refine wpList_box_nd rfl (.tmp 0) rfl n rfl ?_; intro W1 hb1 hz1 hB1)
  have HB1 := Lib.hid hB1
  obtain ⟨c0, -, -, -, -, -, -, -, -, c9, -⟩ := Blk.c10 hb1
  clear hB1 hb1 hz1
  generalize W.heap.size = g2 at c0 c9 ⊢
  by_cases hk : n.k = 2
  · have HF : Hid (D = true) := by show _ = _; rw [HD.out, hk]; rfl
    rw [hk] at c0
    clear hk
    go_wp2_with fail
    go_ret
    exact ⟨by rw [HF.out]; rfl, HB1.out⟩
  · have HF : Hid (D = Ev.hasColL n.args) := by show _ = _; rw [HD.out]; simp [hk]
    have hkb : (n.k == 2) = false := by simpa using hk
    clear hk
    go_wp2_with fail
    refine (HX.out W1 (HB.out.then HB1.out)).mono ?_
    rintro e W8 ⟨rfl, hB8⟩
    have HB8 := Lib.hid (HB1.out.then hB8)
    clear hB8
    go_wp2_with fail
    go_ret
    exact ⟨by rw [HF.out]; rfl, HB8.out⟩
/-- What the document's Columns answers, in all worlds behind w. -/
def RColsTo (w : World) (n : Nd) : Prop := ∀ W, Below w.heap.size w W → Calls Try.prog 25 #[n.v] W (RetBo W (Ev.hasCol n))
set_option maxRecDepth 20000 in
set_option maxHeartbeats 4000000 in
theorem rcols_any (w : World) (n : Nd) (hn : NodeIn w n) : RColsTo w n := by
  induction hn with
  | @mk n hr hin hlit hls hk hat hc hm ih =>
  have hcm : n.args.length ≤ 9223372036854775807 := by unfold maxLen at hm; omega
  have HR := Lib.hid hr
  have HI := Lib.hid ih
  have HD : Hid (Ev.hasCol n = (n.k == 2 || n.args.any Ev.hasCol)) := by show _ = _; rw [Ev.hasCol_eq n, Ev.hasColL_any]
  clear hr hin hlit hls hk hat hc hm ih
  intro W hB
  have HB := Lib.hid hB
  clear hB
  generalize Ev.hasCol n = D at HD ⊢
  go_enter Try.func25, Try.ntmps25
  go_upto_region 1 with (refine wpList_box_nd rfl (.tmp 0) rfl n rfl ?_; intro W1 hb1 hz1 hB1)
  have HB1 := Lib.hid hB1
  have HH := Lib.hid hb1
  obtain ⟨c0, -, -, -, -, -, -, -, -, -, -⟩ := Blk.c10 hb1
  clear hB1 hb1 hz1
  obtain ⟨g2, hg2⟩ : ∃ g, W.heap.size = g := ⟨_, rfl⟩
  have HH : Hid (Blk W1 g2 63 n.cells) := by show Blk _ _ _ _; rw [← hg2]; exact HH.out
  rw [hg2] at c0
  rw [hg2]
  clear hg2
  by_cases hk : n.k = 2
  · have HF : Hid (D = true) := by show _ = _; rw [HD.out, hk]; rfl
    rw [hk] at c0
    clear hk
    go_wp2_with fail
    go_ret
    exact ⟨by rw [HF.out]; rfl, HB1.out⟩
  · have HF : Hid (D = n.args.any Ev.hasCol) := by show _ = _; rw [HD.out]; simp [hk]
    have hkb : (n.k == 2) = false := by simpa using hk
    clear hk
    go_wp2_with fail
    clear c0
    go_loopw [3] (fun iv wr => ∃ i : Nat, i ≤ n.args.length ∧ iv = .int .i64 (i : Int) ∧ Hid ((n.args.take i).any Ev.hasCol = false ∧ Below W1.heap.size W1 wr)) (fun iv _ => n.args.length - (intOf iv).toNat)
    case atStart => exact ⟨0, Nat.zero_le _, by go_num, by simp, Below.refl _ _⟩
    case round =>
      obtain ⟨i, hi, rfl, HJ⟩ := hrel
      obtain ⟨-, -, -, -, -, -, -, -, -, c9, -⟩ := Blk.c10 (HH.out.below HJ.out.2)
      have HBW : Hid (Below W.heap.size W wr) := HB1.out.then HJ.out.2
      by_cases hlt : i < n.args.length
      · have hii : (i : Int) < (n.args.length : Int) := by omega
        obtain ⟨bb, oo, ha, -, -⟩ := HR.out.at_ hlt
        have HIW : Hid (ERow eNd wr (some ⟨bb, oo, none⟩) n.args) := by show ERow _ _ _ _; rw [← ha]; exact HR.out.below (HB.out.then HBW.out)
        have HTK := Lib.hid (hasCol_take hlt)
        rw [ha] at c9
        clear ha
        go_wp2_with (refine wpList_load_nd_at rfl (.tmp 17) rfl HIW.out hlt rfl ?_)
        refine (HI.out _ (List.getElem_mem hlt) wr (HB.out.then HBW.out)).mono ?_
        rintro e W8 ⟨rfl, hB8⟩
        have HB8 := Lib.hid (HJ.out.2.then hB8)
        clear hB8 c9
        cases hb : Ev.hasCol n.args[i] with
        | true =>
          have HF2 : Hid (D = true) := by show _ = _; rw [HF.out]; exact List.any_eq_true.2 ⟨n.args[i], List.getElem_mem hlt, hb⟩
          clear hb
          go_wp2_with fail
          go_ret
          exact ⟨by rw [HF2.out]; rfl, HB1.out.then HB8.out⟩
        | false =>
          have HR2 : Hid ((n.args.take (i + 1)).any Ev.hasCol = false) := by show _ = _; rw [HTK.out, HJ.out.1, hb]; rfl
          clear hb
          go_wp2_with fail
          go_roundw
          case rel => exact ⟨i + 1, by omega, by go_num, HR2.out, HB8.out⟩
          case measure => simp [intOf]; omega
      · have hii : ¬ (i : Int) < (n.args.length : Int) := by omega
        have HF2 : Hid (D = false) := by show _ = _; rw [HF.out, ← HJ.out.1, List.take_of_length_le (by omega)]
        go_wp2_with fail
        go_ret
        exact ⟨by rw [HF2.out]; rfl, HBW.out⟩
end Go.Proofs.Ytjdffhonljhpcaa
end

section
/-
  The contract of stats.Against.
-/
namespace Go.Proofs.Ytjdffhonljhpcaa
set_option linter.unusedSimpArgs false
set_option linter.unusedVariables false
open Go.RowKit

namespace Ev
/-- A column's place, a sign, what stands against it. -/
def against (n : Nd) : Option (Int × List UInt8 × Nd) :=
  if n.k = 7 then
    match n.args with
    | [a, b] => if a.k = 2 ∧ hasCol b = false then some (a.at_, n.op, b) else if b.k = 2 ∧ hasCol a = false then some (b.at_, turnS n.op, a) else none
    | _ => none
  else none
def agAt (x : Option (Int × List UInt8 × Nd)) : Int := match x with | some y => y.1 | none => 0
def agOp (x : Option (Int × List UInt8 × Nd)) : List UInt8 := match x with | some y => y.2.1 | none => []
def agV (x : Option (Int × List UInt8 × Nd)) : Va := match x with | some y => eval [] y.2.2 | none => Key.nul
theorem against_no {n : Nd} (h : n.k ≠ 7 ∨ n.args.length ≠ 2) : against n = none := by
  unfold against
  by_cases hk : n.k = 7
  · rw [if_pos hk]
    have hl : n.args.length ≠ 2 := h.resolve_left (fun e => e hk)
    match n.args, hl with
    | [], _ => rfl
    | [_], _ => rfl
    | [_, _], h => exact absurd rfl h
    | _ :: _ :: _ :: _, _ => rfl
  · rw [if_neg hk]
theorem against_two {n a b : Nd} (hk : n.k = 7) (h : n.args = [a, b]) : against n = if a.k = 2 ∧ hasCol b = false then some (a.at_, n.op, b) else if b.k = 2 ∧ hasCol a = false then some (b.at_, turnS n.op, a) else none := by
  unfold against
  rw [if_pos hk, h]
end Ev
theorem ret_ag {P : Program} {fn : Func} {R : Ending → World → Prop} {a : Act} {w : World} {p u u' u'' : Tmp} {T : TypeId} {x : Addr} {v y y' y'' : Value} (h : fn.results = #[.tmp u, .tmp u', .cell p T, .tmp u'']) (hd : a.defers = [])
    (hp : a.tmps.getD p undef = .pointer (some x)) (hu : a.tmps.getD u undef = y) (hu' : a.tmps.getD u' undef = y') (hu'' : a.tmps.getD u'' undef = y'') (hv : (loadVar T x).run P w = .ok v w) (hR : R (.returned (.tuple #[y, y', v, y''])) w) : bodyPost P fn R .ret a w := by
  refine bodyPost_ret (v := .tuple #[y, y', v, y'']) ?_ hd hR
  have e : (results fn a.tmps).run P w = ((asAddr (a.tmps.getD p undef)).run P w).andThen fun b w1 => ((loadVar T b).run P w1).andThen fun v w2 => .ok (.tuple #[a.tmps.getD u undef, a.tmps.getD u' undef, v, a.tmps.getD u'' undef]) w2 := by
    simp only [results, h]
    simp [Sem.run_bind, Result.andThen]
  rw [e, hp, hu, hu', hu'']
  show (((loadVar T x).run P w).andThen _) = _
  rw [hv]
  rfl
theorem wpList_load_nd_is {w : World} {ops : Array Oper} {rest : List Oper} {o : Oper} {a : Act} {Q : Exit → Act → World → Prop} (hgd : o.guard = none) (x : Operand) (hop : o.op = .load 63 x) {b off : Nat} {L : List Nd} (hr : ERow eNd w (some ⟨b, off, none⟩) L) {j : Nat} (hj : j < L.length) (p : Nd) (hp : L[j] = p) (hx : a.eval x = .pointer (some ⟨b, off + j * 10, none⟩))
    (h : wpList Try.prog ops Q rest (a.put o.dst p.v) w) : wpList Try.prog ops Q (o :: rest) a w := by
  subst hp
  exact wpList_load_nd_at hgd x hop hr hj hx h
/-- What stats.Against answers. -/
def RetAg (w : World) (x : Option (Int × List UInt8 × Nd)) (e : Ending) (w' : World) : Prop := e = .returned (.tuple #[.int .i64 (Ev.agAt x), txt (Ev.agOp x), (Ev.agV x).v, .bool x.isSome]) ∧ Below w.heap.size w w'
set_option maxRecDepth 100000 in
set_option maxHeartbeats 8000000 in
theorem against_any (w : World) (n : Nd) (hn : NodeIn w n) : Calls Try.prog 21 #[n.v] w (RetAg w (Ev.against n)) := by
  have HN := Lib.hid hn
  clear hn
  obtain ⟨D, hD⟩ : ∃ D, Ev.against n = D := ⟨_, rfl⟩
  rw [hD]
  have HD := Lib.hid hD
  clear hD
  have hcm : n.args.length ≤ 9223372036854775807 := by have h := HN.out; cases h with | mk h1 h2 h3 h4 h5 h6 h7 h8 => unfold maxLen at h8; omega
  go_enter Try.func21, Try.ntmps21
  go_upto_region 1 with (first | (refine wpList_box_nd rfl (.tmp 0) rfl n rfl ?_; intro W1 hb1 hz1 hB1) | (refine wpList_alloc_va rfl rfl ?_; intro W2 hb2 hz2 hB2))
  have h1 := hb1.below hB2
  have HB2 := Lib.hid (hB1.then hB2)
  have h14 : w.heap.size < W1.heap.size := by omega
  clear hb1 hB1 hB2 hz1
  obtain ⟨g4, hg4⟩ : ∃ g, W1.heap.size = g := ⟨_, rfl⟩
  obtain ⟨g1, hg1⟩ : ∃ g, w.heap.size = g := ⟨_, rfl⟩
  rw [hg4] at hb2 h14
  rw [hg1] at h1 h14
  rw [hg4, hg1]
  have HG4 : Hid (w.heap.size ≤ g4) := by show _ ≤ _; omega
  clear hg4 hg1 hz2
  obtain ⟨c0, c1, -, -, -, -, -, -, -, c9, -⟩ := Blk.c10 h1
  by_cases hk : n.k = 7
  case neg =>
    have HF : Hid (D = none) := by show _ = _; rw [← HD.out]; exact Ev.against_no (.inl hk)
    have hkb : (n.k != 7) = true := by simpa using hk
    clear hk
    go_wp2_with (refine wpList_store_va rfl rfl (.tmp 4) (.tmp 17) rfl g4 rfl Key.nul rfl hb2 ?_; intro Wa hba hga)
    exact ret_ag rfl rfl rfl rfl rfl rfl hba.va ⟨by rw [HF.out]; rfl, below_of_grown HB2.out hga (by have := HG4.out; omega) HB2.out.size⟩
  by_cases hl : n.args.length = 2
  case neg =>
    have HF : Hid (D = none) := by show _ = _; rw [← HD.out]; exact Ev.against_no (.inr hl)
    have hlb : ((n.args.length : Int) != 2) = true := by simp; omega
    rw [hk] at c0
    clear hk hl
    go_wp2_with (refine wpList_store_va rfl rfl (.tmp 4) (.tmp 17) rfl g4 rfl Key.nul rfl hb2 ?_; intro Wa hba hga)
    exact ret_ag rfl rfl rfl rfl rfl rfl hba.va ⟨by rw [HF.out]; rfl, below_of_grown HB2.out hga (by have := HG4.out; omega) HB2.out.size⟩
  obtain ⟨a, b, hab⟩ : ∃ a b, n.args = [a, b] := by
    match n.args, hl with
    | [a, b], _ => exact ⟨a, b, rfl⟩
  have HDC : Hid (D = if a.k = 2 ∧ Ev.hasCol b = false then some (a.at_, n.op, b) else if b.k = 2 ∧ Ev.hasCol a = false then some (b.at_, Ev.turnS n.op, a) else none) := by show _ = _; rw [← HD.out]; exact Ev.against_two hk hab
  have HIA : Hid (NodeIn w a ∧ NodeIn w b) := by
    have h := HN.out
    cases h with
    | mk h1 h2 => exact ⟨h2 a (by rw [hab]; simp), h2 b (by rw [hab]; simp)⟩
  have HRW : Hid (ERow eNd w n.a [a, b]) := by
    have h := HN.out
    cases h with
    | mk h1 h2 => rw [← hab]; exact h1
  obtain ⟨ba, oa, hA, -, -⟩ := HRW.out.at_ (j := 0) (by simp)
  rw [hk] at c0
  rw [hl, hA] at c9
  have HRW : Hid (ERow eNd w (some ⟨ba, oa, none⟩) [a, b]) := by show ERow _ _ _ _; rw [← hA]; exact HRW.out
  have H1 := Lib.hid h1
  have H2 := Lib.hid hb2
  clear hk hl hab hA HN HD hcm
  obtain ⟨op, hop⟩ : ∃ op, n.op = op := ⟨_, rfl⟩
  have HC1 : Hid (∀ W, Below W2.heap.size W2 W → W.cell? ⟨g1, 1, none⟩ = some (txt op)) := fun W hW => by
    obtain ⟨-, c1, -⟩ := Blk.c10 (H1.out.below hW)
    rw [← hop]
    exact c1
  rw [hop] at c1 HDC
  clear hop c1
  go_upto_region 3 with fail
  go_cut [6, 7] (fun v6 v7 wx => ∃ g6 g7 : Nat, v6 = .pointer (some ⟨g6, 0, none⟩) ∧ v7 = .pointer (some ⟨g7, 0, none⟩) ∧ Hid (Blk wx g6 63 a.cells ∧ Blk wx g7 63 b.cells ∧ Below W2.heap.size W2 wx))
  case first =>
    have HAX : Hid (∀ W, Below W2.heap.size W2 W → ERow eNd W (some ⟨ba, oa, none⟩) [a, b]) := fun W h => HRW.out.below (HB2.out.then h)
    have hj0 : 0 < [a, b].length := by simp
    have hj1 : 1 < [a, b].length := by simp
    have hB : Below W2.heap.size W2 W2.drew := (Below.refl _ _).drewR
    have h1lt : g1 < W2.heap.size := H1.out.lt
    have c9 : W2.drew.cell? _ = _ := c9
    have hwd : W2.drew.heap.size = W2.heap.size := rfl
    clear c0 h1 hb2 HB2 HRW HDC HIA HG4 H1 H2 HC1
    refine wp_region_plan (.take 0 (.take 1 (.take 2 (.take 3 (.take 4 (.take 5 (.take 6 (.take 7 (.fork (.run 8 [0, 1, 2, 3, 4, 5, 6, 7] (.run 9 [0, 1, 2, 3, 4, 5, 6, 7] (.run 10 [4, 5, 6, 7] (.run 11 [] .fin)))) (.run 9 [0, 1, 2, 3, 4, 5, 6, 7] (.run 8 [0, 1, 2, 3, 4, 5, 6, 7] (.run 10 [4, 5, 6, 7] (.run 11 [] .fin))))))))))))) (by kernel_rfl) (by kernel_rfl) (by kernel_rfl) (by kernel_rfl) ?_
    repeat' (first | (refine hZ _ _ ?_; clear hZ) | (refine hZ _ ?_; clear hZ) | (refine hZ ?_; clear hZ) | rw [again_nil] | (rw [walk_fin]; go_wp2_with fail; go_meet; (case rel => exact ⟨_, _, rfl, rfl, h6, h7, hB⟩)) | (rw [walk_fork]; refine ⟨?_, ?_⟩) | ((first | rw [walk_take] | rw [walk_run] | rw [again_cons]); intro Z hZ; simp only [sel, List.getElem?_toArray, List.getElem?_cons_zero, List.getElem?_cons_succ]; go_wp2_with (first | (refine wpList_load_nd_is rfl (.tmp 20) rfl (HAX.out _ hB) hj0 a rfl rfl ?_) | (refine wpList_load_nd_is rfl (.tmp 24) rfl (HAX.out _ hB) hj1 b rfl rfl ?_) | (refine wpList_alloc_nd (o := ⟨some 6, _, _, _, _, _⟩) rfl rfl ?_; intro W h6 hz6 hn; (try replace h7 := h7.below hn); replace c9 := cell_later hn c9; replace hB := hB.then hn) | (refine wpList_alloc_nd (o := ⟨some 7, _, _, _, _, _⟩) rfl rfl ?_; intro W h7 hz7 hn; (try replace h6 := h6.below hn); replace c9 := cell_later hn c9; replace hB := hB.then hn) | (refine wpList_store_nd rfl rfl (.tmp 6) (.tmp 21) rfl _ rfl a rfl h6 ?_; intro W h6 hg; have hs' := hB.size; replace h7 := h7.grown hg (by simp only [ne_eq, Option.some.injEq]; omega); replace c9 := cell_kept hg (by omega) (by omega) c9; replace hB := below_of_grown hB hg (by omega) hB.size) | (refine wpList_store_nd rfl rfl (.tmp 7) (.tmp 25) rfl _ rfl b rfl h7 ?_; intro W h7 hg; have hs' := hB.size; replace h6 := h6.grown hg (by simp only [ne_eq, Option.some.injEq]; omega); replace hB := below_of_grown hB hg (by omega) hB.size))))
  case rest =>
    obtain ⟨g6, g7, rfl, rfl, HX⟩ := hcut
    have HBX : Hid (Below w.heap.size w wc) := HB2.out.then HX.out.2.2
    have HK : Hid (Below W2.heap.size W2 wc) := HX.out.2.2
    have h6 := HX.out.1
    have h7 := HX.out.2.1
    have h4 := H2.out.below HX.out.2.2
    have HEV := Lib.hid (fun m hm W hW => eval_any w none 0 [] ERow.nil (by simp) (by simp) m hm W hW)
    clear HX c0 c9 h1 hb2
    obtain ⟨a0, -, -, -, -, -, a6, -, -, -, -⟩ := Blk.c10 h6
    by_cases ha : a.k = 2
    · have HA := Lib.hid ha
      rw [ha] at a0
      clear ha
      obtain ⟨e0, e1, e2, e3, e4, e5, e6, e7, e8, e9, -⟩ := Blk.c10 h7
      go_wp2_with fail
      refine (show Calls _ _ #[b.v] _ _ from cols_any w b HIA.out.2 wc HBX.out).mono ?_
      rintro e w1 ⟨rfl, hB⟩
      have HBX := Lib.hid (HBX.out.then hB)
      have HK := Lib.hid (HK.out.then hB)
      have h6 := h6.below hB
      have h7 := h7.below hB
      have h4 := h4.below hB
      have a6 := cell_later hB a6
      clear hB a0 e0 e1 e2 e3 e4 e5 e6 e7 e8 e9
      cases hcb : Ev.hasCol b with
      | false =>
        have HF : Hid (D = some (a.at_, op, b)) := by show _ = _; rw [HDC.out, if_pos ⟨HA.out, hcb⟩]
        clear hcb
        go_upto_region 5 with fail
        have h7d := h7.drew
        have h4d := h4.drew
        have a6d : w1.drew.cell? _ = _ := a6
        have c1d := HC1.out w1.drew HK.out.drewR
        have HBD : Hid (Below w.heap.size w w1.drew) := HBX.out.drewR
        clear h6 h7 h4 a6
        refine wp_region_plan (.take 0 (.take 1 (.take 2 (.take 3 (.take 4 (.run 5 [0, 1, 2, 3] (.take 6 (.take 7 (.run 8 [] (.take 9 .fin)))))))))) (by kernel_rfl) (by kernel_rfl) (by kernel_rfl) (by kernel_rfl) ?_
        repeat' (first | (refine hZ _ _ ?_; clear hZ) | (refine hZ _ ?_; clear hZ) | (refine hZ ?_; clear hZ) | rw [again_nil] | rw [walk_fin] | ((first | rw [walk_take] | rw [walk_run] | rw [again_cons]); intro Z hZ; simp only [sel, List.getElem?_toArray, List.getElem?_cons_zero, List.getElem?_cons_succ]; go_wp2_with (refine wpList_load_nd rfl (.tmp 7) rfl g7 rfl h7d ?_)))
        refine (show Calls _ _ _ _ _ from HEV.out b HIA.out.2 w1.drew HBD.out).mono ?_
        rintro e w3 ⟨rfl, hB⟩
        have a6d := cell_later hB a6d
        have c1d := cell_later hB c1d
        have h4d := h4d.below hB
        have HB3 := Lib.hid (HBD.out.then hB)
        obtain ⟨x, hx⟩ : ∃ x, Ev.eval [] b = x := ⟨_, rfl⟩
        have HXE := Lib.hid hx
        rw [hx]
        clear hB h7d hx
        go_wp2_with fail
        repeat' (first | (refine hZ _ _ ?_; clear hZ) | (refine hZ _ ?_; clear hZ) | (refine hZ ?_; clear hZ) | rw [again_nil] | rw [walk_fin] | ((first | rw [walk_take] | rw [walk_run] | rw [again_cons]); intro Z hZ; simp only [sel, List.getElem?_toArray, List.getElem?_cons_zero, List.getElem?_cons_succ]; go_wp2_with (refine wpList_store_va rfl rfl (.tmp 4) (.tmp 40) rfl g4 rfl x rfl h4d ?_; intro Wa hba hga)))
        go_wp2_with fail
        exact ret_ag rfl rfl rfl rfl rfl rfl hba.va ⟨by rw [HF.out, ← HXE.out]; rfl, below_of_grown HB3.out hga (by have := HG4.out; omega) HB3.out.size⟩
      | true =>
        have HNO : Hid (¬ (a.k = 2 ∧ Ev.hasCol b = false)) := by rintro ⟨-, h⟩; rw [hcb] at h; cases h
        clear hcb a6
        obtain ⟨b0, -, -, -, -, -, b6, -, -, -, -⟩ := Blk.c10 h7
        by_cases hb : b.k = 2
        · have HBK := Lib.hid hb
          rw [hb] at b0
          clear hb
          obtain ⟨e0, e1, e2, e3, e4, e5, e6, e7, e8, e9, -⟩ := Blk.c10 h6
          go_wp2_with fail
          refine (show Calls _ _ #[a.v] _ _ from cols_any w a HIA.out.1 w1 HBX.out).mono ?_
          rintro e w2 ⟨rfl, hB⟩
          have HBX := Lib.hid (HBX.out.then hB)
          have HK := Lib.hid (HK.out.then hB)
          have h6 := h6.below hB
          have h4 := h4.below hB
          have b6 := cell_later hB b6
          clear hB b0 h7 e0 e1 e2 e3 e4 e5 e6 e7 e8 e9
          cases hca : Ev.hasCol a with
          | false =>
            have HF : Hid (D = some (b.at_, Ev.turnS op, a)) := by show _ = _; rw [HDC.out, if_neg HNO.out, if_pos ⟨HBK.out, hca⟩]
            clear hca
            go_upto_region 7 with fail
            have h6d := h6.drew
            have h4d := h4.drew
            have b6d : w2.drew.cell? _ = _ := b6
            have c1d := HC1.out w2.drew HK.out.drewR
            have HBD : Hid (Below w.heap.size w w2.drew) := HBX.out.drewR
            clear h6 h4 b6
            refine wp_region_plan (.take 0 (.take 1 (.take 2 (.take 3 (.take 5 (.run 4 [0, 1, 5] (.run 6 [0, 1] (.take 7 (.take 8 (.run 9 [] (.take 10 .fin))))))))))) (by kernel_rfl) (by kernel_rfl) (by kernel_rfl) (by kernel_rfl) ?_
            repeat' (first | (refine hZ _ _ ?_; clear hZ) | (refine hZ _ ?_; clear hZ) | (refine hZ ?_; clear hZ) | rw [again_nil] | rw [walk_fin] | ((first | rw [walk_take] | rw [walk_run] | rw [again_cons]); intro Z hZ; simp only [sel, List.getElem?_toArray, List.getElem?_cons_zero, List.getElem?_cons_succ]; go_wp2_with (refine wpList_load_nd rfl (.tmp 6) rfl g6 rfl h6d ?_)))
            refine (turn_any w2.drew op).mono ?_
            rintro e w4 ⟨rfl, h4e⟩
            rw [h4e]
            clear h4e
            go_wp2_with fail
            repeat' (first | (refine hZ _ _ ?_; clear hZ) | (refine hZ _ ?_; clear hZ) | (refine hZ ?_; clear hZ) | rw [again_nil] | rw [walk_fin] | ((first | rw [walk_take] | rw [walk_run] | rw [again_cons]); intro Z hZ; simp only [sel, List.getElem?_toArray, List.getElem?_cons_zero, List.getElem?_cons_succ]; go_wp2_with (refine wpList_load_nd rfl (.tmp 6) rfl g6 rfl h6d ?_)))
            refine (show Calls _ _ _ _ _ from HEV.out a HIA.out.1 w2.drew HBD.out).mono ?_
            rintro e w3 ⟨rfl, hB⟩
            have b6d := cell_later hB b6d
            have h4d := h4d.below hB
            have HB3 := Lib.hid (HBD.out.then hB)
            obtain ⟨x, hx⟩ : ∃ x, Ev.eval [] a = x := ⟨_, rfl⟩
            have HXE := Lib.hid hx
            rw [hx]
            clear hB h6d hx c1d
            go_wp2_with fail
            repeat' (first | (refine hZ _ _ ?_; clear hZ) | (refine hZ _ ?_; clear hZ) | (refine hZ ?_; clear hZ) | rw [again_nil] | rw [walk_fin] | ((first | rw [walk_take] | rw [walk_run] | rw [again_cons]); intro Z hZ; simp only [sel, List.getElem?_toArray, List.getElem?_cons_zero, List.getElem?_cons_succ]; go_wp2_with (refine wpList_store_va rfl rfl (.tmp 4) (.tmp 56) rfl g4 rfl x rfl h4d ?_; intro Wa hba hga)))
            go_wp2_with fail
            exact ret_ag rfl rfl rfl rfl rfl rfl hba.va ⟨by rw [HF.out, ← HXE.out]; rfl, below_of_grown HB3.out hga (by have := HG4.out; omega) HB3.out.size⟩
          | true =>
            have HF : Hid (D = none) := by show _ = _; rw [HDC.out, if_neg HNO.out, if_neg (by rintro ⟨-, h⟩; rw [hca] at h; cases h)]
            clear hca
            go_wp2_with (refine wpList_store_va rfl rfl (.tmp 4) (.tmp 57) rfl g4 rfl Key.nul rfl h4 ?_; intro Wa hba hga)
            exact ret_ag rfl rfl rfl rfl rfl rfl hba.va ⟨by rw [HF.out]; rfl, below_of_grown HBX.out hga (by have := HG4.out; omega) HBX.out.size⟩
        · have HF : Hid (D = none) := by show _ = _; rw [HDC.out, if_neg HNO.out, if_neg (fun h => hb h.1)]
          have hbb : (b.k == 2) = false := by simpa using hb
          clear hb
          go_wp2_with (refine wpList_store_va rfl rfl (.tmp 4) (.tmp 57) rfl g4 rfl Key.nul rfl h4 ?_; intro Wa hba hga)
          exact ret_ag rfl rfl rfl rfl rfl rfl hba.va ⟨by rw [HF.out]; rfl, below_of_grown HBX.out hga (by have := HG4.out; omega) HBX.out.size⟩
    · have HNO : Hid (¬ (a.k = 2 ∧ Ev.hasCol b = false)) := fun h => ha h.1
      have hab : (a.k == 2) = false := by simpa using ha
      clear ha a6
      obtain ⟨b0, -, -, -, -, -, b6, -, -, -, -⟩ := Blk.c10 h7
      by_cases hb : b.k = 2
      · have HBK := Lib.hid hb
        rw [hb] at b0
        clear hb
        obtain ⟨e0, e1, e2, e3, e4, e5, e6, e7, e8, e9, -⟩ := Blk.c10 h6
        go_wp2_with fail
        refine (show Calls _ _ #[a.v] _ _ from cols_any w a HIA.out.1 wc HBX.out).mono ?_
        rintro e w2 ⟨rfl, hB⟩
        have HBX := Lib.hid (HBX.out.then hB)
        have HK := Lib.hid (HK.out.then hB)
        have h6 := h6.below hB
        have h4 := h4.below hB
        have b6 := cell_later hB b6
        clear hB b0 h7 e0 e1 e2 e3 e4 e5 e6 e7 e8 e9
        cases hca : Ev.hasCol a with
        | false =>
          have HF : Hid (D = some (b.at_, Ev.turnS op, a)) := by show _ = _; rw [HDC.out, if_neg HNO.out, if_pos ⟨HBK.out, hca⟩]
          clear hca
          go_upto_region 7 with fail
          have h6d := h6.drew
          have h4d := h4.drew
          have b6d : w2.drew.cell? _ = _ := b6
          have c1d := HC1.out w2.drew HK.out.drewR
          have HBD : Hid (Below w.heap.size w w2.drew) := HBX.out.drewR
          clear h6 h4 b6
          refine wp_region_plan (.take 0 (.take 1 (.take 2 (.take 3 (.take 5 (.run 4 [0, 1, 5] (.run 6 [0, 1] (.take 7 (.take 8 (.run 9 [] (.take 10 .fin))))))))))) (by kernel_rfl) (by kernel_rfl) (by kernel_rfl) (by kernel_rfl) ?_
          repeat' (first | (refine hZ _ _ ?_; clear hZ) | (refine hZ _ ?_; clear hZ) | (refine hZ ?_; clear hZ) | rw [again_nil] | rw [walk_fin] | ((first | rw [walk_take] | rw [walk_run] | rw [again_cons]); intro Z hZ; simp only [sel, List.getElem?_toArray, List.getElem?_cons_zero, List.getElem?_cons_succ]; go_wp2_with (refine wpList_load_nd rfl (.tmp 6) rfl g6 rfl h6d ?_)))
          refine (turn_any w2.drew op).mono ?_
          rintro e w4 ⟨rfl, h4e⟩
          rw [h4e]
          clear h4e
          go_wp2_with fail
          repeat' (first | (refine hZ _ _ ?_; clear hZ) | (refine hZ _ ?_; clear hZ) | (refine hZ ?_; clear hZ) | rw [again_nil] | rw [walk_fin] | ((first | rw [walk_take] | rw [walk_run] | rw [again_cons]); intro Z hZ; simp only [sel, List.getElem?_toArray, List.getElem?_cons_zero, List.getElem?_cons_succ]; go_wp2_with (refine wpList_load_nd rfl (.tmp 6) rfl g6 rfl h6d ?_)))
          refine (show Calls _ _ _ _ _ from HEV.out a HIA.out.1 w2.drew HBD.out).mono ?_
          rintro e w3 ⟨rfl, hB⟩
          have b6d := cell_later hB b6d
          have h4d := h4d.below hB
          have HB3 := Lib.hid (HBD.out.then hB)
          obtain ⟨x, hx⟩ : ∃ x, Ev.eval [] a = x := ⟨_, rfl⟩
          have HXE := Lib.hid hx
          rw [hx]
          clear hB h6d hx c1d
          go_wp2_with fail
          repeat' (first | (refine hZ _ _ ?_; clear hZ) | (refine hZ _ ?_; clear hZ) | (refine hZ ?_; clear hZ) | rw [again_nil] | rw [walk_fin] | ((first | rw [walk_take] | rw [walk_run] | rw [again_cons]); intro Z hZ; simp only [sel, List.getElem?_toArray, List.getElem?_cons_zero, List.getElem?_cons_succ]; go_wp2_with (refine wpList_store_va rfl rfl (.tmp 4) (.tmp 56) rfl g4 rfl x rfl h4d ?_; intro Wa hba hga)))
          go_wp2_with fail
          exact ret_ag rfl rfl rfl rfl rfl rfl hba.va ⟨by rw [HF.out, ← HXE.out]; rfl, below_of_grown HB3.out hga (by have := HG4.out; omega) HB3.out.size⟩
        | true =>
          have HF : Hid (D = none) := by show _ = _; rw [HDC.out, if_neg HNO.out, if_neg (by rintro ⟨-, h⟩; rw [hca] at h; cases h)]
          clear hca
          go_wp2_with (refine wpList_store_va rfl rfl (.tmp 4) (.tmp 57) rfl g4 rfl Key.nul rfl h4 ?_; intro Wa hba hga)
          exact ret_ag rfl rfl rfl rfl rfl rfl hba.va ⟨by rw [HF.out]; rfl, below_of_grown HBX.out hga (by have := HG4.out; omega) HBX.out.size⟩
      · have HF : Hid (D = none) := by show _ = _; rw [HDC.out, if_neg HNO.out, if_neg (fun h => hb h.1)]
        have hbb : (b.k == 2) = false := by simpa using hb
        clear hb
        go_wp2_with (refine wpList_store_va rfl rfl (.tmp 4) (.tmp 57) rfl g4 rfl Key.nul rfl h4 ?_; intro Wa hba hga)
        exact ret_ag rfl rfl rfl rfl rfl rfl hba.va ⟨by rw [HF.out]; rfl, below_of_grown HBX.out hga (by have := HG4.out; omega) HBX.out.size⟩
end Go.Proofs.Ytjdffhonljhpcaa
end

section
/-
  The contracts of stats.Guess's of and of the document's of.
-/
namespace Go.Proofs.Ytjdffhonljhpcaa
set_option linter.unusedSimpArgs false
set_option linter.unusedVariables false
open Go.RowKit

namespace Ev
/-- How many rows a column's table has, and what is known of it. -/
def ofN (at_ : Int) (rows : List Int) (cols : List Cs) : Int × Cs :=
  if 0 ≤ at_ ∧ at_ < rows.length ∧ at_ < cols.length then (rowsN (rows.getD at_.toNat 0), clnC (rows.getD at_.toNat 0) (cols.getD at_.toNat Cs.nul)) else (0, Cs.nul)
theorem ofN_no {at_ : Int} {rows : List Int} {cols : List Cs} (h : ¬ (0 ≤ at_ ∧ at_ < rows.length ∧ at_ < cols.length)) : ofN at_ rows cols = (0, Cs.nul) := by unfold ofN; rw [if_neg h]
theorem ofN_at {j : Nat} {rows : List Int} {cols : List Cs} (h : j < rows.length) (k : j < cols.length) : ofN (j : Int) rows cols = (rowsN rows[j], clnC rows[j] cols[j]) := by
  unfold ofN
  rw [if_pos ⟨by omega, by omega, by omega⟩]
  simp [List.getD, h, k]
end Ev
/-- Rows and columns, as they can be read. -/
structure RC (w : World) (A : Option Addr) (rows : List Int) (B : Option Addr) (cols : List Cs) : Prop where
  r : ERow eI64 w A rows
  c : CsIn w B cols
  rl : rows.length ≤ 30
  cl : cols.length ≤ 30
theorem RC.below {w W : World} {A B : Option Addr} {rows : List Int} {cols : List Cs} (h : RC w A rows B cols) (hB : Below w.heap.size w W) : RC W A rows B cols := ⟨h.r.below hB, h.c.below hB, h.rl, h.cl⟩
/-- What of answers. -/
def RetOf (w : World) (x : Int × Cs) (e : Ending) (w' : World) : Prop := e = .returned (.tuple #[.int .i64 x.1, x.2.v]) ∧ Below w.heap.size w w'
set_option maxRecDepth 20000 in
set_option maxHeartbeats 4000000 in
theorem gof_any (w : World) (g4 g5 : Nat) (A B : Option Addr) (ca cb : Nat) (rows : List Int) (cols : List Cs) (h4 : Blk w g4 29 [.slice A rows.length ca]) (h5 : Blk w g5 25 [.slice B cols.length cb]) (hrc : RC w A rows B cols) (at_ : Int) (hat : Ev.inB at_) :
    Calls Try.prog 54 #[.int .i64 at_, .pointer (some ⟨g4, 0, none⟩), .pointer (some ⟨g5, 0, none⟩)] w (RetOf w (Ev.ofN at_ rows cols)) := by
  have HRC := Lib.hid hrc
  have hl1 := hrc.rl
  have hl2 := hrc.cl
  clear hrc
  go_enter Try.func54, Try.ntmps54
  go_upto_region 1 with (refine wpList_alloc_cs rfl rfl ?_; intro W1 hb1 hz1 hB1)
  have HB1 := Lib.hid hB1
  have H4 := h4.below hB1
  have H5 := h5.below hB1
  have hg0 : w.heap.size ≤ w.heap.size := Nat.le_refl _
  obtain ⟨g3, hg3⟩ : ∃ g, w.heap.size = g := ⟨_, rfl⟩
  have HG3 : Hid (w.heap.size ≤ g3) := by show _ ≤ _; omega
  rw [hg3] at hb1
  rw [hg3]
  clear hB1 h4 h5 hz1 hg0 hg3
  have d4 := H4.cell 0
  have d5 := H5.cell 0
  simp only [List.getElem?_cons_zero] at d4 d5
  by_cases hc : 0 ≤ at_ ∧ at_ < rows.length ∧ at_ < cols.length
  · obtain ⟨j, hj⟩ := Int.eq_ofNat_of_zero_le hc.1
    have hj1 : j < rows.length := by omega
    have hj2 : j < cols.length := by omega
    have hi1 : (j : Int) < (rows.length : Int) := by omega
    have hi2 : (j : Int) < (cols.length : Int) := by omega
    have hn1 : ¬ (rows.length : Int) ≤ (j : Int) := by omega
    have hn2 : ¬ (cols.length : Int) ≤ (j : Int) := by omega
    have HOF : Hid (Ev.ofN at_ rows cols = (Ev.rowsN rows[j], Ev.clnC rows[j] cols[j])) := by show _ = _; rw [hj]; exact Ev.ofN_at hj1 hj2
    rw [hj]
    obtain ⟨b1, o1, rfl, -, q0⟩ := i64_at (HRC.out.r.below HB1.out.drewR) hj1
    obtain ⟨b2, o2, rfl, -, -⟩ := HRC.out.c.r.at_ hj2
    have HCR : Hid (ERow eCs W1.drew (some ⟨b2, o2, none⟩) cols) := HRC.out.c.r.below HB1.out.drewR
    have d4' : W1.drew.cell? _ = _ := d4
    have d5' : W1.drew.cell? _ = _ := d5
    have hb1d := hb1.drew
    obtain ⟨x, hx⟩ : ∃ x, rows[j] = x := ⟨_, rfl⟩
    obtain ⟨y, hy⟩ : ∃ y, cols[j] = y := ⟨_, rfl⟩
    rw [hx] at q0
    have HOF : Hid (Ev.ofN at_ rows cols = (Ev.rowsN x, Ev.clnC x y)) := by show _ = _; rw [HOF.out, hx, hy]
    rw [← hj]
    rw [hj] at hc ⊢
    clear hc hx hb1
    go_upto_region 3 with fail
    refine wp_region_plan (.take 0 (.take 1 (.take 2 (.take 3 (.take 4 (.take 5 (.take 6 (.take 7 (.run 8 [] (.take 9 (.take 10 (.take 11 (.run 12 [] .fin))))))))))))) (by kernel_rfl) (by kernel_rfl) (by kernel_rfl) (by kernel_rfl) ?_
    repeat' (first | (refine hZ _ _ ?_; clear hZ) | (refine hZ _ ?_; clear hZ) | (refine hZ ?_; clear hZ) | rw [again_nil] | rw [walk_fin] | ((first | rw [walk_take] | rw [walk_run] | rw [again_cons]); intro Z hZ; simp only [sel, List.getElem?_toArray, List.getElem?_cons_zero, List.getElem?_cons_succ]; go_wp2_with (refine wpList_load_cs_is rfl (.tmp 27) rfl HCR.out hj2 y hy rfl ?_)))
    refine (stclean_any W1.drew x y).mono ?_
    rintro e W2 ⟨rfl, hB2⟩
    have hb2 := hb1d.below hB2
    have HB2 := Lib.hid (HB1.out.drewR.trans (hB2.mono HB1.out.size))
    clear hB2 hb1d q0 d4 d5 d4' d5'
    generalize Ev.rowsN x = X at HOF ⊢
    generalize Ev.clnC x y = Y at HOF ⊢
    go_wp2_with fail
    repeat' (first | (refine hZ _ _ ?_; clear hZ) | (refine hZ _ ?_; clear hZ) | (refine hZ ?_; clear hZ) | rw [again_nil] | rw [walk_fin] | ((first | rw [walk_take] | rw [walk_run] | rw [again_cons]); intro Z hZ; simp only [sel, List.getElem?_toArray, List.getElem?_cons_zero, List.getElem?_cons_succ]; go_wp2_with (refine wpList_store_cs rfl rfl (.tmp 5) (.tmp 31) rfl g3 rfl Y rfl hb2 ?_; intro W3 hb3 hg3)))
    go_wp2_with fail
    refine ret_mem2r rfl rfl rfl rfl hb3.cs ⟨?_, below_of_grown HB2.out hg3 HG3.out HB2.out.size⟩
    rw [← hj, HOF.out]
    rfl
  · have HF : Hid (Ev.ofN at_ rows cols = (0, Cs.nul)) := Ev.ofN_no hc
    by_cases h0 : at_ < 0
    · go_wp2_with (refine wpList_store_cs rfl rfl (.tmp 5) (.tmp 20) rfl g3 rfl Cs.nul rfl hb1 ?_; intro W3 hb3 hg3)
      exact ret_mem2r rfl rfl rfl rfl hb3.cs ⟨by rw [HF.out]; rfl, below_of_grown HB1.out hg3 HG3.out HB1.out.size⟩
    · by_cases hr : at_ < rows.length
      · have hr2 : ¬ (rows.length : Int) ≤ at_ := by omega
        have hr3 : (cols.length : Int) ≤ at_ := by omega
        go_wp2_with (refine wpList_store_cs rfl rfl (.tmp 5) (.tmp 20) rfl g3 rfl Cs.nul rfl hb1 ?_; intro W3 hb3 hg3)
        exact ret_mem2r rfl rfl rfl rfl hb3.cs ⟨by rw [HF.out]; rfl, below_of_grown HB1.out hg3 HG3.out HB1.out.size⟩
      · have hr2 : (rows.length : Int) ≤ at_ := by omega
        go_wp2_with (refine wpList_store_cs rfl rfl (.tmp 5) (.tmp 20) rfl g3 rfl Cs.nul rfl hb1 ?_; intro W3 hb3 hg3)
        exact ret_mem2r rfl rfl rfl rfl hb3.cs ⟨by rw [HF.out]; rfl, below_of_grown HB1.out hg3 HG3.out HB1.out.size⟩
set_option maxRecDepth 20000 in
set_option maxHeartbeats 4000000 in
theorem rof15_any (w : World) (A B : Option Addr) (ca cb : Nat) (rows : List Int) (cols : List Cs) (hrc : RC w A rows B cols) (at_ : Int) (hat : Ev.inB at_) :
    Calls Try.prog 55 #[.int .i64 at_, .slice A rows.length ca, .slice B cols.length cb] w (RetOf w (Ev.ofN at_ rows cols)) := by
  have HRC := Lib.hid hrc
  have hl1 := hrc.rl
  have hl2 := hrc.cl
  clear hrc
  go_enter Try.func55, Try.ntmps55
  go_upto_region 1 with (refine wpList_alloc_cs rfl rfl ?_; intro W1 hb1 hz1 hB1)
  have HB1 := Lib.hid hB1
  obtain ⟨g3, hg3⟩ : ∃ g, w.heap.size = g := ⟨_, rfl⟩
  have HG3 : Hid (w.heap.size ≤ g3) := by show _ ≤ _; omega
  rw [hg3] at hb1
  rw [hg3]
  clear hB1 hz1 hg3
  by_cases hc : 0 ≤ at_ ∧ at_ < rows.length ∧ at_ < cols.length
  · obtain ⟨j, hj⟩ := Int.eq_ofNat_of_zero_le hc.1
    have hj1 : j < rows.length := by omega
    have hj2 : j < cols.length := by omega
    have hi1 : (j : Int) < (rows.length : Int) := by omega
    have hi2 : (j : Int) < (cols.length : Int) := by omega
    have hn1 : ¬ (rows.length : Int) ≤ (j : Int) := by omega
    have hn2 : ¬ (cols.length : Int) ≤ (j : Int) := by omega
    have HOF : Hid (Ev.ofN at_ rows cols = (Ev.rowsN rows[j], Ev.clnC rows[j] cols[j])) := by show _ = _; rw [hj]; exact Ev.ofN_at hj1 hj2
    obtain ⟨b1, o1, rfl, -, q0⟩ := i64_at (HRC.out.r.below HB1.out) hj1
    obtain ⟨b2, o2, rfl, -, -⟩ := HRC.out.c.r.at_ hj2
    have HCR : Hid (ERow eCs W1 (some ⟨b2, o2, none⟩) cols) := HRC.out.c.r.below HB1.out
    obtain ⟨x, hx⟩ : ∃ x, rows[j] = x := ⟨_, rfl⟩
    obtain ⟨y, hy⟩ : ∃ y, cols[j] = y := ⟨_, rfl⟩
    rw [hx] at q0
    have HOF : Hid (Ev.ofN at_ rows cols = (Ev.rowsN x, Ev.clnC x y)) := by show _ = _; rw [HOF.out, hx, hy]
    rw [hj]
    clear hc hx hat hj
    go_upto_region 3 with fail
    go_wp2_with fail
    refine (rnear_any W1 x 1099511627776).mono ?_
    rintro e W2 ⟨rfl, rfl⟩
    have hRR : Ev.near x 1099511627776 = Ev.rowsN x := rfl
    rw [hRR]
    clear hRR q0
    obtain ⟨X, hX⟩ : ∃ X, Ev.rowsN x = X := ⟨_, rfl⟩
    rw [hX]
    have HX := Lib.hid hX
    clear hX
    go_upto_region 5 with (first | (refine wpList_load_cs_is rfl (.tmp 32) rfl HCR.out hj2 y hy rfl ?_) | (refine wpList_alloc_cs rfl rfl ?_; intro W3 h9 hz3 hB3) | (refine wpList_store_cs rfl rfl (.tmp 9) (.tmp 33) rfl _ rfl y rfl h9 ?_; intro W4 h94 hg4))
    have hb94 := (hb1.below hB3).grown hg4 (by have := hb1.lt; simp; omega)
    have HB4 : Hid (Below w.heap.size w W4) := below_of_grown (HB1.out.then hB3) hg4 HB1.out.size (Nat.le_trans HB1.out.size hB3.size)
    obtain ⟨g9, hg9⟩ : ∃ g, W2.heap.size = g := ⟨_, rfl⟩
    rw [hg9] at h94
    rw [hg9]
    have h94d := h94.drew
    have hb94d := hb94.drew
    have HB4D : Hid (Below w.heap.size w W4.drew) := HB4.out.drewR
    clear h9 hz3 hB3 hg4 hg9 h94 hb94 hb1
    obtain ⟨e0, e1, e2, -⟩ := Blk.c3 h94d
    refine wp_region_plan (.take 0 (.take 1 (.take 2 (.take 3 (.take 5 (.take 6 (.take 7 (.take 9 (.take 10 (.run 4 [0, 5, 6, 7, 9, 10] (.run 8 [0, 9, 10] (.take 11 (.take 12 (.run 13 [] .fin)))))))))))))) (by kernel_rfl) (by kernel_rfl) (by kernel_rfl) (by kernel_rfl) ?_
    repeat' (first | (refine hZ _ _ ?_; clear hZ) | (refine hZ _ ?_; clear hZ) | (refine hZ ?_; clear hZ) | rw [again_nil] | rw [walk_fin] | ((first | rw [walk_take] | rw [walk_run] | rw [again_cons]); intro Z hZ; simp only [sel, List.getElem?_toArray, List.getElem?_cons_zero, List.getElem?_cons_succ]; go_wp2_with (fail)))
    refine (rnear_any _ _ _).mono ?_
    rintro e W7 ⟨rfl, rfl⟩
    go_wp2_with fail
    repeat' (first | (refine hZ _ _ ?_; clear hZ) | (refine hZ _ ?_; clear hZ) | (refine hZ ?_; clear hZ) | rw [again_nil] | rw [walk_fin] | ((first | rw [walk_take] | rw [walk_run] | rw [again_cons]); intro Z hZ; simp only [sel, List.getElem?_toArray, List.getElem?_cons_zero, List.getElem?_cons_succ]; go_wp2_with (fail)))
    refine (rnear_any _ _ _).mono ?_
    rintro e W7 ⟨rfl, rfl⟩
    go_wp2_with fail
    repeat' (first | (refine hZ _ _ ?_; clear hZ) | (refine hZ _ ?_; clear hZ) | (refine hZ ?_; clear hZ) | rw [again_nil] | rw [walk_fin] | ((first | rw [walk_take] | rw [walk_run] | rw [again_cons]); intro Z hZ; simp only [sel, List.getElem?_toArray, List.getElem?_cons_zero, List.getElem?_cons_succ]; go_wp2_with (refine wpList_store_cs rfl rfl (.tmp 7) (.tmp 45) rfl g3 rfl ⟨Ev.near y.d X, Ev.near y.n X, y.a, y.b, y.c⟩ rfl hb94d ?_; intro W8 hb8 hg8)))
    go_wp2_with fail
    refine ret_mem2r rfl rfl rfl rfl hb8.cs ⟨?_, below_of_grown HB4D.out hg8 HG3.out HB4D.out.size⟩
    rw [HOF.out, ← HX.out]
    rfl
  · have HF : Hid (Ev.ofN at_ rows cols = (0, Cs.nul)) := Ev.ofN_no hc
    by_cases h0 : at_ < 0
    · go_wp2_with (refine wpList_store_cs rfl rfl (.tmp 7) (.tmp 24) rfl g3 rfl Cs.nul rfl hb1 ?_; intro W3 hb3 hg3)
      exact ret_mem2r rfl rfl rfl rfl hb3.cs ⟨by rw [HF.out]; rfl, below_of_grown HB1.out hg3 HG3.out HB1.out.size⟩
    · by_cases hr : at_ < rows.length
      · have hr2 : ¬ (rows.length : Int) ≤ at_ := by omega
        have hr3 : (cols.length : Int) ≤ at_ := by omega
        go_wp2_with (refine wpList_store_cs rfl rfl (.tmp 7) (.tmp 24) rfl g3 rfl Cs.nul rfl hb1 ?_; intro W3 hb3 hg3)
        exact ret_mem2r rfl rfl rfl rfl hb3.cs ⟨by rw [HF.out]; rfl, below_of_grown HB1.out hg3 HG3.out HB1.out.size⟩
      · have hr2 : (rows.length : Int) ≤ at_ := by omega
        go_wp2_with (refine wpList_store_cs rfl rfl (.tmp 7) (.tmp 24) rfl g3 rfl Cs.nul rfl hb1 ?_; intro W3 hb3 hg3)
        exact ret_mem2r rfl rfl rfl rfl hb3.cs ⟨by rw [HF.out]; rfl, below_of_grown HB1.out hg3 HG3.out HB1.out.size⟩
end Go.Proofs.Ytjdffhonljhpcaa
end

section
/-
  The contract of stats.Guess.
-/
namespace Go.Proofs.Ytjdffhonljhpcaa
set_option linter.unusedSimpArgs false
set_option linter.unusedVariables false
open Go.RowKit

namespace Ev
def nullN (no : Bool) (x : Int × Cs) : Int := if x.1 = 0 then 0 else if no then 1000 * (x.1 - x.2.n) / x.1 else 1000 * x.2.n / x.1
/-- A part of a node. -/
def prt (n : Nd) (i : Nat) : Nd := n.args.getD i Nd.nil
def guess0 (n : Nd) (rows : List Int) (cols : List Cs) : Int :=
  if n.k = 9 ∧ n.args.length = 1 ∧ (prt n 0).k = 2 then nullN n.no (ofN (prt n 0).at_ rows cols) else
  if n.k = 7 ∧ n.op = [61] ∧ n.args.length = 2 ∧ (prt n 0).k = 2 ∧ (prt n 1).k = 2 then 1000 / max (max 1 (ofN (prt n 0).at_ rows cols).2.d) (ofN (prt n 1).at_ rows cols).2.d else 333
/-- How many of a thousand rows are guessed. -/
def guessN (n : Nd) (rows : List Int) (cols : List Cs) : Int :=
  match against n with
  | some y => shareN (ofN y.1 rows cols).1 (ofN y.1 rows cols).2 y.2.1 (eval [] y.2.2)
  | none => guess0 n rows cols
theorem shareN_of {s x : Va} (h : Dv s x) (r : Int) (c : Cs) (op : List UInt8) : shareN r c op x = shareN r c op s := by
  unfold shareN
  rw [h.eq, ← h.eq, clean_clean]
end Ev
theorem against_in {n : Nd} {w : World} (h : NodeIn w n) {y : Int × List UInt8 × Nd} (hy : Ev.against n = some y) : Ev.inB y.1 ∧ NodeIn w y.2.2 := by
  obtain ⟨hk, hl⟩ : n.k = 7 ∧ n.args.length = 2 := by
    by_cases hk : n.k = 7
    · by_cases hl : n.args.length = 2
      · exact ⟨hk, hl⟩
      · rw [Ev.against_no (.inr hl)] at hy; cases hy
    · rw [Ev.against_no (.inl hk)] at hy; cases hy
  obtain ⟨a, b, hab⟩ : ∃ a b, n.args = [a, b] := by
    match n.args, hl with
    | [a, b], _ => exact ⟨a, b, rfl⟩
  have hin : NodeIn w a ∧ NodeIn w b := by
    cases h with
    | mk h1 h2 => exact ⟨h2 a (by rw [hab]; simp), h2 b (by rw [hab]; simp)⟩
  have hat : ∀ m : Nd, NodeIn w m → Ev.inB m.at_ := fun m hm => by cases hm with | mk h1 h2 h3 h4 h5 h6 => exact h6
  rw [Ev.against_two hk hab] at hy
  split at hy
  · cases hy; exact ⟨hat _ hin.1, hin.2⟩
  · split at hy
    · cases hy; exact ⟨hat _ hin.2, hin.1⟩
    · cases hy
theorem nd_below15 {w W : World} {n : Nd} (h : NodeIn w n) (hB : Below w.heap.size w W) : NodeIn W n := by
  induction h with
  | @mk n hr hin hlit hls hk hat hc hm ih => exact .mk (hr.below hB) ih hlit hls hk hat hc hm
theorem ofN_row {w : World} {A B : Option Addr} {rows : List Int} {cols : List Cs} (h : RC w A rows B cols) (at_ : Int) : ERow eI64 w (Ev.ofN at_ rows cols).2.a (Ev.ofN at_ rows cols).2.b ∧ (Ev.ofN at_ rows cols).2.b.length ≤ 1000 := by
  unfold Ev.ofN
  split
  · next hc =>
    obtain ⟨j, hj⟩ := Int.eq_ofNat_of_zero_le hc.1
    have hj2 : j < cols.length := by omega
    have e : cols.getD at_.toNat Cs.nul = cols[j] := by rw [hj]; simp [List.getD, hj2]
    have hm : cols[j] ∈ cols := List.getElem_mem hj2
    rw [e]
    exact ⟨h.c.rr cols[j] hm, h.c.lens cols[j] hm⟩
  · exact ⟨ERow.nil, by show ([] : List Int).length ≤ 1000; simp⟩
theorem ofN_le (at_ : Int) (rows : List Int) (cols : List Cs) : 0 ≤ (Ev.ofN at_ rows cols).1 ∧ (Ev.ofN at_ rows cols).1 ≤ 1099511627776 ∧ 0 ≤ (Ev.ofN at_ rows cols).2.n ∧ (Ev.ofN at_ rows cols).2.n ≤ (Ev.ofN at_ rows cols).1 ∧ 0 ≤ (Ev.ofN at_ rows cols).2.d ∧ (Ev.ofN at_ rows cols).2.d ≤ (Ev.ofN at_ rows cols).1 := by
  unfold Ev.ofN
  split
  · have h1 := Ev.rowsN_le (rows.getD at_.toNat 0)
    have h2 := Ev.near_le (n := (cols.getD at_.toNat Cs.nul).n) h1.1
    have h3 := Ev.near_le (n := (cols.getD at_.toNat Cs.nul).d) h1.1
    exact ⟨h1.1, h1.2, h2.1, h2.2, h3.1, h3.2⟩
  · exact ⟨by decide, by decide, by decide, by decide, by decide, by decide⟩
theorem nd_at06 {w : World} {A : Option Addr} {L : List Nd} (h : ERow eNd w A L) {j : Nat} (hj : j < L.length) : ∃ b o, A = some ⟨b, o, none⟩ ∧ w.cell? ⟨b, o + j * 10, none⟩ = some (.int .i64 L[j].k) ∧ w.cell? ⟨b, o + j * 10 + 6, none⟩ = some (.int .i64 L[j].at_) := by
  obtain ⟨b, o, e, hb, hc⟩ := h.at_ hj
  exact ⟨b, o, e, hc 0 _ rfl, hc 6 _ rfl⟩
/-- What Guess answers. -/
def RetN (w : World) (k : Int) (e : Ending) (w' : World) : Prop := e = .returned (.int .i64 k) ∧ Below w.heap.size w w'
set_option maxRecDepth 100000 in
set_option maxHeartbeats 8000000 in
theorem guess_any (w : World) (A B : Option Addr) (ca cb : Nat) (rows : List Int) (cols : List Cs) (hrc : RC w A rows B cols) (n : Nd) (hn : NodeIn w n) :
    Calls Try.prog 26 #[n.v, .slice A rows.length ca, .slice B cols.length cb] w (RetN w (Ev.guessN n rows cols)) := by
  have HRC := Lib.hid hrc
  have HN := Lib.hid hn
  clear hrc hn
  have hmf : ∀ (fn : Fn) (first cap : Array Value) (w : World), (Instr.makeFunc fn first cap).run Try.prog w = .ok (.func fn first cap) w := fun _ _ _ _ => rfl
  obtain ⟨D, hD⟩ : ∃ D, Ev.guessN n rows cols = D := ⟨_, rfl⟩
  rw [hD]
  have HD := Lib.hid hD
  clear hD
  go_enter Try.func26, Try.ntmps26
  go_upto_region 1 with (refine wpList_box_nd rfl (.tmp 0) rfl n rfl ?_; intro W1 hb1 hz1 hB1)
  generalize hW2 : ((World.alloc W1 (.cells _ _)).alloc (.cells _ _)) = W2
  obtain ⟨ba2, bb2, hz2, hB2⟩ := fresh2 hW2
  clear hW2
  have h3 := hb1.below hB2
  have HB2 := Lib.hid (hB1.then hB2)
  have hs3 : w.heap.size < W1.heap.size := by omega
  clear hb1 hB1 hB2 hz1
  obtain ⟨g4, hg4⟩ : ∃ g, W1.heap.size = g := ⟨_, rfl⟩
  obtain ⟨g3, hg3⟩ : ∃ g, w.heap.size = g := ⟨_, rfl⟩
  rw [hg4] at ba2 bb2 hs3 hz2
  rw [hg3] at h3 hs3
  rw [hg4, hg3]
  have HG3 : Hid (w.heap.size ≤ g3) := by show _ ≤ _; omega
  clear hg4 hg3
  have H4 := Lib.hid ba2
  have H5 := Lib.hid bb2
  have H3 := Lib.hid h3
  clear ba2 bb2
  go_wp2_with (refine wpList_load_nd rfl (.tmp 3) rfl g3 rfl h3 ?_)
  refine (against_any W2 n (nd_below15 HN.out HB2.out)).mono ?_
  rintro e W3 ⟨rfl, hB⟩
  have HK3 := Lib.hid hB
  have HGO := Lib.hid (fun W (hW : Below W2.heap.size W2 W) at_ hat => gof_any W g4 (g4 + 1) A B ca cb rows cols (H4.out.below hW) (H5.out.below hW) ((HRC.out.below HB2.out).below hW) at_ hat)
  clear hB h3
  cases hag : Ev.against n with
  | some y =>
    obtain ⟨at_, op, m⟩ := y
    have HY := Lib.hid (against_in HN.out hag)
    have HF : Hid (D = Ev.shareN (Ev.ofN at_ rows cols).1 (Ev.ofN at_ rows cols).2 op (Ev.eval [] m)) := by show _ = _; rw [← HD.out]; unfold Ev.guessN; rw [hag]
    clear hag
    have HVO := Lib.hid (Ev.eval_ok (row := []) (by simp) HY.out.2)
    rw [show Ev.agAt (some (at_, op, m)) = at_ from rfl, show Ev.agOp (some (at_, op, m)) = op from rfl, show Ev.agV (some (at_, op, m)) = Ev.eval [] m from rfl, show (some (at_, op, m)).isSome = true from rfl]
    have HVO : Hid ((Ev.eval [] m).ok) := HVO.out
    generalize Ev.eval [] m = v at HF HVO ⊢
    go_upto_region 4 with (first | (refine wpList_alloc_va rfl rfl ?_; intro W4 h10 hz4 hB4) | (refine wpList_store_va rfl rfl (.tmp 10) (.tmp 26) rfl W3.heap.size rfl v rfl h10 ?_; intro W5 h105 hg5))
    have HK5 : Hid (Below W2.heap.size W2 W5) := below_of_grown (HK3.out.then hB4) hg5 HK3.out.size (Nat.le_trans HK3.out.size hB4.size)
    clear h10 hz4 hB4 hg5
    obtain ⟨ga, hga⟩ : ∃ g, W3.heap.size = g := ⟨_, rfl⟩
    rw [hga] at h105
    rw [hga]
    clear hga
    go_wp2_with fail
    refine (HGO.out W5 HK5.out at_ HY.out.1).mono ?_
    rintro e W6 ⟨rfl, hB⟩
    have h106 := h105.below hB
    have HK6 := Lib.hid (HK5.out.then hB)
    have HOR := Lib.hid (ofN_row ((HRC.out.below HB2.out).below HK6.out) at_)
    obtain ⟨x, hx⟩ : ∃ x, Ev.ofN at_ rows cols = x := ⟨_, rfl⟩
    rw [hx]
    have HF : Hid (D = Ev.shareN x.1 x.2 op v) := by show _ = _; rw [← hx]; exact HF.out
    have HOR : Hid (ERow eI64 W6 x.2.a x.2.b ∧ x.2.b.length ≤ 1000) := by rw [← hx]; exact HOR.out
    clear hx hB h105
    obtain ⟨r, c⟩ := x
    go_upto_region 5 with (first | (refine wpList_alloc_cs rfl rfl ?_; intro W7 h13 hz7 hB7) | (refine wpList_store_cs rfl rfl (.tmp 13) (.tmp 34) rfl W6.heap.size rfl c rfl h13 ?_; intro W8 h138 hg8))
    have h108 := (h106.below hB7).grown hg8 (by have := h106.lt; simp; omega)
    have HK8 : Hid (Below W2.heap.size W2 W8) := below_of_grown (HK6.out.then hB7) hg8 HK6.out.size (Nat.le_trans HK6.out.size hB7.size)
    have HR8 : Hid (ERow eI64 W8 c.a c.b ∧ c.b.length ≤ 1000) := ⟨HOR.out.1.below (below_of_grown hB7 hg8 (Nat.le_refl _) hB7.size), HOR.out.2⟩
    clear h13 hz7 hB7 hg8 h106
    obtain ⟨gb, hgb⟩ : ∃ g, W6.heap.size = g := ⟨_, rfl⟩
    rw [hgb] at h138
    rw [hgb]
    clear hgb
    go_wp2_with (first | (refine wpList_load_cs rfl (.tmp 13) rfl gb rfl h138 ?_) | (refine wpList_load_va rfl (.tmp 10) rfl ga rfl h108 ?_))
    refine (share_any W8 r c op v HVO.out HR8.out.1 HR8.out.2).mono ?_
    rintro e W9 ⟨rfl, hB⟩
    have HB9 := Lib.hid (HB2.out.then (HK8.out.then hB))
    clear hB
    go_wp2_with fail
    go_ret
    exact ⟨by rw [HF.out]; rfl, HB9.out⟩
  | none =>
    have HF : Hid (D = Ev.guess0 n rows cols) := by show _ = _; rw [← HD.out]; unfold Ev.guessN; rw [hag]
    clear hag
    rw [show Ev.agAt none = 0 from rfl, show Ev.agOp none = [] from rfl, show Ev.agV none = Key.nul from rfl, show (none : Option (Int × List UInt8 × Nd)).isSome = false from rfl]
    go_upto_region 6 with (first | (refine wpList_alloc_va rfl rfl ?_; intro W4 h10 hz4 hB4) | (refine wpList_store_va rfl rfl (.tmp 10) (.tmp 26) rfl W3.heap.size rfl Key.nul rfl h10 ?_; intro W5 h105 hg5))
    have HK5 : Hid (Below W2.heap.size W2 W5) := below_of_grown (HK3.out.then hB4) hg5 HK3.out.size (Nat.le_trans HK3.out.size hB4.size)
    clear h10 hz4 hB4 hg5 h105
    have hgs := guard_str_is
    have h3 := H3.out.below HK5.out
    have HN5 := Lib.hid (nd_below15 HN.out (HB2.out.then HK5.out))
    have HNC : Hid (n.args.length ≤ 9223372036854775807) := by show _ ≤ _; have h := HN.out; cases h with | mk h1 h2 h3 h4 h5 h6 h7 h8 => unfold maxLen at h8; omega
    have HBW : Hid (Below w.heap.size w W5) := HB2.out.then HK5.out
    have hncm := HNC.out
    obtain ⟨c0, c1, -, -, -, -, -, c7, -, c9, -⟩ := Blk.c10 h3
    by_cases hk9 : n.k = 9
    · by_cases hl : n.args.length = 1
      · obtain ⟨a, hab⟩ : ∃ a, n.args = [a] := by
          match n.args, hl with
          | [a], _ => exact ⟨a, rfl⟩
        have HP : Hid (Ev.prt n 0 = a) := by show _ = _; unfold Ev.prt; rw [hab]; rfl
        have HA : Hid (Ev.inB a.at_) := by
          have h := HN.out
          cases h with
          | mk h1 h2 => have hm := h2 a (by rw [hab]; simp); cases hm with | mk h1 h2 h3 h4 h5 h6 => exact h6
        have HRW : Hid (ERow eNd W5 n.a [a]) := by
          have h := HN5.out
          cases h with
          | mk h1 h2 => rw [← hab]; exact h1
        obtain ⟨ba, oa, hA, a0, a6⟩ := nd_at06 HRW.out (j := 0) (by simp)
        simp only [List.getElem_cons_zero, Nat.zero_mul, Nat.add_zero] at a0 a6
        rw [hl, hA] at c9
        rw [hk9] at c0
        by_cases ha : a.k = 2
        · have HF2 : Hid (D = Ev.nullN n.no (Ev.ofN a.at_ rows cols)) := by show _ = _; rw [HF.out]; unfold Ev.guess0; rw [HP.out, if_pos ⟨hk9, hl, ha⟩]
          rw [ha] at a0
          clear hk9 hl hab hA ha hncm
          go_wp2_with fail
          refine (HGO.out W5 HK5.out a.at_ HA.out).mono ?_
          rintro e W6 ⟨rfl, hB⟩
          have h36 := h3.below hB
          have HK6 := Lib.hid (HK5.out.then hB)
          have hle := ofN_le a.at_ rows cols
          generalize Ev.ofN a.at_ rows cols = x at HF2 hle ⊢
          obtain ⟨r, c⟩ := x
          simp only at hle
          clear hB a0 a6 c0 c1 c7 c9
          go_upto_region 8 with (first | (refine wpList_alloc_cs rfl rfl ?_; intro W7 h13 hz7 hB7) | (refine wpList_store_cs rfl rfl (.tmp 15) (.tmp 66) rfl W6.heap.size rfl c rfl h13 ?_; intro W8 h138 hg8))
          have h38 := (h36.below hB7).grown hg8 (by have := h36.lt; simp; omega)
          have HK8 : Hid (Below w.heap.size w W8) := HB2.out.then (below_of_grown (HK6.out.then hB7) hg8 HK6.out.size (Nat.le_trans HK6.out.size hB7.size))
          clear h13 hz7 hB7 hg8 h36
          obtain ⟨-, -, -, -, -, -, -, c7, -, -, -⟩ := Blk.c10 h38
          obtain ⟨-, d1, -, -⟩ := Blk.c3 h138
          obtain ⟨no, hno⟩ : ∃ b, n.no = b := ⟨_, rfl⟩
          rw [hno] at c7 HF2
          clear hno
          by_cases hr : r = 0
          · have HF3 : Hid (D = 0) := by show _ = _; rw [HF2.out]; unfold Ev.nullN; rw [if_pos hr]
            have hrb : (r == 0) = true := by simp [hr]
            clear hr
            go_wp2_with fail
            go_ret
            exact ⟨by rw [HF3.out]; rfl, HK8.out⟩
          · have hrb : (r == 0) = false := by simpa using hr
            have hrp : 0 < r := by omega
            have hrn : ¬ r = 0 := hr
            cases no with
            | true =>
              have HF3 : Hid (D = 1000 * (r - c.n) / r) := by show _ = _; rw [HF2.out]; unfold Ev.nullN; rw [if_neg hr]; rfl
              clear hr
              go_wp2_with fail
              go_ret
              exact ⟨by rw [HF3.out]; rfl, HK8.out⟩
            | false =>
              have HF3 : Hid (D = 1000 * c.n / r) := by show _ = _; rw [HF2.out]; unfold Ev.nullN; rw [if_neg hr]; rfl
              clear hr
              go_wp2_with fail
              go_ret
              exact ⟨by rw [HF3.out]; rfl, HK8.out⟩
        · have HF2 : Hid (D = 333) := by show _ = _; rw [HF.out]; unfold Ev.guess0; rw [HP.out, if_neg (fun h => ha h.2.2), if_neg (fun h => by omega)]
          have hab2 : (a.k == 2) = false := by simpa using ha
          clear hk9 hl hab hA ha hncm
          go_wp2_with fail
          go_ret
          exact ⟨by rw [HF2.out]; rfl, HBW.out⟩
      · have HF2 : Hid (D = 333) := by show _ = _; rw [HF.out]; unfold Ev.guess0; rw [if_neg (fun h => hl h.2.1), if_neg (fun h => by omega)]
        have hlb : ((n.args.length : Int) == 1) = false := by simp; omega
        rw [hk9] at c0
        clear hk9 hl
        go_wp2_with fail
        go_ret
        exact ⟨by rw [HF2.out]; rfl, HBW.out⟩
    · by_cases hk7 : n.k = 7
      · have h9b : (n.k == 9) = false := by simpa using hk9
        by_cases hop : n.op = [61]
        · by_cases hl : n.args.length = 2
          · obtain ⟨a, b, hab⟩ : ∃ a b, n.args = [a, b] := by
              match n.args, hl with
              | [a, b], _ => exact ⟨a, b, rfl⟩
            have HP : Hid (Ev.prt n 0 = a ∧ Ev.prt n 1 = b) := by unfold Ev.prt; rw [hab]; exact ⟨rfl, rfl⟩
            have HA : Hid (Ev.inB a.at_ ∧ Ev.inB b.at_) := by
              have h := HN.out
              cases h with
              | mk h1 h2 =>
                have hm := h2 a (by rw [hab]; simp)
                have hm2 := h2 b (by rw [hab]; simp)
                cases hm with | mk h1 h2 h3 h4 h5 h6 => cases hm2 with | mk k1 k2 k3 k4 k5 k6 => exact ⟨h6, k6⟩
            have HRW : Hid (ERow eNd W5 n.a [a, b]) := by
              have h := HN5.out
              cases h with
              | mk h1 h2 => rw [← hab]; exact h1
            obtain ⟨ba, oa, hA, a0, a6⟩ := nd_at06 HRW.out (j := 0) (by simp)
            obtain ⟨ba', oa', hA', b0, b6⟩ := nd_at06 HRW.out (j := 1) (by simp)
            rw [hA] at hA'
            cases hA'
            simp only [List.getElem_cons_zero, List.getElem_cons_succ, Nat.zero_mul, Nat.one_mul, Nat.add_zero] at a0 a6 b0 b6
            rw [hl, hA] at c9
            have HC9 : Hid (∀ W, Below W2.heap.size W2 W → W.cell? ⟨g3, 9, none⟩ = some (.slice (some ⟨ba, oa, none⟩) 2 n.c)) := fun W hW => by
              obtain ⟨-, -, -, -, -, -, -, -, -, c9', -⟩ := Blk.c10 (H3.out.below hW)
              rw [hl, hA] at c9'
              exact c9'
            rw [hop] at c1
            rw [hk7] at c0
            unfold txt at c1
            by_cases ha : a.k = 2
            · by_cases hb : b.k = 2
              · have HF2 : Hid (D = 1000 / max (max 1 (Ev.ofN a.at_ rows cols).2.d) (Ev.ofN b.at_ rows cols).2.d) := by show _ = _; rw [HF.out]; unfold Ev.guess0; rw [HP.out.1, HP.out.2, if_neg (fun h => hk9 h.1), if_pos ⟨hk7, hop, hl, ha, hb⟩]
                rw [ha] at a0
                rw [hb] at b0
                clear hk9 hk7 hop hl hab hA ha hb hncm h9b
                go_wp2_with fail
                refine (HGO.out W5 HK5.out a.at_ HA.out.1).mono ?_
                rintro e W6 ⟨rfl, hB⟩
                have h36 := h3.below hB
                have b6 := cell_later hB b6
                have HK6 := Lib.hid (HK5.out.then hB)
                have hle := ofN_le a.at_ rows cols
                generalize Ev.ofN a.at_ rows cols = x at HF2 hle ⊢
                obtain ⟨r, c⟩ := x
                simp only at hle
                clear hB a0 a6 c0 c1 c7 c9 b0
                go_upto_region 15 with (first | (refine wpList_alloc_cs rfl rfl ?_; intro W7 h13 hz7 hB7) | (refine wpList_store_cs rfl rfl (.tmp 17) (.tmp 122) rfl W6.heap.size rfl c rfl h13 ?_; intro W8 h138 hg8))
                have h38 := (h36.below hB7).grown hg8 (by have := h36.lt; simp; omega)
                have hbl : ba < W6.heap.size := World.block_lt_of_cell? W6 _ b6
                have hs7 := hB7.size
                have b6 := cell_kept hg8 (by omega) (by omega) (cell_later hB7 b6)
                have HK8 : Hid (Below W2.heap.size W2 W8) := below_of_grown (HK6.out.then hB7) hg8 HK6.out.size (Nat.le_trans HK6.out.size hB7.size)
                clear h13 hz7 hB7 hg8 h36 hbl hs7
                obtain ⟨g17, hg17⟩ : ∃ g, W6.heap.size = g := ⟨_, rfl⟩
                rw [hg17] at h138
                rw [hg17]
                clear hg17
                have c9 := HC9.out W8 HK8.out
                go_wp2_with fail
                refine (HGO.out W8 HK8.out b.at_ HA.out.2).mono ?_
                rintro e W9 ⟨rfl, hB⟩
                have h17 := h138.below hB
                have HK9 := Lib.hid (HK8.out.then hB)
                have hle2 := ofN_le b.at_ rows cols
                generalize Ev.ofN b.at_ rows cols = x2 at HF2 hle2 ⊢
                obtain ⟨r2, c2⟩ := x2
                simp only at hle2
                clear hB b6 c9 h138
                go_upto_region 16 with (first | (refine wpList_alloc_cs rfl rfl ?_; intro Wa h19 hza hBa) | (refine wpList_store_cs rfl rfl (.tmp 19) (.tmp 132) rfl W9.heap.size rfl c2 rfl h19 ?_; intro Wb h19b hgb))
                have h17b := (h17.below hBa).grown hgb (by have := h17.lt; simp; omega)
                have HKb : Hid (Below w.heap.size w Wb) := HB2.out.then (below_of_grown (HK9.out.then hBa) hgb HK9.out.size (Nat.le_trans HK9.out.size hBa.size))
                clear h19 hza hBa hgb h17
                obtain ⟨d0, -, -, -⟩ := Blk.c3 h17b
                obtain ⟨d1, -, -, -⟩ := Blk.c3 h19b
                have hmp : 0 < max (max 1 c.d) c2.d := by omega
                have hmp2 : max (max 1 c.d) c2.d ≤ 1099511627776 := by omega
                go_wp2_with fail
                all_goals
                  go_ret
                  first
                    | exact ⟨by rw [HF2.out, show max (max 1 c.d) c2.d = c2.d by omega]; rfl, HKb.out⟩
                    | exact ⟨by rw [HF2.out, show max (max 1 c.d) c2.d = c.d by omega]; rfl, HKb.out⟩
                    | exact ⟨by rw [HF2.out, show max (max 1 c.d) c2.d = 1 by omega]; rfl, HKb.out⟩
              · have HF2 : Hid (D = 333) := by show _ = _; rw [HF.out]; unfold Ev.guess0; rw [HP.out.1, HP.out.2, if_neg (fun h => hk9 h.1), if_neg (fun h => hb h.2.2.2.2)]
                have hbb : (b.k == 2) = false := by simpa using hb
                rw [ha] at a0
                clear hk9 hk7 hop hl hab hA ha hb hncm
                go_wp2_with fail
                go_ret
                exact ⟨by rw [HF2.out]; rfl, HBW.out⟩
            · have HF2 : Hid (D = 333) := by show _ = _; rw [HF.out]; unfold Ev.guess0; rw [HP.out.1, if_neg (fun h => hk9 h.1), if_neg (fun h => ha h.2.2.2.1)]
              have hbb : (a.k == 2) = false := by simpa using ha
              clear hk9 hk7 hop hl hab hA ha hncm
              go_wp2_with fail
              go_ret
              exact ⟨by rw [HF2.out]; rfl, HBW.out⟩
          · have HF2 : Hid (D = 333) := by show _ = _; rw [HF.out]; unfold Ev.guess0; rw [if_neg (fun h => hk9 h.1), if_neg (fun h => hl h.2.2.1)]
            have hlb : ((n.args.length : Int) == 2) = false := by simp; omega
            rw [hk7] at c0
            rw [hop] at c1
            unfold txt at c1
            clear hk9 hk7 hop hl h9b
            go_wp2_with fail
            go_ret
            exact ⟨by rw [HF2.out]; rfl, HBW.out⟩
        · have HF2 : Hid (D = 333) := by show _ = _; rw [HF.out]; unfold Ev.guess0; rw [if_neg (fun h => hk9 h.1), if_neg (fun h => hop h.2.1)]
          have n1 := run_str_is n.op [61] hop
          rw [hk7] at c0
          clear hk9 hk7 hop h9b
          go_wp2_with fail
          go_ret
          exact ⟨by rw [HF2.out]; rfl, HBW.out⟩
      · have HF2 : Hid (D = 333) := by show _ = _; rw [HF.out]; unfold Ev.guess0; rw [if_neg (fun h => hk9 h.1), if_neg (fun h => hk7 h.1)]
        have h9b : (n.k == 9) = false := by simpa using hk9
        have h7b : (n.k == 7) = false := by simpa using hk7
        clear hk9 hk7
        go_wp2_with fail
        go_ret
        exact ⟨by rw [HF2.out]; rfl, HBW.out⟩
end Go.Proofs.Ytjdffhonljhpcaa
end

section
/-
  The contract of the document's Against.
-/
namespace Go.Proofs.Ytjdffhonljhpcaa
set_option linter.unusedSimpArgs false
set_option linter.unusedVariables false
open Go.RowKit

/-- What the document's Against answers. -/
def RetAgD (w : World) (y : Option (Int × List UInt8 × Nd)) (e : Ending) (w' : World) : Prop := ∃ x : Va, e = .returned (.tuple #[.int .i64 (Ev.agAt y), txt (Ev.agOp y), x.v, .bool y.isSome]) ∧ Ev.Dv (Ev.agV y) x ∧ Below w.heap.size w w'
set_option maxRecDepth 100000 in
set_option maxHeartbeats 8000000 in
theorem ragainst_any (w : World) (n : Nd) (hn : NodeIn w n) : Calls Try.prog 22 #[n.v] w (RetAgD w (Ev.against n)) := by
  have HN := Lib.hid hn
  clear hn
  obtain ⟨D, hD⟩ : ∃ D, Ev.against n = D := ⟨_, rfl⟩
  rw [hD]
  have HD := Lib.hid hD
  clear hD
  have hcm : n.args.length ≤ 9223372036854775807 := by have h := HN.out; cases h with | mk h1 h2 h3 h4 h5 h6 h7 h8 => unfold maxLen at h8; omega
  go_enter Try.func22, Try.ntmps22
  go_upto_region 1 with (first | (refine wpList_box_nd rfl (.tmp 0) rfl n rfl ?_; intro W1 hb1 hz1 hB1) | (refine wpList_alloc_va rfl rfl ?_; intro W2 hb2 hz2 hB2))
  have h1 := hb1.below hB2
  have HB2 := Lib.hid (hB1.then hB2)
  have h14 : w.heap.size < W1.heap.size := by omega
  clear hb1 hB1 hB2 hz1
  obtain ⟨g4, hg4⟩ : ∃ g, W1.heap.size = g := ⟨_, rfl⟩
  obtain ⟨g1, hg1⟩ : ∃ g, w.heap.size = g := ⟨_, rfl⟩
  rw [hg4] at hb2 h14
  rw [hg1] at h1 h14
  rw [hg4, hg1]
  have HG4 : Hid (w.heap.size ≤ g4) := by show _ ≤ _; omega
  clear hg4 hg1 hz2
  obtain ⟨c0, -, -, -, -, -, -, -, -, c9, -⟩ := Blk.c10 h1
  by_cases hk : n.k = 7
  case neg =>
    have HF : Hid (D = none) := by show _ = _; rw [← HD.out]; exact Ev.against_no (.inl hk)
    have hkb : (n.k == 7) = false := by simpa using hk
    clear hk
    go_wp2_with (refine wpList_store_va rfl rfl (.tmp 4) (.tmp 53) rfl g4 rfl Key.nul rfl hb2 ?_; intro Wa hba hga)
    exact ret_ag rfl rfl rfl rfl rfl rfl hba.va ⟨Key.nul, by rw [HF.out]; rfl, by rw [HF.out]; exact Ev.dv_nul, below_of_grown HB2.out hga (by have := HG4.out; omega) HB2.out.size⟩
  by_cases hl : n.args.length = 2
  case neg =>
    have HF : Hid (D = none) := by show _ = _; rw [← HD.out]; exact Ev.against_no (.inr hl)
    have hlb : ((n.args.length : Int) == 2) = false := by simp; omega
    rw [hk] at c0
    clear hk hl
    go_wp2_with (refine wpList_store_va rfl rfl (.tmp 4) (.tmp 53) rfl g4 rfl Key.nul rfl hb2 ?_; intro Wa hba hga)
    exact ret_ag rfl rfl rfl rfl rfl rfl hba.va ⟨Key.nul, by rw [HF.out]; rfl, by rw [HF.out]; exact Ev.dv_nul, below_of_grown HB2.out hga (by have := HG4.out; omega) HB2.out.size⟩
  obtain ⟨a, b, hab⟩ : ∃ a b, n.args = [a, b] := by
    match n.args, hl with
    | [a, b], _ => exact ⟨a, b, rfl⟩
  have HDC : Hid (D = if a.k = 2 ∧ Ev.hasCol b = false then some (a.at_, n.op, b) else if b.k = 2 ∧ Ev.hasCol a = false then some (b.at_, Ev.turnS n.op, a) else none) := by show _ = _; rw [← HD.out]; exact Ev.against_two hk hab
  have HIA : Hid (NodeIn w a ∧ NodeIn w b) := by
    have h := HN.out
    cases h with
    | mk h1 h2 => exact ⟨h2 a (by rw [hab]; simp), h2 b (by rw [hab]; simp)⟩
  have HRW : Hid (ERow eNd w n.a [a, b]) := by
    have h := HN.out
    cases h with
    | mk h1 h2 => rw [← hab]; exact h1
  obtain ⟨ba, oa, hA, -, -⟩ := HRW.out.at_ (j := 0) (by simp)
  rw [hk] at c0
  have HRW : Hid (ERow eNd w (some ⟨ba, oa, none⟩) [a, b]) := by show ERow _ _ _ _; rw [← hA]; exact HRW.out
  have H1 := Lib.hid h1
  have H2 := Lib.hid hb2
  obtain ⟨op, hop⟩ : ∃ op, n.op = op := ⟨_, rfl⟩
  have HCC : Hid (∀ W, Below W2.heap.size W2 W → W.cell? ⟨g1, 1, none⟩ = some (txt op) ∧ W.cell? ⟨g1, 9, none⟩ = some (.slice (some ⟨ba, oa, none⟩) 2 n.c)) := fun W hW => by
    obtain ⟨-, c1, -, -, -, -, -, -, -, c9, -⟩ := Blk.c10 (H1.out.below hW)
    rw [hop] at c1
    rw [hl, hA] at c9
    exact ⟨c1, c9⟩
  rw [hop] at HDC
  rw [hl] at c9
  clear hk hl hab hA HN HD hcm hop
  have HEV := Lib.hid (fun m hm W hW => reval_any w none 0 [] ERow.nil (by simp) (by simp) m hm W hW)
  go_upto_region 3 with fail
  clear c0 c9 h1 hb2
  go_loopw [6] (fun iv wr => ∃ i : Nat, i ≤ 2 ∧ iv = .int .i64 (i : Int) ∧ Hid ((0 < i → ¬ (a.k = 2 ∧ Ev.hasCol b = false)) ∧ (1 < i → ¬ (b.k = 2 ∧ Ev.hasCol a = false)) ∧ Below W2.heap.size W2 wr)) (fun iv _ => 2 - (intOf iv).toNat)
  case atStart => exact ⟨0, Nat.zero_le _, by go_num, fun h => by omega, fun h => by omega, Below.refl _ _⟩
  case round =>
    obtain ⟨i, hi, rfl, HI⟩ := hrel
    obtain ⟨c1, c9⟩ := HCC.out wr HI.out.2.2
    match i, hi with
    | 0, _ =>
      go_upto_region 5 with fail
      go_cut [7, 8, 9] (fun v7 v8 v9 wx => ∃ g7 g8 : Nat, v7 = .pointer (some ⟨g7, 0, none⟩) ∧ v8 = .pointer (some ⟨g8, 0, none⟩) ∧ v9 = txt op ∧ Hid (Blk wx g7 63 (a).cells ∧ Blk wx g8 63 (b).cells ∧ Below W2.heap.size W2 wx))
      case first =>
        have HAX : Hid (∀ W, Below W2.heap.size W2 W → ERow eNd W (some ⟨ba, oa, none⟩) [a, b]) := fun W h => HRW.out.below (HB2.out.then h)
        have hj0 : 0 < [a, b].length := by simp
        have hj1 : 1 < [a, b].length := by simp
        have hB : Below W2.heap.size W2 wr.drew := HI.out.2.2.drewR
        have h1lt : g1 < W2.heap.size := H1.out.lt
        have c9 : wr.drew.cell? _ = _ := c9
        have c1 : wr.drew.cell? _ = _ := c1
        have hwd : wr.drew.heap.size = wr.heap.size := rfl
        have hwz := HI.out.2.2.size
        clear HB2 HRW HDC HIA HG4 H1 H2 HI HCC
        refine wp_region_plan (.take 0 (.take 1 (.take 2 (.take 3 (.take 4 (.take 5 (.take 6 (.take 7 (.take 8 (.take 9 (.take 10 (.take 11 (.take 12 (.fork (.run 13 [0, 1, 2, 3, 4, 5, 6, 7, 8, 9, 10, 11, 12] (.run 14 [0, 1, 2, 3, 4, 5, 6, 7, 8, 9, 10, 11, 12] (.run 15 [5, 6, 7, 8, 9, 10, 11, 12] (.run 16 [11, 12] (.take 17 .fin))))) (.run 14 [0, 1, 2, 3, 4, 5, 6, 7, 8, 9, 10, 11, 12] (.run 13 [0, 1, 2, 3, 4, 5, 6, 7, 8, 9, 10, 11, 12] (.run 15 [5, 6, 7, 8, 9, 10, 11, 12] (.run 16 [11, 12] (.take 17 .fin))))))))))))))))))) (by kernel_rfl) (by kernel_rfl) (by kernel_rfl) (by kernel_rfl) ?_
        repeat' (first | (refine hZ _ _ ?_; clear hZ) | (refine hZ _ ?_; clear hZ) | (refine hZ ?_; clear hZ) | rw [again_nil] | (rw [walk_fin]; go_wp2_with fail; go_meet; (case rel => exact ⟨_, _, rfl, rfl, rfl, h7, h8, hB⟩)) | (rw [walk_fork]; refine ⟨?_, ?_⟩) | ((first | rw [walk_take] | rw [walk_run] | rw [again_cons]); intro Z hZ; simp only [sel, List.getElem?_toArray, List.getElem?_cons_zero, List.getElem?_cons_succ]; go_wp2_with (first | (refine wpList_load_nd_is rfl (.tmp 26) rfl (HAX.out _ hB) hj0 a rfl rfl ?_) | (refine wpList_load_nd_is rfl (.tmp 32) rfl (HAX.out _ hB) hj1 b rfl rfl ?_) | (refine wpList_alloc_nd (o := ⟨some 7, _, _, _, _, _⟩) rfl rfl ?_; intro W h7 hz7 hn; (try replace h8 := h8.below hn); replace c9 := cell_later hn c9; replace c1 := cell_later hn c1; replace hB := hB.then hn) | (refine wpList_alloc_nd (o := ⟨some 8, _, _, _, _, _⟩) rfl rfl ?_; intro W h8 hz8 hn; (try replace h7 := h7.below hn); replace c9 := cell_later hn c9; replace c1 := cell_later hn c1; replace hB := hB.then hn) | (refine wpList_store_nd rfl rfl (.tmp 7) (.tmp 27) rfl _ rfl a rfl h7 ?_; intro W h7 hg; have hs' := hB.size; replace h8 := h8.grown hg (by simp only [ne_eq, Option.some.injEq]; omega); replace c9 := cell_kept hg (by omega) (by omega) c9; replace c1 := cell_kept hg (by omega) (by omega) c1; replace hB := below_of_grown hB hg (by omega) hB.size) | (refine wpList_store_nd rfl rfl (.tmp 8) (.tmp 33) rfl _ rfl b rfl h8 ?_; intro W h8 hg; have hs' := hB.size; replace h7 := h7.grown hg (by simp only [ne_eq, Option.some.injEq]; omega); replace c9 := cell_kept hg (by omega) (by omega) c9; replace c1 := cell_kept hg (by omega) (by omega) c1; replace hB := below_of_grown hB hg (by omega) hB.size))))
      case rest =>
        obtain ⟨g7, g8, rfl, rfl, rfl, HX⟩ := hcut
        have HBX : Hid (Below w.heap.size w wc) := HB2.out.then HX.out.2.2
        have HK : Hid (Below W2.heap.size W2 wc) := HX.out.2.2
        have h7 := HX.out.1
        have h8 := HX.out.2.1
        have h4 := H2.out.below HX.out.2.2
        clear HX c1 c9
        -- 0 the round, a the column, b what stands against it, 0 its index, 1 the other's index, op the sign
        obtain ⟨a0, -, -, -, -, -, a6, -, -, -, -⟩ := Blk.c10 h7
        by_cases ha : (a).k = 2
        · have HA := Lib.hid ha
          rw [ha] at a0
          clear ha
          obtain ⟨e0, e1, e2, e3, e4, e5, e6, e7, e8, e9, -⟩ := Blk.c10 h8
          go_wp2_with fail
          refine (show Calls _ _ #[(b).v] _ _ from rcols_any w b HIA.out.2 _ HBX.out).mono ?_
          rintro e w1 ⟨rfl, hB⟩
          have HBX := Lib.hid (HBX.out.then hB)
          have HK := Lib.hid (HK.out.then hB)
          have h8 := h8.below hB
          have h4 := h4.below hB
          have a6 := cell_later hB a6
          clear hB a0 h7 e0 e1 e2 e3 e4 e5 e6 e7 e8 e9
          cases hcb : Ev.hasCol b with
          | false =>
            have HF : Hid (D = some ((a).at_, op, b)) := by
              show _ = _
              rw [HDC.out, if_pos ⟨HA.out, hcb⟩]
            clear hcb
            go_upto_region 9 with fail
            have h8d := h8.drew
            have h4d := h4.drew
            have a6d : w1.drew.cell? _ = _ := a6
            have HBD : Hid (Below w.heap.size w w1.drew) := HBX.out.drewR
            clear h8 h4 a6
            refine wp_region_plan (.take 0 (.take 1 (.take 2 (.take 3 (.run 4 [0, 1, 2] (.take 5 (.take 6 (.run 7 [] (.take 8 .fin))))))))) (by kernel_rfl) (by kernel_rfl) (by kernel_rfl) (by kernel_rfl) ?_
            repeat' (first | (refine hZ _ _ ?_; clear hZ) | (refine hZ _ ?_; clear hZ) | (refine hZ ?_; clear hZ) | rw [again_nil] | rw [walk_fin] | ((first | rw [walk_take] | rw [walk_run] | rw [again_cons]); intro Z hZ; simp only [sel, List.getElem?_toArray, List.getElem?_cons_zero, List.getElem?_cons_succ]; go_wp2_with (refine wpList_load_nd rfl (.tmp 8) rfl g8 rfl h8d ?_)))
            refine (show Calls _ _ _ _ _ from HEV.out b HIA.out.2 w1.drew HBD.out).mono ?_
            rintro e w3 ⟨x, rfl, hx, hB⟩
            have a6d := cell_later hB a6d
            have h4d := h4d.below hB
            have HB3 := Lib.hid (HBD.out.then hB)
            have HX := Lib.hid hx
            clear hB h8d hx
            go_wp2_with fail
            repeat' (first | (refine hZ _ _ ?_; clear hZ) | (refine hZ _ ?_; clear hZ) | (refine hZ ?_; clear hZ) | rw [again_nil] | rw [walk_fin] | ((first | rw [walk_take] | rw [walk_run] | rw [again_cons]); intro Z hZ; simp only [sel, List.getElem?_toArray, List.getElem?_cons_zero, List.getElem?_cons_succ]; go_wp2_with (refine wpList_store_va rfl rfl (.tmp 4) (.tmp 52) rfl g4 rfl x rfl h4d ?_; intro Wa hba hga)))
            go_wp2_with fail
            exact ret_ag rfl rfl rfl rfl rfl rfl hba.va ⟨x, by rw [HF.out]; rfl, by rw [HF.out]; exact HX.out, below_of_grown HB3.out hga (by have := HG4.out; omega) HB3.out.size⟩
          | true =>
            have HNO : Hid (¬ ((a).k = 2 ∧ Ev.hasCol b = false)) := by rintro ⟨-, h⟩; rw [hcb] at h; cases h
            clear hcb a6
            go_wp2_with fail
            go_roundw
            case rel => exact ⟨1, by omega, by go_num, fun _ => HNO.out, fun h => by omega, HK.out⟩
            case measure => simp [intOf]
        · have HNO : Hid (¬ ((a).k = 2 ∧ Ev.hasCol b = false)) := fun h => ha h.1
          have hab : ((a).k == 2) = false := by simpa using ha
          clear ha a6
          go_wp2_with fail
          go_roundw
          case rel => exact ⟨1, by omega, by go_num, fun _ => HNO.out, fun h => by omega, HK.out⟩
          case measure => simp [intOf]
    | 1, _ =>
      go_upto_region 5 with fail
      go_cut [7, 8, 9] (fun v7 v8 v9 wx => ∃ g7 g8 : Nat, v7 = .pointer (some ⟨g7, 0, none⟩) ∧ v8 = .pointer (some ⟨g8, 0, none⟩) ∧ v9 = txt op ∧ Hid (Blk wx g7 63 (b).cells ∧ Blk wx g8 63 (a).cells ∧ Below W2.heap.size W2 wx))
      case first =>
        have HAX : Hid (∀ W, Below W2.heap.size W2 W → ERow eNd W (some ⟨ba, oa, none⟩) [a, b]) := fun W h => HRW.out.below (HB2.out.then h)
        have hj0 : 1 < [a, b].length := by simp
        have hj1 : 0 < [a, b].length := by simp
        have hB : Below W2.heap.size W2 wr.drew := HI.out.2.2.drewR
        have h1lt : g1 < W2.heap.size := H1.out.lt
        have c9 : wr.drew.cell? _ = _ := c9
        have c1 : wr.drew.cell? _ = _ := c1
        have hwd : wr.drew.heap.size = wr.heap.size := rfl
        have hwz := HI.out.2.2.size
        clear HB2 HRW HDC HIA HG4 H1 H2 HI HCC
        refine wp_region_plan (.take 0 (.take 1 (.take 2 (.take 3 (.take 4 (.take 5 (.take 6 (.take 7 (.take 8 (.take 9 (.take 10 (.take 11 (.take 12 (.fork (.run 13 [0, 1, 2, 3, 4, 5, 6, 7, 8, 9, 10, 11, 12] (.run 14 [0, 1, 2, 3, 4, 5, 6, 7, 8, 9, 10, 11, 12] (.run 15 [5, 6, 7, 8, 9, 10, 11, 12] (.run 16 [11, 12] (.take 17 .fin))))) (.run 14 [0, 1, 2, 3, 4, 5, 6, 7, 8, 9, 10, 11, 12] (.run 13 [0, 1, 2, 3, 4, 5, 6, 7, 8, 9, 10, 11, 12] (.run 15 [5, 6, 7, 8, 9, 10, 11, 12] (.run 16 [11, 12] (.take 17 .fin))))))))))))))))))) (by kernel_rfl) (by kernel_rfl) (by kernel_rfl) (by kernel_rfl) ?_
        repeat' (first | (refine hZ _ _ ?_; clear hZ) | (refine hZ _ ?_; clear hZ) | (refine hZ ?_; clear hZ) | rw [again_nil] | (rw [walk_fin]; go_wp2_with fail; go_meet; (case rel => exact ⟨_, _, rfl, rfl, rfl, h7, h8, hB⟩)) | (rw [walk_fork]; refine ⟨?_, ?_⟩) | ((first | rw [walk_take] | rw [walk_run] | rw [again_cons]); intro Z hZ; simp only [sel, List.getElem?_toArray, List.getElem?_cons_zero, List.getElem?_cons_succ]; go_wp2_with (first | (refine wpList_load_nd_is rfl (.tmp 26) rfl (HAX.out _ hB) hj0 b rfl rfl ?_) | (refine wpList_load_nd_is rfl (.tmp 32) rfl (HAX.out _ hB) hj1 a rfl rfl ?_) | (refine wpList_alloc_nd (o := ⟨some 7, _, _, _, _, _⟩) rfl rfl ?_; intro W h7 hz7 hn; (try replace h8 := h8.below hn); replace c9 := cell_later hn c9; replace c1 := cell_later hn c1; replace hB := hB.then hn) | (refine wpList_alloc_nd (o := ⟨some 8, _, _, _, _, _⟩) rfl rfl ?_; intro W h8 hz8 hn; (try replace h7 := h7.below hn); replace c9 := cell_later hn c9; replace c1 := cell_later hn c1; replace hB := hB.then hn) | (refine wpList_store_nd rfl rfl (.tmp 7) (.tmp 27) rfl _ rfl b rfl h7 ?_; intro W h7 hg; have hs' := hB.size; replace h8 := h8.grown hg (by simp only [ne_eq, Option.some.injEq]; omega); replace c9 := cell_kept hg (by omega) (by omega) c9; replace c1 := cell_kept hg (by omega) (by omega) c1; replace hB := below_of_grown hB hg (by omega) hB.size) | (refine wpList_store_nd rfl rfl (.tmp 8) (.tmp 33) rfl _ rfl a rfl h8 ?_; intro W h8 hg; have hs' := hB.size; replace h7 := h7.grown hg (by simp only [ne_eq, Option.some.injEq]; omega); replace c9 := cell_kept hg (by omega) (by omega) c9; replace c1 := cell_kept hg (by omega) (by omega) c1; replace hB := below_of_grown hB hg (by omega) hB.size))))
      case rest =>
        obtain ⟨g7, g8, rfl, rfl, rfl, HX⟩ := hcut
        have HBX : Hid (Below w.heap.size w wc) := HB2.out.then HX.out.2.2
        have HK : Hid (Below W2.heap.size W2 wc) := HX.out.2.2
        have h7 := HX.out.1
        have h8 := HX.out.2.1
        have h4 := H2.out.below HX.out.2.2
        clear HX c1 c9
        go_wp2_with fail
        refine (rturn_any wc op).mono ?_
        rintro e w0 ⟨rfl, hB⟩
        have HBX := Lib.hid (HBX.out.then hB)
        have HK := Lib.hid (HK.out.then hB)
        have h7 := h7.below hB
        have h8 := h8.below hB
        have h4 := h4.below hB
        clear hB
        -- 1 the round, b the column, a what stands against it, 1 its index, 0 the other's index, Ev.turnS op the sign
        obtain ⟨a0, -, -, -, -, -, a6, -, -, -, -⟩ := Blk.c10 h7
        by_cases ha : (b).k = 2
        · have HA := Lib.hid ha
          rw [ha] at a0
          clear ha
          obtain ⟨e0, e1, e2, e3, e4, e5, e6, e7, e8, e9, -⟩ := Blk.c10 h8
          go_wp2_with fail
          refine (show Calls _ _ #[(a).v] _ _ from rcols_any w a HIA.out.1 _ HBX.out).mono ?_
          rintro e w1 ⟨rfl, hB⟩
          have HBX := Lib.hid (HBX.out.then hB)
          have HK := Lib.hid (HK.out.then hB)
          have h8 := h8.below hB
          have h4 := h4.below hB
          have a6 := cell_later hB a6
          clear hB a0 h7 e0 e1 e2 e3 e4 e5 e6 e7 e8 e9
          cases hcb : Ev.hasCol a with
          | false =>
            have HF : Hid (D = some ((b).at_, Ev.turnS op, a)) := by
              show _ = _
              rw [HDC.out, if_neg (HI.out.1 (by omega)), if_pos ⟨HA.out, hcb⟩]
            clear hcb
            go_upto_region 9 with fail
            have h8d := h8.drew
            have h4d := h4.drew
            have a6d : w1.drew.cell? _ = _ := a6
            have HBD : Hid (Below w.heap.size w w1.drew) := HBX.out.drewR
            clear h8 h4 a6
            refine wp_region_plan (.take 0 (.take 1 (.take 2 (.take 3 (.run 4 [0, 1, 2] (.take 5 (.take 6 (.run 7 [] (.take 8 .fin))))))))) (by kernel_rfl) (by kernel_rfl) (by kernel_rfl) (by kernel_rfl) ?_
            repeat' (first | (refine hZ _ _ ?_; clear hZ) | (refine hZ _ ?_; clear hZ) | (refine hZ ?_; clear hZ) | rw [again_nil] | rw [walk_fin] | ((first | rw [walk_take] | rw [walk_run] | rw [again_cons]); intro Z hZ; simp only [sel, List.getElem?_toArray, List.getElem?_cons_zero, List.getElem?_cons_succ]; go_wp2_with (refine wpList_load_nd rfl (.tmp 8) rfl g8 rfl h8d ?_)))
            refine (show Calls _ _ _ _ _ from HEV.out a HIA.out.1 w1.drew HBD.out).mono ?_
            rintro e w3 ⟨x, rfl, hx, hB⟩
            have a6d := cell_later hB a6d
            have h4d := h4d.below hB
            have HB3 := Lib.hid (HBD.out.then hB)
            have HX := Lib.hid hx
            clear hB h8d hx
            go_wp2_with fail
            repeat' (first | (refine hZ _ _ ?_; clear hZ) | (refine hZ _ ?_; clear hZ) | (refine hZ ?_; clear hZ) | rw [again_nil] | rw [walk_fin] | ((first | rw [walk_take] | rw [walk_run] | rw [again_cons]); intro Z hZ; simp only [sel, List.getElem?_toArray, List.getElem?_cons_zero, List.getElem?_cons_succ]; go_wp2_with (refine wpList_store_va rfl rfl (.tmp 4) (.tmp 52) rfl g4 rfl x rfl h4d ?_; intro Wa hba hga)))
            go_wp2_with fail
            exact ret_ag rfl rfl rfl rfl rfl rfl hba.va ⟨x, by rw [HF.out]; rfl, by rw [HF.out]; exact HX.out, below_of_grown HB3.out hga (by have := HG4.out; omega) HB3.out.size⟩
          | true =>
            have HNO : Hid (¬ ((b).k = 2 ∧ Ev.hasCol a = false)) := by rintro ⟨-, h⟩; rw [hcb] at h; cases h
            clear hcb a6
            go_wp2_with fail
            go_roundw
            case rel => exact ⟨2, by omega, by go_num, fun _ => HI.out.1 (by omega), fun _ => HNO.out, HK.out⟩
            case measure => simp [intOf]
        · have HNO : Hid (¬ ((b).k = 2 ∧ Ev.hasCol a = false)) := fun h => ha h.1
          have hab : ((b).k == 2) = false := by simpa using ha
          clear ha a6
          go_wp2_with fail
          go_roundw
          case rel => exact ⟨2, by omega, by go_num, fun _ => HI.out.1 (by omega), fun _ => HNO.out, HK.out⟩
          case measure => simp [intOf]
    | 2, _ =>
      have HF : Hid (D = none) := by show _ = _; rw [HDC.out, if_neg (HI.out.1 (by omega)), if_neg (HI.out.2.1 (by omega))]
      have h4 := H2.out.below HI.out.2.2
      have HBX : Hid (Below w.heap.size w wr) := HB2.out.then HI.out.2.2
      clear c1 c9
      go_wp2_with (refine wpList_store_va rfl rfl (.tmp 4) (.tmp 53) rfl g4 rfl Key.nul rfl h4 ?_; intro Wa hba hga)
      exact ret_ag rfl rfl rfl rfl rfl rfl hba.va ⟨Key.nul, by rw [HF.out]; rfl, by rw [HF.out]; exact Ev.dv_nul, below_of_grown HBX.out hga (by have := HG4.out; omega) HBX.out.size⟩
end Go.Proofs.Ytjdffhonljhpcaa
end

section
/-
  The contract of the document's Guess.
-/
namespace Go.Proofs.Ytjdffhonljhpcaa
set_option linter.unusedSimpArgs false
set_option linter.unusedVariables false
open Go.RowKit

theorem ofN_bw {rows : List Int} {cols : List Cs} (h : ∀ c ∈ cols, ∀ x ∈ c.b, -9223372036854775808 ≤ x ∧ x ≤ 9223372036854775807) (at_ : Int) : ∀ x ∈ (Ev.ofN at_ rows cols).2.b, -9223372036854775808 ≤ x ∧ x ≤ 9223372036854775807 := by
  unfold Ev.ofN
  split
  · next hc =>
    obtain ⟨j, hj⟩ := Int.eq_ofNat_of_zero_le hc.1
    have hj2 : j < cols.length := by omega
    have e : cols.getD at_.toNat Cs.nul = cols[j] := by rw [hj]; simp [List.getD, hj2]
    rw [e]
    exact h cols[j] (List.getElem_mem hj2)
  · intro x hx; cases hx
set_option maxRecDepth 100000 in
set_option maxHeartbeats 8000000 in
theorem rguess_any (w : World) (A B : Option Addr) (ca cb : Nat) (rows : List Int) (cols : List Cs) (hrc : RC w A rows B cols) (hbw : ∀ c ∈ cols, ∀ x ∈ c.b, -9223372036854775808 ≤ x ∧ x ≤ 9223372036854775807) (n : Nd) (hn : NodeIn w n) :
    Calls Try.prog 27 #[n.v, .slice A rows.length ca, .slice B cols.length cb] w (RetN w (Ev.guessN n rows cols)) := by
  have HRC := Lib.hid hrc
  have HN := Lib.hid hn
  clear hrc hn
  have HBWD := Lib.hid hbw
  clear hbw
  obtain ⟨D, hD⟩ : ∃ D, Ev.guessN n rows cols = D := ⟨_, rfl⟩
  rw [hD]
  have HD := Lib.hid hD
  clear hD
  go_enter Try.func27, Try.ntmps27
  go_upto_region 1 with (refine wpList_box_nd rfl (.tmp 0) rfl n rfl ?_; intro W2 h3 hz2 hB2)
  have HB2 := Lib.hid hB2
  obtain ⟨g3, hg3⟩ : ∃ g, w.heap.size = g := ⟨_, rfl⟩
  have HG3 : Hid (w.heap.size ≤ g3) := by show _ ≤ _; omega
  rw [hg3] at h3
  rw [hg3]
  have H3 := Lib.hid h3
  clear hg3 hB2 hz2
  go_wp2_with (refine wpList_load_nd rfl (.tmp 3) rfl g3 rfl h3 ?_)
  refine (ragainst_any W2 n (nd_below15 HN.out HB2.out)).mono ?_
  rintro e W3 ⟨xv, rfl, hxv, hB⟩
  have HK3 := Lib.hid hB
  have HXV := Lib.hid hxv
  have HGO := Lib.hid (fun W (hW : Below W2.heap.size W2 W) at_ hat => rof15_any W A B ca cb rows cols ((HRC.out.below HB2.out).below hW) at_ hat)
  clear hB h3 hxv
  cases hag : Ev.against n with
  | some y =>
    obtain ⟨at_, op, m⟩ := y
    have HY := Lib.hid (against_in HN.out hag)
    have HF : Hid (D = Ev.shareN (Ev.ofN at_ rows cols).1 (Ev.ofN at_ rows cols).2 op (Ev.eval [] m)) := by show _ = _; rw [← HD.out]; unfold Ev.guessN; rw [hag]
    have HXE : Hid (Ev.Dv (Ev.eval [] m) xv) := by
      have h := HXV.out
      rw [hag] at h
      exact h
    clear hag
    have HVO := Lib.hid HXE.out.ok
    have HF : Hid (D = Ev.shareN (Ev.ofN at_ rows cols).1 (Ev.ofN at_ rows cols).2 op xv) := by show _ = _; rw [HF.out, Ev.shareN_of HXE.out]
    have HOB := Lib.hid (ofN_bw (rows := rows) HBWD.out at_)
    rw [show Ev.agAt (some (at_, op, m)) = at_ from rfl, show Ev.agOp (some (at_, op, m)) = op from rfl, show (some (at_, op, m)).isSome = true from rfl]
    clear HXE HXV
    obtain ⟨v, hv⟩ : ∃ v, xv = v := ⟨_, rfl⟩
    rw [hv] at HF HVO
    rw [hv]
    clear hv
    go_upto_region 3 with (first | (refine wpList_alloc_va rfl rfl ?_; intro W4 h10 hz4 hB4) | (refine wpList_store_va rfl rfl (.tmp 9) (.tmp 24) rfl W3.heap.size rfl v rfl h10 ?_; intro W5 h105 hg5))
    have HK5 : Hid (Below W2.heap.size W2 W5) := below_of_grown (HK3.out.then hB4) hg5 HK3.out.size (Nat.le_trans HK3.out.size hB4.size)
    clear h10 hz4 hB4 hg5
    obtain ⟨ga, hga⟩ : ∃ g, W3.heap.size = g := ⟨_, rfl⟩
    rw [hga] at h105
    rw [hga]
    clear hga
    go_wp2_with fail
    refine (HGO.out W5 HK5.out at_ HY.out.1).mono ?_
    rintro e W6 ⟨rfl, hB⟩
    have h106 := h105.below hB
    have HK6 := Lib.hid (HK5.out.then hB)
    have HOR := Lib.hid (ofN_row ((HRC.out.below HB2.out).below HK6.out) at_)
    obtain ⟨x, hx⟩ : ∃ x, Ev.ofN at_ rows cols = x := ⟨_, rfl⟩
    rw [hx]
    have HF : Hid (D = Ev.shareN x.1 x.2 op v) := by show _ = _; rw [← hx]; exact HF.out
    have HOR : Hid (ERow eI64 W6 x.2.a x.2.b ∧ x.2.b.length ≤ 1000) := by rw [← hx]; exact HOR.out
    have HOB : Hid (∀ n ∈ x.2.b, -9223372036854775808 ≤ n ∧ n ≤ 9223372036854775807) := by rw [← hx]; exact HOB.out
    clear hx hB h105
    obtain ⟨r, c⟩ := x
    go_upto_region 4 with (first | (refine wpList_alloc_cs rfl rfl ?_; intro W7 h13 hz7 hB7) | (refine wpList_store_cs rfl rfl (.tmp 12) (.tmp 33) rfl W6.heap.size rfl c rfl h13 ?_; intro W8 h138 hg8))
    have h108 := (h106.below hB7).grown hg8 (by have := h106.lt; simp; omega)
    have HK8 : Hid (Below W2.heap.size W2 W8) := below_of_grown (HK6.out.then hB7) hg8 HK6.out.size (Nat.le_trans HK6.out.size hB7.size)
    have HR8 : Hid (ERow eI64 W8 c.a c.b ∧ c.b.length ≤ 1000) := ⟨HOR.out.1.below (below_of_grown hB7 hg8 (Nat.le_refl _) hB7.size), HOR.out.2⟩
    clear h13 hz7 hB7 hg8 h106
    obtain ⟨gb, hgb⟩ : ∃ g, W6.heap.size = g := ⟨_, rfl⟩
    rw [hgb] at h138
    rw [hgb]
    clear hgb
    go_wp2_with (first | (refine wpList_load_cs rfl (.tmp 12) rfl gb rfl h138 ?_) | (refine wpList_load_va rfl (.tmp 9) rfl ga rfl h108 ?_))
    refine (rshare_any W8 r c op v HVO.out HR8.out.1 HR8.out.2 HOB.out).mono ?_
    rintro e W9 ⟨rfl, hB⟩
    have HB9 := Lib.hid (HB2.out.then (HK8.out.then hB))
    clear hB
    go_wp2_with fail
    go_ret
    exact ⟨by rw [HF.out]; rfl, HB9.out⟩
  | none =>
    have HF : Hid (D = Ev.guess0 n rows cols) := by show _ = _; rw [← HD.out]; unfold Ev.guessN; rw [hag]
    clear hag
    rw [show Ev.agAt none = 0 from rfl, show Ev.agOp none = [] from rfl, show (none : Option (Int × List UInt8 × Nd)).isSome = false from rfl]
    go_upto_region 5 with (first | (refine wpList_alloc_va rfl rfl ?_; intro W4 h10 hz4 hB4) | (refine wpList_store_va rfl rfl (.tmp 9) (.tmp 24) rfl W3.heap.size rfl xv rfl h10 ?_; intro W5 h105 hg5))
    have HK5 : Hid (Below W2.heap.size W2 W5) := below_of_grown (HK3.out.then hB4) hg5 HK3.out.size (Nat.le_trans HK3.out.size hB4.size)
    clear h10 hz4 hB4 hg5 h105
    have hgs := guard_str_is
    have h3 := H3.out.below HK5.out
    have HN5 := Lib.hid (nd_below15 HN.out (HB2.out.then HK5.out))
    have HNC : Hid (n.args.length ≤ 9223372036854775807) := by show _ ≤ _; have h := HN.out; cases h with | mk h1 h2 h3 h4 h5 h6 h7 h8 => unfold maxLen at h8; omega
    have HBW : Hid (Below w.heap.size w W5) := HB2.out.then HK5.out
    have hncm := HNC.out
    obtain ⟨c0, c1, -, -, -, -, -, c7, -, c9, -⟩ := Blk.c10 h3
    by_cases hk9 : n.k = 9
    · by_cases hl : n.args.length = 1
      · obtain ⟨a, hab⟩ : ∃ a, n.args = [a] := by
          match n.args, hl with
          | [a], _ => exact ⟨a, rfl⟩
        have HP : Hid (Ev.prt n 0 = a) := by show _ = _; unfold Ev.prt; rw [hab]; rfl
        have HA : Hid (Ev.inB a.at_) := by
          have h := HN.out
          cases h with
          | mk h1 h2 => have hm := h2 a (by rw [hab]; simp); cases hm with | mk h1 h2 h3 h4 h5 h6 => exact h6
        have HRW : Hid (ERow eNd W5 n.a [a]) := by
          have h := HN5.out
          cases h with
          | mk h1 h2 => rw [← hab]; exact h1
        obtain ⟨ba, oa, hA, a0, a6⟩ := nd_at06 HRW.out (j := 0) (by simp)
        simp only [List.getElem_cons_zero, Nat.zero_mul, Nat.add_zero] at a0 a6
        rw [hl, hA] at c9
        rw [hk9] at c0
        by_cases ha : a.k = 2
        · have HF2 : Hid (D = Ev.nullN n.no (Ev.ofN a.at_ rows cols)) := by show _ = _; rw [HF.out]; unfold Ev.guess0; rw [HP.out, if_pos ⟨hk9, hl, ha⟩]
          rw [ha] at a0
          clear hk9 hl hab hA ha hncm
          go_wp2_with fail
          refine (HGO.out W5 HK5.out a.at_ HA.out).mono ?_
          rintro e W6 ⟨rfl, hB⟩
          have h36 := h3.below hB
          have HK6 := Lib.hid (HK5.out.then hB)
          have hle := ofN_le a.at_ rows cols
          generalize Ev.ofN a.at_ rows cols = x at HF2 hle ⊢
          obtain ⟨r, c⟩ := x
          simp only at hle
          clear hB a0 a6 c0 c1 c7 c9
          go_upto_region 7 with (first | (refine wpList_alloc_cs rfl rfl ?_; intro W7 h13 hz7 hB7) | (refine wpList_store_cs rfl rfl (.tmp 14) (.tmp 66) rfl W6.heap.size rfl c rfl h13 ?_; intro W8 h138 hg8))
          have h38 := (h36.below hB7).grown hg8 (by have := h36.lt; simp; omega)
          have HK8 : Hid (Below w.heap.size w W8) := HB2.out.then (below_of_grown (HK6.out.then hB7) hg8 HK6.out.size (Nat.le_trans HK6.out.size hB7.size))
          clear h13 hz7 hB7 hg8 h36
          obtain ⟨-, -, -, -, -, -, -, c7, -, -, -⟩ := Blk.c10 h38
          obtain ⟨-, d1, -, -⟩ := Blk.c3 h138
          obtain ⟨no, hno⟩ : ∃ b, n.no = b := ⟨_, rfl⟩
          rw [hno] at c7 HF2
          clear hno
          by_cases hr : r = 0
          · have HF3 : Hid (D = 0) := by show _ = _; rw [HF2.out]; unfold Ev.nullN; rw [if_pos hr]
            have hrb : (r == 0) = true := by simp [hr]
            clear hr
            go_wp2_with fail
            go_ret
            exact ⟨by rw [HF3.out]; rfl, HK8.out⟩
          · have hrb : (r == 0) = false := by simpa using hr
            have hrp : 0 < r := by omega
            have hrn : ¬ r = 0 := hr
            cases no with
            | true =>
              have HF3 : Hid (D = 1000 * (r - c.n) / r) := by show _ = _; rw [HF2.out]; unfold Ev.nullN; rw [if_neg hr]; rfl
              clear hr
              go_wp2_with fail
              go_ret
              exact ⟨by rw [HF3.out]; rfl, HK8.out⟩
            | false =>
              have HF3 : Hid (D = 1000 * c.n / r) := by show _ = _; rw [HF2.out]; unfold Ev.nullN; rw [if_neg hr]; rfl
              clear hr
              go_wp2_with fail
              go_ret
              exact ⟨by rw [HF3.out]; rfl, HK8.out⟩
        · have HF2 : Hid (D = 333) := by show _ = _; rw [HF.out]; unfold Ev.guess0; rw [HP.out, if_neg (fun h => ha h.2.2), if_neg (fun h => by omega)]
          have hab2 : (a.k == 2) = false := by simpa using ha
          clear hk9 hl hab hA ha hncm
          go_wp2_with fail
          go_ret
          exact ⟨by rw [HF2.out]; rfl, HBW.out⟩
      · have HF2 : Hid (D = 333) := by show _ = _; rw [HF.out]; unfold Ev.guess0; rw [if_neg (fun h => hl h.2.1), if_neg (fun h => by omega)]
        have hlb : ((n.args.length : Int) == 1) = false := by simp; omega
        rw [hk9] at c0
        clear hk9 hl
        go_wp2_with fail
        go_ret
        exact ⟨by rw [HF2.out]; rfl, HBW.out⟩
    · by_cases hk7 : n.k = 7
      · have h9b : (n.k == 9) = false := by simpa using hk9
        by_cases hop : n.op = [61]
        · by_cases hl : n.args.length = 2
          · obtain ⟨a, b, hab⟩ : ∃ a b, n.args = [a, b] := by
              match n.args, hl with
              | [a, b], _ => exact ⟨a, b, rfl⟩
            have HP : Hid (Ev.prt n 0 = a ∧ Ev.prt n 1 = b) := by unfold Ev.prt; rw [hab]; exact ⟨rfl, rfl⟩
            have HA : Hid (Ev.inB a.at_ ∧ Ev.inB b.at_) := by
              have h := HN.out
              cases h with
              | mk h1 h2 =>
                have hm := h2 a (by rw [hab]; simp)
                have hm2 := h2 b (by rw [hab]; simp)
                cases hm with | mk h1 h2 h3 h4 h5 h6 => cases hm2 with | mk k1 k2 k3 k4 k5 k6 => exact ⟨h6, k6⟩
            have HRW : Hid (ERow eNd W5 n.a [a, b]) := by
              have h := HN5.out
              cases h with
              | mk h1 h2 => rw [← hab]; exact h1
            obtain ⟨ba, oa, hA, a0, a6⟩ := nd_at06 HRW.out (j := 0) (by simp)
            obtain ⟨ba', oa', hA', b0, b6⟩ := nd_at06 HRW.out (j := 1) (by simp)
            rw [hA] at hA'
            cases hA'
            simp only [List.getElem_cons_zero, List.getElem_cons_succ, Nat.zero_mul, Nat.one_mul, Nat.add_zero] at a0 a6 b0 b6
            rw [hl, hA] at c9
            have HC9 : Hid (∀ W, Below W2.heap.size W2 W → W.cell? ⟨g3, 9, none⟩ = some (.slice (some ⟨ba, oa, none⟩) 2 n.c)) := fun W hW => by
              obtain ⟨-, -, -, -, -, -, -, -, -, c9', -⟩ := Blk.c10 (H3.out.below hW)
              rw [hl, hA] at c9'
              exact c9'
            rw [hop] at c1
            rw [hk7] at c0
            unfold txt at c1
            by_cases ha : a.k = 2
            · by_cases hb : b.k = 2
              · have HF2 : Hid (D = 1000 / max (max 1 (Ev.ofN a.at_ rows cols).2.d) (Ev.ofN b.at_ rows cols).2.d) := by show _ = _; rw [HF.out]; unfold Ev.guess0; rw [HP.out.1, HP.out.2, if_neg (fun h => hk9 h.1), if_pos ⟨hk7, hop, hl, ha, hb⟩]
                rw [ha] at a0
                rw [hb] at b0
                clear hk9 hk7 hop hl hab hA ha hb hncm h9b
                go_wp2_with fail
                refine (HGO.out W5 HK5.out a.at_ HA.out.1).mono ?_
                rintro e W6 ⟨rfl, hB⟩
                have h36 := h3.below hB
                have b6 := cell_later hB b6
                have HK6 := Lib.hid (HK5.out.then hB)
                have hle := ofN_le a.at_ rows cols
                generalize Ev.ofN a.at_ rows cols = x at HF2 hle ⊢
                obtain ⟨r, c⟩ := x
                simp only at hle
                clear hB a0 a6 c0 c1 c7 c9 b0
                go_upto_region 14 with (first | (refine wpList_alloc_cs rfl rfl ?_; intro W7 h13 hz7 hB7) | (refine wpList_store_cs rfl rfl (.tmp 16) (.tmp 123) rfl W6.heap.size rfl c rfl h13 ?_; intro W8 h138 hg8))
                have h38 := (h36.below hB7).grown hg8 (by have := h36.lt; simp; omega)
                have hbl : ba < W6.heap.size := World.block_lt_of_cell? W6 _ b6
                have hs7 := hB7.size
                have b6 := cell_kept hg8 (by omega) (by omega) (cell_later hB7 b6)
                have HK8 : Hid (Below W2.heap.size W2 W8) := below_of_grown (HK6.out.then hB7) hg8 HK6.out.size (Nat.le_trans HK6.out.size hB7.size)
                clear h13 hz7 hB7 hg8 h36 hbl hs7
                obtain ⟨g17, hg17⟩ : ∃ g, W6.heap.size = g := ⟨_, rfl⟩
                rw [hg17] at h138
                rw [hg17]
                clear hg17
                have c9 := HC9.out W8 HK8.out
                go_wp2_with fail
                refine (HGO.out W8 HK8.out b.at_ HA.out.2).mono ?_
                rintro e W9 ⟨rfl, hB⟩
                have h17 := h138.below hB
                have HK9 := Lib.hid (HK8.out.then hB)
                have hle2 := ofN_le b.at_ rows cols
                generalize Ev.ofN b.at_ rows cols = x2 at HF2 hle2 ⊢
                obtain ⟨r2, c2⟩ := x2
                simp only at hle2
                clear hB b6 c9 h138
                go_upto_region 15 with (first | (refine wpList_alloc_cs rfl rfl ?_; intro Wa h19 hza hBa) | (refine wpList_store_cs rfl rfl (.tmp 18) (.tmp 134) rfl W9.heap.size rfl c2 rfl h19 ?_; intro Wb h19b hgb))
                have h17b := (h17.below hBa).grown hgb (by have := h17.lt; simp; omega)
                have HKb : Hid (Below w.heap.size w Wb) := HB2.out.then (below_of_grown (HK9.out.then hBa) hgb HK9.out.size (Nat.le_trans HK9.out.size hBa.size))
                clear h19 hza hBa hgb h17
                obtain ⟨d0, -, -, -⟩ := Blk.c3 h17b
                obtain ⟨d1, -, -, -⟩ := Blk.c3 h19b
                have hmp : 0 < max (max 1 c.d) c2.d := by omega
                have hmp2 : max (max 1 c.d) c2.d ≤ 1099511627776 := by omega
                go_wp2_with fail
                all_goals
                  go_ret
                  first
                    | exact ⟨by rw [HF2.out, show max (max 1 c.d) c2.d = c2.d by omega]; rfl, HKb.out⟩
                    | exact ⟨by rw [HF2.out, show max (max 1 c.d) c2.d = c.d by omega]; rfl, HKb.out⟩
                    | exact ⟨by rw [HF2.out, show max (max 1 c.d) c2.d = 1 by omega]; rfl, HKb.out⟩
              · have HF2 : Hid (D = 333) := by show _ = _; rw [HF.out]; unfold Ev.guess0; rw [HP.out.1, HP.out.2, if_neg (fun h => hk9 h.1), if_neg (fun h => hb h.2.2.2.2)]
                have hbb : (b.k == 2) = false := by simpa using hb
                rw [ha] at a0
                clear hk9 hk7 hop hl hab hA ha hb hncm
                go_wp2_with fail
                go_ret
                exact ⟨by rw [HF2.out]; rfl, HBW.out⟩
            · have HF2 : Hid (D = 333) := by show _ = _; rw [HF.out]; unfold Ev.guess0; rw [HP.out.1, if_neg (fun h => hk9 h.1), if_neg (fun h => ha h.2.2.2.1)]
              have hbb : (a.k == 2) = false := by simpa using ha
              clear hk9 hk7 hop hl hab hA ha hncm
              go_wp2_with fail
              go_ret
              exact ⟨by rw [HF2.out]; rfl, HBW.out⟩
          · have HF2 : Hid (D = 333) := by show _ = _; rw [HF.out]; unfold Ev.guess0; rw [if_neg (fun h => hk9 h.1), if_neg (fun h => hl h.2.2.1)]
            have hlb : ((n.args.length : Int) == 2) = false := by simp; omega
            rw [hk7] at c0
            rw [hop] at c1
            unfold txt at c1
            clear hk9 hk7 hop hl h9b
            go_wp2_with fail
            go_ret
            exact ⟨by rw [HF2.out]; rfl, HBW.out⟩
        · have HF2 : Hid (D = 333) := by show _ = _; rw [HF.out]; unfold Ev.guess0; rw [if_neg (fun h => hk9 h.1), if_neg (fun h => hop h.2.1)]
          have n1 := run_str_is n.op [61] hop
          rw [hk7] at c0
          clear hk9 hk7 hop h9b
          go_wp2_with fail
          go_ret
          exact ⟨by rw [HF2.out]; rfl, HBW.out⟩
      · have HF2 : Hid (D = 333) := by show _ = _; rw [HF.out]; unfold Ev.guess0; rw [if_neg (fun h => hk9 h.1), if_neg (fun h => hk7 h.1)]
        have h9b : (n.k == 9) = false := by simpa using hk9
        have h7b : (n.k == 7) = false := by simpa using hk7
        clear hk9 hk7
        go_wp2_with fail
        go_ret
        exact ⟨by rw [HF2.out]; rfl, HBW.out⟩
end Go.Proofs.Ytjdffhonljhpcaa
end

section
/-
  The contract of key.Row.
-/
namespace Go.Proofs.Ytjdffhonljhpcaa
set_option linter.unusedSimpArgs false
set_option linter.unusedVariables false
open Go.RowKit

namespace Key
/-- A clean value's bytes in a row. -/
def pay (v : Va) : List UInt8 :=
  if v.k = 1 then Wire.num (Wire.ofInt v.n) else if v.k = 2 then Wire.num (pbits v.f) else if v.k = 3 then Wire.text v.s else if v.k = 4 then [if v.n = 1 then 1 else 0] else []
def rowOf (v : Va) : List UInt8 := UInt8.ofNat v.k.toNat :: pay v
def row (L : List Va) : List UInt8 := Wire.num L.length ++ L.flatMap fun v => rowOf (clean v)
theorem real1_idem (f : Nat) : real1 (real1 f) = real1 f := by
  unfold real1
  split
  · rfl
  · next h =>
    split
    · rfl
    · rfl
theorem clean_idem (v : Va) : clean (clean v) = clean v := by
  by_cases k1 : v.k = 1
  · rw [Va.clean1 k1]; rfl
  by_cases k2 : v.k = 2
  · rw [Va.clean2 k2]; show (⟨2, 0, real1 (real1 v.f), []⟩ : Va) = _; rw [real1_idem]
  by_cases k3 : v.k = 3
  · rw [Va.clean3 k3]; rfl
  by_cases k4 : v.k = 4
  · rw [Va.clean4 k4]; by_cases hn : v.n = 0 <;> simp [hn] <;> rfl
  · rw [Va.clean0 k1 k2 k3 k4]; rfl
theorem row_snoc (L : List Va) (k : Nat) (hk : k < L.length) : (L.take (k + 1)).flatMap (fun v => rowOf (clean v)) = (L.take k).flatMap (fun v => rowOf (clean v)) ++ rowOf (clean L[k]) := by
  rw [List.take_succ_eq_append_getElem hk, List.flatMap_append]
  simp
theorem text_len (s : List UInt8) : (Wire.text s).length ≤ 10 + s.length := by
  unfold Wire.text
  rw [List.length_append]
  have := (Wire.num_length s.length).2
  omega
theorem rowOf_len (v : Va) (h : v.s.length ≤ 1000) : (rowOf (clean v)).length ≤ 1011 := by
  by_cases k1 : v.k = 1
  · rw [Va.clean1 k1]; have := (Wire.num_length (Wire.ofInt v.n)).2; simp [rowOf, pay]; omega
  by_cases k2 : v.k = 2
  · rw [Va.clean2 k2]; have := (Wire.num_length (pbits (real1 v.f))).2; simp [rowOf, pay]; omega
  by_cases k3 : v.k = 3
  · rw [Va.clean3 k3]; have := text_len v.s; simp [rowOf, pay]; omega
  by_cases k4 : v.k = 4
  · rw [Va.clean4 k4]; simp [rowOf, pay]
  · rw [Va.clean0 k1 k2 k3 k4]; simp [rowOf, pay, nul]
theorem rows_len (L : List Va) (h : ∀ v ∈ L, v.s.length ≤ 1000) : (L.flatMap fun v => rowOf (clean v)).length ≤ 1011 * L.length := by
  induction L with
  | nil => simp
  | cons v L ih =>
    have h1 := rowOf_len v (h v (by simp))
    have h2 := ih fun u hu => h u (by simp [hu])
    rw [List.flatMap_cons, List.length_append, List.length_cons]
    omega
end Key
end Go.Proofs.Ytjdffhonljhpcaa
end

section
/-
  The contracts of dowserlaw08.clean and exact, of dowserref07.Exact and math.Signbit.
-/
namespace Go.Proofs.Ytjdffhonljhpcaa
set_option linter.unusedSimpArgs false
set_option linter.unusedVariables false
open Go.RowKit

set_option maxRecDepth 20000 in
set_option maxHeartbeats 1000000 in
theorem signbit_any (w : World) (f : Nat) (hf : f < two64) : Calls Try.prog 52 #[.float .f64 f] w fun e w' => e = .returned (.bool (decide (9223372036854775808 ≤ f))) ∧ w' = w := by
  have h1 : (f : Int) < 18446744073709551616 := by have := two64_eq; omega
  go_enter Try.func52, Try.ntmps52
  have hx : (Extern.MathFloatBits.float64bits #[.float .f64 f]).run Try.prog w = .ok (.int .u64 (f : Int)) w := rfl
  go_wp2_with fail
  rw [run_callFunc_extern Try.func95 (by kernel_rfl) (by kernel_rfl) (by kernel_rfl) (e := Extern.MathFloatBits.float64bits) (by kernel_rfl), hx]
  simp only [Result.andThen]
  rw [Oper.upon_value]
  by_cases ht : 9223372036854775808 ≤ f
  · have HD : Hid (decide (9223372036854775808 ≤ f) = true) := decide_eq_true ht
    have hi : wrap64 (f : Int) < 0 := by unfold wrap64; omega
    clear ht hf
    go_wp2_with fail
    go_ret
    exact ⟨by rw [HD.out]; rfl, rfl⟩
  · have HD : Hid (decide (9223372036854775808 ≤ f) = false) := decide_eq_false ht
    have hi : ¬ wrap64 (f : Int) < 0 := by unfold wrap64; omega
    clear ht hf
    go_wp2_with fail
    go_ret
    exact ⟨by rw [HD.out]; rfl, rfl⟩
/-- Two clean values are one, field by field. -/
def eqV (x y : Va) : Prop := x.k = y.k ∧ x.n = y.n ∧ x.s = y.s ∧ (fnan x.f ↔ fnan y.f) ∧ (fnan x.f ∨ x.f = y.f)
instance (x y : Va) : Decidable (eqV x y) := by unfold eqV; infer_instance
theorem xstr_eq (l m : List UInt8) (w : World) : (binOp .eql 9 (txt l) (txt m)).run Try.prog w = .ok (.bool (l == m)) w := by
  unfold txt
  rw [binOp_string_eql, txt_bytes, txt_bytes]
  rfl
theorem xeqg (t : TypeId) (x y : Operand) (l m : List UInt8) : eqGuard .eql t x y (txt l) (txt m) = pure () := rfl
set_option maxRecDepth 20000 in
set_option maxHeartbeats 8000000 in
theorem vexact_any (w : World) (x y : Va) (hx : x.ok) (hy : y.ok) (cx : Key.Clean x) (cy : Key.Clean y) : Calls Try.prog 23 #[x.v, y.v] w fun e w' => e = .returned (.bool (decide (eqV x y))) ∧ Below w.heap.size w w' := by
  have HX := Lib.hid hx
  have HY := Lib.hid hy
  have HCX := Lib.hid cx.zz
  have HCY := Lib.hid cy.zz
  clear hx hy cx cy
  go_enter Try.func23, Try.ntmps23
  go_upto_region 1 with (first | (refine wpList_box_va rfl (.tmp 0) rfl x rfl ?_; intro W1 hb1 hz1 hB1) | (refine wpList_box_va rfl (.tmp 1) rfl y rfl ?_; intro W2 hb2 hz2 hB2))
  have h12 := hb1.below hB2
  have HB := Lib.hid (hB1.trans (hB2.mono hB1.size))
  clear hb1 hB1 hB2
  obtain ⟨c0, c1, c2, c3, -⟩ := Blk.c4 h12
  obtain ⟨d0, d1, d2, d3, -⟩ := Blk.c4 hb2
  have keq := xstr_eq
  have geq := xeqg
  clear h12 hb2 hz1 hz2
  by_cases e1 : x.k = y.k
  · rw [e1] at c0
    by_cases e2 : x.n = y.n
    · rw [e2] at c1
      by_cases e3 : x.s = y.s
      · rw [e3] at c3
        have hss : (y.s == y.s) = true := by simp
        by_cases nx : fnan x.f <;> by_cases ny : fnan y.f
        · have HV : Hid (decide (eqV x y) = true) := decide_eq_true ⟨e1, e2, e3, ⟨fun _ => ny, fun _ => nx⟩, .inl nx⟩
          have hdx : (!decide (fnan x.f)) = false := by simp [nx]
          have hdy : (!decide (fnan y.f)) = false := by simp [ny]
          clear e1 e2 e3 nx ny
          refine wp_region_plan (.take 0 (.take 1 (.take 2 (.take 3 (.take 4 (.take 5 (.take 6 (.take 7 (.take 8 (.take 9 (.take 10 (.take 11 (.take 12 (.take 13 (.take 14 (.take 15 (.take 16 (.take 17 (.take 18 (.take 19 (.take 20 (.take 21 (.take 23 (.take 24 (.run 22 [23, 24] (.run 25 [] (.take 26 (.take 27 (.take 28 (.take 29 (.run 30 [] (.take 31 (.take 32 (.take 33 (.take 34 (.take 35 (.take 36 (.take 37 (.take 38 (.take 39 (.take 40 (.take 42 (.take 43 (.run 41 [42, 43] (.run 44 [] (.take 45 (.take 46 (.take 47 (.take 48 (.take 49 (.take 50 .fin))))))))))))))))))))))))))))))))))))))))))))))))))) (by kernel_rfl) (by kernel_rfl) (by kernel_rfl) (by kernel_rfl) ?_
          repeat' (first | (refine hZ _ _ ?_; clear hZ) | (refine hZ _ ?_; clear hZ) | (refine hZ ?_; clear hZ) | rw [again_nil] | rw [walk_fin] | ((first | rw [walk_take] | rw [walk_run] | rw [again_cons]); intro Z hZ; simp only [sel, List.getElem?_toArray, List.getElem?_cons_zero, List.getElem?_cons_succ]; go_wp2_with (fail)))
          refine (number_any _ x.f HX.out.f1).mono ?_
          rintro e wq ⟨rfl, hwq⟩
          rw [hwq, hdx]
          clear hwq wq
          go_wp2_with fail
          repeat' (first | (refine hZ _ _ ?_; clear hZ) | (refine hZ _ ?_; clear hZ) | (refine hZ ?_; clear hZ) | rw [again_nil] | rw [walk_fin] | ((first | rw [walk_take] | rw [walk_run] | rw [again_cons]); intro Z hZ; simp only [sel, List.getElem?_toArray, List.getElem?_cons_zero, List.getElem?_cons_succ]; go_wp2_with (fail)))
          refine (number_any _ y.f HY.out.f1).mono ?_
          rintro e wq ⟨rfl, hwq⟩
          rw [hwq, hdy]
          clear hwq wq
          go_wp2_with fail
          repeat' (first | (refine hZ _ _ ?_; clear hZ) | (refine hZ _ ?_; clear hZ) | (refine hZ ?_; clear hZ) | rw [again_nil] | rw [walk_fin] | ((first | rw [walk_take] | rw [walk_run] | rw [again_cons]); intro Z hZ; simp only [sel, List.getElem?_toArray, List.getElem?_cons_zero, List.getElem?_cons_succ]; go_wp2_with (fail)))
          refine (number_any _ x.f HX.out.f1).mono ?_
          rintro e wq ⟨rfl, hwq⟩
          rw [hwq, hdx]
          clear hwq wq
          go_wp2_with fail
          repeat' (first | (refine hZ _ _ ?_; clear hZ) | (refine hZ _ ?_; clear hZ) | (refine hZ ?_; clear hZ) | rw [again_nil] | rw [walk_fin] | ((first | rw [walk_take] | rw [walk_run] | rw [again_cons]); intro Z hZ; simp only [sel, List.getElem?_toArray, List.getElem?_cons_zero, List.getElem?_cons_succ]; go_wp2_with (fail)))
          go_wp2_with fail
          go_ret
          exact ⟨by rw [HV.out]; rfl, HB.out.drewR⟩
        · have HV : Hid (decide (eqV x y) = false) := decide_eq_false fun h => ny (h.2.2.2.1.1 nx)
          have hdx : (!decide (fnan x.f)) = false := by simp [nx]
          have hdy : (!decide (fnan y.f)) = true := by simp [ny]
          clear e1 e2 e3 nx ny
          refine wp_region_plan (.take 0 (.take 1 (.take 2 (.take 3 (.take 4 (.take 5 (.take 6 (.take 7 (.take 8 (.take 9 (.take 10 (.take 11 (.take 12 (.take 13 (.take 14 (.take 15 (.take 16 (.take 17 (.take 18 (.take 19 (.take 20 (.take 21 (.take 23 (.take 24 (.run 22 [23, 24] (.run 25 [] (.take 26 (.take 27 (.take 28 (.take 29 (.run 30 [] (.take 31 (.take 32 (.take 33 (.take 34 (.take 35 (.take 36 (.take 37 (.take 38 (.take 39 (.take 40 (.take 42 (.take 43 (.run 41 [42, 43] (.run 44 [] (.take 45 (.take 46 (.take 47 (.take 48 (.take 49 (.take 50 .fin))))))))))))))))))))))))))))))))))))))))))))))))))) (by kernel_rfl) (by kernel_rfl) (by kernel_rfl) (by kernel_rfl) ?_
          repeat' (first | (refine hZ _ _ ?_; clear hZ) | (refine hZ _ ?_; clear hZ) | (refine hZ ?_; clear hZ) | rw [again_nil] | rw [walk_fin] | ((first | rw [walk_take] | rw [walk_run] | rw [again_cons]); intro Z hZ; simp only [sel, List.getElem?_toArray, List.getElem?_cons_zero, List.getElem?_cons_succ]; go_wp2_with (fail)))
          refine (number_any _ x.f HX.out.f1).mono ?_
          rintro e wq ⟨rfl, hwq⟩
          rw [hwq, hdx]
          clear hwq wq
          go_wp2_with fail
          repeat' (first | (refine hZ _ _ ?_; clear hZ) | (refine hZ _ ?_; clear hZ) | (refine hZ ?_; clear hZ) | rw [again_nil] | rw [walk_fin] | ((first | rw [walk_take] | rw [walk_run] | rw [again_cons]); intro Z hZ; simp only [sel, List.getElem?_toArray, List.getElem?_cons_zero, List.getElem?_cons_succ]; go_wp2_with (fail)))
          refine (number_any _ y.f HY.out.f1).mono ?_
          rintro e wq ⟨rfl, hwq⟩
          rw [hwq, hdy]
          clear hwq wq
          go_wp2_with fail
          repeat' (first | (refine hZ _ _ ?_; clear hZ) | (refine hZ _ ?_; clear hZ) | (refine hZ ?_; clear hZ) | rw [again_nil] | rw [walk_fin] | ((first | rw [walk_take] | rw [walk_run] | rw [again_cons]); intro Z hZ; simp only [sel, List.getElem?_toArray, List.getElem?_cons_zero, List.getElem?_cons_succ]; go_wp2_with (fail)))
          go_wp2_with fail
          go_ret
          exact ⟨by rw [HV.out]; rfl, HB.out.drewR⟩
        · have HV : Hid (decide (eqV x y) = false) := decide_eq_false fun h => nx (h.2.2.2.1.2 ny)
          have hdx : (!decide (fnan x.f)) = true := by simp [nx]
          have hdy : (!decide (fnan y.f)) = false := by simp [ny]
          clear e1 e2 e3 nx ny
          refine wp_region_plan (.take 0 (.take 1 (.take 2 (.take 3 (.take 4 (.take 5 (.take 6 (.take 7 (.take 8 (.take 9 (.take 10 (.take 11 (.take 12 (.take 13 (.take 14 (.take 15 (.take 16 (.take 17 (.take 18 (.take 19 (.take 20 (.take 21 (.take 23 (.take 24 (.run 22 [23, 24] (.run 25 [] (.take 26 (.take 27 (.take 28 (.take 29 (.run 30 [] (.take 31 (.take 32 (.take 33 (.take 34 (.take 35 (.take 36 (.take 37 (.take 38 (.take 39 (.take 40 (.take 42 (.take 43 (.run 41 [42, 43] (.run 44 [] (.take 45 (.take 46 (.take 47 (.take 48 (.take 49 (.take 50 .fin))))))))))))))))))))))))))))))))))))))))))))))))))) (by kernel_rfl) (by kernel_rfl) (by kernel_rfl) (by kernel_rfl) ?_
          repeat' (first | (refine hZ _ _ ?_; clear hZ) | (refine hZ _ ?_; clear hZ) | (refine hZ ?_; clear hZ) | rw [again_nil] | rw [walk_fin] | ((first | rw [walk_take] | rw [walk_run] | rw [again_cons]); intro Z hZ; simp only [sel, List.getElem?_toArray, List.getElem?_cons_zero, List.getElem?_cons_succ]; go_wp2_with (fail)))
          refine (number_any _ x.f HX.out.f1).mono ?_
          rintro e wq ⟨rfl, hwq⟩
          rw [hwq, hdx]
          clear hwq wq
          go_wp2_with fail
          repeat' (first | (refine hZ _ _ ?_; clear hZ) | (refine hZ _ ?_; clear hZ) | (refine hZ ?_; clear hZ) | rw [again_nil] | rw [walk_fin] | ((first | rw [walk_take] | rw [walk_run] | rw [again_cons]); intro Z hZ; simp only [sel, List.getElem?_toArray, List.getElem?_cons_zero, List.getElem?_cons_succ]; go_wp2_with (fail)))
          refine (number_any _ y.f HY.out.f1).mono ?_
          rintro e wq ⟨rfl, hwq⟩
          rw [hwq, hdy]
          clear hwq wq
          go_wp2_with fail
          repeat' (first | (refine hZ _ _ ?_; clear hZ) | (refine hZ _ ?_; clear hZ) | (refine hZ ?_; clear hZ) | rw [again_nil] | rw [walk_fin] | ((first | rw [walk_take] | rw [walk_run] | rw [again_cons]); intro Z hZ; simp only [sel, List.getElem?_toArray, List.getElem?_cons_zero, List.getElem?_cons_succ]; go_wp2_with (fail)))
          go_wp2_with fail
          go_ret
          exact ⟨by rw [HV.out]; rfl, HB.out.drewR⟩
        · have hdx : (!decide (fnan x.f)) = true := by simp [nx]
          have hdy : (!decide (fnan y.f)) = true := by simp [ny]
          have ho : FloatKind.f64.format.order x.f y.f = some (compare (fsg x.f) (fsg y.f)) := ford_some HX.out.f1 HY.out.f1 nx ny
          by_cases hf : x.f = y.f
          · have HV : Hid (decide (eqV x y) = true) := decide_eq_true ⟨e1, e2, e3, ⟨fun h => absurd h nx, fun h => absurd h ny⟩, .inr hf⟩
            have hord : FloatKind.f64.format.order y.f y.f = some .eq := by rw [hf, Std.compare_self] at ho; exact ho
            rw [hf] at c2 hdx
            have hsb : (decide (9223372036854775808 ≤ y.f) == decide (9223372036854775808 ≤ y.f)) = true := by simp
            clear e1 e2 e3 nx ny ho hf
            refine wp_region_plan (.take 0 (.take 1 (.take 2 (.take 3 (.take 4 (.take 5 (.take 6 (.take 7 (.take 8 (.take 9 (.take 10 (.take 11 (.take 12 (.take 13 (.take 14 (.take 15 (.take 16 (.take 17 (.take 18 (.take 19 (.take 20 (.take 21 (.take 23 (.take 24 (.run 22 [23, 24] (.run 25 [] (.take 26 (.take 27 (.take 28 (.take 29 (.run 30 [] (.take 31 (.take 32 (.take 33 (.take 34 (.take 35 (.take 36 (.take 37 (.take 38 (.take 39 (.take 40 (.take 42 (.take 43 (.run 41 [42, 43] (.run 44 [] (.take 45 (.take 46 (.take 47 (.take 48 (.take 49 (.take 50 .fin))))))))))))))))))))))))))))))))))))))))))))))))))) (by kernel_rfl) (by kernel_rfl) (by kernel_rfl) (by kernel_rfl) ?_
            repeat' (first | (refine hZ _ _ ?_; clear hZ) | (refine hZ _ ?_; clear hZ) | (refine hZ ?_; clear hZ) | rw [again_nil] | rw [walk_fin] | ((first | rw [walk_take] | rw [walk_run] | rw [again_cons]); intro Z hZ; simp only [sel, List.getElem?_toArray, List.getElem?_cons_zero, List.getElem?_cons_succ]; go_wp2_with (fail)))
            refine (number_any _ y.f HY.out.f1).mono ?_
            rintro e wq ⟨rfl, hwq⟩
            rw [hwq, hdy]
            clear hwq wq
            go_wp2_with fail
            repeat' (first | (refine hZ _ _ ?_; clear hZ) | (refine hZ _ ?_; clear hZ) | (refine hZ ?_; clear hZ) | rw [again_nil] | rw [walk_fin] | ((first | rw [walk_take] | rw [walk_run] | rw [again_cons]); intro Z hZ; simp only [sel, List.getElem?_toArray, List.getElem?_cons_zero, List.getElem?_cons_succ]; go_wp2_with (fail)))
            refine (number_any _ y.f HY.out.f1).mono ?_
            rintro e wq ⟨rfl, hwq⟩
            rw [hwq, hdy]
            clear hwq wq
            go_wp2_with fail
            repeat' (first | (refine hZ _ _ ?_; clear hZ) | (refine hZ _ ?_; clear hZ) | (refine hZ ?_; clear hZ) | rw [again_nil] | rw [walk_fin] | ((first | rw [walk_take] | rw [walk_run] | rw [again_cons]); intro Z hZ; simp only [sel, List.getElem?_toArray, List.getElem?_cons_zero, List.getElem?_cons_succ]; go_wp2_with (fail)))
            refine (number_any _ y.f HY.out.f1).mono ?_
            rintro e wq ⟨rfl, hwq⟩
            rw [hwq, hdy]
            clear hwq wq
            go_wp2_with fail
            repeat' (first | (refine hZ _ _ ?_; clear hZ) | (refine hZ _ ?_; clear hZ) | (refine hZ ?_; clear hZ) | rw [again_nil] | rw [walk_fin] | ((first | rw [walk_take] | rw [walk_run] | rw [again_cons]); intro Z hZ; simp only [sel, List.getElem?_toArray, List.getElem?_cons_zero, List.getElem?_cons_succ]; go_wp2_with (fail)))
            refine (signbit_any _ y.f HY.out.f1).mono ?_
            rintro e wq ⟨rfl, hwq⟩
            rw [hwq]
            clear hwq wq
            go_wp2_with fail
            repeat' (first | (refine hZ _ _ ?_; clear hZ) | (refine hZ _ ?_; clear hZ) | (refine hZ ?_; clear hZ) | rw [again_nil] | rw [walk_fin] | ((first | rw [walk_take] | rw [walk_run] | rw [again_cons]); intro Z hZ; simp only [sel, List.getElem?_toArray, List.getElem?_cons_zero, List.getElem?_cons_succ]; go_wp2_with (fail)))
            refine (signbit_any _ y.f HY.out.f1).mono ?_
            rintro e wq ⟨rfl, hwq⟩
            rw [hwq]
            clear hwq wq
            go_wp2_with fail
            repeat' (first | (refine hZ _ _ ?_; clear hZ) | (refine hZ _ ?_; clear hZ) | (refine hZ ?_; clear hZ) | rw [again_nil] | rw [walk_fin] | ((first | rw [walk_take] | rw [walk_run] | rw [again_cons]); intro Z hZ; simp only [sel, List.getElem?_toArray, List.getElem?_cons_zero, List.getElem?_cons_succ]; go_wp2_with (fail)))
            go_wp2_with fail
            go_ret
            exact ⟨by rw [HV.out]; rfl, HB.out.drewR⟩
          · have HV : Hid (decide (eqV x y) = false) := decide_eq_false fun h => by rcases h.2.2.2.2 with h' | h'; exact nx h'; exact hf h'
            have hne : fsg x.f ≠ fsg y.f := fun h => hf (Key.fsg_inj HX.out.f1 HY.out.f1 HCX.out HCY.out h)
            have hc : compare (fsg x.f) (fsg y.f) ≠ .eq := fun h => hne (Std.compare_eq_iff_eq.1 h)
            cases hcc : compare (fsg x.f) (fsg y.f) with
            | eq => exact absurd hcc hc
            | lt =>
              rw [hcc] at ho
              clear e1 e2 e3 nx ny hf hne hc hcc
              refine wp_region_plan (.take 0 (.take 1 (.take 2 (.take 3 (.take 4 (.take 5 (.take 6 (.take 7 (.take 8 (.take 9 (.take 10 (.take 11 (.take 12 (.take 13 (.take 14 (.take 15 (.take 16 (.take 17 (.take 18 (.take 19 (.take 20 (.take 21 (.take 23 (.take 24 (.run 22 [23, 24] (.run 25 [] (.take 26 (.take 27 (.take 28 (.take 29 (.run 30 [] (.take 31 (.take 32 (.take 33 (.take 34 (.take 35 (.take 36 (.take 37 (.take 38 (.take 39 (.take 40 (.take 42 (.take 43 (.run 41 [42, 43] (.run 44 [] (.take 45 (.take 46 (.take 47 (.take 48 (.take 49 (.take 50 .fin))))))))))))))))))))))))))))))))))))))))))))))))))) (by kernel_rfl) (by kernel_rfl) (by kernel_rfl) (by kernel_rfl) ?_
              repeat' (first | (refine hZ _ _ ?_; clear hZ) | (refine hZ _ ?_; clear hZ) | (refine hZ ?_; clear hZ) | rw [again_nil] | rw [walk_fin] | ((first | rw [walk_take] | rw [walk_run] | rw [again_cons]); intro Z hZ; simp only [sel, List.getElem?_toArray, List.getElem?_cons_zero, List.getElem?_cons_succ]; go_wp2_with (fail)))
              refine (number_any _ x.f HX.out.f1).mono ?_
              rintro e wq ⟨rfl, hwq⟩
              rw [hwq, hdx]
              clear hwq wq
              go_wp2_with fail
              repeat' (first | (refine hZ _ _ ?_; clear hZ) | (refine hZ _ ?_; clear hZ) | (refine hZ ?_; clear hZ) | rw [again_nil] | rw [walk_fin] | ((first | rw [walk_take] | rw [walk_run] | rw [again_cons]); intro Z hZ; simp only [sel, List.getElem?_toArray, List.getElem?_cons_zero, List.getElem?_cons_succ]; go_wp2_with (fail)))
              refine (number_any _ y.f HY.out.f1).mono ?_
              rintro e wq ⟨rfl, hwq⟩
              rw [hwq, hdy]
              clear hwq wq
              go_wp2_with fail
              repeat' (first | (refine hZ _ _ ?_; clear hZ) | (refine hZ _ ?_; clear hZ) | (refine hZ ?_; clear hZ) | rw [again_nil] | rw [walk_fin] | ((first | rw [walk_take] | rw [walk_run] | rw [again_cons]); intro Z hZ; simp only [sel, List.getElem?_toArray, List.getElem?_cons_zero, List.getElem?_cons_succ]; go_wp2_with (fail)))
              refine (number_any _ x.f HX.out.f1).mono ?_
              rintro e wq ⟨rfl, hwq⟩
              rw [hwq, hdx]
              clear hwq wq
              go_wp2_with fail
              repeat' (first | (refine hZ _ _ ?_; clear hZ) | (refine hZ _ ?_; clear hZ) | (refine hZ ?_; clear hZ) | rw [again_nil] | rw [walk_fin] | ((first | rw [walk_take] | rw [walk_run] | rw [again_cons]); intro Z hZ; simp only [sel, List.getElem?_toArray, List.getElem?_cons_zero, List.getElem?_cons_succ]; go_wp2_with (fail)))
              go_wp2_with fail
              go_ret
              exact ⟨by rw [HV.out]; rfl, HB.out.drewR⟩
            | gt =>
              rw [hcc] at ho
              clear e1 e2 e3 nx ny hf hne hc hcc
              refine wp_region_plan (.take 0 (.take 1 (.take 2 (.take 3 (.take 4 (.take 5 (.take 6 (.take 7 (.take 8 (.take 9 (.take 10 (.take 11 (.take 12 (.take 13 (.take 14 (.take 15 (.take 16 (.take 17 (.take 18 (.take 19 (.take 20 (.take 21 (.take 23 (.take 24 (.run 22 [23, 24] (.run 25 [] (.take 26 (.take 27 (.take 28 (.take 29 (.run 30 [] (.take 31 (.take 32 (.take 33 (.take 34 (.take 35 (.take 36 (.take 37 (.take 38 (.take 39 (.take 40 (.take 42 (.take 43 (.run 41 [42, 43] (.run 44 [] (.take 45 (.take 46 (.take 47 (.take 48 (.take 49 (.take 50 .fin))))))))))))))))))))))))))))))))))))))))))))))))))) (by kernel_rfl) (by kernel_rfl) (by kernel_rfl) (by kernel_rfl) ?_
              repeat' (first | (refine hZ _ _ ?_; clear hZ) | (refine hZ _ ?_; clear hZ) | (refine hZ ?_; clear hZ) | rw [again_nil] | rw [walk_fin] | ((first | rw [walk_take] | rw [walk_run] | rw [again_cons]); intro Z hZ; simp only [sel, List.getElem?_toArray, List.getElem?_cons_zero, List.getElem?_cons_succ]; go_wp2_with (fail)))
              refine (number_any _ x.f HX.out.f1).mono ?_
              rintro e wq ⟨rfl, hwq⟩
              rw [hwq, hdx]
              clear hwq wq
              go_wp2_with fail
              repeat' (first | (refine hZ _ _ ?_; clear hZ) | (refine hZ _ ?_; clear hZ) | (refine hZ ?_; clear hZ) | rw [again_nil] | rw [walk_fin] | ((first | rw [walk_take] | rw [walk_run] | rw [again_cons]); intro Z hZ; simp only [sel, List.getElem?_toArray, List.getElem?_cons_zero, List.getElem?_cons_succ]; go_wp2_with (fail)))
              refine (number_any _ y.f HY.out.f1).mono ?_
              rintro e wq ⟨rfl, hwq⟩
              rw [hwq, hdy]
              clear hwq wq
              go_wp2_with fail
              repeat' (first | (refine hZ _ _ ?_; clear hZ) | (refine hZ _ ?_; clear hZ) | (refine hZ ?_; clear hZ) | rw [again_nil] | rw [walk_fin] | ((first | rw [walk_take] | rw [walk_run] | rw [again_cons]); intro Z hZ; simp only [sel, List.getElem?_toArray, List.getElem?_cons_zero, List.getElem?_cons_succ]; go_wp2_with (fail)))
              refine (number_any _ x.f HX.out.f1).mono ?_
              rintro e wq ⟨rfl, hwq⟩
              rw [hwq, hdx]
              clear hwq wq
              go_wp2_with fail
              repeat' (first | (refine hZ _ _ ?_; clear hZ) | (refine hZ _ ?_; clear hZ) | (refine hZ ?_; clear hZ) | rw [again_nil] | rw [walk_fin] | ((first | rw [walk_take] | rw [walk_run] | rw [again_cons]); intro Z hZ; simp only [sel, List.getElem?_toArray, List.getElem?_cons_zero, List.getElem?_cons_succ]; go_wp2_with (fail)))
              go_wp2_with fail
              go_ret
              exact ⟨by rw [HV.out]; rfl, HB.out.drewR⟩
      · have HV : Hid (decide (eqV x y) = false) := decide_eq_false fun h => e3 h.2.2.1
        have hss : (x.s == y.s) = false := by simpa using e3
        clear e1 e2
        refine wp_region_plan (.take 0 (.take 1 (.take 2 (.take 3 (.take 4 (.take 5 (.take 6 (.take 7 (.take 8 (.take 9 (.take 10 (.take 11 (.take 12 (.take 13 (.take 14 (.take 15 (.take 16 (.take 17 (.take 18 (.take 19 (.take 20 (.take 21 (.take 23 (.take 24 (.run 22 [23, 24] (.run 25 [] (.take 26 (.take 27 (.take 28 (.take 29 (.run 30 [] (.take 31 (.take 32 (.take 33 (.take 34 (.take 35 (.take 36 (.take 37 (.take 38 (.take 39 (.take 40 (.take 42 (.take 43 (.run 41 [42, 43] (.run 44 [] (.take 45 (.take 46 (.take 47 (.take 48 (.take 49 (.take 50 .fin))))))))))))))))))))))))))))))))))))))))))))))))))) (by kernel_rfl) (by kernel_rfl) (by kernel_rfl) (by kernel_rfl) ?_
        repeat' (first | (refine hZ _ _ ?_; clear hZ) | (refine hZ _ ?_; clear hZ) | (refine hZ ?_; clear hZ) | rw [again_nil] | rw [walk_fin] | ((first | rw [walk_take] | rw [walk_run] | rw [again_cons]); intro Z hZ; simp only [sel, List.getElem?_toArray, List.getElem?_cons_zero, List.getElem?_cons_succ]; go_wp2_with (fail)))
        go_wp2_with fail
        go_ret
        exact ⟨by rw [HV.out]; rfl, HB.out.drewR⟩
    · have HV : Hid (decide (eqV x y) = false) := decide_eq_false fun h => e2 h.2.1
      clear e1
      refine wp_region_plan (.take 0 (.take 1 (.take 2 (.take 3 (.take 4 (.take 5 (.take 6 (.take 7 (.take 8 (.take 9 (.take 10 (.take 11 (.take 12 (.take 13 (.take 14 (.take 15 (.take 16 (.take 17 (.take 18 (.take 19 (.take 20 (.take 21 (.take 23 (.take 24 (.run 22 [23, 24] (.run 25 [] (.take 26 (.take 27 (.take 28 (.take 29 (.run 30 [] (.take 31 (.take 32 (.take 33 (.take 34 (.take 35 (.take 36 (.take 37 (.take 38 (.take 39 (.take 40 (.take 42 (.take 43 (.run 41 [42, 43] (.run 44 [] (.take 45 (.take 46 (.take 47 (.take 48 (.take 49 (.take 50 .fin))))))))))))))))))))))))))))))))))))))))))))))))))) (by kernel_rfl) (by kernel_rfl) (by kernel_rfl) (by kernel_rfl) ?_
      repeat' (first | (refine hZ _ _ ?_; clear hZ) | (refine hZ _ ?_; clear hZ) | (refine hZ ?_; clear hZ) | rw [again_nil] | rw [walk_fin] | ((first | rw [walk_take] | rw [walk_run] | rw [again_cons]); intro Z hZ; simp only [sel, List.getElem?_toArray, List.getElem?_cons_zero, List.getElem?_cons_succ]; go_wp2_with (fail)))
      go_wp2_with fail
      go_ret
      exact ⟨by rw [HV.out]; rfl, HB.out.drewR⟩
  · have HV : Hid (decide (eqV x y) = false) := decide_eq_false fun h => e1 h.1
    refine wp_region_plan (.take 0 (.take 1 (.take 2 (.take 3 (.take 4 (.take 5 (.take 6 (.take 7 (.take 8 (.take 9 (.take 10 (.take 11 (.take 12 (.take 13 (.take 14 (.take 15 (.take 16 (.take 17 (.take 18 (.take 19 (.take 20 (.take 21 (.take 23 (.take 24 (.run 22 [23, 24] (.run 25 [] (.take 26 (.take 27 (.take 28 (.take 29 (.run 30 [] (.take 31 (.take 32 (.take 33 (.take 34 (.take 35 (.take 36 (.take 37 (.take 38 (.take 39 (.take 40 (.take 42 (.take 43 (.run 41 [42, 43] (.run 44 [] (.take 45 (.take 46 (.take 47 (.take 48 (.take 49 (.take 50 .fin))))))))))))))))))))))))))))))))))))))))))))))))))) (by kernel_rfl) (by kernel_rfl) (by kernel_rfl) (by kernel_rfl) ?_
    repeat' (first | (refine hZ _ _ ?_; clear hZ) | (refine hZ _ ?_; clear hZ) | (refine hZ ?_; clear hZ) | rw [again_nil] | rw [walk_fin] | ((first | rw [walk_take] | rw [walk_run] | rw [again_cons]); intro Z hZ; simp only [sel, List.getElem?_toArray, List.getElem?_cons_zero, List.getElem?_cons_succ]; go_wp2_with (fail)))
    go_wp2_with fail
    go_ret
    exact ⟨by rw [HV.out]; rfl, HB.out.drewR⟩
end Go.Proofs.Ytjdffhonljhpcaa
end

section
/-
  The walk of StatsGuesses.
-/
namespace Go.Proofs.Ytjdffhonljhpcaa
set_option linter.unusedSimpArgs false
set_option linter.unusedVariables false
open Go.RowKit Go.Deep Go.WideShapes Go.ChangeShapes

namespace Ev
theorem eqV_clean15 {v : Va} (h : Key.Clean v) : eqV (Key.clean v) v := by
  unfold Key.clean Key.cleanF
  by_cases h1 : v.k = 1
  · rw [if_pos h1]
    have e1 := h.ff (by omega)
    have e2 := h.ss (by omega)
    exact ⟨h1.symm, rfl, e2.symm, by rw [e1], .inr e1.symm⟩
  rw [if_neg h1]
  by_cases h2 : v.k = 2
  · rw [if_pos h2]
    have e1 := h.nn (by omega) (by omega)
    have e2 := h.ss (by omega)
    refine ⟨h2.symm, e1.symm, e2.symm, ?_, ?_⟩
    · show fnan (Key.real1 v.f) ↔ fnan v.f
      unfold Key.real1
      by_cases hn : fnan v.f
      · rw [if_pos hn]; simp only [hn, iff_true]; decide
      · rw [if_neg hn]
        split
        · next hz => simp only [hn, iff_false]; decide
        · rfl
    · show fnan (Key.real1 v.f) ∨ Key.real1 v.f = v.f
      unfold Key.real1
      by_cases hn : fnan v.f
      · rw [if_pos hn]; left; decide
      · rw [if_neg hn]
        split
        · next hz => right; exact (h.zz hz).symm
        · right; rfl
  rw [if_neg h2]
  by_cases h3 : v.k = 3
  · rw [if_pos h3]
    have e1 := h.ff (by omega)
    have e2 := h.nn (by omega) (by omega)
    exact ⟨h3.symm, e2.symm, rfl, by rw [e1], .inr e1.symm⟩
  rw [if_neg h3]
  by_cases h4 : v.k = 4
  · rw [if_pos h4]
    have e1 := h.ff (by omega)
    have e2 := h.ss (by omega)
    refine ⟨h4.symm, ?_, e2.symm, by rw [e1], .inr e1.symm⟩
    rcases h.bb h4 with e | e <;> rw [e] <;> rfl
  rw [if_neg h4]
  have h0 : v.k = 0 := by have := h.kind; omega
  have e1 := h.ff (by omega)
  have e2 := h.ss (by omega)
  have e3 := h.nn (by omega) (by omega)
  exact ⟨h0.symm, e3.symm, e2.symm, by rw [e1]; rfl, .inr e1.symm⟩
theorem Dv.eqV15 {s v : Va} (h : Dv s v) : eqV s v := by
  have := eqV_clean15 h.cl
  rw [h.eq] at this
  exact this
theorem clean_evalK15 (row : List Va) (n : Nd) (vs : List Va) : Key.clean (evalK row n vs) = evalK row n vs := by
  unfold evalK
  (repeat' split) <;> first | exact clean_clean _ | exact clean_nul | exact clean_neg _ | exact clean_not _ | exact clean_and _ _ | exact clean_or _ _ | exact clean_cmp _ _ _ | exact clean_arith _ _ _ | exact clean_bool _
theorem clean_eval15 (row : List Va) (n : Nd) : Key.clean (eval row n) = eval row n := by rw [eval_eq]; exact clean_evalK15 _ _ _
end Ev
instance : Inhabited Cs := ⟨Cs.nul⟩
def NodeW (w : World) (v : Value) : Prop := ∃ n : Nd, v = n.v ∧ NodeIn w n
def I64W (w : World) (v : Value) : Prop := ∃ A c L, v = .slice A (List.length L) c ∧ ERow eI64 w A L ∧ L.length ≤ c ∧ c ≤ maxLen
/-- What is known of a column, as it comes in. -/
def CsRaw (w : World) (c : Cs) : Prop := ERow eI64 w c.a c.b ∧ (∀ n ∈ c.b, -9223372036854775808 ≤ n ∧ n ≤ 9223372036854775807) ∧ c.b.length ≤ c.c ∧ c.c ≤ maxLen
def ColsW (w : World) (v : Value) : Prop := ∃ A c L, v = .slice A (List.length L) c ∧ ERow eCs w A L ∧ (∀ x ∈ L, CsRaw w x) ∧ L.length ≤ c ∧ c ≤ maxLen
set_option maxRecDepth 20000 in
theorem node_in {H : Type} {enc : TypeId × Value → H} {w : World} {base : Nat} {v : Value} {d : DataW H} {p : List MemPlace}
    (hv : Value.okWide Try.prog w .any base 63 v) (h : DataW.Trod enc Try.prog w 0 (fun _ => true) true 63 v d p) : NodeW w v := by
  have hag : ∃ cs : Array Value, v = .agg cs := by
    simp only [Value.okWide, Try.underlying63] at hv
    obtain ⟨cs, h1, _⟩ := hv
    exact ⟨cs, h1⟩
  obtain ⟨cs, rfl⟩ := hag
  obtain ⟨fuel, hf⟩ := h
  have h9 : Try.prog.cellsOf 63 = 10 := by kernel_rfl
  have hlen : cs.toList.length = 10 := by
    obtain ⟨xs, k, hk, -, hcl, hxl, hfs⟩ := DataW.trod_struct Try.underlying63 hf
    rw [h9] at hcl
    simpa [Value.cells] using hcl
  obtain ⟨a, e, hq⟩ := open_node fuel _ _ hf hlen
  refine ⟨a, ?_, hq⟩
  show Value.agg cs = .agg a.cells.toArray
  have e' : cs.toList = a.cells := e
  rw [← e']
set_option maxRecDepth 20000 in
theorem i64s_in {H : Type} {enc : TypeId × Value → H} {w : World} {base : Nat} {v : Value} {d : DataW H} {p : List MemPlace}
    (hv : Value.okWide Try.prog w .any base 29 v) (h : DataW.Trod enc Try.prog w 0 (fun _ => true) true 29 v d p) : I64W w v := by
  obtain ⟨a0, len0, cap0, rfl⟩ := okWide_slice Try.underlying29 hv
  obtain ⟨fuel, hf⟩ := h
  obtain ⟨A, L, c, h1, h2, h3, h4, h5⟩ := open_i64list hf
  simp [Value.cells] at h1
  obtain ⟨rfl, rfl, rfl⟩ := h1
  exact ⟨_, _, L, rfl, h2, h4, h5⟩
set_option maxRecDepth 20000 in
theorem cols_in {H : Type} {enc : TypeId × Value → H} {w : World} {base : Nat} {v : Value} {d : DataW H} {p : List MemPlace}
    (hv : Value.okWide Try.prog w .any base 25 v) (h : DataW.Trod enc Try.prog w 0 (fun _ => true) true 25 v d p) : ColsW w v := by
  obtain ⟨a0, len0, cap0, rfl⟩ := okWide_slice Try.underlying25 hv
  obtain ⟨fuel, hf⟩ := h
  obtain ⟨A, L, c, h1, h2, h3, h4, h5⟩ := open_elems eCs (by kernel_rfl) (CsRaw w) (fun fuel cs x h hlen => open_cs h hlen) hf
  simp [Value.cells] at h1
  obtain ⟨rfl, rfl, rfl⟩ := h1
  exact ⟨_, _, L, rfl, h2, h3, h4, h5⟩
set_option maxRecDepth 100000 in
set_option maxHeartbeats 8000000 in
theorem statsGuesses_walk (w : World) (v0 : Value) (h0 : NodeW w v0) (v1 : Value) (h1 : I64W w v1) (v2 : Value) (h2 : ColsW w v2) :
    Calls Try.prog 7 #[v0, v1, v2] w fun e w' => e = .returned (.bool true) ∧ Below w.heap.size w w' := by
  obtain ⟨n, rfl, hn⟩ := h0
  obtain ⟨A, ca, rows, rfl, hr, hrl, hrm⟩ := h1
  obtain ⟨B, cb, cols, rfl, hc, hci, hcl, hcm⟩ := h2
  have HN := Lib.hid hn
  have HR := Lib.hid hr
  have HC := Lib.hid hc
  have HCI := Lib.hid hci
  have hl1 : rows.length ≤ 9223372036854775807 := by unfold maxLen at hrm; omega
  have hl2 : cols.length ≤ 9223372036854775807 := by unfold maxLen at hcm; omega
  clear hn hr hrl hrm hc hci hcl hcm
  go_enter Try.func7, Try.ntmps7
  go_upto_region 1 with (refine wpList_box_nd rfl (.tmp 0) rfl n rfl ?_; intro W1 h3 hz1 hB1)
  have HB1 := Lib.hid hB1
  obtain ⟨g3, hg3⟩ : ∃ g, w.heap.size = g := ⟨_, rfl⟩
  rw [hg3] at h3
  rw [hg3]
  clear hg3 hB1 hz1
  go_wp2_with fail
  refine (stlives_any W1).mono ?_
  rintro e W2 ⟨rfl, hB⟩
  have h32 := h3.below hB
  have HB2 := Lib.hid (HB1.out.then hB)
  clear hB h3
  obtain ⟨e0, e1, e2, e3, e4, e5, e6, e7, e8, e9, -⟩ := Blk.c10 h32
  go_wp2_with fail
  refine (show Calls _ _ #[n.v, .int .i64 200] _ _ from size15_any w n HN.out W2 HB2.out 200).mono ?_
  rintro e W3 ⟨r, rfl, hB⟩
  have h33 := h32.below hB
  have HB3 := Lib.hid (HB2.out.then hB)
  clear hB h32 e0 e1 e2 e3 e4 e5 e6 e7 e8 e9
  by_cases hr2 : 200 < r
  · go_wp2_with fail
    refine (stlives_any W3).mono ?_
    rintro e W9 ⟨rfl, hB⟩
    have HB9 := Lib.hid (HB3.out.then hB)
    clear hB
    go_wp2_with fail
    go_ret
    exact ⟨rfl, HB9.out⟩
  by_cases hr3 : 30 < rows.length
  · have hri : (30 : Int) < (rows.length : Int) := by omega
    go_wp2_with fail
    refine (stlives_any W3).mono ?_
    rintro e W9 ⟨rfl, hB⟩
    have HB9 := Lib.hid (HB3.out.then hB)
    clear hB
    go_wp2_with fail
    go_ret
    exact ⟨rfl, HB9.out⟩
  have hri : ¬ (30 : Int) < (rows.length : Int) := by omega
  by_cases hr4 : 30 < cols.length
  · have hri4 : (30 : Int) < (cols.length : Int) := by omega
    go_wp2_with fail
    refine (stlives_any W3).mono ?_
    rintro e W9 ⟨rfl, hB⟩
    have HB9 := Lib.hid (HB3.out.then hB)
    clear hB
    go_wp2_with fail
    go_ret
    exact ⟨rfl, HB9.out⟩
  have hri4 : ¬ (30 : Int) < (cols.length : Int) := by omega
  go_upto_region 4 with fail
  have H3 := Lib.hid h33
  clear h33
  go_loopw [37] (fun iv wr => ∃ i : Nat, i ≤ cols.length ∧ iv = .int .i64 (i : Int) ∧ Hid ((∀ x ∈ cols.take i, x.b.length ≤ 100) ∧ Below W3.heap.size W3 wr)) (fun iv _ => cols.length - (intOf iv).toNat)
  case atStart => exact ⟨0, Nat.zero_le _, by go_num, by simp, Below.refl _ _⟩
  case round =>
    obtain ⟨i, hi, rfl, HJ⟩ := hrel
    have HBW : Hid (Below w.heap.size w wr) := HB3.out.then HJ.out.2
    by_cases hlt : i < cols.length
    · have hii : (i : Int) < (cols.length : Int) := by omega
      obtain ⟨bb, oo, ha, -, -⟩ := HC.out.at_ hlt
      have HCW : Hid (ERow eCs wr (some ⟨bb, oo, none⟩) cols) := by show ERow _ _ _ _; rw [← ha]; exact HC.out.below HBW.out
      have HTK : Hid (cols.take (i + 1) = cols.take i ++ [cols[i]]) := List.take_succ_eq_append_getElem hlt
      obtain ⟨c, hc⟩ : ∃ c, cols[i] = c := ⟨_, rfl⟩
      rw [hc] at HTK
      rw [ha]
      clear ha
      go_upto_region 6 with (first | (refine wpList_load_cs_is rfl (.tmp 39) rfl HCW.out hlt c hc rfl ?_) | (refine wpList_alloc_cs rfl rfl ?_; intro W6 hb6 hz6 hB6) | (refine wpList_store_cs rfl rfl (.tmp 8) (.tmp 40) rfl wr.heap.size rfl c rfl hb6 ?_; intro W7 hb7 hg7))
      have HK7 := Lib.hid (below_of_grown (HJ.out.2.then hB6) hg7 HJ.out.2.size (Nat.le_trans HJ.out.2.size hB6.size))
      have hcr := HCI.out c (by rw [← hc]; exact List.getElem_mem hlt)
      have hbl : c.b.length ≤ 9223372036854775807 := by have h1 := hcr.2.2.1; have h2 := hcr.2.2.2; unfold maxLen at h2; omega
      clear hb6 hz6 hB6 hg7 HCW hc hcr
      generalize wr.heap.size = g7 at hb7 ⊢
      obtain ⟨-, -, d2, -⟩ := Blk.c3 hb7
      by_cases h100 : 100 < c.b.length
      · have hi100 : (100 : Int) < (c.b.length : Int) := by omega
        go_wp2_with fail
        go_ret
        exact ⟨rfl, HB3.out.then HK7.out⟩
      · have hi100 : ¬ (100 : Int) < (c.b.length : Int) := by omega
        have HT : Hid (∀ x ∈ cols.take (i + 1), x.b.length ≤ 100) := by
          intro x hx
          rw [HTK.out] at hx
          rcases List.mem_append.1 hx with h | h
          · exact HJ.out.1 x h
          · rw [List.mem_singleton.1 h]; omega
        clear h100
        go_wp2_with fail
        go_roundw
        case rel => exact ⟨i + 1, by omega, by go_num, HT.out, HK7.out⟩
        case measure => simp [intOf]; omega
    · have hii : ¬ (i : Int) < (cols.length : Int) := by omega
      have HL : Hid (∀ x ∈ cols, x.b.length ≤ 100) := by
        intro x hx
        refine HJ.out.1 x ?_
        rw [List.take_of_length_le (by omega)]
        exact hx
      have HRC : Hid (RC w A rows B cols) := ⟨HR.out, ⟨HC.out, fun x hx => (HCI.out x hx).1, by omega, fun x hx => by have := HL.out x hx; omega⟩, by omega, by omega⟩
      have h3r := H3.out.below HJ.out.2
      go_wp2_with (refine wpList_load_nd rfl (.tmp 3) rfl g3 rfl h3r ?_)
      refine (against_any wr n (nd_below15 HN.out HBW.out)).mono ?_
      rintro e w1 ⟨rfl, hB⟩
      have HK1 := Lib.hid (HJ.out.2.then hB)
      have HAI := Lib.hid (fun y (h : Ev.against n = some y) => against_in HN.out h)
      obtain ⟨y, hy⟩ : ∃ y, Ev.against n = y := ⟨_, rfl⟩
      have HAV : Hid ((Ev.agV y).ok ∧ Key.Clean (Ev.agV y)) := by
        show _ ∧ _
        rw [← hy]
        cases hag : Ev.against n with
        | none => exact ⟨Ev.nul_ok, Key.clean_of Key.nul⟩
        | some z => exact ⟨Ev.eval_ok (row := []) (by simp) (HAI.out z hag).2, by rw [show Ev.agV (some z) = Ev.eval [] z.2.2 from rfl, ← Ev.clean_eval15]; exact Ev.clean_is _⟩
      have HRG : Hid (∀ W, Below w.heap.size w W → Calls Try.prog 22 #[n.v] W (RetAgD W y)) := fun W hW => by rw [← hy]; exact ragainst_any W n (nd_below15 HN.out hW)
      rw [hy]
      clear hB h3r hy HAI
      have HGX := Lib.hid (guess_any)
      go_wp2_with (first | (refine wpList_alloc_va rfl rfl ?_; intro W4 b11 hz4 hB4) | (refine wpList_store_va rfl rfl (.tmp 11) (.tmp 51) rfl w1.heap.size rfl (Ev.agV y) rfl b11 ?_; intro W5 h11 hg5; have HK5 := Lib.hid (below_of_grown (HK1.out.then hB4) hg5 HK1.out.size (Nat.le_trans HK1.out.size hB4.size)); have h35 := H3.out.below HK5.out; clear b11 hz4 hB4 hg5) | (refine wpList_load_nd rfl (.tmp 3) rfl g3 rfl h35 ?_))
      refine (HRG.out W5 (HB3.out.then HK5.out)).mono ?_
      rintro e w6 ⟨x, rfl, hx, hB⟩
      have HK6 := Lib.hid (HK5.out.then hB)
      have h116 := h11.below hB
      have HX := Lib.hid hx
      clear hB h35 h11 hx
      obtain ⟨g11, hg11⟩ : ∃ g, w1.heap.size = g := ⟨_, rfl⟩
      rw [hg11] at h116
      rw [hg11]
      clear hg11
      go_upto_region 11 with (first | (refine wpList_alloc_va rfl rfl ?_; intro W7 b15 hz7 hB7) | (refine wpList_store_va rfl rfl (.tmp 15) (.tmp 58) rfl w6.heap.size rfl x rfl b15 ?_; intro W8 h15 hg8))
      have h118 := (h116.below hB7).grown hg8 (by have := h116.lt; simp; omega)
      have HK8 := Lib.hid (below_of_grown (HK6.out.then hB7) hg8 HK6.out.size (Nat.le_trans HK6.out.size hB7.size))
      clear b15 hz7 hB7 hg8 h116
      obtain ⟨g15, hg15⟩ : ∃ g, w6.heap.size = g := ⟨_, rfl⟩
      rw [hg15] at h15
      rw [hg15]
      clear hg15
      have hat : (Ev.agAt y != Ev.agAt y) = false := by simp
      have hsm : (y.isSome != y.isSome) = false := by simp
      have hgx := guard_tx_ne
      have hrx := run_tx_same
      obtain ⟨u, hu⟩ : ∃ u, Ev.agV y = u := ⟨_, rfl⟩
      rw [hu] at h118 HAV HX
      rw [hu]
      clear hu
      generalize Ev.agAt y = ya at hat ⊢
      generalize Ev.agOp y = yo at ⊢
      generalize y.isSome = yb at hsm ⊢
      have HKD : Hid (Below W3.heap.size W3 W8.drew) := HK8.out.drewR
      have h118d := h118.drew
      have h15d := h15.drew
      have h3d := H3.out.below HKD.out
      obtain ⟨p0, p1, p2, p3, -⟩ := Blk.c4 h118d
      obtain ⟨q0, q1, q2, q3, -⟩ := Blk.c4 h15d
      obtain ⟨e0, e1, e2, e3, e4, e5, e6, e7, e8, e9, -⟩ := Blk.c10 h3d
      have HBD : Hid (Below w.heap.size w W8.drew) := HB3.out.then HKD.out
      clear h118 h15
      refine wp_region_plan (.take 0 (.take 1 (.take 2 (.take 3 (.take 4 (.take 5 (.take 6 (.take 7 (.take 8 (.take 9 (.take 10 (.take 11 (.take 12 (.take 13 (.take 14 (.take 15 (.run 16 [] (.take 17 (.take 18 (.take 19 (.take 20 (.take 22 (.run 21 [22] (.run 23 [] (.take 24 (.take 25 .fin)))))))))))))))))))))))))) (by kernel_rfl) (by kernel_rfl) (by kernel_rfl) (by kernel_rfl) ?_
      repeat' (first | (refine hZ _ _ ?_; clear hZ) | (refine hZ _ ?_; clear hZ) | (refine hZ ?_; clear hZ) | rw [again_nil] | rw [walk_fin] | ((first | rw [walk_take] | rw [walk_run] | rw [again_cons]); intro Z hZ; simp only [sel, List.getElem?_toArray, List.getElem?_cons_zero, List.getElem?_cons_succ]; go_wp2_with (fail)))
      refine (show Calls _ _ #[u.v, x.v] _ _ from vexact_any W8.drew u x HAV.out.1 HX.out.ok HAV.out.2 HX.out.cl).mono ?_
      rintro e w9 ⟨rfl, hB⟩
      have hq : decide (eqV u x) = true := decide_eq_true HX.out.eqV15
      have HK9 := Lib.hid (HKD.out.then hB)
      rw [hq]
      clear hB p0 p1 p2 p3 q0 q1 q2 q3 e0 e1 e2 e3 e4 e5 e6 e7 e8 e9 h118d h15d h3d hq
      have h39 := H3.out.below HK9.out
      obtain ⟨e0, e1, e2, e3, e4, e5, e6, e7, e8, e9, -⟩ := Blk.c10 h39
      go_wp2_with fail
      repeat' (first | (refine hZ _ _ ?_; clear hZ) | (refine hZ _ ?_; clear hZ) | (refine hZ ?_; clear hZ) | rw [again_nil] | rw [walk_fin] | ((first | rw [walk_take] | rw [walk_run] | rw [again_cons]); intro Z hZ; simp only [sel, List.getElem?_toArray, List.getElem?_cons_zero, List.getElem?_cons_succ]; go_wp2_with (fail)))
      refine (show Calls _ _ #[n.v] _ _ from cols_any w n HN.out w9 (HB3.out.then HK9.out)).mono ?_
      rintro e wa ⟨rfl, hB⟩
      have HKa := Lib.hid (HK9.out.then hB)
      clear hB e0 e1 e2 e3 e4 e5 e6 e7 e8 e9 h39
      have h3a := H3.out.below HKa.out
      obtain ⟨e0, e1, e2, e3, e4, e5, e6, e7, e8, e9, -⟩ := Blk.c10 h3a
      go_wp2_with fail
      repeat' (first | (refine hZ _ _ ?_; clear hZ) | (refine hZ _ ?_; clear hZ) | (refine hZ ?_; clear hZ) | rw [again_nil] | rw [walk_fin] | ((first | rw [walk_take] | rw [walk_run] | rw [again_cons]); intro Z hZ; simp only [sel, List.getElem?_toArray, List.getElem?_cons_zero, List.getElem?_cons_succ]; go_wp2_with (fail)))
      refine (show Calls _ _ #[n.v] _ _ from rcols_any w n HN.out wa (HB3.out.then HKa.out)).mono ?_
      rintro e wb ⟨rfl, hB⟩
      have HKb := Lib.hid (HKa.out.then hB)
      clear hB e0 e1 e2 e3 e4 e5 e6 e7 e8 e9 h3a
      have hcc : (Ev.hasCol n != Ev.hasCol n) = false := by simp
      generalize Ev.hasCol n = hc at hcc ⊢
      go_wp2_with fail
      repeat' (first | (refine hZ _ _ ?_; clear hZ) | (refine hZ _ ?_; clear hZ) | (refine hZ ?_; clear hZ) | rw [again_nil] | rw [walk_fin] | ((first | rw [walk_take] | rw [walk_run] | rw [again_cons]); intro Z hZ; simp only [sel, List.getElem?_toArray, List.getElem?_cons_zero, List.getElem?_cons_succ]; go_wp2_with (fail)))
      have hKd : Below W3.heap.size W3 wb.drew := HKb.out.drewR
      have h3b := H3.out.below hKd
      have HBb : Hid (Below w.heap.size w wb.drew) := HB3.out.then hKd
      have HKd := Lib.hid hKd
      clear hKd
      go_upto_region 13 with fail
      refine wp_region_plan (.take 0 (.take 1 (.take 2 (.take 4 (.take 5 (.take 6 (.run 3 [4, 5, 6] (.run 7 [] (.take 8 (.take 9 .fin)))))))))) (by kernel_rfl) (by kernel_rfl) (by kernel_rfl) (by kernel_rfl) ?_
      repeat' (first | (refine hZ _ _ ?_; clear hZ) | (refine hZ _ ?_; clear hZ) | (refine hZ ?_; clear hZ) | rw [again_nil] | rw [walk_fin] | ((first | rw [walk_take] | rw [walk_run] | rw [again_cons]); intro Z hZ; simp only [sel, List.getElem?_toArray, List.getElem?_cons_zero, List.getElem?_cons_succ]; go_wp2_with (refine wpList_load_nd rfl (.tmp 3) rfl g3 rfl h3b ?_)))
      refine (show Calls _ _ #[n.v, .slice A rows.length ca, .slice B cols.length cb] _ _ from guess_any wb.drew A B ca cb rows cols (HRC.out.below HBb.out) n (nd_below15 HN.out HBb.out)).mono ?_
      rintro e wc1 ⟨rfl, hB⟩
      have HKe := Lib.hid (HKd.out.then hB)
      have h3c := h3b.below hB
      have HBc := Lib.hid (HBb.out.then hB)
      clear hB h3b
      go_wp2_with fail
      repeat' (first | (refine hZ _ _ ?_; clear hZ) | (refine hZ _ ?_; clear hZ) | (refine hZ ?_; clear hZ) | rw [again_nil] | rw [walk_fin] | ((first | rw [walk_take] | rw [walk_run] | rw [again_cons]); intro Z hZ; simp only [sel, List.getElem?_toArray, List.getElem?_cons_zero, List.getElem?_cons_succ]; go_wp2_with (refine wpList_load_nd rfl (.tmp 3) rfl g3 rfl h3c ?_)))
      refine (show Calls _ _ #[n.v, .slice A rows.length ca, .slice B cols.length cb] _ _ from rguess_any wc1 A B ca cb rows cols (HRC.out.below HBc.out) (fun c hc => (HCI.out c hc).2.1) n (nd_below15 HN.out HBc.out)).mono ?_
      rintro e wd ⟨rfl, hB⟩
      have HBd := Lib.hid (HBc.out.then hB)
      clear hB h3c
      generalize Ev.guessN n rows cols = G
      have hgg : (G == G) = true := by simp
      go_wp2_with fail
      repeat' (first | (refine hZ _ _ ?_; clear hZ) | (refine hZ _ ?_; clear hZ) | (refine hZ ?_; clear hZ) | rw [again_nil] | rw [walk_fin] | ((first | rw [walk_take] | rw [walk_run] | rw [again_cons]); intro Z hZ; simp only [sel, List.getElem?_toArray, List.getElem?_cons_zero, List.getElem?_cons_succ]; go_wp2_with (fail)))
      go_wp2_with fail
      go_ret
      exact ⟨rfl, HBd.out⟩
end Go.Proofs.Ytjdffhonljhpcaa
end

