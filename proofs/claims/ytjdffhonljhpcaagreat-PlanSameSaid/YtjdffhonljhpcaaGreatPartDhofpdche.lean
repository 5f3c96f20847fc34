/-
  Texts of a proof, one behind the other (each with its own head).
-/
import Derived.Test.YtjdffhonljhpcaaGreatPartCmipghohb
section
/-
  The contracts of the law's size, and of both Columns.
-/
namespace Go.Proofs.YtjdffhonljhpcaaGreat
set_option linter.unusedSimpArgs false
set_option linter.unusedVariables false
open Go.RowKit

/-- Some number. -/
def RetNum15 (w : World) (e : Ending) (w' : World) : Prop := ∃ r : Int, e = .returned (.int .i64 r) ∧ Below w.heap.size w w'
namespace Ev
mutual
/-- Has a node a column? -/
def hasCol : Nd → Bool
  | .mk k _ _ _ _ _ _ args _ => k == 2 || hasColL args
def hasColL : List Nd → Bool
  | [] => false
  | n :: l => hasCol n || hasColL l
end
theorem hasCol_eq (n : Nd) : hasCol n = (n.k == 2 || hasColL n.args) := by cases n; rfl
theorem hasColL_any (l : List Nd) : hasColL l = l.any hasCol := by
  induction l with
  | nil => rfl
  | cons n l ih => show (hasCol n || hasColL l) = _; rw [ih]; rfl
end Ev
def RetBo (w : World) (b : Bool) (e : Ending) (w' : World) : Prop := e = .returned (.bool b) ∧ Below w.heap.size w w'
/-- What stats.Columns answers, in all worlds behind w. -/
def ColsTo (w : World) (n : Nd) : Prop := ∀ W, Below w.heap.size w W → Calls Tryz.prog 78 #[n.v] W (RetBo W (Ev.hasCol n))
def RetIx (w : World) (b : Bool) (e : Ending) (w' : World) : Prop := ∃ k : Int, e = .returned (.int .i64 k) ∧ decide (0 ≤ k) = b ∧ Below w.heap.size w w'
theorem hasCol_take {L : List Nd} {i : Nat} (h : i < L.length) : (L.take (i + 1)).any Ev.hasCol = ((L.take i).any Ev.hasCol || Ev.hasCol L[i]) := by
  rw [List.take_succ_eq_append_getElem h, List.any_append]
  simp
set_option maxRecDepth 20000 in
set_option maxHeartbeats 4000000 in
theorem idxf_any (w : World) (A : Option Addr) (c : Nat) (L : List Nd) (hL : ERow eNd w A L) (hlen : L.length ≤ 9223372036854775807) (ih : ∀ m ∈ L, ColsTo w m) (W : World) (hB : Below w.heap.size w W) :
    Calls Tryz.prog 73 #[.slice A L.length c, .func (.func 78) #[] #[]] W (RetIx W (Ev.hasColL L)) := by
  have HL := Lib.hid (hL.below hB)
  have HI := Lib.hid ih
  have HB := Lib.hid hB
  have HD := Lib.hid (Ev.hasColL_any L)
  clear hL ih hB
  go_enter Tryz.func73, Tryz.ntmps73
  go_wp2_with fail
  go_loopw [8] (fun iv wr => ∃ i : Nat, i ≤ L.length ∧ iv = .int .i64 (i : Int) ∧ Hid ((L.take i).any Ev.hasCol = false ∧ Below W.heap.size W wr)) (fun iv _ => L.length - (intOf iv).toNat)
  case atStart => exact ⟨0, Nat.zero_le _, by go_num, by simp, Below.refl _ _⟩
  case round =>
    obtain ⟨i, hi, rfl, HJ⟩ := hrel
    by_cases hlt : i < L.length
    · have hii : (i : Int) < (L.length : Int) := by omega
      obtain ⟨bb, oo, ha, -, -⟩ := HL.out.at_ hlt
      have HIW : Hid (ERow eNd wr (some ⟨bb, oo, none⟩) L) := by show ERow _ _ _ _; rw [← ha]; exact HL.out.below HJ.out.2
      have HTK := Lib.hid (hasCol_take hlt)
      rw [ha]
      clear ha
      go_wp2_with (refine wpList_load_nd_at rfl (.tmp 14) rfl HIW.out hlt rfl ?_)
      refine (HI.out _ (List.getElem_mem hlt) wr (HB.out.then HJ.out.2)).mono ?_
      rintro e W8 ⟨rfl, hB8⟩
      have HB8 := Lib.hid (HJ.out.2.then hB8)
      clear hB8
      cases hb : Ev.hasCol L[i] with
      | true =>
        have HR : Hid (decide (0 ≤ (i : Int)) = Ev.hasColL L) := by
          show _ = _
          rw [HD.out, decide_eq_true (by omega)]
          exact (List.any_eq_true.2 ⟨L[i], List.getElem_mem hlt, hb⟩).symm
        clear hb
        go_wp2_with fail
        go_ret
        exact ⟨_, rfl, HR.out, HB8.out⟩
      | false =>
        have HR : Hid ((L.take (i + 1)).any Ev.hasCol = false) := by show _ = _; rw [HTK.out, HJ.out.1, hb]; rfl
        clear hb
        go_wp2_with fail
        go_roundw
        case rel => exact ⟨i + 1, by omega, by go_num, HR.out, HB8.out⟩
        case measure => simp [intOf]; omega
    · have hii : ¬ (i : Int) < (L.length : Int) := by omega
      have HR : Hid (decide (0 ≤ (-1 : Int)) = Ev.hasColL L) := by
        show _ = _
        have e := HJ.out.1
        rw [List.take_of_length_le (by omega)] at e
        rw [HD.out, e]
        rfl
      go_wp2_with fail
      go_ret
      exact ⟨_, rfl, HR.out, HJ.out.2⟩
theorem ctnf_any (w : World) (A : Option Addr) (c : Nat) (L : List Nd) (hL : ERow eNd w A L) (hlen : L.length ≤ 9223372036854775807) (ih : ∀ m ∈ L, ColsTo w m) (W : World) (hB : Below w.heap.size w W) :
    Calls Tryz.prog 88 #[.slice A L.length c, .func (.func 78) #[] #[]] W (RetBo W (Ev.hasColL L)) := by
  have HX := Lib.hid (idxf_any w A c L hL hlen ih W hB)
  clear hL ih hB
  go_enter Tryz.func88, Tryz.ntmps88
  go_wp2_with fail
  refine HX.out.mono ?_
  rintro e W8 ⟨k, rfl, hk, hB8⟩
  have HB8 := Lib.hid hB8
  have HK := Lib.hid hk
  clear hB8 hk
  go_wp2_with fail
  go_ret
  exact ⟨by rw [← HK.out]; rfl, HB8.out⟩
set_option maxRecDepth 20000 in
set_option maxHeartbeats 4000000 in
theorem cols_any (w : World) (n : Nd) (hn : NodeIn w n) : ColsTo w n := by
  induction hn with
  | @mk n hr hin hlit hls hk hat hc hm ih =>
  have hcm : n.args.length ≤ 9223372036854775807 := by unfold maxLen at hm; omega
  have HX := Lib.hid (fun W hB => ctnf_any w n.a n.c n.args hr hcm ih W hB)
  have HD := Lib.hid (Ev.hasCol_eq n)
  clear hr hin hlit hls hk hat hc hm ih
  intro W hB
  have HB := Lib.hid hB
  clear hB
  generalize Ev.hasCol n = D at HD ⊢
  go_enter Tryz.func78, Tryz.ntmps78
  go_upto_region 1 with (refine wpList_box_nd rfl (.tmp 0) rfl n rfl ?_; intro W1 hb1 hz1 hB1)
  have HB1 := Lib.hid hB1
  obtain ⟨c0, -, -, -, -, -, -, -, -, c9, -⟩ := Blk.c10 hb1
  clear hB1 hb1 hz1
  generalize W.heap.size = g2 at c0 c9 ⊢
  by_cases hk : n.k = 2
  · have HF : Hid (D = true) := by show _ = _; rw [HD.out, hk]; rfl
    rw [hk] at c0
    clear hk
    go_wp2_with fail
    go_ret
    exact ⟨by rw [HF.out]; rfl, HB1.out⟩
  · have HF : Hid (D = Ev.hasColL n.args) := by show _ = _; rw [HD.out]; simp [hk]
    have hkb : (n.k == 2) = false := by simpa using hk
    clear hk
    go_wp2_with fail
    refine (HX.out W1 (HB.out.then HB1.out)).mono ?_
    rintro e W8 ⟨rfl, hB8⟩
    have HB8 := Lib.hid (HB1.out.then hB8)
    clear hB8
    go_wp2_with fail
    go_ret
    exact ⟨by rw [HF.out]; rfl, HB8.out⟩
end Go.Proofs.YtjdffhonljhpcaaGreat
end

section
/-
  The contracts of dowserref15.near, stats.Turn and dowserref15.Turn.
-/
namespace Go.Proofs.YtjdffhonljhpcaaGreat
set_option linter.unusedSimpArgs false
set_option linter.unusedVariables false
open Go.RowKit

namespace Ev
/-- A sign turned round. -/
def turnS (op : List UInt8) : List UInt8 := if op = [60] then [62] else if op = [60, 61] then [62, 61] else if op = [62] then [60] else if op = [62, 61] then [60, 61] else op
end Ev
set_option maxRecDepth 20000 in
set_option maxHeartbeats 4000000 in
theorem turn_any (w : World) (op : List UInt8) : Calls Tryz.prog 76 #[txt op] w fun e w' => e = .returned (txt (Ev.turnS op)) ∧ w' = w := by
  have hgs := guard_str_is
  have HF : Hid (Ev.turnS op = if op = [60] then [62] else if op = [60, 61] then [62, 61] else if op = [62] then [60] else if op = [62, 61] then [60, 61] else op) := rfl
  generalize Ev.turnS op = D at HF ⊢
  go_enter Tryz.func76, Tryz.ntmps76
  by_cases h1 : op = [60]
  · have HF : Hid (D = [62]) := by show _ = _; rw [HF.out, if_pos h1]
    subst h1
    unfold txt
    go_wp2_with fail
    go_ret
    exact ⟨by rw [HF.out]; rfl, rfl⟩
  have n1 := run_str_is op [60] h1
  by_cases h2 : op = [60, 61]
  · have HF : Hid (D = [62, 61]) := by show _ = _; rw [HF.out, if_neg h1, if_pos h2]
    clear n1
    subst h2
    unfold txt
    go_wp2_with fail
    go_ret
    exact ⟨by rw [HF.out]; rfl, rfl⟩
  have n2 := run_str_is op [60, 61] h2
  by_cases h3 : op = [62]
  · have HF : Hid (D = [60]) := by show _ = _; rw [HF.out, if_neg h1, if_neg h2, if_pos h3]
    clear n1 n2
    subst h3
    unfold txt
    go_wp2_with fail
    go_ret
    exact ⟨by rw [HF.out]; rfl, rfl⟩
  have n3 := run_str_is op [62] h3
  by_cases h4 : op = [62, 61]
  · have HF : Hid (D = [60, 61]) := by show _ = _; rw [HF.out, if_neg h1, if_neg h2, if_neg h3, if_pos h4]
    clear n1 n2 n3
    subst h4
    unfold txt
    go_wp2_with fail
    go_ret
    exact ⟨by rw [HF.out]; rfl, rfl⟩
  have n4 := run_str_is op [62, 61] h4
  have HF : Hid (D = op) := by show _ = _; rw [HF.out, if_neg h1, if_neg h2, if_neg h3, if_neg h4]
  clear h1 h2 h3 h4
  go_wp2_with fail
  go_ret
  exact ⟨by rw [HF.out]; rfl, rfl⟩
end Go.Proofs.YtjdffhonljhpcaaGreat
end

section
/-
  The contract of the document's Same.
-/
namespace Go.Proofs.YtjdffhonljhpcaaGreat
set_option linter.unusedSimpArgs false
set_option linter.unusedVariables false
open Go.RowKit

theorem wpList_load_cs_is {w : World} {ops : Array Oper} {rest : List Oper} {o : Oper} {a : Act} {Q : Exit → Act → World → Prop} (hgd : o.guard = none) (x : Operand) (hop : o.op = .load 51 x) {b off : Nat} {L : List Cs} (hr : ERow eCs w (some ⟨b, off, none⟩) L) {j : Nat} (hj : j < L.length) (p : Cs) (hp : L[j] = p) (hx : a.eval x = .pointer (some ⟨b, off + j * 3, none⟩))
    (h : wpList Tryz.prog ops Q rest (a.put o.dst p.v) w) : wpList Tryz.prog ops Q (o :: rest) a w := by
  subst hp
  exact wpList_load_cs_at hgd x hop hr hj hx h
theorem cell_kept {w W : World} {g b i : Nat} {v : Value} (hg : w.grownBy W (some g)) (hb : b < w.heap.size) (hne : b ≠ g) (h : w.cell? ⟨b, i, none⟩ = some v) : W.cell? ⟨b, i, none⟩ = some v :=
  (World.cell?_of_block (w := w) (hg.block b hb (fun e => hne (Option.some.inj e)))).trans h
/-- What is known of columns, that may be read. -/
structure CsIn (w : World) (A : Option Addr) (R : List Cs) : Prop where
  r : ERow eCs w A R
  rr : ∀ x ∈ R, ERow eI64 w x.a x.b
  len : R.length ≤ 100
  lens : ∀ x ∈ R, x.b.length ≤ 1000
theorem CsIn.below {w W : World} {A : Option Addr} {R : List Cs} (h : CsIn w A R) (hB : Below w.heap.size w W) : CsIn W A R := ⟨h.r.below hB, fun x hx => (h.rr x hx).below hB, h.len, h.lens⟩
end Go.Proofs.YtjdffhonljhpcaaGreat
end

section
/-
  The contract of stats.Against.
-/
namespace Go.Proofs.YtjdffhonljhpcaaGreat
set_option linter.unusedSimpArgs false
set_option linter.unusedVariables false
open Go.RowKit

namespace Ev
/-- A column's place, a sign, what stands against it. -/
def against (n : Nd) : Option (Int × List UInt8 × Nd) :=
  if n.k = 7 then
    match n.args with
    | [a, b] => if a.k = 2 ∧ hasCol b = false then some (a.at_, n.op, b) else if b.k = 2 ∧ hasCol a = false then some (b.at_, turnS n.op, a) else none
    | _ => none
  else none
def agAt (x : Option (Int × List UInt8 × Nd)) : Int := match x with | some y => y.1 | none => 0
def agOp (x : Option (Int × List UInt8 × Nd)) : List UInt8 := match x with | some y => y.2.1 | none => []
def agV (x : Option (Int × List UInt8 × Nd)) : Va := match x with | some y => eval [] y.2.2 | none => Key.nul
theorem against_no {n : Nd} (h : n.k ≠ 7 ∨ n.args.length ≠ 2) : against n = none := by
  unfold against
  by_cases hk : n.k = 7
  · rw [if_pos hk]
    have hl : n.args.length ≠ 2 := h.resolve_left (fun e => e hk)
    match n.args, hl with
    | [], _ => rfl
    | [_], _ => rfl
    | [_, _], h => exact absurd rfl h
    | _ :: _ :: _ :: _, _ => rfl
  · rw [if_neg hk]
theorem against_two {n a b : Nd} (hk : n.k = 7) (h : n.args = [a, b]) : against n = if a.k = 2 ∧ hasCol b = false then some (a.at_, n.op, b) else if b.k = 2 ∧ hasCol a = false then some (b.at_, turnS n.op, a) else none := by
  unfold against
  rw [if_pos hk, h]
end Ev
theorem ret_ag {P : Program} {fn : Func} {R : Ending → World → Prop} {a : Act} {w : World} {p u u' u'' : Tmp} {T : TypeId} {x : Addr} {v y y' y'' : Value} (h : fn.results = #[.tmp u, .tmp u', .cell p T, .tmp u'']) (hd : a.defers = [])
    (hp : a.tmps.getD p undef = .pointer (some x)) (hu : a.tmps.getD u undef = y) (hu' : a.tmps.getD u' undef = y') (hu'' : a.tmps.getD u'' undef = y'') (hv : (loadVar T x).run P w = .ok v w) (hR : R (.returned (.tuple #[y, y', v, y''])) w) : bodyPost P fn R .ret a w := by
  refine bodyPost_ret (v := .tuple #[y, y', v, y'']) ?_ hd hR
  have e : (results fn a.tmps).run P w = ((asAddr (a.tmps.getD p undef)).run P w).andThen fun b w1 => ((loadVar T b).run P w1).andThen fun v w2 => .ok (.tuple #[a.tmps.getD u undef, a.tmps.getD u' undef, v, a.tmps.getD u'' undef]) w2 := by
    simp only [results, h]
    simp [Sem.run_bind, Result.andThen]
  rw [e, hp, hu, hu', hu'']
  show (((loadVar T x).run P w).andThen _) = _
  rw [hv]
  rfl
theorem wpList_load_nd_is {w : World} {ops : Array Oper} {rest : List Oper} {o : Oper} {a : Act} {Q : Exit → Act → World → Prop} (hgd : o.guard = none) (x : Operand) (hop : o.op = .load 27 x) {b off : Nat} {L : List Nd} (hr : ERow eNd w (some ⟨b, off, none⟩) L) {j : Nat} (hj : j < L.length) (p : Nd) (hp : L[j] = p) (hx : a.eval x = .pointer (some ⟨b, off + j * 10, none⟩))
    (h : wpList Tryz.prog ops Q rest (a.put o.dst p.v) w) : wpList Tryz.prog ops Q (o :: rest) a w := by
  subst hp
  exact wpList_load_nd_at hgd x hop hr hj hx h
/-- What stats.Against answers. -/
def RetAg (w : World) (x : Option (Int × List UInt8 × Nd)) (e : Ending) (w' : World) : Prop := e = .returned (.tuple #[.int .i64 (Ev.agAt x), txt (Ev.agOp x), (Ev.agV x).v, .bool x.isSome]) ∧ Below w.heap.size w w'
set_option maxRecDepth 100000 in
set_option maxHeartbeats 8000000 in
theorem against_any (w : World) (n : Nd) (hn : NodeIn w n) : Calls Tryz.prog 68 #[n.v] w (RetAg w (Ev.against n)) := by
  have HN := Lib.hid hn
  clear hn
  obtain ⟨D, hD⟩ : ∃ D, Ev.against n = D := ⟨_, rfl⟩
  rw [hD]
  have HD := Lib.hid hD
  clear hD
  have hcm : n.args.length ≤ 9223372036854775807 := by have h := HN.out; cases h with | mk h1 h2 h3 h4 h5 h6 h7 h8 => unfold maxLen at h8; omega
  go_enter Tryz.func68, Tryz.ntmps68
  go_upto_region 1 with (first | (refine wpList_box_nd rfl (.tmp 0) rfl n rfl ?_; intro W1 hb1 hz1 hB1) | (refine wpList_alloc_va rfl rfl ?_; intro W2 hb2 hz2 hB2))
  have h1 := hb1.below hB2
  have HB2 := Lib.hid (hB1.then hB2)
  have h14 : w.heap.size < W1.heap.size := by omega
  clear hb1 hB1 hB2 hz1
  obtain ⟨g4, hg4⟩ : ∃ g, W1.heap.size = g := ⟨_, rfl⟩
  obtain ⟨g1, hg1⟩ : ∃ g, w.heap.size = g := ⟨_, rfl⟩
  rw [hg4] at hb2 h14
  rw [hg1] at h1 h14
  rw [hg4, hg1]
  have HG4 : Hid (w.heap.size ≤ g4) := by show _ ≤ _; omega
  clear hg4 hg1 hz2
  obtain ⟨c0, c1, -, -, -, -, -, -, -, c9, -⟩ := Blk.c10 h1
  by_cases hk : n.k = 7
  case neg =>
    have HF : Hid (D = none) := by show _ = _; rw [← HD.out]; exact Ev.against_no (.inl hk)
    have hkb : (n.k != 7) = true := by simpa using hk
    clear hk
    go_wp2_with (refine wpList_store_va rfl rfl (.tmp 4) (.tmp 17) rfl g4 rfl Key.nul rfl hb2 ?_; intro Wa hba hga)
    exact ret_ag rfl rfl rfl rfl rfl rfl hba.va ⟨by rw [HF.out]; rfl, below_of_grown HB2.out hga (by have := HG4.out; omega) HB2.out.size⟩
  by_cases hl : n.args.length = 2
  case neg =>
    have HF : Hid (D = none) := by show _ = _; rw [← HD.out]; exact Ev.against_no (.inr hl)
    have hlb : ((n.args.length : Int) != 2) = true := by simp; omega
    rw [hk] at c0
    clear hk hl
    go_wp2_with (refine wpList_store_va rfl rfl (.tmp 4) (.tmp 17) rfl g4 rfl Key.nul rfl hb2 ?_; intro Wa hba hga)
    exact ret_ag rfl rfl rfl rfl rfl rfl hba.va ⟨by rw [HF.out]; rfl, below_of_grown HB2.out hga (by have := HG4.out; omega) HB2.out.size⟩
  obtain ⟨a, b, hab⟩ : ∃ a b, n.args = [a, b] := by
    match n.args, hl with
    | [a, b], _ => exact ⟨a, b, rfl⟩
  have HDC : Hid (D = if a.k = 2 ∧ Ev.hasCol b = false then some (a.at_, n.op, b) else if b.k = 2 ∧ Ev.hasCol a = false then some (b.at_, Ev.turnS n.op, a) else none) := by show _ = _; rw [← HD.out]; exact Ev.against_two hk hab
  have HIA : Hid (NodeIn w a ∧ NodeIn w b) := by
    have h := HN.out
    cases h with
    | mk h1 h2 => exact ⟨h2 a (by rw [hab]; simp), h2 b (by rw [hab]; simp)⟩
  have HRW : Hid (ERow eNd w n.a [a, b]) := by
    have h := HN.out
    cases h with
    | mk h1 h2 => rw [← hab]; exact h1
  obtain ⟨ba, oa, hA, -, -⟩ := HRW.out.at_ (j := 0) (by simp)
  rw [hk] at c0
  rw [hl, hA] at c9
  have HRW : Hid (ERow eNd w (some ⟨ba, oa, none⟩) [a, b]) := by show ERow _ _ _ _; rw [← hA]; exact HRW.out
  have H1 := Lib.hid h1
  have H2 := Lib.hid hb2
  clear hk hl hab hA HN HD hcm
  obtain ⟨op, hop⟩ : ∃ op, n.op = op := ⟨_, rfl⟩
  have HC1 : Hid (∀ W, Below W2.heap.size W2 W → W.cell? ⟨g1, 1, none⟩ = some (txt op)) := fun W hW => by
    obtain ⟨-, c1, -⟩ := Blk.c10 (H1.out.below hW)
    rw [← hop]
    exact c1
  rw [hop] at c1 HDC
  clear hop c1
  go_upto_region 3 with fail
  go_cut [6, 7] (fun v6 v7 wx => ∃ g6 g7 : Nat, v6 = .pointer (some ⟨g6, 0, none⟩) ∧ v7 = .pointer (some ⟨g7, 0, none⟩) ∧ Hid (Blk wx g6 27 a.cells ∧ Blk wx g7 27 b.cells ∧ Below W2.heap.size W2 wx))
  case first =>
    have HAX : Hid (∀ W, Below W2.heap.size W2 W → ERow eNd W (some ⟨ba, oa, none⟩) [a, b]) := fun W h => HRW.out.below (HB2.out.then h)
    have hj0 : 0 < [a, b].length := by simp
    have hj1 : 1 < [a, b].length := by simp
    have hB : Below W2.heap.size W2 W2.drew := (Below.refl _ _).drewR
    have h1lt : g1 < W2.heap.size := H1.out.lt
    have c9 : W2.drew.cell? _ = _ := c9
    have hwd : W2.drew.heap.size = W2.heap.size := rfl
    clear c0 h1 hb2 HB2 HRW HDC HIA HG4 H1 H2 HC1
    refine wp_region_plan (.take 0 (.take 1 (.take 2 (.take 3 (.take 4 (.take 5 (.take 6 (.take 7 (.fork (.run 8 [0, 1, 2, 3, 4, 5, 6, 7] (.run 9 [0, 1, 2, 3, 4, 5, 6, 7] (.run 10 [4, 5, 6, 7] (.run 11 [] .fin)))) (.run 9 [0, 1, 2, 3, 4, 5, 6, 7] (.run 8 [0, 1, 2, 3, 4, 5, 6, 7] (.run 10 [4, 5, 6, 7] (.run 11 [] .fin))))))))))))) (by kernel_rfl) (by kernel_rfl) (by kernel_rfl) (by kernel_rfl) ?_
    repeat' (first | (refine hZ _ _ ?_; clear hZ) | (refine hZ _ ?_; clear hZ) | (refine hZ ?_; clear hZ) | rw [again_nil] | (rw [walk_fin]; go_wp2_with fail; go_meet; (case rel => exact ⟨_, _, rfl, rfl, h6, h7, hB⟩)) | (rw [walk_fork]; refine ⟨?_, ?_⟩) | ((first | rw [walk_take] | rw [walk_run] | rw [again_cons]); intro Z hZ; simp only [sel, List.getElem?_toArray, List.getElem?_cons_zero, List.getElem?_cons_succ]; go_wp2_with (first | (refine wpList_load_nd_is rfl (.tmp 20) rfl (HAX.out _ hB) hj0 a rfl rfl ?_) | (refine wpList_load_nd_is rfl (.tmp 24) rfl (HAX.out _ hB) hj1 b rfl rfl ?_) | (refine wpList_alloc_nd (o := ⟨some 6, _, _, _, _, _⟩) rfl rfl ?_; intro W h6 hz6 hn; (try replace h7 := h7.below hn); replace c9 := cell_later hn c9; replace hB := hB.then hn) | (refine wpList_alloc_nd (o := ⟨some 7, _, _, _, _, _⟩) rfl rfl ?_; intro W h7 hz7 hn; (try replace h6 := h6.below hn); replace c9 := cell_later hn c9; replace hB := hB.then hn) | (refine wpList_store_nd rfl rfl (.tmp 6) (.tmp 21) rfl _ rfl a rfl h6 ?_; intro W h6 hg; have hs' := hB.size; replace h7 := h7.grown hg (by simp only [ne_eq, Option.some.injEq]; omega); replace c9 := cell_kept hg (by omega) (by omega) c9; replace hB := below_of_grown hB hg (by omega) hB.size) | (refine wpList_store_nd rfl rfl (.tmp 7) (.tmp 25) rfl _ rfl b rfl h7 ?_; intro W h7 hg; have hs' := hB.size; replace h6 := h6.grown hg (by simp only [ne_eq, Option.some.injEq]; omega); replace hB := below_of_grown hB hg (by omega) hB.size))))
  case rest =>
    obtain ⟨g6, g7, rfl, rfl, HX⟩ := hcut
    have HBX : Hid (Below w.heap.size w wc) := HB2.out.then HX.out.2.2
    have HK : Hid (Below W2.heap.size W2 wc) := HX.out.2.2
    have h6 := HX.out.1
    have h7 := HX.out.2.1
    have h4 := H2.out.below HX.out.2.2
    have HEV := Lib.hid (fun m hm W hW => eval_any w none 0 [] ERow.nil (by simp) (by simp) m hm W hW)
    clear HX c0 c9 h1 hb2
    obtain ⟨a0, -, -, -, -, -, a6, -, -, -, -⟩ := Blk.c10 h6
    by_cases ha : a.k = 2
    · have HA := Lib.hid ha
      rw [ha] at a0
      clear ha
      obtain ⟨e0, e1, e2, e3, e4, e5, e6, e7, e8, e9, -⟩ := Blk.c10 h7
      go_wp2_with fail
      refine (show Calls _ _ #[b.v] _ _ from cols_any w b HIA.out.2 wc HBX.out).mono ?_
      rintro e w1 ⟨rfl, hB⟩
      have HBX := Lib.hid (HBX.out.then hB)
      have HK := Lib.hid (HK.out.then hB)
      have h6 := h6.below hB
      have h7 := h7.below hB
      have h4 := h4.below hB
      have a6 := cell_later hB a6
      clear hB a0 e0 e1 e2 e3 e4 e5 e6 e7 e8 e9
      cases hcb : Ev.hasCol b with
      | false =>
        have HF : Hid (D = some (a.at_, op, b)) := by show _ = _; rw [HDC.out, if_pos ⟨HA.out, hcb⟩]
        clear hcb
        go_upto_region 5 with fail
        have h7d := h7.drew
        have h4d := h4.drew
        have a6d : w1.drew.cell? _ = _ := a6
        have c1d := HC1.out w1.drew HK.out.drewR
        have HBD : Hid (Below w.heap.size w w1.drew) := HBX.out.drewR
        clear h6 h7 h4 a6
        refine wp_region_plan (.take 0 (.take 1 (.take 2 (.take 3 (.take 4 (.run 5 [0, 1, 2, 3] (.take 6 (.take 7 (.run 8 [] (.take 9 .fin)))))))))) (by kernel_rfl) (by kernel_rfl) (by kernel_rfl) (by kernel_rfl) ?_
        repeat' (first | (refine hZ _ _ ?_; clear hZ) | (refine hZ _ ?_; clear hZ) | (refine hZ ?_; clear hZ) | rw [again_nil] | rw [walk_fin] | ((first | rw [walk_take] | rw [walk_run] | rw [again_cons]); intro Z hZ; simp only [sel, List.getElem?_toArray, List.getElem?_cons_zero, List.getElem?_cons_succ]; go_wp2_with (refine wpList_load_nd rfl (.tmp 7) rfl g7 rfl h7d ?_)))
        refine (show Calls _ _ _ _ _ from HEV.out b HIA.out.2 w1.drew HBD.out).mono ?_
        rintro e w3 ⟨rfl, hB⟩
        have a6d := cell_later hB a6d
        have c1d := cell_later hB c1d
        have h4d := h4d.below hB
        have HB3 := Lib.hid (HBD.out.then hB)
        obtain ⟨x, hx⟩ : ∃ x, Ev.eval [] b = x := ⟨_, rfl⟩
        have HXE := Lib.hid hx
        rw [hx]
        clear hB h7d hx
        go_wp2_with fail
        repeat' (first | (refine hZ _ _ ?_; clear hZ) | (refine hZ _ ?_; clear hZ) | (refine hZ ?_; clear hZ) | rw [again_nil] | rw [walk_fin] | ((first | rw [walk_take] | rw [walk_run] | rw [again_cons]); intro Z hZ; simp only [sel, List.getElem?_toArray, List.getElem?_cons_zero, List.getElem?_cons_succ]; go_wp2_with (refine wpList_store_va rfl rfl (.tmp 4) (.tmp 40) rfl g4 rfl x rfl h4d ?_; intro Wa hba hga)))
        go_wp2_with fail
        exact ret_ag rfl rfl rfl rfl rfl rfl hba.va ⟨by rw [HF.out, ← HXE.out]; rfl, below_of_grown HB3.out hga (by have := HG4.out; omega) HB3.out.size⟩
      | true =>
        have HNO : Hid (¬ (a.k = 2 ∧ Ev.hasCol b = false)) := by rintro ⟨-, h⟩; rw [hcb] at h; cases h
        clear hcb a6
        obtain ⟨b0, -, -, -, -, -, b6, -, -, -, -⟩ := Blk.c10 h7
        by_cases hb : b.k = 2
        · have HBK := Lib.hid hb
          rw [hb] at b0
          clear hb
          obtain ⟨e0, e1, e2, e3, e4, e5, e6, e7, e8, e9, -⟩ := Blk.c10 h6
          go_wp2_with fail
          refine (show Calls _ _ #[a.v] _ _ from cols_any w a HIA.out.1 w1 HBX.out).mono ?_
          rintro e w2 ⟨rfl, hB⟩
          have HBX := Lib.hid (HBX.out.then hB)
          have HK := Lib.hid (HK.out.then hB)
          have h6 := h6.below hB
          have h4 := h4.below hB
          have b6 := cell_later hB b6
          clear hB b0 h7 e0 e1 e2 e3 e4 e5 e6 e7 e8 e9
          cases hca : Ev.hasCol a with
          | false =>
            have HF : Hid (D = some (b.at_, Ev.turnS op, a)) := by show _ = _; rw [HDC.out, if_neg HNO.out, if_pos ⟨HBK.out, hca⟩]
            clear hca
            go_upto_region 7 with fail
            have h6d := h6.drew
            have h4d := h4.drew
            have b6d : w2.drew.cell? _ = _ := b6
            have c1d := HC1.out w2.drew HK.out.drewR
            have HBD : Hid (Below w.heap.size w w2.drew) := HBX.out.drewR
            clear h6 h4 b6
            refine wp_region_plan (.take 0 (.take 1 (.take 2 (.take 3 (.take 5 (.run 4 [0, 1, 5] (.run 6 [0, 1] (.take 7 (.take 8 (.run 9 [] (.take 10 .fin))))))))))) (by kernel_rfl) (by kernel_rfl) (by kernel_rfl) (by kernel_rfl) ?_
            repeat' (first | (refine hZ _ _ ?_; clear hZ) | (refine hZ _ ?_; clear hZ) | (refine hZ ?_; clear hZ) | rw [again_nil] | rw [walk_fin] | ((first | rw [walk_take] | rw [walk_run] | rw [again_cons]); intro Z hZ; simp only [sel, List.getElem?_toArray, List.getElem?_cons_zero, List.getElem?_cons_succ]; go_wp2_with (refine wpList_load_nd rfl (.tmp 6) rfl g6 rfl h6d ?_)))
            refine (turn_any w2.drew op).mono ?_
            rintro e w4 ⟨rfl, h4e⟩
            rw [h4e]
            clear h4e
            go_wp2_with fail
            repeat' (first | (refine hZ _ _ ?_; clear hZ) | (refine hZ _ ?_; clear hZ) | (refine hZ ?_; clear hZ) | rw [again_nil] | rw [walk_fin] | ((first | rw [walk_take] | rw [walk_run] | rw [again_cons]); intro Z hZ; simp only [sel, List.getElem?_toArray, List.getElem?_cons_zero, List.getElem?_cons_succ]; go_wp2_with (refine wpList_load_nd rfl (.tmp 6) rfl g6 rfl h6d ?_)))
            refine (show Calls _ _ _ _ _ from HEV.out a HIA.out.1 w2.drew HBD.out).mono ?_
            rintro e w3 ⟨rfl, hB⟩
            have b6d := cell_later hB b6d
            have h4d := h4d.below hB
            have HB3 := Lib.hid (HBD.out.then hB)
            obtain ⟨x, hx⟩ : ∃ x, Ev.eval [] a = x := ⟨_, rfl⟩
            have HXE := Lib.hid hx
            rw [hx]
            clear hB h6d hx c1d
            go_wp2_with fail
            repeat' (first | (refine hZ _ _ ?_; clear hZ) | (refine hZ _ ?_; clear hZ) | (refine hZ ?_; clear hZ) | rw [again_nil] | rw [walk_fin] | ((first | rw [walk_take] | rw [walk_run] | rw [again_cons]); intro Z hZ; simp only [sel, List.getElem?_toArray, List.getElem?_cons_zero, List.getElem?_cons_succ]; go_wp2_with (refine wpList_store_va rfl rfl (.tmp 4) (.tmp 56) rfl g4 rfl x rfl h4d ?_; intro Wa hba hga)))
            go_wp2_with fail
            exact ret_ag rfl rfl rfl rfl rfl rfl hba.va ⟨by rw [HF.out, ← HXE.out]; rfl, below_of_grown HB3.out hga (by have := HG4.out; omega) HB3.out.size⟩
          | true =>
            have HF : Hid (D = none) := by show _ = _; rw [HDC.out, if_neg HNO.out, if_neg (by rintro ⟨-, h⟩; rw [hca] at h; cases h)]
            clear hca
            go_wp2_with (refine wpList_store_va rfl rfl (.tmp 4) (.tmp 57) rfl g4 rfl Key.nul rfl h4 ?_; intro Wa hba hga)
            exact ret_ag rfl rfl rfl rfl rfl rfl hba.va ⟨by rw [HF.out]; rfl, below_of_grown HBX.out hga (by have := HG4.out; omega) HBX.out.size⟩
        · have HF : Hid (D = none) := by show _ = _; rw [HDC.out, if_neg HNO.out, if_neg (fun h => hb h.1)]
          have hbb : (b.k == 2) = false := by simpa using hb
          clear hb
          go_wp2_with (refine wpList_store_va rfl rfl (.tmp 4) (.tmp 57) rfl g4 rfl Key.nul rfl h4 ?_; intro Wa hba hga)
          exact ret_ag rfl rfl rfl rfl rfl rfl hba.va ⟨by rw [HF.out]; rfl, below_of_grown HBX.out hga (by have := HG4.out; omega) HBX.out.size⟩
    · have HNO : Hid (¬ (a.k = 2 ∧ Ev.hasCol b = false)) := fun h => ha h.1
      have hab : (a.k == 2) = false := by simpa using ha
      clear ha a6
      obtain ⟨b0, -, -, -, -, -, b6, -, -, -, -⟩ := Blk.c10 h7
      by_cases hb : b.k = 2
      · have HBK := Lib.hid hb
        rw [hb] at b0
        clear hb
        obtain ⟨e0, e1, e2, e3, e4, e5, e6, e7, e8, e9, -⟩ := Blk.c10 h6
        go_wp2_with fail
        refine (show Calls _ _ #[a.v] _ _ from cols_any w a HIA.out.1 wc HBX.out).mono ?_
        rintro e w2 ⟨rfl, hB⟩
        have HBX := Lib.hid (HBX.out.then hB)
        have HK := Lib.hid (HK.out.then hB)
        have h6 := h6.below hB
        have h4 := h4.below hB
        have b6 := cell_later hB b6
        clear hB b0 h7 e0 e1 e2 e3 e4 e5 e6 e7 e8 e9
        cases hca : Ev.hasCol a with
        | false =>
          have HF : Hid (D = some (b.at_, Ev.turnS op, a)) := by show _ = _; rw [HDC.out, if_neg HNO.out, if_pos ⟨HBK.out, hca⟩]
          clear hca
          go_upto_region 7 with fail
          have h6d := h6.drew
          have h4d := h4.drew
          have b6d : w2.drew.cell? _ = _ := b6
          have c1d := HC1.out w2.drew HK.out.drewR
          have HBD : Hid (Below w.heap.size w w2.drew) := HBX.out.drewR
          clear h6 h4 b6
          refine wp_region_plan (.take 0 (.take 1 (.take 2 (.take 3 (.take 5 (.run 4 [0, 1, 5] (.run 6 [0, 1] (.take 7 (.take 8 (.run 9 [] (.take 10 .fin))))))))))) (by kernel_rfl) (by kernel_rfl) (by kernel_rfl) (by kernel_rfl) ?_
          repeat' (first | (refine hZ _ _ ?_; clear hZ) | (refine hZ _ ?_; clear hZ) | (refine hZ ?_; clear hZ) | rw [again_nil] | rw [walk_fin] | ((first | rw [walk_take] | rw [walk_run] | rw [again_cons]); intro Z hZ; simp only [sel, List.getElem?_toArray, List.getElem?_cons_zero, List.getElem?_cons_succ]; go_wp2_with (refine wpList_load_nd rfl (.tmp 6) rfl g6 rfl h6d ?_)))
          refine (turn_any w2.drew op).mono ?_
          rintro e w4 ⟨rfl, h4e⟩
          rw [h4e]
          clear h4e
          go_wp2_with fail
          repeat' (first | (refine hZ _ _ ?_; clear hZ) | (refine hZ _ ?_; clear hZ) | (refine hZ ?_; clear hZ) | rw [again_nil] | rw [walk_fin] | ((first | rw [walk_take] | rw [walk_run] | rw [again_cons]); intro Z hZ; simp only [sel, List.getElem?_toArray, List.getElem?_cons_zero, List.getElem?_cons_succ]; go_wp2_with (refine wpList_load_nd rfl (.tmp 6) rfl g6 rfl h6d ?_)))
          refine (show Calls _ _ _ _ _ from HEV.out a HIA.out.1 w2.drew HBD.out).mono ?_
          rintro e w3 ⟨rfl, hB⟩
          have b6d := cell_later hB b6d
          have h4d := h4d.below hB
          have HB3 := Lib.hid (HBD.out.then hB)
          obtain ⟨x, hx⟩ : ∃ x, Ev.eval [] a = x := ⟨_, rfl⟩
          have HXE := Lib.hid hx
          rw [hx]
          clear hB h6d hx c1d
          go_wp2_with fail
          repeat' (first | (refine hZ _ _ ?_; clear hZ) | (refine hZ _ ?_; clear hZ) | (refine hZ ?_; clear hZ) | rw [again_nil] | rw [walk_fin] | ((first | rw [walk_take] | rw [walk_run] | rw [again_cons]); intro Z hZ; simp only [sel, List.getElem?_toArray, List.getElem?_cons_zero, List.getElem?_cons_succ]; go_wp2_with (refine wpList_store_va rfl rfl (.tmp 4) (.tmp 56) rfl g4 rfl x rfl h4d ?_; intro Wa hba hga)))
          go_wp2_with fail
          exact ret_ag rfl rfl rfl rfl rfl rfl hba.va ⟨by rw [HF.out, ← HXE.out]; rfl, below_of_grown HB3.out hga (by have := HG4.out; omega) HB3.out.size⟩
        | true =>
          have HF : Hid (D = none) := by show _ = _; rw [HDC.out, if_neg HNO.out, if_neg (by rintro ⟨-, h⟩; rw [hca] at h; cases h)]
          clear hca
          go_wp2_with (refine wpList_store_va rfl rfl (.tmp 4) (.tmp 57) rfl g4 rfl Key.nul rfl h4 ?_; intro Wa hba hga)
          exact ret_ag rfl rfl rfl rfl rfl rfl hba.va ⟨by rw [HF.out]; rfl, below_of_grown HBX.out hga (by have := HG4.out; omega) HBX.out.size⟩
      · have HF : Hid (D = none) := by show _ = _; rw [HDC.out, if_neg HNO.out, if_neg (fun h => hb h.1)]
        have hbb : (b.k == 2) = false := by simpa using hb
        clear hb
        go_wp2_with (refine wpList_store_va rfl rfl (.tmp 4) (.tmp 57) rfl g4 rfl Key.nul rfl h4 ?_; intro Wa hba hga)
        exact ret_ag rfl rfl rfl rfl rfl rfl hba.va ⟨by rw [HF.out]; rfl, below_of_grown HBX.out hga (by have := HG4.out; omega) HBX.out.size⟩
end Go.Proofs.YtjdffhonljhpcaaGreat
end

section
/-
  The contracts of stats.Guess's of and of the document's of.
-/
namespace Go.Proofs.YtjdffhonljhpcaaGreat
set_option linter.unusedSimpArgs false
set_option linter.unusedVariables false
open Go.RowKit

namespace Ev
/-- How many rows a column's table has, and what is known of it. -/
def ofN (at_ : Int) (rows : List Int) (cols : List Cs) : Int × Cs :=
  if 0 ≤ at_ ∧ at_ < rows.length ∧ at_ < cols.length then (rowsN (rows.getD at_.toNat 0), clnC (rows.getD at_.toNat 0) (cols.getD at_.toNat Cs.nul)) else (0, Cs.nul)
theorem ofN_no {at_ : Int} {rows : List Int} {cols : List Cs} (h : ¬ (0 ≤ at_ ∧ at_ < rows.length ∧ at_ < cols.length)) : ofN at_ rows cols = (0, Cs.nul) := by unfold ofN; rw [if_neg h]
theorem ofN_at {j : Nat} {rows : List Int} {cols : List Cs} (h : j < rows.length) (k : j < cols.length) : ofN (j : Int) rows cols = (rowsN rows[j], clnC rows[j] cols[j]) := by
  unfold ofN
  rw [if_pos ⟨by omega, by omega, by omega⟩]
  simp [List.getD, h, k]
end Ev
/-- Rows and columns, as they can be read. -/
structure RC (w : World) (A : Option Addr) (rows : List Int) (B : Option Addr) (cols : List Cs) : Prop where
  r : ERow eI64 w A rows
  c : CsIn w B cols
  rl : rows.length ≤ 30
  cl : cols.length ≤ 30
theorem RC.below {w W : World} {A B : Option Addr} {rows : List Int} {cols : List Cs} (h : RC w A rows B cols) (hB : Below w.heap.size w W) : RC W A rows B cols := ⟨h.r.below hB, h.c.below hB, h.rl, h.cl⟩
/-- What of answers. -/
def RetOf (w : World) (x : Int × Cs) (e : Ending) (w' : World) : Prop := e = .returned (.tuple #[.int .i64 x.1, x.2.v]) ∧ Below w.heap.size w w'
set_option maxRecDepth 20000 in
set_option maxHeartbeats 4000000 in
theorem gof_any (w : World) (g4 g5 : Nat) (A B : Option Addr) (ca cb : Nat) (rows : List Int) (cols : List Cs) (h4 : Blk w g4 49 [.slice A rows.length ca]) (h5 : Blk w g5 52 [.slice B cols.length cb]) (hrc : RC w A rows B cols) (at_ : Int) (hat : Ev.inB at_) :
    Calls Tryz.prog 66 #[.int .i64 at_, .pointer (some ⟨g4, 0, none⟩), .pointer (some ⟨g5, 0, none⟩)] w (RetOf w (Ev.ofN at_ rows cols)) := by
  have HRC := Lib.hid hrc
  have hl1 := hrc.rl
  have hl2 := hrc.cl
  clear hrc
  go_enter Tryz.func66, Tryz.ntmps66
  go_upto_region 1 with (refine wpList_alloc_cs rfl rfl ?_; intro W1 hb1 hz1 hB1)
  have HB1 := Lib.hid hB1
  have H4 := h4.below hB1
  have H5 := h5.below hB1
  have hg0 : w.heap.size ≤ w.heap.size := Nat.le_refl _
  obtain ⟨g3, hg3⟩ : ∃ g, w.heap.size = g := ⟨_, rfl⟩
  have HG3 : Hid (w.heap.size ≤ g3) := by show _ ≤ _; omega
  rw [hg3] at hb1
  rw [hg3]
  clear hB1 h4 h5 hz1 hg0 hg3
  have d4 := H4.cell 0
  have d5 := H5.cell 0
  simp only [List.getElem?_cons_zero] at d4 d5
  by_cases hc : 0 ≤ at_ ∧ at_ < rows.length ∧ at_ < cols.length
  · obtain ⟨j, hj⟩ := Int.eq_ofNat_of_zero_le hc.1
    have hj1 : j < rows.length := by omega
    have hj2 : j < cols.length := by omega
    have hi1 : (j : Int) < (rows.length : Int) := by omega
    have hi2 : (j : Int) < (cols.length : Int) := by omega
    have hn1 : ¬ (rows.length : Int) ≤ (j : Int) := by omega
    have hn2 : ¬ (cols.length : Int) ≤ (j : Int) := by omega
    have HOF : Hid (Ev.ofN at_ rows cols = (Ev.rowsN rows[j], Ev.clnC rows[j] cols[j])) := by show _ = _; rw [hj]; exact Ev.ofN_at hj1 hj2
    rw [hj]
    obtain ⟨b1, o1, rfl, -, q0⟩ := i64_at (HRC.out.r.below HB1.out.drewR) hj1
    obtain ⟨b2, o2, rfl, -, -⟩ := HRC.out.c.r.at_ hj2
    have HCR : Hid (ERow eCs W1.drew (some ⟨b2, o2, none⟩) cols) := HRC.out.c.r.below HB1.out.drewR
    have d4' : W1.drew.cell? _ = _ := d4
    have d5' : W1.drew.cell? _ = _ := d5
    have hb1d := hb1.drew
    obtain ⟨x, hx⟩ : ∃ x, rows[j] = x := ⟨_, rfl⟩
    obtain ⟨y, hy⟩ : ∃ y, cols[j] = y := ⟨_, rfl⟩
    rw [hx] at q0
    have HOF : Hid (Ev.ofN at_ rows cols = (Ev.rowsN x, Ev.clnC x y)) := by show _ = _; rw [HOF.out, hx, hy]
    rw [← hj]
    rw [hj] at hc ⊢
    clear hc hx hb1
    go_upto_region 3 with fail
    refine wp_region_plan (.take 0 (.take 1 (.take 2 (.take 3 (.take 4 (.take 5 (.take 6 (.take 7 (.run 8 [] (.take 9 (.take 10 (.take 11 (.run 12 [] .fin))))))))))))) (by kernel_rfl) (by kernel_rfl) (by kernel_rfl) (by kernel_rfl) ?_
    repeat' (first | (refine hZ _ _ ?_; clear hZ) | (refine hZ _ ?_; clear hZ) | (refine hZ ?_; clear hZ) | rw [again_nil] | rw [walk_fin] | ((first | rw [walk_take] | rw [walk_run] | rw [again_cons]); intro Z hZ; simp only [sel, List.getElem?_toArray, List.getElem?_cons_zero, List.getElem?_cons_succ]; go_wp2_with (refine wpList_load_cs_is rfl (.tmp 27) rfl HCR.out hj2 y hy rfl ?_)))
    refine (stclean_any W1.drew x y).mono ?_
    rintro e W2 ⟨rfl, hB2⟩
    have hb2 := hb1d.below hB2
    have HB2 := Lib.hid (HB1.out.drewR.trans (hB2.mono HB1.out.size))
    clear hB2 hb1d q0 d4 d5 d4' d5'
    generalize Ev.rowsN x = X at HOF ⊢
    generalize Ev.clnC x y = Y at HOF ⊢
    go_wp2_with fail
    repeat' (first | (refine hZ _ _ ?_; clear hZ) | (refine hZ _ ?_; clear hZ) | (refine hZ ?_; clear hZ) | rw [again_nil] | rw [walk_fin] | ((first | rw [walk_take] | rw [walk_run] | rw [again_cons]); intro Z hZ; simp only [sel, List.getElem?_toArray, List.getElem?_cons_zero, List.getElem?_cons_succ]; go_wp2_with (refine wpList_store_cs rfl rfl (.tmp 5) (.tmp 31) rfl g3 rfl Y rfl hb2 ?_; intro W3 hb3 hg3)))
    go_wp2_with fail
    refine ret_mem2r rfl rfl rfl rfl hb3.cs ⟨?_, below_of_grown HB2.out hg3 HG3.out HB2.out.size⟩
    rw [← hj, HOF.out]
    rfl
  · have HF : Hid (Ev.ofN at_ rows cols = (0, Cs.nul)) := Ev.ofN_no hc
    by_cases h0 : at_ < 0
    · go_wp2_with (refine wpList_store_cs rfl rfl (.tmp 5) (.tmp 20) rfl g3 rfl Cs.nul rfl hb1 ?_; intro W3 hb3 hg3)
      exact ret_mem2r rfl rfl rfl rfl hb3.cs ⟨by rw [HF.out]; rfl, below_of_grown HB1.out hg3 HG3.out HB1.out.size⟩
    · by_cases hr : at_ < rows.length
      · have hr2 : ¬ (rows.length : Int) ≤ at_ := by omega
        have hr3 : (cols.length : Int) ≤ at_ := by omega
        go_wp2_with (refine wpList_store_cs rfl rfl (.tmp 5) (.tmp 20) rfl g3 rfl Cs.nul rfl hb1 ?_; intro W3 hb3 hg3)
        exact ret_mem2r rfl rfl rfl rfl hb3.cs ⟨by rw [HF.out]; rfl, below_of_grown HB1.out hg3 HG3.out HB1.out.size⟩
      · have hr2 : (rows.length : Int) ≤ at_ := by omega
        go_wp2_with (refine wpList_store_cs rfl rfl (.tmp 5) (.tmp 20) rfl g3 rfl Cs.nul rfl hb1 ?_; intro W3 hb3 hg3)
        exact ret_mem2r rfl rfl rfl rfl hb3.cs ⟨by rw [HF.out]; rfl, below_of_grown HB1.out hg3 HG3.out HB1.out.size⟩
end Go.Proofs.YtjdffhonljhpcaaGreat
end

section
/-
  The contract of stats.Guess.
-/
namespace Go.Proofs.YtjdffhonljhpcaaGreat
set_option linter.unusedSimpArgs false
set_option linter.unusedVariables false
open Go.RowKit

namespace Ev
def nullN (no : Bool) (x : Int × Cs) : Int := if x.1 = 0 then 0 else if no then 1000 * (x.1 - x.2.n) / x.1 else 1000 * x.2.n / x.1
/-- A part of a node. -/
def prt (n : Nd) (i : Nat) : Nd := n.args.getD i Nd.nil
def guess0 (n : Nd) (rows : List Int) (cols : List Cs) : Int :=
  if n.k = 9 ∧ n.args.length = 1 ∧ (prt n 0).k = 2 then nullN n.no (ofN (prt n 0).at_ rows cols) else
  if n.k = 7 ∧ n.op = [61] ∧ n.args.length = 2 ∧ (prt n 0).k = 2 ∧ (prt n 1).k = 2 then 1000 / max (max 1 (ofN (prt n 0).at_ rows cols).2.d) (ofN (prt n 1).at_ rows cols).2.d else 333
/-- How many of a thousand rows are guessed. -/
def guessN (n : Nd) (rows : List Int) (cols : List Cs) : Int :=
  match against n with
  | some y => shareN (ofN y.1 rows cols).1 (ofN y.1 rows cols).2 y.2.1 (eval [] y.2.2)
  | none => guess0 n rows cols
end Ev
theorem against_in {n : Nd} {w : World} (h : NodeIn w n) {y : Int × List UInt8 × Nd} (hy : Ev.against n = some y) : Ev.inB y.1 ∧ NodeIn w y.2.2 := by
  obtain ⟨hk, hl⟩ : n.k = 7 ∧ n.args.length = 2 := by
    by_cases hk : n.k = 7
    · by_cases hl : n.args.length = 2
      · exact ⟨hk, hl⟩
      · rw [Ev.against_no (.inr hl)] at hy; cases hy
    · rw [Ev.against_no (.inl hk)] at hy; cases hy
  obtain ⟨a, b, hab⟩ : ∃ a b, n.args = [a, b] := by
    match n.args, hl with
    | [a, b], _ => exact ⟨a, b, rfl⟩
  have hin : NodeIn w a ∧ NodeIn w b := by
    cases h with
    | mk h1 h2 => exact ⟨h2 a (by rw [hab]; simp), h2 b (by rw [hab]; simp)⟩
  have hat : ∀ m : Nd, NodeIn w m → Ev.inB m.at_ := fun m hm => by cases hm with | mk h1 h2 h3 h4 h5 h6 => exact h6
  rw [Ev.against_two hk hab] at hy
  split at hy
  · cases hy; exact ⟨hat _ hin.1, hin.2⟩
  · split at hy
    · cases hy; exact ⟨hat _ hin.2, hin.1⟩
    · cases hy
theorem nd_below15 {w W : World} {n : Nd} (h : NodeIn w n) (hB : Below w.heap.size w W) : NodeIn W n := by
  induction h with
  | @mk n hr hin hlit hls hk hat hc hm ih => exact .mk (hr.below hB) ih hlit hls hk hat hc hm
theorem ofN_row {w : World} {A B : Option Addr} {rows : List Int} {cols : List Cs} (h : RC w A rows B cols) (at_ : Int) : ERow eI64 w (Ev.ofN at_ rows cols).2.a (Ev.ofN at_ rows cols).2.b ∧ (Ev.ofN at_ rows cols).2.b.length ≤ 1000 := by
  unfold Ev.ofN
  split
  · next hc =>
    obtain ⟨j, hj⟩ := Int.eq_ofNat_of_zero_le hc.1
    have hj2 : j < cols.length := by omega
    have e : cols.getD at_.toNat Cs.nul = cols[j] := by rw [hj]; simp [List.getD, hj2]
    have hm : cols[j] ∈ cols := List.getElem_mem hj2
    rw [e]
    exact ⟨h.c.rr cols[j] hm, h.c.lens cols[j] hm⟩
  · exact ⟨ERow.nil, by show ([] : List Int).length ≤ 1000; simp⟩
theorem ofN_le (at_ : Int) (rows : List Int) (cols : List Cs) : 0 ≤ (Ev.ofN at_ rows cols).1 ∧ (Ev.ofN at_ rows cols).1 ≤ 1099511627776 ∧ 0 ≤ (Ev.ofN at_ rows cols).2.n ∧ (Ev.ofN at_ rows cols).2.n ≤ (Ev.ofN at_ rows cols).1 ∧ 0 ≤ (Ev.ofN at_ rows cols).2.d ∧ (Ev.ofN at_ rows cols).2.d ≤ (Ev.ofN at_ rows cols).1 := by
  unfold Ev.ofN
  split
  · have h1 := Ev.rowsN_le (rows.getD at_.toNat 0)
    have h2 := Ev.near_le (n := (cols.getD at_.toNat Cs.nul).n) h1.1
    have h3 := Ev.near_le (n := (cols.getD at_.toNat Cs.nul).d) h1.1
    exact ⟨h1.1, h1.2, h2.1, h2.2, h3.1, h3.2⟩
  · exact ⟨by decide, by decide, by decide, by decide, by decide, by decide⟩
theorem nd_at06 {w : World} {A : Option Addr} {L : List Nd} (h : ERow eNd w A L) {j : Nat} (hj : j < L.length) : ∃ b o, A = some ⟨b, o, none⟩ ∧ w.cell? ⟨b, o + j * 10, none⟩ = some (.int .i64 L[j].k) ∧ w.cell? ⟨b, o + j * 10 + 6, none⟩ = some (.int .i64 L[j].at_) := by
  obtain ⟨b, o, e, hb, hc⟩ := h.at_ hj
  exact ⟨b, o, e, hc 0 _ rfl, hc 6 _ rfl⟩
/-- What Guess answers. -/
def RetN (w : World) (k : Int) (e : Ending) (w' : World) : Prop := e = .returned (.int .i64 k) ∧ Below w.heap.size w w'
set_option maxRecDepth 100000 in
set_option maxHeartbeats 8000000 in
theorem guess_any (w : World) (A B : Option Addr) (ca cb : Nat) (rows : List Int) (cols : List Cs) (hrc : RC w A rows B cols) (n : Nd) (hn : NodeIn w n) :
    Calls Tryz.prog 46 #[n.v, .slice A rows.length ca, .slice B cols.length cb] w (RetN w (Ev.guessN n rows cols)) := by
  have HRC := Lib.hid hrc
  have HN := Lib.hid hn
  clear hrc hn
  have hmf : ∀ (fn : Fn) (first cap : Array Value) (w : World), (Instr.makeFunc fn first cap).run Tryz.prog w = .ok (.func fn first cap) w := fun _ _ _ _ => rfl
  obtain ⟨D, hD⟩ : ∃ D, Ev.guessN n rows cols = D := ⟨_, rfl⟩
  rw [hD]
  have HD := Lib.hid hD
  clear hD
  go_enter Tryz.func46, Tryz.ntmps46
  go_upto_region 1 with (refine wpList_box_nd rfl (.tmp 0) rfl n rfl ?_; intro W1 hb1 hz1 hB1)
  generalize hW2 : ((World.alloc W1 (.cells _ _)).alloc (.cells _ _)) = W2
  obtain ⟨ba2, bb2, hz2, hB2⟩ := fresh2 hW2
  clear hW2
  have h3 := hb1.below hB2
  have HB2 := Lib.hid (hB1.then hB2)
  have hs3 : w.heap.size < W1.heap.size := by omega
  clear hb1 hB1 hB2 hz1
  obtain ⟨g4, hg4⟩ : ∃ g, W1.heap.size = g := ⟨_, rfl⟩
  obtain ⟨g3, hg3⟩ : ∃ g, w.heap.size = g := ⟨_, rfl⟩
  rw [hg4] at ba2 bb2 hs3 hz2
  rw [hg3] at h3 hs3
  rw [hg4, hg3]
  have HG3 : Hid (w.heap.size ≤ g3) := by show _ ≤ _; omega
  clear hg4 hg3
  have H4 := Lib.hid ba2
  have H5 := Lib.hid bb2
  have H3 := Lib.hid h3
  clear ba2 bb2
  go_wp2_with (refine wpList_load_nd rfl (.tmp 3) rfl g3 rfl h3 ?_)
  refine (against_any W2 n (nd_below15 HN.out HB2.out)).mono ?_
  rintro e W3 ⟨rfl, hB⟩
  have HK3 := Lib.hid hB
  have HGO := Lib.hid (fun W (hW : Below W2.heap.size W2 W) at_ hat => gof_any W g4 (g4 + 1) A B ca cb rows cols (H4.out.below hW) (H5.out.below hW) ((HRC.out.below HB2.out).below hW) at_ hat)
  clear hB h3
  cases hag : Ev.against n with
  | some y =>
    obtain ⟨at_, op, m⟩ := y
    have HY := Lib.hid (against_in HN.out hag)
    have HF : Hid (D = Ev.shareN (Ev.ofN at_ rows cols).1 (Ev.ofN at_ rows cols).2 op (Ev.eval [] m)) := by show _ = _; rw [← HD.out]; unfold Ev.guessN; rw [hag]
    clear hag
    have HVO := Lib.hid (Ev.eval_ok (row := []) (by simp) HY.out.2)
    rw [show Ev.agAt (some (at_, op, m)) = at_ from rfl, show Ev.agOp (some (at_, op, m)) = op from rfl, show Ev.agV (some (at_, op, m)) = Ev.eval [] m from rfl, show (some (at_, op, m)).isSome = true from rfl]
    have HVO : Hid ((Ev.eval [] m).ok) := HVO.out
    generalize Ev.eval [] m = v at HF HVO ⊢
    go_upto_region 4 with (first | (refine wpList_alloc_va rfl rfl ?_; intro W4 h10 hz4 hB4) | (refine wpList_store_va rfl rfl (.tmp 10) (.tmp 26) rfl W3.heap.size rfl v rfl h10 ?_; intro W5 h105 hg5))
    have HK5 : Hid (Below W2.heap.size W2 W5) := below_of_grown (HK3.out.then hB4) hg5 HK3.out.size (Nat.le_trans HK3.out.size hB4.size)
    clear h10 hz4 hB4 hg5
    obtain ⟨ga, hga⟩ : ∃ g, W3.heap.size = g := ⟨_, rfl⟩
    rw [hga] at h105
    rw [hga]
    clear hga
    go_wp2_with fail
    refine (HGO.out W5 HK5.out at_ HY.out.1).mono ?_
    rintro e W6 ⟨rfl, hB⟩
    have h106 := h105.below hB
    have HK6 := Lib.hid (HK5.out.then hB)
    have HOR := Lib.hid (ofN_row ((HRC.out.below HB2.out).below HK6.out) at_)
    obtain ⟨x, hx⟩ : ∃ x, Ev.ofN at_ rows cols = x := ⟨_, rfl⟩
    rw [hx]
    have HF : Hid (D = Ev.shareN x.1 x.2 op v) := by show _ = _; rw [← hx]; exact HF.out
    have HOR : Hid (ERow eI64 W6 x.2.a x.2.b ∧ x.2.b.length ≤ 1000) := by rw [← hx]; exact HOR.out
    clear hx hB h105
    obtain ⟨r, c⟩ := x
    go_upto_region 5 with (first | (refine wpList_alloc_cs rfl rfl ?_; intro W7 h13 hz7 hB7) | (refine wpList_store_cs rfl rfl (.tmp 13) (.tmp 34) rfl W6.heap.size rfl c rfl h13 ?_; intro W8 h138 hg8))
    have h108 := (h106.below hB7).grown hg8 (by have := h106.lt; simp; omega)
    have HK8 : Hid (Below W2.heap.size W2 W8) := below_of_grown (HK6.out.then hB7) hg8 HK6.out.size (Nat.le_trans HK6.out.size hB7.size)
    have HR8 : Hid (ERow eI64 W8 c.a c.b ∧ c.b.length ≤ 1000) := ⟨HOR.out.1.below (below_of_grown hB7 hg8 (Nat.le_refl _) hB7.size), HOR.out.2⟩
    clear h13 hz7 hB7 hg8 h106
    obtain ⟨gb, hgb⟩ : ∃ g, W6.heap.size = g := ⟨_, rfl⟩
    rw [hgb] at h138
    rw [hgb]
    clear hgb
    go_wp2_with (first | (refine wpList_load_cs rfl (.tmp 13) rfl gb rfl h138 ?_) | (refine wpList_load_va rfl (.tmp 10) rfl ga rfl h108 ?_))
    refine (share_any W8 r c op v HVO.out HR8.out.1 HR8.out.2).mono ?_
    rintro e W9 ⟨rfl, hB⟩
    have HB9 := Lib.hid (HB2.out.then (HK8.out.then hB))
    clear hB
    go_wp2_with fail
    go_ret
    exact ⟨by rw [HF.out]; rfl, HB9.out⟩
  | none =>
    have HF : Hid (D = Ev.guess0 n rows cols) := by show _ = _; rw [← HD.out]; unfold Ev.guessN; rw [hag]
    clear hag
    rw [show Ev.agAt none = 0 from rfl, show Ev.agOp none = [] from rfl, show Ev.agV none = Key.nul from rfl, show (none : Option (Int × List UInt8 × Nd)).isSome = false from rfl]
    go_upto_region 6 with (first | (refine wpList_alloc_va rfl rfl ?_; intro W4 h10 hz4 hB4) | (refine wpList_store_va rfl rfl (.tmp 10) (.tmp 26) rfl W3.heap.size rfl Key.nul rfl h10 ?_; intro W5 h105 hg5))
    have HK5 : Hid (Below W2.heap.size W2 W5) := below_of_grown (HK3.out.then hB4) hg5 HK3.out.size (Nat.le_trans HK3.out.size hB4.size)
    clear h10 hz4 hB4 hg5 h105
    have hgs := guard_str_is
    have h3 := H3.out.below HK5.out
    have HN5 := Lib.hid (nd_below15 HN.out (HB2.out.then HK5.out))
    have HNC : Hid (n.args.length ≤ 9223372036854775807) := by show _ ≤ _; have h := HN.out; cases h with | mk h1 h2 h3 h4 h5 h6 h7 h8 => unfold maxLen at h8; omega
    have HBW : Hid (Below w.heap.size w W5) := HB2.out.then HK5.out
    have hncm := HNC.out
    obtain ⟨c0, c1, -, -, -, -, -, c7, -, c9, -⟩ := Blk.c10 h3
    by_cases hk9 : n.k = 9
    · by_cases hl : n.args.length = 1
      · obtain ⟨a, hab⟩ : ∃ a, n.args = [a] := by
          match n.args, hl with
          | [a], _ => exact ⟨a, rfl⟩
        have HP : Hid (Ev.prt n 0 = a) := by show _ = _; unfold Ev.prt; rw [hab]; rfl
        have HA : Hid (Ev.inB a.at_) := by
          have h := HN.out
          cases h with
          | mk h1 h2 => have hm := h2 a (by rw [hab]; simp); cases hm with | mk h1 h2 h3 h4 h5 h6 => exact h6
        have HRW : Hid (ERow eNd W5 n.a [a]) := by
          have h := HN5.out
          cases h with
          | mk h1 h2 => rw [← hab]; exact h1
        obtain ⟨ba, oa, hA, a0, a6⟩ := nd_at06 HRW.out (j := 0) (by simp)
        simp only [List.getElem_cons_zero, Nat.zero_mul, Nat.add_zero] at a0 a6
        rw [hl, hA] at c9
        rw [hk9] at c0
        by_cases ha : a.k = 2
        · have HF2 : Hid (D = Ev.nullN n.no (Ev.ofN a.at_ rows cols)) := by show _ = _; rw [HF.out]; unfold Ev.guess0; rw [HP.out, if_pos ⟨hk9, hl, ha⟩]
          rw [ha] at a0
          clear hk9 hl hab hA ha hncm
          go_wp2_with fail
          refine (HGO.out W5 HK5.out a.at_ HA.out).mono ?_
          rintro e W6 ⟨rfl, hB⟩
          have h36 := h3.below hB
          have HK6 := Lib.hid (HK5.out.then hB)
          have hle := ofN_le a.at_ rows cols
          generalize Ev.ofN a.at_ rows cols = x at HF2 hle ⊢
          obtain ⟨r, c⟩ := x
          simp only at hle
          clear hB a0 a6 c0 c1 c7 c9
          go_upto_region 8 with (first | (refine wpList_alloc_cs rfl rfl ?_; intro W7 h13 hz7 hB7) | (refine wpList_store_cs rfl rfl (.tmp 15) (.tmp 66) rfl W6.heap.size rfl c rfl h13 ?_; intro W8 h138 hg8))
          have h38 := (h36.below hB7).grown hg8 (by have := h36.lt; simp; omega)
          have HK8 : Hid (Below w.heap.size w W8) := HB2.out.then (below_of_grown (HK6.out.then hB7) hg8 HK6.out.size (Nat.le_trans HK6.out.size hB7.size))
          clear h13 hz7 hB7 hg8 h36
          obtain ⟨-, -, -, -, -, -, -, c7, -, -, -⟩ := Blk.c10 h38
          obtain ⟨-, d1, -, -⟩ := Blk.c3 h138
          obtain ⟨no, hno⟩ : ∃ b, n.no = b := ⟨_, rfl⟩
          rw [hno] at c7 HF2
          clear hno
          by_cases hr : r = 0
          · have HF3 : Hid (D = 0) := by show _ = _; rw [HF2.out]; unfold Ev.nullN; rw [if_pos hr]
            have hrb : (r == 0) = true := by simp [hr]
            clear hr
            go_wp2_with fail
            go_ret
            exact ⟨by rw [HF3.out]; rfl, HK8.out⟩
          · have hrb : (r == 0) = false := by simpa using hr
            have hrp : 0 < r := by omega
            have hrn : ¬ r = 0 := hr
            cases no with
            | true =>
              have HF3 : Hid (D = 1000 * (r - c.n) / r) := by show _ = _; rw [HF2.out]; unfold Ev.nullN; rw [if_neg hr]; rfl
              clear hr
              go_wp2_with fail
              go_ret
              exact ⟨by rw [HF3.out]; rfl, HK8.out⟩
            | false =>
              have HF3 : Hid (D = 1000 * c.n / r) := by show _ = _; rw [HF2.out]; unfold Ev.nullN; rw [if_neg hr]; rfl
              clear hr
              go_wp2_with fail
              go_ret
              exact ⟨by rw [HF3.out]; rfl, HK8.out⟩
        · have HF2 : Hid (D = 333) := by show _ = _; rw [HF.out]; unfold Ev.guess0; rw [HP.out, if_neg (fun h => ha h.2.2), if_neg (fun h => by omega)]
          have hab2 : (a.k == 2) = false := by simpa using ha
          clear hk9 hl hab hA ha hncm
          go_wp2_with fail
          go_ret
          exact ⟨by rw [HF2.out]; rfl, HBW.out⟩
      · have HF2 : Hid (D = 333) := by show _ = _; rw [HF.out]; unfold Ev.guess0; rw [if_neg (fun h => hl h.2.1), if_neg (fun h => by omega)]
        have hlb : ((n.args.length : Int) == 1) = false := by simp; omega
        rw [hk9] at c0
        clear hk9 hl
        go_wp2_with fail
        go_ret
        exact ⟨by rw [HF2.out]; rfl, HBW.out⟩
    · by_cases hk7 : n.k = 7
      · have h9b : (n.k == 9) = false := by simpa using hk9
        by_cases hop : n.op = [61]
        · by_cases hl : n.args.length = 2
          · obtain ⟨a, b, hab⟩ : ∃ a b, n.args = [a, b] := by
              match n.args, hl with
              | [a, b], _ => exact ⟨a, b, rfl⟩
            have HP : Hid (Ev.prt n 0 = a ∧ Ev.prt n 1 = b) := by unfold Ev.prt; rw [hab]; exact ⟨rfl, rfl⟩
            have HA : Hid (Ev.inB a.at_ ∧ Ev.inB b.at_) := by
              have h := HN.out
              cases h with
              | mk h1 h2 =>
                have hm := h2 a (by rw [hab]; simp)
                have hm2 := h2 b (by rw [hab]; simp)
                cases hm with | mk h1 h2 h3 h4 h5 h6 => cases hm2 with | mk k1 k2 k3 k4 k5 k6 => exact ⟨h6, k6⟩
            have HRW : Hid (ERow eNd W5 n.a [a, b]) := by
              have h := HN5.out
              cases h with
              | mk h1 h2 => rw [← hab]; exact h1
            obtain ⟨ba, oa, hA, a0, a6⟩ := nd_at06 HRW.out (j := 0) (by simp)
            obtain ⟨ba', oa', hA', b0, b6⟩ := nd_at06 HRW.out (j := 1) (by simp)
            rw [hA] at hA'
            cases hA'
            simp only [List.getElem_cons_zero, List.getElem_cons_succ, Nat.zero_mul, Nat.one_mul, Nat.add_zero] at a0 a6 b0 b6
            rw [hl, hA] at c9
            have HC9 : Hid (∀ W, Below W2.heap.size W2 W → W.cell? ⟨g3, 9, none⟩ = some (.slice (some ⟨ba, oa, none⟩) 2 n.c)) := fun W hW => by
              obtain ⟨-, -, -, -, -, -, -, -, -, c9', -⟩ := Blk.c10 (H3.out.below hW)
              rw [hl, hA] at c9'
              exact c9'
            rw [hop] at c1
            rw [hk7] at c0
            unfold txt at c1
            by_cases ha : a.k = 2
            · by_cases hb : b.k = 2
              · have HF2 : Hid (D = 1000 / max (max 1 (Ev.ofN a.at_ rows cols).2.d) (Ev.ofN b.at_ rows cols).2.d) := by show _ = _; rw [HF.out]; unfold Ev.guess0; rw [HP.out.1, HP.out.2, if_neg (fun h => hk9 h.1), if_pos ⟨hk7, hop, hl, ha, hb⟩]
                rw [ha] at a0
                rw [hb] at b0
                clear hk9 hk7 hop hl hab hA ha hb hncm h9b
                go_wp2_with fail
                refine (HGO.out W5 HK5.out a.at_ HA.out.1).mono ?_
                rintro e W6 ⟨rfl, hB⟩
                have h36 := h3.below hB
                have b6 := cell_later hB b6
                have HK6 := Lib.hid (HK5.out.then hB)
                have hle := ofN_le a.at_ rows cols
                generalize Ev.ofN a.at_ rows cols = x at HF2 hle ⊢
                obtain ⟨r, c⟩ := x
                simp only at hle
                clear hB a0 a6 c0 c1 c7 c9 b0
                go_upto_region 15 with (first | (refine wpList_alloc_cs rfl rfl ?_; intro W7 h13 hz7 hB7) | (refine wpList_store_cs rfl rfl (.tmp 17) (.tmp 122) rfl W6.heap.size rfl c rfl h13 ?_; intro W8 h138 hg8))
                have h38 := (h36.below hB7).grown hg8 (by have := h36.lt; simp; omega)
                have hbl : ba < W6.heap.size := World.block_lt_of_cell? W6 _ b6
                have hs7 := hB7.size
                have b6 := cell_kept hg8 (by omega) (by omega) (cell_later hB7 b6)
                have HK8 : Hid (Below W2.heap.size W2 W8) := below_of_grown (HK6.out.then hB7) hg8 HK6.out.size (Nat.le_trans HK6.out.size hB7.size)
                clear h13 hz7 hB7 hg8 h36 hbl hs7
                obtain ⟨g17, hg17⟩ : ∃ g, W6.heap.size = g := ⟨_, rfl⟩
                rw [hg17] at h138
                rw [hg17]
                clear hg17
                have c9 := HC9.out W8 HK8.out
                go_wp2_with fail
                refine (HGO.out W8 HK8.out b.at_ HA.out.2).mono ?_
                rintro e W9 ⟨rfl, hB⟩
                have h17 := h138.below hB
                have HK9 := Lib.hid (HK8.out.then hB)
                have hle2 := ofN_le b.at_ rows cols
                generalize Ev.ofN b.at_ rows cols = x2 at HF2 hle2 ⊢
                obtain ⟨r2, c2⟩ := x2
                simp only at hle2
                clear hB b6 c9 h138
                go_upto_region 16 with (first | (refine wpList_alloc_cs rfl rfl ?_; intro Wa h19 hza hBa) | (refine wpList_store_cs rfl rfl (.tmp 19) (.tmp 132) rfl W9.heap.size rfl c2 rfl h19 ?_; intro Wb h19b hgb))
                have h17b := (h17.below hBa).grown hgb (by have := h17.lt; simp; omega)
                have HKb : Hid (Below w.heap.size w Wb) := HB2.out.then (below_of_grown (HK9.out.then hBa) hgb HK9.out.size (Nat.le_trans HK9.out.size hBa.size))
                clear h19 hza hBa hgb h17
                obtain ⟨d0, -, -, -⟩ := Blk.c3 h17b
                obtain ⟨d1, -, -, -⟩ := Blk.c3 h19b
                have hmp : 0 < max (max 1 c.d) c2.d := by omega
                have hmp2 : max (max 1 c.d) c2.d ≤ 1099511627776 := by omega
                go_wp2_with fail
                all_goals
                  go_ret
                  first
                    | exact ⟨by rw [HF2.out, show max (max 1 c.d) c2.d = c2.d by omega]; rfl, HKb.out⟩
                    | exact ⟨by rw [HF2.out, show max (max 1 c.d) c2.d = c.d by omega]; rfl, HKb.out⟩
                    | exact ⟨by rw [HF2.out, show max (max 1 c.d) c2.d = 1 by omega]; rfl, HKb.out⟩
              · have HF2 : Hid (D = 333) := by show _ = _; rw [HF.out]; unfold Ev.guess0; rw [HP.out.1, HP.out.2, if_neg (fun h => hk9 h.1), if_neg (fun h => hb h.2.2.2.2)]
                have hbb : (b.k == 2) = false := by simpa using hb
                rw [ha] at a0
                clear hk9 hk7 hop hl hab hA ha hb hncm
                go_wp2_with fail
                go_ret
                exact ⟨by rw [HF2.out]; rfl, HBW.out⟩
            · have HF2 : Hid (D = 333) := by show _ = _; rw [HF.out]; unfold Ev.guess0; rw [HP.out.1, if_neg (fun h => hk9 h.1), if_neg (fun h => ha h.2.2.2.1)]
              have hbb : (a.k == 2) = false := by simpa using ha
              clear hk9 hk7 hop hl hab hA ha hncm
              go_wp2_with fail
              go_ret
              exact ⟨by rw [HF2.out]; rfl, HBW.out⟩
          · have HF2 : Hid (D = 333) := by show _ = _; rw [HF.out]; unfold Ev.guess0; rw [if_neg (fun h => hk9 h.1), if_neg (fun h => hl h.2.2.1)]
            have hlb : ((n.args.length : Int) == 2) = false := by simp; omega
            rw [hk7] at c0
            rw [hop] at c1
            unfold txt at c1
            clear hk9 hk7 hop hl h9b
            go_wp2_with fail
            go_ret
            exact ⟨by rw [HF2.out]; rfl, HBW.out⟩
        · have HF2 : Hid (D = 333) := by show _ = _; rw [HF.out]; unfold Ev.guess0; rw [if_neg (fun h => hk9 h.1), if_neg (fun h => hop h.2.1)]
          have n1 := run_str_is n.op [61] hop
          rw [hk7] at c0
          clear hk9 hk7 hop h9b
          go_wp2_with fail
          go_ret
          exact ⟨by rw [HF2.out]; rfl, HBW.out⟩
      · have HF2 : Hid (D = 333) := by show _ = _; rw [HF.out]; unfold Ev.guess0; rw [if_neg (fun h => hk9 h.1), if_neg (fun h => hk7 h.1)]
        have h9b : (n.k == 9) = false := by simpa using hk9
        have h7b : (n.k == 7) = false := by simpa using hk7
        clear hk9 hk7
        go_wp2_with fail
        go_ret
        exact ⟨by rw [HF2.out]; rfl, HBW.out⟩
end Go.Proofs.YtjdffhonljhpcaaGreat
end

section
/-
  What plans cost, plain.
-/
namespace Go.Proofs.YtjdffhonljhpcaaGreat
set_option linter.unusedSimpArgs false
set_option linter.unusedVariables false
namespace Pn
/-! ### costs -/
def maxC : Int := 4503599627370496
def fit (n : Int) : Int := max 0 (min n maxC)
def add2 (a b : Int) : Int := fit (fit a + fit b)
def mul (a b : Int) : Int := if 0 < fit a ∧ maxC / fit a < fit b then maxC else fit a * fit b
def part (n t : Int) : Int := fit n / 1000 * max 0 (min t 1000) + fit n % 1000 * max 0 (min t 1000) / 1000
def bitsF : Nat → Nat → Nat
  | 0, _ => 0
  | k + 1, n => if n = 0 then 0 else bitsF k (n / 2) + 1
def bits (n : Int) : Int := bitsF 64 (fit n).toNat
def pages (rows cols : Int) : Int := add2 1 (mul rows (4 + 8 * max 0 (min cols 24)) / 400)
def seq (rows cols : Int) : Int := add2 (mul 10 (pages rows cols)) rows
def range (rows : Int) : Int := add2 30 (mul rows 11)
def loop (left rows right : Int) : Int := add2 left (mul (max 1 rows) right)
def lookup (left rows each : Int) : Int := loop left rows (range each)
def sort (left rows : Int) : Int := add2 left (mul rows (bits rows))

def addF (n x : Int) : Int := fit (n + fit x)
def addN (L : List Int) : Int := L.foldl addF 0
theorem fit_le (n : Int) : 0 ≤ fit n ∧ fit n ≤ maxC := by unfold fit maxC; omega
theorem fit_of {n : Int} (h0 : 0 ≤ n) (h1 : n ≤ maxC) : fit n = n := by unfold fit; omega
theorem addN_two (a b : Int) : addN [a, b] = add2 a b := by
  show fit (fit (0 + fit a) + fit b) = fit (fit a + fit b)
  rw [Int.zero_add, fit_of (fit_le a).1 (fit_le a).2]
theorem mul_le (a b : Int) : 0 ≤ mul a b ∧ mul a b ≤ maxC := by
  unfold mul
  have ha := fit_le a
  have hb := fit_le b
  split
  · unfold maxC; omega
  · next h =>
    refine ⟨Int.mul_nonneg ha.1 hb.1, ?_⟩
    by_cases h0 : 0 < fit a
    · have h1 : fit b ≤ maxC / fit a := by
        have : ¬ maxC / fit a < fit b := fun x => h ⟨h0, x⟩
        omega
      have h2 := Int.mul_le_mul_of_nonneg_left h1 ha.1
      have h3 := Int.mul_ediv_self_le (x := maxC) (k := fit a) (by omega)
      omega
    · have : fit a = 0 := by omega
      rw [this, Int.zero_mul]
      unfold maxC; omega
theorem part_le (n t : Int) : 0 ≤ part n t ∧ part n t ≤ maxC := by
  unfold part
  have hn := fit_le n
  unfold maxC at *
  generalize fit n = a at *
  have ht : 0 ≤ max 0 (min t 1000) ∧ max 0 (min t 1000) ≤ 1000 := by omega
  generalize max 0 (min t 1000) = c at *
  have h0 : 0 ≤ a / 1000 := by omega
  have h1 : 0 ≤ a % 1000 := by omega
  have h2 := Int.mul_le_mul_of_nonneg_left ht.2 h0
  have h3 := Int.mul_le_mul_of_nonneg_left ht.2 h1
  have h4 := Int.mul_nonneg h0 ht.1
  have h5 := Int.mul_nonneg h1 ht.1
  omega
theorem bitsF_zero (k : Nat) : bitsF k 0 = 0 := by cases k <;> rfl
end Pn
end Go.Proofs.YtjdffhonljhpcaaGreat
end

section
/-
  Masks of eight bits; the contracts of has and one.
-/
namespace Go.Proofs.YtjdffhonljhpcaaGreat
set_option linter.unusedSimpArgs false
set_option linter.unusedVariables false
open Go.RowKit

namespace Pn
/-- The one table of some. -/
def one (m : Nat) : Option Nat := if m = 1 then some 0 else if m = 2 then some 1 else if m = 4 then some 2 else if m = 8 then some 3 else none
def ones (m : Nat) : Nat := m % 2 + m / 2 % 2 + m / 4 % 2 + m / 8 % 2
def zeros (m : Nat) : Nat := if m % 2 = 1 then 0 else if m / 2 % 2 = 1 then 1 else if m / 4 % 2 = 1 then 2 else if m / 8 % 2 = 1 then 3 else 8
theorem one_ones : ∀ m < 16, 0 < m → one m = if ones m = 1 then some (zeros m) else none := by decide
end Pn
theorem has8 : ∀ m < 16, ∀ f < 8, (bits BinOp.and IntKind.u8 ((m : Nat) / 2 ^ f) 1 == 1) = m.testBit f := by decide
theorem or8 : ∀ a < 16, ∀ b < 16, bits BinOp.or IntKind.u8 (a : Nat) (b : Nat) = ((a ||| b : Nat) : Int) := by decide
theorem andNot8 : ∀ a < 16, ∀ b < 16, (bits BinOp.andNot IntKind.u8 (a : Nat) (b : Nat) == 0) = ((a &&& b) == a) := by decide
theorem or16 : ∀ a < 16, ∀ b < 16, (a ||| b) < 16 := by decide
set_option maxRecDepth 20000 in
theorem mhas_any (w : World) (m f : Nat) (hm : m < 16) (hf : f < 8) : Calls Tryz.prog 38 #[.int .u8 m, .int .i64 f] w fun e w' => e = .returned (.bool (m.testBit f)) ∧ w = w' := by
  have h8 := has8 m hm f hf
  go_enter Tryz.func38, Tryz.ntmps38
  go_wp2_with fail
  go_ret
  exact ⟨by rw [← h8]; rfl, rfl⟩
set_option maxRecDepth 20000 in
theorem mzeros_any (w : World) (m : Nat) (hm : m < 16) : Calls Tryz.prog 47 #[.int .u8 m] w fun e w' => e = .returned (.int .i64 (Pn.zeros m)) ∧ w = w' := by
  have h : m = 0 ∨ m = 1 ∨ m = 2 ∨ m = 3 ∨ m = 4 ∨ m = 5 ∨ m = 6 ∨ m = 7 ∨ m = 8 ∨ m = 9 ∨ m = 10 ∨ m = 11 ∨ m = 12 ∨ m = 13 ∨ m = 14 ∨ m = 15 := by omega
  clear hm
  rcases h with rfl | rfl | rfl | rfl | rfl | rfl | rfl | rfl | rfl | rfl | rfl | rfl | rfl | rfl | rfl | rfl
  all_goals
    go_enter Tryz.func47, Tryz.ntmps47
    go_wp2_with fail
    go_ret
    exact ⟨by kernel_rfl, rfl⟩
set_option maxRecDepth 20000 in
theorem mones_any (w : World) (m : Nat) (hm : m < 16) : Calls Tryz.prog 48 #[.int .u8 m] w fun e w' => e = .returned (.int .i64 (Pn.ones m)) ∧ w = w' := by
  have h : m = 0 ∨ m = 1 ∨ m = 2 ∨ m = 3 ∨ m = 4 ∨ m = 5 ∨ m = 6 ∨ m = 7 ∨ m = 8 ∨ m = 9 ∨ m = 10 ∨ m = 11 ∨ m = 12 ∨ m = 13 ∨ m = 14 ∨ m = 15 := by omega
  clear hm
  rcases h with rfl | rfl | rfl | rfl | rfl | rfl | rfl | rfl | rfl | rfl | rfl | rfl | rfl | rfl | rfl | rfl
  all_goals
    go_enter Tryz.func48, Tryz.ntmps48
    go_wp2_with fail
    go_ret
    exact ⟨by kernel_rfl, rfl⟩
set_option maxRecDepth 20000 in
theorem mone_any (w : World) (m : Nat) (hm : m < 16) : Calls Tryz.prog 32 #[.int .u8 m] w fun e w' => e = .returned (.tuple #[.int .i64 (Pn.zeros m), .bool (Pn.ones m == 1)]) ∧ w = w' := by
  have h8 : ((Pn.ones m : Int) == 1) = (Pn.ones m == 1) := by
    generalize Pn.ones m = k
    by_cases h : k = 1
    · rw [h]; rfl
    · rw [beq_eq_false_iff_ne.2 h, beq_eq_false_iff_ne]; omega
  go_enter Tryz.func32, Tryz.ntmps32
  go_wp2_with fail
  refine (mzeros_any _ m hm).mono ?_
  rintro e w1 ⟨rfl, rfl⟩
  go_wp2_with fail
  refine (mones_any _ m hm).mono ?_
  rintro e w1 ⟨rfl, rfl⟩
  go_wp2_with fail
  go_ret2
  exact ⟨by rw [← h8]; rfl, rfl⟩
end Go.Proofs.YtjdffhonljhpcaaGreat
end

section
/-
  Which groups of tables there are, and how they may be joined, plain.
-/
namespace Go.Proofs.YtjdffhonljhpcaaGreat
set_option linter.unusedSimpArgs false
set_option linter.unusedVariables false
namespace Pn
/-! ### which groups there are -/
abbrev Mm := List (Option (List (Nat × Nat)))
def mget (m : Mm) (k : Nat) : Option (List (Nat × Nat)) := m.getD k none
def mset (m : Mm) (k : Nat) (l : List (Nat × Nat)) : Mm := m.set k (some l)
def mjs (m : Mm) (k : Nat) : List (Nat × Nat) := (mget m k).getD []
def madd (m : Mm) (a b : Nat) : Mm × Bool :=
  if (mjs m (a ||| b)).contains (a, b) then (m, false) else (mset m (a ||| b) (mjs m (a ||| b) ++ [(a, b)]), true)
def massF (b : Nat) : List (Nat × Nat) → Mm × Bool → Mm × Bool
  | [], r => r
  | k :: l, r => massF b l (let r1 := madd r.1 k.2 b; let r2 := madd r1.1 k.1 (k.2 ||| b); (r2.1, r2.2 || (r1.2 || r.2)))
def mass (m : Mm) (j : Nat × Nat) : Mm × Bool := massF j.2 (mjs m j.1) (m, false)
def mjF : List (Nat × Nat) → Mm × Bool → Mm × Bool
  | [], r => r
  | j :: l, r => mjF l (let r1 := madd r.1 j.2 j.1; let r2 := mass r1.1 j; (r2.1, r2.2 || (r1.2 || r.2)))
def msF : Nat → Nat → Mm × Bool → Mm × Bool
  | _, 0, r => r
  | s, k + 1, r => msF (s + 1) k (match mget r.1 s with
    | some l => mjF l r
    | none => r)
/-- Till no other way is found, n sweeps at most: and was that so? -/
def mAll (all : Nat) : Nat → Mm → Mm × Bool
  | 0, m => (m, false)
  | n + 1, m => let r := msF 1 all (m, false); if r.2 then mAll all n r.1 else (r.1, true)
def mBegin (n : Nat) : Nat → Nat → Mm × Nat → Mm × Nat
  | _, 0, r => r
  | f, k + 1, r => mBegin n (f + 1) k ((madd (mset r.1 (2 ^ f) []) r.2 (2 ^ f)).1, r.2 ||| 2 ^ f)
def m0 : Mm := mset (List.replicate 16 none) 1 []
def mEnd (n : Nat) : Mm × Bool := mAll (2 ^ n - 1) 9 (mBegin n 1 (n - 1) (m0, 1)).1
def J (n : Nat) (s : Nat) : List (Nat × Nat) := mjs (mEnd n).1 s

theorem mget_set {m : Mm} {k : Nat} (hk : k < m.length) (l : List (Nat × Nat)) (i : Nat) : mget (mset m k l) i = if i = k then some l else mget m i := by
  unfold mget mset
  rw [List.getD_eq_getElem?_getD, List.getD_eq_getElem?_getD, List.getElem?_set]
  by_cases h : k = i
  · subst h; simp [hk]
  · rw [if_neg h, if_neg (fun e => h e.symm)]
theorem mset_len (m : Mm) (k : Nat) (l : List (Nat × Nat)) : (mset m k l).length = m.length := List.length_set
/-- How many groups there are. -/
def mcnt (m : Mm) : Nat := m.countP (·.isSome)
theorem mcnt_le (m : Mm) : mcnt m ≤ m.length := List.countP_le_length
theorem mcnt_new {m : Mm} {k : Nat} (hk : k < m.length) (h : mget m k = none) (l : List (Nat × Nat)) : mcnt (mset m k l) = mcnt m + 1 := by
  unfold mcnt mset
  have e : m[k] = none := by unfold mget at h; rw [List.getD_eq_getElem?_getD, List.getElem?_eq_getElem hk] at h; exact h
  rw [List.countP_set hk, e]
  simp
theorem mcnt_old {m : Mm} {k : Nat} (hk : k < m.length) {l0 : List (Nat × Nat)} (h : mget m k = some l0) (l : List (Nat × Nat)) : mcnt (mset m k l) = mcnt m := by
  unfold mcnt mset
  have e : m[k] = some l0 := by unfold mget at h; rw [List.getD_eq_getElem?_getD, List.getElem?_eq_getElem hk] at h; exact h
  have hp : 0 < m.countP (·.isSome) := List.countP_pos_iff.2 ⟨m[k], List.getElem_mem hk, by rw [e]; rfl⟩
  rw [List.countP_set hk, e]
  simp
  omega
/-- All parts of joins are groups, and small. -/
structure MOk (m : Mm) : Prop where
  len : m.length = 16
  lt : ∀ k l, mget m k = some l → ∀ j ∈ l, j.1 < 16 ∧ j.2 < 16 ∧ (mget m j.1).isSome ∧ (mget m j.2).isSome
  nd : ∀ k l, mget m k = some l → l.Nodup
theorem MOk.few {m : Mm} (h : MOk m) (k : Nat) : (mjs m k).length ≤ 256 := by
  unfold mjs
  cases hk : mget m k with
  | none => exact Nat.zero_le _
  | some l =>
    show l.length ≤ 256
    have h1 : (l.map fun j => j.1 * 16 + j.2).Nodup := by
      have hn := h.nd k l hk
      have hl := h.lt k l hk
      clear hk
      induction l with
      | nil => exact List.nodup_nil
      | cons y l ih =>
        rw [List.map_cons, List.nodup_cons]
        rw [List.nodup_cons] at hn
        refine ⟨fun hc => ?_, ih hn.2 fun j hj => hl j (List.mem_cons_of_mem _ hj)⟩
        obtain ⟨z, hz, e⟩ := List.mem_map.1 hc
        have h1 := hl z (List.mem_cons_of_mem _ hz)
        have h2 := hl y List.mem_cons_self
        have : z = y := Prod.ext (by omega) (by omega)
        exact hn.1 (this ▸ hz)
    have h2 := h1.length_le_of_subset (l₂ := List.range 256) (by
      intro x hx
      obtain ⟨z, hz, rfl⟩ := List.mem_map.1 hx
      have h1 := h.lt k l hk z hz
      rw [List.mem_range]
      omega)
    simpa using h2
theorem MOk.js {m : Mm} (h : MOk m) (k : Nat) : ∀ j ∈ mjs m k, j.1 < 16 ∧ j.2 < 16 ∧ (mget m j.1).isSome ∧ (mget m j.2).isSome := by
  intro j hj
  unfold mjs at hj
  cases hk : mget m k with
  | none => rw [hk] at hj; cases hj
  | some l => rw [hk] at hj; exact h.lt k l hk j hj
theorem mget_lt {m : Mm} {k : Nat} (h : (mget m k).isSome) : k < m.length := by
  unfold mget at h
  by_cases hk : k < m.length
  · exact hk
  · rw [List.getD_eq_getElem?_getD, List.getElem?_eq_none (by omega)] at h; cases h
theorem some_set {m : Mm} {k : Nat} (hk : k < m.length) (l : List (Nat × Nat)) {i : Nat} (h : (mget m i).isSome) : (mget (mset m k l) i).isSome := by
  rw [mget_set hk]
  split
  · rfl
  · exact h
theorem MOk.set {m : Mm} (h : MOk m) {k : Nat} (hk : k < 16) {l : List (Nat × Nat)} (hl : ∀ j ∈ l, j.1 < 16 ∧ j.2 < 16 ∧ (mget m j.1).isSome ∧ (mget m j.2).isSome) (hn : l.Nodup) : MOk (mset m k l) := by
  have hk' : k < m.length := by rw [h.len]; exact hk
  refine ⟨by rw [mset_len]; exact h.len, fun i l' hi j hj => ?_, fun i l' hi => ?_⟩
  · rw [mget_set hk'] at hi
    split at hi
    · cases hi
      obtain ⟨h1, h2, h3, h4⟩ := hl j hj
      exact ⟨h1, h2, some_set hk' _ h3, some_set hk' _ h4⟩
    · obtain ⟨h1, h2, h3, h4⟩ := h.lt i l' hi j hj
      exact ⟨h1, h2, some_set hk' _ h3, some_set hk' _ h4⟩
  · rw [mget_set hk'] at hi
    split at hi
    · cases hi; exact hn
    · exact h.nd i l' hi
theorem MOk.add {m : Mm} (h : MOk m) {a b : Nat} (ha : (mget m a).isSome) (hb : (mget m b).isSome) : MOk (madd m a b).1 := by
  have ha' : a < 16 := by have := mget_lt ha; rw [h.len] at this; exact this
  have hb' : b < 16 := by have := mget_lt hb; rw [h.len] at this; exact this
  unfold madd
  split
  · exact h
  · next hc =>
    refine h.set (or16 a ha' b hb') (fun j hj => ?_) ?_
    · rcases List.mem_append.1 hj with hj | hj
      · exact h.js _ j hj
      · rw [List.mem_singleton.1 hj]; exact ⟨ha', hb', ha, hb⟩
    · rw [List.nodup_append]
      refine ⟨?_, (by simp), fun x hx y hy e => ?_⟩
      · unfold mjs
        cases hk : mget m (a ||| b) with
        | none => exact List.nodup_nil
        | some l => exact h.nd _ _ hk
      · rw [List.mem_singleton.1 hy] at e
        subst e
        exact hc (by simpa using hx)
theorem madd_some {m : Mm} (hm : m.length = 16) {a b : Nat} (hab : (a ||| b) < 16) {i : Nat} (h : (mget m i).isSome) : (mget (madd m a b).1 i).isSome := by
  unfold madd
  split
  · exact h
  · exact some_set (by rw [hm]; exact hab) _ h
theorem madd_self {m : Mm} (hm : m.length = 16) {a b : Nat} (hab : (a ||| b) < 16) : (mget (madd m a b).1 (a ||| b)).isSome := by
  unfold madd
  split
  · next h =>
    cases hk : mget m (a ||| b) with
    | none => unfold mjs at h; rw [hk] at h; cases h
    | some l => rfl
  · rw [mget_set (by rw [hm]; exact hab), if_pos rfl]; rfl
theorem mEnd_ok : ∀ n < 5, 1 ≤ n → (mEnd n).2 = true := by decide +kernel
end Pn
end Go.Proofs.YtjdffhonljhpcaaGreat
end

section
/-
  What a planner reckons, plain.
-/
namespace Go.Proofs.YtjdffhonljhpcaaGreat
set_option linter.unusedSimpArgs false
set_option linter.unusedVariables false

/-- An index as a planner sees it. -/
structure Df where
  t : Int
  a : Option Addr
  cols : List Int
  c : Nat
  real : Bool
/-- A plan, plain. -/
inductive Pl where
  | mk (op fr ix : Int) (eq : List Int) (low high cost rows : Int) (kids : List Pl)
namespace Pl
def op : Pl → Int | .mk op _ _ _ _ _ _ _ _ => op
def fr : Pl → Int | .mk _ fr _ _ _ _ _ _ _ => fr
def ix : Pl → Int | .mk _ _ ix _ _ _ _ _ _ => ix
def eq : Pl → List Int | .mk _ _ _ eq _ _ _ _ _ => eq
def low : Pl → Int | .mk _ _ _ _ low _ _ _ _ => low
def high : Pl → Int | .mk _ _ _ _ _ high _ _ _ => high
def cost : Pl → Int | .mk _ _ _ _ _ _ cost _ _ => cost
def rows : Pl → Int | .mk _ _ _ _ _ _ _ rows _ => rows
def kids : Pl → List Pl | .mk _ _ _ _ _ _ _ _ kids => kids
def nil : Pl := .mk 0 0 0 [] 0 0 0 0 []
instance : Inhabited Pl := ⟨nil⟩
end Pl
namespace Pn
open Ev
/-! ### what is known -/
/-- A query, its tables' rows, the indexes. -/
structure PX where
  T : List Int
  B : List Int
  W : Int
  wh : List Nd
  gr : Bool
  ord : List So
  defs : List Df
  rows : List Int
  cols : List Cs
def b (x : PX) (f : Nat) : Int := x.B.getD f 0
def endN (x : PX) (f : Nat) : Int := if f + 1 < x.B.length then b x (f + 1) else x.W
def mayF (x : PX) (i : Nat) : Nat → Bool
  | 0 => true
  | k + 1 => decide (b x i < endN x i) && mayF x (i + 1) k
def may0 (x : PX) : Bool := decide (1 ≤ x.T.length) && decide (x.T.length ≤ 4) && decide (x.B.length = x.T.length) && decide (b x 0 = 0) && decide (x.W ≤ (x.T.length : Int) * 6)
def may (x : PX) : Bool := may0 x && mayF x 0 x.T.length
/-- The table of a place, from table i on, of k more. -/
def ofF (x : PX) (at_ : Int) (i : Nat) : Nat → Int
  | 0 => -1
  | k + 1 => if b x i ≤ at_ ∧ at_ < endN x i then (i : Int) else ofF x at_ (i + 1) k
def ofT (x : PX) (at_ : Int) : Int := ofF x at_ 0 x.B.length
def orP (y z : Nat × Bool) : Nat × Bool := (y.1 ||| z.1, y.2 || z.2)
def asksK (x : PX) (k at_ : Int) (l : List (Nat × Bool)) : Nat × Bool :=
  if k = 2 then (if ofT x at_ < 0 then (0, true) else l.foldl orP (2 ^ (ofT x at_).toNat, false)) else l.foldl orP (0, false)
mutual
/-- The tables that a node asks; and whether it asks a place that there is none of. -/
def asks (x : PX) : Nd → Nat × Bool
  | .mk k _ _ at_ _ _ _ args _ => asksK x k at_ (asksL x args)
def asksL (x : PX) : List Nd → List (Nat × Bool)
  | [] => []
  | n :: l => asks x n :: asksL x l
end
theorem asks_eq (x : PX) (n : Nd) : asks x n = asksK x n.k n.at_ (asksL x n.args) := by cases n; rfl
/-- Are all of some tables among others? -/
def sub (m g : Nat) : Bool := (m &&& g) == m
def agHit (x : PX) (y z : Nd) (op : List UInt8) (at_ : Int) (given : Nat) (ops : List (List UInt8)) : Bool :=
  y.k == 2 && y.at_ == at_ && !(asks x z).2 && sub (asks x z).1 given && ops.contains op
def agst (x : PX) (n : Nd) (at_ : Int) (given : Nat) (ops : List (List UInt8)) : Bool :=
  n.k == 7 && match n.args with
    | [y, z] => agHit x y z n.op at_ given ops || agHit x z y (turnS n.op) at_ given ops
    | _ => false
def fitsD (x : PX) (f : Nat) (d : Df) : Bool := d.t == x.T.getD f 0 && !d.cols.isEmpty && d.cols.all fun c => decide (0 ≤ c ∧ c < endN x f - b x f)
def fits (x : PX) (f ix : Int) : Bool := decide (0 ≤ ix ∧ ix < (x.defs.length : Int) ∧ 0 ≤ f ∧ f < (x.T.length : Int)) && fitsD x f.toNat (x.defs.getD ix.toNat ⟨0, none, [], 0, false⟩)
/-- The first part of Where, from i on, that holds a column so. -/
def idxF (x : PX) (at_ : Int) (given : Nat) (ops : List (List UInt8)) (i : Nat) : List Nd → Int
  | [] => -1
  | n :: l => if agst x n at_ given ops then (i : Int) else idxF x at_ given ops (i + 1) l
def idx (x : PX) (at_ : Int) (given : Nat) (ops : List (List UInt8)) : Int := idxF x at_ given ops 0 x.wh
def eqF (x : PX) (f given : Nat) : List Int → List Int → List Int
  | [], out => out
  | c :: l, out => if idx x (b x f + c) given [[61]] < 0 then out else eqF x f given l (out ++ [idx x (b x f + c) given [[61]]])
def eqN (x : PX) (f : Nat) (d : Df) (given : Nat) : List Int := eqF x f given d.cols []
def bound (x : PX) (f : Nat) (d : Df) (next : Nat) (ops : List (List UInt8)) : Int := if next < d.cols.length then idx x (b x f + d.cols.getD next 0) 0 ops else -1
def rowsAt (x : PX) (f : Nat) : Int := x.rows.getD (b x f).toNat 0
def guess (x : PX) (i : Int) : Int := guessN (x.wh.getD i.toNat Nd.nil) x.rows x.cols
def foundF (x : PX) (n i : Int) : Int := if 0 ≤ i then part n (guess x i) else n
def found (x : PX) (f : Nat) (l : List Int) : Int := max 1 (l.foldl (foundF x) (fit (rowsAt x f)))
def sizeF (x : PX) (m : Nat) (n : Int) (f : Nat) : Int := if m.testBit f then mul n (rowsAt x f) else n
def sizeG (x : PX) (m : Nat) (n : Int) (y : Nd) : Int := if (asks x y).1 ≠ 0 ∧ sub (asks x y).1 m = true then part n (guessN y x.rows x.cols) else n
def size (x : PX) (m : Nat) : Int := max 1 (x.wh.foldl (sizeG x m) ((List.range x.B.length).foldl (sizeF x m) 1))
/-! ### plans -/
def opGt : List (List UInt8) := [[62], [62, 61]]
def opLt : List (List UInt8) := [[60], [60, 61]]
def mkSeq (x : PX) (f : Nat) (n : Int) : Pl := .mk 1 f (-1) [] (-1) (-1) (seq (rowsAt x f) (endN x f - b x f)) n []
def mkRange (x : PX) (f : Nat) (n : Int) (i : Nat) (d : Df) : Pl :=
  .mk 2 f i (eqN x f d 0) (bound x f d (eqN x f d 0).length opGt) (bound x f d (eqN x f d 0).length opLt)
    (range (found x f (eqN x f d 0 ++ [bound x f d (eqN x f d 0).length opGt, bound x f d (eqN x f d 0).length opLt]))) n []
def accF (x : PX) (f : Nat) (n : Int) : Nat → List Df → List Pl → List Pl
  | _, [], out => out
  | i, d :: l, out => accF x f n (i + 1) l (if fits x f i then out ++ [mkRange x f n i d] else out)
def access (x : PX) (f : Nat) (n : Int) : List Pl := accF x f n 0 x.defs [mkSeq x f n]
def lessP (a b : Pl) : Pl := if b.cost < a.cost then b else a
def lessO : Option Pl → Pl → Pl
  | none, b => b
  | some a, b => lessP a b
def mkLookup (x : PX) (j1 f i : Nat) (d : Df) (l : Pl) (n : Int) : Pl :=
  .mk 4 f i (eqN x f d j1) (-1) (-1) (lookup l.cost (size x j1) (found x f (eqN x f d j1))) n [l]
def joinF (x : PX) (j : Nat × Nat) (l : Pl) (n : Int) : Nat → List Df → Pl → Pl
  | _, [], out => out
  | i, d :: r, out => joinF x j l n (i + 1) r (match one j.2 with
    | some f => if fits x f i && !(eqN x f d j.1).isEmpty then lessP out (mkLookup x j.1 f i d l n) else out
    | none => out)
def mkLoop (x : PX) (j : Nat × Nat) (l r : Pl) (n : Int) : Pl := .mk 3 (-1) (-1) [] (-1) (-1) (loop l.cost (size x j.1) r.cost) n [l, r]
def join (x : PX) (j : Nat × Nat) (l r : Pl) (n : Int) : Pl := joinF x j l n 0 x.defs (mkLoop x j l r n)
def mkSort (p : Pl) (n : Int) : Pl := .mk 5 (-1) (-1) [] (-1) (-1) (sort p.cost n) n [p]
def orders (x : PX) : Bool := !x.gr && !x.ord.isEmpty
def sortsF (x : PX) : List So → Nat → Option Nat
  | [], m => some m
  | s :: l, m => if ofT x s.at_ < 0 then none else sortsF x l (m ||| 2 ^ (ofT x s.at_).toNat)
def sorts (x : PX) : Nat × Bool := match sortsF x x.ord 0 with
  | some m => (m, orders x)
  | none => (0, false)
/-- Does an index give a table's rows in the order, of which from next on are not held? -/
def givF (x : PX) (f : Int) (cols : List Int) (k : Nat) : List So → Nat → Bool
  | [], _ => true
  | s :: l, next =>
    if s.desc = true ∨ ofT x s.at_ ≠ f then false
    else if (cols.take k).contains (s.at_ - b x f.toNat) then givF x f cols k l next
    else if next < cols.length ∧ cols.getD next 0 = s.at_ - b x f.toNat then givF x f cols k l (next + 1) else false
def gives (x : PX) : Pl → Bool
  | .mk op fr ix eq _ _ _ _ kids =>
    if op = 5 then true
    else if op = 3 ∨ op = 4 then match kids with
      | k :: _ => gives x k
      | [] => false
    else if op = 1 then x.ord.isEmpty
    else givF x fr (x.defs.getD ix.toNat ⟨0, none, [], 0, false⟩).cols eq.length x.ord eq.length
/-! ### groups -/
structure Bo where
  best : Option Pl
  ord : Option Pl
def accStep (x : PX) (s by_ : Nat) (must : Bool) (g : Bo) (p : Pl) : Bo :=
  ⟨some (lessO g.best p), if must = true ∧ by_ = s ∧ gives x p = true then some (lessO g.ord p) else g.ord⟩
def joinStep (x : PX) (M : Nat → Bo) (n : Int) (g : Bo) (j : Nat × Nat) : Bo :=
  ⟨some (lessO g.best (join x j ((M j.1).best.getD Pl.nil) ((M j.2).best.getD Pl.nil) n)),
    match (M j.1).ord with
    | some l => some (lessO g.ord (join x j l ((M j.2).best.getD Pl.nil) n))
    | none => g.ord⟩
def optA (x : PX) (s : Nat) (g : Bo) : Bo := match one s with
  | some f => (access x f (size x s)).foldl (accStep x s (sorts x).1 (sorts x).2) g
  | none => g
def optS (x : PX) (s : Nat) (g : Bo) : Bo := if (sorts x).2 = true ∧ sub (sorts x).1 s = true then ⟨g.best, some (lessO g.ord (mkSort (g.best.getD Pl.nil) (size x s)))⟩ else g
def opt (x : PX) (J : Nat → List (Nat × Nat)) (M : Nat → Bo) (s : Nat) : Bo := optS x s ((J s).foldl (joinStep x M (size x s)) (optA x s (M s)))
def setM (M : Nat → Bo) (s : Nat) (g : Bo) : Nat → Bo := fun i => if i = s then g else M i
def optAll (x : PX) (J : Nat → List (Nat × Nat)) : Nat → Nat → (Nat → Bo) → (Nat → Bo)
  | _, 0, M => M
  | s, k + 1, M => optAll x J (s + 1) k (setM M s (opt x J M s))
/-- The plan of the least cost. -/
def choose (x : PX) : Pl :=
  let M := optAll x (J x.T.length) 1 (2 ^ x.T.length - 1) (fun _ => ⟨none, none⟩)
  let g := M (2 ^ x.T.length - 1)
  match g.ord with
  | some p => p
  | none => g.best.getD Pl.nil
end Pn
end Go.Proofs.YtjdffhonljhpcaaGreat
end

section
/-
  The contracts of the cost functions.
-/
namespace Go.Proofs.YtjdffhonljhpcaaGreat
set_option linter.unusedSimpArgs false
set_option linter.unusedVariables false
open Go.RowKit

/-- What a call answers: a number. -/
def RetI (w : World) (k : Int) (e : Ending) (w' : World) : Prop := e = .returned (.int .i64 k) ∧ Below w.heap.size w w'
theorem cfit_any (w : World) (n : Int) : Calls Tryz.prog 65 #[.int .i64 n] w fun e w' => e = .returned (.int .i64 (Pn.fit n)) ∧ w = w' := by
  go_enter Tryz.func65, Tryz.ntmps65
  go_wp2_with fail
  go_ret
  exact ⟨rfl, rfl⟩
set_option maxRecDepth 20000 in
theorem cmul_any (w : World) (a b : Int) : Calls Tryz.prog 44 #[.int .i64 a, .int .i64 b] w fun e w' => e = .returned (.int .i64 (Pn.mul a b)) ∧ w = w' := by
  obtain ⟨D, hD⟩ : ∃ D, Pn.mul a b = D := ⟨_, rfl⟩
  have HD := Lib.hid hD
  rw [hD]
  clear hD
  go_enter Tryz.func44, Tryz.ntmps44
  go_wp2_with fail
  refine (cfit_any _ a).mono ?_
  rintro e w1 ⟨rfl, rfl⟩
  go_wp2_with fail
  refine (cfit_any _ b).mono ?_
  rintro e w1 ⟨rfl, rfl⟩
  have ha := Pn.fit_le a
  have hb := Pn.fit_le b
  have hm := Pn.mul_le a b
  rw [HD.out] at hm
  have HE : Hid (D = if 0 < Pn.fit a ∧ Pn.maxC / Pn.fit a < Pn.fit b then Pn.maxC else Pn.fit a * Pn.fit b) := HD.out.symm
  clear HD
  generalize Pn.fit a = x at *
  generalize Pn.fit b = y at *
  unfold Pn.maxC at ha hb HE hm
  by_cases h0 : 0 < x
  · obtain ⟨q, hq⟩ : ∃ q, Int.tdiv 4503599627370496 x = q := ⟨_, rfl⟩
    have hqe : q = 4503599627370496 / x := by rw [← hq]; exact Int.tdiv_eq_ediv_of_nonneg (by decide)
    have hq0 : 0 ≤ q ∧ q ≤ 4503599627370496 := by
      rw [hqe]
      exact ⟨Int.ediv_nonneg (by decide) ha.1, Int.ediv_le_of_le_mul h0 (by have : 4503599627370496 * 1 ≤ 4503599627370496 * x := Int.mul_le_mul_of_nonneg_left (by omega) (by omega); omega)⟩
    have hx0 : x ≠ 0 := by omega
    by_cases h1 : q < y
    · have HF : Hid (D = 4503599627370496) := by show _ = _; rw [HE.out, if_pos ⟨h0, by rw [← hqe]; exact h1⟩]
      clear hqe
      go_wp2_with fail
      go_ret
      exact ⟨by rw [HF.out]; rfl, rfl⟩
    · have HF : Hid (D = x * y) := by show _ = _; rw [HE.out, if_neg (fun h => h1 (by rw [hqe]; exact h.2))]
      have hp : 0 ≤ x * y ∧ x * y ≤ 4503599627370496 := by have := HF.out; rw [← this]; exact hm
      clear hqe
      obtain ⟨z, hz⟩ : ∃ z, x * y = z := ⟨_, rfl⟩
      rw [hz] at hp
      have HZ := Lib.hid hz
      go_wp2_with fail
      go_ret
      exact ⟨by rw [HF.out, HZ.out]; rfl, rfl⟩
  · have HF : Hid (D = x * y) := by show _ = _; rw [HE.out, if_neg (fun h => h0 h.1)]
    have hx0 : x = 0 := by omega
    have HF3 : Hid (D = 0) := by show _ = _; rw [HF.out, hx0, Int.zero_mul]
    clear HF
    subst hx0
    go_wp2_with fail
    go_ret
    exact ⟨by rw [HF3.out]; rfl, rfl⟩
set_option maxRecDepth 20000 in
theorem cpart_any (w : World) (n t : Int) : Calls Tryz.prog 45 #[.int .i64 n, .int .i64 t] w fun e w' => e = .returned (.int .i64 (Pn.part n t)) ∧ w = w' := by
  obtain ⟨D, hD⟩ : ∃ D, Pn.part n t = D := ⟨_, rfl⟩
  have HD := Lib.hid hD
  have hm := Pn.part_le n t
  rw [hD] at hm ⊢
  clear hD
  go_enter Tryz.func45, Tryz.ntmps45
  go_wp2_with fail
  refine (cfit_any _ n).mono ?_
  rintro e w1 ⟨rfl, rfl⟩
  have ha := Pn.fit_le n
  have HE : Hid (D = Pn.fit n / 1000 * max 0 (min t 1000) + Pn.fit n % 1000 * max 0 (min t 1000) / 1000) := HD.out.symm
  clear HD
  go_upto_region 2 with fail
  generalize Pn.fit n = x at *
  unfold Pn.maxC at ha hm
  have hc : 0 ≤ max 0 (min t 1000) ∧ max 0 (min t 1000) ≤ 1000 := by omega
  generalize max 0 (min t 1000) = c at *
  have h0 : Int.tdiv x 1000 = x / 1000 := Int.tdiv_eq_ediv_of_nonneg ha.1
  have h1 : Int.tmod x 1000 = x % 1000 := Int.tmod_eq_emod_of_nonneg ha.1
  have k0 : 0 ≤ x / 1000 := by omega
  have k1 : 0 ≤ x % 1000 := by omega
  have k2 := Int.mul_le_mul_of_nonneg_left hc.2 k0
  have k3 := Int.mul_le_mul_of_nonneg_left hc.2 k1
  have k4 := Int.mul_nonneg k0 hc.1
  have k5 := Int.mul_nonneg k1 hc.1
  have q1 : x / 1000 * c ≤ 4503599627370496 := by omega
  have q2 : x % 1000 * c ≤ 1000000 := by omega
  have h2 : Int.tdiv (x % 1000 * c) 1000 = x % 1000 * c / 1000 := Int.tdiv_eq_ediv_of_nonneg k5
  go_wp2_with fail
  go_ret
  exact ⟨by rw [HE.out]; rfl, rfl⟩
theorem addF_drop (L : List Int) (i : Nat) (h : i < L.length) (n : Int) : (L.drop i).foldl Pn.addF n = (L.drop (i + 1)).foldl Pn.addF (Pn.addF n L[i]) := by
  rw [List.drop_eq_getElem_cons h]; rfl
set_option maxRecDepth 20000 in
set_option maxHeartbeats 1000000 in
theorem cadd_any (w : World) (A : Option Addr) (c : Nat) (L : List Int) (hL : ERow eI64 w A L) (hl : L.length ≤ 1000000) : Calls Tryz.prog 58 #[.slice A L.length c] w fun e w' => e = .returned (.int .i64 (Pn.addN L)) ∧ w = w' := by
  obtain ⟨D, hD⟩ : ∃ D, Pn.addN L = D := ⟨_, rfl⟩
  have HD := Lib.hid hD
  rw [hD]
  have HL := Lib.hid hL
  clear hD hL
  go_enter Tryz.func58, Tryz.ntmps58
  go_wp2_with fail
  go_loopw [3, 8] (fun nv iv wr => ∃ (i : Nat) (n : Int), i ≤ L.length ∧ iv = .int .i64 (i : Int) ∧ nv = .int .i64 n ∧ (0 ≤ n ∧ n ≤ 4503599627370496) ∧ Hid ((L.drop i).foldl Pn.addF n = D ∧ w = wr)) (fun _ iv _ => L.length - (intOf iv).toNat)
  case atStart => exact ⟨0, 0, Nat.zero_le _, by go_num, rfl, by omega, HD.out, rfl⟩
  case round =>
    obtain ⟨i, n, hi, rfl, rfl, hn, HJ⟩ := hrel
    obtain ⟨hd, rfl⟩ := HJ.out
    have HE := Lib.hid hd
    clear HJ hd
    by_cases hlt : i < L.length
    · have hii : (i : Int) < (L.length : Int) := by omega
      obtain ⟨bb, oo, ha, -, hc⟩ := i64_at HL.out hlt
      have HX : Hid ((L.drop (i + 1)).foldl Pn.addF (Pn.addF n L[i]) = D) := by show _ = _; rw [← addF_drop L i hlt]; exact HE.out
      rw [ha]
      clear ha
      generalize L[i] = x at hc HX
      go_wp2_with fail
      clear hc
      refine (cfit_any _ x).mono ?_
      rintro e w1 ⟨rfl, rfl⟩
      have hx := Pn.fit_le x
      have HX2 : Hid ((L.drop (i + 1)).foldl Pn.addF (Pn.fit (n + Pn.fit x)) = D) := HX.out
      clear HX
      generalize Pn.fit x = y at hx HX2 ⊢
      unfold Pn.maxC at hx
      go_wp2_with fail
      refine (cfit_any _ (n + y)).mono ?_
      rintro e w1 ⟨rfl, rfl⟩
      have hz := Pn.fit_le (n + y)
      generalize Pn.fit (n + y) = z at hz HX2 ⊢
      unfold Pn.maxC at hz
      go_wp2_with fail
      go_roundw
      case rel => exact ⟨i + 1, z, by omega, by go_num, rfl, hz, HX2.out, trivial⟩
      case measure => simp [intOf]; omega
    · have hii : ¬ (i : Int) < (L.length : Int) := by omega
      have HF : Hid (D = n) := by show _ = _; rw [← HE.out, List.drop_eq_nil_of_le (by omega)]; rfl
      go_wp2_with fail
      go_ret
      exact ⟨by rw [HF.out]; rfl, rfl⟩
set_option maxRecDepth 20000 in
set_option maxHeartbeats 1000000 in
theorem cbits_any (w : World) (n : Int) : Calls Tryz.prog 59 #[.int .i64 n] w fun e w' => e = .returned (.int .i64 (Pn.bits n)) ∧ w = w' := by
  obtain ⟨D, hD⟩ : ∃ D, Pn.bits n = D := ⟨_, rfl⟩
  have HD : Hid (((Pn.bitsF 64 (Pn.fit n).toNat : Nat) : Int) = D) := hD
  rw [hD]
  clear hD
  go_enter Tryz.func59, Tryz.ntmps59
  go_wp2_with fail
  refine (cfit_any _ n).mono ?_
  rintro e w1 ⟨rfl, rfl⟩
  have hf := Pn.fit_le n
  generalize Pn.fit n = x at hf HD ⊢
  unfold Pn.maxC at hf
  obtain ⟨m, rfl⟩ : ∃ m : Nat, x = (m : Int) := ⟨x.toNat, by omega⟩
  rw [Int.toNat_natCast] at HD
  go_upto_region 3 with fail
  go_loopw [0, 3] (fun nv kv wr => ∃ (m k : Nat), k ≤ 64 ∧ nv = .int .i64 (m : Int) ∧ kv = .int .i64 (k : Int) ∧ m < 2 ^ (64 - k) ∧ (m : Int) ≤ 4503599627370496 ∧ Hid (((k + Pn.bitsF (64 - k) m : Nat) : Int) = D ∧ w = wr)) (fun nv _ _ => (intOf nv).toNat)
  case atStart => exact ⟨m, 0, by omega, rfl, rfl, by omega, by omega, by rw [Nat.zero_add]; exact HD.out, rfl⟩
  case round =>
    obtain ⟨m, k, hk, rfl, rfl, hm, hm2, HJ⟩ := hrel
    obtain ⟨hd, rfl⟩ := HJ.out
    have HE := Lib.hid hd
    clear HJ hd
    by_cases h0 : 0 < m
    · have hii : (0 : Int) < (m : Int) := by omega
      have hk1 : k < 64 := by
        by_cases h : k < 64
        · exact h
        · have : 64 - k = 0 := by omega
          rw [this] at hm
          omega
      have HX : Hid (((k + 1 + Pn.bitsF (64 - (k + 1)) (m / 2) : Nat) : Int) = D) := by
        show _ = _
        rw [← HE.out, show 64 - k = 64 - (k + 1) + 1 by omega]
        show _ = ((k + (if m = 0 then 0 else Pn.bitsF (64 - (k + 1)) (m / 2) + 1) : Nat) : Int)
        rw [if_neg (by omega)]
        congr 1
        omega
      have hm' : m / 2 < 2 ^ (64 - (k + 1)) := by
        rw [show 64 - k = 64 - (k + 1) + 1 by omega, Nat.pow_succ] at hm
        omega
      have hdiv : Int.tdiv (m : Int) 2 = ((m / 2 : Nat) : Int) := by rw [Int.tdiv_eq_ediv_of_nonneg (by omega)]; omega
      clear hm
      generalize hq : m / 2 = q at hdiv HX hm'
      have HQ := Lib.hid hq
      have hqm : q < m := by omega
      clear hq
      go_wp2_with fail
      go_roundw
      case rel => exact ⟨q, k + 1, by omega, by go_num, by go_num, hm', by omega, HX.out, trivial⟩
      case measure => simp [intOf]; omega
    · have hii : ¬ (0 : Int) < (m : Int) := by omega
      have HF : Hid (D = (k : Int)) := by
        show _ = _
        rw [← HE.out, show m = 0 by omega, Pn.bitsF_zero, Nat.add_zero]
      go_wp2_with fail
      go_ret
      exact ⟨by rw [HF.out]; rfl, rfl⟩
theorem cadd2_any (w : World) (a b : Int) : Calls Tryz.prog 58 #[.slice (some ⟨w.heap.size, 0, none⟩) 2 2] (w.alloc (.cells #[.int .i64 a, .int .i64 b] 2)) fun e w' => e = .returned (.int .i64 (Pn.add2 a b)) ∧ Below w.heap.size w w' := by
  have h := cadd_any (w.alloc (.cells #[.int .i64 a, .int .i64 b] 2)) (some ⟨w.heap.size, 0, none⟩) 2 [a, b] (Blk.row eI64 (Blk.new _ _ _) [a, b] rfl (by simp [maxLen])) (by simp)
  rw [Pn.addN_two] at h
  refine h.mono ?_
  rintro e w' ⟨rfl, rfl⟩
  exact ⟨rfl, Below.alloc1 _ _⟩
set_option maxRecDepth 20000 in
theorem cpages_any (w : World) (rows : Int) (cols : Int) : Calls Tryz.prog 70 #[.int .i64 rows, .int .i64 cols] w (RetI w (Pn.pages rows cols)) := by
  obtain ⟨D, hD⟩ : ∃ D, Pn.pages rows cols = D := ⟨_, rfl⟩
  rw [hD]
  have HD : Hid (Pn.add2 1 (Pn.mul rows (4 + 8 * max 0 (min cols 24)) / 400) = D) := hD
  clear hD
  go_enter Tryz.func70, Tryz.ntmps70
  go_upto_region 2 with fail
  have hc : 0 ≤ max 0 (min cols 24) ∧ max 0 (min cols 24) ≤ 24 := by omega
  generalize max 0 (min cols 24) = c at hc HD ⊢
  go_wp2_with fail
  refine (cmul_any w rows (4 + 8 * c)).mono ?_
  rintro e w1 ⟨rfl, rfl⟩
  have hm := Pn.mul_le rows (4 + 8 * c)
  generalize Pn.mul rows (4 + 8 * c) = x at hm HD ⊢
  unfold Pn.maxC at hm
  have hq : Int.tdiv x 400 = x / 400 := Int.tdiv_eq_ediv_of_nonneg hm.1
  have hq0 : 0 ≤ x / 400 ∧ x / 400 ≤ 4503599627370496 := by omega
  go_wp2_with fail
  clear hq
  generalize x / 400 = y at hq0 HD ⊢
  refine (cadd2_any w _ _).mono ?_
  rintro e w1 ⟨rfl, hB⟩
  go_wp2_with fail
  go_ret
  exact ⟨by rw [← HD.out]; rfl, hB⟩
set_option maxRecDepth 20000 in
theorem cseq_any (w : World) (rows : Int) (cols : Int) : Calls Tryz.prog 49 #[.int .i64 rows, .int .i64 cols] w (RetI w (Pn.seq rows cols)) := by
  unfold Pn.seq
  go_enter Tryz.func49, Tryz.ntmps49
  go_wp2_with fail
  refine (cpages_any w rows cols).mono ?_
  rintro e w1 ⟨rfl, hB1⟩
  have HB1 := Lib.hid hB1
  clear hB1
  go_wp2_with fail
  refine (cmul_any w1 10 (Pn.pages rows cols)).mono ?_
  rintro e w2 ⟨rfl, rfl⟩
  go_wp2_with fail
  refine (cadd2_any w1 _ _).mono ?_
  rintro e w1 ⟨rfl, hB⟩
  go_wp2_with fail
  go_ret
  exact ⟨rfl, HB1.out.then hB⟩
set_option maxRecDepth 20000 in
theorem crange_any (w : World) (rows : Int) : Calls Tryz.prog 53 #[.int .i64 rows] w (RetI w (Pn.range rows)) := by
  unfold Pn.range
  go_enter Tryz.func53, Tryz.ntmps53
  go_wp2_with fail
  refine (cmul_any w rows 11).mono ?_
  rintro e w1 ⟨rfl, rfl⟩
  go_wp2_with fail
  refine (cadd2_any w _ _).mono ?_
  rintro e w1 ⟨rfl, hB⟩
  go_wp2_with fail
  go_ret
  exact ⟨rfl, hB⟩
set_option maxRecDepth 20000 in
theorem cloop_any (w : World) (left rows right : Int) : Calls Tryz.prog 56 #[.int .i64 left, .int .i64 rows, .int .i64 right] w (RetI w (Pn.loop left rows right)) := by
  unfold Pn.loop
  go_enter Tryz.func56, Tryz.ntmps56
  go_wp2_with fail
  refine (cmul_any w (max 1 rows) right).mono ?_
  rintro e w1 ⟨rfl, rfl⟩
  go_wp2_with fail
  refine (cadd2_any w _ _).mono ?_
  rintro e w1 ⟨rfl, hB⟩
  go_wp2_with fail
  go_ret
  exact ⟨rfl, hB⟩
set_option maxRecDepth 20000 in
theorem clookup_any (w : World) (left rows each : Int) : Calls Tryz.prog 57 #[.int .i64 left, .int .i64 rows, .int .i64 each] w (RetI w (Pn.lookup left rows each)) := by
  unfold Pn.lookup
  go_enter Tryz.func57, Tryz.ntmps57
  go_wp2_with fail
  refine (crange_any w each).mono ?_
  rintro e w1 ⟨rfl, hB1⟩
  have HB1 := Lib.hid hB1
  clear hB1
  go_wp2_with fail
  refine (cloop_any w1 left rows (Pn.range each)).mono ?_
  rintro e w1 ⟨rfl, hB⟩
  go_wp2_with fail
  go_ret
  exact ⟨rfl, HB1.out.then hB⟩
set_option maxRecDepth 20000 in
theorem csort_any (w : World) (left rows : Int) : Calls Tryz.prog 37 #[.int .i64 left, .int .i64 rows] w (RetI w (Pn.sort left rows)) := by
  unfold Pn.sort
  go_enter Tryz.func37, Tryz.ntmps37
  go_wp2_with fail
  refine (cbits_any w rows).mono ?_
  rintro e w1 ⟨rfl, rfl⟩
  go_wp2_with fail
  refine (cmul_any w rows (Pn.bits rows)).mono ?_
  rintro e w2 ⟨rfl, rfl⟩
  go_wp2_with fail
  refine (cadd2_any w _ _).mono ?_
  rintro e w1 ⟨rfl, hB⟩
  go_wp2_with fail
  go_ret
  exact ⟨rfl, hB⟩
end Go.Proofs.YtjdffhonljhpcaaGreat
end

section
/-
  A planner's query in memory.
-/
namespace Go.Proofs.YtjdffhonljhpcaaGreat
set_option linter.unusedSimpArgs false
set_option linter.unusedVariables false
open Go.RowKit

/-- A query with the places of all its parts. -/
structure Qp where
  x : Pn.PX
  ta : Option Addr
  tc : Nat
  ba : Option Addr
  bc : Nat
  wa : Option Addr
  wc : Nat
  ga : Option Addr
  group : List Int
  gc : Nat
  ia : Option Addr
  items : List Nd
  ic : Nat
  oa : Option Addr
  oc : Nat
  lim : Int
def Qp.cells (p : Qp) : List Value := [.slice p.ta p.x.T.length p.tc, .slice p.ba p.x.B.length p.bc, .int .i64 p.x.W, .slice p.wa p.x.wh.length p.wc, .slice p.ga p.group.length p.gc, .bool p.x.gr, .slice p.ia p.items.length p.ic, .slice p.oa p.x.ord.length p.oc, .int .i64 p.lim]
def Qp.v (p : Qp) : Value := .agg p.cells.toArray
/-- A query whose parts can be read. -/
structure QpIn (w : World) (p : Qp) : Prop where
  t : ERow eInt w p.ta p.x.T
  tin : ∀ n ∈ p.x.T, Ev.inB n
  tl : p.x.T.length ≤ 1000000
  b : ERow eInt w p.ba p.x.B
  bin : ∀ n ∈ p.x.B, Ev.inB n
  bl : p.x.B.length ≤ 1000000
  win : Ev.inB p.x.W
  wn : ERow eNd w p.wa p.x.wh
  nin : ∀ n ∈ p.x.wh, NodeIn w n
  wl : p.x.wh.length ≤ 1000000
  o : ERow eSo w p.oa p.x.ord
  oin : ∀ s ∈ p.x.ord, Ev.inB s.at_
  ol : p.x.ord.length ≤ 1000000
theorem QpIn.below {w W : World} {p : Qp} (h : QpIn w p) (hB : Below w.heap.size w W) : QpIn W p :=
  ⟨h.t.below hB, h.tin, h.tl, h.b.below hB, h.bin, h.bl, h.win, h.wn.below hB, fun n hn => nd_below15 (h.nin n hn) hB, h.wl, h.o.below hB, h.oin, h.ol⟩
theorem Blk.qp {w : World} {g : Nat} {t : TypeId} {p : Qp} (h : Blk w g t p.cells) :
    w.cell? ⟨g, 0, none⟩ = some (.slice p.ta p.x.T.length p.tc) ∧ w.cell? ⟨g, 1, none⟩ = some (.slice p.ba p.x.B.length p.bc) ∧ w.cell? ⟨g, 2, none⟩ = some (.int .i64 p.x.W) ∧
    w.cell? ⟨g, 3, none⟩ = some (.slice p.wa p.x.wh.length p.wc) ∧ w.cell? ⟨g, 5, none⟩ = some (.bool p.x.gr) ∧ w.cell? ⟨g, 7, none⟩ = some (.slice p.oa p.x.ord.length p.oc) :=
  ⟨h.cell 0, h.cell 1, h.cell 2, h.cell 3, h.cell 5, h.cell 7⟩
theorem qp_info : (Tryz.prog.info? 36).map (·.size) = some 9 := by kernel_rfl
section
variable {w : World} {ops : Array Oper} {rest : List Oper} {o : Oper} {a : Act} {Q : Exit → Act → World → Prop}
theorem wpList_box_qp (hgd : o.guard = none) (x : Operand) (hop : o.op = .box 36 x) (b : Qp) (hx : a.eval x = b.v)
    (h : ∀ W, Blk W w.heap.size 36 b.cells → w.heap.size + 1 ≤ W.heap.size → Below w.heap.size w W → wpList Tryz.prog ops Q rest (a.put o.dst (.pointer (some ⟨w.heap.size, 0, none⟩))) W) : wpList Tryz.prog ops Q (o :: rest) a w :=
  wpList_plain hgd fun _ hK => by
    unfold Oper.wp execOp
    have e : (Instr.box 36 b.v).run Tryz.prog w = .ok (.pointer (some ⟨w.heap.size, 0, none⟩)) (w.alloc (.cells b.cells.toArray 36)) := by
      simp [Instr.box, Sem.run_bind, newVar, newRow]
      rfl
    simp only [hop, hx, Sem.run_bind, e, Result.andThen_ok, Sem.run_pure]
    obtain ⟨h1, h2, h3⟩ := fresh1 (w := w) (a := b.cells) (t := 36) rfl
    exact hK _ _ (h _ h1 h2 h3)
/-- A query out of a block that begins with it. -/
theorem wpList_load_qp (hgd : o.guard = none) (x : Operand) (hop : o.op = .load 36 x) (g : Nat) (hx : a.eval x = .pointer (some ⟨g, 0, none⟩)) {T0 : TypeId} {b : Qp} {r : List Value} (hb : Blk w g T0 (b.cells ++ r))
    (h : wpList Tryz.prog ops Q rest (a.put o.dst b.v) w) : wpList Tryz.prog ops Q (o :: rest) a w :=
  wpList_load_mid hgd 36 x hop g 0 hx b.cells _ (hb.range 0 b.cells fun j hj => by rw [Nat.zero_add, List.getElem?_append_left hj]) Tryz.underlying36 rfl qp_info h
theorem wpList_load_qp0 (hgd : o.guard = none) (x : Operand) (hop : o.op = .load 36 x) (g : Nat) (hx : a.eval x = .pointer (some ⟨g, 0, none⟩)) {T0 : TypeId} {b : Qp} (hb : Blk w g T0 b.cells)
    (h : wpList Tryz.prog ops Q rest (a.put o.dst b.v) w) : wpList Tryz.prog ops Q (o :: rest) a w :=
  wpList_load_qp hgd x hop g hx (r := []) (by rw [List.append_nil]; exact hb) h
end
theorem Blk.qp9 {w : World} {g : Nat} {t : TypeId} {p : Qp} {r : List Value} (h : Blk w g t (p.cells ++ r)) :
    w.cell? ⟨g, 0, none⟩ = some (.slice p.ta p.x.T.length p.tc) ∧ w.cell? ⟨g, 1, none⟩ = some (.slice p.ba p.x.B.length p.bc) ∧ w.cell? ⟨g, 2, none⟩ = some (.int .i64 p.x.W) ∧
    w.cell? ⟨g, 3, none⟩ = some (.slice p.wa p.x.wh.length p.wc) ∧ w.cell? ⟨g, 4, none⟩ = some (.slice p.ga p.group.length p.gc) ∧ w.cell? ⟨g, 5, none⟩ = some (.bool p.x.gr) ∧ w.cell? ⟨g, 6, none⟩ = some (.slice p.ia p.items.length p.ic) ∧ w.cell? ⟨g, 7, none⟩ = some (.slice p.oa p.x.ord.length p.oc) ∧ w.cell? ⟨g, 8, none⟩ = some (.int .i64 p.lim) :=
  ⟨h.cell 0, h.cell 1, h.cell 2, h.cell 3, h.cell 4, h.cell 5, h.cell 6, h.cell 7, h.cell 8⟩
theorem Blk.qp90 {w : World} {g : Nat} {t : TypeId} {p : Qp} (h : Blk w g t p.cells) : Blk w g t (p.cells ++ []) := by rw [List.append_nil]; exact h
namespace Pn
theorem b_get {x : PX} {f : Nat} (h : f < x.B.length) : x.B[f] = b x f := by unfold b; simp [List.getD, h]
end Pn
set_option maxRecDepth 20000 in
theorem plend_any (w : World) (p : Qp) (hp : QpIn w p) (f : Nat) (hf : f ≤ 1000000) : Calls Tryz.prog 17 #[p.v, .int .i64 f] w (RetI w (Pn.endN p.x f)) := by
  have HP := Lib.hid hp
  have hbl := hp.bl
  clear hp
  go_enter Tryz.func17, Tryz.ntmps17
  go_upto_region 1 with (refine wpList_box_qp rfl (.tmp 0) rfl p rfl ?_; intro W1 hb1 hz1 hB1)
  have HB1 := Lib.hid hB1
  obtain ⟨-, c1, c2, -, -, -⟩ := Blk.qp hb1
  clear hB1 hb1 hz1
  generalize w.heap.size = g at c1 c2 ⊢
  by_cases h : f + 1 < p.x.B.length
  · have hi : (f : Int) + 1 < (p.x.B.length : Int) := by omega
    have HF : Hid (Pn.endN p.x f = p.x.B[f + 1]) := by show _ = _; unfold Pn.endN; rw [if_pos h, Pn.b_get h]
    obtain ⟨bb, oo, ha, -, hc⟩ := int_at (HP.out.b.below HB1.out) h
    rw [ha] at c1
    clear ha
    have hc' : W1.cell? ⟨bb, oo + ((f : Int) + 1).toNat, none⟩ = some (.int .i64 p.x.B[f + 1]) := by rw [show ((f : Int) + 1).toNat = f + 1 by omega]; exact hc
    go_wp2_with fail
    go_ret
    exact ⟨by rw [HF.out]; rfl, HB1.out⟩
  · have hi : ¬ (f : Int) + 1 < (p.x.B.length : Int) := by omega
    have HF : Hid (Pn.endN p.x f = p.x.W) := by show _ = _; unfold Pn.endN; rw [if_neg h]
    go_wp2_with fail
    go_ret
    exact ⟨by rw [HF.out]; rfl, HB1.out⟩
namespace Pn
theorem ofF_drop (x : PX) (at_ : Int) (i k : Nat) : ofF x at_ i (k + 1) = if b x i ≤ at_ ∧ at_ < endN x i then (i : Int) else ofF x at_ (i + 1) k := rfl
theorem ofF_le (x : PX) (at_ : Int) : ∀ k i, -1 ≤ ofF x at_ i k ∧ ofF x at_ i k < (i + k : Nat)
  | 0, i => by show -1 ≤ (-1 : Int) ∧ (-1 : Int) < _; omega
  | k + 1, i => by
    rw [ofF_drop]
    split
    · omega
    · have := ofF_le x at_ k (i + 1)
      omega
theorem ofT_le (x : PX) (at_ : Int) : -1 ≤ ofT x at_ ∧ ofT x at_ < (x.B.length : Int) := by
  have := ofF_le x at_ x.B.length 0
  unfold ofT
  omega
end Pn
set_option maxRecDepth 20000 in
set_option maxHeartbeats 1000000 in
theorem plof_any (w : World) (p : Qp) (hp : QpIn w p) (at_ : Int) : Calls Tryz.prog 27 #[p.v, .int .i64 at_] w (RetI w (Pn.ofT p.x at_)) := by
  have HP := Lib.hid hp
  have hbl := hp.bl
  obtain ⟨D, hD⟩ : ∃ D, Pn.ofT p.x at_ = D := ⟨_, rfl⟩
  have HD : Hid (Pn.ofF p.x at_ 0 p.x.B.length = D) := hD
  rw [hD]
  clear hp hD
  go_enter Tryz.func27, Tryz.ntmps27
  go_upto_region 1 with (refine wpList_box_qp rfl (.tmp 0) rfl p rfl ?_; intro W1 hb1 hz1 hB1)
  have HB1 := Lib.hid hB1
  have HH := Lib.hid hb1
  obtain ⟨-, c1, -⟩ := Blk.qp hb1
  obtain ⟨g2, hg2⟩ : ∃ g, w.heap.size = g := ⟨_, rfl⟩
  rw [hg2] at c1 HH
  rw [hg2]
  clear hB1 hz1 hb1 hg2
  go_wp2_with fail
  clear c1
  go_loopw [10] (fun iv wr => ∃ i : Nat, i ≤ p.x.B.length ∧ iv = .int .i64 (i : Int) ∧ Hid (Pn.ofF p.x at_ i (p.x.B.length - i) = D ∧ Below W1.heap.size W1 wr)) (fun iv _ => p.x.B.length - (intOf iv).toNat)
  case atStart => exact ⟨0, Nat.zero_le _, by go_num, HD.out, Below.refl _ _⟩
  case round =>
    obtain ⟨i, hi, rfl, HJ⟩ := hrel
    have HE := Lib.hid HJ.out.1
    have HBW := Lib.hid HJ.out.2
    clear HJ
    by_cases hlt : i < p.x.B.length
    · have hii : (i : Int) < (p.x.B.length : Int) := by omega
      have HPW := Lib.hid (HP.out.below (HB1.out.then HBW.out))
      obtain ⟨bb, oo, ha, -, hc⟩ := int_at HPW.out.b hlt
      have HX : Hid (D = if p.x.B[i] ≤ at_ ∧ at_ < Pn.endN p.x i then (i : Int) else Pn.ofF p.x at_ (i + 1) (p.x.B.length - (i + 1))) := by
        show _ = _
        rw [← HE.out, show p.x.B.length - i = p.x.B.length - (i + 1) + 1 by omega, Pn.ofF_drop, Pn.b_get hlt]
      have h2 := HH.out.below HBW.out
      rw [ha]
      clear ha
      generalize p.x.B[i] = bi at hc HX
      by_cases h1 : bi ≤ at_
      · obtain ⟨e0, e1, e2, e3, e4, e5, e6, e7, e8⟩ := Blk.qp9 (Blk.qp90 h2)
        clear h2
        go_wp2_with fail
        refine (show Calls _ _ #[p.v, _] _ _ from plend_any wr p HPW.out i (by omega)).mono ?_
        rintro e W3 ⟨rfl, hB3⟩
        have HB3 := Lib.hid (HBW.out.then hB3)
        clear hB3 hc e0 e1 e2 e3 e4 e5 e6 e7 e8
        by_cases h2 : at_ < Pn.endN p.x i
        · have HF : Hid (D = (i : Int)) := by show _ = _; rw [HX.out, if_pos ⟨h1, h2⟩]
          go_wp2_with fail
          go_ret
          exact ⟨by rw [HF.out]; rfl, HB1.out.then HB3.out⟩
        · have HF : Hid (Pn.ofF p.x at_ (i + 1) (p.x.B.length - (i + 1)) = D) := by show _ = _; rw [HX.out, if_neg (fun h => h2 h.2)]
          go_wp2_with fail
          go_roundw
          case rel => exact ⟨i + 1, by omega, by go_num, HF.out, HB3.out⟩
          case measure => simp [intOf]; omega
      · have HF : Hid (Pn.ofF p.x at_ (i + 1) (p.x.B.length - (i + 1)) = D) := by show _ = _; rw [HX.out, if_neg (fun h => h1 h.1)]
        clear h2
        go_wp2_with fail
        go_roundw
        case rel => exact ⟨i + 1, by omega, by go_num, HF.out, HBW.out⟩
        case measure => simp [intOf]; omega
    · have hii : ¬ (i : Int) < (p.x.B.length : Int) := by omega
      have HF : Hid (D = -1) := by show _ = _; rw [← HE.out, show p.x.B.length - i = 0 by omega]; rfl
      go_wp2_with fail
      go_ret
      exact ⟨by rw [HF.out]; rfl, HB1.out.then HBW.out⟩
end Go.Proofs.YtjdffhonljhpcaaGreat
end

section
/-
  The contracts of asks, Orders, sorts and may.
-/
namespace Go.Proofs.YtjdffhonljhpcaaGreat
set_option linter.unusedSimpArgs false
set_option linter.unusedVariables false
open Go.RowKit

namespace Pn
theorem foldl_orP_lt : ∀ (l : List (Nat × Bool)) (y : Nat × Bool), y.1 < 16 → (∀ z ∈ l, z.1 < 16) → (l.foldl orP y).1 < 16
  | [], _, h, _ => h
  | z :: l, y, h, hl => foldl_orP_lt l (orP y z) (or16 _ h _ (hl z List.mem_cons_self)) (fun u hu => hl u (List.mem_cons_of_mem _ hu))
theorem pow_lt16 {f : Int} (h0 : 0 ≤ f) (h : f < 4) : 2 ^ f.toNat < 16 := by
  have : f = 0 ∨ f = 1 ∨ f = 2 ∨ f = 3 := by omega
  rcases this with rfl | rfl | rfl | rfl <;> decide
theorem asksK_lt {x : PX} (hB : x.B.length ≤ 4) {k at_ : Int} {l : List (Nat × Bool)} (hl : ∀ z ∈ l, z.1 < 16) : (asksK x k at_ l).1 < 16 := by
  unfold asksK
  split
  · split
    · show 0 < 16; decide
    · have := ofT_le x at_
      exact foldl_orP_lt _ _ (pow_lt16 (by omega) (by omega)) hl
  · exact foldl_orP_lt _ _ (by show 0 < 16; decide) hl
mutual
theorem asks_lt {x : PX} (hB : x.B.length ≤ 4) : ∀ n : Nd, (asks x n).1 < 16
  | .mk _ _ _ _ _ _ _ args _ => asksK_lt hB (asksL_lt hB args)
theorem asksL_lt {x : PX} (hB : x.B.length ≤ 4) : ∀ l : List Nd, ∀ y ∈ asksL x l, y.1 < 16
  | [], y, h => by cases h
  | n :: l, y, h => by
    rcases List.mem_cons.1 h with h | h
    · rw [h]; exact asks_lt hB n
    · exact asksL_lt hB l y h
end
theorem asks_drop (x : PX) (L : List Nd) (i : Nat) (h : i < L.length) (y : Nat × Bool) : (asksL x (L.drop i)).foldl orP y = (asksL x (L.drop (i + 1))).foldl orP (orP y (asks x L[i])) := by
  rw [List.drop_eq_getElem_cons h]; rfl
end Pn
/-- What asks answers. -/
def RetAsk (w : World) (y : Nat × Bool) (e : Ending) (w' : World) : Prop := e = .returned (.tuple #[.int .u8 y.1, .bool y.2]) ∧ Below w.heap.size w w'
def AsksTo (w : World) (p : Qp) (n : Nd) : Prop := ∀ W, Below w.heap.size w W → Calls Tryz.prog 18 #[p.v, n.v] W (RetAsk W (Pn.asks p.x n))
set_option maxRecDepth 20000 in
set_option maxHeartbeats 4000000 in
theorem plasks_any (w : World) (p : Qp) (hp : QpIn w p) (hB4 : p.x.B.length ≤ 4) (n : Nd) (hn : NodeIn w n) : AsksTo w p n := by
  induction hn with
  | @mk n hr hin hlit hls hk hat hc hm ih =>
  have HR := Lib.hid hr
  have HI := Lib.hid ih
  have HP := Lib.hid hp
  have hcm : n.args.length ≤ 9223372036854775807 := by unfold maxLen at hm; omega
  clear hp hr hin hlit hls hk hat hc hm ih
  intro W hB
  have HBO := Lib.hid hB
  clear hB
  obtain ⟨D, hD⟩ : ∃ D, Pn.asks p.x n = D := ⟨_, rfl⟩
  have HD : Hid (Pn.asksK p.x n.k n.at_ (Pn.asksL p.x n.args) = D) := by show _ = _; rw [← hD, Pn.asks_eq]
  rw [hD]
  clear hD
  go_enter Tryz.func18, Tryz.ntmps18
  go_upto_region 2 with (first | (refine wpList_box_qp rfl (.tmp 0) rfl p rfl ?_; intro W1 hb1 hz1 hB1) | (refine wpList_box_nd rfl (.tmp 1) rfl n rfl ?_; intro W2 hb2 hz2 hB2))
  have hb12 := hb1.below hB2
  have HB2 := Lib.hid (hB1.then hB2)
  clear hb1 hB1 hB2 hz2 hz1
  obtain ⟨g2, hg2⟩ : ∃ g, W.heap.size = g := ⟨_, rfl⟩
  have HQ : Hid (Blk W2 g2 36 p.cells) := by show Blk _ _ _ _; rw [← hg2]; exact hb12
  rw [hg2]
  generalize W1.heap.size = g3 at hb2 ⊢
  have HNB := Lib.hid hb2
  obtain ⟨c0, -, -, -, -, -, c6, -, -, c9, -⟩ := Blk.c10 hb2
  clear hg2 hb12
  have HQQ : Hid (Below W2.heap.size W2 W2) := Below.refl _ _
  by_cases hk : n.k = 2
  · have hkb : (n.k == 2) = true := by simpa using hk
    have HDK : Hid ((if Pn.ofT p.x n.at_ < 0 then (0, true) else (Pn.asksL p.x n.args).foldl Pn.orP (2 ^ (Pn.ofT p.x n.at_).toNat, false)) = D) := by
      show _ = _
      rw [← HD.out]
      unfold Pn.asksK
      rw [if_pos hk]
    clear hk HD hb2 c9
    go_wp2_with (refine wpList_load_qp0 rfl (.tmp 2) rfl g2 rfl HQ.out ?_)
    refine (plof_any W2 p (HP.out.below (HBO.out.then HB2.out)) n.at_).mono ?_
    rintro e W3 ⟨rfl, hB3⟩
    have HB3 := Lib.hid (HB2.out.then hB3)
    have HQ3 := Lib.hid hB3
    obtain ⟨-, -, -, -, -, -, -, -, -, c9, -⟩ := Blk.c10 (HNB.out.below hB3)
    have hof := Pn.ofT_le p.x n.at_
    clear hB3 c0 c6
    generalize Pn.ofT p.x n.at_ = f at HDK hof ⊢
    by_cases hf : f < 0
    · have HF : Hid (D = (0, true)) := by show _ = _; rw [← HDK.out, if_pos hf]
      go_wp2_with fail
      go_ret2
      exact ⟨by rw [HF.out]; rfl, HB3.out⟩
    · have HD0 : Hid ((Pn.asksL p.x n.args).foldl Pn.orP (2 ^ f.toNat, false) = D) := by show _ = _; rw [← HDK.out, if_neg hf]
      have hfc : f = 0 ∨ f = 1 ∨ f = 2 ∨ f = 3 := by omega
      clear hof hf HDK
      rcases hfc with rfl | rfl | rfl | rfl
      · have HDX : Hid ((Pn.asksL p.x (n.args.drop 0)).foldl Pn.orP (1, false) = D) := by show _ = _; rw [← HD0.out]; rfl
        clear HD0
        go_upto_region 8 with fail
        clear c9
        -- the loop over the parts, from mask 1 on; HDX: it comes to D; (by omega): the mask is small; in world W3, since W: HB3
        go_loopw [6, 7, 27] (fun mv ov iv wr => ∃ (i m : Nat) (o : Bool), i ≤ n.args.length ∧ mv = .int .u8 (m : Nat) ∧ ov = .bool o ∧ iv = .int .i64 (i : Int) ∧ m < 16 ∧ Hid ((Pn.asksL p.x (n.args.drop i)).foldl Pn.orP (m, o) = D ∧ Below W3.heap.size W3 wr)) (fun _ _ iv _ => n.args.length - (intOf iv).toNat)
        case atStart => exact ⟨0, 1, false, Nat.zero_le _, by go_num, rfl, by go_num, (by omega), HDX.out, Below.refl _ _⟩
        case round =>
          obtain ⟨i, m, o, hi, rfl, rfl, rfl, hm, HJ⟩ := hrel
          have HD2 := Lib.hid HJ.out.1
          have HBW := Lib.hid HJ.out.2
          have HBV : Hid (Below W.heap.size W wr) := HB3.out.then HBW.out
          clear HJ
          by_cases hlt : i < n.args.length
          · have hii : (i : Int) < (n.args.length : Int) := by omega
            obtain ⟨bb, oo, ha, -, -⟩ := HR.out.at_ hlt
            have HIW : Hid (ERow eNd wr (some ⟨bb, oo, none⟩) n.args) := by show ERow _ _ _ _; rw [← ha]; exact HR.out.below (HBO.out.then HBV.out)
            obtain ⟨a, hna⟩ : ∃ a, n.args[i] = a := ⟨_, rfl⟩
            have HNA := Lib.hid hna
            have HIA := Lib.hid (HI.out a (by rw [← hna]; exact List.getElem_mem hlt))
            have HX : Hid ((Pn.asksL p.x (n.args.drop (i + 1))).foldl Pn.orP (m ||| (Pn.asks p.x a).1, o || (Pn.asks p.x a).2) = D) := by show _ = _; rw [← HD2.out, Pn.asks_drop p.x n.args i hlt, hna]; rfl
            have hal := Pn.asks_lt hB4 a
            rw [ha]
            clear ha hna
            go_upto_region 10 with (first | (refine wpList_load_nd_is rfl (.tmp 29) rfl HIW.out hlt a HNA.out rfl ?_) | (refine wpList_alloc_nd rfl rfl ?_; intro W6 hb6 hz6 hB6) | (refine wpList_store_nd rfl rfl (.tmp 10) (.tmp 30) rfl wr.heap.size rfl a rfl hb6 ?_; intro W7 hb7 hg7))
            have HB7 := Lib.hid (below_of_grown (HBW.out.then hB6) hg7 HBW.out.size (Nat.le_trans HBW.out.size hB6.size))
            clear hb6 hz6 hB6 hg7 HIW HNA
            have h27 := HQ.out.below (HQ3.out.then HB7.out)
            generalize wr.heap.size = g10 at hb7 ⊢
            go_wp2_with (first | (refine wpList_load_qp0 rfl (.tmp 2) rfl g2 rfl h27 ?_) | (refine wpList_load_nd rfl (.tmp 10) rfl g10 rfl hb7 ?_))
            refine (HIA.out W7 (HBO.out.then (HB3.out.then HB7.out))).mono ?_
            rintro e W8 ⟨rfl, hB8⟩
            have HB8 := Lib.hid (HB7.out.then hB8)
            have ho8 := or8 m hm _ hal
            clear hB8 hb7 h27
            generalize (Pn.asks p.x a).1 = am at HX hal ho8 ⊢
            generalize (Pn.asks p.x a).2 = ao at HX ⊢
            cases o with
            | true =>
              have HF9 : Hid ((Pn.asksL p.x (n.args.drop (i + 1))).foldl Pn.orP (m ||| am, true) = D) := by show _ = _; rw [← HX.out]; rfl
              go_wp2_with fail
              go_roundw
              case rel => exact ⟨i + 1, m ||| am, true, by omega, by go_num, rfl, by go_num, or16 m hm am hal, HF9.out, HB8.out⟩
              case measure => simp [intOf]; omega
            | false =>
              have HF9 : Hid ((Pn.asksL p.x (n.args.drop (i + 1))).foldl Pn.orP (m ||| am, ao) = D) := by show _ = _; rw [← HX.out]; rfl
              go_wp2_with fail
              go_roundw
              case rel => exact ⟨i + 1, m ||| am, ao, by omega, by go_num, rfl, by go_num, or16 m hm am hal, HF9.out, HB8.out⟩
              case measure => simp [intOf]; omega
          · have hii : ¬ (i : Int) < (n.args.length : Int) := by omega
            have HF : Hid (D = (m, o)) := by show _ = _; rw [← HD2.out, List.drop_eq_nil_of_le (by omega)]; rfl
            go_wp2_with fail
            go_ret2
            exact ⟨by rw [HF.out]; rfl, HBV.out⟩
      · have HDX : Hid ((Pn.asksL p.x (n.args.drop 0)).foldl Pn.orP (2, false) = D) := by show _ = _; rw [← HD0.out]; rfl
        clear HD0
        go_upto_region 8 with fail
        clear c9
        -- the loop over the parts, from mask 2 on; HDX: it comes to D; (by omega): the mask is small; in world W3, since W: HB3
        go_loopw [6, 7, 27] (fun mv ov iv wr => ∃ (i m : Nat) (o : Bool), i ≤ n.args.length ∧ mv = .int .u8 (m : Nat) ∧ ov = .bool o ∧ iv = .int .i64 (i : Int) ∧ m < 16 ∧ Hid ((Pn.asksL p.x (n.args.drop i)).foldl Pn.orP (m, o) = D ∧ Below W3.heap.size W3 wr)) (fun _ _ iv _ => n.args.length - (intOf iv).toNat)
        case atStart => exact ⟨0, 2, false, Nat.zero_le _, by go_num, rfl, by go_num, (by omega), HDX.out, Below.refl _ _⟩
        case round =>
          obtain ⟨i, m, o, hi, rfl, rfl, rfl, hm, HJ⟩ := hrel
          have HD2 := Lib.hid HJ.out.1
          have HBW := Lib.hid HJ.out.2
          have HBV : Hid (Below W.heap.size W wr) := HB3.out.then HBW.out
          clear HJ
          by_cases hlt : i < n.args.length
          · have hii : (i : Int) < (n.args.length : Int) := by omega
            obtain ⟨bb, oo, ha, -, -⟩ := HR.out.at_ hlt
            have HIW : Hid (ERow eNd wr (some ⟨bb, oo, none⟩) n.args) := by show ERow _ _ _ _; rw [← ha]; exact HR.out.below (HBO.out.then HBV.out)
            obtain ⟨a, hna⟩ : ∃ a, n.args[i] = a := ⟨_, rfl⟩
            have HNA := Lib.hid hna
            have HIA := Lib.hid (HI.out a (by rw [← hna]; exact List.getElem_mem hlt))
            have HX : Hid ((Pn.asksL p.x (n.args.drop (i + 1))).foldl Pn.orP (m ||| (Pn.asks p.x a).1, o || (Pn.asks p.x a).2) = D) := by show _ = _; rw [← HD2.out, Pn.asks_drop p.x n.args i hlt, hna]; rfl
            have hal := Pn.asks_lt hB4 a
            rw [ha]
            clear ha hna
            go_upto_region 10 with (first | (refine wpList_load_nd_is rfl (.tmp 29) rfl HIW.out hlt a HNA.out rfl ?_) | (refine wpList_alloc_nd rfl rfl ?_; intro W6 hb6 hz6 hB6) | (refine wpList_store_nd rfl rfl (.tmp 10) (.tmp 30) rfl wr.heap.size rfl a rfl hb6 ?_; intro W7 hb7 hg7))
            have HB7 := Lib.hid (below_of_grown (HBW.out.then hB6) hg7 HBW.out.size (Nat.le_trans HBW.out.size hB6.size))
            clear hb6 hz6 hB6 hg7 HIW HNA
            have h27 := HQ.out.below (HQ3.out.then HB7.out)
            generalize wr.heap.size = g10 at hb7 ⊢
            go_wp2_with (first | (refine wpList_load_qp0 rfl (.tmp 2) rfl g2 rfl h27 ?_) | (refine wpList_load_nd rfl (.tmp 10) rfl g10 rfl hb7 ?_))
            refine (HIA.out W7 (HBO.out.then (HB3.out.then HB7.out))).mono ?_
            rintro e W8 ⟨rfl, hB8⟩
            have HB8 := Lib.hid (HB7.out.then hB8)
            have ho8 := or8 m hm _ hal
            clear hB8 hb7 h27
            generalize (Pn.asks p.x a).1 = am at HX hal ho8 ⊢
            generalize (Pn.asks p.x a).2 = ao at HX ⊢
            cases o with
            | true =>
              have HF9 : Hid ((Pn.asksL p.x (n.args.drop (i + 1))).foldl Pn.orP (m ||| am, true) = D) := by show _ = _; rw [← HX.out]; rfl
              go_wp2_with fail
              go_roundw
              case rel => exact ⟨i + 1, m ||| am, true, by omega, by go_num, rfl, by go_num, or16 m hm am hal, HF9.out, HB8.out⟩
              case measure => simp [intOf]; omega
            | false =>
              have HF9 : Hid ((Pn.asksL p.x (n.args.drop (i + 1))).foldl Pn.orP (m ||| am, ao) = D) := by show _ = _; rw [← HX.out]; rfl
              go_wp2_with fail
              go_roundw
              case rel => exact ⟨i + 1, m ||| am, ao, by omega, by go_num, rfl, by go_num, or16 m hm am hal, HF9.out, HB8.out⟩
              case measure => simp [intOf]; omega
          · have hii : ¬ (i : Int) < (n.args.length : Int) := by omega
            have HF : Hid (D = (m, o)) := by show _ = _; rw [← HD2.out, List.drop_eq_nil_of_le (by omega)]; rfl
            go_wp2_with fail
            go_ret2
            exact ⟨by rw [HF.out]; rfl, HBV.out⟩
      · have HDX : Hid ((Pn.asksL p.x (n.args.drop 0)).foldl Pn.orP (4, false) = D) := by show _ = _; rw [← HD0.out]; rfl
        clear HD0
        go_upto_region 8 with fail
        clear c9
        -- the loop over the parts, from mask 4 on; HDX: it comes to D; (by omega): the mask is small; in world W3, since W: HB3
        go_loopw [6, 7, 27] (fun mv ov iv wr => ∃ (i m : Nat) (o : Bool), i ≤ n.args.length ∧ mv = .int .u8 (m : Nat) ∧ ov = .bool o ∧ iv = .int .i64 (i : Int) ∧ m < 16 ∧ Hid ((Pn.asksL p.x (n.args.drop i)).foldl Pn.orP (m, o) = D ∧ Below W3.heap.size W3 wr)) (fun _ _ iv _ => n.args.length - (intOf iv).toNat)
        case atStart => exact ⟨0, 4, false, Nat.zero_le _, by go_num, rfl, by go_num, (by omega), HDX.out, Below.refl _ _⟩
        case round =>
          obtain ⟨i, m, o, hi, rfl, rfl, rfl, hm, HJ⟩ := hrel
          have HD2 := Lib.hid HJ.out.1
          have HBW := Lib.hid HJ.out.2
          have HBV : Hid (Below W.heap.size W wr) := HB3.out.then HBW.out
          clear HJ
          by_cases hlt : i < n.args.length
          · have hii : (i : Int) < (n.args.length : Int) := by omega
            obtain ⟨bb, oo, ha, -, -⟩ := HR.out.at_ hlt
            have HIW : Hid (ERow eNd wr (some ⟨bb, oo, none⟩) n.args) := by show ERow _ _ _ _; rw [← ha]; exact HR.out.below (HBO.out.then HBV.out)
            obtain ⟨a, hna⟩ : ∃ a, n.args[i] = a := ⟨_, rfl⟩
            have HNA := Lib.hid hna
            have HIA := Lib.hid (HI.out a (by rw [← hna]; exact List.getElem_mem hlt))
            have HX : Hid ((Pn.asksL p.x (n.args.drop (i + 1))).foldl Pn.orP (m ||| (Pn.asks p.x a).1, o || (Pn.asks p.x a).2) = D) := by show _ = _; rw [← HD2.out, Pn.asks_drop p.x n.args i hlt, hna]; rfl
            have hal := Pn.asks_lt hB4 a
            rw [ha]
            clear ha hna
            go_upto_region 10 with (first | (refine wpList_load_nd_is rfl (.tmp 29) rfl HIW.out hlt a HNA.out rfl ?_) | (refine wpList_alloc_nd rfl rfl ?_; intro W6 hb6 hz6 hB6) | (refine wpList_store_nd rfl rfl (.tmp 10) (.tmp 30) rfl wr.heap.size rfl a rfl hb6 ?_; intro W7 hb7 hg7))
            have HB7 := Lib.hid (below_of_grown (HBW.out.then hB6) hg7 HBW.out.size (Nat.le_trans HBW.out.size hB6.size))
            clear hb6 hz6 hB6 hg7 HIW HNA
            have h27 := HQ.out.below (HQ3.out.then HB7.out)
            generalize wr.heap.size = g10 at hb7 ⊢
            go_wp2_with (first | (refine wpList_load_qp0 rfl (.tmp 2) rfl g2 rfl h27 ?_) | (refine wpList_load_nd rfl (.tmp 10) rfl g10 rfl hb7 ?_))
            refine (HIA.out W7 (HBO.out.then (HB3.out.then HB7.out))).mono ?_
            rintro e W8 ⟨rfl, hB8⟩
            have HB8 := Lib.hid (HB7.out.then hB8)
            have ho8 := or8 m hm _ hal
            clear hB8 hb7 h27
            generalize (Pn.asks p.x a).1 = am at HX hal ho8 ⊢
            generalize (Pn.asks p.x a).2 = ao at HX ⊢
            cases o with
            | true =>
              have HF9 : Hid ((Pn.asksL p.x (n.args.drop (i + 1))).foldl Pn.orP (m ||| am, true) = D) := by show _ = _; rw [← HX.out]; rfl
              go_wp2_with fail
              go_roundw
              case rel => exact ⟨i + 1, m ||| am, true, by omega, by go_num, rfl, by go_num, or16 m hm am hal, HF9.out, HB8.out⟩
              case measure => simp [intOf]; omega
            | false =>
              have HF9 : Hid ((Pn.asksL p.x (n.args.drop (i + 1))).foldl Pn.orP (m ||| am, ao) = D) := by show _ = _; rw [← HX.out]; rfl
              go_wp2_with fail
              go_roundw
              case rel => exact ⟨i + 1, m ||| am, ao, by omega, by go_num, rfl, by go_num, or16 m hm am hal, HF9.out, HB8.out⟩
              case measure => simp [intOf]; omega
          · have hii : ¬ (i : Int) < (n.args.length : Int) := by omega
            have HF : Hid (D = (m, o)) := by show _ = _; rw [← HD2.out, List.drop_eq_nil_of_le (by omega)]; rfl
            go_wp2_with fail
            go_ret2
            exact ⟨by rw [HF.out]; rfl, HBV.out⟩
      · have HDX : Hid ((Pn.asksL p.x (n.args.drop 0)).foldl Pn.orP (8, false) = D) := by show _ = _; rw [← HD0.out]; rfl
        clear HD0
        go_upto_region 8 with fail
        clear c9
        -- the loop over the parts, from mask 8 on; HDX: it comes to D; (by omega): the mask is small; in world W3, since W: HB3
        go_loopw [6, 7, 27] (fun mv ov iv wr => ∃ (i m : Nat) (o : Bool), i ≤ n.args.length ∧ mv = .int .u8 (m : Nat) ∧ ov = .bool o ∧ iv = .int .i64 (i : Int) ∧ m < 16 ∧ Hid ((Pn.asksL p.x (n.args.drop i)).foldl Pn.orP (m, o) = D ∧ Below W3.heap.size W3 wr)) (fun _ _ iv _ => n.args.length - (intOf iv).toNat)
        case atStart => exact ⟨0, 8, false, Nat.zero_le _, by go_num, rfl, by go_num, (by omega), HDX.out, Below.refl _ _⟩
        case round =>
          obtain ⟨i, m, o, hi, rfl, rfl, rfl, hm, HJ⟩ := hrel
          have HD2 := Lib.hid HJ.out.1
          have HBW := Lib.hid HJ.out.2
          have HBV : Hid (Below W.heap.size W wr) := HB3.out.then HBW.out
          clear HJ
          by_cases hlt : i < n.args.length
          · have hii : (i : Int) < (n.args.length : Int) := by omega
            obtain ⟨bb, oo, ha, -, -⟩ := HR.out.at_ hlt
            have HIW : Hid (ERow eNd wr (some ⟨bb, oo, none⟩) n.args) := by show ERow _ _ _ _; rw [← ha]; exact HR.out.below (HBO.out.then HBV.out)
            obtain ⟨a, hna⟩ : ∃ a, n.args[i] = a := ⟨_, rfl⟩
            have HNA := Lib.hid hna
            have HIA := Lib.hid (HI.out a (by rw [← hna]; exact List.getElem_mem hlt))
            have HX : Hid ((Pn.asksL p.x (n.args.drop (i + 1))).foldl Pn.orP (m ||| (Pn.asks p.x a).1, o || (Pn.asks p.x a).2) = D) := by show _ = _; rw [← HD2.out, Pn.asks_drop p.x n.args i hlt, hna]; rfl
            have hal := Pn.asks_lt hB4 a
            rw [ha]
            clear ha hna
            go_upto_region 10 with (first | (refine wpList_load_nd_is rfl (.tmp 29) rfl HIW.out hlt a HNA.out rfl ?_) | (refine wpList_alloc_nd rfl rfl ?_; intro W6 hb6 hz6 hB6) | (refine wpList_store_nd rfl rfl (.tmp 10) (.tmp 30) rfl wr.heap.size rfl a rfl hb6 ?_; intro W7 hb7 hg7))
            have HB7 := Lib.hid (below_of_grown (HBW.out.then hB6) hg7 HBW.out.size (Nat.le_trans HBW.out.size hB6.size))
            clear hb6 hz6 hB6 hg7 HIW HNA
            have h27 := HQ.out.below (HQ3.out.then HB7.out)
            generalize wr.heap.size = g10 at hb7 ⊢
            go_wp2_with (first | (refine wpList_load_qp0 rfl (.tmp 2) rfl g2 rfl h27 ?_) | (refine wpList_load_nd rfl (.tmp 10) rfl g10 rfl hb7 ?_))
            refine (HIA.out W7 (HBO.out.then (HB3.out.then HB7.out))).mono ?_
            rintro e W8 ⟨rfl, hB8⟩
            have HB8 := Lib.hid (HB7.out.then hB8)
            have ho8 := or8 m hm _ hal
            clear hB8 hb7 h27
            generalize (Pn.asks p.x a).1 = am at HX hal ho8 ⊢
            generalize (Pn.asks p.x a).2 = ao at HX ⊢
            cases o with
            | true =>
              have HF9 : Hid ((Pn.asksL p.x (n.args.drop (i + 1))).foldl Pn.orP (m ||| am, true) = D) := by show _ = _; rw [← HX.out]; rfl
              go_wp2_with fail
              go_roundw
              case rel => exact ⟨i + 1, m ||| am, true, by omega, by go_num, rfl, by go_num, or16 m hm am hal, HF9.out, HB8.out⟩
              case measure => simp [intOf]; omega
            | false =>
              have HF9 : Hid ((Pn.asksL p.x (n.args.drop (i + 1))).foldl Pn.orP (m ||| am, ao) = D) := by show _ = _; rw [← HX.out]; rfl
              go_wp2_with fail
              go_roundw
              case rel => exact ⟨i + 1, m ||| am, ao, by omega, by go_num, rfl, by go_num, or16 m hm am hal, HF9.out, HB8.out⟩
              case measure => simp [intOf]; omega
          · have hii : ¬ (i : Int) < (n.args.length : Int) := by omega
            have HF : Hid (D = (m, o)) := by show _ = _; rw [← HD2.out, List.drop_eq_nil_of_le (by omega)]; rfl
            go_wp2_with fail
            go_ret2
            exact ⟨by rw [HF.out]; rfl, HBV.out⟩
  · have hkb : (n.k == 2) = false := by simpa using hk
    have HDX : Hid ((Pn.asksL p.x (n.args.drop 0)).foldl Pn.orP (0, false) = D) := by
      show _ = _
      rw [← HD.out]
      unfold Pn.asksK
      rw [if_neg hk]
      rfl
    clear hk HD hb2 c6
    go_upto_region 8 with fail
    clear c0 c9
    -- the loop over the parts, from mask 0 on; HDX: it comes to D; (by omega): the mask is small; in world W2, since W: HB2
    go_loopw [6, 7, 27] (fun mv ov iv wr => ∃ (i m : Nat) (o : Bool), i ≤ n.args.length ∧ mv = .int .u8 (m : Nat) ∧ ov = .bool o ∧ iv = .int .i64 (i : Int) ∧ m < 16 ∧ Hid ((Pn.asksL p.x (n.args.drop i)).foldl Pn.orP (m, o) = D ∧ Below W2.heap.size W2 wr)) (fun _ _ iv _ => n.args.length - (intOf iv).toNat)
    case atStart => exact ⟨0, 0, false, Nat.zero_le _, by go_num, rfl, by go_num, (by omega), HDX.out, Below.refl _ _⟩
    case round =>
      obtain ⟨i, m, o, hi, rfl, rfl, rfl, hm, HJ⟩ := hrel
      have HD2 := Lib.hid HJ.out.1
      have HBW := Lib.hid HJ.out.2
      have HBV : Hid (Below W.heap.size W wr) := HB2.out.then HBW.out
      clear HJ
      by_cases hlt : i < n.args.length
      · have hii : (i : Int) < (n.args.length : Int) := by omega
        obtain ⟨bb, oo, ha, -, -⟩ := HR.out.at_ hlt
        have HIW : Hid (ERow eNd wr (some ⟨bb, oo, none⟩) n.args) := by show ERow _ _ _ _; rw [← ha]; exact HR.out.below (HBO.out.then HBV.out)
        obtain ⟨a, hna⟩ : ∃ a, n.args[i] = a := ⟨_, rfl⟩
        have HNA := Lib.hid hna
        have HIA := Lib.hid (HI.out a (by rw [← hna]; exact List.getElem_mem hlt))
        have HX : Hid ((Pn.asksL p.x (n.args.drop (i + 1))).foldl Pn.orP (m ||| (Pn.asks p.x a).1, o || (Pn.asks p.x a).2) = D) := by show _ = _; rw [← HD2.out, Pn.asks_drop p.x n.args i hlt, hna]; rfl
        have hal := Pn.asks_lt hB4 a
        rw [ha]
        clear ha hna
        go_upto_region 10 with (first | (refine wpList_load_nd_is rfl (.tmp 29) rfl HIW.out hlt a HNA.out rfl ?_) | (refine wpList_alloc_nd rfl rfl ?_; intro W6 hb6 hz6 hB6) | (refine wpList_store_nd rfl rfl (.tmp 10) (.tmp 30) rfl wr.heap.size rfl a rfl hb6 ?_; intro W7 hb7 hg7))
        have HB7 := Lib.hid (below_of_grown (HBW.out.then hB6) hg7 HBW.out.size (Nat.le_trans HBW.out.size hB6.size))
        clear hb6 hz6 hB6 hg7 HIW HNA
        have h27 := HQ.out.below (HQQ.out.then HB7.out)
        generalize wr.heap.size = g10 at hb7 ⊢
        go_wp2_with (first | (refine wpList_load_qp0 rfl (.tmp 2) rfl g2 rfl h27 ?_) | (refine wpList_load_nd rfl (.tmp 10) rfl g10 rfl hb7 ?_))
        refine (HIA.out W7 (HBO.out.then (HB2.out.then HB7.out))).mono ?_
        rintro e W8 ⟨rfl, hB8⟩
        have HB8 := Lib.hid (HB7.out.then hB8)
        have ho8 := or8 m hm _ hal
        clear hB8 hb7 h27
        generalize (Pn.asks p.x a).1 = am at HX hal ho8 ⊢
        generalize (Pn.asks p.x a).2 = ao at HX ⊢
        cases o with
        | true =>
          have HF9 : Hid ((Pn.asksL p.x (n.args.drop (i + 1))).foldl Pn.orP (m ||| am, true) = D) := by show _ = _; rw [← HX.out]; rfl
          go_wp2_with fail
          go_roundw
          case rel => exact ⟨i + 1, m ||| am, true, by omega, by go_num, rfl, by go_num, or16 m hm am hal, HF9.out, HB8.out⟩
          case measure => simp [intOf]; omega
        | false =>
          have HF9 : Hid ((Pn.asksL p.x (n.args.drop (i + 1))).foldl Pn.orP (m ||| am, ao) = D) := by show _ = _; rw [← HX.out]; rfl
          go_wp2_with fail
          go_roundw
          case rel => exact ⟨i + 1, m ||| am, ao, by omega, by go_num, rfl, by go_num, or16 m hm am hal, HF9.out, HB8.out⟩
          case measure => simp [intOf]; omega
      · have hii : ¬ (i : Int) < (n.args.length : Int) := by omega
        have HF : Hid (D = (m, o)) := by show _ = _; rw [← HD2.out, List.drop_eq_nil_of_le (by omega)]; rfl
        go_wp2_with fail
        go_ret2
        exact ⟨by rw [HF.out]; rfl, HBV.out⟩
end Go.Proofs.YtjdffhonljhpcaaGreat
end

section
/-
  The contracts of Orders, sorts and may.
-/
namespace Go.Proofs.YtjdffhonljhpcaaGreat
set_option linter.unusedSimpArgs false
set_option linter.unusedVariables false
open Go.RowKit

section
variable {w : World} {ops : Array Oper} {rest : List Oper} {o : Oper} {a : Act} {Q : Exit → Act → World → Prop}
theorem so_zero (W : World) : (zeroValue 79).run Tryz.prog W = .ok (So.v ⟨0, false⟩) W := (zero_of_info (P := Tryz.prog) (t := 79) (v := So.v ⟨0, false⟩) (n := 2) (by kernel_rfl)).1 W
theorem so_info : (Tryz.prog.info? 79).map (·.size) = some 2 := by kernel_rfl
theorem wpList_alloc_so (hgd : o.guard = none) (hop : o.op = .alloc 79)
    (h : ∀ W, Blk W w.heap.size 79 [.int .i64 0, .bool false] → w.heap.size + 1 ≤ W.heap.size → Below w.heap.size w W → wpList Tryz.prog ops Q rest (a.put o.dst (.pointer (some ⟨w.heap.size, 0, none⟩))) W) : wpList Tryz.prog ops Q (o :: rest) a w :=
  wpList_alloc_z hgd 79 hop (so_zero _) fun W hW => by
    obtain ⟨h1, h2, h3⟩ := fresh1 (a := [.int .i64 0, .bool false]) hW
    exact h W h1 h2 h3
theorem wpList_store_so (hgd : o.guard = none) (hod : o.dst = none) (x y : Operand) (hop : o.op = .store 79 x y) (g : Nat) (hx : a.eval x = .pointer (some ⟨g, 0, none⟩)) (b : So) (hy : a.eval y = b.v) {T0 : TypeId} {u v : Value} (hb : Blk w g T0 [u, v])
    (h : ∀ W, Blk W g T0 b.cells → w.grownBy W (some g) → wpList Tryz.prog ops Q rest a W) : wpList Tryz.prog ops Q (o :: rest) a w :=
  wpList_store_blk hgd hod 79 x y hop g hx b.cells hy hb rfl so_info (eSo.one b) h
theorem wpList_load_so_at (hgd : o.guard = none) (x : Operand) (hop : o.op = .load 79 x) {b off : Nat} {L : List So} (hr : ERow eSo w (some ⟨b, off, none⟩) L) {j : Nat} (hj : j < L.length) (p : So) (hp : L[j] = p) (hx : a.eval x = .pointer (some ⟨b, off + j * 2, none⟩))
    (h : wpList Tryz.prog ops Q rest (a.put o.dst p.v) w) : wpList Tryz.prog ops Q (o :: rest) a w := by
  subst hp
  obtain ⟨b', off', e, hb, hrg⟩ := hr.range hj
  cases e
  exact wpList_load_mid hgd 79 x hop b (off + j * 2) hx L[j].cells _ hrg Tryz.underlying79 rfl so_info h
end
set_option maxRecDepth 20000 in
theorem plorders_any (w : World) (p : Qp) (hl : p.x.ord.length ≤ 1000000) : Calls Tryz.prog 20 #[p.v] w (RetBo w (Pn.orders p.x)) := by
  obtain ⟨D, hD⟩ : ∃ D, Pn.orders p.x = D := ⟨_, rfl⟩
  have HD : Hid ((!p.x.gr && !p.x.ord.isEmpty) = D) := hD
  rw [hD]
  clear hD
  go_enter Tryz.func20, Tryz.ntmps20
  go_upto_region 1 with (refine wpList_box_qp rfl (.tmp 0) rfl p rfl ?_; intro W1 hb1 hz1 hB1)
  have HB1 := Lib.hid hB1
  obtain ⟨-, -, -, -, c5, c7⟩ := Blk.qp hb1
  clear hB1 hz1 hb1
  generalize w.heap.size = g2 at c5 c7 ⊢
  cases hg : p.x.gr with
  | true =>
    have HF : Hid (D = false) := by show _ = _; rw [← HD.out, hg]; rfl
    rw [hg] at c5
    clear hg
    go_wp2_with fail
    go_ret
    exact ⟨by rw [HF.out]; rfl, HB1.out⟩
  | false =>
    have HF : Hid (D = decide (0 < p.x.ord.length)) := by
      show _ = _
      rw [← HD.out, hg]
      cases p.x.ord with
      | nil => rfl
      | cons s l => simp
    rw [hg] at c5
    clear hg
    go_wp2_with fail
    go_ret
    exact ⟨by rw [HF.out]; rfl, HB1.out⟩
namespace Pn
theorem sortsF_drop (x : PX) (L : List So) (i : Nat) (h : i < L.length) (m : Nat) : sortsF x (L.drop i) m = if ofT x L[i].at_ < 0 then none else sortsF x (L.drop (i + 1)) (m ||| 2 ^ (ofT x L[i].at_).toNat) := by
  rw [List.drop_eq_getElem_cons h]; rfl
def sortsV (x : PX) : Option Nat → Nat × Bool
  | some m => (m, orders x)
  | none => (0, false)
theorem sorts_eq (x : PX) : sorts x = sortsV x (sortsF x x.ord 0) := by
  unfold sorts sortsV
  cases sortsF x x.ord 0 <;> rfl
theorem sortsF_lt {x : PX} (hB : x.B.length ≤ 4) : ∀ (L : List So) (m : Nat), m < 16 → ∀ k, sortsF x L m = some k → k < 16
  | [], m, h, k, e => by cases e; exact h
  | s :: L, m, h, k, e => by
    unfold sortsF at e
    split at e
    · cases e
    · have := ofT_le x s.at_
      exact sortsF_lt hB L _ (or16 _ h _ (pow_lt16 (by omega) (by omega))) k e
theorem sorts_lt {x : PX} (hB : x.B.length ≤ 4) : (sorts x).1 < 16 := by
  rw [sorts_eq]
  cases h : sortsF x x.ord 0 with
  | none => show 0 < 16; decide
  | some k => exact sortsF_lt hB _ 0 (by decide) k h
end Pn
set_option maxRecDepth 20000 in
set_option maxHeartbeats 4000000 in
theorem plsorts_any (w : World) (p : Qp) (hp : QpIn w p) (hB4 : p.x.B.length ≤ 4) : Calls Tryz.prog 19 #[p.v] w (RetAsk w (Pn.sorts p.x)) := by
  have HP := Lib.hid hp
  have hol := hp.ol
  obtain ⟨D, hD⟩ : ∃ D, Pn.sorts p.x = D := ⟨_, rfl⟩
  have HD : Hid (Pn.sortsV p.x (Pn.sortsF p.x (p.x.ord.drop 0) 0) = D) := by show _ = _; rw [← hD, Pn.sorts_eq]; rfl
  rw [hD]
  clear hD hp
  go_enter Tryz.func19, Tryz.ntmps19
  go_upto_region 2 with (refine wpList_box_qp rfl (.tmp 0) rfl p rfl ?_; intro W1 hb1 hz1 hB1)
  have HB1 := Lib.hid hB1
  obtain ⟨-, -, -, -, -, c7⟩ := Blk.qp hb1
  obtain ⟨g2, hg2⟩ : ∃ g, w.heap.size = g := ⟨_, rfl⟩
  have HQ : Hid (Blk W1 g2 36 p.cells) := by show Blk _ _ _ _; rw [← hg2]; exact hb1
  rw [hg2] at c7
  rw [hg2]
  clear hB1 hz1 hb1 hg2
  go_wp2_with fail
  clear c7
  go_loopw [4, 11] (fun mv iv wr => ∃ (i m : Nat), i ≤ p.x.ord.length ∧ mv = .int .u8 (m : Nat) ∧ iv = .int .i64 (i : Int) ∧ m < 16 ∧ Hid (Pn.sortsV p.x (Pn.sortsF p.x (p.x.ord.drop i) m) = D ∧ Below W1.heap.size W1 wr)) (fun _ iv _ => p.x.ord.length - (intOf iv).toNat)
  case atStart => exact ⟨0, 0, Nat.zero_le _, by go_num, by go_num, by omega, HD.out, Below.refl _ _⟩
  case round =>
    obtain ⟨i, m, hi, rfl, rfl, hm, HJ⟩ := hrel
    have HD2 := Lib.hid HJ.out.1
    have HBW := Lib.hid HJ.out.2
    clear HJ
    by_cases hlt : i < p.x.ord.length
    · have hii : (i : Int) < (p.x.ord.length : Int) := by omega
      obtain ⟨bb, oo, ha, -, -⟩ := HP.out.o.at_ hlt
      have HIW : Hid (ERow eSo wr (some ⟨bb, oo, none⟩) p.x.ord) := by show ERow _ _ _ _; rw [← ha]; exact HP.out.o.below (HB1.out.then HBW.out)
      obtain ⟨s, hs⟩ : ∃ s, p.x.ord[i] = s := ⟨_, rfl⟩
      have HS := Lib.hid hs
      have HX : Hid ((if Pn.ofT p.x s.at_ < 0 then Pn.sortsV p.x none else Pn.sortsV p.x (Pn.sortsF p.x (p.x.ord.drop (i + 1)) (m ||| 2 ^ (Pn.ofT p.x s.at_).toNat))) = D) := by
        show _ = _
        rw [← HD2.out, Pn.sortsF_drop p.x p.x.ord i hlt, hs]
        split <;> rfl
      rw [ha]
      clear ha hs
      go_upto_region 5 with (first | (refine wpList_load_so_at rfl (.tmp 13) rfl HIW.out hlt s HS.out rfl ?_) | (refine wpList_alloc_so rfl rfl ?_; intro W6 hb6 hz6 hB6) | (refine wpList_store_so rfl rfl (.tmp 6) (.tmp 14) rfl wr.heap.size rfl s rfl hb6 ?_; intro W7 hb7 hg7))
      have HB7 := Lib.hid (below_of_grown (HBW.out.then hB6) hg7 HBW.out.size (Nat.le_trans HBW.out.size hB6.size))
      have h27 := HQ.out.below HB7.out
      obtain ⟨d0, -⟩ := Blk.c2 hb7
      clear hb6 hz6 hB6 hg7 HIW HS hb7
      generalize wr.heap.size = g6 at d0 ⊢
      go_wp2_with (refine wpList_load_qp0 rfl (.tmp 1) rfl g2 rfl h27 ?_)
      refine (plof_any W7 p (HP.out.below (HB1.out.then HB7.out)) s.at_).mono ?_
      rintro e W8 ⟨rfl, hB8⟩
      have HB8 := Lib.hid (HB7.out.then hB8)
      have hof := Pn.ofT_le p.x s.at_
      clear hB8 d0 h27
      generalize Pn.ofT p.x s.at_ = f at HX hof ⊢
      by_cases hf : f < 0
      · have HF : Hid (D = (0, false)) := by show _ = _; rw [← HX.out, if_pos hf]; rfl
        go_wp2_with fail
        go_ret2
        exact ⟨by rw [HF.out]; rfl, HB1.out.then HB8.out⟩
      · have HD3 : Hid (Pn.sortsV p.x (Pn.sortsF p.x (p.x.ord.drop (i + 1)) (m ||| 2 ^ f.toNat)) = D) := by show _ = _; rw [← HX.out, if_neg hf]
        have hfc : f = 0 ∨ f = 1 ∨ f = 2 ∨ f = 3 := by omega
        clear hof hf HX
        rcases hfc with rfl | rfl | rfl | rfl
        · have ho8 := or8 m hm 1 (by omega)
          have HD4 : Hid (Pn.sortsV p.x (Pn.sortsF p.x (p.x.ord.drop (i + 1)) (m ||| 1)) = D) := by show _ = _; rw [← HD3.out]; rfl
          go_wp2_with fail
          go_roundw
          case rel => exact ⟨i + 1, m ||| 1, by omega, by go_num, by go_num, or16 m hm 1 (by omega), HD4.out, HB8.out⟩
          case measure => simp [intOf]; omega
        · have ho8 := or8 m hm 2 (by omega)
          have HD4 : Hid (Pn.sortsV p.x (Pn.sortsF p.x (p.x.ord.drop (i + 1)) (m ||| 2)) = D) := by show _ = _; rw [← HD3.out]; rfl
          go_wp2_with fail
          go_roundw
          case rel => exact ⟨i + 1, m ||| 2, by omega, by go_num, by go_num, or16 m hm 2 (by omega), HD4.out, HB8.out⟩
          case measure => simp [intOf]; omega
        · have ho8 := or8 m hm 4 (by omega)
          have HD4 : Hid (Pn.sortsV p.x (Pn.sortsF p.x (p.x.ord.drop (i + 1)) (m ||| 4)) = D) := by show _ = _; rw [← HD3.out]; rfl
          go_wp2_with fail
          go_roundw
          case rel => exact ⟨i + 1, m ||| 4, by omega, by go_num, by go_num, or16 m hm 4 (by omega), HD4.out, HB8.out⟩
          case measure => simp [intOf]; omega
        · have ho8 := or8 m hm 8 (by omega)
          have HD4 : Hid (Pn.sortsV p.x (Pn.sortsF p.x (p.x.ord.drop (i + 1)) (m ||| 8)) = D) := by show _ = _; rw [← HD3.out]; rfl
          go_wp2_with fail
          go_roundw
          case rel => exact ⟨i + 1, m ||| 8, by omega, by go_num, by go_num, or16 m hm 8 (by omega), HD4.out, HB8.out⟩
          case measure => simp [intOf]; omega
    · have hii : ¬ (i : Int) < (p.x.ord.length : Int) := by omega
      have HF : Hid (D = (m, Pn.orders p.x)) := by show _ = _; rw [← HD2.out, List.drop_eq_nil_of_le (by omega)]; rfl
      have h2 := HQ.out.below HBW.out
      go_wp2_with (refine wpList_load_qp0 rfl (.tmp 1) rfl g2 rfl h2 ?_)
      refine (plorders_any wr p hol).mono ?_
      rintro e W8 ⟨rfl, hB8⟩
      have HB8 := Lib.hid (HBW.out.then hB8)
      clear hB8 h2
      go_wp2_with fail
      go_ret2
      exact ⟨by rw [HF.out]; rfl, HB1.out.then HB8.out⟩
set_option maxRecDepth 20000 in
set_option maxHeartbeats 4000000 in
theorem plmay_any (w : World) (p : Qp) (hp : QpIn w p) : Calls Tryz.prog 16 #[p.v] w (RetBo w (Pn.may p.x)) := by
  have HP := Lib.hid hp
  have htl := hp.tl
  have hbl := hp.bl
  obtain ⟨D, hD⟩ : ∃ D, Pn.may p.x = D := ⟨_, rfl⟩
  have HD := Lib.hid hD
  rw [hD]
  clear hp hD
  go_enter Tryz.func16, Tryz.ntmps16
  go_upto_region 1 with (refine wpList_box_qp rfl (.tmp 0) rfl p rfl ?_; intro W1 hb1 hz1 hB1)
  have HB1 := Lib.hid hB1
  obtain ⟨c0, c1, c2, -, -, -⟩ := Blk.qp hb1
  obtain ⟨g2, hg2⟩ : ∃ g, w.heap.size = g := ⟨_, rfl⟩
  have HQ : Hid (Blk W1 g2 36 p.cells) := by show Blk _ _ _ _; rw [← hg2]; exact hb1
  rw [hg2] at c0 c1 c2
  rw [hg2]
  clear hB1 hz1 hb1 hg2
  by_cases h1 : p.x.T.length < 1
  · have hi : (p.x.T.length : Int) < 1 := by omega
    have HF : Hid (D = false) := by
      show _ = _
      rw [← HD.out]
      unfold Pn.may Pn.may0
      simp [show ¬ 1 ≤ p.x.T.length by omega]
    go_wp2_with fail
    go_ret
    exact ⟨by rw [HF.out]; rfl, HB1.out⟩
  have i1 : ¬ (p.x.T.length : Int) < 1 := by omega
  by_cases h2 : 4 < p.x.T.length
  · have hi : (4 : Int) < (p.x.T.length : Int) := by omega
    have HF : Hid (D = false) := by
      show _ = _
      rw [← HD.out]
      unfold Pn.may Pn.may0
      simp [show ¬ p.x.T.length ≤ 4 by omega]
    go_wp2_with fail
    go_ret
    exact ⟨by rw [HF.out]; rfl, HB1.out⟩
  have i2 : ¬ (4 : Int) < (p.x.T.length : Int) := by omega
  by_cases h3 : p.x.B.length = p.x.T.length
  · have h3b : ((p.x.B.length : Int) != (p.x.T.length : Int)) = false := by simp [h3]
    obtain ⟨bb, oo, ha, -, hc⟩ := int_at (HP.out.b.below HB1.out) (i := 0) (by omega)
    have hi0 : (0 : Int) < (p.x.B.length : Int) := by omega
    obtain ⟨b0, hb0⟩ : ∃ b0, p.x.B[0] = b0 := ⟨_, rfl⟩
    have HB0 : Hid (Pn.b p.x 0 = b0) := by show _ = _; rw [← hb0, Pn.b_get]
    rw [hb0, Nat.add_zero] at hc
    rw [ha] at c1
    clear hb0 ha
    by_cases h4 : b0 = 0
    · have h4b : (b0 != 0) = false := by simp [h4]
      by_cases h5 : p.x.W ≤ (p.x.T.length : Int) * 6
      · have i5 : ¬ (p.x.T.length : Int) * 6 < p.x.W := by omega
        have HM : Hid (Pn.mayF p.x 0 p.x.T.length = D) := by
          show _ = _
          rw [← HD.out]
          unfold Pn.may Pn.may0
          simp [h2, h3, HB0.out, h4, h5]
          intro hc; omega
        have HLB := Lib.hid h3
        have hT4 : p.x.T.length ≤ 4 := by omega
        go_upto_region 5 with fail
        clear c0 c1 c2 hc h3b h4b i5 i1 i2 h1 h2 h4 h5 HB0 h3 hi0
        go_loopw [36] (fun iv wr => ∃ i : Nat, i ≤ p.x.T.length ∧ iv = .int .i64 (i : Int) ∧ Hid (Pn.mayF p.x i (p.x.T.length - i) = D ∧ Below W1.heap.size W1 wr)) (fun iv _ => p.x.T.length - (intOf iv).toNat)
        case atStart => exact ⟨0, Nat.zero_le _, by go_num, HM.out, Below.refl _ _⟩
        case round =>
          obtain ⟨i, hi, rfl, HJ⟩ := hrel
          have HE := Lib.hid HJ.out.1
          have HBW := Lib.hid HJ.out.2
          clear HJ
          by_cases hlt : i < p.x.T.length
          · have hii : (i : Int) < (p.x.T.length : Int) := by omega
            have HX : Hid ((decide (Pn.b p.x i < Pn.endN p.x i) && Pn.mayF p.x (i + 1) (p.x.T.length - (i + 1))) = D) := by
              show _ = _
              rw [← HE.out, show p.x.T.length - i = p.x.T.length - (i + 1) + 1 by omega]
              rfl
            have HBD : Hid (Below W1.heap.size W1 wr.drew) := HBW.out.drewR
            have HPW := Lib.hid (HP.out.below (HB1.out.then HBD.out))
            have h2 := HQ.out.below HBD.out
            have hiB : i < p.x.B.length := by rw [HLB.out]; exact hlt
            have HIB := Lib.hid hiB
            obtain ⟨bb2, oo2, ha2, hbl2, hc0⟩ := int_at HPW.out.b hiB
            have hc : wr.drew.cell? ⟨bb2, oo2 + i, none⟩ = some (.int .i64 (Pn.b p.x i)) := by rw [← Pn.b_get hiB]; exact hc0
            clear hc0
            have hbi : (i : Int) < (p.x.B.length : Int) := by omega
            obtain ⟨-, c1, -⟩ := Blk.qp h2
            rw [ha2] at c1
            go_upto_region 7 with fail
            refine wp_region_plan (.take 0 (.take 1 (.take 3 (.take 4 (.take 5 (.take 6 (.take 7 (.run 2 [3, 4, 5, 6, 7] (.take 8 .fin))))))))) (by kernel_rfl) (by kernel_rfl) (by kernel_rfl) (by kernel_rfl) ?_
            repeat' (first | (refine hZ _ _ ?_; clear hZ) | (refine hZ _ ?_; clear hZ) | (refine hZ ?_; clear hZ) | rw [again_nil] | rw [walk_fin] | ((first | rw [walk_take] | rw [walk_run] | rw [again_cons]); intro Z hZ; simp only [sel, List.getElem?_toArray, List.getElem?_cons_zero, List.getElem?_cons_succ]; go_wp2_with (refine wpList_load_qp0 rfl (.tmp 1) rfl g2 rfl h2 ?_)))
            refine (plend_any wr.drew p HPW.out i (by omega)).mono ?_
            rintro e W3 ⟨rfl, hB3⟩
            replace c1 := cell_later hB3 c1
            replace hc := cell_later hB3 hc
            have HB3 := Lib.hid (HBD.out.then hB3)
            clear hB3 h2 ha2 hbl2
            by_cases hlte : Pn.b p.x i < Pn.endN p.x i
            · have hle : ¬ Pn.endN p.x i ≤ Pn.b p.x i := by omega
              have HF : Hid (Pn.mayF p.x (i + 1) (p.x.T.length - (i + 1)) = D) := by show _ = _; rw [← HX.out, decide_eq_true hlte]; rfl
              go_wp2_with fail
              repeat' (first | (refine hZ _ _ ?_; clear hZ) | (refine hZ _ ?_; clear hZ) | (refine hZ ?_; clear hZ) | rw [again_nil] | rw [walk_fin] | ((first | rw [walk_take] | rw [walk_run] | rw [again_cons]); intro Z hZ; simp only [sel, List.getElem?_toArray, List.getElem?_cons_zero, List.getElem?_cons_succ]; go_wp2_with (fail)))
              go_wp2_with fail
              go_roundw
              case rel => exact ⟨i + 1, by omega, by go_num, HF.out, HB3.out⟩
              case measure => simp [intOf]; omega
            · have hle : Pn.endN p.x i ≤ Pn.b p.x i := by omega
              have HF : Hid (D = false) := by show _ = _; rw [← HX.out, decide_eq_false hlte]; rfl
              go_wp2_with fail
              repeat' (first | (refine hZ _ _ ?_; clear hZ) | (refine hZ _ ?_; clear hZ) | (refine hZ ?_; clear hZ) | rw [again_nil] | rw [walk_fin] | ((first | rw [walk_take] | rw [walk_run] | rw [again_cons]); intro Z hZ; simp only [sel, List.getElem?_toArray, List.getElem?_cons_zero, List.getElem?_cons_succ]; go_wp2_with (fail)))
              go_wp2_with fail
              go_ret
              exact ⟨by rw [HF.out]; rfl, HB1.out.then HB3.out⟩
          · have hii : ¬ (i : Int) < (p.x.T.length : Int) := by omega
            have HF : Hid (D = true) := by show _ = _; rw [← HE.out, show p.x.T.length - i = 0 by omega]; rfl
            go_wp2_with fail
            go_ret
            exact ⟨by rw [HF.out]; rfl, HB1.out.then HBW.out⟩
      · have i5 : (p.x.T.length : Int) * 6 < p.x.W := by omega
        have HF : Hid (D = false) := by
          show _ = _
          rw [← HD.out]
          unfold Pn.may Pn.may0
          simp [h5]
        go_wp2_with fail
        go_ret
        exact ⟨by rw [HF.out]; rfl, HB1.out⟩
    · have h4b : (b0 != 0) = true := by simp [h4]
      have HF : Hid (D = false) := by
        show _ = _
        rw [← HD.out]
        unfold Pn.may Pn.may0
        simp [HB0.out, h4]
      go_wp2_with fail
      go_ret
      exact ⟨by rw [HF.out]; rfl, HB1.out⟩
  · have h3b : ((p.x.B.length : Int) != (p.x.T.length : Int)) = true := by simp; omega
    have HF : Hid (D = false) := by
      show _ = _
      rw [← HD.out]
      unfold Pn.may Pn.may0
      simp [h3]
    go_wp2_with fail
    go_ret
    exact ⟨by rw [HF.out]; rfl, HB1.out⟩
end Go.Proofs.YtjdffhonljhpcaaGreat
end

section
/-
  The contracts of plan's fits, and of col.
-/
namespace Go.Proofs.YtjdffhonljhpcaaGreat
set_option linter.unusedSimpArgs false
set_option linter.unusedVariables false
open Go.RowKit

namespace Pn
/-- What may tells of places. -/
structure Sh (x : PX) : Prop where
  t1 : 1 ≤ x.T.length
  t4 : x.T.length ≤ 4
  bl : x.B.length = x.T.length
  lt : ∀ f, f < x.T.length → 0 ≤ b x f ∧ b x f < endN x f ∧ endN x f ≤ 24
theorem mayF_all {x : PX} : ∀ (k i : Nat), mayF x i k = true → ∀ f, i ≤ f → f < i + k → b x f < endN x f
  | 0, i, _, f, h1, h2 => by omega
  | k + 1, i, h, f, h1, h2 => by
    unfold mayF at h
    simp only [Bool.and_eq_true, decide_eq_true_eq] at h
    by_cases e : f = i
    · rw [e]; exact h.1
    · exact mayF_all k (i + 1) h.2 f (by omega) (by omega)
theorem sh_of_may {x : PX} (h : may x = true) : Sh x := by
  unfold may may0 at h
  simp only [Bool.and_eq_true, decide_eq_true_eq] at h
  obtain ⟨⟨⟨⟨⟨t1, t4⟩, bl⟩, b0⟩, W⟩, hF⟩ := h
  have hlt := mayF_all _ _ hF
  refine ⟨t1, t4, bl, fun f hf => ?_⟩
  have e : ∀ g, endN x g = if g + 1 < x.T.length then b x (g + 1) else x.W := fun g => by unfold endN; rw [bl]
  have l0 := hlt 0 (by omega)
  have l1 := hlt 1 (by omega)
  have l2 := hlt 2 (by omega)
  have l3 := hlt 3 (by omega)
  rw [e] at l0 l1 l2 l3
  rw [e]
  generalize x.T.length = n at *
  have hn : n = 1 ∨ n = 2 ∨ n = 3 ∨ n = 4 := by omega
  have hff : f = 0 ∨ f = 1 ∨ f = 2 ∨ f = 3 := by omega
  rcases hn with rfl | rfl | rfl | rfl <;> rcases hff with rfl | rfl | rfl | rfl <;> simp at * <;> omega
end Pn
/-- Indexes. -/
def Df.cells (d : Df) : List Value := [.int .i64 d.t, .slice d.a d.cols.length d.c, .bool d.real]
def Df.v (d : Df) : Value := .agg d.cells.toArray
instance : Inhabited Df := ⟨⟨0, none, [], 0, false⟩⟩
def eDf : Elem Df where
  e := 40
  t := 38
  sz := 3
  bytes := 40
  zero := .agg #[.int .i64 0, .slice none 0 0, .bool false]
  code := Df.cells
  pos := by decide
  few := by decide
  len := fun _ => rfl
  one := by
    intro x u hu
    simp [Df.cells] at hu
    rcases hu with rfl | rfl | rfl <;> rfl
  zsz := rfl
  info := by kernel_rfl
  under := Tryz.underlying38
/-- Indexes that can be read. -/
structure DfsIn (w : World) (A : Option Addr) (L : List Df) : Prop where
  r : ERow eDf w A L
  cr : ∀ d ∈ L, ERow eInt w d.a d.cols
  cl : ∀ d ∈ L, d.cols.length ≤ 1000
  ci : ∀ d ∈ L, ∀ c ∈ d.cols, Ev.inB c
  cp : ∀ d ∈ L, d.cols.length ≤ d.c ∧ d.c ≤ maxLen
  len : L.length ≤ 1000
theorem DfsIn.below {w W : World} {A : Option Addr} {L : List Df} (h : DfsIn w A L) (hB : Below w.heap.size w W) : DfsIn W A L := ⟨h.r.below hB, fun d hd => (h.cr d hd).below hB, h.cl, h.ci, h.cp, h.len⟩
theorem df_at {w : World} {A : Option Addr} {L : List Df} (h : ERow eDf w A L) {i : Nat} (hi : i < L.length) : ∃ b o, A = some ⟨b, o, none⟩ ∧ b < w.heap.size ∧ w.cell? ⟨b, o + i * 3, none⟩ = some (.int .i64 L[i].t) ∧ w.cell? ⟨b, o + i * 3 + 1, none⟩ = some (.slice L[i].a L[i].cols.length L[i].c) := by
  obtain ⟨b, o, e, hb, hc⟩ := h.at_ hi
  exact ⟨b, o, e, hb, hc 0 _ rfl, hc 1 _ rfl⟩
namespace Pn
/-- Is a column none of a table's? -/
def out1 (x : PX) (f : Nat) (c : Int) : Bool := decide (c < 0 ∨ endN x f - b x f ≤ c)
theorem fitsD_out (x : PX) (f : Nat) (d : Df) : fitsD x f d = (d.t == x.T.getD f 0 && !d.cols.isEmpty && !d.cols.any (out1 x f)) := by
  unfold fitsD out1
  congr 1
  rw [List.not_any_eq_all_not]
  congr 1
  funext c
  rw [Bool.eq_iff_iff]
  simp
end Pn
set_option maxRecDepth 20000 in
set_option maxHeartbeats 400000 in
theorem plfits1_any (w : World) (p : Qp) (hp : QpIn w p) (hs : Pn.Sh p.x) (f : Nat) (hf : f < p.x.T.length) (g4 g6 : Nat) (t4 t6 : TypeId) (h4 : Blk w g4 t4 p.cells) (h6 : Blk w g6 t6 [.int .i64 f]) (c : Int) :
    Calls Tryz.prog 72 #[.int .i64 c, .pointer (some ⟨g4, 0, none⟩), .pointer (some ⟨g6, 0, none⟩)] w (RetBo w (Pn.out1 p.x f c)) := by
  have HP := Lib.hid hp
  have hl := hs.lt f hf
  have hfB : f < p.x.B.length := by rw [hs.bl]; exact hf
  obtain ⟨D, hD⟩ : ∃ D, Pn.out1 p.x f c = D := ⟨_, rfl⟩
  have HD := Lib.hid hD
  rw [hD]
  have H4 := Lib.hid h4
  have H6 := Lib.hid h6
  have HFB := Lib.hid hfB
  have h4d := h4.drew
  have h6d := h6.drew
  have hfi : (f : Int) < (p.x.B.length : Int) := by omega
  have hf4 : f < 4 := by have := hs.t4; omega
  clear hp hD hs h4 h6 hf
  go_enter Tryz.func72, Tryz.ntmps72
  go_upto_region 1 with fail
  by_cases hc : c < 0
  · have HF : Hid (D = true) := by show _ = _; rw [← HD.out]; unfold Pn.out1; exact decide_eq_true (.inl hc)
    refine wp_region_plan (.take 0 (.take 1 (.take 2 (.take 3 (.take 4 (.take 5 (.take 7 (.take 8 (.take 9 (.take 10 (.take 11 (.run 6 [3, 7, 8, 9, 10, 11] (.take 12 (.take 13 (.take 14 (.take 15 .fin)))))))))))))))) (by kernel_rfl) (by kernel_rfl) (by kernel_rfl) (by kernel_rfl) ?_
    repeat' (first | (refine hZ _ _ ?_; clear hZ) | (refine hZ _ ?_; clear hZ) | (refine hZ ?_; clear hZ) | rw [again_nil] | rw [walk_fin] | ((first | rw [walk_take] | rw [walk_run] | rw [again_cons]); intro Z hZ; simp only [sel, List.getElem?_toArray, List.getElem?_cons_zero, List.getElem?_cons_succ]; go_wp2_with (fail)))
    go_wp2_with fail
    go_ret
    exact ⟨by rw [HF.out]; rfl, (Below.refl _ _).drewR⟩
  · obtain ⟨d0, -⟩ := Blk.c1 h6d
    obtain ⟨e0, e1, e2, e3, e4, e5, e6, e7, e8⟩ := Blk.qp9 (Blk.qp90 h4d)
    obtain ⟨bb, oo, ha, -, hc0⟩ := int_at (HP.out.b.below (Below.refl _ _).drewR) hfB
    have hcb : w.drew.cell? ⟨bb, oo + f, none⟩ = some (.int .i64 (Pn.b p.x f)) := by rw [← Pn.b_get hfB]; exact hc0
    have HCE : Hid (Calls Tryz.prog 17 #[({ p with ba := some ⟨bb, oo, none⟩ } : Qp).v, .int .i64 f] w.drew (RetI w.drew (Pn.endN p.x f))) := by
      have h := plend_any w.drew p (HP.out.below (Below.refl _ _).drewR) f (by omega)
      have e : ({ p with ba := some ⟨bb, oo, none⟩ } : Qp) = p := by rw [← ha]
      rw [← e] at h
      exact h
    rw [ha] at e1
    clear hc0
    refine wp_region_plan (.take 0 (.take 1 (.take 2 (.take 3 (.take 4 (.take 5 (.take 7 (.take 8 (.take 9 (.take 10 (.take 11 (.run 6 [3, 7, 8, 9, 10, 11] (.take 12 (.take 13 (.take 14 (.take 15 .fin)))))))))))))))) (by kernel_rfl) (by kernel_rfl) (by kernel_rfl) (by kernel_rfl) ?_
    repeat' (first | (refine hZ _ _ ?_; clear hZ) | (refine hZ _ ?_; clear hZ) | (refine hZ ?_; clear hZ) | rw [again_nil] | rw [walk_fin] | ((first | rw [walk_take] | rw [walk_run] | rw [again_cons]); intro Z hZ; simp only [sel, List.getElem?_toArray, List.getElem?_cons_zero, List.getElem?_cons_succ]; go_wp2_with (fail)))
    refine (show Calls _ _ #[({ p with ba := some ⟨bb, oo, none⟩ } : Qp).v, _] _ _ from HCE.out).mono ?_
    rintro e W3 ⟨rfl, hB3⟩
    replace e1 := cell_later hB3 e1
    replace hcb := cell_later hB3 hcb
    replace d0 := cell_later hB3 d0
    obtain ⟨e0, -, e2, e3, e4, e5, e6, e7, e8⟩ := Blk.qp9 (Blk.qp90 ((H4.out.drew).below hB3))
    have HB3 : Hid (Below w.heap.size w W3) := (Below.refl w.heap.size w).drewR.trans hB3
    have HD2 : Hid ((decide (c < 0) || decide (Pn.endN p.x f - Pn.b p.x f ≤ c)) = D) := by show _ = _; rw [← HD.out]; unfold Pn.out1; rw [Bool.decide_or]
    clear hB3
    generalize Pn.endN p.x f = en at hl HD2 ⊢
    generalize Pn.b p.x f = bf at hl HD2 hcb ⊢
    go_wp2_with fail
    repeat' (first | (refine hZ _ _ ?_; clear hZ) | (refine hZ _ ?_; clear hZ) | (refine hZ ?_; clear hZ) | rw [again_nil] | rw [walk_fin] | ((first | rw [walk_take] | rw [walk_run] | rw [again_cons]); intro Z hZ; simp only [sel, List.getElem?_toArray, List.getElem?_cons_zero, List.getElem?_cons_succ]; go_wp2_with (fail)))
    go_wp2_with fail
    go_ret
    exact ⟨by rw [← HD2.out]; rfl, HB3.out⟩
theorem any_take_int {q : Int → Bool} {L : List Int} {i : Nat} (h : i < L.length) : (L.drop i).any q = (q L[i] || (L.drop (i + 1)).any q) := by
  rw [List.drop_eq_getElem_cons h, List.any_cons]
set_option maxRecDepth 20000 in
set_option maxHeartbeats 1000000 in
theorem plidx1_any (w : World) (p : Qp) (hp : QpIn w p) (hs : Pn.Sh p.x) (f : Nat) (hf : f < p.x.T.length) (g4 g6 : Nat) (t4 t6 : TypeId) (h4 : Blk w g4 t4 p.cells) (h6 : Blk w g6 t6 [.int .i64 f]) (A : Option Addr) (cc : Nat) (L : List Int) (hL : ERow eInt w A L) (hl : L.length ≤ 1000) :
    Calls Tryz.prog 86 #[.slice A L.length cc, .func (.func 72) #[] #[.pointer (some ⟨g4, 0, none⟩), .pointer (some ⟨g6, 0, none⟩)]] w (RetIx w (L.any (Pn.out1 p.x f))) := by
  have HL := Lib.hid hL
  have HC : Hid (∀ W, Below w.heap.size w W → ∀ c : Int, Calls Tryz.prog 72 #[.int .i64 c, .pointer (some ⟨g4, 0, none⟩), .pointer (some ⟨g6, 0, none⟩)] W (RetBo W (Pn.out1 p.x f c))) := fun W hB c => plfits1_any W p (hp.below hB) hs f hf g4 g6 t4 t6 (h4.below hB) (h6.below hB) c
  obtain ⟨D, hD⟩ : ∃ D, L.any (Pn.out1 p.x f) = D := ⟨_, rfl⟩
  have HD : Hid ((L.drop 0).any (Pn.out1 p.x f) = D) := hD
  rw [hD]
  clear hL hp hs h4 h6 hD hf
  go_enter Tryz.func86, Tryz.ntmps86
  go_wp2_with fail
  go_loopw [8] (fun iv wr => ∃ i : Nat, i ≤ L.length ∧ iv = .int .i64 (i : Int) ∧ Hid ((L.drop i).any (Pn.out1 p.x f) = D ∧ Below w.heap.size w wr)) (fun iv _ => L.length - (intOf iv).toNat)
  case atStart => exact ⟨0, Nat.zero_le _, by go_num, HD.out, Below.refl _ _⟩
  case round =>
    obtain ⟨i, hi, rfl, HJ⟩ := hrel
    have HE := Lib.hid HJ.out.1
    have HBW := Lib.hid HJ.out.2
    clear HJ
    by_cases hlt : i < L.length
    · have hii : (i : Int) < (L.length : Int) := by omega
      obtain ⟨bb, oo, ha, -, hc⟩ := int_at (HL.out.below HBW.out) hlt
      have HX : Hid ((Pn.out1 p.x f L[i] || (L.drop (i + 1)).any (Pn.out1 p.x f)) = D) := by show _ = _; rw [← any_take_int hlt]; exact HE.out
      rw [ha]
      clear ha
      generalize L[i] = y at hc HX
      go_wp2_with fail
      refine (HC.out wr HBW.out y).mono ?_
      rintro e W8 ⟨rfl, hB8⟩
      have HB8 := Lib.hid (HBW.out.then hB8)
      clear hB8 hc
      cases hb : Pn.out1 p.x f y with
      | true =>
        have HR : Hid (true = D) := by show _ = _; rw [← HX.out, hb]; rfl
        clear hb
        go_wp2_with fail
        go_ret
        exact ⟨i, rfl, by rw [← HR.out]; exact decide_eq_true (by omega), HB8.out⟩
      | false =>
        have HR : Hid ((L.drop (i + 1)).any (Pn.out1 p.x f) = D) := by show _ = _; rw [← HX.out, hb]; rfl
        clear hb
        go_wp2_with fail
        go_roundw
        case rel => exact ⟨i + 1, by omega, by go_num, HR.out, HB8.out⟩
        case measure => simp [intOf]; omega
    · have hii : ¬ (i : Int) < (L.length : Int) := by omega
      have HR : Hid (false = D) := by
        show _ = _
        rw [← HE.out, List.drop_eq_nil_of_le (by omega)]
        rfl
      go_wp2_with fail
      go_ret
      exact ⟨-1, rfl, HR.out, HBW.out⟩
theorem plctn1_any (w : World) (p : Qp) (hp : QpIn w p) (hs : Pn.Sh p.x) (f : Nat) (hf : f < p.x.T.length) (g4 g6 : Nat) (t4 t6 : TypeId) (h4 : Blk w g4 t4 p.cells) (h6 : Blk w g6 t6 [.int .i64 f]) (A : Option Addr) (cc : Nat) (L : List Int) (hL : ERow eInt w A L) (hl : L.length ≤ 1000) :
    Calls Tryz.prog 71 #[.slice A L.length cc, .func (.func 72) #[] #[.pointer (some ⟨g4, 0, none⟩), .pointer (some ⟨g6, 0, none⟩)]] w (RetBo w (L.any (Pn.out1 p.x f))) := by
  have HX := Lib.hid (plidx1_any w p hp hs f hf g4 g6 t4 t6 h4 h6 A cc L hL hl)
  clear hp hs hf h4 h6 hL
  go_enter Tryz.func71, Tryz.ntmps71
  go_wp2_with fail
  refine HX.out.mono ?_
  rintro e W8 ⟨k, rfl, hk, hB8⟩
  have HB8 := Lib.hid hB8
  have HK := Lib.hid hk
  clear hB8 hk
  go_wp2_with fail
  go_ret
  exact ⟨by rw [← HK.out]; rfl, HB8.out⟩
set_option maxRecDepth 20000 in
set_option maxHeartbeats 4000000 in
theorem plfits_any (w : World) (p : Qp) (hp : QpIn w p) (hs : Pn.Sh p.x) (A : Option Addr) (cc : Nat) (hd : DfsIn w A p.x.defs) (f ix : Int) : Calls Tryz.prog 50 #[p.v, .slice A p.x.defs.length cc, .int .i64 f, .int .i64 ix] w (RetBo w (Pn.fits p.x f ix)) := by
  have HP := Lib.hid hp
  have HS := Lib.hid hs
  have HDF := Lib.hid hd
  have hdl := hd.len
  have htl := hs.t4
  have hmf : ∀ (fn : Fn) (first cap : Array Value) (w : World), (Instr.makeFunc fn first cap).run Tryz.prog w = .ok (.func fn first cap) w := fun _ _ _ _ => rfl
  obtain ⟨D, hD⟩ : ∃ D, Pn.fits p.x f ix = D := ⟨_, rfl⟩
  have HD := Lib.hid hD
  rw [hD]
  clear hp hs hD hd
  go_enter Tryz.func50, Tryz.ntmps50
  go_upto_region 1 with (first | (refine wpList_box_qp rfl (.tmp 0) rfl p rfl ?_; intro W1 hb1 hz1 hB1))
  generalize hW2 : World.alloc W1 (.cells _ _) = W2
  obtain ⟨ba2, hz2, hB2⟩ := fresh1 hW2
  clear hW2
  have HQ := Lib.hid (hb1.below hB2)
  have HFB := Lib.hid ba2
  have HB2 := Lib.hid (hB1.then hB2)
  obtain ⟨g4, hg4⟩ : ∃ g, w.heap.size = g := ⟨_, rfl⟩
  obtain ⟨g6, hg6⟩ : ∃ g, W1.heap.size = g := ⟨_, rfl⟩
  rw [hg4] at HQ ⊢
  rw [hg6] at HFB ⊢
  clear hb1 hz1 hB1 ba2 hz2 hB2 hg4 hg6
  obtain ⟨d0, -⟩ := Blk.c1 HFB.out.drew
  obtain ⟨e0, -⟩ := Blk.qp HQ.out.drew
  by_cases h1 : ix < 0
  · have HF : Hid (D = false) := by
      show _ = _
      rw [← HD.out]
      unfold Pn.fits
      rw [decide_eq_false (by omega), Bool.false_and]
    go_upto_region 1 with fail
    refine wp_region_plan (.take 0 (.take 1 (.take 2 (.take 3 (.take 4 (.take 5 (.take 6 (.take 7 (.take 8 (.take 9 (.take 10 (.take 11 (.take 12 (.take 13 (.take 14 (.take 15 (.take 16 (.take 17 (.take 18 (.take 19 (.take 20 (.take 21 (.take 22 (.take 23 (.take 24 (.take 25 (.take 26 (.take 27 (.take 28 (.take 29 (.take 30 (.take 31 (.take 32 (.take 33 (.take 34 (.take 35 (.take 36 (.take 37 (.take 38 (.take 39 (.take 40 .fin))))))))))))))))))))))))))))))))))))))))) (by kernel_rfl) (by kernel_rfl) (by kernel_rfl) (by kernel_rfl) ?_
    repeat' (first | (refine hZ _ _ ?_; clear hZ) | (refine hZ _ ?_; clear hZ) | (refine hZ ?_; clear hZ) | rw [again_nil] | rw [walk_fin] | ((first | rw [walk_take] | rw [walk_run] | rw [again_cons]); intro Z hZ; simp only [sel, List.getElem?_toArray, List.getElem?_cons_zero, List.getElem?_cons_succ]; go_wp2_with (fail)))
    go_wp2_with fail
    go_ret
    exact ⟨by rw [HF.out]; rfl, HB2.out.drewR⟩
  by_cases h2 : (p.x.defs.length : Int) ≤ ix
  · have HF : Hid (D = false) := by
      show _ = _
      rw [← HD.out]
      unfold Pn.fits
      rw [decide_eq_false (by omega), Bool.false_and]
    go_upto_region 1 with fail
    refine wp_region_plan (.take 0 (.take 1 (.take 2 (.take 3 (.take 4 (.take 5 (.take 6 (.take 7 (.take 8 (.take 9 (.take 10 (.take 11 (.take 12 (.take 13 (.take 14 (.take 15 (.take 16 (.take 17 (.take 18 (.take 19 (.take 20 (.take 21 (.take 22 (.take 23 (.take 24 (.take 25 (.take 26 (.take 27 (.take 28 (.take 29 (.take 30 (.take 31 (.take 32 (.take 33 (.take 34 (.take 35 (.take 36 (.take 37 (.take 38 (.take 39 (.take 40 .fin))))))))))))))))))))))))))))))))))))))))) (by kernel_rfl) (by kernel_rfl) (by kernel_rfl) (by kernel_rfl) ?_
    repeat' (first | (refine hZ _ _ ?_; clear hZ) | (refine hZ _ ?_; clear hZ) | (refine hZ ?_; clear hZ) | rw [again_nil] | rw [walk_fin] | ((first | rw [walk_take] | rw [walk_run] | rw [again_cons]); intro Z hZ; simp only [sel, List.getElem?_toArray, List.getElem?_cons_zero, List.getElem?_cons_succ]; go_wp2_with (fail)))
    go_wp2_with fail
    go_ret
    exact ⟨by rw [HF.out]; rfl, HB2.out.drewR⟩
  by_cases h3 : f < 0
  · have HF : Hid (D = false) := by
      show _ = _
      rw [← HD.out]
      unfold Pn.fits
      rw [decide_eq_false (by omega), Bool.false_and]
    go_upto_region 1 with fail
    refine wp_region_plan (.take 0 (.take 1 (.take 2 (.take 3 (.take 4 (.take 5 (.take 6 (.take 7 (.take 8 (.take 9 (.take 10 (.take 11 (.take 12 (.take 13 (.take 14 (.take 15 (.take 16 (.take 17 (.take 18 (.take 19 (.take 20 (.take 21 (.take 22 (.take 23 (.take 24 (.take 25 (.take 26 (.take 27 (.take 28 (.take 29 (.take 30 (.take 31 (.take 32 (.take 33 (.take 34 (.take 35 (.take 36 (.take 37 (.take 38 (.take 39 (.take 40 .fin))))))))))))))))))))))))))))))))))))))))) (by kernel_rfl) (by kernel_rfl) (by kernel_rfl) (by kernel_rfl) ?_
    repeat' (first | (refine hZ _ _ ?_; clear hZ) | (refine hZ _ ?_; clear hZ) | (refine hZ ?_; clear hZ) | rw [again_nil] | rw [walk_fin] | ((first | rw [walk_take] | rw [walk_run] | rw [again_cons]); intro Z hZ; simp only [sel, List.getElem?_toArray, List.getElem?_cons_zero, List.getElem?_cons_succ]; go_wp2_with (fail)))
    go_wp2_with fail
    go_ret
    exact ⟨by rw [HF.out]; rfl, HB2.out.drewR⟩
  by_cases h4 : (p.x.T.length : Int) ≤ f
  · have HF : Hid (D = false) := by
      show _ = _
      rw [← HD.out]
      unfold Pn.fits
      rw [decide_eq_false (by omega), Bool.false_and]
    go_upto_region 1 with fail
    refine wp_region_plan (.take 0 (.take 1 (.take 2 (.take 3 (.take 4 (.take 5 (.take 6 (.take 7 (.take 8 (.take 9 (.take 10 (.take 11 (.take 12 (.take 13 (.take 14 (.take 15 (.take 16 (.take 17 (.take 18 (.take 19 (.take 20 (.take 21 (.take 22 (.take 23 (.take 24 (.take 25 (.take 26 (.take 27 (.take 28 (.take 29 (.take 30 (.take 31 (.take 32 (.take 33 (.take 34 (.take 35 (.take 36 (.take 37 (.take 38 (.take 39 (.take 40 .fin))))))))))))))))))))))))))))))))))))))))) (by kernel_rfl) (by kernel_rfl) (by kernel_rfl) (by kernel_rfl) ?_
    repeat' (first | (refine hZ _ _ ?_; clear hZ) | (refine hZ _ ?_; clear hZ) | (refine hZ ?_; clear hZ) | rw [again_nil] | rw [walk_fin] | ((first | rw [walk_take] | rw [walk_run] | rw [again_cons]); intro Z hZ; simp only [sel, List.getElem?_toArray, List.getElem?_cons_zero, List.getElem?_cons_succ]; go_wp2_with (fail)))
    go_wp2_with fail
    go_ret
    exact ⟨by rw [HF.out]; rfl, HB2.out.drewR⟩
  obtain ⟨i, rfl⟩ : ∃ i : Nat, ix = (i : Int) := ⟨ix.toNat, by omega⟩
  obtain ⟨k, rfl⟩ : ∃ k : Nat, f = (k : Int) := ⟨f.toNat, by omega⟩
  have hi : i < p.x.defs.length := by omega
  have hk : k < p.x.T.length := by omega
  have hii : (i : Int) < (p.x.defs.length : Int) := by omega
  have hkk : (k : Int) < (p.x.T.length : Int) := by omega
  obtain ⟨d, hd⟩ : ∃ d, p.x.defs[i] = d := ⟨_, rfl⟩
  have HDE : Hid (Pn.fitsD p.x k d = D) := by
    show _ = _
    rw [← HD.out]
    unfold Pn.fits
    rw [decide_eq_true (⟨by omega, hii, by omega, hkk⟩ : 0 ≤ (i : Int) ∧ (i : Int) < (p.x.defs.length : Int) ∧ 0 ≤ (k : Int) ∧ (k : Int) < (p.x.T.length : Int)), Bool.true_and, Int.toNat_natCast, Int.toNat_natCast]
    congr 1
    rw [← hd]
    simp [List.getD, hi]
  have hdm : d ∈ p.x.defs := by rw [← hd]; exact List.getElem_mem hi
  obtain ⟨t, ht⟩ : ∃ t, p.x.T[k] = t := ⟨_, rfl⟩
  have htg : p.x.T.getD k 0 = t := by rw [← ht]; simp [List.getD, hk]
  have HDE : Hid ((d.t == t && !d.cols.isEmpty && !d.cols.any (Pn.out1 p.x k)) = D) := by show _ = _; rw [← HDE.out, Pn.fitsD_out, htg]
  clear htg HD
  obtain ⟨bb, oo, ha, -, q0, q1⟩ := df_at (HDF.out.r.below HB2.out.drewR) hi
  obtain ⟨bt, ot, hat, -, q2⟩ := int_at (HP.out.t.below HB2.out.drewR) hk
  rw [hd] at q0 q1
  rw [ht] at q2
  rw [ha]
  rw [hat] at e0
  have HCR := Lib.hid (HDF.out.cr d hdm)
  have hcl := HDF.out.cl d hdm
  clear hd ht ha hat hdm h1 h2 h3 h4
  by_cases h5 : d.t = t
  · have h5b : (d.t != t) = false := by simp [h5]
    have HDE2 : Hid ((!d.cols.isEmpty && !d.cols.any (Pn.out1 p.x k)) = D) := by show _ = _; rw [← HDE.out, h5]; simp
    by_cases h6 : d.cols.length = 0
    · have h6b : ((d.cols.length : Int) == 0) = true := by simp [h6]
      have HF : Hid (D = false) := by show _ = _; rw [← HDE2.out, List.length_eq_zero_iff.1 h6]; rfl
      clear h5 h6
      go_upto_region 1 with fail
      refine wp_region_plan (.take 0 (.take 1 (.take 2 (.take 3 (.take 4 (.take 5 (.take 6 (.take 7 (.take 8 (.take 9 (.take 10 (.take 11 (.take 12 (.take 13 (.take 14 (.take 15 (.take 16 (.take 17 (.take 18 (.take 19 (.take 20 (.take 21 (.take 22 (.take 23 (.take 24 (.take 25 (.take 26 (.take 27 (.take 28 (.take 29 (.take 30 (.take 31 (.take 32 (.take 33 (.take 34 (.take 35 (.take 36 (.take 37 (.take 38 (.take 39 (.take 40 .fin))))))))))))))))))))))))))))))))))))))))) (by kernel_rfl) (by kernel_rfl) (by kernel_rfl) (by kernel_rfl) ?_
      repeat' (first | (refine hZ _ _ ?_; clear hZ) | (refine hZ _ ?_; clear hZ) | (refine hZ ?_; clear hZ) | rw [again_nil] | rw [walk_fin] | ((first | rw [walk_take] | rw [walk_run] | rw [again_cons]); intro Z hZ; simp only [sel, List.getElem?_toArray, List.getElem?_cons_zero, List.getElem?_cons_succ]; go_wp2_with (fail)))
      go_wp2_with fail
      go_ret
      exact ⟨by rw [HF.out]; rfl, HB2.out.drewR⟩
    · have h6b : ((d.cols.length : Int) == 0) = false := by rw [beq_eq_false_iff_ne]; omega
      have HDE3 : Hid ((!d.cols.any (Pn.out1 p.x k)) = D) := by
        show _ = _
        rw [← HDE2.out]
        have : d.cols.isEmpty = false := by cases hc : d.cols with | nil => rw [hc] at h6; exact absurd rfl h6 | cons a l => rfl
        rw [this]; rfl
      clear h5 h6 HDE HDE2
      go_upto_region 1 with fail
      refine wp_region_plan (.take 0 (.take 1 (.take 2 (.take 3 (.take 4 (.take 5 (.take 6 (.take 7 (.take 8 (.take 9 (.take 10 (.take 11 (.take 12 (.take 13 (.take 14 (.take 15 (.take 16 (.take 17 (.take 18 (.take 19 (.take 20 (.take 21 (.take 22 (.take 23 (.take 24 (.take 25 (.take 26 (.take 27 (.take 28 (.take 29 (.take 30 (.take 31 (.take 32 (.take 33 (.take 34 (.take 35 (.take 36 (.take 37 (.take 38 (.take 39 (.take 40 .fin))))))))))))))))))))))))))))))))))))))))) (by kernel_rfl) (by kernel_rfl) (by kernel_rfl) (by kernel_rfl) ?_
      repeat' (first | (refine hZ _ _ ?_; clear hZ) | (refine hZ _ ?_; clear hZ) | (refine hZ ?_; clear hZ) | rw [again_nil] | rw [walk_fin] | ((first | rw [walk_take] | rw [walk_run] | rw [again_cons]); intro Z hZ; simp only [sel, List.getElem?_toArray, List.getElem?_cons_zero, List.getElem?_cons_succ]; go_wp2_with (fail)))
      have HBD : Hid (Below w.heap.size w W2.drew) := HB2.out.drewR
      have HCC := Lib.hid (plctn1_any W2.drew p (HP.out.below HBD.out) HS.out k hk g4 g6 _ _ HQ.out.drew HFB.out.drew d.a d.c d.cols (HCR.out.below HBD.out) hcl)
      go_wp2_with fail
      refine HCC.out.mono ?_
      rintro e W8 ⟨rfl, hB8⟩
      have HB8 := Lib.hid (HBD.out.then hB8)
      clear hB8
      go_wp2_with fail
      go_ret
      exact ⟨by rw [← HDE3.out]; rfl, HB8.out⟩
  · have h5b : (d.t != t) = true := by simp [h5]
    have HF : Hid (D = false) := by show _ = _; rw [← HDE.out]; simp [h5]
    clear h5
    go_upto_region 1 with fail
    refine wp_region_plan (.take 0 (.take 1 (.take 2 (.take 3 (.take 4 (.take 5 (.take 6 (.take 7 (.take 8 (.take 9 (.take 10 (.take 11 (.take 12 (.take 13 (.take 14 (.take 15 (.take 16 (.take 17 (.take 18 (.take 19 (.take 20 (.take 21 (.take 22 (.take 23 (.take 24 (.take 25 (.take 26 (.take 27 (.take 28 (.take 29 (.take 30 (.take 31 (.take 32 (.take 33 (.take 34 (.take 35 (.take 36 (.take 37 (.take 38 (.take 39 (.take 40 .fin))))))))))))))))))))))))))))))))))))))))) (by kernel_rfl) (by kernel_rfl) (by kernel_rfl) (by kernel_rfl) ?_
    repeat' (first | (refine hZ _ _ ?_; clear hZ) | (refine hZ _ ?_; clear hZ) | (refine hZ ?_; clear hZ) | rw [again_nil] | rw [walk_fin] | ((first | rw [walk_take] | rw [walk_run] | rw [again_cons]); intro Z hZ; simp only [sel, List.getElem?_toArray, List.getElem?_cons_zero, List.getElem?_cons_succ]; go_wp2_with (fail)))
    go_wp2_with fail
    go_ret
    exact ⟨by rw [HF.out]; rfl, HB2.out.drewR⟩
end Go.Proofs.YtjdffhonljhpcaaGreat
end

section
/-
  A planner's world in memory; the contracts of size, found and col.
-/
namespace Go.Proofs.YtjdffhonljhpcaaGreat
set_option linter.unusedSimpArgs false
set_option linter.unusedVariables false
open Go.RowKit

/-- Masks. -/
def eMk : Elem Nat where
  e := 63
  t := 59
  sz := 1
  bytes := 1
  zero := .int .u8 0
  code := fun n => [.int .u8 (n : Nat)]
  pos := by decide
  few := by decide
  len := fun _ => rfl
  one := by
    intro x u hu
    simp at hu
    subst hu
    rfl
  zsz := rfl
  info := by kernel_rfl
  under := Tryz.underlying59
theorem mk_at {w : World} {A : Option Addr} {L : List Nat} (h : ERow eMk w A L) {i : Nat} (hi : i < L.length) : ∃ b o, A = some ⟨b, o, none⟩ ∧ b < w.heap.size ∧ w.cell? ⟨b, o + i, none⟩ = some (.int .u8 (L[i] : Nat)) := by
  obtain ⟨b, o, e, hb, hc⟩ := h.at_ hi
  have := hc 0 _ rfl
  simp only [eMk, Nat.mul_one, Nat.add_zero] at this
  exact ⟨b, o, e, hb, this⟩
/-- A planner's world, with the places of its parts. -/
structure Wp where
  p : Qp
  da : Option Addr
  dc : Nat
  na : Option Addr
  need : List Nat
  nc : Nat
  ra : Option Addr
  rc : Nat
  ca : Option Addr
  cc : Nat
def Wp.tail (X : Wp) : List Value := [.slice X.na X.need.length X.nc, .slice X.ra X.p.x.rows.length X.rc, .slice X.ca X.p.x.cols.length X.cc]
def Wp.cells (X : Wp) : List Value := X.p.cells ++ (.slice X.da X.p.x.defs.length X.dc :: X.tail)
structure WpIn (w : World) (X : Wp) : Prop where
  q : QpIn w X.p
  s : Pn.Sh X.p.x
  d : DfsIn w X.da X.p.x.defs
  n : ERow eMk w X.na X.need
  nd : X.need = X.p.x.wh.map fun y => (Pn.asks X.p.x y).1
  rc : RC w X.ra X.p.x.rows X.ca X.p.x.cols
  rl : (X.p.x.rows.length : Int) = X.p.x.W
  few : X.p.x.wh.length ≤ 1000
theorem WpIn.below {w W : World} {X : Wp} (h : WpIn w X) (hB : Below w.heap.size w W) : WpIn W X :=
  ⟨h.q.below hB, h.s, h.d.below hB, h.n.below hB, h.nd, h.rc.below hB, h.rl, h.few⟩
theorem Blk.wq {w : World} {g : Nat} {t : TypeId} {p : Qp} {r : List Value} (h : Blk w g t (p.cells ++ r)) : w.cell? ⟨g, 1, none⟩ = some (.slice p.ba p.x.B.length p.bc) ∧ w.cell? ⟨g, 3, none⟩ = some (.slice p.wa p.x.wh.length p.wc) := ⟨h.cell 1, h.cell 3⟩
theorem Blk.wd {w : World} {g : Nat} {t : TypeId} {p : Qp} {v : Value} {r : List Value} (h : Blk w g t (p.cells ++ v :: r)) : w.cell? ⟨g, 9, none⟩ = some v := h.cell 9
theorem Blk.wt {w : World} {g : Nat} {t : TypeId} {X : Wp} (h : Blk w g t X.cells) :
    w.cell? ⟨g, 9, none⟩ = some (.slice X.da X.p.x.defs.length X.dc) ∧ w.cell? ⟨g, 10, none⟩ = some (.slice X.na X.need.length X.nc) ∧ w.cell? ⟨g, 11, none⟩ = some (.slice X.ra X.p.x.rows.length X.rc) ∧ w.cell? ⟨g, 12, none⟩ = some (.slice X.ca X.p.x.cols.length X.cc) :=
  ⟨h.cell 9, h.cell 10, h.cell 11, h.cell 12⟩
namespace Pn
theorem rowsAt_lt {x : PX} (hs : Sh x) (hr : (x.rows.length : Int) = x.W) {f : Nat} (hf : f < x.T.length) : 0 ≤ b x f ∧ (b x f).toNat < x.rows.length := by
  have h := hs.lt f hf
  have hW : ∀ k, k < x.T.length → b x f ≤ b x (f + k) ∨ True := fun _ _ => .inr trivial
  refine ⟨h.1, ?_⟩
  have key : b x f < x.W := by
    have e : ∀ g, endN x g = if g + 1 < x.T.length then b x (g + 1) else x.W := fun g => by unfold endN; rw [hs.bl]
    have l0 := hs.lt 0
    have l1 := hs.lt 1
    have l2 := hs.lt 2
    have l3 := hs.lt 3
    rw [e] at l0 l1 l2 l3
    have h4 := hs.t4
    have hff : f = 0 ∨ f = 1 ∨ f = 2 ∨ f = 3 := by omega
    have hn : x.T.length = 1 ∨ x.T.length = 2 ∨ x.T.length = 3 ∨ x.T.length = 4 := by have := hs.t1; omega
    generalize x.T.length = n at *
    rcases hn with rfl | rfl | rfl | rfl <;> rcases hff with rfl | rfl | rfl | rfl <;> simp at * <;> omega
  omega
theorem rowsAt_get {x : PX} {f : Nat} (h : (b x f).toNat < x.rows.length) : x.rows[(b x f).toNat] = rowsAt x f := by unfold rowsAt; simp [List.getD, h]
/-- The first fold of size, from table i on, of k more. -/
def sizeH (x : PX) (m : Nat) : Nat → Nat → Int → Int
  | _, 0, n => n
  | i, k + 1, n => sizeH x m (i + 1) k (sizeF x m n i)
theorem sizeH_fold (x : PX) (m : Nat) : ∀ (k i : Nat) (n : Int), (List.range' i k).foldl (sizeF x m) n = sizeH x m i k n
  | 0, _, _ => rfl
  | k + 1, i, n => by rw [List.range'_succ]; exact sizeH_fold x m k (i + 1) _
theorem size_eq (x : PX) (m : Nat) : size x m = max 1 (x.wh.foldl (sizeG x m) (sizeH x m 0 x.B.length 1)) := by
  unfold size
  rw [List.range_eq_range', sizeH_fold]
theorem fold_drop {α : Type} (F : Int → α → Int) (L : List α) (i : Nat) (h : i < L.length) (n : Int) : (L.drop i).foldl F n = (L.drop (i + 1)).foldl F (F n L[i]) := by
  rw [List.drop_eq_getElem_cons h]; rfl
end Pn
set_option maxRecDepth 20000 in
set_option maxHeartbeats 4000000 in
theorem plsize_any (w : World) (g : Nat) (X : Wp) (hb : Blk w g 61 X.cells) (hX : WpIn w X) (m : Nat) (hm : m < 16) : Calls Tryz.prog 31 #[.pointer (some ⟨g, 0, none⟩), .int .u8 m] w (RetI w (Pn.size X.p.x m)) := by
  have HX := Lib.hid hX
  have HB := Lib.hid hb
  have hbl : X.p.x.B.length ≤ 4 := by rw [hX.s.bl]; exact hX.s.t4
  have hfew := hX.few
  obtain ⟨D, hD⟩ : ∃ D, Pn.size X.p.x m = D := ⟨_, rfl⟩
  have HD : Hid (max 1 (X.p.x.wh.foldl (Pn.sizeG X.p.x m) (Pn.sizeH X.p.x m 0 X.p.x.B.length 1)) = D) := by show _ = _; rw [← hD, Pn.size_eq]
  rw [hD]
  clear hD hX
  obtain ⟨c1, -⟩ := Blk.wq hb
  clear hb
  go_enter Tryz.func31, Tryz.ntmps31
  go_wp2_with fail
  clear c1
  go_loopw [5, 16] (fun nv iv wr => ∃ (i : Nat) (n : Int), i ≤ X.p.x.B.length ∧ iv = .int .i64 (i : Int) ∧ nv = .int .i64 n ∧ Hid (Pn.sizeH X.p.x m i (X.p.x.B.length - i) n = Pn.sizeH X.p.x m 0 X.p.x.B.length 1 ∧ w = wr)) (fun _ iv _ => X.p.x.B.length - (intOf iv).toNat)
  case atStart => exact ⟨0, 1, Nat.zero_le _, by go_num, rfl, rfl, rfl⟩
  case round =>
    obtain ⟨i, n, hi, rfl, rfl, HJ⟩ := hrel
    obtain ⟨hd, rfl⟩ := HJ.out
    have HE := Lib.hid hd
    clear HJ hd
    by_cases hlt : i < X.p.x.B.length
    · have hii : (i : Int) < (X.p.x.B.length : Int) := by omega
      have hiT : i < X.p.x.T.length := by rw [← HX.out.s.bl]; exact hlt
      obtain ⟨hb0, hbl2⟩ := Pn.rowsAt_lt HX.out.s HX.out.rl hiT
      obtain ⟨bb, oo, ha, -, hc0⟩ := int_at HX.out.q.b hlt
      have hc : w.cell? ⟨bb, oo + i, none⟩ = some (.int .i64 (Pn.b X.p.x i)) := by rw [← Pn.b_get hlt]; exact hc0
      obtain ⟨br, or_, har, -, hr0⟩ := i64_at HX.out.rc.r hbl2
      have hr : w.cell? ⟨br, or_ + (Pn.b X.p.x i).toNat, none⟩ = some (.int .i64 (Pn.rowsAt X.p.x i)) := by rw [← Pn.rowsAt_get hbl2]; exact hr0
      obtain ⟨-, -, c11, -⟩ := Blk.wt HB.out
      have HS : Hid (Pn.sizeH X.p.x m (i + 1) (X.p.x.B.length - (i + 1)) (Pn.sizeF X.p.x m n i) = Pn.sizeH X.p.x m 0 X.p.x.B.length 1) := by
        show _ = _
        rw [← HE.out, show X.p.x.B.length - i = X.p.x.B.length - (i + 1) + 1 by omega]
        rfl
      have hbi : Pn.b X.p.x i < (X.p.x.rows.length : Int) := by omega
      rw [ha]
      rw [har] at c11
      clear ha har hc0 hr0
      have hi8 : i < 8 := by omega
      go_upto_region 5 with fail
      go_wp2_with fail
      refine (mhas_any w m i hm hi8).mono ?_
      rintro e w1 ⟨rfl, rfl⟩
      cases ht : m.testBit i with
      | true =>
        have HS2 : Hid (Pn.sizeH X.p.x m (i + 1) (X.p.x.B.length - (i + 1)) (Pn.mul n (Pn.rowsAt X.p.x i)) = Pn.sizeH X.p.x m 0 X.p.x.B.length 1) := by show _ = _; rw [← HS.out]; unfold Pn.sizeF; rw [if_pos ht]
        clear ht
        go_wp2_with fail
        refine (cmul_any w n (Pn.rowsAt X.p.x i)).mono ?_
        rintro e w1 ⟨rfl, rfl⟩
        go_wp2_with fail
        go_roundw
        case rel => exact ⟨i + 1, _, by omega, by go_num, rfl, HS2.out, trivial⟩
        case measure => simp [intOf]; omega
      | false =>
        have HS2 : Hid (Pn.sizeH X.p.x m (i + 1) (X.p.x.B.length - (i + 1)) n = Pn.sizeH X.p.x m 0 X.p.x.B.length 1) := by show _ = _; rw [← HS.out]; unfold Pn.sizeF; rw [if_neg (by rw [ht]; simp)]
        clear ht
        go_wp2_with fail
        go_roundw
        case rel => exact ⟨i + 1, n, by omega, by go_num, rfl, HS2.out, trivial⟩
        case measure => simp [intOf]; omega
    · have hii : ¬ (i : Int) < (X.p.x.B.length : Int) := by omega
      have HN : Hid (Pn.sizeH X.p.x m 0 X.p.x.B.length 1 = n) := by show _ = _; rw [← HE.out, show X.p.x.B.length - i = 0 by omega]; rfl
      have HD2 : Hid (max 1 ((X.p.x.wh.drop 0).foldl (Pn.sizeG X.p.x m) n) = D) := by show _ = _; rw [← HD.out, HN.out]; rfl
      obtain ⟨-, c3⟩ := Blk.wq HB.out
      clear HN HE
      go_upto_region 9 with fail
      clear c3
      go_loopw [5, 40] (fun nv iv wr => ∃ (i : Nat) (n : Int), i ≤ X.p.x.wh.length ∧ iv = .int .i64 (i : Int) ∧ nv = .int .i64 n ∧ Hid (max 1 ((X.p.x.wh.drop i).foldl (Pn.sizeG X.p.x m) n) = D ∧ Below w.heap.size w wr)) (fun _ iv _ => X.p.x.wh.length - (intOf iv).toNat)
      case atStart => exact ⟨0, n, Nat.zero_le _, by go_num, rfl, HD2.out, Below.refl _ _⟩
      case round =>
        obtain ⟨j, n2, hj, rfl, rfl, HJ⟩ := hrel
        have HE := Lib.hid HJ.out.1
        have HBW := Lib.hid HJ.out.2
        clear HJ
        by_cases hltj : j < X.p.x.wh.length
        · have hjj : (j : Int) < (X.p.x.wh.length : Int) := by omega
          obtain ⟨y, hy⟩ : ∃ y, X.p.x.wh[j] = y := ⟨_, rfl⟩
          have hjn : j < X.need.length := by rw [HX.out.nd, List.length_map]; exact hltj
          have hny : X.need[j] = (Pn.asks X.p.x y).1 := by rw [← hy]; simp only [HX.out.nd, List.getElem_map]
          have hjni : (j : Int) < (X.need.length : Int) := by omega
          obtain ⟨k, hk⟩ : ∃ k, (Pn.asks X.p.x y).1 = k := ⟨_, rfl⟩
          have hk16 : k < 16 := by rw [← hk]; exact Pn.asks_lt hbl y
          have HSG : Hid (max 1 ((X.p.x.wh.drop (j + 1)).foldl (Pn.sizeG X.p.x m) (if k ≠ 0 ∧ Pn.sub k m = true then Pn.part n2 (Ev.guessN y X.p.x.rows X.p.x.cols) else n2)) = D) := by
            show _ = _
            rw [← HE.out, Pn.fold_drop _ _ _ hltj, hy]
            unfold Pn.sizeG
            rw [hk]
          have HNI := Lib.hid (HX.out.q.nin y (by rw [← hy]; exact List.getElem_mem hltj))
          obtain ⟨bb, oo, ha, -, -⟩ := HX.out.q.wn.at_ hltj
          have HIW : Hid (ERow eNd wr (some ⟨bb, oo, none⟩) X.p.x.wh) := by show ERow _ _ _ _; rw [← ha]; exact HX.out.q.wn.below HBW.out
          have HYE := Lib.hid hy
          rw [ha]
          have HNK : Hid (X.need[j] = k) := hny.trans hk
          have HJN := Lib.hid hjn
          clear ha hy hny hk
          go_upto_region 11 with (first | (refine wpList_load_nd_is rfl (.tmp 43) rfl HIW.out hltj y HYE.out rfl ?_) | (refine wpList_alloc_nd rfl rfl ?_; intro W6 hb6 hz6 hB6) | (refine wpList_store_nd rfl rfl (.tmp 9) (.tmp 44) rfl wr.heap.size rfl y rfl hb6 ?_; intro W7 hb7 hg7))
          have HB7 := Lib.hid (below_of_grown (HBW.out.then hB6) hg7 HBW.out.size (Nat.le_trans HBW.out.size hB6.size))
          clear hb6 hz6 hB6 hg7 HIW HYE
          generalize wr.heap.size = g9 at hb7 ⊢
          obtain ⟨bn, on, han, -, qn⟩ := mk_at (HX.out.n.below HB7.out) HJN.out
          rw [HNK.out] at qn
          obtain ⟨-, c10, -, -⟩ := Blk.wt (HB.out.below HB7.out)
          rw [han] at c10
          clear han HJN
          by_cases hk0 : k = 0
          · have HS3 : Hid (max 1 ((X.p.x.wh.drop (j + 1)).foldl (Pn.sizeG X.p.x m) n2) = D) := by show _ = _; rw [← HSG.out, if_neg (fun h => h.1 hk0)]
            have hkb : ((k : Int) != 0) = false := by simp [hk0]
            clear hk0 hb7
            go_wp2_with fail
            go_roundw
            case rel => exact ⟨j + 1, n2, by omega, by go_num, rfl, HS3.out, HB7.out⟩
            case measure => simp [intOf]; omega
          · have hkb : ((k : Int) != 0) = true := by simp [hk0]
            have ha8 : (bits BinOp.andNot IntKind.u8 (k : Int) (m : Int) == 0) = Pn.sub k m := andNot8 k hk16 m hm
            cases hsub : Pn.sub k m with
            | false =>
              have HS3 : Hid (max 1 ((X.p.x.wh.drop (j + 1)).foldl (Pn.sizeG X.p.x m) n2) = D) := by show _ = _; rw [← HSG.out, if_neg (fun h => by rw [hsub] at h; cases h.2)]
              rw [hsub] at ha8
              clear hk0 hb7 hsub
              go_wp2_with fail
              go_roundw
              case rel => exact ⟨j + 1, n2, by omega, by go_num, rfl, HS3.out, HB7.out⟩
              case measure => simp [intOf]; omega
            | true =>
              have HS3 : Hid (max 1 ((X.p.x.wh.drop (j + 1)).foldl (Pn.sizeG X.p.x m) (Pn.part n2 (Ev.guessN y X.p.x.rows X.p.x.cols))) = D) := by show _ = _; rw [← HSG.out, if_pos ⟨hk0, hsub⟩]
              rw [hsub] at ha8
              have h9d := hb7.drew
              have HBD : Hid (Below w.heap.size w W7.drew) := HB7.out.drewR
              obtain ⟨-, -, c11, c12⟩ := Blk.wt (HB.out.below HBD.out)
              clear hk0 hb7 hsub HSG HNK
              go_upto_region 12 with fail
              clear ha8 hkb c10 qn
              refine wp_region_plan (.take 0 (.take 1 (.take 2 (.take 3 (.take 4 (.take 5 (.take 6 (.take 7 (.take 8 (.take 9 (.run 10 [0] (.run 11 [] (.take 12 .fin))))))))))))) (by kernel_rfl) (by kernel_rfl) (by kernel_rfl) (by kernel_rfl) ?_
              repeat' (first | (refine hZ _ _ ?_; clear hZ) | (refine hZ _ ?_; clear hZ) | (refine hZ ?_; clear hZ) | rw [again_nil] | rw [walk_fin] | ((first | rw [walk_take] | rw [walk_run] | rw [again_cons]); intro Z hZ; simp only [sel, List.getElem?_toArray, List.getElem?_cons_zero, List.getElem?_cons_succ]; go_wp2_with (refine wpList_load_nd rfl (.tmp 9) rfl g9 rfl h9d ?_)))
              refine (guess_any W7.drew X.ra X.ca X.rc X.cc X.p.x.rows X.p.x.cols (HX.out.rc.below HBD.out) y (nd_below15 HNI.out HBD.out)).mono ?_
              rintro e W8 ⟨rfl, hB8⟩
              have HB8 := Lib.hid (HBD.out.then hB8)
              obtain ⟨-, -, c11, c12⟩ := Blk.wt (HB.out.below HB8.out)
              clear hB8 h9d
              go_wp2_with fail
              repeat' (first | (refine hZ _ _ ?_; clear hZ) | (refine hZ _ ?_; clear hZ) | (refine hZ ?_; clear hZ) | rw [again_nil] | rw [walk_fin] | ((first | rw [walk_take] | rw [walk_run] | rw [again_cons]); intro Z hZ; simp only [sel, List.getElem?_toArray, List.getElem?_cons_zero, List.getElem?_cons_succ]; go_wp2_with (fail)))
              refine (cpart_any W8 n2 _).mono ?_
              rintro e w9 ⟨rfl, rfl⟩
              go_wp2_with fail
              repeat' (first | (refine hZ _ _ ?_; clear hZ) | (refine hZ _ ?_; clear hZ) | (refine hZ ?_; clear hZ) | rw [again_nil] | rw [walk_fin] | ((first | rw [walk_take] | rw [walk_run] | rw [again_cons]); intro Z hZ; simp only [sel, List.getElem?_toArray, List.getElem?_cons_zero, List.getElem?_cons_succ]; go_wp2_with (fail)))
              go_wp2_with fail
              go_roundw
              case rel => exact ⟨j + 1, _, by omega, by go_num, rfl, HS3.out, HB8.out⟩
              case measure => simp [intOf]; omega
        · have hjj : ¬ (j : Int) < (X.p.x.wh.length : Int) := by omega
          have HF : Hid (D = max 1 n2) := by show _ = _; rw [← HE.out, List.drop_eq_nil_of_le (by omega)]; rfl
          go_wp2_with fail
          go_ret
          exact ⟨by rw [HF.out]; rfl, HBW.out⟩
end Go.Proofs.YtjdffhonljhpcaaGreat
end

