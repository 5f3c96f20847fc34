/-
  Texts of a proof, one behind the other (each with its own head).
-/
import Derived.Test.YtknfnhmkiooifaaDoorPartEfknndgef
import Derived.Defers
import Derived.Recover
import Derived.Deep.RegionWith
import Derived.Laws.ResultCell
section
/-
  The contract of key.ReadRow: the row that is all of some bytes; an error comes as a panic, and is recovered.
-/
namespace Go.Proofs.YtknfnhmkiooifaaDoor
set_option linter.unusedSimpArgs false
set_option linter.unusedVariables false
open Go.RowKit

namespace Key
/-- So many values of a row. -/
def rowsK : Nat → List Va → Wire.RS → List Va × Wire.RS × Int
  | 0, acc, r => (acc, r, 0)
  | n + 1, acc, r => if (oneK r).2.2 ≠ 0 then ([], (oneK r).1, (oneK r).2.2) else rowsK n (acc ++ [(oneK r).2.1]) (oneK r).1
/-- A row that is all of some bytes; the error. -/
def readRowK (l : List UInt8) : List Va × Int :=
  if (rowsK (Wire.count ⟨l, 0⟩ 512).2 [] (Wire.count ⟨l, 0⟩ 512).1).2.2 ≠ 0 then ([], (rowsK (Wire.count ⟨l, 0⟩ 512).2 [] (Wire.count ⟨l, 0⟩ 512).1).2.2) else
  if (Wire.fin (rowsK (Wire.count ⟨l, 0⟩ 512).2 [] (Wire.count ⟨l, 0⟩ 512).1).2.1).e ≠ 0 then ([], (Wire.fin (rowsK (Wire.count ⟨l, 0⟩ 512).2 [] (Wire.count ⟨l, 0⟩ 512).1).2.1).e) else
  ((rowsK (Wire.count ⟨l, 0⟩ 512).2 [] (Wire.count ⟨l, 0⟩ 512).1).1, 0)
end Key
theorem take_len' (r : Wire.RS) : (Wire.take r).1.l.length ≤ r.l.length := Wire.take_len r
theorem count_len (r : Wire.RS) (m : Int) : (Wire.count r m).1.l.length ≤ r.l.length := by
  unfold Wire.count
  split
  · exact take_len' r
  · split
    · exact Nat.le_refl _
    · exact take_len' r
theorem takeText_len (r : Wire.RS) (m : Int) : (Wire.takeText r m).1.l.length ≤ r.l.length := by
  have := count_len r m
  unfold Wire.takeText
  split
  · exact this
  · split
    · exact Nat.le_refl _
    · simp only [List.length_drop]; omega
theorem takeBool_len (r : Wire.RS) : (Wire.takeBool r).1.l.length ≤ r.l.length := by
  unfold Wire.takeBool
  split
  · exact Nat.le_refl _
  · split
    · simp
    · rename_i c s h
      split
      · rw [h]; exact Nat.le_refl _
      · rw [h]; simp
theorem oneK_len (r : Wire.RS) : (Key.oneK r).1.l.length ≤ r.l.length := by
  have h1 := count_len r 4
  have h2 := take_len' (Wire.count r 4).1
  have h3 := takeText_len (Wire.count r 4).1 512
  have h4 := takeBool_len (Wire.count r 4).1
  unfold Key.oneK Wire.takeInt
  (repeat' split) <;> simp only <;> omega
/-- What ReadRow answers. -/
def RetRR (w : World) (q : List Va × Int) (e : Ending) (w' : World) : Prop :=
  ∃ A c, e = .returned (.tuple #[.slice A q.1.length c, .int .i64 q.2]) ∧ ERow eVa w' A q.1 ∧ Below w.heap.size w w'
theorem run_assert_errno (er : Int) (w : World) : (Instr.typeAssert (.iface 34 (.int .i64 er)) 20 34 true).run Tryd.prog w = .ok (.tuple #[.int .i64 er, .bool true]) w := by
  unfold Instr.typeAssert
  simp [run_underlying Tryd.underlying34]
theorem run_assert_nil (w : World) : (Instr.typeAssert .nilIface 20 34 true).run Tryd.prog w = .ok (.tuple #[.int .i64 0, .bool false]) w := by
  unfold Instr.typeAssert
  simp [run_underlying Tryd.underlying34]
theorem catch_panic (g h : Nat) (x y : Value) (er : Int) (w : World) (hg : w.cell? ⟨g, 0, none⟩ = some x) (fg : w.frozen? ⟨g, 0, none⟩ = false) (hh : w.cell? ⟨h, 0, none⟩ = some y) (fh : w.frozen? ⟨h, 0, none⟩ = false) (hne : ¬ g = h) :
    CallsD Tryd.prog 44 #[.pointer (some ⟨g, 0, none⟩), .pointer (some ⟨h, 0, none⟩)] (.panicking [{ v := .iface 34 (.int .i64 er), recovered := false }]) w fun e u' w' =>
      e = .returned (.tuple #[]) ∧ u' = .panicking [{ v := .iface 34 (.int .i64 er), recovered := true }] ∧ w' = (w.setCell ⟨g, 0, none⟩ (.slice none 0 0)).setCell ⟨h, 0, none⟩ (.int .i64 er) := by
  have hta := run_assert_errno
  refine callsD_of_wpS Tryd.func44 rfl fun c₀ cs hu => ?_
  apply wpS_seq
  apply wpS_region
  simp [wpOpsS, go_sem, recoverD, hu, Tryd.ntmps44, Exit.thenS, hta]
  apply wpS_seq
  apply wpS_region
  simp [wpOpsS, go_sem, Exit.thenS]
  refine wpS_cond (t := true) (by simp [Act.eval]) ?_
  simp only [if_true]
  apply wpS_region
  simp [wpOpsS, go_sem, hg, fg, hh, fh, hne, bodyPostS, results, Tryd.results44]
theorem catch_idle (g h : Nat) (w : World) :
    CallsD Tryd.prog 44 #[.pointer (some ⟨g, 0, none⟩), .pointer (some ⟨h, 0, none⟩)] .returning w fun e u' w' => e = .returned (.tuple #[]) ∧ u' = .returning ∧ w' = w := by
  have hta := run_assert_nil
  refine callsD_of_wpS Tryd.func44 rfl fun c₀ cs hu => ?_
  apply wpS_seq
  apply wpS_region
  simp [wpOpsS, go_sem, recoverD, hu, Tryd.ntmps44, Exit.thenS, hta]
  apply wpS_seq
  apply wpS_region
  simp [wpOpsS, go_sem, Exit.thenS]
  refine wpS_cond (t := false) (by simp [Act.eval]) ?_
  simp only [Bool.false_eq_true, if_false]
  refine wpS_of_wp (wp_skip ?_)
  cases c₀
  simp_all [bodyPostS, results, Tryd.results44]
theorem RetOne.good {w w' : World} {g : Nat} {r : Wire.RS} {v : Va} {e : Ending} (h : RetOne w g (r, v, 0) e w') : e = .returned v.v ∧ RD w' g r ∧ w.grownBy w' (some g) := by
  obtain ⟨⟨-, h1⟩ | ⟨h1, -⟩, h2, h3⟩ := h
  · exact ⟨h1, h2, h3⟩
  · exact absurd rfl h1
theorem RetOne.bad {w w' : World} {g : Nat} {r : Wire.RS} {v : Va} {er : Int} {e : Ending} (h : RetOne w g (r, v, er) e w') (he : ¬ er = 0) : e = errPanic er ∧ RD w' g r ∧ w.grownBy w' (some g) := by
  obtain ⟨⟨h1, -⟩ | ⟨-, h1⟩, h2, h3⟩ := h
  · exact absurd h1 he
  · exact ⟨h1, h2, h3⟩
theorem EOwn.not_at {α : Type} {E : Elem α} {w : World} {B c g : Nat} {A : Option Addr} {L : List α} (h : EOwn E w B A c L) (hlt : g < B) : some g ≠ A.map (·.block) := by
  intro e
  cases A with
  | none => cases e
  | some a =>
    have := (h.block a rfl).1
    simp only [Option.map_some, Option.some.injEq] at e
    omega
theorem ret_cells2 {W : World} {g h : Nat} {tmps : Array Value} {x y : Value} {T T' : TypeId} (h2 : tmps.getD 2 undef = .pointer (some ⟨g, 0, none⟩)) (h3 : tmps.getD 3 undef = .pointer (some ⟨h, 0, none⟩)) (q2 : Blk W g T [x]) (q3 : Blk W h T' [y]) : (results Tryd.f24 tmps).run Tryd.prog W = .ok (.tuple #[x, y]) W := by
  have c2 := q2.cell 0
  have c3 := q3.cell 0
  simp only [List.getElem?_cons_zero] at c2 c3
  simp only [Array.getD_eq_getD_getElem?] at h2 h3
  simp [results, Tryd.results24, h2, h3, go_sem, c2, c3]
theorem leave_bad {W : World} {g : Nat} {tmps : Array Value} {x y : Value} {T T' : TypeId} {er : Int} {R : Ending → World → Prop} (h2 : tmps.getD 2 undef = .pointer (some ⟨g, 0, none⟩)) (h3 : tmps.getD 3 undef = .pointer (some ⟨g + 1, 0, none⟩)) (q2 : Blk W g T [x]) (q3 : Blk W (g + 1) T' [y])
    (hR : ∀ W9, Below g W W9 → R (.returned (.tuple #[.slice none 0 0, .int .i64 er])) W9) :
    Leaves Tryd.prog Tryd.f24 tmps R [{ target := .fn (.func 44) #[.pointer (some ⟨g, 0, none⟩), .pointer (some ⟨g + 1, 0, none⟩)], args := #[] }] (raised .returning [{ v := .iface 34 (.int .i64 er), recovered := false }]) W := by
  refine leaves_cons (f := 44) (args := #[.pointer (some ⟨g, 0, none⟩), .pointer (some ⟨g + 1, 0, none⟩)]) (by simp [raised]) (by simp [go_sem]) ?_
  refine (catch_panic g (g + 1) _ _ er W (q2.cell 0) (q2.free 0) (q3.cell 0) (q3.free 0) (by omega)).mono ?_
  rintro e u' w'' ⟨rfl, rfl, rfl⟩
  have r2 := (q2.set0 (u := .slice none 0 0)).other ⟨g + 1, 0, none⟩ (by show g ≠ g + 1; omega) (.int .i64 er)
  have r3 := (q3.other ⟨g, 0, none⟩ (by show g + 1 ≠ g; omega) (.slice none 0 0)).set0 (u := .int .i64 er)
  have hB : Below g W ((W.setCell ⟨g, 0, none⟩ (.slice none 0 0)).setCell ⟨g + 1, 0, none⟩ (.int .i64 er)) := ((Below.refl g W).setCell (p := ⟨g, 0, none⟩) (Nat.le_refl _) _).setCell (p := ⟨g + 1, 0, none⟩) (by show g ≤ g + 1; omega) _
  exact ⟨_, ret_cells2 h2 h3 r2 r3, hR _ hB⟩
theorem leave_ok {W : World} {g : Nat} {tmps : Array Value} {x y : Value} {T T' : TypeId} {R : Ending → World → Prop} (h2 : tmps.getD 2 undef = .pointer (some ⟨g, 0, none⟩)) (h3 : tmps.getD 3 undef = .pointer (some ⟨g + 1, 0, none⟩)) (q2 : Blk W g T [x]) (q3 : Blk W (g + 1) T' [y])
    (hR : R (.returned (.tuple #[x, y])) W) :
    Leaves Tryd.prog Tryd.f24 tmps R [{ target := .fn (.func 44) #[.pointer (some ⟨g, 0, none⟩), .pointer (some ⟨g + 1, 0, none⟩)], args := #[] }] .returning W := by
  refine leaves_cons (f := 44) (args := #[.pointer (some ⟨g, 0, none⟩), .pointer (some ⟨g + 1, 0, none⟩)]) (by simp) (by simp [go_sem]) ?_
  refine (catch_idle g (g + 1) W).mono ?_
  rintro e u' w'' ⟨rfl, rfl, rfl⟩
  exact ⟨_, ret_cells2 h2 h3 q2 q3, hR⟩
theorem RD.blk {w : World} {g : Nat} {r : Wire.RS} (h : RD w g r) : ∃ cs : List Value, Blk w g 113 cs := by
  obtain ⟨A, c, hg, -⟩ := h
  exact ⟨[.slice A r.l.length c, .int .i64 r.e], hg⟩
theorem RD.kept_own {w w' : World} {g B c : Nat} {A : Option Addr} {L : List Va} {r : Wire.RS} (h : RD w g r) (ho : EOwn eVa w B A c L) (hg : w.grownBy w' (A.map (·.block))) : RD w' g r := by
  rcases ho.form with ⟨rfl, _⟩ | ⟨b, rfl, _, _, _, _, cur, hb⟩
  · obtain ⟨A, c, hgb, hr, h1, h2⟩ := h
    exact ⟨A, c, (hg.block g (Array.getElem?_eq_some_iff.1 hgb).1 (by simp)).trans hgb, hr.keepB hg.size fun a ha hl hlt => hg.block _ hlt (by simp), h1, h2⟩
  · refine h.keptT hb (by decide) ?_ hg
    intro e
    obtain ⟨cs, hk⟩ := h.blk
    subst e
    have h2 := hb.symm.trans hk
    simp only [Option.some.injEq, Obj.cells.injEq] at h2
    exact absurd h2.2.1 (by decide)
set_option maxRecDepth 20000 in
set_option maxHeartbeats 4000000 in
theorem kreadrow_any (w : World) (A : Option Addr) (c : Nat) (l : List UInt8) (hr : BRow w A l) (hm : l.length ≤ 1000000) : Calls Tryd.prog 24 #[.slice A l.length c] w (RetRR w (Key.readRowK l)) := by
  have HR := Lib.hid hr
  clear hr
  have hmf : ∀ (fn : Fn) (first cap : Array Value) (w : World), (Instr.makeFunc fn first cap).run Tryd.prog w = .ok (.func fn first cap) w := fun _ _ _ _ => rfl
  go_enter_defers Tryd.func24, Tryd.ntmps24
  go_wp2_with fail
  generalize hW1 : ((World.alloc w (.cells _ _)).alloc (.cells _ _)) = W1
  obtain ⟨ba1, bb1, hz1, hB1⟩ := fresh2 hW1
  clear hW1
  have HR1 := Lib.hid (HR.out.below hB1)
  have HB1 := Lib.hid hB1
  clear hB1
  refine (wread_any W1 A c l HR1.out hm).mono ?_
  rintro e W2 ⟨gr, rfl, hro, hB2⟩
  have HRD2 : Hid (RD W2 gr ⟨l, 0⟩) := hro.rd
  have hgr : W1.heap.size ≤ gr := hro.ge
  have ht2 := ba1.below hB2
  have ht3 := bb1.below hB2
  have HB2 := Lib.hid (HB1.out.then hB2)
  have hz2 := hB2.size
  clear hro hB2 ba1 bb1
  go_wp2_with fail
  refine (rcount_any _ gr ⟨l, 0⟩ 512 (by decide) HRD2.out).mono ?_
  rintro e W3 ⟨rfl, hrd3, hg3⟩
  have hcl := count_len ⟨l, 0⟩ 512
  have hcm := Wire.count_most ⟨l, 0⟩ 512
  have HQ : Hid (∀ n r0, Wire.count ⟨l, 0⟩ 512 = (r0, n) → Key.readRowK l = if (Key.rowsK n [] r0).2.2 ≠ 0 then ([], (Key.rowsK n [] r0).2.2) else
      if (Wire.fin (Key.rowsK n [] r0).2.1).e ≠ 0 then ([], (Wire.fin (Key.rowsK n [] r0).2.1).e) else ((Key.rowsK n [] r0).1, 0)) := by
    intro n r0 e
    unfold Key.readRowK
    rw [e]
  have hlm : (Wire.count ⟨l, 0⟩ 512).1.l.length ≤ 1000000 := Nat.le_trans hcl hm
  have hcm' : (Wire.count ⟨l, 0⟩ 512).2 ≤ 512 := hcm
  clear hcl hcm
  generalize Wire.count ⟨l, 0⟩ 512 = q at hrd3 HQ hlm hcm' ⊢
  obtain ⟨r0, n⟩ := q
  have HQ2 := Lib.hid (HQ.out n r0 rfl)
  have hn : n ≤ 512 := hcm'
  have hl0 : r0.l.length ≤ 1000000 := hlm
  have HI : Hid (RD W3 gr r0 ∧ Blk W3 w.heap.size 22 [.slice none ([] : List Va).length 0] ∧ Blk W3 (w.heap.size + 1) 34 [.int .i64 0] ∧ EOwn eVa W3 W1.heap.size none 0 [] ∧ Below w.heap.size w W3 ∧ W1.heap.size ≤ W3.heap.size) :=
    ⟨hrd3, ht2.grown hg3 (by simp; omega), ht3.grown hg3 (by simp; omega), EOwn.nil _ _, below_of_grown HB2.out hg3 (by omega) (by omega), Nat.le_trans hz2 hg3.size⟩
  clear hrd3 hg3 HQ hlm hcm' ht2 ht3 HRD2 HB2 hz2
  dsimp only
  go_wp2_with fail
  go_loopw [12] (fun iv wr => ∃ (k : Nat) (acc : List Va) (r' : Wire.RS) (A1 : Option Addr) (c1 : Nat), k ≤ n ∧ iv = .int .i64 (k : Int) ∧ r'.l.length ≤ 1000000 ∧ acc.length ≤ k ∧ Hid (Key.rowsK n [] r0 = Key.rowsK (n - k) acc r' ∧ RD wr gr r' ∧ Blk wr w.heap.size 22 [.slice A1 acc.length c1] ∧
      Blk wr (w.heap.size + 1) 34 [.int .i64 0] ∧ EOwn eVa wr W1.heap.size A1 c1 acc ∧ Below w.heap.size w wr ∧ W1.heap.size ≤ wr.heap.size)) (fun iv _ => n - (intOf iv).toNat)
  case atStart => exact ⟨0, [], r0, none, 0, Nat.zero_le _, rfl, hl0, by simp, rfl, HI.out⟩
  case round =>
    obtain ⟨k, acc, r', A1, c1, hk, rfl, hl', hak, HJ⟩ := hrel
    clear HI
    by_cases hlt : k < n
    · have hii : (k : Int) < (n : Int) := by omega
      have hcell := HJ.out.2.2.1.cell 0
      have hfr := HJ.out.2.2.1.free 0
      simp only [List.getElem?_cons_zero] at hcell
      have HS : Hid (Key.rowsK n [] r0 = if (Key.oneK r').2.2 ≠ 0 then ([], (Key.oneK r').1, (Key.oneK r').2.2) else Key.rowsK (n - (k + 1)) (acc ++ [(Key.oneK r').2.1]) (Key.oneK r').1) := by
        show _ = _
        rw [HJ.out.1, show n - k = (n - (k + 1)) + 1 from by omega]; rfl
      have hol := Nat.le_trans (oneK_len r') hl'
      have HONE : Hid (∀ W, RD W gr r' → Calls Tryd.prog 47 #[.pointer (some ⟨gr, 0, none⟩)] W (RetOne W gr (Key.oneK r'))) := fun W h => one_any W gr r' h hl'
      generalize Key.oneK r' = q at HS hol HONE
      obtain ⟨r1, v, er⟩ := q
      have hl1 : r1.l.length ≤ 1000000 := hol
      clear hol
      go_upto_region 6 with fail
      by_cases hee : er = 0
      · subst hee
        have HS2 : Hid (Key.rowsK n [] r0 = Key.rowsK (n - (k + 1)) (acc ++ [v]) r1) := by show _ = _; rw [HS.out]; simp
        clear HS
        refine wp_region_plan (.take 0 (.take 1 (.run 2 [0] (.run 3 [0] (.run 4 [] (.run 5 [] .fin)))))) (by kernel_rfl) (by kernel_rfl) (by kernel_rfl) (by kernel_rfl) ?_
        repeat' (first | (refine hZ _ _ ?_; clear hZ) | (refine hZ _ ?_; clear hZ) | (refine hZ ?_; clear hZ) | rw [again_nil] | rw [walk_fin] | ((first | rw [walk_take] | rw [walk_run] | rw [again_cons]); intro Z hZ; simp only [sel, List.getElem?_toArray, List.getElem?_cons_zero, List.getElem?_cons_succ]; go_wp2_with (fail)))
        refine (HONE.out wr.drew HJ.out.2.1.drew).mono ?_
        intro e W5 hres
        obtain ⟨rfl, hrd5, hg5⟩ := hres.good
        have p2 := HJ.out.2.2.1.drew.grown hg5 (by simp; omega)
        have p3 := HJ.out.2.2.2.1.drew.grown hg5 (by simp; omega)
        have HBP : Hid (Below w.heap.size w W5) := below_of_grown HJ.out.2.2.2.2.2.1.drewR hg5 (by omega) HJ.out.2.2.2.2.2.1.size
        have HOW : Hid (EOwn eVa W5 W1.heap.size A1 c1 acc) := by
          obtain ⟨cs, hbk⟩ := HJ.out.2.1.drew.blk
          exact HJ.out.2.2.2.2.1.drew.keptG hbk (by decide) hg5
        have HZ5 : Hid (W1.heap.size ≤ W5.heap.size) := Nat.le_trans HJ.out.2.2.2.2.2.2 hg5.size
        have HR5 : Hid (RD W5 gr r1) := hrd5
        clear hrd5 hg5 hcell hfr HONE HJ
        have hc5 := p2.cell 0
        simp only [List.getElem?_cons_zero] at hc5
        unfold Va.v
        have HAL := Lib.hid (And.intro (HOW.out.alloc (.cells #[.int .i64 v.k, .int .i64 v.n, .float .f64 v.f, txt v.s] 27)) (And.intro (ERow.lit eVa W5 v #[.int .i64 v.k, .int .i64 v.n, .float .f64 v.f, txt v.s] rfl W5.heap.size rfl) (HBP.out.trans ((Below.alloc1 W5 (.cells #[.int .i64 v.k, .int .i64 v.n, .float .f64 v.f, txt v.s] 27)).mono HBP.out.size))))
        have hc6 := (p2.alloc (.cells #[.int .i64 v.k, .int .i64 v.n, .float .f64 v.f, txt v.s] 27)).cell 0
        simp only [List.getElem?_cons_zero] at hc6
        have HZ6 : Hid (W1.heap.size ≤ (W5.alloc (.cells #[.int .i64 v.k, .int .i64 v.n, .float .f64 v.f, txt v.s] 27)).heap.size) := by show _ ≤ _; have := HZ5.out; simp; omega
        have P26 := Lib.hid (p2.alloc (.cells #[.int .i64 v.k, .int .i64 v.n, .float .f64 v.f, txt v.s] 27))
        clear p2
        go_wp2_with fail
        repeat' (first | (refine hZ _ _ ?_; clear hZ) | (refine hZ _ ?_; clear hZ) | (refine hZ ?_; clear hZ) | rw [again_nil] | rw [walk_fin] | ((first | rw [walk_take] | rw [walk_run] | rw [again_cons]); intro Z hZ; simp only [sel, List.getElem?_toArray, List.getElem?_cons_zero, List.getElem?_cons_succ]; go_wp2_with (at_builtin; refine wpList_append_elems eVa rfl (.tmp 14) (.tmp 17) rfl _ rfl HAL.out.1 rfl _ rfl HAL.out.2.1 rfl (by simp; omega) HZ6.out ?_; intro A7 c7 W7 ho7 hb7 hg7 _; have p27 := P26.out.grown hg7 (HAL.out.1.not_at (by omega)); have hc7 := p27.cell 0; have hf7 := p27.free 0; simp only [List.getElem?_cons_zero] at hc7)))
        have HLA : Hid ((acc ++ [v]).length = acc.length + 1) := by show _ = _; simp
        have q2 : Blk (W7.setCell ⟨w.heap.size, 0, none⟩ (.slice A7 (acc.length + 1) c7)) w.heap.size 22 [.slice A7 (acc ++ [v]).length c7] := by rw [HLA.out]; exact p27.set0
        have q3 := (((p3.alloc (.cells #[.int .i64 v.k, .int .i64 v.n, .float .f64 v.f, txt v.s] 27)).grown hg7 (HAL.out.1.not_at (by omega)))).other ⟨w.heap.size, 0, none⟩ (by show w.heap.size + 1 ≠ w.heap.size; omega) (.slice A7 (acc.length + 1) c7)
        have HF : Hid (RD (W7.setCell ⟨w.heap.size, 0, none⟩ (.slice A7 (acc.length + 1) c7)) gr r1 ∧ EOwn eVa (W7.setCell ⟨w.heap.size, 0, none⟩ (.slice A7 (acc.length + 1) c7)) W1.heap.size A7 c7 (acc ++ [v]) ∧ Below w.heap.size w (W7.setCell ⟨w.heap.size, 0, none⟩ (.slice A7 (acc.length + 1) c7)) ∧ W1.heap.size ≤ (W7.setCell ⟨w.heap.size, 0, none⟩ (.slice A7 (acc.length + 1) c7)).heap.size) :=
          ⟨((HR5.out.below (Below.alloc1 W5 _)).kept_own HAL.out.1 hg7).keptT p27 (by decide) (by omega) (set_grown _ _ _ _), ho7.keptG p27 (by decide) (set_grown _ _ _ _),
            (HAL.out.2.2.trans (hb7.mono (by omega))).setCell (p := ⟨w.heap.size, 0, none⟩) (Nat.le_refl _) _, by have := hb7.size; have := HZ6.out; simp; omega⟩
        clear hc7 hf7 p27 ho7 hb7 hg7 HAL HZ6 P26 p3 HOW HBP HR5 hc5 hc6 hres
        generalize World.setCell W7 _ _ = W8 at q2 q3 HF ⊢
        go_wp2_with fail
        go_roundw
        case rel => exact ⟨k + 1, acc ++ [v], r1, A7, c7, by omega, by go_num, hl1, by rw [HLA.out]; omega, HS2.out, HF.out.1, q2, q3, HF.out.2.1, HF.out.2.2.1, HF.out.2.2.2⟩
        case measure => simp [intOf]; omega
      · have HS2 : Hid (Key.rowsK n [] r0 = ([], r1, er)) := by show _ = _; rw [HS.out, if_pos hee]
        clear HS
        refine wp_region_any (by kernel_rfl) ?_
        refine wpAny_step (js := [0, 1]) (by kernel_rfl) (by simp) ?_
        intro j hj
        simp only [List.mem_cons, List.not_mem_nil, or_false] at hj
        rcases hj with rfl | rfl
        · refine wpOp_of_Z rfl ?_
          intro Z hZ hP
          go_wp2_with fail
          refine hZ _ _ ?_
          clear hZ hP
          refine wpAny_step (js := [1]) (by kernel_rfl) (by simp) ?_
          intro j hj
          obtain rfl : j = 1 := by simpa using hj
          refine wpOp_of_Z rfl ?_
          intro Z hZ hP
          go_wp2_with fail
          refine hZ _ _ ?_
          clear hZ hP
          refine wpAny_step (js := [2]) (by kernel_rfl) (by simp) ?_
          intro j hj
          obtain rfl : j = 2 := by simpa using hj
          refine wpOp_of_Z rfl ?_
          intro Z hZ hP
          go_wp2_with fail
          refine (HONE.out wr.drew HJ.out.2.1.drew).mono ?_
          intro e W5 hres
          obtain ⟨rfl, hrd5, hg5⟩ := hres.bad hee
          refine hP _ _ _ ?_
          clear hP hZ
          have p2 := HJ.out.2.2.1.drew.grown hg5 (by simp; omega)
          have p3 := HJ.out.2.2.2.1.drew.grown hg5 (by simp; omega)
          have HBP : Hid (Below w.heap.size w W5) := below_of_grown HJ.out.2.2.2.2.2.1.drewR hg5 (by omega) HJ.out.2.2.2.2.2.1.size
          refine leave_bad rfl rfl p2 p3 fun W9 hg9 => ?_
          rw [HQ2.out, HS2.out]
          rw [if_pos hee]
          exact ⟨none, 0, rfl, ERow.nil, HBP.out.trans (hg9.mono (Nat.le_refl _))⟩
        · refine wpOp_of_Z rfl ?_
          intro Z hZ hP
          go_wp2_with fail
          refine hZ _ _ ?_
          clear hZ hP
          refine wpAny_step (js := [0, 2]) (by kernel_rfl) (by simp) ?_
          intro j hj
          simp only [List.mem_cons, List.not_mem_nil, or_false] at hj
          rcases hj with rfl | rfl
          · refine wpOp_of_Z rfl ?_
            intro Z hZ hP
            go_wp2_with fail
            refine hZ _ _ ?_
            clear hZ hP
            refine wpAny_step (js := [2]) (by kernel_rfl) (by simp) ?_
            intro j hj
            obtain rfl : j = 2 := by simpa using hj
            refine wpOp_of_Z rfl ?_
            intro Z hZ hP
            go_wp2_with fail
            refine (HONE.out wr.drew HJ.out.2.1.drew).mono ?_
            intro e W5 hres
            obtain ⟨rfl, hrd5, hg5⟩ := hres.bad hee
            refine hP _ _ _ ?_
            clear hP hZ
            have p2 := HJ.out.2.2.1.drew.grown hg5 (by simp; omega)
            have p3 := HJ.out.2.2.2.1.drew.grown hg5 (by simp; omega)
            have HBP : Hid (Below w.heap.size w W5) := below_of_grown HJ.out.2.2.2.2.2.1.drewR hg5 (by omega) HJ.out.2.2.2.2.2.1.size
            refine leave_bad rfl rfl p2 p3 fun W9 hg9 => ?_
            rw [HQ2.out, HS2.out]
            rw [if_pos hee]
            exact ⟨none, 0, rfl, ERow.nil, HBP.out.trans (hg9.mono (Nat.le_refl _))⟩
          · refine wpOp_of_Z rfl ?_
            intro Z hZ hP
            go_wp2_with fail
            refine (HONE.out wr.drew HJ.out.2.1.drew).mono ?_
            intro e W5 hres
            obtain ⟨rfl, hrd5, hg5⟩ := hres.bad hee
            refine hP _ _ _ ?_
            clear hP hZ
            have p2 := HJ.out.2.2.1.drew.grown hg5 (by simp; omega)
            have p3 := HJ.out.2.2.2.1.drew.grown hg5 (by simp; omega)
            have HBP : Hid (Below w.heap.size w W5) := below_of_grown HJ.out.2.2.2.2.2.1.drewR hg5 (by omega) HJ.out.2.2.2.2.2.1.size
            refine leave_bad rfl rfl p2 p3 fun W9 hg9 => ?_
            rw [HQ2.out, HS2.out]
            rw [if_pos hee]
            exact ⟨none, 0, rfl, ERow.nil, HBP.out.trans (hg9.mono (Nat.le_refl _))⟩
    · obtain rfl : k = n := by omega
      have HS : Hid (Key.readRowK l = if (Wire.fin r').e ≠ 0 then ([], (Wire.fin r').e) else (acc, 0)) := by
        show _ = _
        have e : Key.rowsK k [] r0 = (acc, r', 0) := by rw [HJ.out.1, Nat.sub_self]; rfl
        rw [HQ2.out, e]
        simp
      have HF := Lib.hid HJ.out.2
      clear HJ HQ2
      go_wp2_with fail
      refine (rend_any _ gr r' HF.out.1).mono ?_
      rintro e W5 ⟨rfl, hrd5, hg5⟩
      have p2 := HF.out.2.1.grown hg5 (by simp; omega)
      have p3 := HF.out.2.2.1.grown hg5 (by simp; omega)
      have HBP : Hid (Below w.heap.size w W5) := below_of_grown HF.out.2.2.2.2.1 hg5 (by omega) HF.out.2.2.2.2.1.size
      have HOW : Hid (EOwn eVa W5 W1.heap.size A1 c1 acc) := by
        obtain ⟨cs, hbk⟩ := HF.out.1.blk
        exact HF.out.2.2.2.1.keptG hbk (by decide) hg5
      clear HF hrd5 hg5
      generalize (Wire.fin r').e = er at HS ⊢
      by_cases hee : er = 0
      · have HS2 : Hid (Key.readRowK l = (acc, 0)) := by show _ = _; rw [HS.out, if_neg (by simpa using hee)]
        clear HS
        subst hee
        go_wp2_with fail
        refine (check_ok _).mono ?_
        rintro e wq ⟨rfl, rfl⟩
        have c2 := p2.cell 0
        have c3 := p3.cell 0
        have f2 := p2.free 0
        have f3 := p3.free 0
        simp only [List.getElem?_cons_zero] at c2 c3
        go_wp2_with fail
        have r2 := (p2.set0 (u := .slice A1 acc.length c1)).other ⟨w.heap.size + 1, 0, none⟩ (by show w.heap.size ≠ w.heap.size + 1; omega) (.int .i64 0)
        have r3 := (p3.other ⟨w.heap.size, 0, none⟩ (by show w.heap.size + 1 ≠ w.heap.size; omega) (.slice A1 acc.length c1)).set0 (u := .int .i64 0)
        have HF : Hid (EOwn eVa ((W5.setCell ⟨w.heap.size, 0, none⟩ (.slice A1 acc.length c1)).setCell ⟨w.heap.size + 1, 0, none⟩ (.int .i64 0)) W1.heap.size A1 c1 acc ∧ Below w.heap.size w ((W5.setCell ⟨w.heap.size, 0, none⟩ (.slice A1 acc.length c1)).setCell ⟨w.heap.size + 1, 0, none⟩ (.int .i64 0))) :=
          ⟨(HOW.out.keptG p2 (by decide) (set_grown _ _ _ _)).keptG (p3.other ⟨w.heap.size, 0, none⟩ (by show w.heap.size + 1 ≠ w.heap.size; omega) (.slice A1 acc.length c1)) (by decide) (set_grown _ _ _ _),
            (HBP.out.setCell (p := ⟨w.heap.size, 0, none⟩) (Nat.le_refl _) _).setCell (p := ⟨w.heap.size + 1, 0, none⟩) (by show w.heap.size ≤ w.heap.size + 1; omega) _⟩
        refine leave_ok rfl rfl r2 r3 ?_
        rw [HS2.out]
        exact ⟨A1, c1, rfl, HF.out.1.row, HF.out.2⟩
      · have HS2 : Hid (Key.readRowK l = ([], er)) := by show _ = _; rw [HS.out, if_pos hee]
        clear HS
        go_wp2_with fail
        refine (check_bad _ er hee).mono ?_
        rintro e wq ⟨rfl, rfl⟩
        refine leave_bad rfl rfl p2 p3 fun W9 hg9 => ?_
        rw [HS2.out]
        exact ⟨none, 0, rfl, ERow.nil, HBP.out.trans hg9⟩
end Go.Proofs.YtknfnhmkiooifaaDoor
end

section
/-
  The contracts of dowserref01.Take, TakeInt, Count, TakeText, TakeBool, End.
-/
namespace Go.Proofs.YtknfnhmkiooifaaDoor
set_option linter.unusedSimpArgs false
set_option linter.unusedVariables false
open Go.RowKit

/-- A reader of the document's, by value. -/
def rv (r : Wire.RS) : Value := .agg #[txt r.l, .int .i64 r.e]
/-- What is answered; the memory that was there is left alone. -/
def Ans (w : World) (v : Value) (e : Ending) (w' : World) : Prop := e = .returned v ∧ Below w.heap.size w w'

theorem load_rv {w : World} {g : Nat} {x y : Value} (h0 : w.cell? ⟨g, 0, none⟩ = some x) (h1 : w.cell? ⟨g, 1, none⟩ = some y) : (loadVar 82 ⟨g, 0, none⟩).run Tryd.prog w = .ok (.agg #[x, y]) w := by
  go_simp
/-- The return of a function whose first result is a reader of the document's that lies in memory. -/
theorem ret_rv2 {fn : Func} {R : Ending → World → Prop} {a : Act} {w : World} {p u : Tmp} {g : Nat} {x y v : Value} (h : fn.results = #[.cell p 82, .tmp u]) (hd : a.defers = [])
    (hp : a.tmps.getD p undef = .pointer (some ⟨g, 0, none⟩)) (hu : a.tmps.getD u undef = v) (h0 : w.cell? ⟨g, 0, none⟩ = some x) (h1 : w.cell? ⟨g, 1, none⟩ = some y)
    (hR : R (.returned (.tuple #[.agg #[x, y], v])) w) : bodyPost Tryd.prog fn R .ret a w := by
  refine bodyPost_ret (v := .tuple #[.agg #[x, y], v]) ?_ hd hR
  rw [results_cell_tmp h, hp, hu]
  have := load_rv h0 h1
  go_simp
theorem ret_rv1 {fn : Func} {R : Ending → World → Prop} {a : Act} {w : World} {p : Tmp} {g : Nat} {x y : Value} (h : fn.results = #[.cell p 82]) (hd : a.defers = [])
    (hp : a.tmps.getD p undef = .pointer (some ⟨g, 0, none⟩)) (h0 : w.cell? ⟨g, 0, none⟩ = some x) (h1 : w.cell? ⟨g, 1, none⟩ = some y)
    (hR : R (.returned (.agg #[x, y])) w) : bodyPost Tryd.prog fn R .ret a w := by
  refine bodyPost_ret (v := .agg #[x, y]) ?_ hd hR
  have e : (results fn a.tmps).run Tryd.prog w = ((asAddr (a.tmps.getD p undef)).run Tryd.prog w).andThen fun b w1 => (loadVar 82 b).run Tryd.prog w1 := by
    simp only [results, h]
    simp [Sem.run_bind]
  rw [e, hp]
  have := load_rv h0 h1
  go_simp

theorem add_unit (a x i u : Nat) (ha : a < 128 ^ i) (hi : i ≤ 9) (hc : x < 256) (hu : u = 128 ^ i) (h9 : i = 9 → x ≤ 1) :
    IntKind.u64.wrap ((a : Int) + IntKind.u64.wrap ((u : Int) * ((x : Int) % 128))) = ((a + x % 128 * 128 ^ i : Nat) : Int) := by
  subst hu
  have hlt : a + x % 128 * 128 ^ i < 18446744073709551616 := by
    have h1 : x % 128 < 128 := Nat.mod_lt _ (by omega)
    rcases Nat.lt_or_ge i 9 with h | h
    · have h2 : 128 ^ i ≤ 128 ^ 8 := Nat.pow_le_pow_right (by omega) (by omega)
      have h3 : x % 128 * 128 ^ i ≤ 127 * 128 ^ 8 := Nat.mul_le_mul (by omega) h2
      omega
    · obtain rfl : i = 9 := by omega
      have := h9 rfl
      have h3 : x % 128 * 128 ^ 9 ≤ 1 * 128 ^ 9 := Nat.mul_le_mul (by omega) (Nat.le_refl _)
      omega
  have e1 : ((128 ^ i : Nat) : Int) * ((x : Int) % 128) = ((x % 128 * 128 ^ i : Nat) : Int) := by
    rw [Nat.mul_comm]; simp
  rw [e1]
  generalize x % 128 * 128 ^ i = q at hlt
  rw [IntWalk.u64_in (q : Int) (by omega), IntWalk.u64_in _ (by omega)]
  omega
theorem next_unit (i u : Nat) (hi : i < 9) (hu : u = 128 ^ i) : IntKind.u64.wrap ((u : Int) * 128) = ((128 ^ (i + 1) : Nat) : Int) := by
  subst hu
  have h2 : 128 ^ (i + 1) ≤ 128 ^ 9 := Nat.pow_le_pow_right (by omega) (by omega)
  have e1 : ((128 ^ i : Nat) : Int) * 128 = ((128 ^ (i + 1) : Nat) : Int) := by rw [Nat.pow_succ]; simp
  rw [e1]
  generalize 128 ^ (i + 1) = q at h2
  exact IntWalk.u64_in _ (by omega)

theorem ans_err {w w' : World} {l : List UInt8} {er : Nat} (h : (Wire.tk 0 0 l).1 = er) (h0 : er ≠ 0) (hb : Below w.heap.size w w') :
    Ans w (.tuple #[rv (Wire.take ⟨l, 0⟩).1, .int .u64 ((Wire.take ⟨l, 0⟩).2 : Nat)]) (.returned (.tuple #[.agg #[.string ⟨l.toArray⟩, .int .i64 (er : Int)], .int .u64 0])) w' := by
  have e : Wire.take ⟨l, 0⟩ = (⟨l, (er : Int)⟩, 0) := by
    unfold Wire.take
    rw [if_neg (by simp), if_pos (by rw [h]; exact h0), h]
  rw [e]
  exact ⟨rfl, hb⟩
theorem ans_ok {w w' : World} {l : List UInt8} {u v : Nat} (h : Wire.tk 0 0 l = (0, u, v)) (hb : Below w.heap.size w w') (s : ByteArray) (hs : s = ⟨(l.drop u).toArray⟩) (x : Int) (hx : x = (v : Nat)) :
    Ans w (.tuple #[rv (Wire.take ⟨l, 0⟩).1, .int .u64 ((Wire.take ⟨l, 0⟩).2 : Nat)]) (.returned (.tuple #[.agg #[.string s, .int .i64 0], .int .u64 x])) w' := by
  have e : Wire.take ⟨l, 0⟩ = (⟨l.drop u, 0⟩, v) := by
    unfold Wire.take
    rw [if_neg (by simp), if_neg (by rw [h]; simp), h]
  rw [e]
  subst hs hx
  exact ⟨rfl, hb⟩
theorem wcut_end (l : List UInt8) (k : Nat) : (ByteArray.mk l.toArray).extract k l.length = ⟨(l.drop k).toArray⟩ := by
  apply ByteArray.ext
  simp
  exact List.take_of_length_le (by simp)

set_option maxRecDepth 20000 in
set_option maxHeartbeats 1000000 in
theorem reftake_any (w : World) (r : Wire.RS) (hl : r.l.length ≤ 1000000) :
    Calls Tryd.prog 52 #[rv r] w (Ans w (.tuple #[rv (Wire.take r).1, .int .u64 ((Wire.take r).2 : Nat)])) := by
  obtain ⟨l, e⟩ := r
  simp only at hl
  by_cases he : e = 0
  · subst he
    have hb2 : ∀ o o', Below w.heap.size w ((w.alloc o).alloc o') := fun o o' => ((Below.refl _ _).alloc (Nat.le_refl _) _).alloc (by simp) _
    have HB := Lib.hid hb2
    clear hb2
    unfold rv txt
    go_enter Tryd.func52, Tryd.ntmps52
    go_wp2_with fail
    go_loop [4, 5, 6] (fun nv uv iv => ∃ i a u : Nat, i ≤ 10 ∧ iv = .int .i64 i ∧ nv = .int .u64 (a : Nat) ∧ uv = .int .u64 (u : Nat) ∧ i ≤ 9 ∧ Hid (u = 128 ^ i) ∧ Acc a i ∧ i ≤ l.length ∧ Hid (Wire.tk 0 0 l = Wire.tk i a (l.drop i))) (fun _ _ iv => 10 - (intOf iv).toNat)
    case atStart => exact ⟨0, 0, 1, by omega, rfl, rfl, rfl, by omega, rfl, ⟨by simp⟩, Nat.zero_le _, rfl⟩
    case round =>
      obtain ⟨i, a, u, hi10, rfl, rfl, rfl, hi, HU, HA, hil, HT⟩ := hrel
      by_cases hlt : i < l.length
      · have HC := Lib.hid (tk_cons i a l hlt)
        have hcl := l[i].toNat_lt
        have hidx : (ByteArray.mk l.toArray)[i]'(by simpa [ByteArray.size] using hlt) = l[i] := rfl
        generalize l[i] = y at hcl hidx HC
        obtain ⟨x, hx⟩ : ∃ x, y.toNat = x := ⟨_, rfl⟩
        rw [hx] at hcl HC
        have hi10l : (i : Int) < 10 := by omega
        have HO0 := Lib.hid (add_unit a x i u HA.lt hi hcl HU.out)
        by_cases hi9 : i = 9
        · have hi9b : ((i : Int) == 9) = true := by simp; omega
          have hi9l : 9 ≤ i := by omega
          clear hi9
          by_cases hx1 : 1 < x
          · have hx1l : (1 : Int) < (x : Int) := by omega
            go_wp2_with fail
            refine ret_rv2 rfl rfl rfl rfl (by go_simp; all_goals rfl) (by go_simp; all_goals rfl) ?_
            refine ans_err (er := 7) ?_ (by omega) (HB.out _ _)
            rw [HT.out, HC.out]
            rw [if_pos ⟨by omega, hx1⟩]
          · have HO := Lib.hid (HO0.out (by omega))
            have hxl : ((x : Int) < 128) := by omega
            by_cases hx0 : x = 0
            · have hx0b : ((x : Int) == 0) = true := by simp; omega
              clear hx0
              go_wp2_with fail
              refine ret_rv2 rfl rfl rfl rfl (by go_simp; all_goals rfl) (by go_simp; all_goals rfl) ?_
              refine ans_err (er := 7) ?_ (by omega) (HB.out _ _)
              rw [HT.out, HC.out]
              rw [if_neg (by omega), if_neg (by omega), if_pos ⟨by simpa using hx0b, by omega⟩]
            · have hx0b : ((x : Int) == 0) = false := by simp; omega
              go_wp2_with fail
              refine ret_rv2 rfl rfl rfl rfl (by go_simp; all_goals rfl) (by go_simp; all_goals rfl) ?_
              refine ans_ok (u := i + 1) ?_ (HB.out _ _) _ ?_ _ HO.out
              · rw [HT.out, HC.out, if_neg (by omega), if_neg (by omega), if_neg (by omega)]
              · exact wcut_end l (i + 1)
        · have HO := Lib.hid (HO0.out (by omega))
          have hi9b : ((i : Int) == 9) = false := by simp; omega
          by_cases hx : 128 ≤ x
          · go_wp2_with fail
            go_round
            case rel =>
              refine ⟨i + 1, a + x % 128 * 128 ^ i, 128 ^ (i + 1), by omega, by go_num, by rw [HO.out], by rw [next_unit i u (by omega) HU.out], by omega, rfl, ⟨?_⟩, by omega, ?_⟩
              · have h3 := HA.lt
                have h4 : x % 128 * 128 ^ i ≤ 127 * 128 ^ i := Nat.mul_le_mul (by omega) (Nat.le_refl _)
                rw [Nat.pow_succ]
                omega
              · show _ = _
                rw [HT.out, HC.out, if_neg (by omega), if_pos hx]
            case measure => simp [intOf]; omega
          · have hxl : ((x : Int) < 128) := by omega
            by_cases hx0 : x = 0
            · have hx0b : ((x : Int) == 0) = true := by simp; omega
              clear hx0
              by_cases hi0 : i ≤ 0
              · have hi0b : ¬ (0 : Int) < (i : Int) := by omega
                go_wp2_with fail
                refine ret_rv2 rfl rfl rfl rfl (by go_simp; all_goals rfl) (by go_simp; all_goals rfl) ?_
                refine ans_ok (u := i + 1) ?_ (HB.out _ _) _ ?_ _ HO.out
                · rw [HT.out, HC.out, if_neg (by omega), if_neg (by omega), if_neg (by omega)]
                · exact wcut_end l (i + 1)
              · have hi0b : (0 : Int) < (i : Int) := by omega
                go_wp2_with fail
                refine ret_rv2 rfl rfl rfl rfl (by go_simp; all_goals rfl) (by go_simp; all_goals rfl) ?_
                refine ans_err (er := 7) ?_ (by omega) (HB.out _ _)
                rw [HT.out, HC.out]
                rw [if_neg (by omega), if_neg (by omega), if_pos ⟨by simpa using hx0b, by omega⟩]
            · have hx0b : ((x : Int) == 0) = false := by simp; omega
              go_wp2_with fail
              refine ret_rv2 rfl rfl rfl rfl (by go_simp; all_goals rfl) (by go_simp; all_goals rfl) ?_
              refine ans_ok (u := i + 1) ?_ (HB.out _ _) _ ?_ _ HO.out
              · rw [HT.out, HC.out, if_neg (by omega), if_neg (by omega), if_neg (by omega)]
              · exact wcut_end l (i + 1)
      · obtain rfl : i = l.length := by omega
        have hni : ¬ (l.length : Int) < (l.length : Int) := by omega
        go_wp2_with fail
        refine ret_rv2 rfl rfl rfl rfl (by go_simp; all_goals rfl) (by go_simp; all_goals rfl) ?_
        refine ans_err (er := 10) ?_ (by omega) (HB.out _ _)
        rw [HT.out, List.drop_length]
        rfl
  · have heb : (e == 0) = false := by simpa using he
    have heb2 : (e != 0) = true := by simpa using he
    have HT : Hid (Wire.take ⟨l, e⟩ = (⟨l, e⟩, 0)) := by
      show _ = _
      unfold Wire.take
      rw [if_pos he]
    clear he
    have hb2 : ∀ o o', Below w.heap.size w ((w.alloc o).alloc o') := fun o o' => ((Below.refl _ _).alloc (Nat.le_refl _) _).alloc (by simp) _
    have HB := Lib.hid hb2
    clear hb2
    unfold rv txt
    go_enter Tryd.func52, Tryd.ntmps52
    go_wp2_with fail
    refine ret_rv2 rfl rfl rfl rfl (by go_simp; all_goals rfl) (by go_simp; all_goals rfl) ?_
    rw [HT.out]
    exact ⟨rfl, HB.out _ _⟩
end Go.Proofs.YtknfnhmkiooifaaDoor
end

section
/-
  The contracts of dowserref01.TakeInt, Count, TakeText, TakeBool, End.
-/
namespace Go.Proofs.YtknfnhmkiooifaaDoor
set_option linter.unusedSimpArgs false
set_option linter.unusedVariables false
open Go.RowKit

theorem Ans.below {w w' : World} {v : Value} {e : Ending} (h : Ans w v e w') {B : Nat} {w0 : World} (hb : Below B w0 w) (hB : B ≤ w.heap.size) : Below B w0 w' := hb.trans (h.2.mono hB)

/-- Two new blocks of two cells each, behind a call. -/
theorem two_cells {w w1 : World} {a b c d : Value} {t u : TypeId} (hb : Below ((w.alloc (.cells #[a, b] t)).alloc (.cells #[c, d] u)).heap.size ((w.alloc (.cells #[a, b] t)).alloc (.cells #[c, d] u)) w1) :
    w1.cell? ⟨w.heap.size, 0, none⟩ = some a ∧ w1.cell? ⟨w.heap.size, 1, none⟩ = some b ∧ w1.cell? ⟨w.heap.size + 1, 0, none⟩ = some c ∧ w1.cell? ⟨w.heap.size + 1, 1, none⟩ = some d ∧
    w1.frozen? ⟨w.heap.size, 0, none⟩ = false ∧ w1.frozen? ⟨w.heap.size, 1, none⟩ = false ∧ w1.frozen? ⟨w.heap.size + 1, 0, none⟩ = false ∧ w1.frozen? ⟨w.heap.size + 1, 1, none⟩ = false ∧
    w.heap.size < w1.heap.size ∧ w.heap.size + 1 < w1.heap.size ∧ Below w.heap.size w w1 := by
  have hs := hb.size
  have e0 : w1.heap[w.heap.size]? = some (.cells #[a, b] t (0, 0)) := by
    rw [hb.block w.heap.size (by simp; omega)]
    show ((w.heap.push _).push _)[w.heap.size]? = _
    rw [Array.getElem?_push_lt (by simp)]
    simp
  have e1 : w1.heap[w.heap.size + 1]? = some (.cells #[c, d] u (0, 0)) := by
    rw [hb.block (w.heap.size + 1) (by simp)]
    show ((w.heap.push _).push _)[w.heap.size + 1]? = _
    rw [show w.heap.size + 1 = (w.heap.push (Obj.cells #[a, b] t)).size from by simp, Array.getElem?_push_size]
  simp at hs
  refine ⟨by rw [cell_of_row w1 _ 0 _ _ _ e0]; rfl, by rw [cell_of_row w1 _ 1 _ _ _ e0]; rfl, by rw [cell_of_row w1 _ 0 _ _ _ e1]; rfl, by rw [cell_of_row w1 _ 1 _ _ _ e1]; rfl,
    frozen_of_row w1 _ 0 _ _ e0, frozen_of_row w1 _ 1 _ _ e0, frozen_of_row w1 _ 0 _ _ e1, frozen_of_row w1 _ 1 _ _ e1, by omega, by omega, ?_⟩
  have h2 : Below w.heap.size w ((w.alloc (.cells #[a, b] t)).alloc (.cells #[c, d] u)) := ((Below.refl _ _).alloc (Nat.le_refl _) _).alloc (by simp) _
  exact h2.trans (hb.mono h2.size)

theorem below_res {w w1 : World} (hB : Below w.heap.size w w1) (x y : Value) (o : Obj) :
    Below w.heap.size w (((w1.setCell ⟨w.heap.size + 1, 0, none⟩ x).setCell ⟨w.heap.size + 1, 1, none⟩ y).alloc o) :=
  ((hB.setCell (p := ⟨w.heap.size + 1, 0, none⟩) (by simp) x).setCell (p := ⟨w.heap.size + 1, 1, none⟩) (by simp) y).alloc (by simpa using hB.size) o

set_option maxRecDepth 20000 in
set_option maxHeartbeats 1000000 in
theorem reftakeint_any (w : World) (r : Wire.RS) (hl : r.l.length ≤ 1000000) :
    Calls Tryd.prog 51 #[rv r] w (Ans w (.tuple #[rv (Wire.takeInt r).1, .int .i64 (Wire.takeInt r).2])) := by
  have HV : Hid ((Wire.takeInt r).2 = Wire.toInt (Wire.take r).2) := rfl
  have H1 : Hid ((Wire.takeInt r).1 = (Wire.take r).1) := rfl
  have hlt := Wire.take_lt r
  have HC := Lib.hid (fun w => reftake_any w r hl)
  obtain ⟨⟨⟨l1, e1⟩, n⟩, hx⟩ : ∃ x, Wire.take r = x := ⟨_, rfl⟩
  rw [hx] at hlt HV H1 HC
  clear hx
  simp only at hlt HV H1
  unfold rv txt at HC
  have HRV : Hid (rv ⟨l1, e1⟩ = .agg #[.string ⟨l1.toArray⟩, .int .i64 e1]) := rfl
  have hn2 : (n / 2 : Nat) ≤ 9223372036854775807 := by omega
  have hq : IntKind.u64.wrap ((n : Int) / 2) = ((n / 2 : Nat) : Int) := by rw [IntWalk.u64_in _ (by omega)]; omega
  have hm : ((n : Int) % 2 == 1) = decide (n % 2 = 1) := by
    by_cases e : n % 2 = 1
    · rw [decide_eq_true e]; simp; omega
    · rw [decide_eq_false e]; simp; omega
  clear hlt
  unfold rv txt
  by_cases hodd : n % 2 = 1
  · have hv : Wire.toInt n = -((n / 2 : Nat) : Int) - 1 := by unfold Wire.toInt; rw [if_pos hodd]
    rw [decide_eq_true hodd] at hm
    have HVV := Lib.hid hv
    have HQ := Lib.hid hq
    clear hv hodd hq
    generalize n / 2 = k at hn2 HVV HQ
    go_enter Tryd.func51, Tryd.ntmps51
    go_wp2_with fail
    refine (HC.out _).mono ?_
    rintro e w1 ⟨rfl, hb⟩
    obtain ⟨c0, c1, c2, c3, f0, f1, f2, f3, z0, z1, hB⟩ := two_cells hb
    clear hb
    have HBB := Lib.hid hB
    clear hB
    go_wp2_with fail
    refine ret_rv2 rfl rfl rfl rfl (by go_simp; all_goals rfl) (by go_simp; all_goals rfl) ?_
    rw [H1.out, HV.out, HVV.out, ← int_odd n k HQ.out hn2]
    exact ⟨rfl, below_res HBB.out _ _ _⟩
  · have hv : Wire.toInt n = ((n / 2 : Nat) : Int) := by unfold Wire.toInt; rw [if_neg hodd]
    rw [decide_eq_false hodd] at hm
    have HVV := Lib.hid hv
    have HQ := Lib.hid hq
    clear hv hodd hq
    generalize n / 2 = k at hn2 HVV HQ
    go_enter Tryd.func51, Tryd.ntmps51
    go_wp2_with fail
    refine (HC.out _).mono ?_
    rintro e w1 ⟨rfl, hb⟩
    obtain ⟨c0, c1, c2, c3, f0, f1, f2, f3, z0, z1, hB⟩ := two_cells hb
    clear hb
    have HBB := Lib.hid hB
    clear hB
    go_wp2_with fail
    refine ret_rv2 rfl rfl rfl rfl (by go_simp; all_goals rfl) (by go_simp; all_goals rfl) ?_
    rw [H1.out, HV.out, HVV.out, ← int_even n k HQ.out hn2]
    exact ⟨rfl, below_res HBB.out _ _ _⟩

set_option maxRecDepth 20000 in
set_option maxHeartbeats 1000000 in
theorem refcount_any (w : World) (r : Wire.RS) (most : Int) (hmo : most ≤ 9223372036854775807) (hl : r.l.length ≤ 1000000) :
    Calls Tryd.prog 50 #[rv r, .int .i64 most] w (Ans w (.tuple #[rv (Wire.count r most).1, .int .i64 ((Wire.count r most).2 : Nat)])) := by
  have hlt := Wire.take_lt r
  have HCO : Hid (Wire.count r most = if (Wire.take r).1.e ≠ 0 then ((Wire.take r).1, 0) else if most < 0 ∨ most < ((Wire.take r).2 : Int) then (⟨r.l, 11⟩, 0) else Wire.take r) := rfl
  have HC := Lib.hid (fun w => reftake_any w r hl)
  obtain ⟨⟨⟨l1, e1⟩, n⟩, hx⟩ : ∃ x, Wire.take r = x := ⟨_, rfl⟩
  rw [hx] at hlt HCO HC
  clear hx
  simp only at hlt HCO
  unfold rv txt at HC
  have HLT := Lib.hid hlt
  clear hlt
  unfold rv txt
  go_enter Tryd.func50, Tryd.ntmps50
  go_wp2_with fail
  refine (HC.out _).mono ?_
  rintro e w1 ⟨rfl, hb⟩
  obtain ⟨c0, c1, c2, c3, f0, f1, f2, f3, z0, z1, hB⟩ := two_cells hb
  clear hb
  have HBB := Lib.hid hB
  clear hB
  by_cases he : e1 = 0
  · have heb : (e1 != 0) = false := by simpa using he
    have HE := Lib.hid he
    clear he
    by_cases hm0 : most < 0
    · go_wp2_with fail
      refine ret_rv2 rfl rfl rfl rfl (by go_simp; all_goals rfl) (by go_simp; all_goals rfl) ?_
      rw [HCO.out, if_neg (by simpa using HE.out), if_pos (by omega)]
      exact ⟨rfl, below_res HBB.out _ _ _⟩
    · by_cases hmn : most < (n : Int)
      · go_wp2_with fail
        refine ret_rv2 rfl rfl rfl rfl (by go_simp; all_goals rfl) (by go_simp; all_goals rfl) ?_
        rw [HCO.out, if_neg (by simpa using HE.out), if_pos (by omega)]
        exact ⟨rfl, below_res HBB.out _ _ _⟩
      · go_wp2_with fail
        refine ret_rv2 rfl rfl rfl rfl (by go_simp; all_goals rfl) (by go_simp; all_goals rfl) ?_
        rw [HCO.out, if_neg (by simpa using HE.out), if_neg (by omega)]
        exact ⟨rfl, below_res HBB.out _ _ _⟩
  · have heb : (e1 != 0) = true := by simpa using he
    have HE := Lib.hid he
    clear he
    go_wp2_with fail
    refine ret_rv2 rfl rfl rfl rfl (by go_simp; all_goals rfl) (by go_simp; all_goals rfl) ?_
    rw [HCO.out, if_pos HE.out]
    exact ⟨rfl, below_res HBB.out _ _ _⟩

set_option maxRecDepth 20000 in
set_option maxHeartbeats 1000000 in
theorem reftakebool_any (w : World) (r : Wire.RS) (hl : r.l.length ≤ 1000000) :
    Calls Tryd.prog 55 #[rv r] w (Ans w (.tuple #[rv (Wire.takeBool r).1, .bool (Wire.takeBool r).2])) := by
  obtain ⟨l, e⟩ := r
  simp only at hl
  have hb2 : ∀ o o', Below w.heap.size w ((w.alloc o).alloc o') := fun o o' => ((Below.refl _ _).alloc (Nat.le_refl _) _).alloc (by simp) _
  have HB := Lib.hid hb2
  clear hb2
  by_cases he : e = 0
  · subst he
    cases l with
    | nil =>
      unfold rv txt
      go_enter Tryd.func55, Tryd.ntmps55
      go_wp2_with fail
      refine ret_rv2 rfl rfl rfl rfl (by go_simp; all_goals rfl) (by go_simp; all_goals rfl) ?_
      exact ⟨rfl, HB.out _ _⟩
    | cons x l =>
      have hxl := x.toNat_lt
      have HBT : Hid (Wire.takeBool ⟨x :: l, 0⟩ = if 1 < x.toNat then (⟨x :: l, 7⟩, false) else (⟨(x :: l).drop 1, 0⟩, x.toNat == 1)) := by
        show _ = _
        unfold Wire.takeBool
        rw [if_neg (by simp)]
        rfl
      obtain ⟨L, hL⟩ : ∃ L, x :: l = L := ⟨_, rfl⟩
      have hpos : 0 < L.length := by rw [← hL]; simp
      have hemp : L.isEmpty = false := by rw [← hL]; rfl
      have hidx0 : ∀ h, (ByteArray.mk L.toArray)[0]'h = x := by subst hL; intro h; rfl
      have hidx := hidx0 (by simpa [ByteArray.size] using hpos)
      rw [hL] at HBT hl ⊢
      clear hL hidx0
      have HD := Lib.hid (wcut_end L 1)
      have hpos2 : (0 : Int) < (L.length : Int) := by omega
      obtain ⟨q, hq⟩ : ∃ q, x.toNat = q := ⟨_, rfl⟩
      rw [hq] at hxl HBT
      unfold rv txt
      simp only
      by_cases hgt : 1 < q
      · have hgt2 : (1 : Int) < (q : Int) := by omega
        go_enter Tryd.func55, Tryd.ntmps55
        go_wp2_with fail
        refine ret_rv2 rfl rfl rfl rfl (by go_simp; all_goals rfl) (by go_simp; all_goals rfl) ?_
        rw [HBT.out, if_pos hgt]
        exact ⟨rfl, HB.out _ _⟩
      · have hgt2 : ¬ (1 : Int) < (q : Int) := by omega
        go_enter Tryd.func55, Tryd.ntmps55
        go_wp2_with fail
        have hpos3 : (1 : Int) ≤ (L.length : Int) := by omega
        go_region
        all_goals go_wp2_with fail
        refine ret_rv2 rfl rfl rfl rfl (by go_simp; all_goals rfl) (by go_simp; all_goals rfl) ?_
        rw [HBT.out, if_neg hgt, HD.out, show ((q : Int) == 1) = (q == 1) from by
          by_cases e1 : q = 1
          · subst e1; rfl
          · rw [beq_eq_false_iff_ne.2 e1, beq_eq_false_iff_ne.2 (by omega)]]
        exact ⟨rfl, (HB.out _ _).drew⟩
  · have heb : (e != 0) = true := by simpa using he
    have HCE : Hid (Wire.takeBool ⟨l, e⟩ = (⟨l, e⟩, false)) := by
      show _ = _
      unfold Wire.takeBool
      rw [if_pos he]
    clear he
    unfold rv txt
    go_enter Tryd.func55, Tryd.ntmps55
    go_wp2_with fail
    refine ret_rv2 rfl rfl rfl rfl (by go_simp; all_goals rfl) (by go_simp; all_goals rfl) ?_
    rw [HCE.out]
    exact ⟨rfl, HB.out _ _⟩

set_option maxRecDepth 20000 in
set_option maxHeartbeats 1000000 in
theorem refend_any (w : World) (r : Wire.RS) (_hl : r.l.length ≤ 1000000) :
    Calls Tryd.prog 57 #[rv r] w (Ans w (rv (Wire.fin r))) := by
  obtain ⟨l, e⟩ := r
  have hb2 : ∀ o o', Below w.heap.size w ((w.alloc o).alloc o') := fun o o' => ((Below.refl _ _).alloc (Nat.le_refl _) _).alloc (by simp) _
  have HB := Lib.hid hb2
  clear hb2
  by_cases he : e = 0
  · subst he
    cases l with
    | nil =>
      unfold rv txt
      go_enter Tryd.func57, Tryd.ntmps57
      go_wp2_with fail
      refine ret_rv1 rfl rfl rfl (by go_simp; all_goals rfl) (by go_simp; all_goals rfl) ?_
      exact ⟨rfl, HB.out _ _⟩
    | cons x l =>
      have hne : (x :: l).isEmpty = false := rfl
      have HF : Hid (Wire.fin ⟨x :: l, 0⟩ = ⟨x :: l, 12⟩) := by show _ = _; unfold Wire.fin; rw [if_pos ⟨rfl, by simp⟩]
      unfold rv txt
      simp only
      generalize x :: l = L at *
      go_enter Tryd.func57, Tryd.ntmps57
      go_wp2_with fail
      refine ret_rv1 rfl rfl rfl (by go_simp; all_goals rfl) (by go_simp; all_goals rfl) ?_
      rw [HF.out]
      exact ⟨rfl, HB.out _ _⟩
  · have heb : (e == 0) = false := by simpa using he
    have HF : Hid (Wire.fin ⟨l, e⟩ = ⟨l, e⟩) := by show _ = _; unfold Wire.fin; rw [if_neg (fun h => he h.1)]
    clear he
    unfold rv txt
    go_enter Tryd.func57, Tryd.ntmps57
    go_wp2_with fail
    refine ret_rv1 rfl rfl rfl (by go_simp; all_goals rfl) (by go_simp; all_goals rfl) ?_
    rw [HF.out]
    exact ⟨rfl, HB.out _ _⟩

theorem wcut_head (l : List UInt8) (n : Nat) : (ByteArray.mk l.toArray).extract 0 n = ⟨(l.take n).toArray⟩ := by
  apply ByteArray.ext
  simp

set_option maxRecDepth 20000 in
set_option maxHeartbeats 1000000 in
theorem reftaketext_any (w : World) (r : Wire.RS) (most : Int) (hmo : most ≤ 9223372036854775807) (hl : r.l.length ≤ 1000000) :
    Calls Tryd.prog 54 #[rv r, .int .i64 most] w (Ans w (.tuple #[rv (Wire.takeText r most).1, txt (Wire.takeText r most).2])) := by
  have hnb := Wire.count_lt r most hmo
  have HCO : Hid (Wire.takeText r most = if (Wire.count r most).1.e ≠ 0 then ((Wire.count r most).1, []) else if (Wire.count r most).1.l.length < (Wire.count r most).2 then (⟨r.l, 10⟩, [])
      else (⟨(Wire.count r most).1.l.drop (Wire.count r most).2, 0⟩, (Wire.count r most).1.l.take (Wire.count r most).2)) := rfl
  have HC := Lib.hid (fun w => refcount_any w r most hmo hl)
  have hle : (Wire.count r most).1.l.length ≤ 1000000 := by
    have := Wire.take_len r
    unfold Wire.count
    split
    · exact Nat.le_trans this hl
    · split
      · exact hl
      · exact Nat.le_trans this hl
  obtain ⟨⟨⟨l1, e1⟩, n⟩, hx⟩ : ∃ x, Wire.count r most = x := ⟨_, rfl⟩
  rw [hx] at hnb HCO HC hle
  clear hx
  simp only at hnb HCO hle
  unfold rv txt at HC
  unfold rv txt
  go_enter Tryd.func54, Tryd.ntmps54
  go_wp2_with fail
  refine (HC.out _).mono ?_
  rintro e w1 ⟨rfl, hb⟩
  obtain ⟨c0, c1, c2, c3, f0, f1, f2, f3, z0, z1, hB⟩ := two_cells hb
  clear hb
  have HBB := Lib.hid hB
  clear hB
  by_cases he : e1 = 0
  · have heb : (e1 != 0) = false := by simpa using he
    have HE := Lib.hid he
    clear he
    by_cases hm : l1.length < n
    · have hm2 : (l1.length : Int) < (n : Int) := by omega
      go_wp2_with fail
      refine ret_rv2 rfl rfl rfl rfl (by go_simp; all_goals rfl) (by go_simp; all_goals rfl) ?_
      rw [HCO.out, if_neg (by simpa using HE.out), if_pos hm]
      exact ⟨rfl, below_res HBB.out _ _ _⟩
    · have hm2 : ¬ (l1.length : Int) < (n : Int) := by omega
      have HD := Lib.hid (wcut_end l1 n)
      have HH := Lib.hid (wcut_head l1 n)
      go_wp2_with fail
      have hm3 : (n : Int) ≤ (l1.length : Int) := by omega
      have hm4 : n ≤ l1.length := by omega
      go_region
      all_goals go_wp2_with fail
      refine ret_rv2 rfl rfl rfl rfl (by go_simp; all_goals rfl) (by go_simp; all_goals rfl) ?_
      rw [HCO.out, if_neg (by simpa using HE.out), if_neg hm, HD.out, HH.out]
      first
        | exact ⟨rfl, (below_res HBB.out _ _ _).drew⟩
        | exact ⟨rfl, below_res HBB.out _ _ _⟩
  · have heb : (e1 != 0) = true := by simpa using he
    have HE := Lib.hid he
    clear he
    go_wp2_with fail
    refine ret_rv2 rfl rfl rfl rfl (by go_simp; all_goals rfl) (by go_simp; all_goals rfl) ?_
    rw [HCO.out, if_pos HE.out]
    exact ⟨rfl, below_res HBB.out _ _ _⟩
end Go.Proofs.YtknfnhmkiooifaaDoor
end

section
/-
  The document's answer for a row that is all of some bytes.
-/
namespace Go.Proofs.YtknfnhmkiooifaaDoor
set_option linter.unusedSimpArgs false
set_option linter.unusedVariables false
open Go.RowKit

def Wire.RS.cells (r : Wire.RS) : List Value := [txt r.l, .int .i64 r.e]
theorem rs_one (r : Wire.RS) : ∀ u ∈ r.cells, u.oneCell' = true := by
  intro u hu
  simp [Wire.RS.cells] at hu
  rcases hu with rfl | rfl <;> rfl
theorem rs_zero (W : World) : (zeroValue 82).run Tryd.prog W = .ok (rv ⟨[], 0⟩) W := (zero_of_info (P := Tryd.prog) (t := 82) (v := rv ⟨[], 0⟩) (n := 2) (by kernel_rfl)).1 W
theorem rs_info : (Tryd.prog.info? 82).map (·.size) = some 2 := by kernel_rfl
section
variable {w : World} {ops : Array Oper} {rest : List Oper} {o : Oper} {a : Act} {Q : Exit → Act → World → Prop}
theorem wpList_alloc_rs (hgd : o.guard = none) (hop : o.op = .alloc 82)
    (h : ∀ W, Blk W w.heap.size 82 (Wire.RS.cells ⟨[], 0⟩) → w.heap.size + 1 ≤ W.heap.size → Below w.heap.size w W → wpList Tryd.prog ops Q rest (a.put o.dst (.pointer (some ⟨w.heap.size, 0, none⟩))) W) : wpList Tryd.prog ops Q (o :: rest) a w :=
  wpList_alloc_z hgd 82 hop (rs_zero _) fun W hW => by
    obtain ⟨h1, h2, h3⟩ := fresh1 (a := Wire.RS.cells ⟨[], 0⟩) hW
    exact h W h1 h2 h3
theorem wpList_store_rs (hgd : o.guard = none) (hod : o.dst = none) (x y : Operand) (hop : o.op = .store 82 x y) (g : Nat) (hx : a.eval x = .pointer (some ⟨g, 0, none⟩)) (b : Wire.RS) (hy : a.eval y = rv b) {T0 : TypeId} {old : Wire.RS} (hb : Blk w g T0 old.cells)
    (h : ∀ W, Blk W g T0 b.cells → w.grownBy W (some g) → wpList Tryd.prog ops Q rest a W) : wpList Tryd.prog ops Q (o :: rest) a w :=
  wpList_store_blk hgd hod 82 x y hop g hx b.cells hy hb rfl rs_info (rs_one b) h
theorem wpList_load_rs (hgd : o.guard = none) (x : Operand) (hop : o.op = .load 82 x) (g : Nat) (hx : a.eval x = .pointer (some ⟨g, 0, none⟩)) {T0 : TypeId} {b : Wire.RS} (hb : Blk w g T0 b.cells)
    (h : wpList Tryd.prog ops Q rest (a.put o.dst (rv b)) w) : wpList Tryd.prog ops Q (o :: rest) a w :=
  wpList_load_mid hgd 82 x hop g 0 hx b.cells _ (hb.range 0 b.cells fun j _ => by rw [Nat.zero_add]) Tryd.underlying82 rfl rs_info h
end
namespace Key
/-- The next value of a row, as the document reads it: the reader behind it, the value. -/
def oneD (r : Wire.RS) : Wire.RS × Va :=
  if (Wire.count r 4).2 = 1 then ((Wire.takeInt (Wire.count r 4).1).1, ⟨1, (Wire.takeInt (Wire.count r 4).1).2, 0, []⟩) else
  if (Wire.count r 4).2 = 2 then
    (if (Wire.take (Wire.count r 4).1).1.e = 0 ∧ pbits (real0 (kback (Wire.take (Wire.count r 4).1).2)) ≠ (Wire.take (Wire.count r 4).1).2 then ⟨(Wire.take (Wire.count r 4).1).1.l, 7⟩ else (Wire.take (Wire.count r 4).1).1,
      ⟨2, 0, real0 (kback (Wire.take (Wire.count r 4).1).2), []⟩) else
  if (Wire.count r 4).2 = 3 then ((Wire.takeText (Wire.count r 4).1 512).1, ⟨3, 0, 0, (Wire.takeText (Wire.count r 4).1 512).2⟩) else
  if (Wire.count r 4).2 = 4 then ((Wire.takeBool (Wire.count r 4).1).1, ⟨4, if (Wire.takeBool (Wire.count r 4).1).2 then 1 else 0, 0, []⟩) else
  ((Wire.count r 4).1, ⟨((Wire.count r 4).2 : Nat), 0, 0, []⟩)
/-- So many values of a row, as the document reads them. -/
def rowsD : Nat → List Va → Wire.RS → List Va × Wire.RS
  | 0, acc, r => (acc, r)
  | n + 1, acc, r => if r.e ≠ 0 then (acc, r) else rowsD n (acc ++ [(oneD r).2]) (oneD r).1
def readRowD (l : List UInt8) : List Va × Int :=
  if (Wire.fin (rowsD (Wire.count ⟨l, 0⟩ 512).2 [] (Wire.count ⟨l, 0⟩ 512).1).2).e ≠ 0 then ([], (Wire.fin (rowsD (Wire.count ⟨l, 0⟩ 512).2 [] (Wire.count ⟨l, 0⟩ 512).1).2).e) else
  ((rowsD (Wire.count ⟨l, 0⟩ 512).2 [] (Wire.count ⟨l, 0⟩ 512).1).1, 0)
theorem oneD_len (r : Wire.RS) : (oneD r).1.l.length ≤ r.l.length := by
  have h1 := count_len r 4
  have h2 := take_len' (Wire.count r 4).1
  have h3 := takeText_len (Wire.count r 4).1 512
  have h4 := takeBool_len (Wire.count r 4).1
  unfold oneD Wire.takeInt
  (repeat' split) <;> simp only <;> omega
end Key
set_option maxRecDepth 100000 in
set_option maxHeartbeats 16000000 in
theorem refreadrow8_any (w : World) (l : List UInt8) (hm : l.length ≤ 1000000) : Calls Tryd.prog 25 #[txt l] w (RetRR w (Key.readRowD l)) := by
  unfold txt
  go_enter Tryd.func25, Tryd.ntmps25
  go_wp2_with fail
  refine (refcount_any _ ⟨l, 0⟩ 512 (by decide) hm).mono ?_
  rintro e W2 ⟨rfl, hB2⟩
  have hcl := count_len ⟨l, 0⟩ 512
  have hcm := Wire.count_most ⟨l, 0⟩ 512
  have HQ : Hid (∀ n r0, Wire.count ⟨l, 0⟩ 512 = (r0, n) → Key.readRowD l =
      if (Wire.fin (Key.rowsD n [] r0).2).e ≠ 0 then ([], (Wire.fin (Key.rowsD n [] r0).2).e) else ((Key.rowsD n [] r0).1, 0)) := by
    intro n r0 e
    unfold Key.readRowD
    rw [e]
  have hlm : (Wire.count ⟨l, 0⟩ 512).1.l.length ≤ 1000000 := Nat.le_trans hcl hm
  have hcm' : (Wire.count ⟨l, 0⟩ 512).2 ≤ 512 := hcm
  clear hcl hcm
  generalize Wire.count ⟨l, 0⟩ 512 = q at HQ hlm hcm' ⊢
  obtain ⟨r0, n⟩ := q
  have HQ2 := Lib.hid (HQ.out n r0 rfl)
  have hn : n ≤ 512 := hcm'
  have hl0 : r0.l.length ≤ 1000000 := hlm
  clear HQ hlm hcm'
  dsimp only
  go_wp2_with (first | (refine wpList_alloc_rs rfl rfl ?_; intro W3 hb3 hz3 hB3) | (refine wpList_store_rs rfl rfl (.tmp 4) (.tmp 19) rfl W2.heap.size rfl r0 rfl hb3 ?_; intro W4 hb4 hg4))
  have HB4 : Hid (Below w.heap.size w W4) := below_of_grown (Lib.hid (hB2.then hB3)).out hg4 hB2.size (Nat.le_trans hB2.size hB3.size)
  have hgr : w.heap.size ≤ W2.heap.size := hB2.size
  clear hB2 hB3 hg4 hb3 hz3
  generalize W2.heap.size = gr at hb4 hgr ⊢
  clear W2 W3
  go_loopw [6, 7] (fun ov iv wr => ∃ (k : Nat) (acc : List Va) (r' : Wire.RS) (A1 : Option Addr) (c1 : Nat), k ≤ n ∧ iv = .int .i64 (k : Int) ∧ r'.l.length ≤ 1000000 ∧ acc.length ≤ k ∧ ov = .slice A1 acc.length c1 ∧ Hid (Key.rowsD n [] r0 = Key.rowsD (n - k) acc r' ∧ Blk wr gr 82 r'.cells ∧ EOwn eVa wr (gr + 1) A1 c1 acc ∧ Below w.heap.size w wr)) (fun _ iv _ => n - (intOf iv).toNat)
  case atStart => exact ⟨0, [], r0, none, 0, Nat.zero_le _, rfl, hl0, by simp, rfl, rfl, hb4, EOwn.nil _ _, HB4.out⟩
  case round =>
    obtain ⟨k, acc, r', A1, c1, hk, rfl, hl', hak, rfl, HJ⟩ := hrel
    clear hb4 HB4
    have hkr := HJ.out.2.1
    obtain ⟨e0, e1, f0, f1, hgl⟩ := Blk.c2 hkr
    by_cases hlt : k < n
    · have hii : (k : Int) < (n : Int) := by omega
      by_cases he : r'.e = 0
      · have HS : Hid (Key.rowsD n [] r0 = Key.rowsD (n - (k + 1)) (acc ++ [(Key.oneD r').2]) (Key.oneD r').1) := by
          show _ = _
          rw [HJ.out.1, show n - k = (n - (k + 1)) + 1 from by omega]
          show (if r'.e ≠ 0 then _ else _) = _
          rw [if_neg (by simpa using he)]
        have hol := Nat.le_trans (Key.oneD_len r') hl'
        rw [he] at e1
        go_upto_region 6 with fail
        clear e0 e1 f0 f1 he
        go_wp2_with (refine wpList_load_rs rfl (.tmp 4) rfl gr rfl hkr ?_)
        refine (refcount_any _ r' 4 (by decide) hl').mono ?_
        rintro e W2 ⟨rfl, hB2⟩
        have hcl := count_len r' 4
        have hcm := Wire.count_most r' 4
        have HQ : Hid (∀ k2 kd, Wire.count r' 4 = (k2, kd) → Key.oneD r' = if kd = 1 then ((Wire.takeInt k2).1, ⟨1, (Wire.takeInt k2).2, 0, []⟩) else if kd = 2 then
            (if (Wire.take k2).1.e = 0 ∧ Key.pbits (Key.real0 (Key.kback (Wire.take k2).2)) ≠ (Wire.take k2).2 then ⟨(Wire.take k2).1.l, 7⟩ else (Wire.take k2).1, ⟨2, 0, Key.real0 (Key.kback (Wire.take k2).2), []⟩) else
            if kd = 3 then ((Wire.takeText k2 512).1, ⟨3, 0, 0, (Wire.takeText k2 512).2⟩) else if kd = 4 then ((Wire.takeBool k2).1, ⟨4, if (Wire.takeBool k2).2 then 1 else 0, 0, []⟩) else (k2, ⟨(kd : Nat), 0, 0, []⟩)) := by
          intro k2 kd e
          unfold Key.oneD
          rw [e]
        have hcl2 : (Wire.count r' 4).1.l.length ≤ 1000000 := Nat.le_trans hcl hl'
        have hcm2 : (Wire.count r' 4).2 ≤ 4 := hcm
        clear hcl hcm
        generalize Wire.count r' 4 = q at HQ hcl2 hcm2 ⊢
        obtain ⟨k2, kd⟩ := q
        have HQO := Lib.hid (HQ.out k2 kd rfl)
        have hkl : k2.l.length ≤ 1000000 := hcl2
        have hkd : kd ≤ 4 := hcm2
        clear HQ hcl2 hcm2
        dsimp only
        go_upto_region 7 with (first | (refine wpList_alloc_rs rfl rfl ?_; intro W3 hb3 hz3 hB3) | (refine wpList_store_rs rfl rfl (.tmp 8) (.tmp 34) rfl W2.heap.size rfl k2 rfl hb3 ?_; intro W4 hb4 hg4))
        have HB4 : Hid (Below wr.heap.size wr W4) := below_of_grown (hB2.then hB3) hg4 hB2.size (Nat.le_trans hB2.size hB3.size)
        have hgk : wr.heap.size ≤ W2.heap.size := hB2.size
        have hz4 := hg4.size
        clear hB2 hB3 hg4 hb3
        generalize W2.heap.size = gk at hb4 hgk hz3 ⊢
        go_upto_region 9 with (first | (refine wpList_alloc_va rfl rfl ?_; intro W5 hb5 hz5 hB5) | (refine wpList_store_va rfl rfl (.tmp 10) (.tmp 37) rfl W4.heap.size rfl ⟨(kd : Nat), 0, 0, []⟩ rfl hb5 ?_; intro W6 hb6 hg6))
        have HB6 : Hid (Below wr.heap.size wr W6) := below_of_grown (HB4.out.then hB5) hg6 HB4.out.size (Nat.le_trans HB4.out.size hB5.size)
        have hk6 := (hb4.below hB5).grown hg6 (by simp; omega)
        have hgv : gk < W4.heap.size := by omega
        have hgv2 : wr.heap.size ≤ W4.heap.size := HB4.out.size
        clear hB5 hg6 hb5 hb4 HB4 hz5 hz4 hz3
        generalize W4.heap.size = gv at hb6 hgv hgv2 ⊢
        clear W2 W3 W4 W5
        rcases (show kd = 0 ∨ kd = 1 ∨ kd = 2 ∨ kd = 3 ∨ kd = 4 by omega) with rfl | rfl | rfl | rfl | rfl
        · have HO : Hid (Key.oneD r' = (k2, ⟨0, 0, 0, []⟩)) := by show _ = _; rw [HQO.out]; rfl
          rw [HO.out] at hol HS
          clear HQO HO
          have HS2 := HS
          have hl8 : k2.l.length ≤ 1000000 := hkl
          have HW := HB6
          have hkk := hk6
          have hkv : Blk W6 gv 27 (Va.cells ⟨0, 0, 0, []⟩) := hb6
          clear HS HB6 hk6 hb6
          -- (⟨0, 0, 0, []⟩ : Va): the value, k2: the reader behind it; HW : Below wr.heap.size wr W, hkk, hkv : its blocks in the last world
          go_upto_region 25 with (first | (refine wpList_load_rs rfl (.tmp 8) rfl gk rfl hkk ?_) | (refine wpList_store_rs rfl rfl (.tmp 4) (.tmp 85) rfl gr rfl k2 rfl (HJ.out.2.1.below HW.out) ?_; intro W8 hb8 hg8))
          have hv8 := hkv.grown hg8 (by simp; omega)
          have H8 := Lib.hid (And.intro (((HJ.out.2.2.1.below HW.out)).keptG (HJ.out.2.1.below HW.out) (by decide) hg8) (below_of_grown (HJ.out.2.2.2.then HW.out) hg8 (by omega) (Nat.le_trans HJ.out.2.2.2.size HW.out.size)))
          clear hkk hkv hg8 HW
          have H9 := Lib.hid (And.intro (H8.out.1.alloc (.cells (Va.cells (⟨0, 0, 0, []⟩ : Va)).toArray 27)) (And.intro (ERow.lit eVa W8 (⟨0, 0, 0, []⟩ : Va) (Va.cells (⟨0, 0, 0, []⟩ : Va)).toArray rfl W8.heap.size rfl) (H8.out.2.then (Below.alloc1 W8 (.cells (Va.cells (⟨0, 0, 0, []⟩ : Va)).toArray 27)))))
          have hb9 := Lib.hid (hb8.alloc (.cells (Va.cells (⟨0, 0, 0, []⟩ : Va)).toArray 27))
          clear hb8
          go_wp2_with (first | (refine wpList_load_va rfl (.tmp 10) rfl gv rfl hv8 ?_; unfold Va.v) | (at_builtin; refine wpList_append_elems eVa rfl (.tmp 86) (.tmp 88) rfl _ rfl H9.out.1 rfl _ rfl H9.out.2.1 rfl (by simp; omega) hb9.out.lt ?_; intro A6 c6 W6 ho6 hb6 hg6 _))
          have H6 := Lib.hid (And.intro (hb9.out.grown hg6 (H9.out.1.not_at (by omega))) (And.intro ho6 (H9.out.2.2.trans (hb6.mono (by omega)))))
          clear ho6 hb6 hg6 H9 hb9 hv8
          have HAL : Hid ((acc ++ [(⟨0, 0, 0, []⟩ : Va)]).length = acc.length + 1) := by show _ = _; simp
          go_roundw
          case rel => exact ⟨k + 1, acc ++ [(⟨0, 0, 0, []⟩ : Va)], k2, A6, c6, by omega, by go_num, hl8, by rw [HAL.out]; omega, by rw [HAL.out], HS2.out, H6.out⟩
          case measure => simp [intOf]; omega
        · have HO : Hid (Key.oneD r' = ((Wire.takeInt k2).1, ⟨1, (Wire.takeInt k2).2, 0, []⟩)) := by show _ = _; rw [HQO.out]; rfl
          rw [HO.out] at hol HS
          clear HQO HO
          go_wp2_with (refine wpList_load_rs rfl (.tmp 8) rfl gk rfl hk6 ?_)
          refine (reftakeint_any _ k2 hkl).mono ?_
          rintro e W7 ⟨rfl, hB7⟩
          generalize Wire.takeInt k2 = q at HS hol ⊢
          obtain ⟨k3, x⟩ := q
          have HS2 : Hid (Key.rowsD n [] r0 = Key.rowsD (n - (k + 1)) (acc ++ [⟨1, x, 0, []⟩]) k3) := HS.out
          have hl8 : k3.l.length ≤ 1000000 := hol
          clear HS hol
          dsimp only
          have hv7 := hb6.below hB7
          have hzk := hk6.lt
          go_upto_region 24 with (first | (refine wpList_store_rs rfl rfl (.tmp 8) (.tmp 44) rfl gk rfl k3 rfl (hk6.below hB7) ?_; intro Wa hb8 hg8; have hv8 := hv7.grown hg8 (by simp; omega); obtain ⟨-, v1, -, -, -, w1, -, -, -⟩ := Blk.c4 hv8))
          have hkv : Blk (World.setCell Wa ⟨gv, 1, none⟩ (.int .i64 x)) gv 27 (Va.cells ⟨1, x, 0, []⟩) := hv8.set1
          have hkk := hb8.other ⟨gv, 1, none⟩ (by show gk ≠ gv; omega) (.int .i64 x)
          have HW : Hid (Below wr.heap.size wr (World.setCell Wa ⟨gv, 1, none⟩ (.int .i64 x))) := (below_of_grown (HB6.out.then hB7) hg8 hgk (by have := HB6.out.size; have := hB7.size; omega)).setCell (p := ⟨gv, 1, none⟩) hgv2 _
          clear hv8 hb8 v1 w1 hg8 hB7 HB6 hk6 hb6 hv7
          generalize World.setCell Wa _ _ = Wb at hkv hkk HW ⊢
          -- (⟨1, x, 0, []⟩ : Va): the value, k3: the reader behind it; HW : Below wr.heap.size wr W, hkk, hkv : its blocks in the last world
          go_upto_region 25 with (first | (refine wpList_load_rs rfl (.tmp 8) rfl gk rfl hkk ?_) | (refine wpList_store_rs rfl rfl (.tmp 4) (.tmp 85) rfl gr rfl k3 rfl (HJ.out.2.1.below HW.out) ?_; intro W8 hb8 hg8))
          have hv8 := hkv.grown hg8 (by simp; omega)
          have H8 := Lib.hid (And.intro (((HJ.out.2.2.1.below HW.out)).keptG (HJ.out.2.1.below HW.out) (by decide) hg8) (below_of_grown (HJ.out.2.2.2.then HW.out) hg8 (by omega) (Nat.le_trans HJ.out.2.2.2.size HW.out.size)))
          clear hkk hkv hg8 HW
          have H9 := Lib.hid (And.intro (H8.out.1.alloc (.cells (Va.cells (⟨1, x, 0, []⟩ : Va)).toArray 27)) (And.intro (ERow.lit eVa W8 (⟨1, x, 0, []⟩ : Va) (Va.cells (⟨1, x, 0, []⟩ : Va)).toArray rfl W8.heap.size rfl) (H8.out.2.then (Below.alloc1 W8 (.cells (Va.cells (⟨1, x, 0, []⟩ : Va)).toArray 27)))))
          have hb9 := Lib.hid (hb8.alloc (.cells (Va.cells (⟨1, x, 0, []⟩ : Va)).toArray 27))
          clear hb8
          go_wp2_with (first | (refine wpList_load_va rfl (.tmp 10) rfl gv rfl hv8 ?_; unfold Va.v) | (at_builtin; refine wpList_append_elems eVa rfl (.tmp 86) (.tmp 88) rfl _ rfl H9.out.1 rfl _ rfl H9.out.2.1 rfl (by simp; omega) hb9.out.lt ?_; intro A6 c6 W6 ho6 hb6 hg6 _))
          have H6 := Lib.hid (And.intro (hb9.out.grown hg6 (H9.out.1.not_at (by omega))) (And.intro ho6 (H9.out.2.2.trans (hb6.mono (by omega)))))
          clear ho6 hb6 hg6 H9 hb9 hv8
          have HAL : Hid ((acc ++ [(⟨1, x, 0, []⟩ : Va)]).length = acc.length + 1) := by show _ = _; simp
          go_roundw
          case rel => exact ⟨k + 1, acc ++ [(⟨1, x, 0, []⟩ : Va)], k3, A6, c6, by omega, by go_num, hl8, by rw [HAL.out]; omega, by rw [HAL.out], HS2.out, H6.out⟩
          case measure => simp [intOf]; omega
        · have HO : Hid (Key.oneD r' = (if (Wire.take k2).1.e = 0 ∧ Key.pbits (Key.real0 (Key.kback (Wire.take k2).2)) ≠ (Wire.take k2).2 then ⟨(Wire.take k2).1.l, 7⟩ else (Wire.take k2).1, ⟨2, 0, Key.real0 (Key.kback (Wire.take k2).2), []⟩)) := by show _ = _; rw [HQO.out]; rfl
          have hol3 := Nat.le_trans (take_len' k2) hkl
          have htl := Wire.take_lt k2
          rw [HO.out] at HS
          clear HQO HO hol
          go_wp2_with (refine wpList_load_rs rfl (.tmp 8) rfl gk rfl hk6 ?_)
          refine (reftake_any _ k2 hkl).mono ?_
          rintro e W7 ⟨rfl, hB7⟩
          generalize Wire.take k2 = q at HS hol3 htl ⊢
          obtain ⟨k3, m⟩ := q
          have HS3 : Hid (Key.rowsD n [] r0 = Key.rowsD (n - (k + 1)) (acc ++ [⟨2, 0, Key.real0 (Key.kback m), []⟩]) (if k3.e = 0 ∧ Key.pbits (Key.real0 (Key.kback m)) ≠ m then ⟨k3.l, 7⟩ else k3)) := HS.out
          have hl3 : k3.l.length ≤ 1000000 := hol3
          have hmm : m < two64 := htl
          clear HS hol3 htl
          dsimp only
          have hv7 := hb6.below hB7
          have hzk := hk6.lt
          go_wp2_with (first | (refine wpList_store_rs rfl rfl (.tmp 8) (.tmp 52) rfl gk rfl k3 rfl (hk6.below hB7) ?_; intro Wa hb8 hg8))
          refine (refreal8_any _ m hmm).mono ?_
          rintro e Wc ⟨rfl, hBc⟩
          generalize Key.real0 (Key.kback m) = f at HS3 ⊢
          have hva := (hv7.grown hg8 (by simp; omega)).below hBc
          have hka := hb8.below hBc
          have HBa : Hid (Below wr.heap.size wr Wc) := (below_of_grown (HB6.out.then hB7) hg8 hgk (by have := HB6.out.size; have := hB7.size; omega)).trans (hBc.mono (by have := HB6.out.size; have := hB7.size; have := hg8.size; omega))
          have hzv := hva.lt
          clear hb8 hg8 hBc hB7 hk6 hb6 hv7 HB6 hmm hzk
          go_upto_region 15 with (first | (refine wpList_alloc_va rfl rfl ?_; intro Wd hbd hzd hBd) | (refine wpList_store_va rfl rfl (.tmp 12) (.tmp 57) rfl Wc.heap.size rfl ⟨2, 0, f, []⟩ rfl hbd ?_; intro We hbe hge))
          have HBe : Hid (Below wr.heap.size wr We) := below_of_grown (HBa.out.then hBd) hge HBa.out.size (Nat.le_trans HBa.out.size hBd.size)
          have hke := (hka.below hBd).grown hge (by simp; omega)
          have hve := (hva.below hBd).grown hge (by simp; omega)
          clear hBd hge hka hva hbd HBa hzd
          generalize Wc.heap.size = gx at hbe hzv ⊢
          obtain ⟨-, u1, -, x1, hzk⟩ := Blk.c2 hke
          by_cases he3 : k3.e = 0
          · by_cases hpm : Key.pbits f = m
            · have HS2 : Hid (Key.rowsD n [] r0 = Key.rowsD (n - (k + 1)) (acc ++ [⟨2, 0, f, []⟩]) k3) := by show _ = _; rw [HS3.out, if_neg (fun h => h.2 hpm)]
              have hdp : decide (Key.pbits f = m) = true := decide_eq_true hpm
              rw [hdp]
              rw [he3] at u1
              clear HS3 he3 hpm hdp
              have hkk := hke
              have HW := HBe
              have hl8 := hl3
              go_upto_region 24 with (first | (refine wpList_load_va rfl (.tmp 12) rfl gx rfl hbe ?_) | (refine wpList_store_va rfl rfl (.tmp 10) (.tmp 67) rfl gv rfl ⟨2, 0, f, []⟩ rfl hve ?_; intro Wf hkv hgf))
              have hkk := hkk.grown hgf (by simp; omega)
              have HW := Lib.hid (below_of_grown HW.out hgf hgv2 HW.out.size)
              clear hgf
              -- (⟨2, 0, f, []⟩ : Va): the value, k3: the reader behind it; HW : Below wr.heap.size wr W, hkk, hkv : its blocks in the last world
              go_upto_region 25 with (first | (refine wpList_load_rs rfl (.tmp 8) rfl gk rfl hkk ?_) | (refine wpList_store_rs rfl rfl (.tmp 4) (.tmp 85) rfl gr rfl k3 rfl (HJ.out.2.1.below HW.out) ?_; intro W8 hb8 hg8))
              have hv8 := hkv.grown hg8 (by simp; omega)
              have H8 := Lib.hid (And.intro (((HJ.out.2.2.1.below HW.out)).keptG (HJ.out.2.1.below HW.out) (by decide) hg8) (below_of_grown (HJ.out.2.2.2.then HW.out) hg8 (by omega) (Nat.le_trans HJ.out.2.2.2.size HW.out.size)))
              clear hkk hkv hg8 HW
              have H9 := Lib.hid (And.intro (H8.out.1.alloc (.cells (Va.cells (⟨2, 0, f, []⟩ : Va)).toArray 27)) (And.intro (ERow.lit eVa W8 (⟨2, 0, f, []⟩ : Va) (Va.cells (⟨2, 0, f, []⟩ : Va)).toArray rfl W8.heap.size rfl) (H8.out.2.then (Below.alloc1 W8 (.cells (Va.cells (⟨2, 0, f, []⟩ : Va)).toArray 27)))))
              have hb9 := Lib.hid (hb8.alloc (.cells (Va.cells (⟨2, 0, f, []⟩ : Va)).toArray 27))
              clear hb8
              go_wp2_with (first | (refine wpList_load_va rfl (.tmp 10) rfl gv rfl hv8 ?_; unfold Va.v) | (at_builtin; refine wpList_append_elems eVa rfl (.tmp 86) (.tmp 88) rfl _ rfl H9.out.1 rfl _ rfl H9.out.2.1 rfl (by simp; omega) hb9.out.lt ?_; intro A6 c6 W6 ho6 hb6 hg6 _))
              have H6 := Lib.hid (And.intro (hb9.out.grown hg6 (H9.out.1.not_at (by omega))) (And.intro ho6 (H9.out.2.2.trans (hb6.mono (by omega)))))
              clear ho6 hb6 hg6 H9 hb9 hv8
              have HAL : Hid ((acc ++ [(⟨2, 0, f, []⟩ : Va)]).length = acc.length + 1) := by show _ = _; simp
              go_roundw
              case rel => exact ⟨k + 1, acc ++ [(⟨2, 0, f, []⟩ : Va)], k3, A6, c6, by omega, by go_num, hl8, by rw [HAL.out]; omega, by rw [HAL.out], HS2.out, H6.out⟩
              case measure => simp [intOf]; omega
            · have HS2 : Hid (Key.rowsD n [] r0 = Key.rowsD (n - (k + 1)) (acc ++ [⟨2, 0, f, []⟩]) ⟨k3.l, 7⟩) := by show _ = _; rw [HS3.out, if_pos ⟨he3, hpm⟩]
              have hdp : decide (Key.pbits f = m) = false := decide_eq_false hpm
              rw [hdp]
              rw [he3] at u1
              clear HS3 he3 hpm hdp
              go_upto_region 17 with fail
              have hkk : Blk (World.setCell We ⟨gk, 1, none⟩ (.int .i64 7)) gk 82 (Wire.RS.cells ⟨k3.l, 7⟩) := hke.set1
              have hbf := hbe.other ⟨gk, 1, none⟩ (by show gx ≠ gk; omega) (.int .i64 7)
              have hvf := hve.other ⟨gk, 1, none⟩ (by show gv ≠ gk; omega) (.int .i64 7)
              have HW : Hid (Below wr.heap.size wr (World.setCell We ⟨gk, 1, none⟩ (.int .i64 7))) := HBe.out.setCell (p := ⟨gk, 1, none⟩) hgk _
              have hl8 : (⟨k3.l, 7⟩ : Wire.RS).l.length ≤ 1000000 := hl3
              clear hke hbe hve HBe u1 x1
              generalize World.setCell We _ _ = Wb at hkk hbf hvf HW ⊢
              go_upto_region 24 with (first | (refine wpList_load_va rfl (.tmp 12) rfl gx rfl hbf ?_) | (refine wpList_store_va rfl rfl (.tmp 10) (.tmp 67) rfl gv rfl ⟨2, 0, f, []⟩ rfl hvf ?_; intro Wf hkv hgf))
              have hkk := hkk.grown hgf (by simp; omega)
              have HW := Lib.hid (below_of_grown HW.out hgf hgv2 HW.out.size)
              clear hgf
              -- (⟨2, 0, f, []⟩ : Va): the value, (⟨k3.l, 7⟩ : Wire.RS): the reader behind it; HW : Below wr.heap.size wr W, hkk, hkv : its blocks in the last world
              go_upto_region 25 with (first | (refine wpList_load_rs rfl (.tmp 8) rfl gk rfl hkk ?_) | (refine wpList_store_rs rfl rfl (.tmp 4) (.tmp 85) rfl gr rfl (⟨k3.l, 7⟩ : Wire.RS) rfl (HJ.out.2.1.below HW.out) ?_; intro W8 hb8 hg8))
              have hv8 := hkv.grown hg8 (by simp; omega)
              have H8 := Lib.hid (And.intro (((HJ.out.2.2.1.below HW.out)).keptG (HJ.out.2.1.below HW.out) (by decide) hg8) (below_of_grown (HJ.out.2.2.2.then HW.out) hg8 (by omega) (Nat.le_trans HJ.out.2.2.2.size HW.out.size)))
              clear hkk hkv hg8 HW
              have H9 := Lib.hid (And.intro (H8.out.1.alloc (.cells (Va.cells (⟨2, 0, f, []⟩ : Va)).toArray 27)) (And.intro (ERow.lit eVa W8 (⟨2, 0, f, []⟩ : Va) (Va.cells (⟨2, 0, f, []⟩ : Va)).toArray rfl W8.heap.size rfl) (H8.out.2.then (Below.alloc1 W8 (.cells (Va.cells (⟨2, 0, f, []⟩ : Va)).toArray 27)))))
              have hb9 := Lib.hid (hb8.alloc (.cells (Va.cells (⟨2, 0, f, []⟩ : Va)).toArray 27))
              clear hb8
              go_wp2_with (first | (refine wpList_load_va rfl (.tmp 10) rfl gv rfl hv8 ?_; unfold Va.v) | (at_builtin; refine wpList_append_elems eVa rfl (.tmp 86) (.tmp 88) rfl _ rfl H9.out.1 rfl _ rfl H9.out.2.1 rfl (by simp; omega) hb9.out.lt ?_; intro A6 c6 W6 ho6 hb6 hg6 _))
              have H6 := Lib.hid (And.intro (hb9.out.grown hg6 (H9.out.1.not_at (by omega))) (And.intro ho6 (H9.out.2.2.trans (hb6.mono (by omega)))))
              clear ho6 hb6 hg6 H9 hb9 hv8
              have HAL : Hid ((acc ++ [(⟨2, 0, f, []⟩ : Va)]).length = acc.length + 1) := by show _ = _; simp
              go_roundw
              case rel => exact ⟨k + 1, acc ++ [(⟨2, 0, f, []⟩ : Va)], (⟨k3.l, 7⟩ : Wire.RS), A6, c6, by omega, by go_num, hl8, by rw [HAL.out]; omega, by rw [HAL.out], HS2.out, H6.out⟩
              case measure => simp [intOf]; omega
          · have HS2 : Hid (Key.rowsD n [] r0 = Key.rowsD (n - (k + 1)) (acc ++ [⟨2, 0, f, []⟩]) k3) := by show _ = _; rw [HS3.out, if_neg (fun h => he3 h.1)]
            have hne3 : (k3.e == 0) = false := by simp [he3]
            clear HS3 he3
            generalize decide (Key.pbits f = m) = bb
            have hkk := hke
            have HW := HBe
            have hl8 := hl3
            go_upto_region 24 with (first | (refine wpList_load_va rfl (.tmp 12) rfl gx rfl hbe ?_) | (refine wpList_store_va rfl rfl (.tmp 10) (.tmp 67) rfl gv rfl ⟨2, 0, f, []⟩ rfl hve ?_; intro Wf hkv hgf))
            have hkk := hkk.grown hgf (by simp; omega)
            have HW := Lib.hid (below_of_grown HW.out hgf hgv2 HW.out.size)
            clear hgf
            -- (⟨2, 0, f, []⟩ : Va): the value, k3: the reader behind it; HW : Below wr.heap.size wr W, hkk, hkv : its blocks in the last world
            go_upto_region 25 with (first | (refine wpList_load_rs rfl (.tmp 8) rfl gk rfl hkk ?_) | (refine wpList_store_rs rfl rfl (.tmp 4) (.tmp 85) rfl gr rfl k3 rfl (HJ.out.2.1.below HW.out) ?_; intro W8 hb8 hg8))
            have hv8 := hkv.grown hg8 (by simp; omega)
            have H8 := Lib.hid (And.intro (((HJ.out.2.2.1.below HW.out)).keptG (HJ.out.2.1.below HW.out) (by decide) hg8) (below_of_grown (HJ.out.2.2.2.then HW.out) hg8 (by omega) (Nat.le_trans HJ.out.2.2.2.size HW.out.size)))
            clear hkk hkv hg8 HW
            have H9 := Lib.hid (And.intro (H8.out.1.alloc (.cells (Va.cells (⟨2, 0, f, []⟩ : Va)).toArray 27)) (And.intro (ERow.lit eVa W8 (⟨2, 0, f, []⟩ : Va) (Va.cells (⟨2, 0, f, []⟩ : Va)).toArray rfl W8.heap.size rfl) (H8.out.2.then (Below.alloc1 W8 (.cells (Va.cells (⟨2, 0, f, []⟩ : Va)).toArray 27)))))
            have hb9 := Lib.hid (hb8.alloc (.cells (Va.cells (⟨2, 0, f, []⟩ : Va)).toArray 27))
            clear hb8
            go_wp2_with (first | (refine wpList_load_va rfl (.tmp 10) rfl gv rfl hv8 ?_; unfold Va.v) | (at_builtin; refine wpList_append_elems eVa rfl (.tmp 86) (.tmp 88) rfl _ rfl H9.out.1 rfl _ rfl H9.out.2.1 rfl (by simp; omega) hb9.out.lt ?_; intro A6 c6 W6 ho6 hb6 hg6 _))
            have H6 := Lib.hid (And.intro (hb9.out.grown hg6 (H9.out.1.not_at (by omega))) (And.intro ho6 (H9.out.2.2.trans (hb6.mono (by omega)))))
            clear ho6 hb6 hg6 H9 hb9 hv8
            have HAL : Hid ((acc ++ [(⟨2, 0, f, []⟩ : Va)]).length = acc.length + 1) := by show _ = _; simp
            go_roundw
            case rel => exact ⟨k + 1, acc ++ [(⟨2, 0, f, []⟩ : Va)], k3, A6, c6, by omega, by go_num, hl8, by rw [HAL.out]; omega, by rw [HAL.out], HS2.out, H6.out⟩
            case measure => simp [intOf]; omega
        · have HO : Hid (Key.oneD r' = ((Wire.takeText k2 512).1, ⟨3, 0, 0, (Wire.takeText k2 512).2⟩)) := by show _ = _; rw [HQO.out]; rfl
          rw [HO.out] at hol HS
          clear HQO HO
          go_wp2_with (refine wpList_load_rs rfl (.tmp 8) rfl gk rfl hk6 ?_)
          refine (reftaketext_any _ k2 512 (by decide) hkl).mono ?_
          rintro e W7 ⟨rfl, hB7⟩
          generalize Wire.takeText k2 512 = q at HS hol ⊢
          obtain ⟨k3, x⟩ := q
          have HS2 : Hid (Key.rowsD n [] r0 = Key.rowsD (n - (k + 1)) (acc ++ [⟨3, 0, 0, x⟩]) k3) := HS.out
          have hl8 : k3.l.length ≤ 1000000 := hol
          clear HS hol
          dsimp only
          unfold txt
          have hv7 := hb6.below hB7
          have hzk := hk6.lt
          go_upto_region 24 with (first | (refine wpList_store_rs rfl rfl (.tmp 8) (.tmp 73) rfl gk rfl k3 rfl (hk6.below hB7) ?_; intro Wa hb8 hg8; have hv8 := hv7.grown hg8 (by simp; omega); obtain ⟨-, -, -, v1, -, -, -, w1, -⟩ := Blk.c4 hv8))
          have hkv : Blk (World.setCell Wa ⟨gv, 3, none⟩ (.string ⟨x.toArray⟩)) gv 27 (Va.cells ⟨3, 0, 0, x⟩) := hv8.set3
          have hkk := hb8.other ⟨gv, 3, none⟩ (by show gk ≠ gv; omega) (.string ⟨x.toArray⟩)
          have HW : Hid (Below wr.heap.size wr (World.setCell Wa ⟨gv, 3, none⟩ (.string ⟨x.toArray⟩))) := (below_of_grown (HB6.out.then hB7) hg8 hgk (by have := HB6.out.size; have := hB7.size; omega)).setCell (p := ⟨gv, 3, none⟩) hgv2 _
          clear hv8 hb8 v1 w1 hg8 hB7 HB6 hk6 hb6 hv7
          generalize World.setCell Wa _ _ = Wb at hkv hkk HW ⊢
          -- (⟨3, 0, 0, x⟩ : Va): the value, k3: the reader behind it; HW : Below wr.heap.size wr W, hkk, hkv : its blocks in the last world
          go_upto_region 25 with (first | (refine wpList_load_rs rfl (.tmp 8) rfl gk rfl hkk ?_) | (refine wpList_store_rs rfl rfl (.tmp 4) (.tmp 85) rfl gr rfl k3 rfl (HJ.out.2.1.below HW.out) ?_; intro W8 hb8 hg8))
          have hv8 := hkv.grown hg8 (by simp; omega)
          have H8 := Lib.hid (And.intro (((HJ.out.2.2.1.below HW.out)).keptG (HJ.out.2.1.below HW.out) (by decide) hg8) (below_of_grown (HJ.out.2.2.2.then HW.out) hg8 (by omega) (Nat.le_trans HJ.out.2.2.2.size HW.out.size)))
          clear hkk hkv hg8 HW
          have H9 := Lib.hid (And.intro (H8.out.1.alloc (.cells (Va.cells (⟨3, 0, 0, x⟩ : Va)).toArray 27)) (And.intro (ERow.lit eVa W8 (⟨3, 0, 0, x⟩ : Va) (Va.cells (⟨3, 0, 0, x⟩ : Va)).toArray rfl W8.heap.size rfl) (H8.out.2.then (Below.alloc1 W8 (.cells (Va.cells (⟨3, 0, 0, x⟩ : Va)).toArray 27)))))
          have hb9 := Lib.hid (hb8.alloc (.cells (Va.cells (⟨3, 0, 0, x⟩ : Va)).toArray 27))
          clear hb8
          go_wp2_with (first | (refine wpList_load_va rfl (.tmp 10) rfl gv rfl hv8 ?_; unfold Va.v) | (at_builtin; refine wpList_append_elems eVa rfl (.tmp 86) (.tmp 88) rfl _ rfl H9.out.1 rfl _ rfl H9.out.2.1 rfl (by simp; omega) hb9.out.lt ?_; intro A6 c6 W6 ho6 hb6 hg6 _))
          have H6 := Lib.hid (And.intro (hb9.out.grown hg6 (H9.out.1.not_at (by omega))) (And.intro ho6 (H9.out.2.2.trans (hb6.mono (by omega)))))
          clear ho6 hb6 hg6 H9 hb9 hv8
          have HAL : Hid ((acc ++ [(⟨3, 0, 0, x⟩ : Va)]).length = acc.length + 1) := by show _ = _; simp
          go_roundw
          case rel => exact ⟨k + 1, acc ++ [(⟨3, 0, 0, x⟩ : Va)], k3, A6, c6, by omega, by go_num, hl8, by rw [HAL.out]; omega, by rw [HAL.out], HS2.out, H6.out⟩
          case measure => simp [intOf]; omega
        · have HO : Hid (Key.oneD r' = ((Wire.takeBool k2).1, ⟨4, if (Wire.takeBool k2).2 then 1 else 0, 0, []⟩)) := by show _ = _; rw [HQO.out]; rfl
          rw [HO.out] at hol HS
          clear HQO HO
          go_wp2_with (refine wpList_load_rs rfl (.tmp 8) rfl gk rfl hk6 ?_)
          refine (reftakebool_any _ k2 hkl).mono ?_
          rintro e W7 ⟨rfl, hB7⟩
          generalize Wire.takeBool k2 = q at HS hol ⊢
          obtain ⟨k3, x⟩ := q
          have HS3 : Hid (Key.rowsD n [] r0 = Key.rowsD (n - (k + 1)) (acc ++ [⟨4, if x then 1 else 0, 0, []⟩]) k3) := HS.out
          have hl8 : k3.l.length ≤ 1000000 := hol
          clear HS hol
          dsimp only
          have hv7 := hb6.below hB7
          have hzk := hk6.lt
          go_wp2_with (first | (refine wpList_store_rs rfl rfl (.tmp 8) (.tmp 81) rfl gk rfl k3 rfl (hk6.below hB7) ?_; intro Wa hb8 hg8))
          refine (refbool_any _ x).mono ?_
          rintro e Wc ⟨rfl, hBc⟩
          generalize (if x = true then (1 : Int) else 0) = nb at HS3 ⊢
          have HS2 := HS3
          have hva := (hv7.grown hg8 (by simp; omega)).below hBc
          have hkk := hb8.below hBc
          have HW : Hid (Below wr.heap.size wr Wc) := (below_of_grown (HB6.out.then hB7) hg8 hgk (by have := HB6.out.size; have := hB7.size; omega)).trans (hBc.mono (by have := HB6.out.size; have := hB7.size; have := hg8.size; omega))
          clear hb8 hg8 hBc hB7 hk6 hb6 hv7 HB6 HS3
          go_upto_region 24 with (first | (refine wpList_store_va rfl rfl (.tmp 10) (.tmp 84) rfl gv rfl ⟨4, nb, 0, []⟩ rfl hva ?_; intro Wf hkv hgf))
          have hkk := hkk.grown hgf (by simp; omega)
          have HW := Lib.hid (below_of_grown HW.out hgf hgv2 HW.out.size)
          clear hgf
          -- (⟨4, nb, 0, []⟩ : Va): the value, k3: the reader behind it; HW : Below wr.heap.size wr W, hkk, hkv : its blocks in the last world
          go_upto_region 25 with (first | (refine wpList_load_rs rfl (.tmp 8) rfl gk rfl hkk ?_) | (refine wpList_store_rs rfl rfl (.tmp 4) (.tmp 85) rfl gr rfl k3 rfl (HJ.out.2.1.below HW.out) ?_; intro W8 hb8 hg8))
          have hv8 := hkv.grown hg8 (by simp; omega)
          have H8 := Lib.hid (And.intro (((HJ.out.2.2.1.below HW.out)).keptG (HJ.out.2.1.below HW.out) (by decide) hg8) (below_of_grown (HJ.out.2.2.2.then HW.out) hg8 (by omega) (Nat.le_trans HJ.out.2.2.2.size HW.out.size)))
          clear hkk hkv hg8 HW
          have H9 := Lib.hid (And.intro (H8.out.1.alloc (.cells (Va.cells (⟨4, nb, 0, []⟩ : Va)).toArray 27)) (And.intro (ERow.lit eVa W8 (⟨4, nb, 0, []⟩ : Va) (Va.cells (⟨4, nb, 0, []⟩ : Va)).toArray rfl W8.heap.size rfl) (H8.out.2.then (Below.alloc1 W8 (.cells (Va.cells (⟨4, nb, 0, []⟩ : Va)).toArray 27)))))
          have hb9 := Lib.hid (hb8.alloc (.cells (Va.cells (⟨4, nb, 0, []⟩ : Va)).toArray 27))
          clear hb8
          go_wp2_with (first | (refine wpList_load_va rfl (.tmp 10) rfl gv rfl hv8 ?_; unfold Va.v) | (at_builtin; refine wpList_append_elems eVa rfl (.tmp 86) (.tmp 88) rfl _ rfl H9.out.1 rfl _ rfl H9.out.2.1 rfl (by simp; omega) hb9.out.lt ?_; intro A6 c6 W6 ho6 hb6 hg6 _))
          have H6 := Lib.hid (And.intro (hb9.out.grown hg6 (H9.out.1.not_at (by omega))) (And.intro ho6 (H9.out.2.2.trans (hb6.mono (by omega)))))
          clear ho6 hb6 hg6 H9 hb9 hv8
          have HAL : Hid ((acc ++ [(⟨4, nb, 0, []⟩ : Va)]).length = acc.length + 1) := by show _ = _; simp
          go_roundw
          case rel => exact ⟨k + 1, acc ++ [(⟨4, nb, 0, []⟩ : Va)], k3, A6, c6, by omega, by go_num, hl8, by rw [HAL.out]; omega, by rw [HAL.out], HS2.out, H6.out⟩
          case measure => simp [intOf]; omega
      · have HD : Hid (Key.rowsD n [] r0 = (acc, r')) := by
          show _ = _
          rw [HJ.out.1, show n - k = (n - (k + 1)) + 1 from by omega]
          show (if r'.e ≠ 0 then _ else _) = _
          rw [if_pos (by simpa using he)]
        have hne : (r'.e == 0) = false := by simp [he]
        clear he
        have HQ3 : Hid (Key.readRowD l = if (Wire.fin r').e ≠ 0 then ([], (Wire.fin r').e) else (acc, 0)) := by show _ = _; rw [HQ2.out, HD.out]
        go_upto_region 26 with fail
        clear e0 e1 f0 f1
        go_wp2_with (refine wpList_load_rs rfl (.tmp 4) rfl gr rfl hkr ?_)
        refine (refend_any _ r' hl').mono ?_
        rintro e W2 ⟨rfl, hB2⟩
        have HO2 := Lib.hid (And.intro (HJ.out.2.2.1.below hB2) (HJ.out.2.2.2.then hB2))
        have hr2 := hkr.below hB2
        clear hB2
        generalize Wire.fin r' = rf at HQ3 ⊢
        go_upto_region 27 with (refine wpList_store_rs rfl rfl (.tmp 4) (.tmp 91) rfl gr rfl rf rfl hr2 ?_; intro W3 hb3 hg3)
        have HO3 := Lib.hid (And.intro (HO2.out.1.keptG hr2 (by decide) hg3) (below_of_grown HO2.out.2 hg3 hgr HO2.out.2.size))
        clear hg3 HO2 hr2
        obtain ⟨-, u1, -, x1, -⟩ := Blk.c2 hb3
        by_cases hf : rf.e = 0
        · have HQ4 : Hid (Key.readRowD l = (acc, 0)) := by show _ = _; rw [HQ3.out, if_neg (by simpa using hf)]
          rw [hf] at u1
          clear hf
          go_wp2_with fail
          refine bodyPost_ret (v := .tuple #[.slice A1 acc.length c1, .int .i64 0]) (by simp [results, Tryd.results25, go_sem]) rfl ?_
          rw [HQ4.out]
          exact ⟨A1, c1, rfl, HO3.out.1.row, HO3.out.2⟩
        · have HQ4 : Hid (Key.readRowD l = ([], rf.e)) := by show _ = _; rw [HQ3.out, if_pos hf]
          have hne2 : (rf.e != 0) = true := by simp [hf]
          clear hf
          go_upto_region 28 with fail
          have u2 := (hb3.drew).c2.2.1
          refine wp_region_plan (.take 0 (.take 1 (.take 2 (.take 3 .fin)))) (by kernel_rfl) (by kernel_rfl) (by kernel_rfl) (by kernel_rfl) ?_
          repeat' (first | (refine hZ _ _ ?_; clear hZ) | (refine hZ _ ?_; clear hZ) | (refine hZ ?_; clear hZ) | rw [again_nil] | rw [walk_fin] | ((first | rw [walk_take] | rw [walk_run] | rw [again_cons]); intro Z hZ; simp only [sel, List.getElem?_toArray, List.getElem?_cons_zero, List.getElem?_cons_succ]; go_wp2_with (fail)))
          go_wp2_with fail
          refine bodyPost_ret (v := .tuple #[.slice none 0 0, .int .i64 rf.e]) (by simp [results, Tryd.results25, go_sem]) rfl ?_
          rw [HQ4.out]
          exact ⟨none, 0, rfl, ERow.nil, HO3.out.2.drewR⟩
    · have HD : Hid (Key.rowsD n [] r0 = (acc, r')) := by
        show _ = _
        rw [HJ.out.1, show n - k = 0 from by omega]
        rfl
      have hii : ¬ (k : Int) < (n : Int) := by omega
      have HQ3 : Hid (Key.readRowD l = if (Wire.fin r').e ≠ 0 then ([], (Wire.fin r').e) else (acc, 0)) := by show _ = _; rw [HQ2.out, HD.out]
      go_upto_region 26 with fail
      clear e0 e1 f0 f1
      go_wp2_with (refine wpList_load_rs rfl (.tmp 4) rfl gr rfl hkr ?_)
      refine (refend_any _ r' hl').mono ?_
      rintro e W2 ⟨rfl, hB2⟩
      have HO2 := Lib.hid (And.intro (HJ.out.2.2.1.below hB2) (HJ.out.2.2.2.then hB2))
      have hr2 := hkr.below hB2
      clear hB2
      generalize Wire.fin r' = rf at HQ3 ⊢
      go_upto_region 27 with (refine wpList_store_rs rfl rfl (.tmp 4) (.tmp 91) rfl gr rfl rf rfl hr2 ?_; intro W3 hb3 hg3)
      have HO3 := Lib.hid (And.intro (HO2.out.1.keptG hr2 (by decide) hg3) (below_of_grown HO2.out.2 hg3 hgr HO2.out.2.size))
      clear hg3 HO2 hr2
      obtain ⟨-, u1, -, x1, -⟩ := Blk.c2 hb3
      by_cases hf : rf.e = 0
      · have HQ4 : Hid (Key.readRowD l = (acc, 0)) := by show _ = _; rw [HQ3.out, if_neg (by simpa using hf)]
        rw [hf] at u1
        clear hf
        go_wp2_with fail
        refine bodyPost_ret (v := .tuple #[.slice A1 acc.length c1, .int .i64 0]) (by simp [results, Tryd.results25, go_sem]) rfl ?_
        rw [HQ4.out]
        exact ⟨A1, c1, rfl, HO3.out.1.row, HO3.out.2⟩
      · have HQ4 : Hid (Key.readRowD l = ([], rf.e)) := by show _ = _; rw [HQ3.out, if_pos hf]
        have hne2 : (rf.e != 0) = true := by simp [hf]
        clear hf
        go_upto_region 28 with fail
        have u2 := (hb3.drew).c2.2.1
        refine wp_region_plan (.take 0 (.take 1 (.take 2 (.take 3 .fin)))) (by kernel_rfl) (by kernel_rfl) (by kernel_rfl) (by kernel_rfl) ?_
        repeat' (first | (refine hZ _ _ ?_; clear hZ) | (refine hZ _ ?_; clear hZ) | (refine hZ ?_; clear hZ) | rw [again_nil] | rw [walk_fin] | ((first | rw [walk_take] | rw [walk_run] | rw [again_cons]); intro Z hZ; simp only [sel, List.getElem?_toArray, List.getElem?_cons_zero, List.getElem?_cons_succ]; go_wp2_with (fail)))
        go_wp2_with fail
        refine bodyPost_ret (v := .tuple #[.slice none 0 0, .int .i64 rf.e]) (by simp [results, Tryd.results25, go_sem]) rfl ?_
        rw [HQ4.out]
        exact ⟨none, 0, rfl, ERow.nil, HO3.out.2.drewR⟩
end Go.Proofs.YtknfnhmkiooifaaDoor
end

section
/-
  The plain law of KeyReads: the document reads of any bytes what the program reads.
-/
namespace Go.Proofs.YtknfnhmkiooifaaDoor
set_option linter.unusedSimpArgs false
set_option linter.unusedVariables false
open Go.RowKit

namespace Key
/-- A value as it may be, field by field. -/
structure Good (v : Va) : Prop where
  ok : v.ok
  cl : Clean v
theorem eqV_refl (v : Va) : eqV v v := ⟨rfl, rfl, rfl, Iff.rfl, .inr rfl⟩
theorem nul_ok : Va.ok nul := ⟨by decide, by decide, by decide, by decide, by decide⟩
theorem nul_good : Good nul := ⟨nul_ok, ⟨by decide, by decide, by decide, by decide, by decide, by decide⟩⟩
theorem text_good (s : List UInt8) : Good ⟨3, 0, 0, s⟩ :=
  ⟨⟨by show (-9223372036854775808 : Int) ≤ 3; decide, by show (3 : Int) ≤ 9223372036854775807; decide, by show (-9223372036854775808 : Int) ≤ 0; decide, by show (0 : Int) ≤ 9223372036854775807; decide, by show 0 < 18446744073709551616; decide⟩,
    ⟨by simp, fun _ _ => rfl, fun _ => rfl, fun h => absurd rfl h, fun h => absurd (show (3 : Int) = 4 from h) (by decide), fun _ => rfl⟩⟩
theorem int_good {n : Int} (h1 : -9223372036854775808 ≤ n) (h2 : n ≤ 9223372036854775807) : Good ⟨1, n, 0, []⟩ :=
  ⟨⟨by show (-9223372036854775808 : Int) ≤ 1; decide, by show (1 : Int) ≤ 9223372036854775807; decide, h1, h2, by show 0 < 18446744073709551616; decide⟩,
    ⟨by simp, fun h => absurd rfl h, fun _ => rfl, fun _ => rfl, fun h => absurd (show (1 : Int) = 4 from h) (by decide), fun _ => rfl⟩⟩
theorem bool_good {n : Int} (h : n = 0 ∨ n = 1) : Good ⟨4, n, 0, []⟩ :=
  ⟨⟨by show (-9223372036854775808 : Int) ≤ 4; decide, by show (4 : Int) ≤ 9223372036854775807; decide, by show _ ≤ n; omega, by show n ≤ _; omega, by show 0 < 18446744073709551616; decide⟩,
    ⟨by simp, fun _ h => absurd rfl h, fun _ => rfl, fun _ => rfl, fun _ => h, fun _ => rfl⟩⟩
theorem real_good {f : Nat} (h : f < 18446744073709551616) (hz : f % 9223372036854775808 = 0 → f = 0) : Good ⟨2, 0, f, []⟩ :=
  ⟨⟨by show (-9223372036854775808 : Int) ≤ 2; decide, by show (2 : Int) ≤ 9223372036854775807; decide, by show (-9223372036854775808 : Int) ≤ 0; decide, by show (0 : Int) ≤ 9223372036854775807; decide, h⟩,
    ⟨by simp, fun _ _ => rfl, fun h => absurd rfl h, fun _ => rfl, fun h => absurd (show (2 : Int) = 4 from h) (by decide), hz⟩⟩
theorem real0_zz (f : Nat) (h : real0 f % 9223372036854775808 = 0) : real0 f = 0 := by
  unfold real0 at *
  split
  · rfl
  · next h2 => rw [if_neg h2] at h; exact absurd h h2
theorem real1_zz (f : Nat) (h : real1 f % 9223372036854775808 = 0) : real1 f = 0 := by
  unfold real1 at *
  by_cases h1 : fnan f
  · rw [if_pos h1] at h; exact absurd h (by decide)
  · rw [if_neg h1] at h ⊢
    split
    · rfl
    · next h2 => rw [if_neg h2] at h; exact absurd h h2
theorem real1_is {f : Nat} (h : ¬ fnan f) : real1 f = real0 f := by unfold real1 real0; rw [if_neg h]
theorem txV_good (q : Int × List UInt8 × Nat) : Good (txV q) := by
  unfold txV
  split
  · exact text_good _
  · exact nul_good
theorem lo8_lt (r : List UInt8) : Wal.lo (r.take 8) < 18446744073709551616 := by
  have h1 := Wal.lo_lt (r.take 8)
  refine Nat.lt_of_lt_of_le h1 ?_
  rw [show (18446744073709551616 : Nat) = 256 ^ 8 from by decide]
  exact Nat.pow_le_pow_right (by omega) (by rw [List.length_take]; omega)
theorem tx_pos : ∀ {i : Nat} {acc l : List UInt8}, (tx i acc l).1 = 0 → i ≤ (tx i acc l).2.2 := by
  intro i acc l
  induction i, acc, l using tx.induct with
  | case1 i acc => intro h; simp [tx] at h
  | case2 i acc c l h ih => intro h2; unfold tx at h2 ⊢; rw [if_pos h] at h2 ⊢; have := ih h2; omega
  | case3 i acc c h => intro h2; unfold tx at h2; rw [if_neg h] at h2; simp at h2
  | case4 i acc c h l' => intro h2; unfold tx; rw [if_neg h]; simp
  | case5 i acc c h d l' h1 h3 => intro h2; unfold tx at h2; rw [if_neg h] at h2; simp [h1, h3] at h2
  | case6 i acc c h d l' h1 h3 ih =>
    intro h2
    unfold tx at h2 ⊢
    rw [if_neg h] at h2 ⊢
    simp only [if_neg h1, if_neg h3] at h2 ⊢
    have := ih h2
    omega
/-- What is read of a value by the program and by the document. -/
structure SameT (l : List UInt8) (p : Va × Nat × Int) (q : Va × List UInt8 × Int) : Prop where
  e : p.2.2 = q.2.2
  v : eqV p.1 q.1
  g : Good p.1
  g' : Good q.1
  r : p.2.2 = 0 → l.drop p.2.1 = q.2.1
theorem same_bad (l : List UInt8) {e : Int} (he : e ≠ 0) (n : Nat) (s : List UInt8) : SameT l (nul, n, e) (nul, s, e) := ⟨rfl, eqV_refl _, nul_good, nul_good, fun h => absurd h he⟩
theorem realV_test {n : Nat} (hn : n < 18446744073709551616) {s : List UInt8} (hs : s.length = 8) (hsn : Wal.lo s = n) : part (clean (realV n)) = 1 :: s ↔ pbits (real0 (kback n)) = n := by
  have e1 : clean (realV n) = ⟨2, 0, real1 (realV n).f, []⟩ := rfl
  rw [e1, part_real rfl]
  simp only [List.cons.injEq, true_and]
  have hp : pbits (real1 (realV n).f) = (if n = 18446744073709551615 then 18446744073709551615 else pbits (real0 (kback n))) := by
    unfold realV
    simp only
    by_cases h : n = 18446744073709551615
    · rw [if_pos h, if_pos h]
      decide
    · rw [if_neg h, if_neg h, real1_idem, pbits_real]
  have hb : n = 18446744073709551615 → pbits (real0 (kback n)) = 18446744073709551615 := by
    rintro rfl
    decide
  rw [hp]
  constructor
  · intro h
    have := (Wal.hi8_eq hs (by split; decide; exact pbits_top (Key.real0_lt (kback_lt hn)))).1 h.symm
    by_cases h2 : n = 18446744073709551615
    · rw [hb h2, h2]
    · rw [if_neg h2] at this; rw [← this, hsn]
  · intro h
    refine ((Wal.hi8_eq hs (by split; decide; exact pbits_top (Key.real0_lt (kback_lt hn)))).2 ?_).symm
    rw [hsn]
    by_cases h2 : n = 18446744073709551615
    · rw [if_pos h2, h2]
    · rw [if_neg h2, h]
theorem realV_good {n : Nat} (hn : n < 18446744073709551616) : Good (realV n) := by
  unfold realV
  by_cases h : n = 18446744073709551615
  · rw [if_pos h]; exact real_good (by decide) (by decide)
  · rw [if_neg h]; exact real_good (real1_lt (kback_lt hn)) (real1_zz _)
theorem realV_same {n : Nat} (_hn : n < 18446744073709551616) (h : pbits (real0 (kback n)) = n) : eqV (realV n) ⟨2, 0, real0 (kback n), []⟩ := by
  unfold realV
  by_cases h2 : n = 18446744073709551615
  · subst h2
    rw [if_pos rfl]
    exact ⟨rfl, rfl, rfl, by decide, .inl (by decide)⟩
  · rw [if_neg h2]
    have hn : ¬ fnan (kback n) := fun h3 => h2 (by rw [← h]; unfold pbits; rw [if_pos (real0_nan.2 h3)])
    rw [real1_is hn]
    exact eqV_refl _
theorem take_same (t : Int) (l : List UInt8) (hl : l.length ≤ 1000000) : SameT l (takeK t l) (takeD t l) := by
  cases l with
  | nil => exact same_bad [] (by decide) 0 []
  | cons c r =>
    rw [takeK_cons, takeD_cons]
    by_cases h0 : c = 0
    · rw [if_pos h0, if_pos h0]
      exact ⟨rfl, eqV_refl _, nul_good, nul_good, fun _ => rfl⟩
    rw [if_neg h0, if_neg h0]
    by_cases h1 : 1 < c ∨ t < 1 ∨ 4 < t
    · rw [if_pos h1, if_pos h1]; exact same_bad _ (by decide) 0 []
    rw [if_neg h1, if_neg h1]
    unfold takeR takeE
    by_cases t3 : t = 3
    · rw [if_pos t3, if_pos t3]
      refine ⟨rfl, eqV_refl _, txV_good _, txV_good _, fun h => ?_⟩
      have h' : (tx 1 [] r).1 = 0 := h
      show (c :: r).drop (tx 1 [] r).2.2 = rest8 (tx 1 [] r) r
      unfold rest8
      rw [if_pos h']
      have hp : 1 ≤ (tx 1 [] r).2.2 := tx_pos h'
      obtain ⟨m, hm⟩ : ∃ m, (tx 1 [] r).2.2 = m + 1 := ⟨(tx 1 [] r).2.2 - 1, by omega⟩
      rw [hm]
      rfl
    rw [if_neg t3, if_neg t3]
    by_cases t4 : t = 4
    · rw [if_pos t4, if_pos t4]
      cases r with
      | nil => exact same_bad _ (by decide) 0 []
      | cons d s =>
        simp only
        by_cases hd : 1 < d
        · rw [if_pos hd, if_pos hd]; exact same_bad _ (by decide) 0 []
        · rw [if_neg hd, if_neg hd]
          have hd2 : d.toNat ≤ 1 := by
            rw [UInt8.lt_iff_toNat_lt] at hd
            have e0 : (1 : UInt8).toNat = 1 := rfl
            omega
          have hg : Good ⟨4, d.toNat, 0, []⟩ := bool_good (by omega)
          exact ⟨rfl, eqV_refl _, hg, hg, fun _ => rfl⟩
    rw [if_neg t4, if_neg t4]
    by_cases h8 : r.length < 8
    · rw [if_pos h8, if_pos h8]; exact same_bad _ (by decide) 0 []
    rw [if_neg h8, if_neg h8]
    have hlo := lo8_lt r
    by_cases t1 : t = 1
    · rw [if_pos t1, if_pos t1]
      have hg : Good ⟨1, (Wal.lo (r.take 8) : Int) - 9223372036854775808, 0, []⟩ := int_good (by omega) (by omega)
      exact ⟨rfl, eqV_refl _, hg, hg, fun _ => rfl⟩
    rw [if_neg t1, if_neg t1]
    have hs : (r.take 8).length = 8 := by rw [List.length_take]; omega
    by_cases hp : pbits (real0 (kback (Wal.lo (r.take 8)))) = Wal.lo (r.take 8)
    · rw [if_pos ((realV_test hlo hs rfl).2 hp), if_pos hp]
      exact ⟨rfl, realV_same hlo hp, realV_good hlo, real_good (Key.real0_lt (kback_lt hlo)) (real0_zz _), fun _ => rfl⟩
    · rw [if_neg (fun h => hp ((realV_test hlo hs rfl).1 h)), if_neg hp]
      exact same_bad _ (by decide) 0 []
/-! Lists of values -/
theorem _root_.Go.Proofs.YtknfnhmkiooifaaDoor.Wire.count_bad {r : Wire.RS} {m : Int} (h : (Wire.count r m).1.e ≠ 0) : (Wire.count r m).2 = 0 := by
  unfold Wire.count at *
  split
  · rfl
  · next h1 =>
    rw [if_neg h1] at h
    split
    · rfl
    · next h2 => rw [if_neg h2] at h; exact absurd h h1
theorem _root_.Go.Proofs.YtknfnhmkiooifaaDoor.Wire.toInt_range {n : Nat} (h : n < 18446744073709551616) : -9223372036854775808 ≤ Wire.toInt n ∧ Wire.toInt n ≤ 9223372036854775807 := by
  unfold Wire.toInt
  split <;> omega
/-- Two lists of clean values, one by one the same. -/
def Alike : List Va → List Va → Prop
  | [], [] => True
  | x :: X, y :: Y => Good x ∧ Good y ∧ eqV x y ∧ Alike X Y
  | _, _ => False
theorem Alike.snoc : ∀ {X Y : List Va} {x y : Va}, Alike X Y → Good x → Good y → eqV x y → Alike (X ++ [x]) (Y ++ [y])
  | [], [], _, _, _, gx, gy, e => ⟨gx, gy, e, trivial⟩
  | _ :: _, _ :: _, _, _, h, gx, gy, e => ⟨h.1, h.2.1, h.2.2.1, h.2.2.2.snoc gx gy e⟩
  | [], _ :: _, _, _, h, _, _, _ => h.elim
  | _ :: _, [], _, _, h, _, _, _ => h.elim
theorem Alike.len : ∀ {X Y : List Va}, Alike X Y → X.length = Y.length
  | [], [], _ => rfl
  | _ :: _, _ :: _, h => by simp [h.2.2.2.len]
  | [], _ :: _, h => h.elim
  | _ :: _, [], h => h.elim
theorem Alike.good : ∀ {X Y : List Va}, Alike X Y → (∀ v ∈ X, Good v) ∧ (∀ v ∈ Y, Good v)
  | [], [], _ => ⟨by simp, by simp⟩
  | x :: X, y :: Y, h => by
    have := h.2.2.2.good
    exact ⟨fun v hv => by rcases List.mem_cons.1 hv with rfl | hv; exact h.1; exact this.1 v hv, fun v hv => by rcases List.mem_cons.1 hv with rfl | hv; exact h.2.1; exact this.2 v hv⟩
  | [], _ :: _, h => h.elim
  | _ :: _, [], h => h.elim
theorem Alike.exact : ∀ {X Y : List Va}, Alike X Y → exactB X Y = true
  | [], [], _ => rfl
  | x :: X, y :: Y, h => by rw [exactB_cons, h.2.2.2.exact, decide_eq_true h.2.2.1]; rfl
  | [], _ :: _, h => h.elim
  | _ :: _, [], h => h.elim
/-- What is read of values by the program and by the document. -/
structure SameR (n : Nat) (p : List Va × List UInt8 × Int) (q : List Va × List UInt8 × Int) : Prop where
  e : p.2.2 = q.2.2
  v : Alike p.1 q.1
  r : p.2.1 = q.2.1
  n : p.1.length ≤ n
theorem read_same : ∀ (ts : List Int) (X Y : List Va) (l : List UInt8), l.length ≤ 1000000 → Alike X Y → SameR (X.length + ts.length) (readA X ts l) (readD Y ts l)
  | [], X, Y, l, _, h => ⟨rfl, h, rfl, by simp [readA]⟩
  | t :: ts, X, Y, l, hl, h => by
    have hs := take_same t l hl
    unfold readA readD
    by_cases he : (takeK t l).2.2 = 0
    · have he' : (takeD t l).2.2 = 0 := hs.e ▸ he
      rw [if_neg (by simpa using he), if_neg (by simpa using he'), hs.r he]
      have ih := read_same ts (X ++ [(takeK t l).1]) (Y ++ [(takeD t l).1]) (takeD t l).2.1 (Nat.le_trans (takeD_len t l) hl) (h.snoc hs.g hs.g' hs.v)
      refine ⟨ih.e, ih.v, ih.r, Nat.le_trans ih.n (by simp; omega)⟩
    · have he' : (takeD t l).2.2 ≠ 0 := fun h => he (hs.e.trans h)
      rw [if_pos he, if_pos he']
      exact ⟨hs.e, trivial, rfl, Nat.zero_le _⟩
/-- What is read of a row's next value. -/
structure SameO (p : Wire.RS × Va × Int) (q : Wire.RS × Va) : Prop where
  e : p.2.2 = q.1.e
  r : p.2.2 = 0 → p.1 = q.1 ∧ eqV p.2.1 q.2 ∧ Good p.2.1 ∧ Good q.2
theorem one_same (r : Wire.RS) (h : r.e = 0) : SameO (oneK r) (oneD r) := by
  unfold oneK oneD
  rw [if_neg (by simpa using h)]
  have hcm := Wire.count_most r 4
  by_cases hc : (Wire.count r 4).1.e ≠ 0
  · have hk : (Wire.count r 4).2 = 0 := Wire.count_bad hc
    rw [if_pos hc, hk]
    exact ⟨rfl, fun h => absurd h hc⟩
  have hc0 : (Wire.count r 4).1.e = 0 := by simpa using hc
  rw [if_neg hc]
  obtain ⟨k, hk⟩ : ∃ k, (Wire.count r 4).2 = k := ⟨_, rfl⟩
  rw [hk]
  rcases (show k = 0 ∨ k = 1 ∨ k = 2 ∨ k = 3 ∨ k = 4 by have : (Wire.count r 4).2 ≤ 4 := hcm; omega) with rfl | rfl | rfl | rfl | rfl
  · exact ⟨hc0.symm, fun _ => ⟨rfl, eqV_refl _, nul_good, nul_good⟩⟩
  · have hb := Wire.toInt_range (Wire.take_lt (Wire.count r 4).1)
    exact ⟨rfl, fun _ => ⟨rfl, eqV_refl _, int_good hb.1 hb.2, int_good hb.1 hb.2⟩⟩
  · have hm := Wire.take_lt (Wire.count r 4).1
    simp only [show ¬ ((2 : Nat) = 1) by decide, show ¬ ((2 : Nat) = 3) by decide, show ¬ ((2 : Nat) = 4) by decide, if_false, if_true]
    by_cases ht : (Wire.take (Wire.count r 4).1).1.e ≠ 0
    · rw [if_pos ht, if_neg (fun h => ht h.1)]
      exact ⟨rfl, fun h => absurd h ht⟩
    · have ht0 : (Wire.take (Wire.count r 4).1).1.e = 0 := by simpa using ht
      rw [if_neg ht]
      generalize (Wire.take (Wire.count r 4).1).2 = m at hm ⊢
      have hlo : Wal.lo ((Wal.hi8 m).take 8) = m := by rw [List.take_of_length_le (by rw [Wal.hi8_length]; exact Nat.le_refl _)]; exact Wal.lo_hi8 m hm
      have hs : ((Wal.hi8 m).take 8).length = 8 := by rw [List.length_take, Wal.hi8_length]; rfl
      have hlen : ¬ (Wal.hi8 m).length < 8 := by rw [Wal.hi8_length]; decide
      have hK : takeK 2 (1 :: Wal.hi8 m) = if part (clean (realV m)) = 1 :: (Wal.hi8 m).take 8 then (realV m, 9, 0) else (nul, 0, 7) := by
        rw [takeK_cons, if_neg (by decide), if_neg (by decide)]
        unfold takeR
        rw [if_neg (by decide), if_neg (by decide), if_neg hlen, if_neg (by decide), hlo]
      by_cases hp : pbits (real0 (kback m)) = m
      · rw [if_pos ((realV_test hm hs hlo).2 hp)] at hK
        rw [hK, if_neg (fun h => h.2 hp)]
        exact ⟨ht0.symm, fun _ => ⟨rfl, realV_same hm hp, realV_good hm, real_good (Key.real0_lt (kback_lt hm)) (real0_zz _)⟩⟩
      · rw [if_neg (fun h => hp ((realV_test hm hs hlo).1 h))] at hK
        rw [hK, if_pos ⟨ht0, hp⟩]
        exact ⟨rfl, fun h => absurd (show (7 : Int) = 0 from h) (by decide)⟩
  · exact ⟨rfl, fun _ => ⟨rfl, eqV_refl _, text_good _, text_good _⟩⟩
  · have hg : Good ⟨4, if (Wire.takeBool (Wire.count r 4).1).2 = true then 1 else 0, 0, []⟩ := bool_good (by split <;> simp)
    exact ⟨rfl, fun _ => ⟨rfl, eqV_refl _, hg, hg⟩⟩
theorem rowsD_bad : ∀ (n : Nat) (Y : List Va) (r : Wire.RS), r.e ≠ 0 → rowsD n Y r = (Y, r)
  | 0, _, _, _ => rfl
  | n + 1, Y, r, h => by unfold rowsD; rw [if_pos h]
theorem rows_same : ∀ (n : Nat) (X Y : List Va) (r : Wire.RS), Alike X Y →
    ((rowsK n X r).2.2 = 0 ∧ (rowsK n X r).2.1 = (rowsD n Y r).2 ∧ Alike (rowsK n X r).1 (rowsD n Y r).1 ∧ (rowsK n X r).1.length ≤ X.length + n) ∨ ((rowsK n X r).2.2 ≠ 0 ∧ (rowsD n Y r).2.e = (rowsK n X r).2.2)
  | 0, X, Y, r, h => .inl ⟨rfl, rfl, h, Nat.le_refl _⟩
  | n + 1, X, Y, r, h => by
    by_cases hr : r.e ≠ 0
    · have hK : (oneK r).2.2 = r.e := by unfold oneK; rw [if_pos hr]
      right
      rw [rowsD_bad _ _ _ hr]
      unfold rowsK
      rw [if_pos (by rw [hK]; exact hr)]
      exact ⟨by rw [hK]; exact hr, hK.symm⟩
    · have hr0 : r.e = 0 := by simpa using hr
      have ho := one_same r hr0
      unfold rowsK rowsD
      rw [if_neg hr]
      by_cases he : (oneK r).2.2 = 0
      · obtain ⟨h1, h2, h3, h4⟩ := ho.r he
        rw [if_neg (by simpa using he), h1]
        rcases rows_same n (X ++ [(oneK r).2.1]) (Y ++ [(oneD r).2]) (oneD r).1 (h.snoc h3 h4 h2) with ⟨a, b, c, d⟩ | h
        · exact .inl ⟨a, b, c, Nat.le_trans d (by simp; omega)⟩
        · exact .inr h
      · right
        rw [if_pos he, rowsD_bad _ _ _ (by rw [← ho.e]; exact he)]
        exact ⟨he, ho.e.symm⟩
theorem readRow_same (l : List UInt8) : (readRowK l).2 = (readRowD l).2 ∧ Alike (readRowK l).1 (readRowD l).1 ∧ (readRowK l).1.length ≤ 512 := by
  unfold readRowK readRowD
  have hcm : (Wire.count ⟨l, 0⟩ 512).2 ≤ 512 := Wire.count_most ⟨l, 0⟩ 512
  generalize (Wire.count ⟨l, 0⟩ 512).2 = n at hcm ⊢
  generalize (Wire.count ⟨l, 0⟩ 512).1 = r
  rcases rows_same n [] [] r trivial with ⟨a, b, c, d⟩ | ⟨a, b⟩
  · rw [if_neg (by simpa using a), b]
    split
    · exact ⟨rfl, trivial, Nat.zero_le _⟩
    · exact ⟨rfl, c, by simp at d; exact Nat.le_trans d hcm⟩
  · have hf : Wire.fin (rowsD n [] r).2 = (rowsD n [] r).2 := by
      unfold Wire.fin
      rw [if_neg (fun h => a (b ▸ h.1))]
    rw [if_pos a, hf, if_pos (by rw [b]; exact a), b]
    exact ⟨rfl, trivial, Nat.zero_le _⟩
end Key
end Go.Proofs.YtknfnhmkiooifaaDoor
end

section
/-
  Lists of numbers that come in.
-/
namespace Go.Proofs.YtknfnhmkiooifaaDoor
set_option linter.unusedSimpArgs false
set_option linter.unusedVariables false
open Go.RowKit Go.Maps Go.WideShapes Go.ChangeShapes

open Go.Deep in
theorem open_intlist {H : Type} {enc : TypeId × Value → H} {w : World} {base : Nat} {spare : Nat → Bool} {held : Bool} {fuel : Nat} {cs : List Value} {x : DataW H × List MemPlace} (h : DataW.trod enc Tryd.prog w base spare held fuel 46 cs = some x) : ∃ A L c, cs = [.slice A (List.length L) c] ∧ ERow eInt w A L ∧ (∀ n ∈ L, -9223372036854775808 ≤ n ∧ n ≤ 9223372036854775807) ∧ L.length ≤ c ∧ c ≤ maxLen :=
  open_elems eInt (by kernel_rfl) _ (fun fuel cs x h _ => by
    obtain ⟨n, rfl, h1, h2⟩ := open_i64 Tryd.underlying3 h
    exact ⟨n, rfl, h1, h2⟩) h
def IntsIn (w : World) (v : Value) : Prop := ∃ A c L, v = .slice A (List.length L) c ∧ ERow eInt w A L ∧ (∀ n ∈ L, -9223372036854775808 ≤ n ∧ n ≤ 9223372036854775807) ∧ L.length ≤ c ∧ c ≤ maxLen
set_option maxRecDepth 20000 in
theorem ints_in {H : Type} {enc : TypeId × Value → H} {w : World} {base : Nat} {v : Value} {d : DataW H} {p : List MemPlace}
    (hv : Value.okWide Tryd.prog w .any base 46 v) (h : DataW.Trod enc Tryd.prog w 0 (fun _ => true) true 46 v d p) : IntsIn w v := by
  obtain ⟨a0, len0, cap0, rfl⟩ := okWide_slice Tryd.underlying46 hv
  obtain ⟨fuel, hf⟩ := h
  obtain ⟨A, L, c, h1, h2, h3, h4, h5⟩ := open_intlist hf
  simp [Value.cells] at h1
  obtain ⟨rfl, rfl, rfl⟩ := h1
  exact ⟨_, _, L, rfl, h2, h3, h4, h5⟩
theorem int_at {w : World} {A : Option Addr} {L : List Int} (h : ERow eInt w A L) {i : Nat} (hi : i < L.length) : ∃ b o, A = some ⟨b, o, none⟩ ∧ b < w.heap.size ∧ w.cell? ⟨b, o + i, none⟩ = some (.int .i64 L[i]) := by
  obtain ⟨b, o, e, hb, hc⟩ := h.at_ hi
  have := hc 0 _ rfl
  simp only [eInt, Nat.mul_one, Nat.add_zero] at this
  exact ⟨b, o, e, hb, this⟩
theorem int_own_at {w : World} {B c g : Nat} {L : List Int} (h : EOwn eInt w B (some ⟨g, 0, none⟩) c L) {i : Nat} (hi : i < L.length) : w.cell? ⟨g, i, none⟩ = some (.int .i64 L[i]) := by
  have := h.cell (j := i) (k := 0) hi rfl
  simpa [eInt] using this
end Go.Proofs.YtknfnhmkiooifaaDoor
end

section
/-
  The walk of dowserlaw08.KeyReads: whatever the types and the bytes, it answers true.
-/
namespace Go.Proofs.YtknfnhmkiooifaaDoor
set_option linter.unusedSimpArgs false
set_option linter.unusedVariables false
open Go.RowKit

theorem cleanL_alike {X Y : List Va} (h : Key.Alike X Y) (hn : X.length ≤ 1000) : CleanL X ∧ CleanL Y := by
  have hg := h.good
  exact ⟨⟨hn, fun v hv => (hg.1 v hv).ok, fun v hv => (hg.1 v hv).cl⟩, ⟨by rw [← h.len]; exact hn, fun v hv => (hg.2 v hv).ok, fun v hv => (hg.2 v hv).cl⟩⟩
theorem lexact_alike (w : World) (A B : Option Addr) (c d : Nat) (X Y : List Va) (hx : ERow eVa w A X) (hy : ERow eVa w B Y) (h : Key.Alike X Y) (hn : X.length ≤ 1000) :
    Calls Tryd.prog 21 #[.slice A X.length c, .slice B Y.length d] w fun e w' => e = .returned (.bool true) ∧ Below w.heap.size w w' := by
  have hc := cleanL_alike h hn
  have := lexact_any w A B c d X Y hx hy hc.1 hc.2
  rw [h.exact] at this
  exact this
set_option maxRecDepth 100000 in
set_option maxHeartbeats 8000000 in
theorem keyReads_walk (w : World) (v0 : Value) (h0 : IntsIn w v0) (A : Option Addr) (c : Nat) (l : List UInt8) (hr : BRow w A l) (hlc : l.length ≤ c) (hcm : c ≤ maxLen) :
    Calls Tryd.prog 7 #[v0, .slice A l.length c] w fun e w' => e = .returned (.bool true) ∧ Below w.heap.size w w' := by
  obtain ⟨T, ct, ts, rfl, ht, -, -, -⟩ := h0
  have HR := Lib.hid hr
  have HTS := Lib.hid ht
  have HLC := Lib.hid hlc
  clear hr ht hcm hlc
  go_enter Tryd.func7, Tryd.ntmps7
  go_wp2_with fail
  refine (klives_any _).mono ?_
  rintro e w1 ⟨rfl, hb1⟩
  have H1 := Lib.hid hb1
  clear hb1
  by_cases h20 : 20 < ts.length
  · have hii : (20 : Int) < (ts.length : Int) := by omega
    go_wp2_with fail
    refine (klives_any _).mono ?_
    rintro e w3 ⟨rfl, hb3⟩
    go_wp2_with fail
    go_ret
    exact ⟨rfl, H1.out.then hb3⟩
  have hii : ¬ (20 : Int) < (ts.length : Int) := by omega
  by_cases h15 : 1500 < l.length
  · have hij : (1500 : Int) < (l.length : Int) := by omega
    go_wp2_with fail
    refine (klives_any _).mono ?_
    rintro e w3 ⟨rfl, hb3⟩
    go_wp2_with fail
    go_ret
    exact ⟨rfl, H1.out.then hb3⟩
  have hij : ¬ (1500 : Int) < (l.length : Int) := by omega
  have HL := Lib.hid (show l.length ≤ 1000000 by omega)
  have HT := Lib.hid (show ts.length ≤ 1000 by omega)
  go_wp2_with fail
  refine (kread_any _ T A ct c ts l (HTS.out.below H1.out) (HR.out.below H1.out) HT.out HLC.out HL.out).mono ?_
  rintro e w2 ⟨A1, c1, A2, c2, rfl, hx2, hr2, hb2⟩
  have H2 := Lib.hid (H1.out.then hb2)
  have HX2 := Lib.hid (And.intro hx2 hr2)
  clear hx2 hr2 hb2 H1 HLC
  have hcv := run_string_bytes w2 c (HR.out.below H2.out)
  go_wp2_with fail
  clear hcv
  refine (refread8_any _ T ct ts l (HTS.out.below H2.out) HT.out HL.out).mono ?_
  rintro e w3 ⟨A3, c3, rfl, hx3, hb3⟩
  have H3 := Lib.hid (H2.out.then hb3)
  have HX3 := Lib.hid (And.intro (HX2.out.1.below hb3) (And.intro (HX2.out.2.below hb3) hx3))
  have hsm := Key.read_same ts [] [] l HL.out trivial
  clear hx3 hb3 HX2 H2
  generalize Key.readA [] ts l = p at HX3 hsm ⊢
  generalize Key.readD [] ts l = q at HX3 hsm ⊢
  obtain ⟨X, rx, ex⟩ := p
  obtain ⟨Y, ry, ey⟩ := q
  have he : ex = ey := hsm.e
  have hrr : rx = ry := hsm.r
  subst he hrr
  have HAL : Hid (Key.Alike X Y ∧ X.length ≤ 1000) := ⟨hsm.v, by have := hsm.n; simp at this; omega⟩
  clear hsm
  dsimp only
  have hee : (ex != ex) = false := by simp
  have kne := run_str_ne
  have gne := eqg_ne
  have hrf : (!(rx == rx)) = false := by simp
  go_wp2_with fail
  refine (lexact_alike _ A1 A3 c1 c3 X Y HX3.out.1 HX3.out.2.2 HAL.out.1 HAL.out.2).mono ?_
  rintro e w4 ⟨rfl, hb4⟩
  have H4 := Lib.hid (H3.out.then hb4)
  have hcv := run_string_bytes w4 c2 (HX3.out.2.1.below hb4)
  clear hb4 H3
  go_wp2_with fail
  clear hcv HX3 HAL hee hrf
  refine (kreadrow_any _ A c l (HR.out.below H4.out) HL.out).mono ?_
  rintro e w5 ⟨A5, c5, rfl, hx5, hb5⟩
  have H5 := Lib.hid (H4.out.then hb5)
  have HX5 := Lib.hid hx5
  clear hx5 hb5 H4
  have hcv := run_string_bytes w5 c (HR.out.below H5.out)
  go_wp2_with fail
  clear hcv
  refine (refreadrow8_any _ l HL.out).mono ?_
  rintro e w6 ⟨A6, c6, rfl, hx6, hb6⟩
  have H6 := Lib.hid (H5.out.then hb6)
  have HX6 := Lib.hid (And.intro (HX5.out.below hb6) hx6)
  have hsm := Key.readRow_same l
  clear hx6 hb6 HX5 H5
  generalize Key.readRowK l = p at HX6 hsm ⊢
  generalize Key.readRowD l = q at HX6 hsm ⊢
  obtain ⟨X2, ex2⟩ := p
  obtain ⟨Y2, ey2⟩ := q
  have he : ex2 = ey2 := hsm.1
  subst he
  have HAL : Hid (Key.Alike X2 Y2 ∧ X2.length ≤ 1000) := ⟨hsm.2.1, Nat.le_trans hsm.2.2 (by decide)⟩
  clear hsm
  dsimp only
  have hee : (ex2 == ex2) = true := by simp
  go_wp2_with fail
  refine (lexact_alike _ A5 A6 c5 c6 X2 Y2 HX6.out.1 HX6.out.2 HAL.out.1 HAL.out.2).mono ?_
  rintro e w7 ⟨rfl, hb7⟩
  have H7 := Lib.hid (H6.out.then hb7)
  clear hb7
  go_wp2_with fail
  go_ret
  exact ⟨rfl, H7.out⟩
end Go.Proofs.YtknfnhmkiooifaaDoor
end

section
/-
  The plain law of KeyWrites: what is written of clean values is read again.
-/
namespace Go.Proofs.YtknfnhmkiooifaaDoor
set_option linter.unusedSimpArgs false
set_option linter.unusedVariables false
open Go.RowKit

namespace Key
/-- The type as which a clean value is read. -/
def typ (v : Va) : Int := if v.k = 0 then 3 else v.k
theorem tx_esc : ∀ (s : List UInt8) (i : Nat) (acc t : List UInt8), tx i acc (esc s ++ ([0, 0] ++ t)) = (0, acc ++ s, i + (esc s).length + 2)
  | [], i, acc, t => by simp [esc, tx]
  | c :: s, i, acc, t => by
    rw [esc_cons]
    by_cases h : c = 0
    · subst h
      rw [if_pos rfl]
      have ih := tx_esc s (i + 2) (acc ++ [0]) t
      show tx i acc (0 :: 255 :: (esc s ++ ([0, 0] ++ t))) = _
      unfold tx
      simp only [ne_eq, not_true_eq_false, if_false]
      rw [if_neg (by decide), ih]
      simp
      omega
    · rw [if_neg h]
      have ih := tx_esc s (i + 1) (acc ++ [c]) t
      show tx i acc (c :: (esc s ++ ([0, 0] ++ t))) = _
      unfold tx
      rw [if_pos h, ih]
      simp
      omega
theorem id_val {n : Int} (h1 : -9223372036854775808 ≤ n) (h2 : n ≤ 9223372036854775807) : (idn n : Int) - 9223372036854775808 = n := by unfold idn; omega
theorem kback_kbits {f : Nat} (hf : f < 18446744073709551616) : kback (kbits f) = f := by
  unfold kback kbits
  split
  · next h => split <;> omega
  · next h => split <;> omega
theorem take8 (a t : List UInt8) (h : a.length = 8) : (a ++ t).take 8 = a := by rw [← h, List.take_left']; rfl
/-- A value's part is read again. -/
theorem take_part {v : Va} (hg : Good v) (t : List UInt8) : ∃ v', takeK (typ v) (part v ++ t) = (v', (part v).length, 0) ∧ Good v' ∧ eqV v' v := by
  obtain ⟨ok, cl⟩ := hg
  obtain ⟨k, n, f, s⟩ := v
  have hk := cl.kind
  simp only at hk
  rcases hk with rfl | rfl | rfl | rfl | rfl
  · have h1 : n = 0 := cl.nn (by simp) (by simp)
    have h2 : f = 0 := cl.ff (by simp)
    have h3 : s = [] := cl.ss (by simp)
    subst h1 h2 h3
    exact ⟨nul, rfl, nul_good, eqV_refl _⟩
  · have h2 : f = 0 := cl.ff (by simp)
    have h3 : s = [] := cl.ss (by simp)
    subst h2 h3
    have hp : part ⟨1, n, 0, []⟩ = 1 :: id n := rfl
    have hl : (id n).length = 8 := id_length n
    refine ⟨⟨1, n, 0, []⟩, ?_, ⟨ok, cl⟩, eqV_refl _⟩
    rw [hp, List.cons_append, show typ ⟨1, n, 0, []⟩ = 1 from rfl, takeK_cons, if_neg (by decide), if_neg (by decide)]
    unfold takeR
    rw [if_neg (by decide), if_neg (by decide), if_neg (by simp; omega), if_pos rfl, take8 _ _ hl, lo_id ok.n1 ok.n2, id_val ok.n1 ok.n2, List.length_cons, hl]
  · have h1 : n = 0 := cl.nn (by simp) (by simp)
    have h3 : s = [] := cl.ss (by simp)
    subst h1 h3
    have hp : part ⟨2, 0, f, []⟩ = 1 :: Wal.hi8 (pbits f) := rfl
    have hl : (Wal.hi8 (pbits f)).length = 8 := Wal.hi8_length _
    have hpt := pbits_top ok.f1
    have hlo : Wal.lo (Wal.hi8 (pbits f)) = pbits f := Wal.lo_hi8 _ hpt
    have hff : f < 18446744073709551616 := ok.f1
    have hz : f % 9223372036854775808 = 0 → f = 0 := cl.zz
    have hr0 : real0 f = f := by
      unfold real0
      split
      · next h => exact (hz h).symm
      · rfl
    have hkb : ¬ fnan f → kback (pbits f) = f := fun hn => by unfold pbits; rw [if_neg hn, kback_kbits hff]
    have htest : pbits (real0 (kback (pbits f))) = pbits f := by
      by_cases hn : fnan f
      · have : pbits f = 18446744073709551615 := by unfold pbits; rw [if_pos hn]
        rw [this]; decide
      · rw [hkb hn, hr0]
    have hv : eqV (realV (pbits f)) ⟨2, 0, f, []⟩ := by
      have h := realV_same hpt htest
      by_cases hn : fnan f
      · have hp : pbits f = 18446744073709551615 := by unfold pbits; rw [if_pos hn]
        have hr : (realV (pbits f)) = ⟨2, 0, 9221120237041090561, []⟩ := by unfold realV; rw [if_pos hp]
        rw [hr]
        exact ⟨rfl, rfl, rfl, ⟨fun _ => hn, fun _ => by decide⟩, .inl (by decide)⟩
      · rw [hkb hn, hr0] at h; exact h
    refine ⟨realV (pbits f), ?_, realV_good hpt, hv⟩
    rw [hp, List.cons_append, show typ ⟨2, 0, f, []⟩ = 2 from rfl, takeK_cons, if_neg (by decide), if_neg (by decide)]
    unfold takeR
    rw [if_neg (by decide), if_neg (by decide), if_neg (by simp; omega), if_neg (by decide), take8 _ _ hl, hlo, if_pos ((realV_test hpt hl hlo).2 htest), List.length_cons, hl]
  · have h1 : n = 0 := cl.nn (by simp) (by simp)
    have h2 : f = 0 := cl.ff (by simp)
    subst h1 h2
    have hp : part ⟨3, 0, 0, s⟩ = 1 :: (esc s ++ [0, 0]) := rfl
    refine ⟨⟨3, 0, 0, s⟩, ?_, text_good s, eqV_refl _⟩
    rw [hp, List.cons_append, show typ ⟨3, 0, 0, s⟩ = 3 from rfl, takeK_cons, if_neg (by decide), if_neg (by decide), takeR_text, List.append_assoc, tx_esc s 1 [] t]
    show (txV (0, [] ++ s, _), _, _) = _
    simp [txV]
    omega
  · have h2 : f = 0 := cl.ff (by simp)
    have h3 : s = [] := cl.ss (by simp)
    subst h2 h3
    have hb : n = 0 ∨ n = 1 := cl.bb rfl
    rcases hb with rfl | rfl
    · exact ⟨⟨4, 0, 0, []⟩, rfl, ⟨ok, cl⟩, eqV_refl _⟩
    · exact ⟨⟨4, 1, 0, []⟩, rfl, ⟨ok, cl⟩, eqV_refl _⟩
theorem read_key : ∀ (X : List Va), (∀ v ∈ X, Good v) → ∀ (acc Y : List Va) (t : List UInt8), Alike acc Y → ∃ R, readA acc (X.map typ) (X.flatMap part ++ t) = (R, t, 0) ∧ Alike R (Y ++ X)
  | [], _, acc, Y, t, h => ⟨acc, rfl, by rw [List.append_nil]; exact h⟩
  | v :: X, hg, acc, Y, t, h => by
    obtain ⟨v', h1, h2, h3⟩ := take_part (hg v (by simp)) (X.flatMap part ++ t)
    obtain ⟨R, hR, hA⟩ := read_key X (fun u hu => hg u (by simp [hu])) (acc ++ [v']) (Y ++ [v]) t (h.snoc h2 (hg v (by simp)) h3)
    refine ⟨R, ?_, by rw [List.append_assoc] at hA; exact hA⟩
    rw [List.flatMap_cons, List.append_assoc, List.map_cons]
    unfold readA
    rw [h1, if_neg (by simp)]
    simp only
    rw [List.drop_left]
    exact hR
/-- A value's bytes in a row are read again. -/
theorem one_row {v : Va} (hg : Good v) (hs : v.s.length ≤ 512) (t : List UInt8) : ∃ v', oneK ⟨rowOf v ++ t, 0⟩ = (⟨t, 0⟩, v', 0) ∧ Good v' ∧ eqV v' v := by
  obtain ⟨ok, cl⟩ := hg
  obtain ⟨k, n, f, s⟩ := v
  have hk := cl.kind
  simp only at hk hs
  have hnum : ∀ m : Nat, m ≤ 4 → ∀ r : List UInt8, Wire.count ⟨UInt8.ofNat m :: r, 0⟩ 4 = (⟨r, 0⟩, m) := by
    intro m hm r
    have hn : Wire.num m = [UInt8.ofNat m] := by
      rcases (show m = 0 ∨ m = 1 ∨ m = 2 ∨ m = 3 ∨ m = 4 by omega) with rfl | rfl | rfl | rfl | rfl <;> decide
    have := Wire.count_num m 4 (by omega) r (by omega)
    rw [hn] at this
    exact this
  unfold oneK
  rcases hk with rfl | rfl | rfl | rfl | rfl
  · have h1 : n = 0 := cl.nn (by simp) (by simp)
    have h2 : f = 0 := cl.ff (by simp)
    have h3 : s = [] := cl.ss (by simp)
    subst h1 h2 h3
    have hc := hnum 0 (by decide) t
    refine ⟨nul, ?_, nul_good, eqV_refl _⟩
    show (if (0 : Int) ≠ 0 then _ else _) = _
    rw [if_neg (by decide), show rowOf ⟨0, 0, 0, []⟩ ++ t = UInt8.ofNat 0 :: t from rfl, hc]
    rfl
  · have h2 : f = 0 := cl.ff (by simp)
    have h3 : s = [] := cl.ss (by simp)
    subst h2 h3
    have hc := hnum 1 (by decide) (Wire.num (Wire.ofInt n) ++ t)
    have ht := Wire.take_num (Wire.ofInt n) (Wire.ofInt_lt n ok.n1 ok.n2) t
    refine ⟨⟨1, n, 0, []⟩, ?_, ⟨ok, cl⟩, eqV_refl _⟩
    show (if (0 : Int) ≠ 0 then _ else _) = _
    rw [if_neg (by decide), show rowOf ⟨1, n, 0, []⟩ ++ t = UInt8.ofNat 1 :: (Wire.num (Wire.ofInt n) ++ t) from rfl, hc]
    unfold Wire.takeInt
    simp only [ht, Wire.toInt_ofInt]
    rfl
  · have h1 : n = 0 := cl.nn (by simp) (by simp)
    have h3 : s = [] := cl.ss (by simp)
    subst h1 h3
    have hpt := pbits_top ok.f1
    have hc := hnum 2 (by decide) (Wire.num (pbits f) ++ t)
    have ht := Wire.take_num (pbits f) hpt t
    obtain ⟨v', e, g, q⟩ := take_part (v := ⟨2, 0, f, []⟩) ⟨ok, cl⟩ []
    rw [List.append_nil] at e
    refine ⟨v', ?_, g, q⟩
    show (if (0 : Int) ≠ 0 then _ else _) = _
    rw [if_neg (by decide), show rowOf ⟨2, 0, f, []⟩ ++ t = UInt8.ofNat 2 :: (Wire.num (pbits f) ++ t) from rfl, hc]
    simp only [ht]
    have e' : takeK 2 (1 :: Wal.hi8 (pbits f)) = (v', (part ⟨2, 0, f, []⟩).length, 0) := e
    rw [e']
    rfl
  · have h1 : n = 0 := cl.nn (by simp) (by simp)
    have h2 : f = 0 := cl.ff (by simp)
    subst h1 h2
    have hc := hnum 3 (by decide) (Wire.text s ++ t)
    have ht := Wire.takeText_text s t 512 (by omega) (by omega)
    refine ⟨⟨3, 0, 0, s⟩, ?_, text_good s, eqV_refl _⟩
    show (if (0 : Int) ≠ 0 then _ else _) = _
    rw [if_neg (by decide), show rowOf ⟨3, 0, 0, s⟩ ++ t = UInt8.ofNat 3 :: (Wire.text s ++ t) from rfl, hc]
    simp only [ht]
    rfl
  · have h2 : f = 0 := cl.ff (by simp)
    have h3 : s = [] := cl.ss (by simp)
    subst h2 h3
    have hb : n = 0 ∨ n = 1 := cl.bb rfl
    rcases hb with rfl | rfl
    · have hc := hnum 4 (by decide) (0 :: t)
      refine ⟨⟨4, 0, 0, []⟩, ?_, ⟨ok, cl⟩, eqV_refl _⟩
      show (if (0 : Int) ≠ 0 then _ else _) = _
      rw [if_neg (by decide), show rowOf ⟨4, 0, 0, []⟩ ++ t = UInt8.ofNat 4 :: (0 :: t) from rfl, hc]
      rfl
    · have hc := hnum 4 (by decide) (1 :: t)
      refine ⟨⟨4, 1, 0, []⟩, ?_, ⟨ok, cl⟩, eqV_refl _⟩
      show (if (0 : Int) ≠ 0 then _ else _) = _
      rw [if_neg (by decide), show rowOf ⟨4, 1, 0, []⟩ ++ t = UInt8.ofNat 4 :: (1 :: t) from rfl, hc]
      rfl
theorem rows_row : ∀ (X : List Va), (∀ v ∈ X, Good v ∧ v.s.length ≤ 512) → ∀ (acc Y : List Va), Alike acc Y → ∃ R, rowsK X.length acc ⟨X.flatMap rowOf, 0⟩ = (R, ⟨[], 0⟩, 0) ∧ Alike R (Y ++ X)
  | [], _, acc, Y, h => ⟨acc, rfl, by rw [List.append_nil]; exact h⟩
  | v :: X, hg, acc, Y, h => by
    obtain ⟨v', h1, h2, h3⟩ := one_row (hg v (by simp)).1 (hg v (by simp)).2 (X.flatMap rowOf)
    obtain ⟨R, hR, hA⟩ := rows_row X (fun u hu => hg u (by simp [hu])) (acc ++ [v']) (Y ++ [v]) (h.snoc h2 (hg v (by simp)).1 h3)
    refine ⟨R, ?_, by rw [List.append_assoc] at hA; exact hA⟩
    rw [List.flatMap_cons, List.length_cons]
    unfold rowsK
    rw [h1, if_neg (by simp)]
    exact hR
theorem read_row (X : List Va) (hg : ∀ v ∈ X, Good v ∧ v.s.length ≤ 512) (hl : X.length ≤ 512) : ∃ R, readRowK (Wire.num X.length ++ X.flatMap rowOf) = (R, 0) ∧ Alike R X := by
  obtain ⟨R, hR, hA⟩ := rows_row X hg [] [] trivial
  refine ⟨R, ?_, by simpa using hA⟩
  have hc := Wire.count_num X.length 512 (by omega) (X.flatMap rowOf) (by omega)
  unfold readRowK
  simp only [hc, hR]
  rfl
end Key
end Go.Proofs.YtknfnhmkiooifaaDoor
end

section
/-
  The contract of dowserlaw08.types.
-/
namespace Go.Proofs.YtknfnhmkiooifaaDoor
set_option linter.unusedSimpArgs false
set_option linter.unusedVariables false
open Go.RowKit

theorem va_field0 (v : Va) (w : World) : (Instr.field 27 v.v 0).run Tryd.prog w = .ok (.int .i64 v.k) w := by kernel_rfl
theorem va_field3 (v : Va) (w : World) : (Instr.field 27 v.v 3).run Tryd.prog w = .ok (txt v.s) w := by kernel_rfl
set_option maxRecDepth 20000 in
set_option maxHeartbeats 4000000 in
theorem ltypes_any (w : World) (A : Option Addr) (c : Nat) (L : List Va) (hr : ERow eVa w A L) (hL : Few L) : Calls Tryd.prog 30 #[.slice A L.length c] w (RetRow eInt w (L.map fun v => Key.typ (Key.dclean v))) := by
  have HR := Lib.hid hr
  have HL := Lib.hid hL
  have hn := hL.len
  clear hr hL
  go_enter Tryd.func30, Tryd.ntmps30
  go_wp2_with fail
  go_loopw [3, 9] (fun bv_ iv wr => ∃ (k : Nat) (A1 : Option Addr) (c1 : Nat), k ≤ L.length ∧ bv_ = .slice A1 ((L.take k).map fun v => Key.typ (Key.dclean v)).length c1 ∧ iv = .int .i64 (k : Int) ∧ Hid (EOwn eInt wr w.heap.size A1 c1 ((L.take k).map fun v => Key.typ (Key.dclean v)) ∧ Below w.heap.size w wr)) (fun _ iv _ => L.length - (intOf iv).toNat)
  case atStart => exact ⟨0, none, 0, Nat.zero_le _, rfl, rfl, EOwn.nil _ _, Below.refl _ _⟩
  case round =>
    obtain ⟨k, A1, c1, hk, rfl, rfl, HJ⟩ := hrel
    by_cases hlt : k < L.length
    · have hii : (k : Int) < (L.length : Int) := by omega
      obtain ⟨b, o, rfl, hb, -⟩ := HR.out.at_ hlt
      have hok := Lib.hid (HL.out.ok _ (List.getElem_mem hlt))
      have HRW := Lib.hid (HR.out.below HJ.out.2)
      have HS : Hid ((L.take (k + 1)).map (fun v => Key.typ (Key.dclean v)) = (L.take k).map (fun v => Key.typ (Key.dclean v)) ++ [Key.typ (Key.dclean L[k])]) := by show _ = _; rw [List.take_succ_eq_append_getElem hlt, List.map_append]; rfl
      have HLN : Hid (((L.take k).map fun v => Key.typ (Key.dclean v)).length = k) := by show _ = _; rw [List.length_map, List.length_take]; omega
      go_upto_region 5 with (first | (refine wpList_load_va_at rfl (.tmp 11) rfl HRW.out hlt rfl ?_) | (refine wpList_alloc_va rfl rfl ?_; intro W2 hb2 hz2 hB2) | (refine wpList_store_va rfl rfl (.tmp 5) (.tmp 12) rfl wr.heap.size rfl L[k] rfl hb2 ?_; intro W3 hb3 hg3))
      have hB3 : Below wr.heap.size wr W3 := below_of_grown hB2 hg3 (Nat.le_refl _) (by omega)
      have hz3 := hg3.size
      clear hb2 hz2 hB2 hg3
      go_wp2_with (refine wpList_load_va rfl (.tmp 5) rfl wr.heap.size rfl hb3 ?_)
      refine (dclean_any _ _ hok.out).mono ?_
      rintro e W4 ⟨rfl, hB4⟩
      have hBw := hB3.trans (hB4.mono hB3.size)
      have H4 := Lib.hid (And.intro (HJ.out.1.below hBw) (HJ.out.2.then hBw))
      clear hB4 hB3 hb3 hBw
      have hkd := Key.kind_dclean L[k]
      generalize hv : Key.dclean L[k] = v at HS hkd ⊢
      clear hv
      obtain ⟨vk, vn, vf, vs⟩ := v
      have HT : Hid (Key.typ ⟨vk, vn, vf, vs⟩ = if vk = 0 then 3 else vk) := rfl
      by_cases h0 : vk = 0
      · subst h0
        have HT2 : Hid (Key.typ ⟨0, vn, vf, vs⟩ = 3) := rfl
        rw [HT2.out] at HS
        clear HT HT2 hkd
        have H5 := Lib.hid (And.intro (H4.out.1.alloc (.cells #[.int .i64 3] 3)) (And.intro (ERow.lit eInt W4 3 #[.int .i64 3] rfl W4.heap.size rfl) (H4.out.2.trans ((Below.alloc1 W4 (.cells #[.int .i64 3] 3)).mono H4.out.2.size))))
        have hfd := va_field0 ⟨0, vn, vf, vs⟩
        simp only at hfd
        go_wp2_with (at_builtin; refine wpList_append_elems eInt rfl (.tmp 18) (.tmp 20) rfl _ rfl H5.out.1 HLN.out.symm _ rfl H5.out.2.1 rfl (by rw [HLN.out]; simp; omega) H5.out.2.2.size ?_; intro A6 c6 W6 ho6 hb6 _ _)
        have H6 := Lib.hid (And.intro ho6 (H5.out.2.2.trans hb6))
        clear ho6 hb6 H5 H4
        go_roundw
        case rel =>
          refine ⟨k + 1, A6, c6, by omega, ?_, by go_num, ?_⟩
          · rw [HS.out, List.length_append, HLN.out]; rfl
          · rw [HS.out]; exact H6.out
        case measure => simp [intOf]; omega
      · have HT2 : Hid (Key.typ ⟨vk, vn, vf, vs⟩ = vk) := by show _ = _; rw [HT.out, if_neg h0]
        rw [HT2.out] at HS
        have hne : (vk == 0) = false := by simp [h0]
        clear HT HT2 hkd h0
        have H5 := Lib.hid (And.intro (H4.out.1.alloc (.cells #[.int .i64 vk] 3)) (And.intro (ERow.lit eInt W4 vk #[.int .i64 vk] rfl W4.heap.size rfl) (H4.out.2.trans ((Below.alloc1 W4 (.cells #[.int .i64 vk] 3)).mono H4.out.2.size))))
        have hfd := va_field0 ⟨vk, vn, vf, vs⟩
        simp only at hfd
        go_wp2_with (at_builtin; refine wpList_append_elems eInt rfl (.tmp 18) (.tmp 20) rfl _ rfl H5.out.1 HLN.out.symm _ rfl H5.out.2.1 rfl (by rw [HLN.out]; simp; omega) H5.out.2.2.size ?_; intro A6 c6 W6 ho6 hb6 _ _)
        have H6 := Lib.hid (And.intro ho6 (H5.out.2.2.trans hb6))
        clear ho6 hb6 H5 H4
        go_roundw
        case rel =>
          refine ⟨k + 1, A6, c6, by omega, ?_, by go_num, ?_⟩
          · rw [HS.out, List.length_append, HLN.out]; rfl
          · rw [HS.out]; exact H6.out
        case measure => simp [intOf]; omega
    · obtain rfl : k = L.length := by omega
      have hlt2 : L.take L.length = L := List.take_length
      rw [hlt2] at HJ ⊢
      clear hlt2
      go_wp2_with fail
      go_ret
      exact ⟨A1, c1, rfl, HJ.out.1, HJ.out.2⟩
end Go.Proofs.YtknfnhmkiooifaaDoor
end

section
/-
  The document's answers: a value's part of a key, a key, a row.
-/
namespace Go.Proofs.YtknfnhmkiooifaaDoor
set_option linter.unusedSimpArgs false
set_option linter.unusedVariables false
open Go.RowKit

theorem bv_ofNat' (m : Int) (h : 0 ≤ m) (h2 : m < 256) : bv (UInt8.ofNat m.toNat) = .int .u8 m := by simp [bv]; omega
theorem refwbool_any (w : World) (x : Bool) : Calls Tryd.prog 62 #[.bool x] w fun e w' => e = .returned (txt [if x then 1 else 0]) ∧ w = w' := by
  cases x <;>
  · go_enter Tryd.func62, Tryd.ntmps62
    go_wp2_with fail
    go_ret
    exact ⟨rfl, rfl⟩
/-- A text is answered. -/
def RetS (w : World) (l : List UInt8) (e : Ending) (w' : World) : Prop := e = .returned (txt l) ∧ Below w.heap.size w w'
set_option maxRecDepth 20000 in
set_option maxHeartbeats 4000000 in
theorem refpart8_any (w : World) (v : Va) (hv : v.ok) (hs : v.s.length ≤ 1000) : Calls Tryd.prog 29 #[v.v] w (RetS w (Key.part (Key.dclean v))) := by
  have HV := Lib.hid hv
  have HOK := Lib.hid (Key.dclean_ok hv)
  have HCL := Lib.hid (Key.clean_of v)
  have hsl : (Key.dclean v).s.length ≤ 1000 := by
    unfold Key.dclean Key.cleanF Key.nul
    (repeat' split) <;> simp only <;> first | exact hs | exact Nat.zero_le _
  clear hv hs
  go_enter Tryd.func29, Tryd.ntmps29
  go_upto_region 1 with (refine wpList_box_va rfl (.tmp 0) rfl v rfl ?_; intro W1 hb1 hz1 hB1)
  go_wp2_with (refine wpList_load_va rfl (.tmp 1) rfl w.heap.size rfl hb1 ?_)
  refine (dclean_any _ v HV.out).mono ?_
  rintro e W2 ⟨rfl, hB2⟩
  have hb2 := hb1.below hB2
  have HB2 := Lib.hid (hB1.then hB2)
  clear hb1 hB2 hB1 hz1
  generalize hd : Key.dclean v = d at HOK HCL hsl ⊢
  have HD := Lib.hid hd
  clear hd
  go_upto_region 2 with (refine wpList_store_va rfl rfl (.tmp 1) (.tmp 6) rfl w.heap.size rfl d rfl hb2 ?_; intro W3 hb3 hg3)
  have HB3 := Lib.hid (below_of_grown HB2.out hg3 (Nat.le_refl _) HB2.out.size)
  clear hg3 hb2 HB2
  obtain ⟨c0, c1, c2, c3, -, -, -, -, -⟩ := Blk.c4 hb3
  obtain ⟨k, n, f, s⟩ := d
  simp only at c0 c1 c2 c3 hsl
  have hcat := run_cat
  rcases HCL.out.kind with rfl | rfl | rfl | rfl | rfl
  · have HP : Hid (Key.part ⟨0, n, f, s⟩ = [0]) := rfl
    clear hcat c1 c2 c3
    go_wp2_with fail
    go_ret
    exact ⟨congrArg (fun l => Ending.returned (txt l)) (HP.out.symm.trans (congrArg Key.part HD.out.symm)), HB3.out⟩
  · have HP : Hid (Key.part ⟨1, n, f, s⟩ = [1] ++ Key.id n) := rfl
    have HIL := Lib.hid (Key.id_length n)
    clear c2 c3
    have hj := fun w => hcat w [1] (Key.id n) (by rw [HIL.out]; decide)
    clear hcat
    go_wp2_with fail
    refine (refid_any _ n HOK.out.n1 HOK.out.n2).mono ?_
    rintro e W4 ⟨rfl, hB4⟩
    have HB4 := Lib.hid (HB3.out.then hB4)
    clear c0 c1 hB4
    have hj2 : (binOp .add 9 (.string ⟨#[1]⟩) (txt (Key.id n))).run Tryd.prog W4 = .ok (txt ([1] ++ Key.id n)) W4 := hj W4
    clear hj
    go_wp2_with fail
    go_ret
    exact ⟨congrArg (fun l => Ending.returned (txt l)) (HP.out.symm.trans (congrArg Key.part HD.out.symm)), HB4.out⟩
  · have HP : Hid (Key.part ⟨2, n, f, s⟩ = [1] ++ Wal.hi8 (Key.pbits f)) := rfl
    have HPT := Lib.hid (Key.pbits_top HOK.out.f1)
    clear c1 c3
    go_wp2_with fail
    refine (refbits_any _ f HOK.out.f1).mono ?_
    rintro e wq ⟨rfl, rfl⟩
    go_wp2_with fail
    refine (refhigh8 _ (Key.pbits f) HPT.out).mono ?_
    rintro e W4 ⟨rfl, hB4⟩
    have HB4 := Lib.hid (HB3.out.then hB4)
    clear c0 c2 hB4
    have hj2 : (binOp .add 9 (.string ⟨#[1]⟩) (txt (Wal.hi8 (Key.pbits f)))).run Tryd.prog W4 = .ok (txt ([1] ++ Wal.hi8 (Key.pbits f))) W4 := hcat W4 [1] _ (by rw [Wal.hi8_length]; decide)
    clear hcat
    go_wp2_with fail
    go_ret
    exact ⟨congrArg (fun l => Ending.returned (txt l)) (HP.out.symm.trans (congrArg Key.part HD.out.symm)), HB4.out⟩
  · have HP : Hid (Key.part ⟨3, n, f, s⟩ = 1 :: (Key.esc s ++ [0, 0])) := rfl
    have hsz : (ByteArray.mk s.toArray).size = s.length := by simp [ByteArray.size]
    have HE : Hid ((Key.esc s).length ≤ 2000) := Nat.le_trans (Key.esc_length s) (by omega)
    have HCAT := Lib.hid hcat
    clear c1 c2 hcat
    unfold txt at c3
    go_wp2_with fail
    go_loopw [3, 4] (fun sv iv wr => ∃ i : Nat, i ≤ s.length ∧ sv = txt (1 :: Key.esc (s.take i)) ∧ iv = .int .i64 (i : Int) ∧ Hid (wr = W3)) (fun _ iv _ => s.length - (intOf iv).toNat)
    case atStart => exact ⟨0, Nat.zero_le _, by simp; rfl, rfl, rfl⟩
    case round =>
      obtain ⟨i, hi, rfl, rfl, HJ⟩ := hrel
      obtain rfl : wr = W3 := HJ.out
      clear HJ
      have HEL : Hid ((1 :: Key.esc (s.take i)).length ≤ 2001) := by
        show _ ≤ _
        have := Key.esc_length (s.take i)
        rw [List.length_take] at this
        simp only [List.length_cons]; omega
      by_cases hlt : i < s.length
      · have hii : (i : Int) < (s.length : Int) := by omega
        have HT : Hid (1 :: Key.esc (s.take (i + 1)) = 1 :: (Key.esc (s.take i)) ++ (if s[i] = 0 then [0, 255] else [s[i]])) := by
          show _ = _
          rw [List.take_succ_eq_append_getElem hlt, Key.esc_append, Key.esc_cons, Key.esc_nil, List.append_nil]; rfl
        have hget : (ByteArray.mk s.toArray).data[i]? = some s[i] := by simp [hlt]
        have hi2 : i < (ByteArray.mk s.toArray).size := by rw [hsz]; exact hlt
        have hb : (ByteArray.mk s.toArray)[i]'hi2 = s[i] := by rfl
        have hx := s[i].toNat_lt
        have hcut := cut_one s i hlt
        have hcut2 : ByteArray.extract ⟨s.toArray⟩ i (i + 1) = ⟨[s[i]].toArray⟩ := hcut
        generalize Key.esc (s.take i) = acc at HEL HT ⊢
        by_cases h0 : s[i] = 0
        · have HT2 : Hid (1 :: Key.esc (s.take (i + 1)) = 1 :: acc ++ [0] ++ [255]) := by show _ = _; rw [HT.out, if_pos h0]; simp
          clear HT hcut
          obtain ⟨X, hX⟩ : ∃ X, 1 :: acc ++ [0] = X := ⟨_, rfl⟩
          obtain ⟨Y, hY⟩ : ∃ Y, X ++ [255] = Y := ⟨_, rfl⟩
          have hlX : X.length ≤ 2002 := by have := HEL.out; rw [← hX]; simp at this ⊢; omega
          have hj : (binOp .add 9 (txt (1 :: acc)) (.string ⟨#[0]⟩)).run Tryd.prog wr = .ok (txt X) wr := by rw [← hX]; exact HCAT.out wr (1 :: acc) [0] (by have := HEL.out; simp at this ⊢; omega)
          have hj2 : (binOp .add 9 (txt X) (.string ⟨#[255]⟩)).run Tryd.prog wr = .ok (txt Y) wr := by rw [← hY]; exact HCAT.out wr X [255] (by simp; omega)
          have HY : Hid (1 :: Key.esc (s.take (i + 1)) = Y) := by show _ = _; rw [HT2.out, hX, hY]
          clear hX hY hlX
          rw [h0] at hget hb hcut2
          clear h0
          have hx : (0 : UInt8).toNat = 0 := rfl
          go_wp2_with fail
          go_roundw
          case rel => exact ⟨i + 1, by omega, by rw [HY.out], by go_num, trivial⟩
          case measure => simp [intOf]; omega
        · have HT2 : Hid (1 :: Key.esc (s.take (i + 1)) = 1 :: acc ++ [s[i]]) := by show _ = _; rw [HT.out, if_neg h0]
          have n0 : ¬ (s[i].toNat : Int) = 0 := fun h => h0 (UInt8.toNat_inj.1 (by have e0 : (0 : UInt8).toNat = 0 := rfl; omega))
          clear h0 HT hcut
          have hj : (binOp .add 9 (txt (1 :: acc)) (.string ⟨[s[i]].toArray⟩)).run Tryd.prog wr = .ok (txt (1 :: acc ++ [s[i]])) wr := HCAT.out wr (1 :: acc) [s[i]] (by have := HEL.out; simp at this ⊢; omega)
          generalize s[i] = x at hget hb hx hcut2 HT2 n0 hj
          go_wp2_with fail
          go_roundw
          case rel => exact ⟨i + 1, by omega, by rw [HT2.out]; simp, by go_num, trivial⟩
          case measure => simp [intOf]; omega
      · obtain rfl : i = s.length := by omega
        have hts : s.take s.length = s := List.take_length
        rw [hts] at HEL ⊢
        clear hts
        have hj : (binOp .add 9 (txt (1 :: Key.esc s)) (.string ⟨#[0, 0]⟩)).run Tryd.prog wr = .ok (txt (1 :: Key.esc s ++ [0, 0])) wr := HCAT.out wr (1 :: Key.esc s) [0, 0] (by have := HEL.out; simp at this ⊢; omega)
        go_wp2_with fail
        go_ret
        exact ⟨congrArg (fun l => Ending.returned (txt l)) (HP.out.symm.trans (congrArg Key.part HD.out.symm)), HB3.out⟩
  · have hn : 0 ≤ n ∧ n < 256 := by have := HCL.out.bb rfl; simp only at this; omega
    have HP : Hid (Key.part ⟨4, n, f, s⟩ = [1, UInt8.ofNat n.toNat]) := rfl
    have hw8 : IntKind.u8.wrap n = n := IntWalk.u8_in _ (by omega)
    have hrow := BRow.one W3 (UInt8.ofNat n.toNat) (.int .u8 n) 5 (bv_ofNat' n hn.1 hn.2)
    have hcv := run_string_bytes _ 1 hrow
    simp only [List.length_singleton] at hcv
    have HB4 := Lib.hid (HB3.out.then (Below.alloc1 W3 (.cells #[.int .u8 n] 5)))
    have hj : ByteArray.mk #[1] ++ ByteArray.mk #[UInt8.ofNat n.toNat] = ⟨#[1, UInt8.ofNat n.toNat]⟩ := cut_join [1] [UInt8.ofNat n.toNat]
    clear hrow c2 c3
    unfold txt at hcv
    clear hcat
    go_wp2_with fail
    go_ret
    exact ⟨congrArg (fun l => Ending.returned (txt l)) (HP.out.symm.trans (congrArg Key.part HD.out.symm)), HB4.out⟩
theorem part_len' (v : Va) (h : v.s.length ≤ 1000) : (Key.part (Key.dclean v)).length ≤ 2003 := by rw [← Key.part_clean]; exact part_len v h
theorem key_snoc' (L : List Va) (k : Nat) (hk : k < L.length) : Key.key (L.take (k + 1)) = Key.key (L.take k) ++ Key.part (Key.dclean L[k]) := by rw [key_snoc L k hk, Key.part_clean]
theorem key_len' (L : List Va) (h : ∀ v ∈ L, v.s.length ≤ 1000) : (Key.key L).length ≤ 2003 * L.length := by
  induction L with
  | nil => simp [Key.key]
  | cons v L ih =>
    have h1 := part_len v (h v (by simp))
    have h2 := ih fun u hu => h u (by simp [hu])
    unfold Key.key at h2 ⊢
    rw [List.flatMap_cons, List.length_append, List.length_cons]
    omega
set_option maxRecDepth 20000 in
set_option maxHeartbeats 4000000 in
theorem refkey8_any (w : World) (A : Option Addr) (c : Nat) (L : List Va) (hr : ERow eVa w A L) (hf : Few L) : Calls Tryd.prog 26 #[.slice A L.length c] w (RetS w (Key.key L)) := by
  have HR := Lib.hid hr
  have HF := Lib.hid hf
  have hlen := hf.len
  clear hr hf
  go_enter Tryd.func26, Tryd.ntmps26
  go_wp2_with fail
  go_loopw [3, 4] (fun sv iv wr => ∃ k : Nat, k ≤ L.length ∧ sv = txt (Key.key (L.take k)) ∧ iv = .int .i64 (k : Int) ∧ Hid (Below w.heap.size w wr)) (fun _ iv _ => L.length - (intOf iv).toNat)
  case atStart => exact ⟨0, Nat.zero_le _, rfl, rfl, Below.refl _ _⟩
  case round =>
    obtain ⟨k, hk, rfl, rfl, HB⟩ := hrel
    by_cases hlt : k < L.length
    · have hii : (k : Int) < (L.length : Int) := by omega
      have HW := Lib.hid (HR.out.below HB.out)
      obtain ⟨b, o, rfl, hb, -⟩ := HW.out.at_ hlt
      have HM : Hid (L[k].ok ∧ L[k].s.length ≤ 1000) := ⟨HF.out.ok _ (List.getElem_mem hlt), Nat.le_trans (HF.out.short _ (List.getElem_mem hlt)) (by decide)⟩
      have HKL : Hid ((Key.key (L.take k)).length ≤ 3000000) := by
        show _ ≤ _
        have := key_len' (L.take k) fun v hv => Nat.le_trans (HF.out.short v (List.mem_of_mem_take hv)) (by decide)
        rw [List.length_take] at this
        have h2 : min k L.length ≤ 1000 := by omega
        have h3 := Nat.mul_le_mul_left 2003 h2
        omega
      have HS := Lib.hid (key_snoc' L k hlt)
      go_wp2_with (refine wpList_load_va_row rfl (.tmp 14) rfl HW.out hlt (fun b' o' e => by cases e; rfl) ?_)
      refine (refpart8_any _ L[k] HM.out.1 HM.out.2).mono ?_
      rintro e W2 ⟨rfl, hB2⟩
      have HPL := Lib.hid (part_len' L[k] HM.out.2)
      have HB2 := Lib.hid (HB.out.then hB2)
      have hj := run_cat W2 (Key.key (L.take k)) (Key.part (Key.dclean L[k])) (by have := HKL.out; have := HPL.out; omega)
      clear hB2 hb
      go_wp2_with fail
      go_roundw
      case rel => exact ⟨k + 1, by omega, by rw [HS.out], by go_num, HB2.out⟩
      case measure => simp [intOf]; omega
    · obtain rfl : k = L.length := by omega
      have hts : L.take L.length = L := List.take_length
      rw [hts]
      clear hts
      go_wp2_with fail
      go_ret
      exact ⟨rfl, HB.out⟩
end Go.Proofs.YtknfnhmkiooifaaDoor
end

section
/-
  The document's answer: a row's bytes.
-/
namespace Go.Proofs.YtknfnhmkiooifaaDoor
set_option linter.unusedSimpArgs false
set_option linter.unusedVariables false
open Go.RowKit

/-- The row's bytes so far. -/
def Key.rowTo (L : List Va) (k : Nat) : List UInt8 := Wire.num L.length ++ (L.take k).flatMap fun v => Key.rowOf (Key.clean v)
theorem Key.rowTo_len (L : List Va) (k : Nat) (hL : L.length ≤ 1000) (h : ∀ v ∈ L, v.s.length ≤ 1000) : (Key.rowTo L k).length ≤ 1100000 := by
  unfold Key.rowTo
  have h1 := Key.rows_len (L.take k) fun v hv => h v (List.mem_of_mem_take hv)
  have h2 := (Wire.num_length L.length).2
  rw [List.length_append]
  rw [List.length_take] at h1
  omega
set_option maxRecDepth 100000 in
set_option maxHeartbeats 8000000 in
theorem refrow8_any (w : World) (A : Option Addr) (c : Nat) (L : List Va) (hr : ERow eVa w A L) (hf : Few L) : Calls Tryd.prog 27 #[.slice A L.length c] w (RetS w (Key.row L)) := by
  have HR := Lib.hid hr
  have HF := Lib.hid hf
  have hlen := hf.len
  have hwl : IntKind.u64.wrap (L.length : Int) = (L.length : Int) := IntWalk.u64_in _ (by omega)
  have HRL := Lib.hid (fun k => Key.rowTo_len L k hf.len hf.short)
  clear hr hf
  go_enter Tryd.func27, Tryd.ntmps27
  go_wp2_with fail
  refine (refnum_all w L.length (by rw [two64_eq]; omega)).mono ?_
  rintro e W1 ⟨rfl, hB1⟩
  have HB1 := Lib.hid hB1
  clear hB1 hwl
  go_wp2_with fail
  go_loopw [3, 4] (fun sv iv wr => ∃ k : Nat, k ≤ L.length ∧ sv = txt (Key.rowTo L k) ∧ iv = .int .i64 (k : Int) ∧ Hid (Below w.heap.size w wr)) (fun _ iv _ => L.length - (intOf iv).toNat)
  case atStart => exact ⟨0, Nat.zero_le _, by unfold Key.rowTo; simp, rfl, HB1.out⟩
  case round =>
    obtain ⟨k, hk, rfl, rfl, HB⟩ := hrel
    by_cases hlt : k < L.length
    · have hii : (k : Int) < (L.length : Int) := by omega
      have HW := Lib.hid (HR.out.below HB.out)
      obtain ⟨b, o, rfl, hb, -⟩ := HW.out.at_ hlt
      have HM : Hid (L[k].ok ∧ L[k].s.length ≤ 1000) := ⟨HF.out.ok _ (List.getElem_mem hlt), HF.out.short _ (List.getElem_mem hlt)⟩
      have HS : Hid (Key.rowTo L (k + 1) = Key.rowTo L k ++ Key.rowOf (Key.dclean L[k])) := by
        show _ = _
        unfold Key.rowTo
        rw [Key.row_snoc L k hlt, Key.rowOf_clean, List.append_assoc]
      have HK1 : Hid ((Key.rowTo L k).length ≤ 1100000) := HRL.out k
      have HK2 : Hid ((Key.rowTo L (k + 1)).length ≤ 1100000) := HRL.out (k + 1)
      go_wp2_with (refine wpList_load_va_row rfl (.tmp 18) rfl HW.out hlt (fun b' o' e => by cases e; rfl) ?_)
      refine (dclean_any _ L[k] HM.out.1).mono ?_
      rintro e W2 ⟨rfl, hB2⟩
      have HB2 := Lib.hid (HB.out.then hB2)
      have HOK := Lib.hid (Key.dclean_ok HM.out.1)
      have HCL := Lib.hid (Key.clean_of L[k])
      have HSL : Hid ((Key.dclean L[k]).s.length ≤ 1000) := by
        show _ ≤ _
        unfold Key.dclean Key.cleanF Key.nul
        (repeat' split) <;> simp only <;> first | exact HM.out.2 | exact Nat.zero_le _
      clear hB2 hb HM HW
      generalize Key.dclean L[k] = d at HS HOK HCL HSL ⊢
      generalize Key.rowTo L k = acc at HS HK1 ⊢
      generalize hnx : Key.rowTo L (k + 1) = nxt at HS HK2
      have HNX := Lib.hid hnx
      clear hnx
      go_upto_region 6 with (first | (refine wpList_alloc_va rfl rfl ?_; intro W3 hb3 hz3 hB3) | (refine wpList_store_va rfl rfl (.tmp 5) (.tmp 20) rfl W2.heap.size rfl d rfl hb3 ?_; intro W4 hb4 hg4))
      have HB4 := Lib.hid (below_of_grown (HB2.out.then hB3) hg4 HB2.out.size (Nat.le_trans HB2.out.size hB3.size))
      clear hb3 hz3 hB3 hg4
      generalize W2.heap.size = g at hb4 ⊢
      have hcat := run_cat
      obtain ⟨kd, n, f, st⟩ := d
      obtain ⟨e0, e1, e2, e3, -, -, -, -, hg⟩ := Blk.c4 hb4
      simp only at e0 e1 e2 e3 HSL
      have hki := HCL.out.kind
      simp only at hki
      obtain ⟨acc1, hacc⟩ : ∃ acc1, acc ++ [UInt8.ofNat kd.toNat] = acc1 := ⟨_, rfl⟩
      have HA1 : Hid (acc1.length ≤ 1100001) := by show _ ≤ _; rw [← hacc]; have := HK1.out; simp; omega
      have hfin : ∀ p, Key.pay ⟨kd, n, f, st⟩ = p → nxt = acc1 ++ p := by
        intro p hp
        rw [HS.out, ← hacc, ← hp]
        simp [Key.rowOf]
      have HFN := Lib.hid hfin
      clear hfin
      have HKB : Hid (0 ≤ kd ∧ kd < 256) := by show _ ∧ _; omega
      have hw8 : IntKind.u8.wrap kd = kd := IntWalk.u8_in _ (by omega)
      have hrow := BRow.one W4 (UInt8.ofNat kd.toNat) (.int .u8 kd) 5 (bv_ofNat' kd HKB.out.1 HKB.out.2)
      have hcv := run_string_bytes _ 1 hrow
      simp only [List.length_singleton] at hcv
      have HB5 := Lib.hid (HB4.out.then (Below.alloc1 W4 (.cells #[.int .u8 kd] 5)))
      have hb5 := hb4.alloc (.cells #[.int .u8 kd] 5)
      have hj := hcat (W4.alloc (.cells #[.int .u8 kd] 5)) acc [UInt8.ofNat kd.toNat] (by have := HK1.out; simp; omega)
      rw [hacc] at hj
      clear hrow hcat hacc
      have HKI := Lib.hid hki
      clear hki
      clear e1 e2 e3
      go_upto_region 7 with fail
      clear e0 hcv hj hw8 hb4 HB4
      obtain ⟨d0, d1, d2, d3, -, -, -, -, -⟩ := Blk.c4 hb5
      clear hb5
      generalize World.alloc W4 _ = W5 at d0 d1 d2 d3 HB5 ⊢
      have hpay : Hid (∀ Z p, Key.pay ⟨kd, n, f, st⟩ = p → acc1 ++ p = Z → nxt = Z) := fun Z p h1 h2 => by rw [HFN.out p h1, h2]
      clear HFN HS
      rcases HKI.out with rfl | rfl | rfl | rfl | rfl
      · have HZ : Hid (nxt = acc1) := hpay.out acc1 [] rfl (by simp)
        clear d1 d2 d3
        go_wp2_with fail
        go_roundw
        case rel => exact ⟨k + 1, by omega, by rw [HNX.out, HZ.out], by go_num, HB5.out⟩
        case measure => simp [intOf]; omega
      · clear d2 d3
        go_wp2_with fail
        clear d0 d1
        refine (refint_any _ n HOK.out.n1 HOK.out.n2).mono ?_
        rintro e W6 ⟨rfl, hB6⟩
        obtain ⟨Z, hZ⟩ : ∃ Z, acc1 ++ Wire.num (Wire.ofInt n) = Z := ⟨_, rfl⟩
        have hj := run_cat W6 acc1 (Wire.num (Wire.ofInt n)) (by have := (Wire.num_length (Wire.ofInt n)).2; have := HA1.out; omega)
        rw [hZ] at hj
        have HZ : Hid (nxt = Z) := hpay.out Z (Wire.num (Wire.ofInt n)) rfl hZ
        have HB6 := Lib.hid (HB5.out.then hB6)
        clear hZ hB6
        go_wp2_with fail
        go_roundw
        case rel => exact ⟨k + 1, by omega, by rw [HNX.out, HZ.out], by go_num, HB6.out⟩
        case measure => simp [intOf]; omega
      · clear d1 d3
        have hpt := Key.pbits_top HOK.out.f1
        have hpt' : Key.pbits f < two64 := by rw [two64_eq]; exact hpt
        have HPT := Lib.hid hpt'
        clear hpt hpt'
        go_wp2_with fail
        refine (refbits_any _ f HOK.out.f1).mono ?_
        rintro e wq ⟨rfl, rfl⟩
        go_wp2_with fail
        clear d0 d2
        refine (refnum_all _ (Key.pbits f) HPT.out).mono ?_
        rintro e W6 ⟨rfl, hB6⟩
        obtain ⟨Z, hZ⟩ : ∃ Z, acc1 ++ Wire.num (Key.pbits f) = Z := ⟨_, rfl⟩
        have hj := run_cat W6 acc1 (Wire.num (Key.pbits f)) (by have := (Wire.num_length (Key.pbits f)).2; have := HA1.out; omega)
        rw [hZ] at hj
        have HZ : Hid (nxt = Z) := hpay.out Z (Wire.num (Key.pbits f)) rfl hZ
        have HB6 := Lib.hid (HB5.out.then hB6)
        clear hZ hB6
        go_wp2_with fail
        go_roundw
        case rel => exact ⟨k + 1, by omega, by rw [HNX.out, HZ.out], by go_num, HB6.out⟩
        case measure => simp [intOf]; omega
      · clear d1 d2
        go_wp2_with fail
        clear d0 d3
        refine (reftext_any _ st (Nat.le_trans HSL.out (by decide))).mono ?_
        rintro e W6 ⟨rfl, hB6⟩
        obtain ⟨Z, hZ⟩ : ∃ Z, acc1 ++ Wire.text st = Z := ⟨_, rfl⟩
        have hj := run_cat W6 acc1 (Wire.text st) (by have := Key.text_len st; have := HA1.out; have := HSL.out; omega)
        rw [hZ] at hj
        have HZ : Hid (nxt = Z) := hpay.out Z (Wire.text st) rfl hZ
        have HB6 := Lib.hid (HB5.out.then hB6)
        clear hZ hB6
        go_wp2_with fail
        go_roundw
        case rel => exact ⟨k + 1, by omega, by rw [HNX.out, HZ.out], by go_num, HB6.out⟩
        case measure => simp [intOf]; omega
      · clear d2 d3
        obtain ⟨x, hx⟩ : ∃ x, (n == 1) = x := ⟨_, rfl⟩
        have HX := Lib.hid hx
        go_wp2_with fail
        clear d0 d1 hx
        refine (refwbool_any _ x).mono ?_
        rintro e W6 ⟨rfl, rfl⟩
        obtain ⟨Z, hZ⟩ : ∃ Z, acc1 ++ [if x then 1 else 0] = Z := ⟨_, rfl⟩
        have hj := run_cat W5 acc1 [if x then 1 else 0] (by have := HA1.out; simp; omega)
        have hpp : Key.pay ⟨4, n, f, st⟩ = [if x then 1 else 0] := by
          have : Key.pay ⟨4, n, f, st⟩ = [if n = 1 then 1 else 0] := rfl
          rw [this, ← HX.out]
          by_cases h1 : n = 1 <;> simp [h1]
        have HPP := Lib.hid hpp
        clear hpp
        rw [hZ] at hj
        have HZ : Hid (nxt = Z) := hpay.out Z _ HPP.out hZ
        clear hZ HPP
        generalize [if x = true then (1 : UInt8) else 0] = px at hj ⊢
        go_wp2_with fail
        go_roundw
        case rel => exact ⟨k + 1, by omega, by rw [HNX.out, HZ.out], by go_num, HB5.out⟩
        case measure => simp [intOf]; omega
    · obtain rfl : k = L.length := by omega
      have hts : Key.rowTo L L.length = Key.row L := by unfold Key.rowTo Key.row; rw [List.take_length]
      rw [hts]
      clear hts
      go_wp2_with fail
      go_ret
      exact ⟨rfl, HB.out⟩
end Go.Proofs.YtknfnhmkiooifaaDoor
end

section
/-
  The walk of dowserlaw08.KeyWrites: whatever the values, it answers true.
-/
namespace Go.Proofs.YtknfnhmkiooifaaDoor
set_option linter.unusedSimpArgs false
set_option linter.unusedVariables false
open Go.RowKit

theorem good_of {L : List Va} (h : Few L) : ∀ v ∈ L.map Key.dclean, Key.Good v := fun v hv => by
  obtain ⟨u, hu, rfl⟩ := List.mem_map.1 hv
  exact ⟨Key.dclean_ok (h.ok u hu), Key.clean_of u⟩
set_option maxRecDepth 100000 in
set_option maxHeartbeats 8000000 in
theorem keyWrites_walk (w : World) (v0 : Value) (h0 : ValsW w v0) (B : Option Addr) (d : Nat) (t : List UInt8) (hr : BRow w B t) (hlc : t.length ≤ d) (hcm : d ≤ maxLen) :
    Calls Tryd.prog 8 #[v0, .slice B t.length d] w fun e w' => e = .returned (.bool true) ∧ Below w.heap.size w w' := by
  obtain ⟨A, c, L, rfl, hra, hia, hca, hma⟩ := h0
  have HA := Lib.hid hra
  have HB := Lib.hid hr
  have HIA := Lib.hid hia
  have HCA := Lib.hid (And.intro hca hma)
  clear hra hr hia hca hma hlc hcm
  go_enter Tryd.func8, Tryd.ntmps8
  go_wp2_with fail
  refine (klives_any _).mono ?_
  rintro e w1 ⟨rfl, hb1⟩
  have H1 := Lib.hid hb1
  clear hb1
  go_wp2_with fail
  refine (short_any _ A c L (HA.out.below H1.out) HIA.out HCA.out.1 HCA.out.2).mono ?_
  rintro e w2 ⟨rfl, hb2⟩
  have H2 := Lib.hid (H1.out.then hb2)
  clear hb2 H1
  cases hs : shortB L with
  | false =>
    go_wp2_with fail
    refine (klives_any _).mono ?_
    rintro e w3 ⟨rfl, hb3⟩
    go_wp2_with fail
    go_ret
    exact ⟨rfl, H2.out.then hb3⟩
  | true =>
  have HF := Lib.hid (few_of hs HIA.out)
  clear hs HIA HCA
  by_cases ht3 : 300 < t.length
  · have hti : (300 : Int) < (t.length : Int) := by omega
    go_wp2_with fail
    refine (klives_any _).mono ?_
    rintro e w3 ⟨rfl, hb3⟩
    go_wp2_with fail
    go_ret
    exact ⟨rfl, H2.out.then hb3⟩
  have hti : ¬ (300 : Int) < (t.length : Int) := by omega
  have HTL := Lib.hid (show t.length ≤ 300 by omega)
  have hL20 := HF.out.2.1
  have HW8 := Lib.hid (show ∀ v ∈ L, v.s.length ≤ 1000 from HF.out.1.short)
  go_wp2_with fail
  refine (key_any _ A c L (HA.out.below H2.out) HF.out.1).mono ?_
  rintro e w3 ⟨A3, c3, rfl, ho3, hb3⟩
  have H3 := Lib.hid (And.intro ho3.row (H2.out.then hb3))
  clear ho3 hb3 H2
  go_wp2_with fail
  refine (row_any _ A c L (HA.out.below H3.out.2) HF.out.1).mono ?_
  rintro e w4 ⟨A4, c4, rfl, ho4, hb4⟩
  have H4 := Lib.hid (And.intro (H3.out.1.below hb4) (And.intro ho4.row (H3.out.2.then hb4)))
  clear ho4 hb4 H3
  have kne := run_str_ne
  have gne := eqg_ne
  have hk1 : (!(Key.key L == Key.key L)) = false := by simp
  have hk2 : (!(Key.row L == Key.row L)) = false := by simp
  have HKL : Hid ((Key.key L).length ≤ 100000) := by
    show _ ≤ _
    have := key_len' L HW8.out
    omega
  have HRL : Hid ((Key.row L).length ≤ 100000) := by
    show _ ≤ _
    have h1 := Key.rows_len L HW8.out
    have h2 := (Wire.num_length L.length).2
    unfold Key.row
    rw [List.length_append]
    omega
  have hd4 : Below w.heap.size w w4.drew := H4.out.2.2.trans ((Below.refl w4.heap.size w4).drewR.mono H4.out.2.2.size)
  have HD4 := Lib.hid hd4
  clear hd4
  have hs4 : (convert 30 9 (.slice A3 (Key.key L).length c3)).run Tryd.prog w4.drew = .ok (txt (Key.key L)) w4.drew := run_string_bytes _ c3 (H4.out.1.below (Below.refl w4.heap.size w4).drewR)
  go_upto_region 4 with fail
  refine wp_region_plan (.take 0 (.take 1 (.take 2 (.run 3 [0, 1] (.take 4 (.take 5 (.take 6 (.take 7 (.take 8 (.run 9 [6, 7] (.take 10 (.take 11 .fin)))))))))))) (by kernel_rfl) (by kernel_rfl) (by kernel_rfl) (by kernel_rfl) ?_
  repeat' (first | (refine hZ _ _ ?_; clear hZ) | (refine hZ _ ?_; clear hZ) | (refine hZ ?_; clear hZ) | rw [again_nil] | rw [walk_fin] | ((first | rw [walk_take] | rw [walk_run] | rw [again_cons]); intro Z hZ; simp only [sel, List.getElem?_toArray, List.getElem?_cons_zero, List.getElem?_cons_succ]; go_wp2_with (fail)))
  refine (refkey8_any _ A c L (HA.out.below HD4.out) HF.out.1).mono ?_
  rintro e w5 ⟨rfl, hb5⟩
  have H5 := Lib.hid (And.intro (H4.out.1.below ((Below.refl w4.heap.size w4).drewR.then hb5)) (And.intro (H4.out.2.1.below ((Below.refl w4.heap.size w4).drewR.then hb5)) (HD4.out.then hb5)))
  clear hb5 hs4 HD4
  have hs5 : (convert 30 9 (.slice A3 (Key.key L).length c3)).run Tryd.prog w5 = .ok (txt (Key.key L)) w5 := run_string_bytes _ c3 H5.out.1
  have ht5 : (convert 30 9 (.slice A4 (Key.row L).length c4)).run Tryd.prog w5 = .ok (txt (Key.row L)) w5 := run_string_bytes _ c4 H5.out.2.1
  go_wp2_with fail
  repeat' (first | (refine hZ _ _ ?_; clear hZ) | (refine hZ _ ?_; clear hZ) | (refine hZ ?_; clear hZ) | rw [again_nil] | rw [walk_fin] | ((first | rw [walk_take] | rw [walk_run] | rw [again_cons]); intro Z hZ; simp only [sel, List.getElem?_toArray, List.getElem?_cons_zero, List.getElem?_cons_succ]; go_wp2_with (fail)))
  refine (refrow8_any _ A c L (HA.out.below H5.out.2.2) HF.out.1).mono ?_
  rintro e w6 ⟨rfl, hb6⟩
  have H6 := Lib.hid (And.intro (H5.out.1.below hb6) (And.intro (H5.out.2.1.below hb6) (H5.out.2.2.then hb6)))
  clear hb6 hs5 ht5 H5
  have hs6 : (convert 30 9 (.slice A3 (Key.key L).length c3)).run Tryd.prog w6 = .ok (txt (Key.key L)) w6 := run_string_bytes _ c3 H6.out.1
  have ht6 : (convert 30 9 (.slice A4 (Key.row L).length c4)).run Tryd.prog w6 = .ok (txt (Key.row L)) w6 := run_string_bytes _ c4 H6.out.2.1
  go_wp2_with fail
  repeat' (first | (refine hZ _ _ ?_; clear hZ) | (refine hZ _ ?_; clear hZ) | (refine hZ ?_; clear hZ) | rw [again_nil] | rw [walk_fin] | ((first | rw [walk_take] | rw [walk_run] | rw [again_cons]); intro Z hZ; simp only [sel, List.getElem?_toArray, List.getElem?_cons_zero, List.getElem?_cons_succ]; go_wp2_with (fail)))
  clear hs6 ht6 hk1 hk2 H4
  have hl20 : ((L.length : Nat) : Int) ≤ 20 := by omega
  go_wp2_with fail
  go_loopw [45] (fun iv wr => ∃ k : Nat, k ≤ L.length ∧ iv = .int .i64 (k : Int) ∧ Hid ((∀ i (h : i < L.length), i < k → (Key.dclean L[i]).s.length ≤ 512) ∧ Below w6.heap.size w6 wr)) (fun iv _ => L.length - (intOf iv).toNat)
  case atStart => exact ⟨0, Nat.zero_le _, rfl, by intro i _ h; omega, Below.refl _ _⟩
  case round =>
    obtain ⟨k, hk, rfl, HJ⟩ := hrel
    by_cases hlt : k < L.length
    · have hii : (k : Int) < (L.length : Int) := by omega
      have HRW := Lib.hid (HA.out.below (H6.out.2.2.then HJ.out.2))
      obtain ⟨b, o, rfl, hb, -⟩ := HA.out.at_ hlt
      have HM : Hid (L[k].ok ∧ L[k].s.length ≤ 1000) := ⟨HF.out.1.ok _ (List.getElem_mem hlt), HF.out.1.short _ (List.getElem_mem hlt)⟩
      go_upto_region 9 with (first | (refine wpList_load_va_at rfl (.tmp 47) rfl HRW.out hlt rfl ?_) | (refine wpList_alloc_va rfl rfl ?_; intro W2 hb2 hz2 hB2) | (refine wpList_store_va rfl rfl (.tmp 8) (.tmp 48) rfl wr.heap.size rfl L[k] rfl hb2 ?_; intro W3 hb3 hg3))
      have HB3 : Hid (Below wr.heap.size wr W3) := below_of_grown hB2 hg3 (Nat.le_refl _) (by omega)
      clear hb2 hz2 hB2 hg3 HRW hb
      generalize wr.heap.size = gv at hb3 ⊢
      have hb3d := hb3.drew
      refine wp_region_plan (.take 0 (.take 3 (.run 1 [3] (.take 2 (.run 4 [2] (.take 5 (.take 6 (.take 7 (.run 8 [] (.take 9 (.take 10 (.take 11 (.take 12 .fin))))))))))))) (by kernel_rfl) (by kernel_rfl) (by kernel_rfl) (by kernel_rfl) ?_
      repeat' (first | (refine hZ _ _ ?_; clear hZ) | (refine hZ _ ?_; clear hZ) | (refine hZ ?_; clear hZ) | rw [again_nil] | rw [walk_fin] | ((first | rw [walk_take] | rw [walk_run] | rw [again_cons]); intro Z hZ; simp only [sel, List.getElem?_toArray, List.getElem?_cons_zero, List.getElem?_cons_succ]; go_wp2_with (refine wpList_load_va rfl (.tmp 8) rfl gv rfl hb3d ?_)))
      refine (part_any _ L[k] HM.out.1 HM.out.2).mono ?_
      rintro e W4 ⟨A5, c5, rfl, hr5, -, hB4⟩
      have HB4 : Hid (Below wr.heap.size wr W4) := HB3.out.trans ((Below.refl W3.heap.size W3).drewR.then hB4 |>.mono HB3.out.size)
      have HR5 := Lib.hid hr5
      have hb4 := hb3d.below hB4
      clear hr5 hB4 hb3 hb3d
      have hs7 : (convert 30 9 (.slice A5 (Key.part (Key.clean L[k])).length c5)).run Tryd.prog W4 = .ok (txt (Key.part (Key.clean L[k]))) W4 := run_string_bytes _ c5 HR5.out
      go_wp2_with fail
      repeat' (first | (refine hZ _ _ ?_; clear hZ) | (refine hZ _ ?_; clear hZ) | (refine hZ ?_; clear hZ) | rw [again_nil] | rw [walk_fin] | ((first | rw [walk_take] | rw [walk_run] | rw [again_cons]); intro Z hZ; simp only [sel, List.getElem?_toArray, List.getElem?_cons_zero, List.getElem?_cons_succ]; go_wp2_with (refine wpList_load_va rfl (.tmp 8) rfl gv rfl hb4 ?_)))
      refine (refpart8_any _ L[k] HM.out.1 HM.out.2).mono ?_
      rintro e W5 ⟨rfl, hB5⟩
      have HB5 := Lib.hid (HB4.out.trans (hB5.mono HB4.out.size))
      have HR6 := Lib.hid (HR5.out.below hB5)
      have hb5 := hb4.below hB5
      clear hs7 hB5 hb4 HR5 HB4 HB3
      have hs8 : (convert 30 9 (.slice A5 (Key.part (Key.clean L[k])).length c5)).run Tryd.prog W5 = .ok (txt (Key.part (Key.clean L[k]))) W5 := run_string_bytes _ c5 HR6.out
      have hpk : (!(Key.part (Key.clean L[k]) == Key.part (Key.dclean L[k]))) = false := by rw [Key.part_clean]; simp
      obtain ⟨e0, e1, e2, e3, -, -, -, -, -⟩ := Blk.c4 hb5
      go_wp2_with fail
      repeat' (first | (refine hZ _ _ ?_; clear hZ) | (refine hZ _ ?_; clear hZ) | (refine hZ ?_; clear hZ) | rw [again_nil] | rw [walk_fin] | ((first | rw [walk_take] | rw [walk_run] | rw [again_cons]); intro Z hZ; simp only [sel, List.getElem?_toArray, List.getElem?_cons_zero, List.getElem?_cons_succ]; go_wp2_with (first | (refine wpList_load_va rfl (.tmp 8) rfl gv rfl hb5 ?_))))
      clear e0 e1 e2 e3
      refine (dclean_any _ L[k] HM.out.1).mono ?_
      rintro e W6 ⟨rfl, hB6⟩
      have HB6 := Lib.hid (HB5.out.trans (hB6.mono HB5.out.size))
      have HR7 := Lib.hid (HR6.out.below hB6)
      have hb6 := hb5.below hB6
      clear hs8 hB6 hb5 HR6 HB5
      have hs9 : (convert 30 9 (.slice A5 (Key.part (Key.clean L[k])).length c5)).run Tryd.prog W6 = .ok (txt (Key.part (Key.clean L[k]))) W6 := run_string_bytes _ c5 HR7.out
      have hfd := va_field3 (Key.dclean L[k])
      obtain ⟨ts, hts⟩ : ∃ ts, (Key.dclean L[k]).s = ts := ⟨_, rfl⟩
      rw [hts] at hfd
      unfold txt at hfd
      have HTS := Lib.hid hts
      clear hts
      have HFD := Lib.hid hfd
      obtain ⟨e0, e1, e2, e3, -, -, -, -, -⟩ := Blk.c4 hb6
      have hsz : (ByteArray.mk ts.toArray).size = ts.length := by simp [ByteArray.size]
      by_cases h512 : 512 < ts.length
      · have h5i : (512 : Int) < (ts.length : Int) := by omega
        go_wp2_with fail
        repeat' (first | (refine hZ _ _ ?_; clear hZ) | (refine hZ _ ?_; clear hZ) | (refine hZ ?_; clear hZ) | rw [again_nil] | rw [walk_fin] | ((first | rw [walk_take] | rw [walk_run] | rw [again_cons]); intro Z hZ; simp only [sel, List.getElem?_toArray, List.getElem?_cons_zero, List.getElem?_cons_succ]; go_wp2_with (first | (refine wpList_load_va rfl (.tmp 8) rfl gv rfl hb6 ?_))))
        clear hfd e0 e1 e2 e3 hs9
        go_wp2_with (refine wpList_load_va rfl (.tmp 8) rfl gv rfl hb6 ?_)
        refine (dclean_any _ L[k] HM.out.1).mono ?_
        rintro e W7 ⟨rfl, hB7⟩
        have hfd := HFD.out
        go_wp2_with fail
        go_ret
        exact ⟨rfl, (H6.out.2.2.then HJ.out.2).trans ((HB6.out.trans (hB7.mono HB6.out.size)).mono (Nat.le_trans H6.out.2.2.size HJ.out.2.size))⟩
      · have h5i : ¬ (512 : Int) < (ts.length : Int) := by omega
        go_wp2_with fail
        repeat' (first | (refine hZ _ _ ?_; clear hZ) | (refine hZ _ ?_; clear hZ) | (refine hZ ?_; clear hZ) | rw [again_nil] | rw [walk_fin] | ((first | rw [walk_take] | rw [walk_run] | rw [again_cons]); intro Z hZ; simp only [sel, List.getElem?_toArray, List.getElem?_cons_zero, List.getElem?_cons_succ]; go_wp2_with (first | (refine wpList_load_va rfl (.tmp 8) rfl gv rfl hb6 ?_))))
        clear hfd e0 e1 e2 e3 hs9
        go_wp2_with fail
        go_roundw
        case rel =>
          refine ⟨k + 1, by omega, by go_num, ?_, HJ.out.2.then HB6.out⟩
          intro i hi hik
          by_cases h : i < k
          · exact HJ.out.1 i hi h
          · obtain rfl : i = k := by omega
            rw [HTS.out]; omega
        case measure => simp [intOf]; omega
    · obtain rfl : k = L.length := by omega
      have HX : Hid (∀ v ∈ L.map Key.dclean, Key.Good v ∧ v.s.length ≤ 512) := fun v hv => ⟨good_of HF.out.1 v hv, by
        obtain ⟨i, hi, rfl⟩ := List.getElem_of_mem hv
        have hi' : i < L.length := by simpa using hi
        have := HJ.out.1 i hi' hi'
        simpa using this⟩
      have HWR := Lib.hid (And.intro (H6.out.1.below HJ.out.2) (And.intro (H6.out.2.1.below HJ.out.2) (H6.out.2.2.then HJ.out.2)))
      clear HJ H6
      go_wp2_with fail
      refine (ltypes_any _ A c L (HA.out.below HWR.out.2.2) HF.out.1).mono ?_
      rintro e W1 ⟨T, ct, rfl, hot, hB1⟩
      have HQ := Lib.hid (And.intro hot.row (And.intro (HWR.out.1.below hB1) (And.intro (HWR.out.2.1.below hB1) (HWR.out.2.2.then hB1))))
      clear hot hB1 HWR
      have HLT : Hid ((L.map fun v => Key.typ (Key.dclean v)).length = L.length) := by show _ = _; simp
      have hoe : BOwn (W1.alloc (.cells #[] 5)) W1.heap.size (some ⟨W1.heap.size, 0, none⟩) 0 [] := BOwn.new W1 [] (by simp) (Nat.le_refl _)
      have HOE := Lib.hid (And.intro hoe (Below.alloc1 W1 (.cells #[] 5)))
      clear hoe
      have hkb := (HQ.out.2.1.below HOE.out.2)
      have HKB := Lib.hid hkb
      clear hkb
      have HTB := Lib.hid ((HB.out.below HQ.out.2.2.2).below HOE.out.2)
      go_wp2_with (first | (at_builtin; refine wpList_append_bytes rfl (.tmp 71) (.tmp 72) rfl _ rfl HOE.out.1 rfl _ rfl HKB.out rfl (by have := HKL.out; simp; omega) HOE.out.2.size ?_; intro A8 c8 W8 ho8 hb8 _ _) | (at_builtin; refine wpList_append_bytes rfl (.tmp 73) (.tmp 74) rfl _ rfl ho8 (by simp) _ rfl ((HB.out.below HQ.out.2.2.2).below (HOE.out.2.trans hb8)) rfl (by have := HKL.out; simp; omega) (HOE.out.2.trans hb8).size ?_; intro A9 c9 W9 ho9 hb9 _ _))
      have HB9 := Lib.hid ((HOE.out.2.trans hb8).trans hb9)
      have ho9' : BOwn W9 W1.heap.size A9 c9 (Key.key L ++ t) := by simpa using ho9
      have HBR : Hid (BRow W9 A9 (Key.key L ++ t) ∧ (Key.key L ++ t).length ≤ c9) := ⟨ho9'.row, ho9'.cap⟩
      clear ho8 hb8 ho9 hb9 ho9' HKB HOE HTB
      have hkx := Key.read_key (L.map Key.dclean) (fun v hv => (HX.out v hv).1) [] [] t trivial
      rw [← Key.key_clean, List.map_map] at hkx
      obtain ⟨R, hR, hAl⟩ := hkx
      have HRD : Hid (Key.readA [] (L.map fun v => Key.typ (Key.dclean v)) (Key.key L ++ t) = (R, t, 0)) := hR
      have HAR : Hid (Key.Alike R (L.map Key.dclean)) := by show Key.Alike _ _; simpa using hAl
      clear hR hAl
      have K := kread_any W9 T A9 ct c9 (L.map fun v => Key.typ (Key.dclean v)) (Key.key L ++ t) (HQ.out.1.below HB9.out) HBR.out.1 (by rw [HLT.out]; omega) HBR.out.2 (by have := HKL.out; have := HTL.out; rw [List.length_append]; omega)
      rw [HRD.out, HLT.out, List.length_append] at K
      refine K.mono ?_
      clear K
      rintro e V1 ⟨B1, d1, B2, d2, rfl, hx1, hr1, hBv⟩
      have H1 := Lib.hid (And.intro hx1 (And.intro hr1 (And.intro ((HQ.out.2.2.1.below HB9.out).below hBv) ((HQ.out.2.2.2.then HB9.out).then hBv))))
      clear hx1 hr1 hBv HBR HB9 HQ
      dsimp only
      have hrx := Key.read_row (L.map Key.dclean) HX.out (by simp; omega)
      rw [← Key.row_clean] at hrx
      obtain ⟨R2, hR2, hAl2⟩ := hrx
      have HRR := Lib.hid hR2
      have HAR2 := Lib.hid hAl2
      clear hR2 hAl2
      go_wp2_with fail
      have K := kreadrow_any V1 A4 c4 (Key.row L) H1.out.2.2.1 (by have := HRL.out; omega)
      rw [HRR.out] at K
      refine K.mono ?_
      clear K
      rintro e V2 ⟨B3, d3, rfl, hx2, hBv⟩
      have H2 := Lib.hid (And.intro (H1.out.1.below hBv) (And.intro (H1.out.2.1.below hBv) (And.intro hx2 (H1.out.2.2.2.then hBv))))
      clear hx2 hBv H1
      dsimp only
      have HRL1 : Hid (R.length ≤ 1000) := by show _ ≤ _; rw [HAR.out.len, List.length_map]; omega
      have HRL2 : Hid (R2.length ≤ 1000) := by show _ ≤ _; rw [HAR2.out.len, List.length_map]; omega
      have HML : Hid ((L.map Key.dclean).length = L.length) := List.length_map ..
      have keq := run_str_eq
      have geq := eqg_eq
      have htt : (t == t) = true := by simp
      clear kne gne
      go_wp2_with fail
      refine (lclean_any _ A c L (HA.out.below H2.out.2.2.2) HF.out.1).mono ?_
      rintro e V3 ⟨B4, d4, rfl, ho4, hBv⟩
      have H3 := Lib.hid (And.intro (H2.out.1.below hBv) (And.intro (H2.out.2.1.below hBv) (And.intro (H2.out.2.2.1.below hBv) (And.intro ho4.row (H2.out.2.2.2.then hBv)))))
      clear ho4 hBv H2
      rw [HML.out]
      go_wp2_with fail
      have K := lexact_alike V3 B1 B4 d1 d4 R (L.map Key.dclean) H3.out.1 H3.out.2.2.2.1 HAR.out HRL1.out
      rw [HML.out] at K
      refine K.mono ?_
      clear K
      rintro e V4 ⟨rfl, hBv⟩
      have H4 := Lib.hid (And.intro (H3.out.2.1.below hBv) (And.intro (H3.out.2.2.1.below hBv) (H3.out.2.2.2.2.then hBv)))
      clear hBv H3
      go_wp2_with fail
      refine (lclean_any _ A c L (HA.out.below H4.out.2.2) HF.out.1).mono ?_
      rintro e V5 ⟨B5, d5, rfl, ho5, hBv⟩
      have H5 := Lib.hid (And.intro (H4.out.1.below hBv) (And.intro (H4.out.2.1.below hBv) (And.intro ho5.row (H4.out.2.2.then hBv))))
      clear ho5 hBv H4
      rw [HML.out]
      go_wp2_with fail
      have K := lexact_alike V5 B3 B5 d3 d5 R2 (L.map Key.dclean) H5.out.2.1 H5.out.2.2.1 HAR2.out HRL2.out
      rw [HML.out] at K
      refine K.mono ?_
      clear K
      rintro e V6 ⟨rfl, hBv⟩
      have H6 := Lib.hid (And.intro (H5.out.1.below hBv) (H5.out.2.2.2.then hBv))
      clear hBv H5
      have hs1 : (convert 30 9 (.slice B2 t.length d2)).run Tryd.prog V6 = .ok (txt t) V6 := run_string_bytes _ d2 H6.out.1
      have hs2 : (convert 30 9 (.slice B t.length d)).run Tryd.prog V6 = .ok (txt t) V6 := run_string_bytes _ d (HB.out.below H6.out.2)
      go_wp2_with fail
      go_ret
      exact ⟨rfl, H6.out.2⟩
end Go.Proofs.YtknfnhmkiooifaaDoor
end

