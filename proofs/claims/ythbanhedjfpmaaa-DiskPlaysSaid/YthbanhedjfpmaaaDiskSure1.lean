/-
  DiskSure, plain: what holds of a disk of eight blocks on which nothing is planned; a disk and a law's own arrays.
-/
import Derived.Test.YthbanhedjfpmaaaDiskSure0
import Derived.Test.YthbanhedjfpmaaaPlan
namespace Go.Proofs.Ythbanhedjfpmaaa
set_option linter.unusedSimpArgs false
set_option linter.unusedVariables false
open Go.RowKit

/-- Eight blocks, no fall is planned, the power is on. -/
structure Calm (d : DS) : Prop where
  falls : d.falls = []
  down : d.down = false
  len : d.blocks.length = 8
theorem Calm.write {d : DS} (h : Calm d) {m : Nat} (hm : m < 8) {l : List UInt8} (hl : l.length = 512) :
    (d.write (m : Int) l).2 = 0 ∧ Calm (d.write (m : Int) l).1 ∧ (∀ i, (d.write (m : Int) l).1.will i = if i = m then l else d.will i) ∧
      (∀ i, ((d.write (m : Int) l).1.blocks.getD i default).sure = (d.blocks.getD i default).sure) ∧ (d.write (m : Int) l).1.pending = d.pending ++ [⟨(m : Int), ⟨l, hl⟩⟩] := by
  have hm' : m < d.blocks.length := by rw [h.len]; exact hm
  have hw := will_write h.falls h.down hm' hl
  rw [write_plain h.falls h.down hm' hl] at hw ⊢
  refine ⟨rfl, ⟨h.falls, h.down, by simpa using h.len⟩, hw, fun i => ?_, rfl⟩
  by_cases e : m = i
  · subst e; simp [hm']
  · simp [List.getElem?_set_ne e]
theorem Calm.flush {d : DS} (h : Calm d) : d.flush.2 = 0 ∧ Calm d.flush.1 ∧ d.flush.1.pending = [] ∧ ∀ i, (d.flush.1.blocks.getD i default).sure.l = d.will i := by
  rw [flush_plain h.falls h.down]
  exact ⟨rfl, ⟨h.falls, h.down, by simp [DS.settled, sureAll_length]; exact h.len⟩, rfl, fun i => rfl⟩
/-- Behind a flush and loose writes: block i, if it was not touched. -/
structure LooseD (d : DS) (ws : List (List UInt8)) (ts : List Bool) : Prop where
  calm : Calm d
  tl : ts.length = 8
  wl : ws.length = 8
  keep : ∀ i, i < 8 → ts.getD i false = false → (d.blocks.getD i default).sure.l = ws.getD i [] ∧ ∀ w ∈ d.pending, w.at_.toNat ≠ i
theorem LooseD.write {d : DS} {ws : List (List UInt8)} {ts : List Bool} (h : LooseD d ws ts) {m : Nat} (hm : m < 8) {l : List UInt8} (hl : l.length = 512) : LooseD (d.write (m : Int) l).1 ws (ts.set m true) := by
  obtain ⟨-, h2, -, h4, h5⟩ := h.calm.write hm hl
  refine ⟨h2, by simpa using h.tl, h.wl, fun i hi ht => ?_⟩
  have hne : m ≠ i := by
    rintro rfl
    rw [List.getD_eq_getElem?_getD, List.getElem?_set_self (by rw [h.tl]; exact hi)] at ht
    cases ht
  rw [List.getD_eq_getElem?_getD, List.getElem?_set_ne hne, ← List.getD_eq_getElem?_getD] at ht
  obtain ⟨k1, k2⟩ := h.keep i hi ht
  refine ⟨by rw [h4]; exact k1, fun w hw => ?_⟩
  rw [h5] at hw
  rcases List.mem_append.1 hw with hw | hw
  · exact k2 w hw
  · simp only [List.mem_singleton] at hw
    subst hw
    simpa using hne
theorem LooseD.crash {d : DS} {ws : List (List UInt8)} {ts : List Bool} (h : LooseD d ws ts) (f : DF) : (d.crash f).blocks.length = 8 ∧ (d.crash f).pending = [] ∧ ∀ i, i < 8 → ts.getD i false = false → ((d.crash f).blocks.getD i default).now.l = ws.getD i [] := by
  refine ⟨by rw [crash_length, h.calm.len], by unfold DS.crash; rw [if_neg (by simp [h.calm.down])], fun i hi ht => ?_⟩
  obtain ⟨k1, k2⟩ := h.keep i hi ht
  rw [crash_other h.calm.down f (by rw [h.calm.len]; exact hi) k2, k1]

/-! A store into a block that is not the disk's. -/
section
variable {w0 w w' : World} {B : Nat} {k : KB} {d : DS} {n g : Nat} {T : TypeId} {cs : List Value}
theorem EOwn.other {α : Type} {E : Elem α} {c : Nat} {A : Option Addr} {L : List α} (h : EOwn E w B A c L) (hb : Blk w g T cs) (hne : T ≠ E.e) (hg : w.grownBy w' (some g)) : EOwn E w' B A c L :=
  h.keep fun a ha => by
    obtain ⟨cur, hk⟩ := h.kind a ha
    refine hg.block _ (h.block a ha).2 ?_
    simp only [ne_eq, Option.some.injEq]
    rintro rfl
    rw [hb] at hk
    simp only [Option.some.injEq, Obj.cells.injEq] at hk
    exact hne hk.2.1
/-- The kinds of a disk's blocks. -/
def notDisk (T : TypeId) : Prop := T ≠ 93 ∧ T ≠ eDB.e ∧ T ≠ eDW.e ∧ T ≠ eDF.e
theorem DiskAt.other (h : DiskAt w B k d) (hb : Blk w g T cs) (hT : notDisk T) (hg : w.grownBy w' (some g)) : DiskAt w' B k d := by
  obtain ⟨t1, t2, t3, t4⟩ := hT
  obtain ⟨⟨cb, np, cp, nf, cf, Ap, Af, h1, h2, h3, h4, h5, h6, h7, h8, h9, h10, h11⟩, lo⟩ := h
  have hne : k.gd ≠ g := by
    rintro rfl
    unfold Blk at hb h6
    rw [hb] at h6
    simp only [Option.some.injEq, Obj.cells.injEq] at h6
    exact t1 h6.2.1
  exact ⟨⟨cb, np, cp, nf, cf, Ap, Af, h1, h2, h3, h4, h5, h6.grown hg (by simpa using hne), h7.other hb t2 hg, h8.other hb t3 hg, h9.other hb t4 hg, h10, h11⟩, lo⟩
theorem DiskAt.notOwn (h : DiskAt w B k d) (hb : Blk w g T cs) (hT : notDisk T) : ¬ k.own g := by
  obtain ⟨t1, t2, t3, t4⟩ := hT
  obtain ⟨⟨cb, np, cp, nf, cf, Ap, Af, h1, h2, h3, h4, h5, h6, h7, -⟩, lo⟩ := h
  rintro (rfl | rfl)
  · unfold Blk at hb h6
    rw [hb] at h6
    simp only [Option.some.injEq, Obj.cells.injEq] at h6
    exact t1 h6.2.1
  · obtain ⟨cur, hk⟩ := h7.kind _ rfl
    rw [hb] at hk
    simp only [Option.some.injEq, Obj.cells.injEq] at hk
    exact t2 hk.2.1
theorem DL.other (h : DL w0 w k d n) (hb : Blk w g T cs) (hT : notDisk T) (hg : w.grownBy w' (some g)) (hlo : w0.heap.size ≤ g) : DL w0 w' k d n :=
  ⟨h.at_.other hb hT hg, h.good, h.ch, h.pe, (Keeps.of_grown hg).below h.bel h.bel.size (fun i hi => by subst hi; exact hlo)⟩
end
theorem nd_str8 : notDisk 32 := by refine ⟨?_, ?_, ?_, ?_⟩ <;> decide
theorem nd_int8 : notDisk 41 := by refine ⟨?_, ?_, ?_, ?_⟩ <;> decide
/-- A disk and an array of eight texts. -/
structure SU (w0 w : World) (k : KB) (d : DS) (n g : Nat) (ws : List (List UInt8)) : Prop where
  dl : DL w0 w k d n
  blk : Blk w g 32 (ws.map txt)
  lo : w0.heap.size ≤ g
  len : ws.length = 8
section
variable {w0 w w' : World} {k : KB} {d d' : DS} {n n' g : Nat} {ws : List (List UInt8)}
theorem SU.below (h : SU w0 w k d n g ws) (hb : Below w.heap.size w w') : SU w0 w' k d n g ws := ⟨h.dl.below hb, h.blk.below hb, h.lo, h.len⟩
theorem SU.disk (h : SU w0 w k d n g ws) (hd : DL w0 w' k d' n') (hk : Keeps w w' k.own) : SU w0 w' k d' n' g ws := ⟨hd, h.blk.kept hk (h.dl.at_.notOwn h.blk nd_str8), h.lo, h.len⟩
theorem SU.set (h : SU w0 w k d n g ws) (i : Nat) (l : List UInt8) : SU w0 (w.setCell ⟨g, i, none⟩ (txt l)) k d n g (ws.set i l) :=
  ⟨h.dl.other h.blk nd_str8 (grown_store w g i _) h.lo, by rw [List.map_set]; exact h.blk.set i _, h.lo, by simpa using h.len⟩
theorem SU.cell (h : SU w0 w k d n g ws) {i : Nat} (hi : i < 8) : w.cell? ⟨g, i, none⟩ = some (txt (ws.getD i [])) ∧ w.frozen? ⟨g, i, none⟩ = false ∧ g < w.heap.size := by
  refine ⟨?_, h.blk.free i, h.blk.lt⟩
  have hlt : i < ws.length := by rw [h.len]; exact hi
  rw [h.blk.cell, List.getElem?_map, List.getElem?_eq_getElem hlt, List.getD_eq_getElem?_getD, List.getElem?_eq_getElem hlt]
  rfl
end
/-- .. and an array of eight marks. -/
structure SV (w0 w : World) (k : KB) (d : DS) (n g : Nat) (ws : List (List UInt8)) (q : Nat) (ts : List Bool) : Prop where
  su : SU w0 w k d n g ws
  blk : Blk w q 41 (ts.map fun b => .int .i64 (if b then 1 else 0))
  lo : w0.heap.size ≤ q
  len : ts.length = 8
section
variable {w0 w w' : World} {k : KB} {d d' : DS} {n n' g q : Nat} {ws : List (List UInt8)} {ts : List Bool}
theorem SV.below (h : SV w0 w k d n g ws q ts) (hb : Below w.heap.size w w') : SV w0 w' k d n g ws q ts := ⟨h.su.below hb, h.blk.below hb, h.lo, h.len⟩
theorem SV.disk (h : SV w0 w k d n g ws q ts) (hd : DL w0 w' k d' n') (hk : Keeps w w' k.own) : SV w0 w' k d' n' g ws q ts := ⟨h.su.disk hd hk, h.blk.kept hk (h.su.dl.at_.notOwn h.blk nd_int8), h.lo, h.len⟩
theorem SV.set (h : SV w0 w k d n g ws q ts) (i : Nat) : SV w0 (w.setCell ⟨q, i, none⟩ (.int .i64 1)) k d n g ws q (ts.set i true) := by
  have hg := grown_store w q i (.int .i64 1)
  have hne : g ≠ q := by
    rintro rfl
    have h1 := h.su.blk
    have h2 := h.blk
    unfold Blk at h1 h2
    rw [h1] at h2
    simp only [Option.some.injEq, Obj.cells.injEq] at h2
    exact absurd h2.2.1 (by decide)
  refine ⟨⟨h.su.dl.other h.blk nd_int8 hg h.lo, h.su.blk.grown hg (by simpa using hne), h.su.lo, h.su.len⟩, ?_, h.lo, by simpa using h.len⟩
  rw [List.map_set]
  exact h.blk.set i _
theorem SV.cell (h : SV w0 w k d n g ws q ts) {i : Nat} (hi : i < 8) : w.cell? ⟨q, i, none⟩ = some (.int .i64 (if ts.getD i false = true then 1 else 0)) ∧ w.frozen? ⟨q, i, none⟩ = false ∧ q < w.heap.size := by
  refine ⟨?_, h.blk.free i, h.blk.lt⟩
  have hlt : i < ts.length := by rw [h.len]; exact hi
  rw [h.blk.cell, List.getElem?_map, List.getElem?_eq_getElem hlt, List.getD_eq_getElem?_getD, List.getElem?_eq_getElem hlt]
  rfl
end
end Go.Proofs.Ythbanhedjfpmaaa
