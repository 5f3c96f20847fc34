/-
  The contracts of disk's Clone and New.
-/
import Derived.Test.YthbanhedjfpmaaaDiskFlush
import Derived.Test.YthbanhedjfpmaaaRegionMany
namespace Go.Proofs.Ythbanhedjfpmaaa
set_option linter.unusedSimpArgs false
set_option linter.unusedVariables false
open Go.RowKit

theorem EOwn.kind {α : Type} {E : Elem α} {w : World} {B c : Nat} {A : Option Addr} {L : List α} (h : EOwn E w B A c L) : ∀ a, A = some a → ∃ cur, w.heap[a.block]? = some (.cells cur E.e (0, 0)) := by
  intro a ha
  rcases h.form with ⟨h1, _⟩ | ⟨g, h1, _, _, _, _, cur, hh⟩
  · rw [h1] at ha; cases ha
  · rw [h1] at ha; obtain rfl := Option.some.inj ha; exact ⟨cur, hh⟩
theorem EOwn.apart {α β : Type} {E : Elem α} {F : Elem β} {w : World} {B c c' : Nat} {A A' : Option Addr} {L : List α} {M : List β} (h : EOwn E w B A c L) (h' : EOwn F w B A' c' M) (hne : E.e ≠ F.e) : ∀ a a', A = some a → A' = some a' → a.block ≠ a'.block := by
  intro a a' ha ha' e
  obtain ⟨cur, h1⟩ := h.kind a ha
  obtain ⟨cur', h2⟩ := h'.kind a' ha'
  rw [e, h2] at h1
  simp at h1
  exact hne h1.2.symm
theorem EOwn.grown1 {α : Type} {E : Elem α} {w w' : World} {g c : Nat} {A : Option Addr} {L : List α} (h : EOwn E w (g + 1) A c L) (hg : w.grownBy w' (some g)) : EOwn E w' (g + 1) A c L :=
  h.keep fun a ha => hg.block _ (h.block a ha).2 (by have := (h.block a ha).1; simp; omega)
theorem EOwn.none_cap {α : Type} {E : Elem α} {w : World} {B c : Nat} {A : Option Addr} {L : List α} (h : EOwn E w B A c L) (hA : A = none) : c = 0 := by
  rcases h.form with ⟨_, h, _⟩ | ⟨g, h, _⟩
  · exact h
  · rw [hA] at h; cases h
/-- A disk out of its parts. -/
theorem DiskAt.mk' {w : World} {B : Nat} {g cb cp cf : Nat} {Ab Ap Af : Option Addr} {d : DS} (hb0 : 0 < d.blocks.length) (hB : B ≤ g) (ob : EOwn eDB w (g + 1) Ab cb d.blocks) (op : EOwn eDW w (g + 1) Ap cp d.pending) (of : EOwn eDF w (g + 1) Af cf d.falls)
    (h : Blk w g 93 [.slice Ab d.blocks.length cb, .slice Ap d.pending.length cp, .slice Af d.falls.length cf, .int .i64 (d.changes : Nat), .bool d.down]) :
    ∃ gb, g < gb ∧ DiskAt w B ⟨g, gb⟩ d := by
  rcases ob.form with ⟨_, _, e⟩ | ⟨gb, rfl, hgb, _⟩
  · rw [e] at hb0; simp at hb0
  · refine ⟨gb, by omega, ⟨cb, _, cp, _, cf, Ap, Af, rfl, rfl, op.cap, op.capMax, op.none_cap, h, ob.mono (by omega), op.mono (by omega), of.mono (by omega), fun a ha ho => ?_, fun a ha ho => ?_⟩, hB⟩
    · rcases ho with e | e
      · have := (op.block a ha).1; simp only at e; omega
      · exact ob.apart op (by decide) _ a rfl ha e.symm
    · rcases ho with e | e
      · have := (of.block a ha).1; simp only at e; omega
      · exact ob.apart of (by decide) _ a rfl ha e.symm
set_option maxRecDepth 20000 in
set_option maxHeartbeats 2000000 in
theorem dclone_any (w : World) (B : Nat) (k : KB) (d : DS) (h : DiskAt w B k d) (hG : DGood d) :
    Calls Try.prog 23 #[.pointer (some ⟨k.gd, 0, none⟩)] w fun e w' => ∃ k', e = .returned (.pointer (some ⟨k'.gd, 0, none⟩)) ∧ DiskAt w' w.heap.size k' d ∧ Below w.heap.size w w' := by
  have hp1 := hG.p1
  have hb1 := hG.b1
  have hf1 := hG.f1
  have hb0 := hG.b0
  obtain ⟨hne, hlt, hlt2, hBk⟩ := h.head
  obtain ⟨⟨cb, np, cp, nf, cf, Ap, Af, rfl, rfl, h3, h4, h5, h6, h7, h8, h9, h10, h11⟩, lo⟩ := h
  have hcc := h6.c5
  have HS0 := Lib.hid (And.intro h6 (And.intro h7 (And.intro h8 h9)))
  clear h6 h7 h8 h9 h10 h11 hG
  go_enter Try.func23, Try.ntmps23
  go_upto_region 4 with (fail)
  obtain ⟨ba, hz, hB⟩ := fresh1 (w := w) (a := [.slice (some ⟨k.gb, 0, none⟩) d.blocks.length cb, .slice Ap d.pending.length cp, .slice Af d.falls.length cf, .int .i64 (d.changes : Nat), .bool d.down]) (t := 93) rfl
  generalize (World.alloc w _) = W at ba hz hB ⊢
  have HW := Lib.hid (And.intro ba hB)
  -- what a world behind the stores keeps
  have HK : Hid (∀ w', W.grownBy w' (some w.heap.size) → Blk w' k.gd 93 [.slice (some ⟨k.gb, 0, none⟩) d.blocks.length cb, .slice Ap d.pending.length cp, .slice Af d.falls.length cf, .int .i64 (d.changes : Nat), .bool d.down] ∧
      ERow eDB w' (some ⟨k.gb, 0, none⟩) d.blocks ∧ ERow eDW w' Ap d.pending ∧ ERow eDF w' Af d.falls) := fun w' hg => by
    have hk : ∀ i, i < w.heap.size → w'.heap[i]? = w.heap[i]? := fun i hi => (hg.block i (by omega) (by simp; omega)).trans (HW.out.2.block i hi)
    have hsz : w.heap.size ≤ w'.heap.size := Nat.le_trans HW.out.2.size hg.size
    exact ⟨(hk _ hlt).trans HS0.out.1, HS0.out.2.1.row.keep hsz (fun a _ h => hk _ h), HS0.out.2.2.1.row.keep hsz (fun a _ h => hk _ h), HS0.out.2.2.2.row.keep hsz (fun a _ h => hk _ h)⟩
  clear ba hcc hB
  apply wp_region_many (S := fun D v w' => W.grownBy w' (some w.heap.size) ∧ Blk w' w.heap.size 93 [if D 16 = true then v 4 else .slice (some ⟨k.gb, 0, none⟩) d.blocks.length cb, if D 18 = true then v 9 else .slice Ap d.pending.length cp, if D 20 = true then v 14 else .slice Af d.falls.length cf, .int .i64 (d.changes : Nat), .bool d.down]) (R := fun j x w' => match j with
    | 0 => x = .pointer (some ⟨k.gd, 0, none⟩)
    | 1 => x = .pointer (some ⟨k.gd, 0, none⟩)
    | 2 => x = .pointer (some ⟨k.gd, 0, none⟩)
    | 3 => x = .slice (some ⟨k.gb, 0, none⟩) d.blocks.length cb
    | 4 => ∃ A c, x = .slice A d.blocks.length c ∧ EOwn eDB w' (w.heap.size + 1) A c d.blocks
    | 5 => x = .pointer (some ⟨k.gd, 0, none⟩)
    | 6 => x = .pointer (some ⟨k.gd, 0, none⟩)
    | 7 => x = .pointer (some ⟨k.gd, 1, none⟩)
    | 8 => x = .slice Ap d.pending.length cp
    | 9 => ∃ A c, x = .slice A d.pending.length c ∧ EOwn eDW w' (w.heap.size + 1) A c d.pending
    | 10 => x = .pointer (some ⟨k.gd, 0, none⟩)
    | 11 => x = .pointer (some ⟨k.gd, 0, none⟩)
    | 12 => x = .pointer (some ⟨k.gd, 2, none⟩)
    | 13 => x = .slice Af d.falls.length cf
    | 14 => ∃ A c, x = .slice A d.falls.length c ∧ EOwn eDF w' (w.heap.size + 1) A c d.falls
    | 15 => x = .pointer (some ⟨w.heap.size, 0, none⟩)
    | 17 => x = .pointer (some ⟨w.heap.size, 1, none⟩)
    | 19 => x = .pointer (some ⟨w.heap.size, 2, none⟩)
    | _ => True) (Gr := fun w1 w2 => w1.grownBy w2 (some w.heap.size))
  case hG => (intro v; simp only [regFrame, List.zipIdx_cons, List.zipIdx_nil, List.foldl_cons, List.foldl_nil, Act.put, List.setIfInBounds_toArray, List.set_cons_zero, List.set_cons_succ, Nat.reduceAdd]; rfl)
  case hm => kernel_rfl
  case honce => rfl
  case hlow => kernel_rfl
  case hR =>
    intro j x w' w'' hb h
    split at h <;> try exact h
    all_goals
      obtain ⟨A1, c1, h1, h2⟩ := h
      exact ⟨A1, c1, h1, h2.grown1 hb⟩
  case h0 => exact fun v => ⟨⟨rfl, rfl, rfl, Nat.le_refl _, fun _ _ _ => rfl⟩, HW.out.1⟩
  case hstep =>
    refine ⟨?_, ?_, ?_, ?_, ?_, ?_, ?_, ?_, ?_, ?_, ?_, ?_, ?_, ?_, ?_, ?_, ?_, ?_, ?_, ?_, ?_, trivial⟩ <;> (intro D v w' hS hbef hd; simp only [Deps, Region.binds, ↓reduceIte, and_true] at hd; have hcc := (HK.out w' hS.1).1.c5)
    all_goals (try (first | exact opDoes_move _ rfl rfl ⟨World.grownBy.refl _ _, rfl, hS⟩ | (refine opDoes_run rfl ?_ ⟨World.grownBy.refl _ _, rfl, hS⟩; clear hbef; go_simp; done)))
    · refine opDoes_call _ _ _ #[.slice (some ⟨k.gb, 0, none⟩) d.blocks.length cb] rfl rfl (by clear hbef; go_simp) (Try.call51 _ _) ?_
      exact (cloneb_any w' _ cb d.blocks (HK.out w' hS.1).2.1 (by omega)).mono fun e w'' ⟨A1, c1, he, ho, hb⟩ => ⟨_, he, grown_of_below hb _, ⟨A1, c1, rfl, ho.mono (by have := hS.1.size; omega)⟩, grown_then hS.1 (grown_of_below hb _), by
        have e1 := hbef 16 rfl
        have e2 := hbef 18 rfl
        have e3 := hbef 20 rfl
        have := hS.2.below hb
        rw [e1, e2, e3] at this
        show Blk _ _ _ [if D 16 = true then _ else _, if D 18 = true then _ else _, if D 20 = true then _ else _, _, _]
        rw [e1, e2, e3]
        exact this⟩
    · refine opDoes_call _ _ _ #[.slice Ap d.pending.length cp] rfl rfl (by clear hbef; go_simp) (Try.call52 _ _) ?_
      exact (clonew_any w' _ cp d.pending (HK.out w' hS.1).2.2.1 (by omega)).mono fun e w'' ⟨A1, c1, he, ho, hb⟩ => ⟨_, he, grown_of_below hb _, ⟨A1, c1, rfl, ho.mono (by have := hS.1.size; omega)⟩, grown_then hS.1 (grown_of_below hb _), by
        have e2 := hbef 18 rfl
        have e3 := hbef 20 rfl
        have := hS.2.below hb
        rw [e2, e3] at this
        show Blk _ _ _ [if D 16 = true then _ else _, if D 18 = true then _ else _, if D 20 = true then _ else _, _, _]
        rw [e2, e3]
        exact this⟩
    · refine opDoes_call _ _ _ #[.slice Af d.falls.length cf] rfl rfl (by clear hbef; go_simp) (Try.call53 _ _) ?_
      exact (clonef_any w' _ cf d.falls (HK.out w' hS.1).2.2.2 (by omega)).mono fun e w'' ⟨A1, c1, he, ho, hb⟩ => ⟨_, he, grown_of_below hb _, ⟨A1, c1, rfl, ho.mono (by have := hS.1.size; omega)⟩, grown_then hS.1 (grown_of_below hb _), by
        have e3 := hbef 20 rfl
        have := hS.2.below hb
        rw [e3] at this
        show Blk _ _ _ [if D 16 = true then _ else _, if D 18 = true then _ else _, if D 20 = true then _ else _, _, _]
        rw [e3]
        exact this⟩
    · obtain ⟨⟨-, hp⟩, ⟨-, A1, c1, hv, ho⟩, -⟩ := hd
      have hgc : w.heap.size < w'.heap.size := hS.2.lt
      have hfr := hS.2.free 0
      have hce := hS.2.cell 0
      have hst : (Instr.storeAt 90 (.pointer (some ⟨w.heap.size, 0, none⟩)) (.slice A1 d.blocks.length c1)).run Try.prog w' = .ok () (w'.setCell ⟨w.heap.size, 0, none⟩ (.slice A1 d.blocks.length c1)) := by
        clear hbef hp hv ho hcc hS
        simp only [List.getElem?_cons_zero, List.getElem?_cons_succ] at hce
        go_simp
      have hbl := hS.2.set0 (u := .slice A1 d.blocks.length c1)
      have hgs := grown_store w' w.heap.size 0 (.slice A1 d.blocks.length c1)
      refine opDoes_skip rfl (exec_store rfl hp hv hst) ⟨hgs, trivial, grown_then hS.1 hgs, ?_⟩
      rw [← hv] at hbl ⊢
      exact hbl
    · obtain ⟨⟨-, hp⟩, ⟨-, A1, c1, hv, ho⟩, -⟩ := hd
      have hgc : w.heap.size < w'.heap.size := hS.2.lt
      have hfr := hS.2.free 1
      have hce := hS.2.cell 1
      have hst : (Instr.storeAt 91 (.pointer (some ⟨w.heap.size, 1, none⟩)) (.slice A1 d.pending.length c1)).run Try.prog w' = .ok () (w'.setCell ⟨w.heap.size, 1, none⟩ (.slice A1 d.pending.length c1)) := by
        clear hbef hp hv ho hcc hS
        simp only [List.getElem?_cons_zero, List.getElem?_cons_succ] at hce
        go_simp
      have hbl := hS.2.set1 (u := .slice A1 d.pending.length c1)
      have hgs := grown_store w' w.heap.size 1 (.slice A1 d.pending.length c1)
      refine opDoes_skip rfl (exec_store rfl hp hv hst) ⟨hgs, trivial, grown_then hS.1 hgs, ?_⟩
      rw [← hv] at hbl ⊢
      exact hbl
    · obtain ⟨⟨-, hp⟩, ⟨-, A1, c1, hv, ho⟩, -⟩ := hd
      have hgc : w.heap.size < w'.heap.size := hS.2.lt
      have hfr := hS.2.free 2
      have hce := hS.2.cell 2
      have hst : (Instr.storeAt 34 (.pointer (some ⟨w.heap.size, 2, none⟩)) (.slice A1 d.falls.length c1)).run Try.prog w' = .ok () (w'.setCell ⟨w.heap.size, 2, none⟩ (.slice A1 d.falls.length c1)) := by
        clear hbef hp hv ho hcc hS
        simp only [List.getElem?_cons_zero, List.getElem?_cons_succ] at hce
        go_simp
      have hbl := hS.2.set2 (u := .slice A1 d.falls.length c1)
      have hgs := grown_store w' w.heap.size 2 (.slice A1 d.falls.length c1)
      refine opDoes_skip rfl (exec_store rfl hp hv hst) ⟨hgs, trivial, grown_then hS.1 hgs, ?_⟩
      rw [← hv] at hbl ⊢
      exact hbl
  case hend =>
    intro D v w' hS hD h
    simp only [AllOps, Nat.zero_add, Nat.reduceAdd, and_true] at h
    obtain ⟨-, -, -, -, ⟨A1, c1, h1, o1⟩, -, -, -, -, ⟨A2, c2, h2, o2⟩, -, -, -, -, ⟨A3, c3, h3, o3⟩, -⟩ := h
    have hbl := hS.2
    rw [hD 16 (by decide), hD 18 (by decide), hD 20 (by decide), if_pos rfl, if_pos rfl, if_pos rfl, h1, h2, h3] at hbl
    obtain ⟨gb, hgb, hDA⟩ := DiskAt.mk' hb0 (Nat.le_refl _) o1 o2 o3 hbl
    have HF : Hid (DiskAt w' w.heap.size ⟨w.heap.size, gb⟩ d ∧ Below w.heap.size w w') := ⟨hDA, HW.out.2.grown hS.1 HW.out.2.size (fun k hk => by simp at hk; omega)⟩
    clear hbl hDA o1 o2 o3 h1 h2 h3 hS hD
    go_wp2_with fail
    go_ret
    exact ⟨⟨w.heap.size, gb⟩, rfl, HF.out⟩
end Go.Proofs.Ythbanhedjfpmaaa
