/-
  Texts of a proof, one behind the other (each with its own head).
-/
import Derived.Test.YtcfoihihinijlaaGreatPartAklllcdbi
import Derived.Lib.LazyBuf
import Derived.Deep.Slices
import Derived.Deep.SlicePairs
import Derived.OpenShut
import Derived.ChangeSlices
import Derived.Lib.AppendZeros
import Derived.Maps.Own
import Derived.Maps.OwnSet
import Derived.Maps.Views
import Derived.Deep.LoopGhost
import Derived.Test.YtcfoihihinijlaaGreatProg
section
namespace Go.Proofs.YtcfoihihinijlaaGreat
set_option linter.unusedSimpArgs false
set_option linter.unusedVariables false
open Go.RowKit
def DS.put (d : DS) (i : Nat) (b : B512) : DS × Int :=
  ({ d with blocks := d.blocks.set i { (d.blocks.getD i default) with now := b }, pending := d.pending ++ [⟨(i : Int), b⟩] } : DS).strike
def DS.write (d : DS) (i : Int) (l : List UInt8) : DS × Int :=
  if d.why i ≠ 0 then (d, d.why i) else if h : l.length = 512 then d.put i.toNat ⟨l, h⟩ else (d, 1)
set_option maxRecDepth 20000 in
set_option maxHeartbeats 1000000 in
theorem write_bad (w : World) (B : Nat) (k : KB) (d : DS) (h : DiskAt w B k d) (i : Int) (A : Option Addr) (c : Nat) (l : List UInt8) (hw : d.why i ≠ 0) :
    Calls Tryz.prog 106 #[.pointer (some ⟨k.gd, 0, none⟩), .int .i64 i, .slice A l.length c] w fun e w' => e = .returned (.int .i64 (d.why i)) ∧ w = w' := by
  have HH := Lib.hid (has_any w B k d h i)
  have hb : (d.why i != 0) = true := by simpa using hw
  generalize d.why i = e at HH hb hw ⊢
  clear h hw
  go_enter Tryz.func106, Tryz.ntmps106
  go_wp2_with fail
  refine HH.out.mono ?_
  rintro e1 w1 ⟨rfl, rfl⟩
  go_wp2_with fail
  go_ret
  exact ⟨rfl, rfl⟩
set_option maxRecDepth 20000 in
set_option maxHeartbeats 1000000 in
theorem write_long (w : World) (B : Nat) (k : KB) (d : DS) (h : DiskAt w B k d) (i : Int) (A : Option Addr) (c : Nat) (l : List UInt8) (hw : d.why i = 0) (hl : l.length ≠ 512) :
    Calls Tryz.prog 106 #[.pointer (some ⟨k.gd, 0, none⟩), .int .i64 i, .slice A l.length c] w fun e w' => e = .returned (.int .i64 1) ∧ w = w' := by
  have HH := Lib.hid (has_any w B k d h i)
  rw [hw] at HH
  have hlb : ((l.length : Int) != 512) = true := by simp; omega
  clear h hw hl
  go_enter Tryz.func106, Tryz.ntmps106
  go_wp2_with fail
  refine HH.out.mono ?_
  rintro e1 w1 ⟨rfl, rfl⟩
  go_wp2_with fail
  go_ret
  exact ⟨rfl, rfl⟩
set_option maxRecDepth 20000 in
theorem DiskAt.setNow {w : World} {B : Nat} {k : KB} {d : DS} (h : DiskAt w B k d) {i : Nat} (hi : i < d.blocks.length) (b : B512) :
    (Instr.storeAt 137 (.pointer (some ⟨k.gb, i * 1024 + 0, none⟩)) (.agg b.v.toArray)).run Tryz.prog w = .ok () (w.setCells k.gb (i * 1024 + 0) b.v) ∧
    DiskAt (w.setCells k.gb (i * 1024 + 0) b.v) B k { d with blocks := d.blocks.set i { (d.blocks.getD i default) with now := b } } ∧ Keeps w (w.setCells k.gb (i * 1024 + 0) b.v) k.own := by
  obtain ⟨hne, hlt, hlt2, hB⟩ := h.head
  obtain ⟨⟨cb, np, cp, nf, cf, Ap, Af, rfl, rfl, h3, h4, h5, h6, h7, h8, h9, h10, h11⟩, lo⟩ := h
  have hg := grown_setCells w k.gb (i * 1024 + 0) b.v
  have hgd : d.blocks.getD i default = d.blocks[i] := by simp [hi]
  have hst := run_store_part (P := Tryz.prog) 137 k.gb i 0 b.v h7 hi (by rw [b.v_length]; decide) (infoArr.trans (by rw [b.v_length])) b.v_one
  have ho9 := h7.storePart hi { d.blocks[i] with now := b } 0 b.v (by rw [b.v_length]; decide) (code_now _ _)
  rw [hgd]
  refine ⟨hst, ⟨⟨cb, _, cp, _, cf, Ap, Af, rfl, rfl, h3, h4, h5, ?_, ho9, ?_, ?_, h10, h11⟩, lo⟩, (Keeps.of_grown hg).mono (fun k' e => .inr e)⟩
  · rw [List.length_set]; exact h6.grown hg (by simp; exact hne)
  · exact h8.keep2 hg.size (fun a ha _ => hg.block _ (by assumption) (by simp; exact fun e => h10 a ha (.inr e)))
  · exact h9.keep2 hg.size (fun a ha _ => hg.block _ (by assumption) (by simp; exact fun e => h11 a ha (.inr e)))
theorem copy_src {w : World} {g o : Nat} {vs : List Value} (h : ∀ j (h : j < vs.length), w.cell? ⟨g, o + j, none⟩ = some vs[j]) : ∀ j v, vs[j]? = some v → w.cell? ((⟨g, o, none⟩ : Addr).add j) = some v := fun j v hv => by
  obtain ⟨hj, e⟩ := List.getElem?_eq_some_iff.1 hv
  rw [Addr.add_mid, h j hj, e]
set_option maxRecDepth 20000 in
set_option maxHeartbeats 2000000 in
theorem write_ok (w : World) (B : Nat) (k : KB) (d : DS) (h : DiskAt w B k d) (hG : DGood d) (hch : d.changes < 1000000000) (hpl : d.pending.length < 1000000) (i : Nat) (hi : i < d.blocks.length) (hd : d.down = false) (A : Option Addr) (c : Nat) (b : B512) (hr : BRow w A b.l) :
    Calls Tryz.prog 106 #[.pointer (some ⟨k.gd, 0, none⟩), .int .i64 i, .slice A 512 c] w fun e w' => e = .returned (.int .i64 (d.put i b).2) ∧ DiskAt w' B k (d.put i b).1 ∧ Keeps w w' k.own := by
  have hwhy : d.why i = 0 := by unfold DS.why; rw [if_neg (by simp [hd]), if_neg (by omega)]
  have HH := Lib.hid (has_any w B k d h i)
  rw [hwhy] at HH
  have HD := Lib.hid h
  have HR := Lib.hid hr
  have hp1 := hG.p1
  have hii : (i : Int) < (d.blocks.length : Int) := by omega
  have hb4 := hG.b1
  clear h hwhy hd hr
  go_enter Tryz.func106, Tryz.ntmps106
  go_wp2_with fail
  refine HH.out.mono ?_
  rintro e1 w1 ⟨rfl, rfl⟩
  have hbuild := fun w => build_write w (i : Int)
  obtain ⟨ba, oa, hA, hba, hbc⟩ := HR.out (by rw [List.length_map, b.h]; decide)
  subst hA
  have HBC := Lib.hid hbc
  have HB : Hid (∀ {W6 W7 : World}, Below w.heap.size w W6 → W6.grownBy W7 (some w.heap.size) → ∀ j (h : j < b.v.length), W7.cell? ⟨ba, oa + j, none⟩ = some b.v[j]) := fun hB hg j hj => by
    rw [World.cell?_of_block (a := ⟨ba, oa + j, none⟩) (hg.block ba (Nat.lt_of_lt_of_le hba hB.size) (by simp; omega)), World.cell?_of_block (a := ⟨ba, oa + j, none⟩) (hB.block ba hba)]
    exact HBC.out j hj
  clear hbc
  go_wp2_with (first | (refine wpList_alloc_z rfl 139 rfl (zeroDW _) ?_; intro W6 hW6; obtain ⟨ba6, hz6, hB6⟩ := fresh1 (a := Value.int .i64 0 :: zBytes 512) hW6; clear hW6) | (refine wpList_store_blk rfl rfl 139 (.tmp 8) (.tmp 19) rfl w.heap.size rfl (Value.int .i64 (i : Int) :: zBytes 512) rfl ba6 (by simp [zBytes]) (infoDW.trans (by simp [zBytes])) (eDW.one ⟨(i : Int), B512.zero⟩) ?_; intro W7 hb7 hg7; have hcp := (run_copy_cells (P := Tryz.prog) W7 56 56 3 5 w.heap.size 1 512 512 ⟨ba, oa, none⟩ 512 c b.v Tryz.underlying56 (by kernel_rfl) (by rw [b.v_length]; rfl) (copy_src (HB.out hB6 hg7)) (fun j hj => (hb7.there 1 512 (by simp [zBytes]) j (by rw [b.v_length] at hj; exact hj)).1) (fun j hj => (hb7.there 1 512 (by simp [zBytes]) j (by rw [b.v_length] at hj; exact hj)).2) b.v_one)) | (refine wpList_runv rfl (exec_copy (d := .tmp 21) (s := .tmp 22) rfl rfl rfl hcp) ?_; have hb8 := hb7.setCells 1 b.v; have hg8 := grown_setCells W7 w.heap.size 1 b.v; generalize (World.setCells W7 _ _ _) = W8 at hb8 hg8 ⊢))
  have hb8' : Blk W8 w.heap.size 139 (Value.int .i64 (i : Int) :: b.v) := by
    have := setFrom_part b.v [Value.int .i64 (i : Int)] (zBytes 512) [] (by rw [b.v_length]; simp [zBytes])
    rw [List.append_nil, List.append_nil] at this
    rw [← show setFrom (Value.int .i64 (i : Int) :: zBytes 512) 1 b.v = Value.int .i64 (i : Int) :: b.v from this]
    exact hb8
  have hB8 : Below w.heap.size w W8 := (hB6.grown hg7 hB6.size (fun k hk => by simp at hk; omega)).grown hg8 (Nat.le_trans hB6.size hg7.size) (fun k hk => by simp at hk; omega)
  have HS8 := Lib.hid (And.intro (HD.out.below hB8) (And.intro hb8' hB8))
  obtain ⟨cb, cp, cf, Ap, Af, hc8⟩ := HS8.out.1.open_
  have hz8 : w.heap.size < W8.heap.size := hb8'.lt
  clear hb8 hb8' hB8 hg7 hg8 hcp hb7 ba6 hB6
  apply wp_region_last (n := 9) (R := fun j x w' => match j with
    | 0 => x = .pointer (some ⟨k.gd, 0, none⟩)
    | 1 => x = .pointer (some ⟨k.gd, 0, none⟩)
    | 2 => x = .pointer (some ⟨k.gd, 0, none⟩)
    | 3 => x = .slice (some ⟨k.gb, 0, none⟩) d.blocks.length cb
    | 4 => x = .int .i64 (i : Nat)
    | 5 => x = .pointer (some ⟨w.heap.size, 1, none⟩)
    | 6 => x = .agg b.v.toArray
    | 7 => x = .pointer (some ⟨k.gb, i * 1024, none⟩)
    | 8 => x = .pointer (some ⟨k.gb, i * 1024, none⟩)
    | _ => True) (W := fun w' => w' = W8.drew) (Gr := fun w1 w2 => w2 = w1)
  case hG => (intro v; simp only [regFrame, List.zipIdx_cons, List.zipIdx_nil, List.foldl_cons, List.foldl_nil, Act.put, List.setIfInBounds_toArray, List.set_cons_zero, List.set_cons_succ, Nat.reduceAdd]; rfl)
  case hm => kernel_rfl
  case honce => rfl
  case hlow => kernel_rfl
  case hall => kernel_rfl
  case hn => rfl
  case ho => rfl
  case hog => rfl
  case hod => rfl
  case hR =>
    intro j x w' w'' hb h
    exact h
  case hW => exact fun w w' h hb => hb.trans h
  case h0 => rfl
  case hstep =>
    have hld := run_loadAt_mid (P := Tryz.prog) W8.drew w.heap.size 1 137 b.v _ (Blk.range (w := W8.drew) HS8.out.2.1 1 b.v (fun j hj => by rw [Nat.add_comm]; rfl)) Tryz.underlying137 rfl (infoArr.trans (by rw [b.v_length]))
    refine ⟨?_, ?_, ?_, ?_, ?_, ?_, ?_, ?_, ?_, trivial⟩ <;> (intro v w' hw' hd; subst hw'; simp only [Deps, Region.binds, ↓reduceIte, and_true] at hd) <;> (try (first | exact opDoes_move _ rfl rfl ⟨rfl, rfl⟩ | (refine opDoes_run rfl ?_ ⟨rfl, rfl⟩; go_simp; done)))
    exact opDoes_run rfl (exec_load rfl hd hld) ⟨rfl, rfl⟩
  case hend =>
    intro v w' hw' h
    subst hw'
    simp only [List.take, AllOps, Nat.zero_add, Nat.reduceAdd, and_true] at h
    obtain ⟨-, -, -, -, -, -, h6, -, h8⟩ := h
    obtain ⟨hst, hD9, hK9⟩ := DiskAt.setNow (w := W8.drew) (HS8.out.1.below (below_drew W8)) hi b
    have hb9 : Blk (W8.drew.setCells k.gb (i * 1024 + 0) b.v) w.heap.size 139 (Value.int .i64 (i : Int) :: b.v) := Blk.grown (w := W8.drew) HS8.out.2.1 (grown_setCells _ _ _ _) (by have := HD.out.head.2.2.1; simp; omega)
    have hK : Keeps w (W8.drew.setCells k.gb (i * 1024 + 0) b.v) k.own := (Keeps.of_below (HS8.out.2.2.drew)).trans hK9
    refine ⟨W8.drew.setCells k.gb (i * 1024 + 0) b.v, exec_store rfl h8 h6 hst, ?_⟩
    have HS9 := Lib.hid (And.intro hD9 (And.intro hb9 hK))
    clear hst hD9 hK9 hb9 hK h6 h8 hc8
    generalize (World.setCells W8.drew _ _ _) = W9 at HS9 ⊢
    obtain ⟨⟨cb2, np, cp2, nf, cf2, Ap2, Af2, rfl, rfl, q3, q4, q5, q6, q7, q8, q9, q10, q11⟩, lo⟩ := HS9.out.1
    have hc9 := q6.c5
    have HQ := Lib.hid (And.intro q6 q8)
    clear q6 q7 q8 q9 q10 q11
    go_wp2_with fail
    have hcl := Lib.hid (fun w' => clip_any w' Ap2 d.pending.length cp2 q3 q4 q5)
    have hlt9 : w.heap.size < W9.heap.size := HS9.out.2.1.lt
    apply wp_region_last (n := 11) (R := fun j x w' => match j with
      | 0 => x = .pointer (some ⟨k.gd, 0, none⟩)
      | 1 => x = .pointer (some ⟨k.gd, 0, none⟩)
      | 2 => x = .pointer (some ⟨k.gd, 0, none⟩)
      | 3 => x = .pointer (some ⟨k.gd, 1, none⟩)
      | 4 => x = .slice Ap2 d.pending.length cp2
      | 5 => x = .slice Ap2 d.pending.length d.pending.length
      | 6 => x = .agg (Value.int .i64 (i : Int) :: b.v).toArray
      | 7 => ∃ g', x = .slice (some ⟨g', 0, none⟩) 1 1 ∧ ERow eDW w' (some ⟨g', 0, none⟩) [⟨(i : Int), b⟩]
      | 8 => ∃ A1 c1, x = .slice A1 (d.pending.length + 1) c1 ∧ EOwn eDW w' W9.heap.size A1 c1 (d.pending ++ [⟨(i : Int), b⟩])
      | 9 => x = .pointer (some ⟨k.gd, 0, none⟩)
      | 10 => x = .pointer (some ⟨k.gd, 1, none⟩)
      | _ => True) (W := fun w' => Below W9.heap.size W9 w') (Gr := fun w1 w2 => Below w1.heap.size w1 w2)
    case hG => (intro v; simp only [regFrame, List.zipIdx_cons, List.zipIdx_nil, List.foldl_cons, List.foldl_nil, Act.put, List.setIfInBounds_toArray, List.set_cons_zero, List.set_cons_succ, Nat.reduceAdd]; rfl)
    case hm => kernel_rfl
    case honce => rfl
    case hlow => kernel_rfl
    case hall => kernel_rfl
    case hn => rfl
    case ho => rfl
    case hog => rfl
    case hod => rfl
    case hR =>
      intro j x w' w'' hb h
      split at h <;> try exact h
      · obtain ⟨g', h1, h2⟩ := h
        exact ⟨g', h1, h2.below hb⟩
      · obtain ⟨A1, c1, h1, h2⟩ := h
        exact ⟨A1, c1, h1, h2.below hb⟩
    case hW => exact fun w w' h hb => h.trans (hb.mono h.size)
    case h0 => exact below_drew W9
    case hstep =>
      clear hc9
      refine ⟨?_, ?_, ?_, ?_, ?_, ?_, ?_, ?_, ?_, ?_, ?_, trivial⟩ <;> (intro v w' hw' hd; simp only [Deps, Region.binds, ↓reduceIte, and_true] at hd; have hc9 := (HQ.out.1.below hw').c5) <;> (try (first | exact opDoes_move _ rfl rfl ⟨Below.refl _ _, rfl⟩ | (refine opDoes_run rfl ?_ ⟨Below.refl _ _, rfl⟩; clear hw'; go_simp; done)))
      · refine opDoes_call _ _ _ #[.slice Ap2 d.pending.length cp2] rfl rfl (by clear hw'; go_simp) (Tryz.call150 _ _) ?_
        exact (hcl.out w').mono fun e w'' ⟨he, hw⟩ => ⟨_, he, hw ▸ Below.refl _ _, rfl⟩
      · exact opDoes_run rfl (exec_load rfl rfl (run_loadAt_mid (P := Tryz.prog) w' w.heap.size 0 139 (Value.int .i64 (i : Int) :: b.v) _ ((HS9.out.2.1.below hw').range 0 _ (fun j hj => by rw [Nat.zero_add])) Tryz.underlying139 rfl (infoDW.trans (by rw [List.length_cons, b.v_length])))) ⟨Below.refl _ _, rfl⟩
      · exact opDoes_run rfl (exec_buildSlice rfl hd (run_buildSlice_one eDW ⟨(i : Int), b⟩ (.agg (Value.int .i64 (i : Int) :: b.v).toArray) rfl (by decide) w')) ⟨(fresh1 rfl).2.2, _, rfl, ERow.lit eDW w' ⟨(i : Int), b⟩ _ rfl _ rfl⟩
      · obtain ⟨h5, ⟨g', h7, hrow⟩, -⟩ := hd
        obtain ⟨A1, c1, w2, hrun, ho2, hb2⟩ := run_append_full eDW (c' := 1) 134 (HQ.out.2.below hw').row hrow (by simp) (by simp; omega) (fun h => by have := q5 h; exact List.eq_nil_of_length_eq_zero (by omega))
        exact opDoes_run rfl (exec_append rfl h5 h7 hrun) ⟨hb2, A1, c1, rfl, ho2.mono hw'.size⟩
    case hend =>
      intro v w' hw' h
      simp only [List.take, AllOps, Nat.zero_add, Nat.reduceAdd, and_true] at h
      obtain ⟨-, -, -, -, -, -, -, -, ⟨A1, c1, h8, ho8⟩, -, h10⟩ := h
      obtain ⟨⟨cb3, np, cp3, nf, cf3, Ap3, Af3, rfl, rfl, s3, s4, s5, s6, s7, s8, s9, s10, s11⟩, lo3⟩ := HS9.out.1.below hw'
      obtain ⟨hne, hlt, hlt2, hBk⟩ := (HS9.out.1.below hw').head
      have hgd9 := HS9.out.1.head
      have hfree := (s6.c5).2.2.2.2.2.2.1
      have hcell := (s6.c5).2.1
      have hst : (Instr.storeAt 134 (.pointer (some ⟨k.gd, 1, none⟩)) (.slice A1 (d.pending.length + 1) c1)).run Tryz.prog w' = .ok () (w'.setCell ⟨k.gd, 1, none⟩ (.slice A1 (d.pending.length + 1) c1)) := by
        clear h8 ho8 h10 s6 s7 s8 s9
        go_simp
      have hD : DiskAt (w'.setCell ⟨k.gd, 1, none⟩ (.slice A1 (d.pending.length + 1) c1)) B k { d with blocks := d.blocks.set i { (d.blocks.getD i default) with now := b }, pending := d.pending ++ [⟨(i : Int), b⟩] } := by
        have hA1 : ∀ a, A1 = some a → ¬ k.own a.block := fun a ha ho => by
          have h1 := (ho8.block a ha).1
          rcases ho with e | e <;> omega
        refine ⟨⟨cb3, _, c1, _, cf3, A1, Af3, rfl, rfl, ho8.cap, ho8.capMax, fun hn => ?_, by simpa using s6.set1 (u := .slice A1 (d.pending.length + 1) c1), ?_, ?_, ?_, hA1, s11⟩, lo3⟩
        · rcases ho8.form with ⟨_, h, _⟩ | ⟨g, h, _⟩
          · exact h
          · rw [hn] at h; cases h
        · exact s7.set _ (fun a ha => by obtain rfl := Option.some.inj ha; exact fun e => hne e.symm) _
        · exact (ho8.mono (by have := hgd9.2.2; omega)).keep2 (by simp) (fun a ha _ => heap_setCell_other w' ⟨k.gd, 1, none⟩ _ _ (fun e => hA1 a ha (.inl e)))
        · exact s9.keep2 (by simp) (fun a ha _ => heap_setCell_other w' ⟨k.gd, 1, none⟩ _ _ (fun e => s11 a ha (.inl e)))
      have hK := (HS9.out.2.2.trans (Keeps.of_below hw')).set ⟨k.gd, 1, none⟩ (.inl (.inl rfl)) (.slice A1 (d.pending.length + 1) c1)
      refine ⟨_, exec_store rfl h10 h8 hst, ?_⟩
      have HF := Lib.hid (And.intro hD hK)
      clear hD hK hst h8 h10 ho8 s6 s7 s8 s9 s10 s11 hc9
      generalize (World.setCell w' _ _) = W12 at HF ⊢
      have hG2 : DGood { d with blocks := d.blocks.set i { (d.blocks.getD i default) with now := b }, pending := d.pending ++ [⟨(i : Int), b⟩] } := by
        refine ⟨by simpa using hG.b0, by simpa using hG.b1, by simp; omega, hG.f1, fun x hx => ?_, hG.fk⟩
        simp only [List.length_set]
        rcases List.mem_append.1 hx with h | h
        · exact hG.at_ x h
        · simp only [List.mem_singleton] at h
          subst h
          exact ⟨by simp, by simpa using hi⟩
      have HST := Lib.hid (strike_any W12 B k _ HF.out.1 hG2 hch)
      clear hG2
      go_wp2_with fail
      refine HST.out.mono ?_
      rintro e w13 ⟨he, hD13, hK13⟩
      have HF2 : Hid (DiskAt w13 B k (d.put i b).1 ∧ Keeps w w13 k.own) := Lib.hid (And.intro hD13 (HF.out.2.trans hK13))
      replace he : e = .returned (.int .i64 (d.put i b).2) := he
      clear hD13 hK13 HST
      generalize hdp : d.put i b = dp at he HF2
      subst he
      go_wp2_with fail
      go_ret
      exact ⟨congrArg (fun x : DS × Int => Ending.returned (.int .i64 x.2)) hdp.symm, hdp ▸ HF2.out⟩
end Go.Proofs.YtcfoihihinijlaaGreat
end

section
namespace Go.Proofs.YtcfoihihinijlaaGreat
set_option linter.unusedSimpArgs false
set_option linter.unusedVariables false
open Go.RowKit
theorem DGood.crash {d : DS} (h : DGood d) (f : DF) : DGood (d.crash f) := by
  unfold DS.crash
  split
  · exact h
  · exact ⟨by simpa [hitAll_length] using h.b0, by simpa [hitAll_length] using h.b1, by simp, h.f1, fun x hx => by simp at hx, h.fk⟩
theorem DGood.strike {d : DS} (h : DGood d) : DGood d.strike.1 := by
  have h1 : DGood { d with changes := d.changes + 1 } := ⟨h.b0, h.b1, h.p1, h.f1, h.at_, h.fk⟩
  unfold DS.strike
  split
  · exact h1.crash _
  · exact h1
def sureAll : List DW → List DB → List DB
  | [], L => L
  | w :: ws, L => sureAll ws (L.set w.at_.toNat { (L.getD w.at_.toNat default) with sure := w.b })
theorem sureAll_length : ∀ (ws : List DW) (L : List DB), (sureAll ws L).length = L.length
  | [], _ => rfl
  | w :: ws, L => by rw [sureAll, sureAll_length ws]; simp
theorem sureAll_snoc : ∀ (ws : List DW) (w : DW) (L : List DB), sureAll (ws ++ [w]) L = (sureAll ws L).set w.at_.toNat { ((sureAll ws L).getD w.at_.toNat default) with sure := w.b }
  | [], _, _ => rfl
  | x :: ws, w, L => by rw [List.cons_append, sureAll, sureAll_snoc ws, sureAll]
theorem sureAll_take (ws : List DW) (i : Nat) (L : List DB) (hi : i < ws.length) : sureAll (ws.take (i + 1)) L = (sureAll (ws.take i) L).set ws[i].at_.toNat { ((sureAll (ws.take i) L).getD ws[i].at_.toNat default) with sure := ws[i].b } := by
  rw [List.take_succ_eq_append_getElem hi, sureAll_snoc]
def DS.settled (d : DS) : DS := { d with blocks := sureAll d.pending d.blocks, pending := [] }
def DS.flush (d : DS) : DS × Int := if d.down = true then (d, 6) else if d.strike.2 ≠ 0 then d.strike else (d.strike.1.settled, 0)
theorem DGood.settled {d : DS} (h : DGood d) : DGood d.settled :=
  ⟨by simpa [DS.settled, sureAll_length] using h.b0, by simpa [DS.settled, sureAll_length] using h.b1, by simp [DS.settled], h.f1, fun x hx => by simp [DS.settled] at hx, h.fk⟩
theorem DGood.flush {d : DS} (h : DGood d) : DGood d.flush.1 := by
  unfold DS.flush
  split
  · exact h
  · split
    · exact h.strike
    · exact h.strike.settled
set_option maxHeartbeats 400000 in
theorem flush_down (w : World) (B : Nat) (k : KB) (d : DS) (h : DiskAt w B k d) (hd : d.down = true) :
    Calls Tryz.prog 108 #[.pointer (some ⟨k.gd, 0, none⟩)] w fun e w' => e = .returned (.int .i64 6) ∧ w = w' := by
  have HD := Lib.hid (down_any w B k d h)
  rw [hd] at HD
  clear h hd
  go_enter Tryz.func108, Tryz.ntmps108
  go_wp2_with fail
  refine HD.out.mono ?_
  rintro e w1 ⟨rfl, rfl⟩
  go_wp2_with fail
  go_ret
  exact ⟨rfl, rfl⟩
def Flushing (w : World) (B : Nat) (k : KB) (cb : Nat) (L : List DB) (wr : World) : Prop :=
  w.grownBy wr (some k.gb) ∧ EOwn eDB wr B (some ⟨k.gb, 0, none⟩) cb L
set_option maxRecDepth 20000 in
set_option maxHeartbeats 2000000 in
theorem flush_up (w : World) (B : Nat) (k : KB) (d : DS) (h : DiskAt w B k d) (hG : DGood d) (hch : d.changes < 1000000000) (hd : d.down = false) :
    Calls Tryz.prog 108 #[.pointer (some ⟨k.gd, 0, none⟩)] w fun e w' => e = .returned (.int .i64 d.flush.2) ∧ DiskAt w' B k d.flush.1 ∧ Keeps w w' k.own := by
  have HD := Lib.hid (down_any w B k d h)
  rw [hd] at HD
  have HST := Lib.hid (strike_any w B k d h hG hch)
  have hGs := hG.strike
  have HF : Hid (d.flush = if d.strike.2 ≠ 0 then d.strike else (d.strike.1.settled, 0)) := by show _ = _; unfold DS.flush; rw [if_neg (by simp [hd])]
  generalize d.flush = fl at HF ⊢
  generalize d.strike = s at HST HF hGs
  obtain ⟨s, e⟩ := s
  simp only at HST HF hGs
  clear h hd hG hch
  by_cases he : e = 0
  · subst he
    have HF2 : Hid (fl = (s.settled, 0)) := by show _ = _; rw [HF.out, if_neg (by simp)]
    clear HF
    go_enter Tryz.func108, Tryz.ntmps108
    go_wp2_with fail
    refine HD.out.mono ?_
    rintro e w1 ⟨rfl, rfl⟩
    go_wp2_with fail
    refine HST.out.mono ?_
    rintro e w1 ⟨rfl, hD1, hK1⟩
    have hp1 := hGs.p1
    have hb1 := hGs.b1
    obtain ⟨hne, hlt, hlt2, hBk⟩ := hD1.head
    obtain ⟨⟨cb, np, cp, nf, cf, Ap, Af, rfl, rfl, h3, h4, h5, h6, h7, h8, h9, h10, h11⟩, lo⟩ := hD1
    have HAP := Lib.hid (And.intro h10 (And.intro h11 hK1))
    have HW0 := Lib.hid (And.intro h6 (And.intro h8 h9))
    have HI : Hid (Flushing w1 B k cb s.blocks w1) := ⟨World.grownBy.refl _ _, h7⟩
    have hcc := h6.c5
    clear h6 h7 h8 h9 h10 h11 hK1 HST HD
    go_wp2_with fail
    go_loopw [18] (fun iv wr => ∃ i : Nat, i ≤ s.pending.length ∧ iv = .int .i64 i ∧ Hid (Flushing w1 B k cb (sureAll (s.pending.take i) s.blocks) wr)) (fun iv _ => s.pending.length - (intOf iv).toNat)
    case atStart => exact ⟨0, by omega, rfl, HI.out⟩
    case round =>
      obtain ⟨i, hi, rfl, HJ⟩ := hrel
      clear HI hcc
      obtain ⟨c1, c2⟩ := HJ.out
      have hcc := (HW0.out.1.grown c1 (by simp; exact hne)).c5
      by_cases hlt : i < s.pending.length
      · have hii : (i : Int) < (s.pending.length : Int) := by omega
        obtain ⟨bp, op, rfl, hbp, hrg⟩ := (HW0.out.2.1.keep2 c1.size (fun a ha _ => c1.block _ (by assumption) (by simp; exact fun e => HAP.out.1 a ha (.inr e)))).row.range hlt
        have hat := hGs.at_ s.pending[i] (List.getElem_mem hlt)
        have HTK := Lib.hid (sureAll_take s.pending i s.blocks hlt)
        have hLlen : (sureAll (s.pending.take i) s.blocks).length = s.blocks.length := sureAll_length ..
        generalize s.pending[i] = p at hrg hat HTK
        obtain ⟨pat, pb⟩ := p
        simp only at hat
        obtain ⟨m, rfl⟩ : ∃ m : Nat, pat = (m : Int) := ⟨pat.toNat, by omega⟩
        have hr0 : wr.rangeAt bp (op + i * 513) (Value.int .i64 (m : Int) :: pb.v) := hrg
        have HC := Lib.hid (And.intro c1 c2)
        have HR := Lib.hid hr0
        clear hrg hr0 c1 c2
        go_upto_region 9 with (first | (refine wpList_load_mid rfl 139 (.tmp 20) rfl bp (op + i * 513) rfl _ _ HR.out Tryz.underlying139 rfl (infoDW.trans (by rw [List.length_cons, pb.v_length])) ?_) | (refine wpList_alloc_z rfl 139 rfl (zeroDW _) ?_; intro W6 hW6; obtain ⟨ba6, hz6, hB6⟩ := fresh1 (a := Value.int .i64 0 :: zBytes 512) hW6; clear hW6) | (refine wpList_store_blk rfl rfl 139 (.tmp 5) (.tmp 21) rfl wr.heap.size rfl _ rfl ba6 (by simp [B512.v_length, zBytes]) (infoDW.trans (by simp [zBytes])) (eDW.one ⟨(m : Int), pb⟩) ?_; intro W7 hb7 hg7))
        have hc7 := And.intro (hb7.cell 0) (hb7.lt)
        simp only [List.getElem?_cons_zero] at hc7
        obtain ⟨c1, c2⟩ := HC.out
        have g17 : wr.grownBy W7 (some wr.heap.size) := (grown_of_below hB6 _).trans' hg7
        have hz7 : wr.heap.size < W7.heap.size := hb7.lt
        have hgw : w1.grownBy W7 (some k.gb) := grown_then c1 ⟨g17.os, g17.tape, g17.output, g17.size, fun i hi _ => g17.block i hi (by simp; omega)⟩
        have hlt3 : k.gb < wr.heap.size := Nat.lt_of_lt_of_le hlt2 c1.size
        have ho7 := c2.keep (fun a ha => by obtain rfl := Option.some.inj ha; exact g17.block _ hlt3 (by simp; omega))
        have hcc7 := And.intro (HW0.out.1.grown hgw (by simp; exact hne)).c5 hc7
        have HS7 := Lib.hid (And.intro hgw (And.intro ho7 hb7))
        clear hcc hc7 c1 c2 ba6 hB6 hg7 g17 hgw ho7 hb7
        have hmi : (m : Int) < (s.blocks.length : Int) := hat.2
        apply wp_region_last (n := 10) (R := fun j x w' => match j with
          | 0 => x = .pointer (some ⟨k.gd, 0, none⟩)
          | 1 => x = .pointer (some ⟨k.gd, 0, none⟩)
          | 2 => x = .pointer (some ⟨k.gd, 0, none⟩)
          | 3 => x = .slice (some ⟨k.gb, 0, none⟩) s.blocks.length cb
          | 4 => x = .pointer (some ⟨wr.heap.size, 0, none⟩)
          | 5 => x = .int .i64 (m : Int)
          | 6 => x = .pointer (some ⟨wr.heap.size, 1, none⟩)
          | 7 => x = .agg pb.v.toArray
          | 8 => x = .pointer (some ⟨k.gb, m * 1024, none⟩)
          | 9 => x = .pointer (some ⟨k.gb, m * 1024 + 512, none⟩)
          | _ => True) (W := fun w' => w' = W7.drew) (Gr := fun w1 w2 => w2 = w1)
        case hG => (intro v; simp only [regFrame, List.zipIdx_cons, List.zipIdx_nil, List.foldl_cons, List.foldl_nil, Act.put, List.setIfInBounds_toArray, List.set_cons_zero, List.set_cons_succ, Nat.reduceAdd]; rfl)
        case hm => kernel_rfl
        case honce => rfl
        case hlow => kernel_rfl
        case hall => kernel_rfl
        case hn => rfl
        case ho => rfl
        case hog => rfl
        case hod => rfl
        case hR =>
          intro j x w' w'' hb h
          exact h
        case hW => exact fun w w' h hb => hb.trans h
        case h0 => rfl
        case hstep =>
          have hld := run_loadAt_mid (P := Tryz.prog) W7.drew wr.heap.size 1 137 pb.v _ (Blk.range (w := W7.drew) HS7.out.2.2 1 pb.v (fun j hj => by rw [Nat.add_comm]; rfl)) Tryz.underlying137 rfl (infoArr.trans (by rw [pb.v_length]))
          refine ⟨?_, ?_, ?_, ?_, ?_, ?_, ?_, ?_, ?_, ?_, trivial⟩ <;> (intro v w' hw' hd; subst hw'; simp only [Deps, Region.binds, ↓reduceIte, and_true] at hd) <;> (try (first | exact opDoes_move _ rfl rfl ⟨rfl, rfl⟩ | (refine opDoes_run rfl ?_ ⟨rfl, rfl⟩; go_simp; done)))
          exact opDoes_run rfl (exec_load rfl hd hld) ⟨rfl, rfl⟩
        case hend =>
          intro v w' hw' h
          subst hw'
          simp only [List.take, AllOps, Nat.zero_add, Nat.reduceAdd, and_true] at h
          obtain ⟨-, -, -, -, -, -, -, h7, -, h9⟩ := h
          have HS8 : Hid (w1.grownBy W7.drew (some k.gb) ∧ EOwn eDB W7.drew B (some ⟨k.gb, 0, none⟩) cb (sureAll (s.pending.take i) s.blocks)) := ⟨⟨HS7.out.1.os, HS7.out.1.tape, HS7.out.1.output, HS7.out.1.size, HS7.out.1.block⟩, HS7.out.2.1⟩
          have hmL : m < (sureAll (s.pending.take i) s.blocks).length := by rw [hLlen]; omega
          have hgetD : (sureAll (s.pending.take i) s.blocks).getD m default = (sureAll (s.pending.take i) s.blocks)[m] := by simp [hmL]
          have HTK2 : Hid (sureAll (s.pending.take (i + 1)) s.blocks = (sureAll (s.pending.take i) s.blocks).set m { (sureAll (s.pending.take i) s.blocks)[m] with sure := pb }) := by
            have := HTK.out
            simp only [Int.toNat_natCast] at this
            rw [hgetD] at this
            exact this
          clear hgetD HTK hLlen
          generalize hLi : sureAll (s.pending.take i) s.blocks = Li at HS8 hmL HTK2
          clear hLi
          have hst := run_store_part (P := Tryz.prog) 137 k.gb m 512 pb.v HS8.out.2 hmL (by rw [pb.v_length]; decide) (infoArr.trans (by rw [pb.v_length])) pb.v_one
          have ho9 := EOwn.storePart HS8.out.2 hmL { Li[m] with sure := pb } 512 pb.v (by rw [pb.v_length]; decide) (code_sure _ _)
          have HS9 : Hid (Flushing w1 B k cb (Li.set m { Li[m] with sure := pb }) (W7.drew.setCells k.gb (m * 1024 + 512) pb.v)) := ⟨HS8.out.1.trans' (grown_setCells _ _ _ _), ho9⟩
          refine ⟨W7.drew.setCells k.gb (m * 1024 + 512) pb.v, exec_store rfl h9 h7 hst, ?_⟩
          clear hst ho9 h7 h9 hcc7
          generalize (World.setCells W7.drew _ _ _) = W9 at HS9 ⊢
          go_wp2_with fail
          go_roundw
          case rel => exact ⟨i + 1, by omega, by go_num, by rw [HTK2.out]; exact HS9.out⟩
          case measure => simp [intOf]; omega
      · obtain rfl : i = s.pending.length := by omega
        have hii : ¬ (s.pending.length : Int) < (s.pending.length : Int) := by omega
        rw [List.take_length] at c2
        have HC : Hid (w1.grownBy wr (some k.gb) ∧ EOwn eDB wr B (some ⟨k.gb, 0, none⟩) cb (sureAll s.pending s.blocks)) := ⟨c1, c2⟩
        clear c1 c2 HJ
        go_wp2_with fail
        go_ret
        rw [HF2.out]
        obtain ⟨hg, ho⟩ := HC.out
        have hlen2 : (sureAll s.pending s.blocks).length = s.blocks.length := sureAll_length ..
        have b1 := (HW0.out.1.grown hg (by simp; exact hne)).set1 (u := .slice none 0 0)
        have hne' : ∀ a : Addr, some (⟨k.gb, 0, none⟩ : Addr) = some a → a.block ≠ k.gd := fun a ha => by obtain rfl := Option.some.inj ha; exact fun e => hne e.symm
        have o1 := ho.set ⟨k.gd, 1, none⟩ hne' (.slice none 0 0)
        have r1 := (HW0.out.2.2.keep2 hg.size (fun a ha _ => hg.block _ (by assumption) (by simp; exact fun e => HAP.out.2.1 a ha (.inr e))))
        have r2 := r1.keep2 (w' := wr.setCell ⟨k.gd, 1, none⟩ (.slice none 0 0)) (by simp) (fun a ha _ => heap_setCell_other wr ⟨k.gd, 1, none⟩ _ _ (fun e => HAP.out.2.1 a ha (.inl e)))
        refine ⟨rfl, ?_, (HAP.out.2.2.trans ((Keeps.of_grown hg).mono (fun k' e => .inr e))).set ⟨k.gd, 1, none⟩ (.inl (.inl rfl)) _⟩
        exact ⟨⟨cb, 0, 0, _, cf, none, Af, rfl, rfl, Nat.le_refl _, Nat.zero_le _, fun _ => rfl, by show Blk _ _ _ [.slice _ (sureAll s.pending s.blocks).length _, _, _, _, _]; rw [hlen2]; exact b1, o1, EOwn.nil _ _, r2, (fun a ha => by cases ha), HAP.out.2.1⟩, lo⟩
  · have HF2 : Hid (fl = (s, e)) := by show _ = _; rw [HF.out, if_pos he]
    have hb : (e != 0) = true := by simpa using he
    clear HF he
    go_enter Tryz.func108, Tryz.ntmps108
    go_wp2_with fail
    refine HD.out.mono ?_
    rintro e w1 ⟨rfl, rfl⟩
    go_wp2_with fail
    refine HST.out.mono ?_
    rintro e w1 ⟨rfl, hD1, hK1⟩
    have HX := Lib.hid (And.intro hD1 hK1)
    clear hD1 hK1
    go_wp2_with fail
    go_ret
    rw [HF2.out]
    exact ⟨rfl, HX.out⟩
theorem flush_any (w : World) (B : Nat) (k : KB) (d : DS) (h : DiskAt w B k d) (hG : DGood d) (hch : d.changes < 1000000000) :
    Calls Tryz.prog 108 #[.pointer (some ⟨k.gd, 0, none⟩)] w fun e w' => e = .returned (.int .i64 d.flush.2) ∧ DiskAt w' B k d.flush.1 ∧ Keeps w w' k.own := by
  cases hd : d.down with
  | false => exact flush_up w B k d h hG hch hd
  | true =>
    refine (flush_down w B k d h hd).mono fun e w' ⟨he, hb⟩ => ?_
    have e1 : d.flush = (d, 6) := by unfold DS.flush; rw [if_pos hd]
    subst hb
    rw [e1]; exact ⟨he, h, Keeps.refl _ _⟩
theorem write_any (w : World) (B : Nat) (k : KB) (d : DS) (h : DiskAt w B k d) (hG : DGood d) (hch : d.changes < 1000000000) (hpl : d.pending.length < 1000000) (i : Int) (A : Option Addr) (c : Nat) (l : List UInt8) (hr : BRow w A l) :
    Calls Tryz.prog 106 #[.pointer (some ⟨k.gd, 0, none⟩), .int .i64 i, .slice A l.length c] w fun e w' => e = .returned (.int .i64 (d.write i l).2) ∧ DiskAt w' B k (d.write i l).1 ∧ Keeps w w' k.own := by
  by_cases hw : d.why i = 0
  · by_cases hl : l.length = 512
    · have hdn : d.down = false := by
        cases hd : d.down with
        | false => rfl
        | true => unfold DS.why at hw; rw [if_pos hd] at hw; exact absurd hw (by decide)
      have hir : 0 ≤ i ∧ i < d.blocks.length := by
        unfold DS.why at hw
        rw [if_neg (by simp [hdn])] at hw
        split at hw
        · exact absurd hw (by decide)
        · omega
      obtain ⟨m, rfl⟩ : ∃ m : Nat, i = (m : Int) := ⟨i.toNat, by omega⟩
      have e : d.write (m : Int) l = d.put m ⟨l, hl⟩ := by unfold DS.write; rw [if_neg (by simp [hw]), dif_pos hl, Int.toNat_natCast]
      rw [e, hl]
      exact write_ok w B k d h hG hch hpl m (by omega) hdn A c ⟨l, hl⟩ hr
    · refine (write_long w B k d h i A c l hw hl).mono fun e w' ⟨he, hb⟩ => ?_
      have e1 : d.write i l = (d, 1) := by unfold DS.write; rw [if_neg (by simp [hw]), dif_neg hl]
      subst hb
      rw [e1]; exact ⟨he, h, Keeps.refl _ _⟩
  · refine (write_bad w B k d h i A c l hw).mono fun e w' ⟨he, hb⟩ => ?_
    have e1 : d.write i l = (d, d.why i) := by unfold DS.write; rw [if_pos hw]
    subst hb
    rw [e1]; exact ⟨he, h, Keeps.refl _ _⟩
end Go.Proofs.YtcfoihihinijlaaGreat
end

section
namespace Go.Proofs.YtcfoihihinijlaaGreat
set_option linter.unusedSimpArgs false
set_option linter.unusedVariables false
open Go Go.RowKit
section
variable {P : Program} {Q : Exit → Act → World → Prop}
end
end Go.Proofs.YtcfoihihinijlaaGreat
end

section
namespace Go.Proofs.YtcfoihihinijlaaGreat
set_option linter.unusedSimpArgs false
set_option linter.unusedVariables false
open Go.RowKit
theorem EOwn.kind {α : Type} {E : Elem α} {w : World} {B c : Nat} {A : Option Addr} {L : List α} (h : EOwn E w B A c L) : ∀ a, A = some a → ∃ cur, w.heap[a.block]? = some (.cells cur E.e (0, 0)) := by
  intro a ha
  rcases h.form with ⟨h1, _⟩ | ⟨g, h1, _, _, _, _, cur, hh⟩
  · rw [h1] at ha; cases ha
  · rw [h1] at ha; obtain rfl := Option.some.inj ha; exact ⟨cur, hh⟩
theorem EOwn.apart {α β : Type} {E : Elem α} {F : Elem β} {w : World} {B c c' : Nat} {A A' : Option Addr} {L : List α} {M : List β} (h : EOwn E w B A c L) (h' : EOwn F w B A' c' M) (hne : E.e ≠ F.e) : ∀ a a', A = some a → A' = some a' → a.block ≠ a'.block := by
  intro a a' ha ha' e
  obtain ⟨cur, h1⟩ := h.kind a ha
  obtain ⟨cur', h2⟩ := h'.kind a' ha'
  rw [e, h2] at h1
  simp at h1
  exact hne h1.2.symm
end Go.Proofs.YtcfoihihinijlaaGreat
end

section
namespace Go.Proofs.YtcfoihihinijlaaGreat
set_option linter.unusedSimpArgs false
set_option linter.unusedVariables false
open Go.RowKit
theorem madeCells_elems {α : Type} (E : Elem α) (x : α) (hx : E.zero.cells.toList = E.code x) : ∀ n, (madeCells E.zero.cells (n * E.sz)).toList = E.cells (List.replicate n x) := by
  intro n
  have hpos := E.pos
  have hz := E.zsz
  apply List.ext_getElem?
  intro j
  by_cases hj : j < n * E.sz
  · rw [E.cells_get' _ j (by simpa using hj)]
    simp only [List.getElem_replicate]
    have hm : j % E.sz < E.sz := Nat.mod_lt _ hpos
    rw [← hx]
    have hm' : j % E.sz < E.zero.cells.size := by omega
    simp [madeCells, hj, hz]
    rw [getElem!_pos E.zero.cells (j % E.sz) hm', Array.getElem?_eq_getElem hm']
  · rw [List.getElem?_eq_none (by simp [size_madeCells]; omega), List.getElem?_eq_none (by rw [E.cells_length]; simp; omega)]
theorem wpList_make_elems {α : Type} (E : Elem α) (x0 : α) (hx0 : E.zero.cells.toList = E.code x0) {w : World} {B : Nat} {ops : Array Oper} {rest : List Oper} {o : Oper} {a : Act} {Q : Exit → Act → World → Prop} (hgd : o.guard = none) (x y : Operand) (hop : o.op = .makeSlice E.t x y)
    (kl kc : IntKind) (L C : Int) (n : Nat) (hx : a.eval x = .int kl L) (hy : a.eval y = .int kc C) (hL : L = (n : Int)) (hC : C = (n : Int)) (hb : n ≤ 1000000000) (hB : B ≤ w.heap.size)
    (h : ∀ w1, EOwn E w1 B (some ⟨w.heap.size, 0, none⟩) n (List.replicate n x0) → Below w.heap.size w w1 → wpList Tryz.prog ops Q rest (a.put o.dst (.slice (some ⟨w.heap.size, 0, none⟩) n n)) w1) :
    wpList Tryz.prog ops Q (o :: rest) a w := by
  obtain ⟨i, hi, hz, hs, hby⟩ := info_parts E.info
  have hbig : i.bytes * n ≤ 281474976710656 := by
    have h1 := Nat.mul_le_mul (show i.bytes ≤ 65536 by rw [hby]; exact E.few) hb
    omega
  refine wpList_make_full w hgd x y E.t hop B E.e i _ E.sz E.under hi hz hs kl kc L C n hx hy hL hC hbig (by simp [maxLen]; omega) hB fun w1 h1 h2 => ?_
  refine h w1 ?_ ((Below.refl _ w).grown h2 (Nat.le_refl _) (fun k hk => by cases hk))
  rw [madeCells_elems E x0 hx0] at h1
  have hl : (List.replicate n x0).length = n := List.length_replicate
  show w1.ownsRow B E.e E.sz (.slice _ (List.replicate n x0).length n) (List.replicate n x0).length _
  rw [hl]
  exact h1
def DS.new (n : Nat) : DS := { blocks := List.replicate n ⟨B512.zero, B512.zero⟩, pending := [], falls := [], changes := 0, down := false }
theorem dgood_new (n : Nat) (h0 : 0 < n) (hn : n ≤ 4096) : DGood (DS.new n) :=
  ⟨by simpa [DS.new] using h0, by simpa [DS.new] using hn, by simp [DS.new], by simp [DS.new], fun x hx => by simp [DS.new] at hx, fun x hx => by simp [DS.new] at hx⟩
theorem zeroDB : eDB.zero.cells.toList = eDB.code ⟨B512.zero, B512.zero⟩ := by
  show List.replicate 1024 (Value.int .u8 0) = (List.replicate 512 (0 : UInt8)).map bv ++ (List.replicate 512 (0 : UInt8)).map bv
  rw [List.map_replicate, List.replicate_append_replicate]
  exact congrArg (List.replicate 1024) (rfl : Value.int .u8 0 = bv 0)
set_option maxRecDepth 20000 in
set_option maxHeartbeats 1000000 in
theorem dnew_any (w : World) (n : Nat) (h0 : 0 < n) (hn : n ≤ 4096) :
    Calls Tryz.prog 44 #[.int .i64 n] w fun e w' => ∃ k, e = .returned (.tuple #[.pointer (some ⟨k.gd, 0, none⟩), .int .i64 0]) ∧ DiskAt w' w.heap.size k (DS.new n) ∧ Below w.heap.size w w' := by
  have hlo : ¬ (n : Int) < 1 := by omega
  have hhi : ¬ (4096 : Int) < (n : Int) := by omega
  go_enter Tryz.func44, Tryz.ntmps44
  go_wp2_with (refine wpList_make_elems eDB ⟨B512.zero, B512.zero⟩ zeroDB rfl (.tmp 10) (.tmp 10) rfl _ _ _ _ n rfl rfl rfl rfl (by omega) (Nat.le_refl _) ?_; intro w1 ho hb)
  go_ret2
  obtain ⟨ba, hz, hB⟩ := fresh1 (w := w1) (a := [.slice (some ⟨w.heap.size, 0, none⟩) n n, .slice none 0 0, .slice none 0 0, .int .i64 0, .bool false]) (t := 136) rfl
  have hlt := (ho.block _ rfl).2
  refine ⟨⟨w1.heap.size, w.heap.size⟩, rfl, ⟨⟨n, 0, 0, 0, 0, none, none, rfl, rfl, Nat.le_refl _, Nat.zero_le _, fun _ => rfl, ?_, ho.below hB, EOwn.nil _ _, EOwn.nil _ _, (fun a ha => by cases ha), (fun a ha => by cases ha)⟩, hb.size⟩, hb.trans (hB.mono hb.size)⟩
  show Blk _ _ _ [.slice _ (List.replicate n (_ : DB)).length _, _, _, _, _]
  rw [List.length_replicate]
  exact ba
end Go.Proofs.YtcfoihihinijlaaGreat
end

section
namespace Go.Proofs.YtcfoihihinijlaaGreat
set_option linter.unusedSimpArgs false
set_option linter.unusedVariables false
open Go.RowKit
theorem BOwn.setCells {B c g : Nat} : ∀ (m : List UInt8) {w : World} (pre l : List UInt8), BOwn w B (some ⟨g, 0, none⟩) c (pre ++ l) → m.length ≤ l.length → BOwn (w.setCells g pre.length (m.map bv)) B (some ⟨g, 0, none⟩) c (pre ++ (m ++ l.drop m.length))
  | [], w, pre, l, h, _ => by simpa [World.setCells] using h
  | x :: m, w, pre, [], h, hl => by simp at hl
  | x :: m, w, pre, y :: l, h, hl => by
    have h1 := h.store pre.length x (bv x) rfl
    have e : (pre ++ y :: l).set pre.length x = (pre ++ [x]) ++ l := by rw [List.set_append_right _ _ (Nat.le_refl _), Nat.sub_self, List.set_cons_zero, List.append_assoc]; rfl
    rw [e] at h1
    have h2 := BOwn.setCells m (pre ++ [x]) l h1 (by simpa using hl)
    rw [List.length_append, List.append_assoc] at h2
    exact h2
end Go.Proofs.YtcfoihihinijlaaGreat
end

section
namespace Go.Proofs.YtcfoihihinijlaaGreat
set_option linter.unusedSimpArgs false
set_option linter.unusedVariables false
open Go.RowKit
theorem crash_changes (d : DS) (f : DF) : (d.crash f).changes = d.changes := by unfold DS.crash; split <;> rfl
theorem crash_pending (d : DS) (f : DF) : (d.crash f).pending.length ≤ d.pending.length := by unfold DS.crash; split <;> simp
theorem strike_changes (d : DS) : d.strike.1.changes = d.changes + 1 := by
  unfold DS.strike
  split
  · exact crash_changes _ _
  · rfl
theorem strike_pending (d : DS) : d.strike.1.pending.length ≤ d.pending.length := by
  unfold DS.strike
  split
  · exact crash_pending _ _
  · exact Nat.le_refl _
theorem write_changes (d : DS) (i : Int) (l : List UInt8) : (d.write i l).1.changes ≤ d.changes + 1 := by
  unfold DS.write
  split
  · exact Nat.le_succ _
  · split
    · unfold DS.put; rw [strike_changes]; exact Nat.le_refl _
    · exact Nat.le_succ _
theorem write_pending (d : DS) (i : Int) (l : List UInt8) : (d.write i l).1.pending.length ≤ d.pending.length + 1 := by
  unfold DS.write
  split
  · exact Nat.le_succ _
  · split
    · unfold DS.put; refine Nat.le_trans (strike_pending _) ?_; simp
    · exact Nat.le_succ _
theorem flush_changes (d : DS) : d.flush.1.changes ≤ d.changes + 1 := by
  unfold DS.flush
  split
  · exact Nat.le_succ _
  · split
    · rw [strike_changes]; exact Nat.le_refl _
    · show d.strike.1.changes ≤ _; rw [strike_changes]; exact Nat.le_refl _
theorem flush_pending (d : DS) : d.flush.1.pending.length ≤ d.pending.length := by
  unfold DS.flush
  split
  · exact Nat.le_refl _
  · split
    · exact strike_pending _
    · simp [DS.settled]
theorem why_zero {d : DS} {i : Int} (h : d.why i = 0) : d.down = false ∧ 0 ≤ i ∧ i < d.blocks.length := by
  unfold DS.why at h
  cases hd : d.down with
  | true => rw [if_pos hd] at h; exact absurd h (by decide)
  | false =>
    rw [if_neg (by simp [hd])] at h
    split at h
    · exact absurd h (by decide)
    · exact ⟨rfl, by omega, by omega⟩
theorem DGood.write {d : DS} (h : DGood d) (hpl : d.pending.length < 1000000) (i : Int) (l : List UInt8) : DGood (d.write i l).1 := by
  unfold DS.write
  split
  · exact h
  · split
    · rename_i hw hl
      obtain ⟨-, h0, h1⟩ := why_zero (Classical.not_not.1 hw)
      unfold DS.put
      refine DGood.strike ⟨by simpa using h.b0, by simpa using h.b1, by simp; omega, h.f1, fun x hx => ?_, h.fk⟩
      simp only [List.length_set]
      rcases List.mem_append.1 hx with h' | h'
      · exact h.at_ x h'
      · simp only [List.mem_singleton] at h'
        subst h'
        exact ⟨by show (0 : Int) ≤ (i.toNat : Int); omega, by show ((i.toNat : Nat) : Int) < _; omega⟩
    · exact h
theorem DGood.up {d : DS} (h : DGood d) (b : Bool) : DGood { d with down := b } := ⟨h.b0, h.b1, h.p1, h.f1, h.at_, h.fk⟩
theorem DGood.plan {d : DS} (h : DGood d) (L : List DF) (hl : L.length ≤ 1000000) (hk : ∀ f ∈ L, f.keep < 18446744073709551616 ∧ (-9223372036854775808 ≤ f.torn ∧ f.torn ≤ 9223372036854775807)) : DGood { d with falls := L } := ⟨h.b0, h.b1, h.p1, hl, h.at_, hk⟩
structure DL (w0 w : World) (k : KB) (d : DS) (n : Nat) : Prop where
  at_ : DiskAt w w0.heap.size k d
  good : DGood d
  ch : d.changes ≤ n
  pe : d.pending.length ≤ n
  bel : Below w0.heap.size w0 w
section
variable {w0 w w' : World} {k : KB} {d : DS} {n : Nat}
theorem DL.own_lo (h : DL w0 w k d n) : ∀ i, k.own i → w0.heap.size ≤ i := fun i hi => by
  rcases hi with rfl | rfl
  · exact h.at_.lo
  · exact h.at_.head.2.2.2
theorem DL.below (h : DL w0 w k d n) (hb : Below w.heap.size w w') : DL w0 w' k d n := ⟨h.at_.below hb, h.good, h.ch, h.pe, h.bel.trans (hb.mono h.bel.size)⟩
theorem DL.more (h : DL w0 w k d n) {m : Nat} (hm : n ≤ m) : DL w0 w k d m := ⟨h.at_, h.good, Nat.le_trans h.ch hm, Nat.le_trans h.pe hm, h.bel⟩
theorem DL.step (h : DL w0 w k d n) {e : DS} {m : Nat} (ha : DiskAt w' w0.heap.size k e) (hk : Keeps w w' k.own) (hg : DGood e) (hc : e.changes ≤ m) (hp : e.pending.length ≤ m) : DL w0 w' k e m :=
  ⟨ha, hg, hc, hp, hk.below h.bel h.bel.size h.own_lo⟩
theorem DL.write (h : DL w0 w k d n) (hn : n < 1000000) (i : Int) (A : Option Addr) (c : Nat) (l : List UInt8) (hr : BRow w A l) :
    Calls Tryz.prog 106 #[.pointer (some ⟨k.gd, 0, none⟩), .int .i64 i, .slice A l.length c] w fun e w' => e = .returned (.int .i64 (d.write i l).2) ∧ DL w0 w' k (d.write i l).1 (n + 1) ∧ Keeps w w' k.own := by
  have hc := h.ch
  have hp := h.pe
  refine (write_any w _ k d h.at_ h.good (by omega) (by omega) i A c l hr).mono fun e w' ⟨he, hD, hK⟩ => ⟨he, h.step hD hK (h.good.write (by omega) i l) ?_ ?_, hK⟩
  · exact Nat.le_trans (write_changes d i l) (by omega)
  · exact Nat.le_trans (write_pending d i l) (by omega)
theorem DL.flush (h : DL w0 w k d n) (hn : n < 1000000) :
    Calls Tryz.prog 108 #[.pointer (some ⟨k.gd, 0, none⟩)] w fun e w' => e = .returned (.int .i64 d.flush.2) ∧ DL w0 w' k d.flush.1 (n + 1) ∧ Keeps w w' k.own := by
  have hc := h.ch
  have hp := h.pe
  refine (flush_any w _ k d h.at_ h.good (by omega)).mono fun e w' ⟨he, hD, hK⟩ => ⟨he, h.step hD hK h.good.flush ?_ ?_, hK⟩
  · exact Nat.le_trans (flush_changes d) (by omega)
  · exact Nat.le_trans (flush_pending d) (by omega)
theorem DL.crash (h : DL w0 w k d n) (f : DF) (hf : f.keep < 18446744073709551616) :
    Calls Tryz.prog 16 #[.pointer (some ⟨k.gd, 0, none⟩), .agg #[.int .i64 f.at_, .int .u64 (f.keep : Nat), .int .i64 f.torn]] w fun e w' => e = .returned (.tuple #[]) ∧ DL w0 w' k (d.crash f) n ∧ Keeps w w' k.own := by
  refine (crash_any w _ k d h.at_ h.good f hf).mono fun e w' ⟨he, hD, hK⟩ => ⟨he, h.step hD hK (h.good.crash f) ?_ ?_, hK⟩
  · rw [crash_changes]; exact h.ch
  · exact Nat.le_trans (crash_pending d f) h.pe
theorem DL.up (h : DL w0 w k d n) :
    Calls Tryz.prog 17 #[.pointer (some ⟨k.gd, 0, none⟩)] w fun e w' => e = .returned (.bool d.down) ∧ DL w0 w' k { d with down := false } n ∧ Keeps w w' k.own := by
  refine (up_any w _ k d h.at_).mono fun e w' ⟨he, hD, hg⟩ => ?_
  have hK : Keeps w w' k.own := (Keeps.of_grown hg).mono fun i hi => .inl hi
  exact ⟨he, h.step hD hK (h.good.up false) h.ch h.pe, hK⟩
theorem DL.plan (h : DL w0 w k d n) (A : Option Addr) (c : Nat) (L : List DF) (hr : ERow eDF w A L) (hl : L.length ≤ 1000000) (hk : ∀ f ∈ L, f.keep < 18446744073709551616 ∧ (-9223372036854775808 ≤ f.torn ∧ f.torn ≤ 9223372036854775807)) :
    Calls Tryz.prog 19 #[.pointer (some ⟨k.gd, 0, none⟩), .slice A L.length c] w fun e w' => e = .returned (.tuple #[]) ∧ DL w0 w' k { d with falls := L } n ∧ Keeps w w' k.own := by
  refine (plan_any w _ k d h.at_ A c L hr hl).mono fun e w' ⟨he, hD, hg⟩ => ?_
  have hK : Keeps w w' k.own := (Keeps.of_grown hg).mono fun i hi => .inl hi
  exact ⟨he, h.step hD hK (h.good.plan L hl hk) h.ch h.pe, hK⟩
theorem DL.new (m : Nat) (h0 : 0 < m) (hm : m ≤ 4096) (hb : Below w0.heap.size w0 w) :
    Calls Tryz.prog 44 #[.int .i64 m] w fun e w' => ∃ k, e = .returned (.tuple #[.pointer (some ⟨k.gd, 0, none⟩), .int .i64 0]) ∧ DL w0 w' k (DS.new m) 0 ∧ Below w.heap.size w w' := by
  refine (dnew_any w m h0 hm).mono fun e w' ⟨k, he, hD, hB⟩ => ⟨k, he, ⟨?_, dgood_new m h0 hm, Nat.le_refl _, Nat.le_refl _, hb.trans (hB.mono hb.size)⟩, hB⟩
  obtain ⟨⟨cb, np, cp, nf, cf, Ap, Af, h1, h2, h3, h4, h5, h6, h7, h8, h9, h10⟩, lo⟩ := hD
  exact ⟨⟨cb, np, cp, nf, cf, Ap, Af, h1, h2, h3, h4, h5, h6, h7.mono hb.size, h8.mono hb.size, h9.mono hb.size, h10⟩, Nat.le_trans hb.size lo⟩
end
end Go.Proofs.YtcfoihihinijlaaGreat
end

section
namespace Go.Proofs.YtcfoihihinijlaaGreat
set_option linter.unusedSimpArgs false
set_option linter.unusedVariables false
open Go.RowKit
structure LS where
  at_ : Nat
  room : Nat
  seq : Nat
  data : List UInt8
  count : Nat
  broken : Bool
def DS.head (d : DS) (at_ seq n : Nat) : DS × Int :=
  if (d.write ((at_ + seq % 2 : Nat) : Int) (Wal.headL seq n)).2 ≠ 0 then d.write ((at_ + seq % 2 : Nat) : Int) (Wal.headL seq n)
  else (d.write ((at_ + seq % 2 : Nat) : Int) (Wal.headL seq n)).1.flush
def LS.headed (l : LS) (seq : Nat) (e : Int) : LS := if e = 0 then { l with seq := seq } else { l with broken := true }
def DS.block (d : DS) (i : Nat) : List UInt8 := (d.blocks.getD i default).now.l
theorem DS.block_length (d : DS) (i : Nat) : (d.block i).length = 512 := (d.blocks.getD i default).now.h
def DS.pick (d : DS) (at_ room : Nat) : Nat × Nat :=
  if (Wal.right (d.block at_) room).1 < (Wal.right (d.block (at_ + 1)) room).1 then Wal.right (d.block (at_ + 1)) room else Wal.right (d.block at_) room
def DS.bytes (d : DS) (at_ : Nat) (n : Nat) : List UInt8 := (List.range n).flatMap fun j => d.block (at_ + j)
theorem DS.bytes_succ (d : DS) (at_ n : Nat) : d.bytes at_ (n + 1) = d.bytes at_ n ++ d.block (at_ + n) := by simp [DS.bytes, List.range_succ]
theorem DS.bytes_length (d : DS) (at_ n : Nat) : (d.bytes at_ n).length = n * 512 := by
  induction n with
  | zero => simp [DS.bytes]
  | succ n ih => rw [DS.bytes_succ, List.length_append, ih, DS.block_length]; omega
def DS.body (d : DS) (at_ n : Nat) : List UInt8 := (d.bytes (at_ + 2) ((n + 511) / 512)).take n
theorem DS.body_length (d : DS) (at_ n : Nat) : (d.body at_ n).length = n := by rw [DS.body, List.length_take, DS.bytes_length]; omega
structure OR where
  d : DS
  l : LS
  recs : List (List UInt8)
  e : Int
def LS.dead (at_ room : Nat) : LS := ⟨at_, room, 0, [], 0, true⟩
def DS.openW (d : DS) (at_ room : Nat) : OR :=
  if d.down = true then ⟨d, .dead at_ room, [], 6⟩
  else if (d.pick at_ room).1 = 0 then
    if (d.head at_ 1 0).2 ≠ 0 then ⟨(d.head at_ 1 0).1, .dead at_ room, [], (d.head at_ 1 0).2⟩ else ⟨(d.head at_ 1 0).1, ⟨at_, room, 1, [], 0, false⟩, [], 0⟩
  else if (Wal.records (d.body at_ (d.pick at_ room).2)).2 ≠ 0 then ⟨d, .dead at_ room, [], (Wal.records (d.body at_ (d.pick at_ room).2)).2⟩
  else ⟨d, ⟨at_, room, (d.pick at_ room).1, d.body at_ (d.pick at_ room).2, (Wal.records (d.body at_ (d.pick at_ room).2)).1.length, false⟩, (Wal.records (d.body at_ (d.pick at_ room).2)).1, 0⟩
def padB (l : List UInt8) (i : Nat) : List UInt8 := (l.drop (i * 512)).take 512 ++ List.replicate (512 - ((l.drop (i * 512)).take 512).length) 0
theorem padB_length (l : List UInt8) (i : Nat) : (padB l i).length = 512 := by
  unfold padB
  rw [List.length_append, List.length_replicate, List.length_take]
  omega
def DS.lay (at_ : Nat) (all : List UInt8) : Nat → Nat → DS → DS × Int
  | 0, _, d => (d, 0)
  | f + 1, i, d =>
    if all.length ≤ i * 512 then (d, 0)
    else if (d.write ((at_ + 2 + i : Nat) : Int) (padB all i)).2 ≠ 0 then d.write ((at_ + 2 + i : Nat) : Int) (padB all i)
    else DS.lay at_ all f (i + 1) (d.write ((at_ + 2 + i : Nat) : Int) (padB all i)).1
structure AR where
  d : DS
  l : LS
  e : Int
def DS.addW (d : DS) (l : LS) (all : List UInt8) (many : Nat) : AR :=
  if (DS.lay l.at_ all all.length (l.data.length / 512) d).2 ≠ 0 then ⟨(DS.lay l.at_ all all.length (l.data.length / 512) d).1, { l with broken := true }, (DS.lay l.at_ all all.length (l.data.length / 512) d).2⟩
  else if (DS.lay l.at_ all all.length (l.data.length / 512) d).1.flush.2 ≠ 0 then ⟨(DS.lay l.at_ all all.length (l.data.length / 512) d).1.flush.1, { l with broken := true }, (DS.lay l.at_ all all.length (l.data.length / 512) d).1.flush.2⟩
  else if ((DS.lay l.at_ all all.length (l.data.length / 512) d).1.flush.1.head l.at_ (l.seq + 1) all.length).2 ≠ 0 then ⟨((DS.lay l.at_ all all.length (l.data.length / 512) d).1.flush.1.head l.at_ (l.seq + 1) all.length).1, { l with broken := true }, ((DS.lay l.at_ all all.length (l.data.length / 512) d).1.flush.1.head l.at_ (l.seq + 1) all.length).2⟩
  else ⟨((DS.lay l.at_ all all.length (l.data.length / 512) d).1.flush.1.head l.at_ (l.seq + 1) all.length).1, { l with seq := l.seq + 1, data := all, count := l.count + many }, 0⟩
def DS.add (d : DS) (l : LS) (recs : List (List UInt8)) : AR :=
  if l.broken = true then ⟨d, l, 3⟩
  else if recs = [] then ⟨d, l, 0⟩
  else if l.room < (l.data ++ Wal.frames recs).length ∨ l.seq = Wal.last62 then ⟨d, l, 40⟩
  else d.addW l (l.data ++ Wal.frames recs) recs.length
def DS.reset (d : DS) (l : LS) : AR :=
  if l.broken = true then ⟨d, l, 3⟩
  else if l.seq = Wal.last62 then ⟨d, l, 40⟩
  else if (d.head l.at_ (l.seq + 1) 0).2 ≠ 0 then ⟨(d.head l.at_ (l.seq + 1) 0).1, { l with broken := true }, (d.head l.at_ (l.seq + 1) 0).2⟩
  else ⟨(d.head l.at_ (l.seq + 1) 0).1, { l with seq := l.seq + 1, data := [], count := 0 }, 0⟩
structure LGood (l : LS) : Prop where
  at_ : l.at_ ≤ 5000
  room : l.room ≤ 511000
  seq : l.seq ≤ Wal.last62
  data : l.data.length ≤ l.room
  count : l.count ≤ l.data.length
end Go.Proofs.YtcfoihihinijlaaGreat
end

section
namespace Go.Proofs.YtcfoihihinijlaaGreat
set_option linter.unusedSimpArgs false
set_option linter.unusedVariables false
open Go.RowKit Go.Deep Go.WideShapes Go.ChangeShapes
section
variable {H : Type} {enc : TypeId × Value → H} {w : World} {base : Nat} {spare : Nat → Bool} {held : Bool} {fuel : Nat} {cs : List Value} {x : DataW H × List MemPlace}
theorem open_elems {α : Type} [Inhabited α] (E : Elem α) (hce : Tryz.prog.cellsOf E.e = E.sz) (Deep : α → Prop)
    (hopen : ∀ fuel cs x, DataW.trod enc Tryz.prog w base spare held fuel E.e cs = some x → cs.length = E.sz → ∃ a, cs = E.code a ∧ Deep a)
    (h : DataW.trod enc Tryz.prog w base spare held fuel E.t cs = some x) : ∃ A L c, cs = [.slice A (List.length L) c] ∧ ERow E w A L ∧ (∀ a ∈ L, Deep a) ∧ L.length ≤ c ∧ c ≤ maxLen := by
  rcases open_slice E.under h with ⟨rfl, _⟩ | ⟨a, len, cap, m, n, D, Pl, rfl, _, hl, hm, hmm, _, hx⟩
  · exact ⟨none, [], 0, rfl, ERow.nil, by simp, by simp, Nat.zero_le _⟩
  · have hlm : len ≤ m := by rw [hmm]; split <;> omega
    have each : ∀ i, i < len → ∃ y : α, (∀ k, k < E.sz → w.cell? (a.add (i * E.sz + k)) = (E.code y)[k]?) ∧ Deep y := by
      intro i hi
      obtain ⟨cs', h1, h2⟩ := hx i (by omega)
      rw [hce] at h1
      obtain ⟨_, hlen, hcell⟩ := World.cells?_some h1
      obtain ⟨y, rfl, hd⟩ := hopen _ _ _ h2 hlen
      refine ⟨y, fun k hk => ?_, hd⟩
      rw [← hcell k hk, add_add]
    obtain ⟨f, hf⟩ := choose_lt each
    refine ⟨some a, (List.range len).map f, cap, by simp, fun hpos => ?_, ?_, by simpa using hl, hm⟩
    · have hpos' : 0 < len := by simpa using hpos
      have h0 := (hf 0 hpos').1 0 E.pos
      have hl0 : 0 < (E.code (f 0)).length := by rw [E.len]; exact E.pos
      rw [List.getElem?_eq_getElem hl0] at h0
      obtain ⟨b, o, sp⟩ := a
      have hsp : sp = none := by simpa [Addr.add] using World.cell?_spot h0
      subst hsp
      refine ⟨b, o, rfl, by have := World.block_lt_of_cell? w _ h0; simpa [Addr.add] using this, fun j u hu => ?_⟩
      have hj := (List.getElem?_eq_some_iff.1 hu).1
      rw [Elem.cells_length] at hj
      have hj' : j < len * E.sz := by simpa using hj
      have hd : j / E.sz < len := Nat.div_lt_of_lt_mul (by rw [Nat.mul_comm]; exact hj')
      rw [E.cells_get' _ j hj] at hu
      have h2 := (hf (j / E.sz) hd).1 (j % E.sz) (Nat.mod_lt _ E.pos)
      rw [Nat.mul_comm, Nat.div_add_mod] at h2
      rw [Addr.add_lit] at h2
      rw [h2]
      simpa using hu
    · intro y hy
      obtain ⟨r, hr, rfl⟩ := List.mem_map.1 hy
      exact (hf r (List.mem_range.1 hr)).2
theorem open_bytes (h : DataW.trod enc Tryz.prog w base spare held fuel 56 cs = some x) : ∃ A l c, cs = [.slice A (List.length l) c] ∧ BRow w A l ∧ l.length ≤ c ∧ c ≤ maxLen := by
  rcases open_ints Tryz.underlying56 Tryz.underlying5 (by kernel_rfl) h with ⟨rfl, _⟩ | ⟨x, l, c, zs, rfl, _, hl, hm, hz, _, hcell, hwz⟩
  · exact ⟨none, [], 0, rfl, BRow.nil, by simp, Nat.zero_le _⟩
  · obtain ⟨l', e, hr⟩ : ∃ l' : List UInt8, l'.length = l ∧ BRow w (some x) l' := by
      have hzl : l ≤ zs.length := by rw [hz]; split <;> omega
      refine ⟨(zs.take l).map fun n => UInt8.ofNat n.toNat, by simp; omega, fun h => ?_⟩
      have hpos : 0 < zs.length := by simp at h; omega
      have h0 := hcell 0 hpos
      obtain ⟨b, o, sp⟩ := x
      have hsp : sp = none := by simpa [Addr.add] using World.cell?_spot h0
      subst hsp
      refine ⟨b, o, rfl, World.block_lt_of_cell? w _ h0, fun j hj => ?_⟩
      have hj' : j < zs.length := by simp at hj; omega
      have := hcell j hj'
      rw [Addr.add_lit] at this
      rw [this]
      have hw := hwz zs[j] (List.getElem_mem hj')
      have hb : 0 ≤ zs[j] ∧ zs[j] ≤ 255 := by
        simp [Lit.wf, IntKind.min, IntKind.max, IntKind.signed, IntKind.bits] at hw
        omega
      simp [bv, hj']
      omega
    subst e
    exact ⟨some x, l', c, rfl, hr, hl, hm⟩
theorem open_i64 {t : TypeId} (ht : Tryz.prog.underlying t = some (.int .i64)) (h : DataW.trod enc Tryz.prog w base spare held fuel t cs = some x) : ∃ n : Int, cs = [.int .i64 n] ∧ -9223372036854775808 ≤ n ∧ n ≤ 9223372036854775807 := by
  obtain ⟨n, rfl, _, hw⟩ := DataW.trod_int ht h
  simp [Lit.wf, IntKind.min, IntKind.max, IntKind.signed, IntKind.bits] at hw
  exact ⟨n, rfl, hw.1, hw.2⟩
end
end Go.Proofs.YtcfoihihinijlaaGreat
end

section
namespace Go.Proofs.YtcfoihihinijlaaGreat
set_option linter.unusedSimpArgs false
set_option linter.unusedVariables false
open Go.RowKit
structure Fr where
  page : Int
  mark : Bool
  s : List UInt8
  A : Option Addr
  c : Nat
def Fr.cells (f : Fr) : List Value := [.int .i64 f.page, .bool f.mark, .slice f.A f.s.length f.c]
def FRow (w : World) (A : Option Addr) (L : List Fr) : Prop :=
  0 < L.length → ∃ b o, A = some ⟨b, o, none⟩ ∧ b < w.heap.size ∧ ∀ j (h : j < L.length),
    w.cell? ⟨b, o + j * 3, none⟩ = some (.int .i64 L[j].page) ∧ w.cell? ⟨b, o + j * 3 + 1, none⟩ = some (.bool L[j].mark) ∧ w.cell? ⟨b, o + j * 3 + 2, none⟩ = some (.slice L[j].A L[j].s.length L[j].c)
theorem FRow.below {w w' : World} {A : Option Addr} {L : List Fr} (h : FRow w A L) (hb : Below w.heap.size w w') : FRow w' A L := fun hl => by
  obtain ⟨b, o, e, hlt, hc⟩ := h hl
  exact ⟨b, o, e, Nat.lt_of_lt_of_le hlt hb.size, fun j hj => ⟨(hb.cell (p := ⟨b, o + j * 3, none⟩) hlt).trans (hc j hj).1, (hb.cell (p := ⟨b, o + j * 3 + 1, none⟩) hlt).trans (hc j hj).2.1, (hb.cell (p := ⟨b, o + j * 3 + 2, none⟩) hlt).trans (hc j hj).2.2⟩⟩
def Fr.v (f : Fr) : Value := .agg #[.int .i64 f.page, .bool f.mark, .slice f.A f.s.length f.c]
set_option maxHeartbeats 400000 in
theorem place1_any (w : World) (f : Fr) : Calls Tryz.prog 184 #[f.v] w fun e w' => e = .returned (.bool (decide (f.page < 0))) ∧ Below w.heap.size w w' := by
  unfold Fr.v
  go_enter Tryz.func184, Tryz.ntmps184
  go_wp2_with fail
  go_ret
  exact ⟨rfl, (Below.refl _ _).alloc (Nat.le_refl _) _⟩
def firstEmpty : List Fr → Nat → Int
  | [], _ => -1
  | f :: L, i => if f.page < 0 then (i : Int) else firstEmpty L (i + 1)
set_option maxHeartbeats 1000000 in
theorem indexFunc_any (w : World) (A : Option Addr) (c : Nat) (L : List Fr) (hr : FRow w A L) (hl : L.length ≤ 1000) :
    Calls Tryz.prog 183 #[.slice A L.length c, .func (.func 184) #[] #[]] w fun e w' => e = .returned (.int .i64 (firstEmpty L 0)) ∧ Below w.heap.size w w' := by
  go_enter Tryz.func183, Tryz.ntmps183
  go_wp2_with fail
  go_loopw [8] (fun iv wr => ∃ i : Nat, i ≤ L.length ∧ iv = .int .i64 i ∧ Below w.heap.size w wr ∧ Hid (firstEmpty L 0 = firstEmpty (L.drop i) i)) (fun iv _ => L.length - (intOf iv).toNat)
  case atStart => exact ⟨0, by omega, rfl, Below.refl _ _, rfl⟩
  case round =>
    obtain ⟨i, hi, rfl, hB, HF⟩ := hrel
    by_cases hlt : i < L.length
    · have hrx := hr.below hB
      obtain ⟨b, o, rfl, hb, hc⟩ := hrx (by omega)
      obtain ⟨h0, h1, h2⟩ := hc i hlt
      have HD : Hid (firstEmpty (L.drop i) i = if L[i].page < 0 then (i : Int) else firstEmpty (L.drop (i + 1)) (i + 1)) := by
        show _ = _
        rw [List.drop_eq_getElem_cons hlt, firstEmpty]
      generalize L[i] = f at h0 h1 h2 HD
      have hlti : (i : Int) < (L.length : Int) := by omega
      clear hc hr hrx
      by_cases hp : f.page < 0
      · have hd : decide (f.page < 0) = true := by simpa using hp
        go_wp2_with fail
        refine (place1_any wr f).mono ?_
        rintro e w2 ⟨rfl, hb2⟩
        rw [hd]
        go_wp2_with fail
        go_ret
        rw [HF.out, HD.out, if_pos hp]
        exact ⟨rfl, hB.trans (hb2.mono hB.size)⟩
      · have hd : decide (f.page < 0) = false := by simpa using hp
        go_wp2_with fail
        refine (place1_any wr f).mono ?_
        rintro e w2 ⟨rfl, hb2⟩
        rw [hd]
        go_wp2_with fail
        go_roundw
        case rel => exact ⟨i + 1, by omega, by go_num, hB.trans (hb2.mono hB.size), by show _ = _; rw [HF.out, HD.out, if_neg (by omega)]⟩
        case measure => simp [intOf]; omega
    · have hlti : ¬ (i : Int) < (L.length : Int) := by omega
      go_wp2_with fail
      go_ret
      rw [HF.out, List.drop_eq_nil_of_le (by omega)]
      exact ⟨rfl, hB⟩
end Go.Proofs.YtcfoihihinijlaaGreat
end

section
namespace Go.Proofs.YtcfoihihinijlaaGreat
set_option linter.unusedSimpArgs false
set_option linter.unusedVariables false
open Go.RowKit
theorem infoFr : (Tryz.prog.info? 199).map (fun i => (i.zero, i.size, i.bytes)) = some (some (.agg #[.int .i64 0, .bool false, .slice none 0 0]), 3, 40) := by kernel_rfl
def frCells (L : List Fr) : List Value := L.flatMap Fr.cells
def FOwn (w : World) (B : Nat) (A : Option Addr) (c : Nat) (L : List Fr) : Prop := w.ownsRow B 199 3 (.slice A L.length c) L.length (frCells L)
theorem frCells_length (L : List Fr) : (frCells L).length = L.length * 3 := by
  induction L with
  | nil => rfl
  | cons f L ih =>
    show (Fr.cells f ++ frCells L).length = _
    rw [List.length_append, ih]
    simp [Fr.cells]
    omega
theorem frCells_append (L M : List Fr) : frCells (L ++ M) = frCells L ++ frCells M := by simp [frCells]
theorem frCells_one (L : List Fr) : ∀ u ∈ frCells L, u.oneCell' = true := by
  intro u hu
  obtain ⟨f, _, hf⟩ := List.mem_flatMap.1 hu
  simp [Fr.cells] at hf
  rcases hf with rfl | rfl | rfl <;> rfl
theorem frCells_get : ∀ (L : List Fr) (j : Nat) (h : j < L.length), (frCells L)[j * 3]? = some (.int .i64 L[j].page) ∧ (frCells L)[j * 3 + 1]? = some (.bool L[j].mark) ∧ (frCells L)[j * 3 + 2]? = some (.slice L[j].A L[j].s.length L[j].c)
  | [], j, h => by simp at h
  | f :: L, 0, h => by simp [frCells, Fr.cells]
  | f :: L, j + 1, h => by
    have ih := frCells_get L j (by simpa using h)
    have e : frCells (f :: L) = Fr.cells f ++ frCells L := rfl
    have e3 : (Fr.cells f).length = 3 := rfl
    rw [e, List.getElem?_append_right (by omega), List.getElem?_append_right (by omega), List.getElem?_append_right (by omega), e3]
    rw [show (j + 1) * 3 - 3 = j * 3 from by omega, show (j + 1) * 3 + 1 - 3 = j * 3 + 1 from by omega, show (j + 1) * 3 + 2 - 3 = j * 3 + 2 from by omega]
    simpa using ih
section
variable {w w' : World} {B c : Nat} {A : Option Addr} {L M : List Fr}
theorem FOwn.row (h : FOwn w B A c L) : FRow w A L := by
  intro hl
  rcases h.2 with ⟨hv, h0⟩ | ⟨g, cap, cur, hv, hb, hg, hn, hm, hx⟩
  · omega
  · simp only [Value.slice.injEq] at hv
    obtain ⟨rfl, _, rfl⟩ := hv
    refine ⟨g, 0, rfl, (Array.getElem?_eq_some_iff.1 hg).1, fun j hj => ?_⟩
    have hc := World.ownsRow.cells h (g := g) rfl
    obtain ⟨h0, h1, h2⟩ := frCells_get L j hj
    have e0 := hc _ _ h0
    have e1 := hc _ _ h1
    have e2 := hc _ _ h2
    rw [Addr.add_lit] at e0 e1 e2
    exact ⟨e0, e1, e2⟩
theorem FOwn.nil (w : World) (B : Nat) : FOwn w B none 0 [] := World.ownsRow_nil _ _ _ _
theorem FOwn.below (h : FOwn w B A c L) (hb : Below w.heap.size w w') : FOwn w' B A c L := by
  refine World.ownsRow.kept (row := none) h ⟨hb.os, hb.tape, hb.output, hb.size, fun k hk _ => hb.block k hk⟩ ?_
  cases h2 : Value.ownBlock (.slice A L.length c) <;> simp
theorem FOwn.alloc (h : FOwn w B A c L) (o : Obj) : FOwn (w.alloc o) B A c L := World.ownsRow.alloc h o
theorem FOwn.new (w : World) (L : List Fr) (hm : L.length ≤ maxLen) (hB : B ≤ w.heap.size) : FOwn (w.alloc (.cells (frCells L).toArray 199)) B (some ⟨w.heap.size, 0, none⟩) L.length L := by
  have := World.ownsRow_lit (e := 199) (size := 3) w (frCells L).toArray L.length hB hm (by simpa using frCells_length L)
  simpa [FOwn] using this
theorem FOwn.below_grown (h : FOwn w B A c L) (hg : w.grownBy w' (A.map (·.block))) (hB : B ≤ w.heap.size) : Below B w w' :=
  (Below.refl B w).grown hg hB fun k hk => by
    have := (World.ownsRow.lt h k (by rw [own_block]; exact hk)).1
    exact this
theorem wpList_append_frames {A' : Option Addr} {c' : Nat} {ops : Array Oper} {rest : List Oper} {o : Oper} {a : Act} {Q : Exit → Act → World → Prop} (hgd : o.guard = none) (s x : Operand)
    (hop : o.op = .call { callee := .builtin .append, args := #[s, x], argTypes := #[194, 194] })
    (n : Nat) (hs : a.eval s = .slice A n c) (ho : FOwn w B A c L) (hn : n = L.length) (k : Nat) (hx : a.eval x = .slice A' k c') (hr : FRow w A' M) (hk : k = M.length)
    (hb : L.length + M.length ≤ 1000000) (hB : B ≤ w.heap.size)
    (h : ∀ A1 c1 w1, FOwn w1 B A1 c1 (L ++ M) → Below B w w1 → wpList Tryz.prog ops Q rest (a.put o.dst (.slice A1 (L.length + M.length) c1)) w1) : wpList Tryz.prog ops Q (o :: rest) a w := by
  subst hn hk
  obtain ⟨i, hi, hz, hsi, hby⟩ := info_parts infoFr
  have key : ∃ A1 c1 w1, (Builtin.append_ #[194, 194] o.type #[.slice A L.length c, .slice A' M.length c']).run Tryz.prog w = .ok (.slice A1 (L.length + M.length) c1) w1 ∧ FOwn w1 B A1 c1 (L ++ M) ∧ w.grownBy w1 (A.map (·.block)) := by
    rcases A' with _ | ad
    · have hm : M = [] := by
        cases M with
        | nil => rfl
        | cons x M => obtain ⟨b, o, h, _⟩ := hr (by simp); cases h
      subst hm
      refine ⟨A, c, w, ?_, by simpa using ho, World.grownBy.refl w _⟩
      exact run_append_of_none (P := Tryz.prog) w B 194 o.type 199 i 3 Tryz.underlying194 hi _ _ _ ho c'
    · have hcells : ∀ j u, (frCells M)[j]? = some u → w.cell? (ad.add j) = some u := by
        intro j u hu
        have hj := (List.getElem?_eq_some_iff.1 hu).1
        rw [frCells_length] at hj
        obtain ⟨b, o, h, _, hc⟩ := hr (by omega)
        obtain rfl := Option.some.inj h
        rw [Addr.add_lit]
        have hd : j / 3 < M.length := by omega
        obtain ⟨g0, g1, g2⟩ := frCells_get M (j / 3) hd
        obtain ⟨k0, k1, k2⟩ := hc (j / 3) hd
        rcases (show j = j / 3 * 3 ∨ j = j / 3 * 3 + 1 ∨ j = j / 3 * 3 + 2 from by omega) with e | e | e
        · rw [e] at hu ⊢
          rw [g0] at hu
          rw [k0, hu]
        · rw [e] at hu ⊢
          rw [g1] at hu
          rw [← Nat.add_assoc, k1, hu]
        · rw [e] at hu ⊢
          rw [g2] at hu
          rw [← Nat.add_assoc, k2, hu]
      obtain ⟨v', w', hrun, h2, h3, _, _⟩ := run_append_own_at (P := Tryz.prog) w B 194 o.type 199 i _ 3 40 Tryz.underlying194 hi hz hsi hby rfl (by omega) _ _ _ ho ad M.length c' (frCells M)
        (frCells_length M) hcells (frCells_one M) (by simp [maxLen]; omega) (by omega) hB
      obtain ⟨A1, c1, rfl⟩ := own_slice h2
      refine ⟨A1, c1, w', hrun, ?_, by simpa [own_block] using h3⟩
      unfold FOwn
      rw [frCells_append, List.length_append]
      exact h2
  obtain ⟨A1, c1, w1, hrun, h2, h3⟩ := key
  refine Lib.wpList_append_run w hgd s x _ _ hop _ _ hs hx _ _ hrun ?_
  exact h A1 c1 w1 h2 (ho.below_grown h3 hB)
end
end Go.Proofs.YtcfoihihinijlaaGreat
end

section
namespace Go.Proofs.YtcfoihihinijlaaGreat
set_option linter.unusedSimpArgs false
set_option linter.unusedVariables false
open Go.RowKit
set_option maxHeartbeats 1000000 in
theorem grow_any (w : World) (n : Nat) (h0 : 0 < n) (hn : n ≤ 1000) :
    Calls Tryz.prog 154 #[.slice none 0 0, .int .i64 n] w fun e w' => ∃ g c, e = .returned (.slice (some ⟨g, 0, none⟩) 0 c) ∧ FOwn w' w.heap.size (some ⟨g, 0, none⟩) c [] ∧ Below w.heap.size w w' := by
  obtain ⟨i, hi, hz, hsi, hby⟩ := info_parts infoFr
  have hrun := Lib.run_append_nil_zeros (P := Tryz.prog) w 194 3 194 199 i _ .i64 .i64 Tryz.underlying194 Tryz.underlying3 hi hz n h0 (by omega) (by omega) (by rw [hby]; omega)
  have hni : ¬ (n : Int) < 0 := by omega
  have hpos : (0 : Int) < (n : Int) := by omega
  have hc1 := grownCap_ge w n 0 199
  have hc2 := grownCap_le_maxLen w n 0 199 (by simp [maxLen]; omega)
  generalize grownCap w n 0 199 = c at hrun hc1 hc2
  go_enter Tryz.func154, Tryz.ntmps154
  go_wp2_with (at_builtin; refine Lib.wpList_append_run w rfl (.tmp 20) (.tmp 21) 194 3 rfl _ _ rfl rfl _ _ hrun ?_)
  go_ret
  refine ⟨w.heap.size, c, rfl, ?_, ((Below.refl _ _).drew).alloc (Nat.le_refl _) _⟩
  exact World.ownsRow_made w.drew _ c (Nat.le_refl _) hc2 (by simp [Builtin.zeroCells]; omega)
structure FPart where
  A : Option Addr
  c : Nat
  L : List Fr
def FPart.v (p : FPart) : Value := .slice p.A p.L.length p.c
def lens (ps : List FPart) : Nat := (ps.map fun p => p.L.length).sum
theorem lens_take (ps : List FPart) (i : Nat) (h : i < ps.length) : lens (ps.take (i + 1)) = lens (ps.take i) + ps[i].L.length := by
  unfold lens
  rw [List.take_succ_eq_append_getElem h, List.map_append, List.sum_append]
  simp
theorem lens_le (ps : List FPart) (i : Nat) : lens (ps.take i) ≤ lens ps := by
  have e : lens ps = lens (ps.take i) + lens (ps.drop i) := by
    unfold lens
    rw [← List.sum_append, ← List.map_append, List.take_append_drop]
  omega
theorem flat_take (ps : List FPart) (i : Nat) (h : i < ps.length) : (ps.take (i + 1)).flatMap (·.L) = (ps.take i).flatMap (·.L) ++ ps[i].L := by
  rw [List.take_succ_eq_append_getElem h, List.flatMap_append]
  simp
theorem flat_length (ps : List FPart) : (ps.flatMap (·.L)).length = lens ps := by simp [lens, List.length_flatMap]
set_option maxHeartbeats 1000000 in
theorem concat_any (w : World) (A : Option Addr) (c : Nat) (ps : List FPart) (hr : Row w A (ps.map FPart.v)) (hp : ∀ p ∈ ps, FRow w p.A p.L) (hn : ps.length ≤ 1000) (h0 : 0 < lens ps) (h1 : lens ps ≤ 1000) :
    Calls Tryz.prog 113 #[.slice A ps.length c] w fun e w' => ∃ A' c', e = .returned (.slice A' (ps.flatMap (·.L)).length c') ∧ FOwn w' w.heap.size A' c' (ps.flatMap (·.L)) ∧ Below w.heap.size w w' := by
  have HP := Lib.hid hp
  clear hp
  go_enter Tryz.func113, Tryz.ntmps113
  go_wp2_with fail
  go_loop [3, 11] (fun sv iv => ∃ i n : Nat, i ≤ ps.length ∧ iv = .int .i64 i ∧ sv = .int .i64 n ∧ Hid (n = lens (ps.take i))) (fun _ iv => ps.length - (intOf iv).toNat)
  case atStart => exact ⟨0, 0, by omega, rfl, rfl, rfl⟩
  case round =>
    obtain ⟨i, n, hi, rfl, rfl, HN⟩ := hrel
    have hnle : n ≤ 1000 := by rw [HN.out]; exact Nat.le_trans (lens_le ps i) h1
    by_cases hlt : i < ps.length
    · obtain ⟨b, o, rfl, hb, hc⟩ := Row.at_ (k := i) hr (by simpa using hlt)
      rw [List.getElem_map] at hc
      have hl := Lib.hid (lens_take ps i hlt)
      have hn2 : n + ps[i].L.length ≤ 1000 := by rw [HN.out, ← hl.out]; exact Nat.le_trans (lens_le ps (i + 1)) h1
      generalize ps[i] = q at hc hl hn2
      obtain ⟨qA, qc, qL⟩ := q
      simp only [FPart.v] at hc hl hn2
      have hneg : ¬ ((n : Int) + (qL.length : Int)) < 0 := by omega
      have hlti : (i : Int) < (ps.length : Int) := by omega
      have hw : IntKind.i64.wrap ((n : Int) + (qL.length : Int)) = (n : Int) + (qL.length : Int) := by rw [IntWalk.i64_in _ (by omega)]
      clear hr
      go_wp2_with fail
      go_round
      case rel => exact ⟨i + 1, n + qL.length, by omega, by go_num, by go_num, by show _ = _; rw [hl.out, HN.out]⟩
      case measure => simp [intOf]; omega
    · obtain rfl : i = ps.length := by omega
      have hnn : n = lens ps := by rw [HN.out, List.take_length]
      have hnpos : 0 < n := by omega
      clear hnn
      go_wp2_with fail
      refine (grow_any w n hnpos hnle).mono ?_
      rintro e w1 ⟨g, c1, rfl, ho1, hb1⟩
      go_wp2_with fail
      go_loopw [6, 27] (fun nv iv wr => ∃ (i : Nat) (A1 : Option Addr) (c1 : Nat) (L : List Fr), i ≤ ps.length ∧ iv = .int .i64 i ∧ nv = .slice A1 L.length c1 ∧ Hid (L = (ps.take i).flatMap (·.L)) ∧ FOwn wr w.heap.size A1 c1 L ∧ Below w.heap.size w wr) (fun _ iv _ => ps.length - (intOf iv).toNat)
      case atStart => exact ⟨0, _, c1, [], by omega, rfl, rfl, rfl, ho1, hb1⟩
      case round =>
        obtain ⟨i, A1, c1, L, hi, rfl, rfl, HL, ho, hB⟩ := hrel
        by_cases hlt : i < ps.length
        · have hrx : Row wr A (ps.map FPart.v) := Row.below hr hB
          obtain ⟨b, o, rfl, hb, hc⟩ := Row.at_ (k := i) hrx (by simpa using hlt)
          rw [List.getElem_map] at hc
          have hl := Lib.hid (flat_take ps i hlt)
          have hfr := (HP.out ps[i] (List.getElem_mem hlt)).below hB
          have hn2 : L.length + ps[i].L.length ≤ 1000 := by
            have := lens_le ps (i + 1)
            rw [← flat_length, flat_take ps i hlt, ← HL.out, List.length_append] at this
            omega
          generalize ps[i] = q at hc hl hn2 hfr
          obtain ⟨qA, qc, qL⟩ := q
          simp only [FPart.v] at hc hl hn2 hfr
          have hz := hB.size
          go_wp2_with (at_builtin; refine wpList_append_frames rfl (.tmp 31) (.tmp 32) rfl _ rfl ho rfl _ rfl hfr rfl (by omega) hz ?_; intro A3 c3 w3 ho3 hb3)
          go_roundw
          case rel => exact ⟨i + 1, A3, c3, L ++ qL, by omega, by go_num, by rw [List.length_append], by show _ = _; rw [hl.out, HL.out], ho3, hB.trans hb3⟩
          case measure => simp [intOf]; omega
        · obtain rfl : i = ps.length := by omega
          go_wp2_with fail
          go_ret
          have e := HL.out
          rw [List.take_length] at e
          rw [← e]
          exact ⟨A1, c1, rfl, ho, hB⟩
end Go.Proofs.YtcfoihihinijlaaGreat
end

section
namespace Go.Proofs.YtcfoihihinijlaaGreat
set_option linter.unusedSimpArgs false
set_option linter.unusedVariables false
open Go.RowKit
def isU8 (w : World) (g : Nat) : Prop := ∃ cur fr, w.heap[g]? = some (.cells cur 5 fr)
theorem isU8.lt {w : World} {g : Nat} (h : isU8 w g) : g < w.heap.size := by
  obtain ⟨_, _, h⟩ := h
  exact (Array.getElem?_eq_some_iff.1 h).1
theorem BRow.keepB {w w' : World} {A : Option Addr} {l : List UInt8} (h : BRow w A l) (hs : w.heap.size ≤ w'.heap.size) (hk : l ≠ [] → ∀ a, A = some a → w'.heap[a.block]? = w.heap[a.block]?) : BRow w' A l := fun hl => by
  obtain ⟨b, o, rfl, hlt, hc⟩ := h hl
  exact ⟨b, o, rfl, Nat.lt_of_lt_of_le hlt hs, fun j hj => (World.cell?_of_block (a := ⟨b, o + j, none⟩) (hk (by rintro rfl; simp at hl) ⟨b, o, none⟩ rfl)).trans (hc j hj)⟩
theorem BOwn.u8 {w : World} {B c : Nat} {A : Option Addr} {l : List UInt8} (h : BOwn w B A c l) : ∀ a, A = some a → isU8 w a.block := by
  rintro a rfl
  rcases h.2 with ⟨hv, _⟩ | ⟨g, cap, cur, hv, hb, hg, _⟩
  · simp at hv
  · simp only [Value.slice.injEq, Option.some.injEq] at hv
    obtain ⟨rfl, _, rfl⟩ := hv
    exact ⟨_, _, hg⟩
structure BRowU (w : World) (A : Option Addr) (l : List UInt8) : Prop where
  row : BRow w A l
  u8 : l ≠ [] → ∀ a, A = some a → isU8 w a.block
section
variable {w w' : World} {A : Option Addr} {l : List UInt8} {S : Nat → Prop}
theorem BRowU.nil : BRowU w A [] := ⟨BRow.nil, fun h => absurd rfl h⟩
theorem BRowU.own {B c : Nat} (h : BOwn w B A c l) : BRowU w A l := ⟨h.row, fun _ a ha => h.u8 a ha⟩
theorem BRowU.keepU (h : BRowU w A l) (hs : w.heap.size ≤ w'.heap.size) (hk : l ≠ [] → ∀ a, A = some a → w'.heap[a.block]? = w.heap[a.block]?) : BRowU w' A l :=
  ⟨h.row.keepB hs hk, fun hl a ha => by
    obtain ⟨cur, fr, h2⟩ := h.u8 hl a ha
    exact ⟨cur, fr, (hk hl a ha).trans h2⟩⟩
theorem BRowU.far (h : BRowU w A l) {p : Addr} (hne : ∀ a, A = some a → a.block ≠ p.block) (u : Value) : BRowU (w.setCell p u) A l :=
  h.keepU (by simp) fun _ a ha => heap_setCell_other w p _ u (hne a ha)
theorem BRowU.below (h : BRowU w A l) (hb : Below w.heap.size w w') : BRowU w' A l :=
  h.keepU hb.size fun hl a ha => hb.block _ (h.u8 hl a ha).lt
theorem BRowU.kept (h : BRowU w A l) (hk : Keeps w w' S) (hf : ∀ a, A = some a → ¬ S a.block) : BRowU w' A l :=
  h.keepU hk.size fun hl a ha => hk.block _ (h.u8 hl a ha).lt (hf a ha)
end
end Go.Proofs.YtcfoihihinijlaaGreat
end

section
namespace Go.Proofs.YtcfoihihinijlaaGreat
set_option linter.unusedSimpArgs false
set_option linter.unusedVariables false
open Go.RowKit Go.Maps
def MapAt (w : World) (gm N : Nat) (f : Int → Option Nat) : Prop :=
  ∃ D : DataW Unit, w.ownsMap Tryz.prog 3 (plainElem Tryz.prog 3) gm N D ∧ IsMap D ∧
    ∀ k : Int, -9223372036854775808 ≤ k → k ≤ 9223372036854775807 → has D (.int .i64 k) = (f k).isSome ∧ ∀ i z, f k = some i → D.atKey (.int .i64 k) z = .lit (.int .i64 (i : Nat))
structure PS where
  L : List Fr
  hand : Nat
  hits : Int
  misses : Int
def whereOf (L : List Fr) (k : Int) : Option Nat := if 0 ≤ k then L.findIdx? (fun f => f.page == k) else none
structure PB where
  gp : Nat
  gf : Nat
  gm : Nat
def PB.own (b : PB) (k : Nat) : Prop := k = b.gp ∨ k = b.gf ∨ k = b.gm
structure PoolAt (w : World) (B : Nat) (b : PB) (N c : Nat) (p : PS) : Prop where
  lp : B ≤ b.gp
  lf : B ≤ b.gf
  lm : B ≤ b.gm
  head : w.heap[b.gp]? = some (.cells #[.slice (some ⟨b.gf, 0, none⟩) p.L.length c, .int .i64 (p.hand : Nat), .map (some b.gm), .int .i64 p.hits, .int .i64 p.misses] 197 (0, 0))
  frames : FOwn w B (some ⟨b.gf, 0, none⟩) c p.L
  map : MapAt w b.gm N (whereOf p.L)
  bytes : ∀ f ∈ p.L, BRowU w f.A f.s
  far : ∀ f ∈ p.L, ∀ a, f.A = some a → ¬ b.own a.block
def fr0 : Fr := ⟨-1, false, [], none, 0⟩
def PS.new (n : Nat) : PS := ⟨List.replicate n fr0, 0, 0, 0⟩
theorem MapAt.below {w w' : World} {gm N : Nat} {f : Int → Option Nat} (h : MapAt w gm N f) (hb : Below w.heap.size w w') : MapAt w' gm N f := by
  obtain ⟨D, h1, h2, h3⟩ := h
  exact ⟨D, World.ownsMap.kept (row := none) h1 ⟨hb.os, hb.tape, hb.output, hb.size, fun k hk _ => hb.block k hk⟩ (by simp), h2, h3⟩
theorem FOwn.mono {w : World} {B B' c : Nat} {A : Option Addr} {L : List Fr} (h : FOwn w B A c L) (hB : B' ≤ B) : FOwn w B' A c L := by
  refine ⟨h.1, ?_⟩
  rcases h.2 with h2 | ⟨g, cap, cur, hv, hb, r⟩
  · exact .inl h2
  · exact .inr ⟨g, cap, cur, hv, by omega, r⟩
theorem FOwn.set {w : World} {B c : Nat} {A : Option Addr} {L : List Fr} (h : FOwn w B A c L) (p : Addr) (hne : ∀ a, A = some a → a.block ≠ p.block) (u : Value) : FOwn (w.setCell p u) B A c L := by
  refine World.ownsRow.kept (row := some p.block) h ⟨rfl, rfl, rfl, by simp, fun k _ hk => heap_setCell_other w p k u (fun e => hk (by rw [e]))⟩ ?_
  rw [own_block]
  cases A with
  | none => exact .inl rfl
  | some a => exact .inr (by simpa using hne a rfl)
theorem MapAt.set {w : World} {gm N : Nat} {f : Int → Option Nat} (h : MapAt w gm N f) (p : Addr) (hne : gm ≠ p.block) (u : Value) : MapAt (w.setCell p u) gm N f := by
  obtain ⟨D, h1, h2, h3⟩ := h
  exact ⟨D, World.ownsMap.kept (row := some p.block) h1 ⟨rfl, rfl, rfl, by simp, fun k _ hk => heap_setCell_other w p k u (fun e => hk (by rw [e]))⟩ (by simpa using hne), h2, h3⟩
theorem set_cells {w : World} {g : Nat} {cs : Array Value} {t : TypeId} (hg : w.heap[g]? = some (.cells cs t (0, 0))) (i : Nat) (u : Value) : (w.setCell ⟨g, i, none⟩ u).heap[g]? = some (.cells (cs.setIfInBounds i u) t (0, 0)) := heap_setCell_same w g i cs t u hg
set_option maxRecDepth 20000 in
set_option maxHeartbeats 1000000 in
theorem new_any (w : World) (n : Nat) (h0 : 0 < n) (hn : n ≤ 64) :
    Calls Tryz.prog 67 #[.int .i64 n] w fun e w' => ∃ (b : PB) (c : Nat), e = .returned (.tuple #[.pointer (some ⟨b.gp, 0, none⟩), .int .i64 0]) ∧ PoolAt w' w.heap.size b 0 c (PS.new n) ∧ Below w.heap.size w w' := by
  have hlo : ¬ (n : Int) < 1 := by omega
  have hhi : ¬ (64 : Int) < (n : Int) := by omega
  have hmm := @run_makeMap Tryz.prog
  go_enter Tryz.func67, Tryz.ntmps67
  go_wp2_with fail
  have hg0 : ((w.alloc (.map #[] 0)).alloc (.cells #[.slice none 0 0, .int .i64 0, .map (some w.heap.size), .int .i64 0, .int .i64 0] 197)).heap[w.heap.size + 1]? = some (.cells #[.slice none 0 0, .int .i64 0, .map (some w.heap.size), .int .i64 0, .int .i64 0] 197 (0, 0)) := by
    show ((w.heap.push _).push _)[w.heap.size + 1]? = _
    rw [show w.heap.size + 1 = (w.heap.push (Obj.map #[] 0)).size from by simp, Array.getElem?_push_size]
  have hB0 : Below w.heap.size w ((w.alloc (.map #[] 0)).alloc (.cells #[.slice none 0 0, .int .i64 0, .map (some w.heap.size), .int .i64 0, .int .i64 0] 197)) := ((Below.refl _ _).alloc (Nat.le_refl _) _).alloc (by simp) _
  have hm0 : MapAt ((w.alloc (.map #[] 0)).alloc (.cells #[.slice none 0 0, .int .i64 0, .map (some w.heap.size), .int .i64 0, .int .i64 0] 197)) w.heap.size 0 (fun _ => none) := by
    refine ⟨.map [], (World.ownsMap_made w _ _ _).alloc _, isMap_empty, fun k _ _ => ⟨rfl, fun i z h => by cases h⟩⟩
  have HG0 := Lib.hid hg0
  have HB0 := Lib.hid hB0
  have HM0 := Lib.hid hm0
  clear hg0 hB0 hm0 hmm
  go_loopw [15] (fun iv wr => ∃ (i : Nat) (A : Option Addr) (c : Nat), i ≤ n ∧ iv = .int .i64 i ∧
    Hid (wr.heap[w.heap.size + 1]? = some (.cells #[.slice A i c, .int .i64 0, .map (some w.heap.size), .int .i64 0, .int .i64 0] 197 (0, 0)) ∧ FOwn wr w.heap.size A c (List.replicate i fr0) ∧ MapAt wr w.heap.size 0 (fun _ => none) ∧ Below w.heap.size w wr)) (fun iv _ => n - (intOf iv).toNat)
  case atStart => exact ⟨0, none, 0, by omega, rfl, HG0.out, FOwn.nil _ _, HM0.out, HB0.out⟩
  case round =>
    obtain ⟨i, A, c, hi, rfl, HS⟩ := hrel
    clear HG0 HB0 HM0
    by_cases hlt : i < n
    · have hlti : (i : Int) < (n : Int) := by omega
      have hgs : w.heap.size + 1 < wr.heap.size := (Array.getElem?_eq_some_iff.1 HS.out.1).1
      have c0 : wr.cell? ⟨w.heap.size + 1, 0, none⟩ = some (.slice A i c) := by rw [cell_of_row wr _ 0 _ _ _ HS.out.1]; rfl
      have f0 : wr.frozen? ⟨w.heap.size + 1, 0, none⟩ = false := frozen_of_row wr _ 0 _ _ HS.out.1
      go_wp2_with fail
      have hx1 : Below wr.heap.size wr (wr.alloc (.cells #[.int .i64 (-1), .bool false, .slice none 0 0] 199)) := (Below.refl _ _).alloc (Nat.le_refl _) _
      have hx2 : Below wr.heap.size wr ((wr.alloc (.cells #[.int .i64 (-1), .bool false, .slice none 0 0] 199)).alloc (.cells #[.slice A i c, .slice (some ⟨wr.heap.size, 0, none⟩) 1 1] 194)) := hx1.alloc (by simp) _
      have hf1 : FRow (wr.alloc (.cells #[.int .i64 (-1), .bool false, .slice none 0 0] 199)) (some ⟨wr.heap.size, 0, none⟩) [fr0] := (FOwn.new (B := wr.heap.size) wr [fr0] (by simp [maxLen]) (Nat.le_refl _)).row
      have hf2 : FRow ((wr.alloc (.cells #[.int .i64 (-1), .bool false, .slice none 0 0] 199)).alloc (.cells #[.slice A i c, .slice (some ⟨wr.heap.size, 0, none⟩) 1 1] 194)) (some ⟨wr.heap.size, 0, none⟩) [fr0] := hf1.below ((Below.refl _ _).alloc (Nat.le_refl _) _)
      have hfA : FRow ((wr.alloc (.cells #[.int .i64 (-1), .bool false, .slice none 0 0] 199)).alloc (.cells #[.slice A i c, .slice (some ⟨wr.heap.size, 0, none⟩) 1 1] 194)) A (List.replicate i fr0) := HS.out.2.1.row.below hx2
      have hrow : Row ((wr.alloc (.cells #[.int .i64 (-1), .bool false, .slice none 0 0] 199)).alloc (.cells #[.slice A i c, .slice (some ⟨wr.heap.size, 0, none⟩) 1 1] 194)) (some ⟨wr.heap.size + 1, 0, none⟩) (([⟨A, c, List.replicate i fr0⟩, ⟨some ⟨wr.heap.size, 0, none⟩, 1, [fr0]⟩] : List FPart).map FPart.v) := by
        have h := Row.new (wr.alloc (.cells #[.int .i64 (-1), .bool false, .slice none 0 0] 199)) [.slice A i c, .slice (some ⟨wr.heap.size, 0, none⟩) 1 1] 194
        simpa [FPart.v] using h
      have hcat := concat_any ((wr.alloc (.cells #[.int .i64 (-1), .bool false, .slice none 0 0] 199)).alloc (.cells #[.slice A i c, .slice (some ⟨wr.heap.size, 0, none⟩) 1 1] 194)) (some ⟨wr.heap.size + 1, 0, none⟩) 2 [⟨A, c, List.replicate i fr0⟩, ⟨some ⟨wr.heap.size, 0, none⟩, 1, [fr0]⟩] hrow (by
        intro p hp
        simp only [List.mem_cons, List.not_mem_nil, or_false] at hp
        rcases hp with rfl | rfl
        · exact hfA
        · exact hf2) (by simp) (by simp [lens]) (by simp [lens]; omega)
      have hB2 : Below w.heap.size w ((wr.alloc (.cells #[.int .i64 (-1), .bool false, .slice none 0 0] 199)).alloc (.cells #[.slice A i c, .slice (some ⟨wr.heap.size, 0, none⟩) 1 1] 194)) := HS.out.2.2.2.trans (hx2.mono HS.out.2.2.2.size)
      have hG2 := (hx2.block _ hgs).trans HS.out.1
      have hM2 := HS.out.2.2.1.below hx2
      have HI := Lib.hid (And.intro hB2 (And.intro hG2 hM2))
      have hz2 := hB2.size
      have hzz : w.heap.size + 1 < ((wr.alloc (.cells #[.int .i64 (-1), .bool false, .slice none 0 0] 199)).alloc (.cells #[.slice A i c, .slice (some ⟨wr.heap.size, 0, none⟩) 1 1] 194)).heap.size := Nat.lt_of_lt_of_le hgs hx2.size
      clear hx1 hx2 hf1 hf2 hfA hrow hB2 hG2 hM2 c0 f0
      simp only [List.length_cons, List.length_nil, Nat.zero_add, Nat.reduceAdd, List.flatMap_cons, List.flatMap_nil, List.append_nil] at hcat
      generalize ((wr.alloc (.cells #[.int .i64 (-1), .bool false, .slice none 0 0] 199)).alloc (.cells #[.slice A i c, .slice (some ⟨wr.heap.size, 0, none⟩) 1 1] 194)) = W2 at hcat HI hz2 hzz ⊢
      refine hcat.mono ?_
      rintro e w5 ⟨A5, c5, rfl, ho5, hb5⟩
      obtain ⟨hB2, hG2, hM2⟩ := HI.out
      have hG5 := (hb5.block _ hzz).trans hG2
      have f5 : w5.frozen? ⟨w.heap.size + 1, 0, none⟩ = false := frozen_of_row w5 _ 0 _ _ hG5
      have c5x : w5.cell? ⟨w.heap.size + 1, 0, none⟩ = some (.slice A i c) := by rw [cell_of_row w5 _ 0 _ _ _ hG5]; rfl
      have e1 := set_cells hG5 0 (.slice A5 (i + 1) c5)
      simp at e1
      have hL : List.replicate i fr0 ++ [fr0] = List.replicate (i + 1) fr0 := by rw [List.replicate_succ']
      rw [hL] at ho5 ⊢
      have hfin : (w5.setCell ⟨w.heap.size + 1, 0, none⟩ (.slice A5 (i + 1) c5)).heap[w.heap.size + 1]? = some (.cells #[.slice A5 (i + 1) c5, .int .i64 0, .map (some w.heap.size), .int .i64 0, .int .i64 0] 197 (0, 0)) ∧ FOwn (w5.setCell ⟨w.heap.size + 1, 0, none⟩ (.slice A5 (i + 1) c5)) w.heap.size A5 c5 (List.replicate (i + 1) fr0) ∧
          MapAt (w5.setCell ⟨w.heap.size + 1, 0, none⟩ (.slice A5 (i + 1) c5)) w.heap.size 0 (fun _ => none) ∧ Below w.heap.size w (w5.setCell ⟨w.heap.size + 1, 0, none⟩ (.slice A5 (i + 1) c5)) := by
        refine ⟨e1, (ho5.mono hz2).set _ (fun a ha => ?_) _, (hM2.below hb5).set _ (by show w.heap.size ≠ w.heap.size + 1; omega) _, (hB2.trans (hb5.mono hz2)).setCell (p := ⟨w.heap.size + 1, 0, none⟩) (by show w.heap.size ≤ w.heap.size + 1; omega) _⟩
        have h1 := (World.ownsRow.lt ho5 a.block (by rw [ha]; rfl)).1
        show a.block ≠ w.heap.size + 1
        omega
      have HFIN := Lib.hid hfin
      clear hfin e1 hG5 ho5 hb5 hB2 hG2 hM2 hL
      simp only [List.length_replicate]
      go_wp2_with fail
      go_roundw
      case rel => exact ⟨i + 1, A5, c5, by omega, by go_num, HFIN.out⟩
      case measure => simp [intOf]; omega
    · obtain rfl : i = n := by omega
      have hlti : ¬ (i : Int) < (i : Int) := by omega
      go_wp2_with fail
      go_ret2
      obtain ⟨h1, h2, h3, h4⟩ := HS.out
      obtain ⟨gf, rfl, hgf⟩ : ∃ gf, A = some ⟨gf, 0, none⟩ ∧ w.heap.size ≤ gf := by
        rcases h2.2 with ⟨hv, hz⟩ | ⟨g, cap, cur, hv, hb, _⟩
        · simp at hz; omega
        · simp only [Value.slice.injEq] at hv
          exact ⟨g, hv.1, hb⟩
      refine ⟨⟨w.heap.size + 1, gf, w.heap.size⟩, rfl, ⟨c, by show w.heap.size ≤ w.heap.size + 1; omega, hgf, Nat.le_refl _, ?_, h2, ?_, ?_, ?_⟩, h4⟩
      · simpa [PS.new] using h1
      · have e : whereOf (PS.new i).L = fun _ => none := by
          funext k
          unfold whereOf PS.new
          split
          · rw [List.findIdx?_eq_none_iff]
            intro x hx
            rw [List.eq_of_mem_replicate hx]
            simp [fr0]
            omega
          · rfl
        rw [e]
        exact h3
      · intro f hf
        rw [List.eq_of_mem_replicate hf]
        exact BRowU.nil
      · intro f hf a ha
        rw [List.eq_of_mem_replicate hf] at ha
        cases ha
end Go.Proofs.YtcfoihihinijlaaGreat
end

section
namespace Go.Proofs.YtcfoihihinijlaaGreat
set_option linter.unusedSimpArgs false
set_option linter.unusedVariables false
open Go.RowKit Go.Maps
theorem frCells_set : ∀ (L : List Fr) (j : Nat) (_ : j < L.length) (f : Fr), frCells (L.set j f) = (((frCells L).set (j * 3) (.int .i64 f.page)).set (j * 3 + 1) (.bool f.mark)).set (j * 3 + 2) (.slice f.A f.s.length f.c)
  | [], j, h, f => by simp at h
  | g :: L, 0, h, f => by simp [frCells, Fr.cells]
  | g :: L, j + 1, h, f => by
    have ih := frCells_set L j (by simpa using h) f
    have e : ∀ L, frCells (g :: L) = Value.int .i64 g.page :: Value.bool g.mark :: Value.slice g.A g.s.length g.c :: frCells L := fun _ => rfl
    rw [List.set_cons_succ, e, e, ih]
    rw [show (j + 1) * 3 = j * 3 + 1 + 1 + 1 from by omega, show j * 3 + 1 + 1 + 1 + 1 = (j * 3 + 1) + 1 + 1 + 1 from by omega, show j * 3 + 1 + 1 + 1 + 2 = (j * 3 + 2) + 1 + 1 + 1 from by omega]
    simp only [List.set_cons_succ]
theorem frCells_mark : ∀ (L : List Fr) (j : Nat) (h : j < L.length) (x : Bool), frCells (L.set j { L[j] with mark := x }) = (frCells L).set (j * 3 + 1) (.bool x)
  | [], j, h, x => by simp at h
  | g :: L, 0, h, x => by simp [frCells, Fr.cells]
  | g :: L, j + 1, h, x => by
    have ih := frCells_mark L j (by simpa using h) x
    have e : ∀ L, frCells (g :: L) = Value.int .i64 g.page :: Value.bool g.mark :: Value.slice g.A g.s.length g.c :: frCells L := fun _ => rfl
    simp only [List.getElem_cons_succ, List.set_cons_succ]
    rw [e, e, ih, show (j + 1) * 3 + 1 = (j * 3 + 1) + 1 + 1 + 1 from by omega]
    simp only [List.set_cons_succ]
section
variable {w : World} {B c gf : Nat} {L : List Fr}
theorem FOwn.cell (h : FOwn w B (some ⟨gf, 0, none⟩) c L) {j : Nat} (hj : j < L.length) :
    w.cell? ⟨gf, j * 3, none⟩ = some (.int .i64 L[j].page) ∧ w.cell? ⟨gf, j * 3 + 1, none⟩ = some (.bool L[j].mark) ∧ w.cell? ⟨gf, j * 3 + 2, none⟩ = some (.slice L[j].A L[j].s.length L[j].c) := by
  obtain ⟨g0, g1, g2⟩ := frCells_get L j hj
  exact ⟨(World.ownsRow.cellAt h _ (by omega)).trans g0, (World.ownsRow.cellAt h _ (by omega)).trans g1, (World.ownsRow.cellAt h _ (by omega)).trans g2⟩
theorem FOwn.free (h : FOwn w B (some ⟨gf, 0, none⟩) c L) (j : Nat) : w.frozen? ⟨gf, j, none⟩ = false := World.ownsRow.frozenAt h j
theorem FOwn.storeMark (h : FOwn w B (some ⟨gf, 0, none⟩) c L) {j : Nat} (hj : j < L.length) (x : Bool) : FOwn (w.setCell ⟨gf, j * 3 + 1, none⟩ (.bool x)) B (some ⟨gf, 0, none⟩) c (L.set j { L[j] with mark := x }) := by
  have := (World.ownsRow.stored h (j * 3 + 1) (.bool x)).1
  unfold FOwn
  rw [frCells_mark L j hj, List.length_set]
  exact this
theorem FOwn.storeAll (h : FOwn w B (some ⟨gf, 0, none⟩) c L) {j : Nat} (hj : j < L.length) (f : Fr) :
    FOwn (((w.setCell ⟨gf, j * 3, none⟩ (.int .i64 f.page)).setCell ⟨gf, j * 3 + 1, none⟩ (.bool f.mark)).setCell ⟨gf, j * 3 + 2, none⟩ (.slice f.A f.s.length f.c)) B (some ⟨gf, 0, none⟩) c (L.set j f) := by
  have h1 := (World.ownsRow.stored h (j * 3) (.int .i64 f.page)).1
  have h2 := (World.ownsRow.stored h1 (j * 3 + 1) (.bool f.mark)).1
  have h3 := (World.ownsRow.stored h2 (j * 3 + 2) (.slice f.A f.s.length f.c)).1
  unfold FOwn
  rw [frCells_set L j hj, List.length_set]
  exact h3
end
def marked (L : List Fr) : Nat := (L.filter (·.mark)).length
def sweep : Nat → List Fr → Nat → Nat × List Fr × Nat
  | 0, L, h => (h, L, h)
  | f + 1, L, h => if hh : h < L.length then (if L[h].mark then sweep f (L.set h { L[h] with mark := false }) ((h + 1) % L.length) else (h, L, (h + 1) % L.length)) else (h, L, h)
theorem marked_set : ∀ (L : List Fr) (h : Nat) (hh : h < L.length), L[h].mark = true → marked (L.set h { L[h] with mark := false }) + 1 = marked L
  | [], h, hh, _ => by simp at hh
  | g :: L, 0, hh, hm => by
    simp only [List.getElem_cons_zero] at hm
    simp [marked, hm]
  | g :: L, h + 1, hh, hm => by
    have ih := marked_set L h (by simpa using hh) (by simpa using hm)
    unfold marked at ih ⊢
    simp only [List.getElem_cons_succ, List.set_cons_succ, List.filter_cons]
    by_cases hg : g.mark = true
    · rw [if_pos hg, if_pos hg, List.length_cons, List.length_cons]
      exact congrArg (· + 1) ih
    · rw [if_neg hg, if_neg hg]; exact ih
def PS.place (p : PS) : Nat × PS :=
  if 0 ≤ firstEmpty p.L 0 then ((firstEmpty p.L 0).toNat, p)
  else ((sweep (marked p.L + 1) p.L p.hand).1, { p with L := (sweep (marked p.L + 1) p.L p.hand).2.1, hand := (sweep (marked p.L + 1) p.L p.hand).2.2 })
theorem whereOf_mark (L : List Fr) (h : Nat) (hh : h < L.length) (x : Bool) : whereOf (L.set h { L[h] with mark := x }) = whereOf L := by
  funext k
  unfold whereOf
  split
  · have e : ∀ M : List Fr, M.findIdx? (fun f => f.page == k) = (M.map (·.page)).findIdx? (· == k) := fun M => by rw [List.findIdx?_map]; rfl
    rw [e, e, List.map_set]
    congr 1
    apply List.ext_getElem (by simp)
    intro i h1 h2
    rw [List.getElem_set]
    split
    · rename_i hi; subst hi; simp
    · rfl
  · rfl
end Go.Proofs.YtcfoihihinijlaaGreat
end

section
namespace Go.Proofs.YtcfoihihinijlaaGreat
set_option linter.unusedSimpArgs false
set_option linter.unusedVariables false
open Go.RowKit Go.Maps
section
variable {w w' : World} {B N c : Nat} {b : PB} {p : PS}
theorem PoolAt.below (h : PoolAt w B b N c p) (hb : Below w.heap.size w w') : PoolAt w' B b N c p :=
  ⟨h.lp, h.lf, h.lm, (hb.block _ (Array.getElem?_eq_some_iff.1 h.head).1).trans h.head, h.frames.below hb, h.map.below hb, fun f hf => (h.bytes f hf).below hb, h.far⟩
theorem PoolAt.fheap (h : PoolAt w B b N c p) (h0 : 0 < p.L.length) : ∃ cur, w.heap[b.gf]? = some (.cells cur 199 (0, 0)) := by
  rcases h.frames.2 with ⟨hv, hz⟩ | ⟨g, cap, cur, hv, _, hg, _⟩
  · omega
  · simp only [Value.slice.injEq, Option.some.injEq, Addr.mk.injEq] at hv
    obtain ⟨⟨rfl, _, _⟩, _⟩ := hv
    exact ⟨cur, hg⟩
theorem PoolAt.mheap (h : PoolAt w B b N c p) : ∃ es clock, w.heap[b.gm]? = some (.map es clock) := by
  obtain ⟨D, ⟨es, clock, h1, _⟩, _⟩ := h.map
  exact ⟨es, clock, h1⟩
theorem PoolAt.ne (h : PoolAt w B b N c p) (h0 : 0 < p.L.length) : b.gp ≠ b.gf ∧ b.gp ≠ b.gm ∧ b.gf ≠ b.gm := by
  obtain ⟨cur, hf⟩ := h.fheap h0
  obtain ⟨es, clock, hm⟩ := h.mheap
  refine ⟨fun e => ?_, fun e => ?_, fun e => ?_⟩
  · rw [← e, h.head] at hf
    simp at hf
  · rw [← e, h.head] at hm
    simp at hm
  · rw [← e, hf] at hm
    simp at hm
end
section
variable {w : World} {B N c : Nat} {b : PB} {p : PS}
theorem PoolAt.setHand (h : PoolAt w B b N c p) (h0 : 0 < p.L.length) (x : Nat) : PoolAt (w.setCell ⟨b.gp, 1, none⟩ (.int .i64 (x : Nat))) B b N c { p with hand := x } := by
  have hne := h.ne h0
  have e := set_cells h.head 1 (.int .i64 (x : Nat))
  simp at e
  refine ⟨h.lp, h.lf, h.lm, e, h.frames.set _ (fun a ha => ?_) _, h.map.set _ (fun e => hne.2.1 e.symm) _, fun f hf => (h.bytes f hf).far (fun a ha hb => h.far f hf a ha (.inl hb)) _, h.far⟩
  obtain rfl := Option.some.inj ha
  exact fun e => hne.1 e.symm
theorem PoolAt.setMark (h : PoolAt w B b N c p) {j : Nat} (hj : j < p.L.length) (x : Bool) : PoolAt (w.setCell ⟨b.gf, j * 3 + 1, none⟩ (.bool x)) B b N c { p with L := p.L.set j { p.L[j] with mark := x } } := by
  have hne := h.ne (by omega)
  have hh : (w.setCell ⟨b.gf, j * 3 + 1, none⟩ (.bool x)).heap[b.gp]? = w.heap[b.gp]? := heap_setCell_other w ⟨b.gf, j * 3 + 1, none⟩ b.gp _ hne.1
  have hset : ∀ f ∈ p.L.set j { p.L[j] with mark := x }, ∃ g ∈ p.L, f.A = g.A ∧ f.s = g.s := by
    intro f hf
    rcases List.mem_or_eq_of_mem_set hf with h1 | h1
    · exact ⟨f, h1, rfl, rfl⟩
    · subst h1
      exact ⟨p.L[j], List.getElem_mem hj, rfl, rfl⟩
  refine ⟨h.lp, h.lf, h.lm, ?_, h.frames.storeMark hj x, ?_, fun f hf => ?_, fun f hf a ha => ?_⟩
  · rw [hh, h.head, List.length_set]
  · rw [whereOf_mark _ _ hj]
    exact h.map.set _ (fun e => hne.2.2 e.symm) _
  · obtain ⟨g, hg, e1, e2⟩ := hset f hf
    rw [e1, e2]
    exact (h.bytes g hg).far (fun a ha hb => h.far g hg a ha (.inr (.inl hb))) _
  · obtain ⟨g, hg, e1, e2⟩ := hset f hf
    exact h.far g hg a (e1 ▸ ha)
end
def isMark (w : World) (gf j : Nat) : Bool := match w.cell? ⟨gf, j * 3 + 1, none⟩ with | some (.bool true) => true | _ => false
def markCount (w : World) (gf n : Nat) : Nat := ((List.range n).filter (isMark w gf)).length
theorem markCount_eq {w : World} {B c gf : Nat} {L : List Fr} (h : FOwn w B (some ⟨gf, 0, none⟩) c L) : markCount w gf L.length = marked L := by
  have e : L = (List.range L.length).map fun j => L.getD j fr0 := by
    apply List.ext_getElem (by simp)
    intro i h1 h2
    simp [h1]
  have e2 : marked L = ((List.range L.length).filter ((·.mark) ∘ fun j => L.getD j fr0)).length := by
    unfold marked
    conv => lhs; rw [e, List.filter_map, List.length_map]
  rw [e2]
  unfold markCount
  congr 1
  apply List.filter_congr
  intro j hj
  have hj' : j < L.length := List.mem_range.1 hj
  have hc := (h.cell hj').2.1
  unfold isMark
  rw [hc]
  simp [hj']
  cases L[j].mark <;> rfl
set_option maxRecDepth 20000 in
set_option maxHeartbeats 1000000 in
theorem place_any (w : World) (B N c : Nat) (b : PB) (p : PS) (hP : PoolAt w B b N c p) (hL : p.L.length ≤ 64) (h0 : 0 < p.L.length) (hh : p.hand < p.L.length) :
    Calls Tryz.prog 169 #[.pointer (some ⟨b.gp, 0, none⟩)] w fun e w' => e = .returned (.int .i64 (p.place.1 : Nat)) ∧ PoolAt w' B b N c p.place.2 ∧ Keeps w w' b.own := by
  have c0 : w.cell? ⟨b.gp, 0, none⟩ = some (.slice (some ⟨b.gf, 0, none⟩) p.L.length c) := by rw [cell_of_row w _ 0 _ _ _ hP.head]; rfl
  have HP := Lib.hid hP
  have HI := Lib.hid (indexFunc_any w (some ⟨b.gf, 0, none⟩) c p.L hP.frames.row (by omega))
  clear hP
  go_enter Tryz.func169, Tryz.ntmps169
  go_wp2_with fail
  refine HI.out.mono ?_
  rintro e w1 ⟨rfl, hb1⟩
  have HP1 := Lib.hid (HP.out.below hb1)
  have HK1 : Hid (Keeps w w1 b.own) := Keeps.of_below hb1
  clear hb1 c0
  by_cases hf : 0 ≤ firstEmpty p.L 0
  · have HE : Hid (p.place = ((firstEmpty p.L 0).toNat, p)) := by show _ = _; unfold PS.place; rw [if_pos hf]
    have hfn : ((firstEmpty p.L 0).toNat : Int) = firstEmpty p.L 0 := by omega
    rw [← hfn]
    have HFN := Lib.hid hfn
    clear hfn
    generalize (firstEmpty p.L 0).toNat = q at HE ⊢
    go_wp2_with fail
    go_ret
    rw [HE.out]
    exact ⟨rfl, HP1.out, HK1.out⟩
  · have HE : Hid (p.place = ((sweep (marked p.L + 1) p.L p.hand).1, { p with L := (sweep (marked p.L + 1) p.L p.hand).2.1, hand := (sweep (marked p.L + 1) p.L p.hand).2.2 })) := by show _ = _; unfold PS.place; rw [if_neg hf]
    generalize firstEmpty p.L 0 = q at hf ⊢
    go_wp2_with fail
    go_loopw [4] (fun _ wr => ∃ (L : List Fr) (h f : Nat), h < L.length ∧ L.length = p.L.length ∧ marked L < f ∧ Hid (PoolAt wr B b N c { p with L := L, hand := h }) ∧ Hid (sweep (marked p.L + 1) p.L p.hand = sweep f L h) ∧ Hid (Keeps w wr b.own)) (fun _ wr => markCount wr b.gf p.L.length)
    case atStart => exact ⟨p.L, p.hand, _, hh, rfl, Nat.lt_succ_self _, HP1, rfl, HK1⟩
    case round =>
      obtain ⟨L, h, f, hhl, hlen, hmf, HPr, HSW, HK⟩ := hrel
      have c0 : wr.cell? ⟨b.gp, 0, none⟩ = some (.slice (some ⟨b.gf, 0, none⟩) L.length c) := by rw [cell_of_row wr _ 0 _ _ _ HPr.out.head]; rfl
      have c1 : wr.cell? ⟨b.gp, 1, none⟩ = some (.int .i64 (h : Nat)) := by rw [cell_of_row wr _ 1 _ _ _ HPr.out.head]; rfl
      have f1 : wr.frozen? ⟨b.gp, 1, none⟩ = false := frozen_of_row wr _ 1 _ _ HPr.out.head
      have hne := HPr.out.ne (by show 0 < L.length; omega)
      have hmod : (((h : Int) + 1).tmod (L.length : Int)) = (((h + 1) % L.length : Nat) : Int) := by
        rw [Int.tmod_eq_emod_of_nonneg (by omega)]; simp
      have hnz : (L.length : Int) ≠ 0 := by omega
      have hnz2 : ((L.length : Int) == 0) = false := by simpa using hnz
      have hhi : (h : Int) < (L.length : Int) := by omega
      have hmk := (HPr.out.frames.cell hhl).2.1
      simp only at hmk
      have hne1 : b.gf ≠ b.gp := fun e => hne.1 e.symm
      have fm : wr.frozen? ⟨b.gf, h * 3 + 1, none⟩ = false := HPr.out.frames.free _
      have hlt2 : (h + 1) % L.length < L.length := Nat.mod_lt _ (by omega)
      obtain ⟨h', hh'⟩ : ∃ h', (h + 1) % L.length = h' := ⟨_, rfl⟩
      have hmodi : ((h : Int) + 1) % (L.length : Int) = (h' : Int) := by rw [← hh']; simp
      have HLEN := Lib.hid hlen
      have hLL : L.length ≤ 64 := by omega
      have hLLi : (L.length : Int) ≤ 64 := by omega
      rw [← hlen]
      clear hlen
      obtain ⟨f, rfl⟩ : ∃ f', f = f' + 1 := ⟨f - 1, by omega⟩
      have hP1 := HPr.out.setHand (by show 0 < L.length; omega) h'
      have HP1' := Lib.hid hP1
      have HK1' : Hid (Keeps w (wr.setCell ⟨b.gp, 1, none⟩ (.int .i64 (h' : Nat))) b.own) := HK.out.set _ (.inl (.inl rfl)) _
      clear hP1
      rw [hh'] at hlt2 hmod
      have HH := Lib.hid hh'
      clear hh'
      by_cases hm : L[h].mark = true
      · rw [hm] at hmk
        have hP2 := HP1'.out.setMark (j := h) hhl false
        have HP2 := Lib.hid hP2
        have HK2 : Hid (Keeps w ((wr.setCell ⟨b.gp, 1, none⟩ (.int .i64 (h' : Nat))).setCell ⟨b.gf, h * 3 + 1, none⟩ (.bool false)) b.own) := HK1'.out.set _ (.inl (.inr (.inl rfl))) _
        clear hP2
        have hms := marked_set L h hhl hm
        have HM := Lib.hid hm
        clear hm
        go_wp2_with fail
        go_roundw
        case rel =>
          refine ⟨L.set h { L[h] with mark := false }, h', f, by rw [List.length_set]; exact hlt2, List.length_set .., Nat.lt_of_succ_le (Nat.le_trans (Nat.le_of_eq hms) (Nat.le_of_lt_succ hmf)), HP2.out, ?_, HK2.out⟩
          show _ = _
          rw [HSW.out]
          conv => lhs; unfold sweep
          rw [dif_pos hhl, if_pos HM.out, HH.out]
        case measure =>
          have e1 := markCount_eq HPr.out.frames
          have e2 := markCount_eq HP2.out.frames
          simp only [List.length_set] at e1 e2
          rw [e1, e2]
          exact Nat.lt_of_succ_le (Nat.le_of_eq hms)
      · have hmf' : L[h].mark = false := by simpa using hm
        rw [hmf'] at hmk
        have HM := Lib.hid hm
        clear hm hmf'
        go_wp2_with fail
        go_ret
        have hsw : sweep (f + 1) L h = (h, L, h') := by
          unfold sweep
          rw [dif_pos hhl, if_neg HM.out, HH.out]
        rw [HE.out, HSW.out, hsw]
        exact ⟨rfl, HP1'.out, HK1'.out⟩
end Go.Proofs.YtcfoihihinijlaaGreat
end

section
namespace Go.Proofs.YtcfoihihinijlaaGreat
set_option linter.unusedSimpArgs false
set_option linter.unusedVariables false
open Go.RowKit Go.Maps
end Go.Proofs.YtcfoihihinijlaaGreat
end

section
namespace Go.Proofs.YtcfoihihinijlaaGreat
set_option linter.unusedSimpArgs false
set_option linter.unusedVariables false
open Go.RowKit Go.Maps
theorem int_wf {k : Int} (h1 : -9223372036854775808 ≤ k) (h2 : k ≤ 9223372036854775807) : (Lit.int .i64 k).wf = true := by
  simp [Lit.wf, IntKind.min, IntKind.max, IntKind.signed, IntKind.bits]
  omega
theorem intKeyed : Keyed Tryz.prog 3 := int_keyed Tryz.underlying3
theorem int_key {k : Int} (h1 : -9223372036854775808 ≤ k) (h2 : k ≤ 9223372036854775807) : keyOf Tryz.prog 3 (.int .i64 k) = some (.int .i64 k) := keyOf_int_mk Tryz.underlying3 (int_wf h1 h2)
section
variable {w : World} {ops : Array Oper} {rest : List Oper} {o : Oper} {a : Act} {Q : Exit → Act → World → Prop} {gm N : Nat} {f : Int → Option Nat}
theorem wpList_pool_lookup (hg : o.guard = none) (m x : Operand) (hop : o.op = Op.lookup 195 m x true) (hm : a.eval m = .map (some gm)) (h : MapAt w gm N f) (k : Int) (hx : a.eval x = .int .i64 k)
    (h1 : -9223372036854775808 ≤ k) (h2 : k ≤ 9223372036854775807) (hz : (zeroValue 3).run Tryz.prog w = .ok (.int .i64 0) w)
    (hK : wpList Tryz.prog ops Q rest (a.put o.dst (.tuple #[.int .i64 (((f k).getD 0 : Nat) : Int), .bool (f k).isSome])) w) : wpList Tryz.prog ops Q (o :: rest) a w := by
  obtain ⟨D, hown, hD, hf⟩ := h
  refine wpList_lookup_own_ok_int w hg m x 195 hop 3 3 .i64 intKeyed Tryz.underlying195 Tryz.underlying3 hz gm N D hm hown _ _ hx (int_key h1 h2) fun c hat _ => ?_
  obtain ⟨e1, e2⟩ := hf k h1 h2
  rw [e1]
  have hc : c = (((f k).getD 0 : Nat) : Int) := by
    cases hfk : f k with
    | none =>
      rw [hfk] at e1
      rw [atKey_of_not_has (by simpa using e1)] at hat
      simp at hat
      simpa using hat.symm
    | some i =>
      rw [e2 i _ hfk] at hat
      simp at hat
      simpa using hat.symm
  rw [hc]
  exact hK
theorem wpList_pool_update (hg : o.guard = none) (m x v : Operand) (hop : o.op = Op.mapUpdate 195 m x v) (hm : a.eval m = .map (some gm)) (h : MapAt w gm N f) (hN : N < 1000000) (k : Int) (hx : a.eval x = .int .i64 k)
    (h1 : -9223372036854775808 ≤ k) (h2 : k ≤ 9223372036854775807) (i : Nat) (hv : a.eval v = .int .i64 (i : Nat)) (hi : i ≤ 1000000)
    (hK : ∀ w', MapAt w' gm (N + 1) (fun j => if j = k then some i else f j) → w.grownBy w' (some gm) → wpList Tryz.prog ops Q rest (a.put o.dst undef) w') : wpList Tryz.prog ops Q (o :: rest) a w := by
  obtain ⟨D, hown, hD, hf⟩ := h
  refine wpList_mapUpdate_in w hg m x v 195 hop 3 3 intKeyed Tryz.underlying195 _ gm N D hm hown (by unfold maxLen; omega) _ _ _ hx hv (int_key h1 h2) _ [] (plainElem_int Tryz.underlying3 (int_wf (by omega) (by omega))) fun w' hown' ht => ?_
  refine hK w' ⟨_, hown', hD.put _ _, fun j j1 j2 => ?_⟩ ht.grown
  by_cases hj : j = k
  · subst hj
    simp only [if_true]
    refine ⟨by rw [has_put_same hD (by simp [WideAt.IsKeyLit])]; rfl, fun i' z hi' => ?_⟩
    obtain rfl := Option.some.inj hi'
    exact atKey_put_same hD (by simp [WideAt.IsKeyLit]) _ z
  · simp only [if_neg hj]
    have hne : (Lit.int .i64 j) ≠ (Lit.int .i64 k) := by simpa using hj
    obtain ⟨e1, e2⟩ := hf j j1 j2
    exact ⟨by rw [has_put_other hne]; exact e1, fun i' z hi' => by rw [atKey_put_other hne]; exact e2 i' z hi'⟩
theorem wpList_pool_delete (hg : o.guard = none) (m x : Operand) (hop : o.op = Op.call { callee := Callee.builtin Builtin.delete, args := #[m, x], argTypes := #[195, 3] }) (hm : a.eval m = .map (some gm)) (h : MapAt w gm N f) (k : Int) (hx : a.eval x = .int .i64 k)
    (h1 : -9223372036854775808 ≤ k) (h2 : k ≤ 9223372036854775807)
    (hK : ∀ w', MapAt w' gm N (fun j => if j = k then none else f j) → w.grownBy w' (some gm) → wpList Tryz.prog ops Q rest (a.put o.dst (.tuple #[])) w') : wpList Tryz.prog ops Q (o :: rest) a w := by
  obtain ⟨D, hown, hD, hf⟩ := h
  refine wpList_delete_own w hg m x 195 3 hop 3 intKeyed Tryz.underlying195 _ gm N D hm hown _ _ hx (int_key h1 h2) fun w' hown' ht => ?_
  refine hK w' ⟨_, hown', hD.del _, fun j j1 j2 => ?_⟩ ht.grown
  by_cases hj : j = k
  · subst hj
    simp only [if_true]
    exact ⟨by rw [has_del_same]; rfl, fun i' z hi' => by cases hi'⟩
  · simp only [if_neg hj]
    have hne : (Lit.int .i64 j) ≠ (Lit.int .i64 k) := by simpa using hj
    obtain ⟨e1, e2⟩ := hf j j1 j2
    exact ⟨by rw [has_del_other hne]; exact e1, fun i' z hi' => by rw [atKey_del_other hne]; exact e2 i' z hi'⟩
end
end Go.Proofs.YtcfoihihinijlaaGreat
end

section
namespace Go.Proofs.YtcfoihihinijlaaGreat
set_option linter.unusedSimpArgs false
set_option linter.unusedVariables false
open Go.RowKit Go.Maps
theorem zero_int (w : World) : (zeroValue 3).run Tryz.prog w = .ok (.int .i64 0) w := by go_simp
section
variable {w : World} {B N c : Nat} {b : PB} {p : PS}
theorem PoolAt.setMiss (h : PoolAt w B b N c p) (h0 : 0 < p.L.length) (x : Int) : PoolAt (w.setCell ⟨b.gp, 4, none⟩ (.int .i64 x)) B b N c { p with misses := x } := by
  have hne := h.ne h0
  have e := set_cells h.head 4 (.int .i64 x)
  simp at e
  refine ⟨h.lp, h.lf, h.lm, e, h.frames.set _ (fun a ha => ?_) _, h.map.set _ (fun e => hne.2.1 e.symm) _, fun f hf => (h.bytes f hf).far (fun a ha hb => h.far f hf a ha (.inl hb)) _, h.far⟩
  obtain rfl := Option.some.inj ha
  exact fun e => hne.1 e.symm
theorem PoolAt.setHit (h : PoolAt w B b N c p) (h0 : 0 < p.L.length) (x : Int) : PoolAt (w.setCell ⟨b.gp, 3, none⟩ (.int .i64 x)) B b N c { p with hits := x } := by
  have hne := h.ne h0
  have e := set_cells h.head 3 (.int .i64 x)
  simp at e
  refine ⟨h.lp, h.lf, h.lm, e, h.frames.set _ (fun a ha => ?_) _, h.map.set _ (fun e => hne.2.1 e.symm) _, fun f hf => (h.bytes f hf).far (fun a ha hb => h.far f hf a ha (.inl hb)) _, h.far⟩
  obtain rfl := Option.some.inj ha
  exact fun e => hne.1 e.symm
end
set_option maxRecDepth 20000 in
set_option maxHeartbeats 1000000 in
theorem get_miss (w : World) (B N c : Nat) (b : PB) (p : PS) (hP : PoolAt w B b N c p) (h0 : 0 < p.L.length) (k : Int) (h1 : -9223372036854775808 ≤ k) (h2 : k ≤ 9223372036854775807) (hk : whereOf p.L k = none) (hm : 0 ≤ p.misses ∧ p.misses < 1000000) :
    Calls Tryz.prog 137 #[.pointer (some ⟨b.gp, 0, none⟩), .int .i64 k] w fun e w' => e = .returned (.tuple #[.slice none 0 0, .bool false]) ∧ PoolAt w' B b N c { p with misses := p.misses + 1 } ∧ Keeps w w' b.own := by
  have c2 : w.cell? ⟨b.gp, 2, none⟩ = some (.map (some b.gm)) := by rw [cell_of_row w _ 2 _ _ _ hP.head]; rfl
  have c4 : w.cell? ⟨b.gp, 4, none⟩ = some (.int .i64 p.misses) := by rw [cell_of_row w _ 4 _ _ _ hP.head]; rfl
  have f4 : w.frozen? ⟨b.gp, 4, none⟩ = false := frozen_of_row w _ 4 _ _ hP.head
  have HP := Lib.hid hP
  have HK := Lib.hid hk
  clear hP hk
  go_enter Tryz.func137, Tryz.ntmps137
  go_wp2_with (at_lookup; refine wpList_pool_lookup rfl (.tmp 15) (.tmp 16) rfl rfl HP.out.map k rfl h1 h2 (zero_int w) ?_; rw [HK.out])
  go_ret2
  exact ⟨rfl, HP.out.setMiss h0 _, (Keeps.refl w _).set _ (.inl (.inl rfl)) _⟩
end Go.Proofs.YtcfoihihinijlaaGreat
end

section
namespace Go.Proofs.YtcfoihihinijlaaGreat
set_option linter.unusedSimpArgs false
set_option linter.unusedVariables false
open Go.RowKit Go.Maps
def Once (L : List Fr) : Prop := ∀ i j (hi : i < L.length) (hj : j < L.length), 0 ≤ L[i].page → L[i].page = L[j].page → i = j
theorem where_some {L : List Fr} {k : Int} {i : Nat} (h : whereOf L k = some i) : ∃ hi : i < L.length, L[i].page = k ∧ 0 ≤ k := by
  unfold whereOf at h
  split at h
  · rename_i hk
    obtain ⟨hi, h1, _⟩ := List.findIdx?_eq_some_iff_getElem.1 h
    exact ⟨hi, by simpa using h1, hk⟩
  · cases h
theorem where_of {L : List Fr} (ho : Once L) {k : Int} {i : Nat} (hi : i < L.length) (hk : L[i].page = k) (h0 : 0 ≤ k) : whereOf L k = some i := by
  unfold whereOf
  rw [if_pos h0]
  rw [List.findIdx?_eq_some_iff_getElem]
  refine ⟨hi, by simpa using hk, fun j hj => ?_⟩
  simp
  intro e
  have := ho j i (by omega) hi (by rw [e]; exact h0) (by rw [e, hk])
  omega
theorem where_none {L : List Fr} {k : Int} (h : whereOf L k = none) (h0 : 0 ≤ k) : ∀ i (hi : i < L.length), L[i].page ≠ k := by
  unfold whereOf at h
  rw [if_pos h0, List.findIdx?_eq_none_iff] at h
  intro i hi e
  have := h L[i] (List.getElem_mem hi)
  simp [e] at this
theorem where_iff {L : List Fr} (ho : Once L) (k : Int) (i : Nat) : whereOf L k = some i ↔ 0 ≤ k ∧ ∃ hi : i < L.length, L[i].page = k :=
  ⟨fun h => let ⟨hi, h1, h2⟩ := where_some h; ⟨h2, hi, h1⟩, fun ⟨h0, hi, hk⟩ => where_of ho hi hk h0⟩
theorem once_set {L : List Fr} (ho : Once L) {a : Nat} (_ha : a < L.length) (f : Fr) (hf : 0 ≤ f.page → ∀ i (hi : i < L.length), i ≠ a → L[i].page ≠ f.page) : Once (L.set a f) := by
  intro i j hi hj h0 he
  rw [List.length_set] at hi hj
  rw [List.getElem_set] at h0 he
  rw [List.getElem_set] at he
  by_cases h1 : a = i
  · by_cases h2 : a = j
    · omega
    · rw [if_pos h1] at h0 he
      rw [if_neg h2] at he
      exact absurd he.symm (hf h0 j hj (fun e => h2 e.symm))
  · rw [if_neg h1] at h0 he
    by_cases h2 : a = j
    · rw [if_pos h2] at he
      exact absurd he (hf (he ▸ h0) i hi (fun e => h1 e.symm))
    · rw [if_neg h2] at he
      exact ho i j hi hj h0 he
theorem where_set {L : List Fr} (ho : Once L) {a : Nat} (ha : a < L.length) (f : Fr) (hf : 0 ≤ f.page → ∀ i (hi : i < L.length), i ≠ a → L[i].page ≠ f.page) (k : Int) :
    whereOf (L.set a f) k = if 0 ≤ k ∧ k = f.page then some a else if k = L[a].page then none else whereOf L k := by
  have ho' := once_set ho ha f hf
  by_cases h0 : 0 ≤ k
  · by_cases hk : k = f.page
    · rw [if_pos ⟨h0, hk⟩]
      exact where_of ho' (by simpa using ha) (by simp [hk]) h0
    · rw [if_neg (fun h => hk h.2)]
      by_cases hka : k = L[a].page
      · rw [if_pos hka]
        cases h : whereOf (L.set a f) k with
        | none => rfl
        | some i =>
          obtain ⟨hi, h1, _⟩ := where_some h
          rw [List.length_set] at hi
          rw [List.getElem_set] at h1
          by_cases hia : a = i
          · rw [if_pos hia] at h1; exact absurd h1.symm hk
          · rw [if_neg hia] at h1
            exact absurd (ho a i ha hi (by omega) (by omega)) hia
      · rw [if_neg hka]
        apply Option.ext
        intro i
        rw [where_iff ho', where_iff ho]
        constructor
        · rintro ⟨_, hi, h1⟩
          rw [List.length_set] at hi
          rw [List.getElem_set] at h1
          by_cases hia : a = i
          · rw [if_pos hia] at h1; exact absurd h1.symm hk
          · rw [if_neg hia] at h1; exact ⟨h0, hi, h1⟩
        · rintro ⟨_, hi, h1⟩
          refine ⟨h0, by simpa using hi, ?_⟩
          rw [List.getElem_set]
          by_cases hia : a = i
          · subst hia; exact absurd h1.symm hka
          · rw [if_neg hia]; exact h1
  · have e : ∀ M : List Fr, whereOf M k = none := fun M => by unfold whereOf; rw [if_neg h0]
    rw [e, e, if_neg (fun h => h0 h.1)]
    split <;> rfl
end Go.Proofs.YtcfoihihinijlaaGreat
end

section
namespace Go.Proofs.YtcfoihihinijlaaGreat
set_option linter.unusedSimpArgs false
set_option linter.unusedVariables false
open Go.RowKit Go.Maps
structure PoolF (w : World) (B : Nat) (b : PB) (N c : Nat) (p : PS) (f : Int → Option Nat) : Prop where
  lp : B ≤ b.gp
  lf : B ≤ b.gf
  lm : B ≤ b.gm
  head : w.heap[b.gp]? = some (.cells #[.slice (some ⟨b.gf, 0, none⟩) p.L.length c, .int .i64 (p.hand : Nat), .map (some b.gm), .int .i64 p.hits, .int .i64 p.misses] 197 (0, 0))
  frames : FOwn w B (some ⟨b.gf, 0, none⟩) c p.L
  map : MapAt w b.gm N f
  bytes : ∀ f ∈ p.L, BRowU w f.A f.s
  far : ∀ f ∈ p.L, ∀ a, f.A = some a → ¬ b.own a.block
section
variable {w w' : World} {B N c : Nat} {b : PB} {p : PS} {f : Int → Option Nat}
theorem PoolAt.toF (h : PoolAt w B b N c p) : PoolF w B b N c p (whereOf p.L) := ⟨h.lp, h.lf, h.lm, h.head, h.frames, h.map, h.bytes, h.far⟩
theorem PoolF.toAt (h : PoolF w B b N c p f) (hf : f = whereOf p.L) : PoolAt w B b N c p := ⟨h.lp, h.lf, h.lm, h.head, h.frames, hf ▸ h.map, h.bytes, h.far⟩
theorem PoolF.below (h : PoolF w B b N c p f) (hb : Below w.heap.size w w') : PoolF w' B b N c p f :=
  ⟨h.lp, h.lf, h.lm, (hb.block _ (Array.getElem?_eq_some_iff.1 h.head).1).trans h.head, h.frames.below hb, h.map.below hb, fun f hf => (h.bytes f hf).below hb, h.far⟩
theorem PoolF.ne (h : PoolF w B b N c p f) (h0 : 0 < p.L.length) : b.gp ≠ b.gf ∧ b.gp ≠ b.gm ∧ b.gf ≠ b.gm := by
  obtain ⟨cur, hf⟩ : ∃ cur, w.heap[b.gf]? = some (.cells cur 199 (0, 0)) := by
    rcases h.frames.2 with ⟨hv, hz⟩ | ⟨g, cap, cur, hv, _, hg, _⟩
    · omega
    · simp only [Value.slice.injEq, Option.some.injEq, Addr.mk.injEq] at hv
      obtain ⟨⟨rfl, _, _⟩, _⟩ := hv
      exact ⟨cur, hg⟩
  obtain ⟨D, ⟨es, clock, hm, _⟩, _⟩ := h.map
  refine ⟨fun e => ?_, fun e => ?_, fun e => ?_⟩
  · rw [← e, h.head] at hf
    simp at hf
  · rw [← e, h.head] at hm
    simp at hm
  · rw [← e, hf] at hm
    simp at hm
theorem PoolF.turn (h : PoolF w B b N c p f) (h0 : 0 < p.L.length) {N' : Nat} {f' : Int → Option Nat} (hm : MapAt w' b.gm N' f') (hg : w.grownBy w' (some b.gm)) : PoolF w' B b N' c p f' := by
  have hne := h.ne h0
  refine ⟨h.lp, h.lf, h.lm, (hg.block _ (Array.getElem?_eq_some_iff.1 h.head).1 (by simpa using hne.2.1)).trans h.head, ?_, hm, fun f hf => ?_, h.far⟩
  · exact World.ownsRow.kept h.frames hg (.inr (by rw [own_block]; simpa using hne.2.2))
  · exact (h.bytes f hf).keepU hg.size fun hl a ha => hg.block _ ((h.bytes f hf).u8 hl a ha).lt (by simp; exact fun e' => h.far f hf _ ha (.inr (.inr e')))
theorem PoolF.store (h : PoolF w B b N c p f) {i : Nat} (hi : i < p.L.length) (fr : Fr) (hb : BRowU w fr.A fr.s) (hfar : ∀ a, fr.A = some a → ¬ b.own a.block) :
    PoolF (((w.setCell ⟨b.gf, i * 3, none⟩ (.int .i64 fr.page)).setCell ⟨b.gf, i * 3 + 1, none⟩ (.bool fr.mark)).setCell ⟨b.gf, i * 3 + 2, none⟩ (.slice fr.A fr.s.length fr.c)) B b N c { p with L := p.L.set i fr } f := by
  have hne := h.ne (by omega)
  have hall : ∀ g ∈ p.L.set i fr, BRowU w g.A g.s ∧ ∀ a, g.A = some a → ¬ b.own a.block := by
    intro g hg
    rcases List.mem_or_eq_of_mem_set hg with h1 | h1
    · exact ⟨h.bytes g h1, h.far g h1⟩
    · subst h1
      exact ⟨hb, hfar⟩
  refine ⟨h.lp, h.lf, h.lm, ?_, h.frames.storeAll hi fr, ?_, fun g hg => ?_, fun g hg => (hall g hg).2⟩
  · rw [heap_setCell_other _ _ _ _ hne.1, heap_setCell_other _ _ _ _ hne.1, heap_setCell_other _ _ _ _ hne.1, h.head, List.length_set]
  · exact ((h.map.set _ (fun e => hne.2.2 e.symm) _).set _ (fun e => hne.2.2 e.symm) _).set _ (fun e => hne.2.2 e.symm) _
  · have hf : ∀ a, g.A = some a → a.block ≠ b.gf := fun a ha e => (hall g hg).2 a ha (.inr (.inl e))
    exact (((hall g hg).1.far (p := ⟨b.gf, i * 3, none⟩) hf _).far (p := ⟨b.gf, i * 3 + 1, none⟩) hf _).far (p := ⟨b.gf, i * 3 + 2, none⟩) hf _
end
end Go.Proofs.YtcfoihihinijlaaGreat
end

section
namespace Go.Proofs.YtcfoihihinijlaaGreat
set_option linter.unusedSimpArgs false
set_option linter.unusedVariables false
open Go.RowKit Go.Maps
structure Good (p : PS) : Prop where
  once : Once p.L
  pages : ∀ f ∈ p.L, f.page = -1 ∨ (0 ≤ f.page ∧ f.page ≤ 9223372036854775807)
  n0 : 0 < p.L.length
  n1 : p.L.length ≤ 64
  hand : p.hand < p.L.length
  bytes : ∀ f ∈ p.L, f.s.length ≤ 1000000
def Alike (L M : List Fr) : Prop := M.length = L.length ∧ ∀ i (h : i < L.length) (h' : i < M.length), M[i].page = L[i].page ∧ M[i].s = L[i].s ∧ M[i].A = L[i].A ∧ M[i].c = L[i].c
theorem Alike.refl (L : List Fr) : Alike L L := ⟨rfl, fun _ _ _ => ⟨rfl, rfl, rfl, rfl⟩⟩
theorem Alike.trans {L M K : List Fr} (h : Alike L M) (k : Alike M K) : Alike L K :=
  ⟨k.1.trans h.1, fun i hi hi' => by
    have hm : i < M.length := by rw [h.1]; exact hi
    obtain ⟨a1, a2, a3, a4⟩ := h.2 i hi hm
    obtain ⟨b1, b2, b3, b4⟩ := k.2 i hm hi'
    exact ⟨b1.trans a1, b2.trans a2, b3.trans a3, b4.trans a4⟩⟩
theorem Alike.mark (L : List Fr) (j : Nat) (hj : j < L.length) (x : Bool) : Alike L (L.set j { L[j] with mark := x }) :=
  ⟨by simp, fun i hi hi' => by
    rw [List.getElem_set]
    split
    · rename_i e; subst e; exact ⟨rfl, rfl, rfl, rfl⟩
    · exact ⟨rfl, rfl, rfl, rfl⟩⟩
theorem sweep_alike : ∀ (f : Nat) (L : List Fr) (h : Nat), h < L.length → Alike L (sweep f L h).2.1 ∧ (sweep f L h).1 < L.length ∧ (sweep f L h).2.2 < L.length
  | 0, L, h, hh => ⟨.refl L, hh, hh⟩
  | f + 1, L, h, hh => by
    unfold sweep
    rw [dif_pos hh]
    have hm : (h + 1) % L.length < L.length := Nat.mod_lt _ (by omega)
    split
    · obtain ⟨a, b, c⟩ := sweep_alike f (L.set h { L[h] with mark := false }) ((h + 1) % L.length) (by simpa using hm)
      exact ⟨(Alike.mark L h hh false).trans a, by simpa using b, by simpa using c⟩
    · exact ⟨.refl L, hh, hm⟩
theorem firstEmpty_at : ∀ (L : List Fr) (i : Nat), 0 ≤ firstEmpty L i → ∃ j, ∃ h : j < L.length, firstEmpty L i = ((i + j : Nat) : Int) ∧ L[j].page < 0
  | [], i, h => by simp [firstEmpty] at h
  | f :: L, i, h => by
    unfold firstEmpty at h ⊢
    split
    · rename_i hp
      exact ⟨0, by simp, by simp, by simpa using hp⟩
    · rename_i hp
      rw [if_neg hp] at h
      obtain ⟨j, hj, e, hn⟩ := firstEmpty_at L (i + 1) h
      exact ⟨j + 1, by simpa using hj, by rw [e]; congr 1; omega, by simpa using hn⟩
theorem place_ok {p : PS} (h : Good p) : Alike p.L p.place.2.L ∧ p.place.1 < p.L.length ∧ p.place.2.hand < p.L.length ∧ p.place.2.hits = p.hits ∧ p.place.2.misses = p.misses := by
  unfold PS.place
  split
  · rename_i hf
    obtain ⟨j, hj, e, _⟩ := firstEmpty_at p.L 0 hf
    refine ⟨.refl _, ?_, h.hand, rfl, rfl⟩
    show (firstEmpty p.L 0).toNat < _
    omega
  · obtain ⟨a, b, c⟩ := sweep_alike (marked p.L + 1) p.L p.hand h.hand
    exact ⟨a, b, c, rfl, rfl⟩
theorem Alike.where_eq {L M : List Fr} (h : Alike L M) : whereOf M = whereOf L := by
  funext k
  unfold whereOf
  split
  · have e : ∀ M : List Fr, M.findIdx? (fun f => f.page == k) = (M.map (·.page)).findIdx? (· == k) := fun M => by rw [List.findIdx?_map]; rfl
    rw [e, e]
    congr 1
    apply List.ext_getElem (by simp [h.1])
    intro i h1 h2
    simp at h1 h2 ⊢
    exact (h.2 i h2 h1).1
  · rfl
theorem Alike.mem {L M : List Fr} (h : Alike L M) {f : Fr} (hf : f ∈ M) : ∃ g ∈ L, f.page = g.page ∧ f.s = g.s ∧ f.A = g.A := by
  obtain ⟨i, hi, rfl⟩ := List.getElem_of_mem hf
  have hl : i < L.length := by rw [← h.1]; exact hi
  obtain ⟨a, b, c, _⟩ := h.2 i hl hi
  exact ⟨L[i], List.getElem_mem hl, a, b, c⟩
theorem Alike.once {L M : List Fr} (h : Alike L M) (ho : Once L) : Once M := by
  intro i j hi hj h0 he
  have hi' : i < L.length := by rw [← h.1]; exact hi
  have hj' : j < L.length := by rw [← h.1]; exact hj
  rw [(h.2 i hi' hi).1] at h0 he
  rw [(h.2 j hj' hj).1] at he
  exact ho i j hi' hj' h0 he
theorem Good.place {p : PS} (h : Good p) : Good p.place.2 := by
  obtain ⟨a, b, c, _⟩ := place_ok h
  refine ⟨a.once h.once, fun f hf => ?_, by rw [a.1]; exact h.n0, by rw [a.1]; exact h.n1, by rw [a.1]; exact c, fun f hf => ?_⟩
  · obtain ⟨g, hg, e, _⟩ := a.mem hf
    rw [e]; exact h.pages g hg
  · obtain ⟨g, hg, _, e, _⟩ := a.mem hf
    rw [e]; exact h.bytes g hg
def PS.put (p : PS) (k : Int) (f : Fr) : Int × PS :=
  match whereOf p.L k with
  | some i => (-1, { p with L := p.L.set i f })
  | none => ((p.place.2.L.getD p.place.1 fr0).page, { p.place.2 with L := p.place.2.L.set p.place.1 f })
theorem Good.set {p : PS} (h : Good p) {a : Nat} (ha : a < p.L.length) (f : Fr) (hf : 0 ≤ f.page → ∀ i (hi : i < p.L.length), i ≠ a → p.L[i].page ≠ f.page) (hp : f.page = -1 ∨ (0 ≤ f.page ∧ f.page ≤ 9223372036854775807)) (hs : f.s.length ≤ 1000000) :
    Good { p with L := p.L.set a f } := by
  refine ⟨once_set h.once ha f hf, fun g hg => ?_, by simpa using h.n0, by simpa using h.n1, by simpa using h.hand, fun g hg => ?_⟩
  · rcases List.mem_or_eq_of_mem_set hg with h1 | h1
    · exact h.pages g h1
    · exact h1 ▸ hp
  · rcases List.mem_or_eq_of_mem_set hg with h1 | h1
    · exact h.bytes g h1
    · exact h1 ▸ hs
theorem where_other {L : List Fr} (ho : Once L) {k : Int} {i : Nat} (h : whereOf L k = some i) : ∀ j (hj : j < L.length), j ≠ i → L[j].page ≠ k := by
  obtain ⟨hi, e, h0⟩ := where_some h
  intro j hj hne e2
  exact hne (ho j i hj hi (by omega) (by omega))
theorem Good.put {p : PS} (h : Good p) {k : Int} (h0 : 0 ≤ k) (h1 : k ≤ 9223372036854775807) (f : Fr) (hf : f.page = k) (hs : f.s.length ≤ 1000000) : Good (p.put k f).2 := by
  unfold PS.put
  split
  · rename_i i hi
    obtain ⟨hil, _, _⟩ := where_some hi
    exact h.set hil f (fun _ => hf ▸ where_other h.once hi) (.inr (by omega)) hs
  · rename_i hn
    obtain ⟨a, b, _⟩ := place_ok h
    have hn2 : whereOf p.place.2.L k = none := by rw [a.where_eq]; exact hn
    exact h.place.set (by rw [a.1]; exact b) f (fun _ i hi _ => hf ▸ where_none hn2 h0 i hi) (.inr (by omega)) hs
end Go.Proofs.YtcfoihihinijlaaGreat
end

section
namespace Go.Proofs.YtcfoihihinijlaaGreat
set_option linter.unusedSimpArgs false
set_option linter.unusedVariables false
open Go.RowKit Go.Maps
set_option maxHeartbeats 400000 in
theorem put_neg (w : World) (B N c : Nat) (b : PB) (p : PS) (_hP : PoolAt w B b N c p) (k : Int) (hk : k < 0) (A : Option Addr) (l c' : Nat) :
    Calls Tryz.prog 138 #[.pointer (some ⟨b.gp, 0, none⟩), .int .i64 k, .slice A l c'] w fun e w' => e = .returned (.int .i64 (-1)) ∧ w = w' := by
  go_enter Tryz.func138, Tryz.ntmps138
  go_wp2_with fail
  go_ret
  exact ⟨rfl, rfl⟩
def PutR (b : PB) (p : PS) (c i : Nat) (k : Int) (A2 : Option Addr) (c2 : Nat) (l : List UInt8) (w0 : World) (j : Nat) (x : Value) (w : World) : Prop :=
  match j with
  | 0 => x = .pointer (some ⟨b.gp, 0, none⟩)
  | 1 => x = .pointer (some ⟨b.gp, 0, none⟩)
  | 2 => x = .pointer (some ⟨b.gp, 0, none⟩)
  | 3 => x = .slice (some ⟨b.gf, 0, none⟩) p.L.length c
  | 4 => x = .int .i64 (i : Nat)
  | 5 => x = .int .i64 k
  | 6 => x = .slice A2 l.length c2
  | 7 => ∃ A' c', x = .slice A' l.length c' ∧ BRowU w A' l ∧ ∀ a, A' = some a → w0.heap.size ≤ a.block
  | 8 => ∃ A' c', x = .agg #[.int .i64 k, .bool true, .slice A' l.length c'] ∧ BRowU w A' l ∧ ∀ a, A' = some a → w0.heap.size ≤ a.block
  | 9 => x = .pointer (some ⟨b.gf, i * 3, none⟩)
  | _ => True
theorem PutR.below {b : PB} {p : PS} {c i : Nat} {k : Int} {A2 : Option Addr} {c2 : Nat} {l : List UInt8} {w0 : World} {j : Nat} {x : Value} {w w' : World} (hb : Below w.heap.size w w') (h : PutR b p c i k A2 c2 l w0 j x w) : PutR b p c i k A2 c2 l w0 j x w' := by
  unfold PutR at h ⊢
  split at h <;> try exact h
  · obtain ⟨A, c, h1, h2, h3⟩ := h
    exact ⟨A, c, h1, h2.below hb, h3⟩
  · obtain ⟨A, c, h1, h2, h3⟩ := h
    exact ⟨A, c, h1, h2.below hb, h3⟩
theorem PoolF.lt {w : World} {B N c : Nat} {b : PB} {p : PS} {f : Int → Option Nat} (h : PoolF w B b N c p f) (h0 : 0 < p.L.length) : ∀ k, b.own k → k < w.heap.size := by
  obtain ⟨cur, hf⟩ : ∃ cur, w.heap[b.gf]? = some (.cells cur 199 (0, 0)) := by
    rcases h.frames.2 with ⟨hv, hz⟩ | ⟨g, cap, cur, hv, _, hg, _⟩
    · omega
    · simp only [Value.slice.injEq, Option.some.injEq, Addr.mk.injEq] at hv
      obtain ⟨⟨rfl, _, _⟩, _⟩ := hv
      exact ⟨cur, hg⟩
  obtain ⟨D, ⟨es, clock, hm, _⟩, _⟩ := h.map
  rintro k (rfl | rfl | rfl)
  · exact (Array.getElem?_eq_some_iff.1 h.head).1
  · exact (Array.getElem?_eq_some_iff.1 hf).1
  · exact (Array.getElem?_eq_some_iff.1 hm).1
theorem where_hit {L : List Fr} (ho : Once L) {k : Int} (h0 : 0 ≤ k) {i : Nat} (hk : whereOf L k = some i) (f : Fr) (hf : f.page = k) : whereOf (L.set i f) = whereOf L := by
  obtain ⟨hi, hpk, _⟩ := where_some hk
  funext j
  rw [where_set ho hi f (fun _ => hf ▸ where_other ho hk) j, hpk, hf]
  by_cases hj : j = k
  · subst hj; rw [if_pos ⟨h0, rfl⟩, hk]
  · rw [if_neg (fun h => hj h.2), if_neg hj]
theorem where_miss {L : List Fr} (ho : Once L) {k : Int} (h0 : 0 ≤ k) (hk : whereOf L k = none) {i : Nat} (hi : i < L.length) (f : Fr) (hf : f.page = k) :
    whereOf (L.set i f) = fun j => if j = k then some i else if j = L[i].page then none else whereOf L j := by
  funext j
  rw [where_set ho hi f (fun _ i hi _ => hf ▸ where_none hk h0 i hi) j, hf]
  by_cases hj : j = k
  · subst hj; rw [if_pos ⟨h0, rfl⟩, if_pos rfl]
  · rw [if_neg (fun h => hj h.2), if_neg hj]
theorem where_neg {L : List Fr} {j : Int} (hj : j < 0) : whereOf L j = none := by unfold whereOf; rw [if_neg (by omega)]
theorem where_neg_eq {L : List Fr} (ho : Once L) {k : Int} (h0 : 0 ≤ k) (hk : whereOf L k = none) {i : Nat} (hi : i < L.length) (hn : L[i].page < 0) (f : Fr) (hf : f.page = k) :
    whereOf (L.set i f) = fun j => if j = k then some i else whereOf L j := by
  rw [where_miss ho h0 hk hi f hf]
  funext j
  by_cases hj : j = k
  · rw [if_pos hj, if_pos hj]
  · rw [if_neg hj, if_neg hj]
    split
    · rename_i e
      rw [where_neg (by omega)]
    · rfl
set_option maxRecDepth 20000 in
set_option maxHeartbeats 2000000 in
theorem put_hit (w : World) (B N c : Nat) (b : PB) (p : PS) (hP : PoolAt w B b N c p) (hG : Good p) (k : Int) (h1 : 0 ≤ k) (h2 : k ≤ 9223372036854775807) (i : Nat) (hk : whereOf p.L k = some i)
    (A2 : Option Addr) (c2 : Nat) (l : List UInt8) (hr : BRow w A2 l) (hl : l.length ≤ 1000000) :
    Calls Tryz.prog 138 #[.pointer (some ⟨b.gp, 0, none⟩), .int .i64 k, .slice A2 l.length c2] w fun e w' =>
      e = .returned (.int .i64 (-1)) ∧ (∃ A' c', PoolAt w' B b N c { p with L := p.L.set i ⟨k, true, l, A', c'⟩ } ∧ ∀ a, A' = some a → w.heap.size ≤ a.block) ∧ Keeps w w' b.own := by
  obtain ⟨hi, hpk, _⟩ := where_some hk
  have hn0 := hG.n0
  have hn1 := hG.n1
  have c2' : w.cell? ⟨b.gp, 2, none⟩ = some (.map (some b.gm)) := by rw [cell_of_row w _ 2 _ _ _ hP.head]; rfl
  have hii : (i : Int) < (p.L.length : Int) := by omega
  have hk0 : ¬ k < 0 := by omega
  have hks : -9223372036854775808 ≤ k := by omega
  have HP := Lib.hid hP
  have HX := Lib.hid hP.toF
  have HRX := Lib.hid hr
  have HK := Lib.hid hk
  clear hP hk hr hpk
  go_enter Tryz.func138, Tryz.ntmps138
  go_wp2_with (at_lookup; refine wpList_pool_lookup rfl (.tmp 20) (.tmp 21) rfl rfl HP.out.map k rfl hks h2 (zero_int w) ?_; rw [HK.out]; simp only [Option.getD_some, Option.isSome_some])
  apply wp_region_last (n := 10) (PutR b p c i k A2 c2 l w) (fun w' => Below (w).heap.size w w') (fun w w' => Below w.heap.size w w')
  case hG => (intro v; simp only [regFrame, List.zipIdx_cons, List.zipIdx_nil, List.foldl_cons, List.foldl_nil, Act.put, List.setIfInBounds_toArray, List.set_cons_zero, List.set_cons_succ, Nat.reduceAdd]; rfl)
  case hm => kernel_rfl
  case honce => rfl
  case hlow => kernel_rfl
  case hall => kernel_rfl
  case hn => rfl
  case ho => rfl
  case hog => rfl
  case hod => rfl
  case hR => exact fun i x w w' hb h => h.below hb
  case hW => exact fun w w' h hb => h.trans (hb.mono h.size)
  case h0 => exact (Below.refl _ _).drew
  case hstep =>
    refine ⟨?_, ?_, ?_, ?_, ?_, ?_, ?_, ?_, ?_, ?_, trivial⟩ <;> (intro v w1 hI hd; simp only [Deps, Region.binds, ↓reduceIte, PutR, and_true] at hd)
    · exact opDoes_move _ rfl rfl ⟨Below.refl _ _, rfl⟩
    · refine opDoes_run (x := .pointer (some ⟨b.gp, 0, none⟩)) rfl ?_ ⟨Below.refl _ _, rfl⟩
      go_simp
    · refine opDoes_run (x := .pointer (some ⟨b.gp, 0, none⟩)) rfl ?_ ⟨Below.refl _ _, rfl⟩
      go_simp
    · have c0 : w1.cell? ⟨b.gp, 0, none⟩ = some (.slice (some ⟨b.gf, 0, none⟩) (p).L.length c) := by rw [hI.cell (p := ⟨b.gp, 0, none⟩) (Array.getElem?_eq_some_iff.1 HX.out.head).1, cell_of_row _ _ 0 _ _ _ HX.out.head]; rfl
      refine opDoes_run (x := .slice (some ⟨b.gf, 0, none⟩) (p).L.length c) rfl ?_ ⟨Below.refl _ _, rfl⟩
      go_simp
    · exact opDoes_move _ rfl rfl ⟨Below.refl _ _, rfl⟩
    · exact opDoes_move _ rfl rfl ⟨Below.refl _ _, rfl⟩
    · exact opDoes_move _ rfl rfl ⟨Below.refl _ _, rfl⟩
    · refine opDoes_call _ _ _ #[.slice A2 l.length c2] rfl rfl (by go_simp) (Tryz.call87 _ _) ?_
      refine (clone_any w1 A2 c2 l (HRX.out.below hI) hl).mono fun e w2 ⟨A', c', he, ho, hb⟩ => ⟨_, he, hb, A', c', rfl, BRowU.own ho, fun a ha => Nat.le_trans hI.size (ho.block a ha).1⟩
    · obtain ⟨h55, A', c', h57, hbr, hfa⟩ := hd
      refine opDoes_run (x := .agg #[.int .i64 k, .bool true, .slice A' l.length c']) rfl ?_ ⟨Below.refl _ _, A', c', rfl, hbr, hfa⟩
      clear hfa hbr
      go_simp
    · refine opDoes_run (x := .pointer (some ⟨b.gf, i * 3, none⟩)) rfl ?_ ⟨Below.refl _ _, rfl⟩
      go_simp
  case hend =>
    intro v w1 hI h
    simp only [List.take, AllOps, Nat.zero_add, Nat.reduceAdd, and_true, PutR] at h
    obtain ⟨-, -, -, -, -, -, -, -, ⟨A', c', h8, hbr, hfa⟩, h9⟩ := h
    have hF := HX.out.below hI
    obtain ⟨d0, d1, d2⟩ := hF.frames.cell (hi)
    have g0 : w1.frozen? ⟨b.gf, i * 3, none⟩ = false := hF.frames.free _
    have g1 : w1.frozen? ⟨b.gf, i * 3 + 1, none⟩ = false := hF.frames.free _
    have g2 : w1.frozen? ⟨b.gf, i * 3 + 2, none⟩ = false := hF.frames.free _
    have hfar : ∀ a, A' = some a → ¬ b.own a.block := fun a ha ho => by
      have q1 := hfa a ha
      have q2 := HX.out.lt (by omega) _ ho
      omega
    have hS := hF.store hi ⟨k, true, l, A', c'⟩ hbr hfar
    have hK : Keeps w (((w1.setCell ⟨b.gf, i * 3, none⟩ (.int .i64 k)).setCell ⟨b.gf, i * 3 + 1, none⟩ (.bool true)).setCell ⟨b.gf, i * 3 + 2, none⟩ (.slice A' l.length c')) b.own :=
      (((Keeps.of_below hI).set ⟨b.gf, i * 3, none⟩ (.inl (.inr (.inl rfl))) _).set ⟨b.gf, i * 3 + 1, none⟩ (.inl (.inr (.inl rfl))) _).set ⟨b.gf, i * 3 + 2, none⟩ (.inl (.inr (.inl rfl))) _
    have HS := Lib.hid (And.intro hS hK)
    have HFA := Lib.hid hfa
    clear hS hK hfar hfa hbr hF hI
    refine ⟨(((w1.setCell ⟨b.gf, i * 3, none⟩ (.int .i64 k)).setCell ⟨b.gf, i * 3 + 1, none⟩ (.bool true)).setCell ⟨b.gf, i * 3 + 2, none⟩ (.slice A' l.length c')), ?_, ?_⟩
    · simp only [execOp]
      go_simp
    · have HS' := HS
      rw [h8, h9]
      clear h8 h9 d0 d1 d2 g0 g1 g2 HS
      go_wp2_with fail
      go_ret
      have HS := HS'
      exact ⟨rfl, ⟨A', ⟨c', HS.out.1.toAt (where_hit hG.once h1 HK.out _ rfl).symm⟩, HFA.out⟩, HS.out.2⟩
theorem mod_nat_cell {L : List Fr} {q : Nat} (hq : q < L.length) : L.getD q fr0 = L[q] := by simp [hq]
set_option maxRecDepth 20000 in
set_option maxHeartbeats 2000000 in
theorem put_miss (w : World) (B N c : Nat) (b : PB) (p : PS) (hP : PoolAt w B b N c p) (hG : Good p) (hN : N < 1000000) (k : Int) (h1 : 0 ≤ k) (h2 : k ≤ 9223372036854775807) (hk : whereOf p.L k = none)
    (A2 : Option Addr) (c2 : Nat) (l : List UInt8) (hr : BRow w A2 l) (hl : l.length ≤ 1000000) (hfar2 : l ≠ [] → ∀ a, A2 = some a → ¬ b.own a.block) :
    Calls Tryz.prog 138 #[.pointer (some ⟨b.gp, 0, none⟩), .int .i64 k, .slice A2 l.length c2] w fun e w' =>
      e = .returned (.int .i64 (p.place.2.L.getD p.place.1 fr0).page) ∧ (∃ A' c', PoolAt w' B b (N + 1) c { p.place.2 with L := p.place.2.L.set p.place.1 ⟨k, true, l, A', c'⟩ } ∧ ∀ a, A' = some a → w.heap.size ≤ a.block) ∧ Keeps w w' b.own := by
  have hn0 := hG.n0
  have hn1 := hG.n1
  have c2' : w.cell? ⟨b.gp, 2, none⟩ = some (.map (some b.gm)) := by rw [cell_of_row w _ 2 _ _ _ hP.head]; rfl
  have hk0 : ¬ k < 0 := by omega
  have hks : -9223372036854775808 ≤ k := by omega
  have hpl := place_any w B N c b p hP hn1 hn0 hG.hand
  obtain ⟨hal, hq, _⟩ := place_ok hG
  have hG1 := hG.place
  have hk1 : whereOf p.place.2.L k = none := by rw [hal.where_eq]; exact hk
  rw [← hal.1] at hq
  generalize p.place = q0 at hpl hal hq hG1 hk1
  obtain ⟨q, p1⟩ := q0
  simp only at hpl hal hq hG1 hk1
  rw [mod_nat_cell hq]
  have hpg := hG1.pages p1.L[q] (List.getElem_mem hq)
  have HPL := Lib.hid hpl
  have HP := Lib.hid hP
  have HR := Lib.hid hr
  have HK := Lib.hid hk
  have HK1 := Lib.hid hk1
  have hm1 := hG1.n1
  have hm0 := hG1.n0
  clear hP hk hr hpl hk1 hal
  go_enter Tryz.func138, Tryz.ntmps138
  go_wp2_with (at_lookup; refine wpList_pool_lookup rfl (.tmp 20) (.tmp 21) rfl rfl HP.out.map k rfl hks h2 (zero_int w) ?_; rw [HK.out]; simp only [Option.getD_none, Option.isSome_none])
  refine HPL.out.mono ?_
  rintro e w1 ⟨rfl, hP1, hK1⟩
  have hqi : (q : Int) < (p1.L.length : Int) := by omega
  have c0 : w1.cell? ⟨b.gp, 0, none⟩ = some (.slice (some ⟨b.gf, 0, none⟩) p1.L.length c) := by rw [cell_of_row _ _ 0 _ _ _ hP1.head]; rfl
  have c2 : w1.cell? ⟨b.gp, 2, none⟩ = some (.map (some b.gm)) := by rw [cell_of_row _ _ 2 _ _ _ hP1.head]; rfl
  obtain ⟨d0, -, -⟩ := hP1.frames.cell hq
  have hr1 := HR.out.kept0 hK1 hfar2
  have HK1' := Lib.hid hK1
  have HP1 := Lib.hid hP1
  have HR1 := Lib.hid hr1
  clear hP1 hK1 hr1
  by_cases hpos : 0 ≤ p1.L[q].page
  · have hhi : p1.L[q].page ≤ 9223372036854775807 := by omega
    have hlo : -9223372036854775808 ≤ p1.L[q].page := by omega
    go_wp2_with (first | (at_delete; refine wpList_pool_delete rfl (.tmp 42) (.tmp 43) rfl rfl HP1.out.map _ rfl hlo hhi ?_; intro w2 hm2 hg2; have hX2 := HP1.out.toF.turn hm0 hm2 hg2; have HX2 := Lib.hid hX2; have HG2 := Lib.hid hg2; have c22 : w2.cell? ⟨b.gp, 2, none⟩ = some (.map (some b.gm)) := (by rw [cell_of_row _ _ 2 _ _ _ hX2.head]; rfl); clear hX2 hm2 hg2) | (at_mapUpdate; refine wpList_pool_update rfl (.tmp 47) (.tmp 48) (.tmp 49) rfl rfl HX2.out.map hN k rfl hks h2 q rfl (by omega) ?_; intro w3 hm3 hg3; have hX3 := HX2.out.turn hm0 hm3 hg3; have HX := Lib.hid hX3; have HG3 := Lib.hid hg3; clear hX3 hm3 hg3))
    have HRX : Hid (BRow w3 A2 l) := HR1.out.kept0 (((Keeps.refl w1 b.own).grown HG2.out (.inr (.inr rfl))).grown HG3.out (.inr (.inr rfl))) hfar2
    have HKX : Hid (Keeps w w3 b.own) := (HK1'.out.grown HG2.out (.inr (.inr rfl))).grown HG3.out (.inr (.inr rfl))
    clear c0 c2 c22 d0
    apply wp_region_last (n := 10) (PutR b p1 c q k A2 c2 l w3) (fun w' => Below (w3).heap.size w3 w') (fun w w' => Below w.heap.size w w')
    case hG => (intro v; simp only [regFrame, List.zipIdx_cons, List.zipIdx_nil, List.foldl_cons, List.foldl_nil, Act.put, List.setIfInBounds_toArray, List.set_cons_zero, List.set_cons_succ, Nat.reduceAdd]; rfl)
    case hm => kernel_rfl
    case honce => rfl
    case hlow => kernel_rfl
    case hall => kernel_rfl
    case hn => rfl
    case ho => rfl
    case hog => rfl
    case hod => rfl
    case hR => exact fun i x w w' hb h => h.below hb
    case hW => exact fun w w' h hb => h.trans (hb.mono h.size)
    case h0 => exact (Below.refl _ _).drew
    case hstep =>
      refine ⟨?_, ?_, ?_, ?_, ?_, ?_, ?_, ?_, ?_, ?_, trivial⟩ <;> (intro v w1 hI hd; simp only [Deps, Region.binds, ↓reduceIte, PutR, and_true] at hd)
      · exact opDoes_move _ rfl rfl ⟨Below.refl _ _, rfl⟩
      · refine opDoes_run (x := .pointer (some ⟨b.gp, 0, none⟩)) rfl ?_ ⟨Below.refl _ _, rfl⟩
        go_simp
      · refine opDoes_run (x := .pointer (some ⟨b.gp, 0, none⟩)) rfl ?_ ⟨Below.refl _ _, rfl⟩
        go_simp
      · have c0 : w1.cell? ⟨b.gp, 0, none⟩ = some (.slice (some ⟨b.gf, 0, none⟩) (p1).L.length c) := by rw [hI.cell (p := ⟨b.gp, 0, none⟩) (Array.getElem?_eq_some_iff.1 HX.out.head).1, cell_of_row _ _ 0 _ _ _ HX.out.head]; rfl
        refine opDoes_run (x := .slice (some ⟨b.gf, 0, none⟩) (p1).L.length c) rfl ?_ ⟨Below.refl _ _, rfl⟩
        go_simp
      · exact opDoes_move _ rfl rfl ⟨Below.refl _ _, rfl⟩
      · exact opDoes_move _ rfl rfl ⟨Below.refl _ _, rfl⟩
      · exact opDoes_move _ rfl rfl ⟨Below.refl _ _, rfl⟩
      · refine opDoes_call _ _ _ #[.slice A2 l.length c2] rfl rfl (by go_simp) (Tryz.call87 _ _) ?_
        refine (clone_any w1 A2 c2 l (HRX.out.below hI) hl).mono fun e w2 ⟨A', c', he, ho, hb⟩ => ⟨_, he, hb, A', c', rfl, BRowU.own ho, fun a ha => Nat.le_trans hI.size (ho.block a ha).1⟩
      · obtain ⟨h55, A', c', h57, hbr, hfa⟩ := hd
        refine opDoes_run (x := .agg #[.int .i64 k, .bool true, .slice A' l.length c']) rfl ?_ ⟨Below.refl _ _, A', c', rfl, hbr, hfa⟩
        clear hfa hbr
        go_simp
      · refine opDoes_run (x := .pointer (some ⟨b.gf, q * 3, none⟩)) rfl ?_ ⟨Below.refl _ _, rfl⟩
        go_simp
    case hend =>
      intro v w1 hI h
      simp only [List.take, AllOps, Nat.zero_add, Nat.reduceAdd, and_true, PutR] at h
      obtain ⟨-, -, -, -, -, -, -, -, ⟨A', c', h8, hbr, hfa⟩, h9⟩ := h
      have hF := HX.out.below hI
      obtain ⟨d0, d1, d2⟩ := hF.frames.cell (hq)
      have g0 : w1.frozen? ⟨b.gf, q * 3, none⟩ = false := hF.frames.free _
      have g1 : w1.frozen? ⟨b.gf, q * 3 + 1, none⟩ = false := hF.frames.free _
      have g2 : w1.frozen? ⟨b.gf, q * 3 + 2, none⟩ = false := hF.frames.free _
      have hfar : ∀ a, A' = some a → ¬ b.own a.block := fun a ha ho => by
        have q1 := hfa a ha
        have q2 := HX.out.lt (by omega) _ ho
        omega
      have hS := hF.store hq ⟨k, true, l, A', c'⟩ hbr hfar
      have hK : Keeps w3 (((w1.setCell ⟨b.gf, q * 3, none⟩ (.int .i64 k)).setCell ⟨b.gf, q * 3 + 1, none⟩ (.bool true)).setCell ⟨b.gf, q * 3 + 2, none⟩ (.slice A' l.length c')) b.own :=
        (((Keeps.of_below hI).set ⟨b.gf, q * 3, none⟩ (.inl (.inr (.inl rfl))) _).set ⟨b.gf, q * 3 + 1, none⟩ (.inl (.inr (.inl rfl))) _).set ⟨b.gf, q * 3 + 2, none⟩ (.inl (.inr (.inl rfl))) _
      have HS := Lib.hid (And.intro hS hK)
      have HFA := Lib.hid hfa
      clear hS hK hfar hfa hbr hF hI
      refine ⟨(((w1.setCell ⟨b.gf, q * 3, none⟩ (.int .i64 k)).setCell ⟨b.gf, q * 3 + 1, none⟩ (.bool true)).setCell ⟨b.gf, q * 3 + 2, none⟩ (.slice A' l.length c')), ?_, ?_⟩
      · simp only [execOp]
        go_simp
      · have HS' := HS
        rw [h8, h9]
        clear h8 h9 d0 d1 d2 g0 g1 g2 HS
        go_wp2_with fail
        go_ret
        have HS := HS'
        exact ⟨rfl, ⟨A', ⟨c', HS.out.1.toAt (where_miss hG1.once h1 HK1.out hq _ rfl).symm⟩, fun a ha => Nat.le_trans HKX.out.size (HFA.out a ha)⟩, HKX.out.trans HS.out.2⟩
  · have hneg : p1.L[q].page = -1 := by omega
    have HNEG := Lib.hid hneg
    clear hneg
    go_wp2_with (at_mapUpdate; refine wpList_pool_update rfl (.tmp 47) (.tmp 48) (.tmp 49) rfl rfl HP1.out.map hN k rfl hks h2 q rfl (by omega) ?_; intro w3 hm3 hg3; have hX3 := HP1.out.toF.turn hm0 hm3 hg3; have HX := Lib.hid hX3; have HG3 := Lib.hid hg3; clear hX3 hm3 hg3)
    have HRX : Hid (BRow w3 A2 l) := HR1.out.kept0 ((Keeps.refl w1 b.own).grown HG3.out (.inr (.inr rfl))) hfar2
    have HKX : Hid (Keeps w w3 b.own) := HK1'.out.grown HG3.out (.inr (.inr rfl))
    clear c0 c2 d0
    apply wp_region_last (n := 10) (PutR b p1 c q k A2 c2 l w3) (fun w' => Below (w3).heap.size w3 w') (fun w w' => Below w.heap.size w w')
    case hG => (intro v; simp only [regFrame, List.zipIdx_cons, List.zipIdx_nil, List.foldl_cons, List.foldl_nil, Act.put, List.setIfInBounds_toArray, List.set_cons_zero, List.set_cons_succ, Nat.reduceAdd]; rfl)
    case hm => kernel_rfl
    case honce => rfl
    case hlow => kernel_rfl
    case hall => kernel_rfl
    case hn => rfl
    case ho => rfl
    case hog => rfl
    case hod => rfl
    case hR => exact fun i x w w' hb h => h.below hb
    case hW => exact fun w w' h hb => h.trans (hb.mono h.size)
    case h0 => exact (Below.refl _ _).drew
    case hstep =>
      refine ⟨?_, ?_, ?_, ?_, ?_, ?_, ?_, ?_, ?_, ?_, trivial⟩ <;> (intro v w1 hI hd; simp only [Deps, Region.binds, ↓reduceIte, PutR, and_true] at hd)
      · exact opDoes_move _ rfl rfl ⟨Below.refl _ _, rfl⟩
      · refine opDoes_run (x := .pointer (some ⟨b.gp, 0, none⟩)) rfl ?_ ⟨Below.refl _ _, rfl⟩
        go_simp
      · refine opDoes_run (x := .pointer (some ⟨b.gp, 0, none⟩)) rfl ?_ ⟨Below.refl _ _, rfl⟩
        go_simp
      · have c0 : w1.cell? ⟨b.gp, 0, none⟩ = some (.slice (some ⟨b.gf, 0, none⟩) (p1).L.length c) := by rw [hI.cell (p := ⟨b.gp, 0, none⟩) (Array.getElem?_eq_some_iff.1 HX.out.head).1, cell_of_row _ _ 0 _ _ _ HX.out.head]; rfl
        refine opDoes_run (x := .slice (some ⟨b.gf, 0, none⟩) (p1).L.length c) rfl ?_ ⟨Below.refl _ _, rfl⟩
        go_simp
      · exact opDoes_move _ rfl rfl ⟨Below.refl _ _, rfl⟩
      · exact opDoes_move _ rfl rfl ⟨Below.refl _ _, rfl⟩
      · exact opDoes_move _ rfl rfl ⟨Below.refl _ _, rfl⟩
      · refine opDoes_call _ _ _ #[.slice A2 l.length c2] rfl rfl (by go_simp) (Tryz.call87 _ _) ?_
        refine (clone_any w1 A2 c2 l (HRX.out.below hI) hl).mono fun e w2 ⟨A', c', he, ho, hb⟩ => ⟨_, he, hb, A', c', rfl, BRowU.own ho, fun a ha => Nat.le_trans hI.size (ho.block a ha).1⟩
      · obtain ⟨h55, A', c', h57, hbr, hfa⟩ := hd
        refine opDoes_run (x := .agg #[.int .i64 k, .bool true, .slice A' l.length c']) rfl ?_ ⟨Below.refl _ _, A', c', rfl, hbr, hfa⟩
        clear hfa hbr
        go_simp
      · refine opDoes_run (x := .pointer (some ⟨b.gf, q * 3, none⟩)) rfl ?_ ⟨Below.refl _ _, rfl⟩
        go_simp
    case hend =>
      intro v w1 hI h
      simp only [List.take, AllOps, Nat.zero_add, Nat.reduceAdd, and_true, PutR] at h
      obtain ⟨-, -, -, -, -, -, -, -, ⟨A', c', h8, hbr, hfa⟩, h9⟩ := h
      have hF := HX.out.below hI
      obtain ⟨d0, d1, d2⟩ := hF.frames.cell (hq)
      have g0 : w1.frozen? ⟨b.gf, q * 3, none⟩ = false := hF.frames.free _
      have g1 : w1.frozen? ⟨b.gf, q * 3 + 1, none⟩ = false := hF.frames.free _
      have g2 : w1.frozen? ⟨b.gf, q * 3 + 2, none⟩ = false := hF.frames.free _
      have hfar : ∀ a, A' = some a → ¬ b.own a.block := fun a ha ho => by
        have q1 := hfa a ha
        have q2 := HX.out.lt (by omega) _ ho
        omega
      have hS := hF.store hq ⟨k, true, l, A', c'⟩ hbr hfar
      have hK : Keeps w3 (((w1.setCell ⟨b.gf, q * 3, none⟩ (.int .i64 k)).setCell ⟨b.gf, q * 3 + 1, none⟩ (.bool true)).setCell ⟨b.gf, q * 3 + 2, none⟩ (.slice A' l.length c')) b.own :=
        (((Keeps.of_below hI).set ⟨b.gf, q * 3, none⟩ (.inl (.inr (.inl rfl))) _).set ⟨b.gf, q * 3 + 1, none⟩ (.inl (.inr (.inl rfl))) _).set ⟨b.gf, q * 3 + 2, none⟩ (.inl (.inr (.inl rfl))) _
      have HS := Lib.hid (And.intro hS hK)
      have HFA := Lib.hid hfa
      clear hS hK hfar hfa hbr hF hI
      refine ⟨(((w1.setCell ⟨b.gf, q * 3, none⟩ (.int .i64 k)).setCell ⟨b.gf, q * 3 + 1, none⟩ (.bool true)).setCell ⟨b.gf, q * 3 + 2, none⟩ (.slice A' l.length c')), ?_, ?_⟩
      · simp only [execOp]
        go_simp
      · have HS' := HS
        rw [h8, h9]
        clear h8 h9 d0 d1 d2 g0 g1 g2 HS
        go_wp2_with fail
        go_ret
        have HS := HS'
        exact ⟨rfl, ⟨A', ⟨c', HS.out.1.toAt (where_neg_eq hG1.once h1 HK1.out hq (HNEG.out ▸ (by decide)) _ rfl).symm⟩, fun a ha => Nat.le_trans HKX.out.size (HFA.out a ha)⟩, HKX.out.trans HS.out.2⟩
end Go.Proofs.YtcfoihihinijlaaGreat
end

section
namespace Go.Proofs.YtcfoihihinijlaaGreat
set_option linter.unusedSimpArgs false
set_option linter.unusedVariables false
open Go.RowKit
def eInt : Elem Int where
  e := 3
  t := 37
  sz := 1
  bytes := 8
  zero := .int .i64 0
  code := fun n => [.int .i64 n]
  pos := by decide
  few := by decide
  len := fun _ => rfl
  one := by
    intro x u hu
    simp at hu
    subst hu
    rfl
  zsz := rfl
  info := by kernel_rfl
  under := Tryz.underlying37
end Go.Proofs.YtcfoihihinijlaaGreat
end

section
namespace Go.Proofs.YtcfoihihinijlaaGreat
set_option linter.unusedSimpArgs false
set_option linter.unusedVariables false
open Go.RowKit Go.Maps
set_option maxRecDepth 20000 in
set_option maxHeartbeats 1000000 in
theorem drop_miss (w : World) (B N c : Nat) (b : PB) (p : PS) (hP : PoolAt w B b N c p) (k : Int) (h1 : -9223372036854775808 ≤ k) (h2 : k ≤ 9223372036854775807) (hk : whereOf p.L k = none) :
    Calls Tryz.prog 62 #[.pointer (some ⟨b.gp, 0, none⟩), .int .i64 k] w fun e w' => e = .returned (.bool false) ∧ w = w' := by
  have c2 : w.cell? ⟨b.gp, 2, none⟩ = some (.map (some b.gm)) := by rw [cell_of_row w _ 2 _ _ _ hP.head]; rfl
  have HP := Lib.hid hP
  have HK := Lib.hid hk
  clear hP hk
  go_enter Tryz.func62, Tryz.ntmps62
  go_wp2_with (at_lookup; refine wpList_pool_lookup rfl (.tmp 13) (.tmp 14) rfl rfl HP.out.map k rfl h1 h2 (zero_int w) ?_; rw [HK.out]; simp only [Option.getD_none, Option.isSome_none])
  go_ret
  exact ⟨rfl, rfl⟩
set_option maxRecDepth 20000 in
set_option maxHeartbeats 1000000 in
theorem drop_hit (w : World) (B N c : Nat) (b : PB) (p : PS) (hP : PoolAt w B b N c p) (hG : Good p) (k : Int) (h1 : -9223372036854775808 ≤ k) (h2 : k ≤ 9223372036854775807) (i : Nat) (hk : whereOf p.L k = some i) :
    Calls Tryz.prog 62 #[.pointer (some ⟨b.gp, 0, none⟩), .int .i64 k] w fun e w' => e = .returned (.bool true) ∧ PoolAt w' B b N c { p with L := p.L.set i fr0 } ∧ Keeps w w' b.own := by
  obtain ⟨hi, hpk, hk0⟩ := where_some hk
  have hn0 := hG.n0
  have hn1 := hG.n1
  have c0 : w.cell? ⟨b.gp, 0, none⟩ = some (.slice (some ⟨b.gf, 0, none⟩) p.L.length c) := by rw [cell_of_row w _ 0 _ _ _ hP.head]; rfl
  have c2 : w.cell? ⟨b.gp, 2, none⟩ = some (.map (some b.gm)) := by rw [cell_of_row w _ 2 _ _ _ hP.head]; rfl
  have hii : (i : Int) < (p.L.length : Int) := by omega
  have hne := hP.ne hn0
  obtain ⟨d0, d1, d2⟩ := hP.frames.cell hi
  have g0 : w.frozen? ⟨b.gf, i * 3, none⟩ = false := hP.frames.free _
  have g1 : w.frozen? ⟨b.gf, i * 3 + 1, none⟩ = false := hP.frames.free _
  have g2 : w.frozen? ⟨b.gf, i * 3 + 2, none⟩ = false := hP.frames.free _
  have hS := hP.toF.store hi fr0 BRowU.nil (fun a ha => by cases ha)
  have hK : Keeps w (((w.setCell ⟨b.gf, i * 3, none⟩ (.int .i64 (-1))).setCell ⟨b.gf, i * 3 + 1, none⟩ (.bool false)).setCell ⟨b.gf, i * 3 + 2, none⟩ (.slice none 0 0)) b.own :=
    (((Keeps.refl w _).set ⟨b.gf, i * 3, none⟩ (.inl (.inr (.inl rfl))) _).set ⟨b.gf, i * 3 + 1, none⟩ (.inl (.inr (.inl rfl))) _).set ⟨b.gf, i * 3 + 2, none⟩ (.inl (.inr (.inl rfl))) _
  have hnf : b.gp ≠ b.gf := hne.1
  have hm0 : 0 < (p.L.set i fr0).length := by simpa using hn0
  have HS := Lib.hid (And.intro hS hK)
  have HP := Lib.hid hP
  have HK := Lib.hid hk
  have HPK := Lib.hid hpk
  clear hP hk hS hK hpk hne
  go_enter Tryz.func62, Tryz.ntmps62
  go_wp2_with (first | (at_lookup; refine wpList_pool_lookup rfl (.tmp 13) (.tmp 14) rfl rfl HP.out.map k rfl h1 h2 (zero_int w) ?_; rw [HK.out]; simp only [Option.getD_some, Option.isSome_some]) | (at_delete; refine wpList_pool_delete rfl (.tmp 29) (.tmp 30) rfl rfl HS.out.1.map _ rfl h1 h2 ?_; intro w2 hm2 hg2))
  go_ret
  refine ⟨rfl, (HS.out.1.turn hm0 hm2 hg2).toAt ?_, HS.out.2.grown hg2 (.inr (.inr rfl))⟩
  funext j
  show _ = whereOf (p.L.set i fr0) j
  rw [where_set hG.once hi fr0 (fun h => absurd h (by simp [fr0])) j, HPK.out, if_neg (fun h : 0 ≤ j ∧ j = fr0.page => by have h1 := h.1; have h2 := h.2; simp only [fr0] at h2; omega)]
end Go.Proofs.YtcfoihihinijlaaGreat
end

section
namespace Go.Proofs.YtcfoihihinijlaaGreat
set_option linter.unusedSimpArgs false
set_option linter.unusedVariables false
open Go.RowKit Go.Maps
def Fr.bare (f : Fr) : Fr := { f with A := none, c := 0 }
def PS.bare (p : PS) : PS := { p with L := p.L.map Fr.bare }
theorem bare_where (L : List Fr) : whereOf (L.map Fr.bare) = whereOf L := by
  funext k
  unfold whereOf
  rw [List.findIdx?_map]
  rfl
theorem bare_first : ∀ (L : List Fr) (i : Nat), firstEmpty (L.map Fr.bare) i = firstEmpty L i
  | [], _ => rfl
  | f :: L, i => by
    show (if f.page < 0 then _ else firstEmpty (L.map Fr.bare) (i + 1)) = if f.page < 0 then _ else firstEmpty L (i + 1)
    rw [bare_first L (i + 1)]
theorem bare_marked (L : List Fr) : marked (L.map Fr.bare) = marked L := by
  unfold marked
  rw [List.filter_map, List.length_map]
  rfl
theorem bare_sweep : ∀ (f : Nat) (L : List Fr) (h : Nat), sweep f (L.map Fr.bare) h = ((sweep f L h).1, (sweep f L h).2.1.map Fr.bare, (sweep f L h).2.2)
  | 0, L, h => rfl
  | f + 1, L, h => by
    unfold sweep
    by_cases hh : h < L.length
    · rw [dif_pos hh, dif_pos (by simpa using hh)]
      have hm : ((L.map Fr.bare)[h]'(by simpa using hh)).mark = L[h].mark := by rw [List.getElem_map]; rfl
      rw [hm]
      by_cases hb : L[h].mark = true
      · rw [if_pos hb, if_pos hb]
        have := bare_sweep f (L.set h { L[h] with mark := false }) ((h + 1) % L.length)
        rw [List.map_set] at this
        have e : (L.map Fr.bare).set h { ((L.map Fr.bare)[h]'(by simpa using hh)) with mark := false } = (L.map Fr.bare).set h (Fr.bare { L[h] with mark := false }) := by
          rw [List.getElem_map]; rfl
        rw [e, List.length_map, this]
      · rw [if_neg hb, if_neg hb, List.length_map]
    · rw [dif_neg hh, dif_neg (by simpa using hh)]
theorem bare_place (p : PS) : p.bare.place = (p.place.1, p.place.2.bare) := by
  unfold PS.place PS.bare
  simp only [bare_first, bare_marked, bare_sweep]
  split <;> rfl
theorem bare_put (p : PS) (k : Int) (f : Fr) : p.bare.put k f.bare = ((p.put k f).1, (p.put k f).2.bare) := by
  unfold PS.put
  have e : whereOf p.bare.L k = whereOf p.L k := by show whereOf (p.L.map Fr.bare) k = _; rw [bare_where]
  rw [e]
  split
  · simp only [PS.bare, List.map_set]
  · rw [bare_place]
    simp only [PS.bare, List.map_set, Prod.mk.injEq, and_true]
    rw [List.getD_eq_getElem?_getD, List.getD_eq_getElem?_getD, List.getElem?_map]
    cases p.place.2.L[p.place.1]? <;> rfl
def PoolOf (w : World) (B : Nat) (b : PB) (N : Nat) (q : PS) : Prop :=
  ∃ p c, p.bare = q ∧ PoolAt w B b N c p ∧ Good p ∧ 0 ≤ p.hits ∧ 0 ≤ p.misses ∧ p.hits ≤ N ∧ p.misses ≤ N
section
variable {w w' : World} {B N : Nat} {b : PB} {q : PS}
theorem PoolAt.more {c : Nat} {p : PS} (h : PoolAt w B b N c p) : PoolAt w B b (N + 1) c p := by
  refine ⟨h.lp, h.lf, h.lm, h.head, h.frames, ?_, h.bytes, h.far⟩
  obtain ⟨D, ⟨es, clock, h1, h2, h3, h4⟩, r⟩ := h.map
  exact ⟨D, ⟨es, clock, h1, h2, by omega, h4⟩, r⟩
theorem PoolAt.kept {c : Nat} {p : PS} {S : Nat → Prop} (h : PoolAt w B b N c p) (h0 : 0 < p.L.length) (hk : Keeps w w' S) (hS : ∀ k, b.own k → ¬ S k) (hf : ∀ f ∈ p.L, ∀ a, f.A = some a → ¬ S a.block) : PoolAt w' B b N c p := by
  have hlt := h.toF.lt h0
  have e : ∀ k, b.own k → w'.heap[k]? = w.heap[k]? := fun k hk' => hk.block k (hlt k hk') (hS k hk')
  refine ⟨h.lp, h.lf, h.lm, (e _ (.inl rfl)).trans h.head, ?_, ?_, fun f hf' => (h.bytes f hf').kept hk (hf f hf'), h.far⟩
  · refine ⟨h.frames.1, ?_⟩
    rcases h.frames.2 with h2 | ⟨g, cap, cur, hv, hb, hg, r⟩
    · exact .inl h2
    · refine .inr ⟨g, cap, cur, hv, hb, ?_, r⟩
      simp only [Value.slice.injEq, Option.some.injEq, Addr.mk.injEq] at hv
      obtain ⟨⟨rfl, _⟩, _⟩ := hv
      exact (e _ (.inr (.inl rfl))).trans hg
  · obtain ⟨D, ⟨es, clock, h1, r⟩, r2⟩ := h.map
    exact ⟨D, ⟨es, clock, (e _ (.inr (.inr rfl))).trans h1, r⟩, r2⟩
theorem PoolOf.below (h : PoolOf w B b N q) (hb : Below w.heap.size w w') : PoolOf w' B b N q := by
  obtain ⟨p, c, e, h1, r⟩ := h
  exact ⟨p, c, e, h1.below hb, r⟩
theorem PoolOf.lt (h : PoolOf w B b N q) : ∀ k, b.own k → B ≤ k ∧ k < w.heap.size := by
  obtain ⟨p, c, e, h1, h2, r⟩ := h
  intro k hk
  refine ⟨?_, h1.toF.lt h2.n0 k hk⟩
  rcases hk with rfl | rfl | rfl
  · exact h1.lp
  · exact h1.lf
  · exact h1.lm
theorem PoolOf.good (h : PoolOf w B b N q) : Good q := by
  obtain ⟨p, c, rfl, h1, h2, r⟩ := h
  have hal : Alike p.L p.bare.L ∨ True := .inr trivial
  have hm : ∀ f ∈ p.bare.L, ∃ g ∈ p.L, f.page = g.page ∧ f.s = g.s := by
    intro f hf
    obtain ⟨g, hg, rfl⟩ := List.mem_map.1 hf
    exact ⟨g, hg, rfl, rfl⟩
  have hlen : p.bare.L.length = p.L.length := by simp [PS.bare]
  refine ⟨fun i j hi hj h0 he => ?_, fun f hf => ?_, by rw [hlen]; exact h2.n0, by rw [hlen]; exact h2.n1, by rw [hlen]; exact h2.hand, fun f hf => ?_⟩
  · simp only [PS.bare, List.getElem_map] at h0 he
    exact h2.once i j (by simpa [PS.bare] using hi) (by simpa [PS.bare] using hj) h0 he
  · obtain ⟨g, hg, e, _⟩ := hm f hf
    rw [e]; exact h2.pages g hg
  · obtain ⟨g, hg, _, e⟩ := hm f hf
    rw [e]; exact h2.bytes g hg
end
def PS.get (p : PS) (k : Int) : Option (List UInt8) × PS :=
  match whereOf p.L k with
  | some i => (some (p.L.getD i fr0).s, { p with hits := p.hits + 1, L := p.L.set i { p.L.getD i fr0 with mark := true } })
  | none => (none, { p with misses := p.misses + 1 })
def PS.drop (p : PS) (k : Int) : Bool × PS :=
  match whereOf p.L k with
  | some i => (true, { p with L := p.L.set i fr0 })
  | none => (false, p)
theorem bare_get (p : PS) (k : Int) : p.bare.get k = ((p.get k).1, (p.get k).2.bare) := by
  unfold PS.get
  have e : whereOf p.bare.L k = whereOf p.L k := by show whereOf (p.L.map Fr.bare) k = _; rw [bare_where]
  rw [e]
  split
  · rename_i i _
    have e2 : p.bare.L.getD i fr0 = (p.L.getD i fr0).bare := by
      simp only [PS.bare]
      rw [List.getD_eq_getElem?_getD, List.getD_eq_getElem?_getD, List.getElem?_map]
      cases p.L[i]? <;> rfl
    rw [e2]
    simp only [PS.bare, List.map_set]
    rfl
  · rfl
theorem bare_drop (p : PS) (k : Int) : p.bare.drop k = ((p.drop k).1, (p.drop k).2.bare) := by
  unfold PS.drop
  have e : whereOf p.bare.L k = whereOf p.L k := by show whereOf (p.L.map Fr.bare) k = _; rw [bare_where]
  rw [e]
  split
  · simp only [PS.bare, List.map_set]
    rfl
  · rfl
theorem bare_new (n : Nat) : (PS.new n).bare = PS.new n := by simp [PS.new, PS.bare, fr0, Fr.bare]
theorem Good.new (n : Nat) (h0 : 0 < n) (hn : n ≤ 64) : Good (PS.new n) := by
  refine ⟨fun i j hi hj h _ => ?_, fun f hf => .inl ?_, by simpa [PS.new] using h0, by simpa [PS.new] using hn, by simpa [PS.new] using h0, fun f hf => ?_⟩
  · simp [PS.new, fr0] at h
  · rw [List.eq_of_mem_replicate hf]; rfl
  · rw [List.eq_of_mem_replicate hf]; simp [fr0]
theorem new_of (w : World) (n : Nat) (h0 : 0 < n) (hn : n ≤ 64) :
    Calls Tryz.prog 67 #[.int .i64 n] w fun e w' => ∃ b : PB, e = .returned (.tuple #[.pointer (some ⟨b.gp, 0, none⟩), .int .i64 0]) ∧ PoolOf w' w.heap.size b 0 (PS.new n) ∧ Below w.heap.size w w' :=
  (new_any w n h0 hn).mono fun e w' ⟨b, c, he, hp, hb⟩ => ⟨b, he, ⟨PS.new n, c, bare_new n, hp, Good.new n h0 hn, by simp [PS.new], by simp [PS.new], by simp [PS.new], by simp [PS.new]⟩, hb⟩
def PoolX (X : Nat → Prop) (w : World) (B : Nat) (b : PB) (N : Nat) (q : PS) : Prop :=
  ∃ p c, p.bare = q ∧ PoolAt w B b N c p ∧ Good p ∧ (0 ≤ p.hits ∧ 0 ≤ p.misses ∧ p.hits ≤ N ∧ p.misses ≤ N) ∧ ∀ f ∈ p.L, f.s ≠ [] → ∀ a, f.A = some a → ¬ X a.block
theorem PoolX.toOf {X : Nat → Prop} {w : World} {B N : Nat} {b : PB} {q : PS} (h : PoolX X w B b N q) : PoolOf w B b N q := by
  obtain ⟨p, c, h1, h2, h3, h4, _⟩ := h
  exact ⟨p, c, h1, h2, h3, h4⟩
theorem PoolX.below {X : Nat → Prop} {w w' : World} {B N : Nat} {b : PB} {q : PS} (h : PoolX X w B b N q) (hb : Below w.heap.size w w') : PoolX X w' B b N q := by
  obtain ⟨p, c, e, h1, r⟩ := h
  exact ⟨p, c, e, h1.below hb, r⟩
def PutX (X : Nat → Prop) (w : World) (B : Nat) (b : PB) (N : Nat) (q : PS) (k : Int) (l : List UInt8) (e : Ending) (w' : World) : Prop :=
  e = .returned (.int .i64 (q.put k ⟨k, true, l, none, 0⟩).1) ∧ PoolX X w' B b (N + 1) (q.put k ⟨k, true, l, none, 0⟩).2 ∧ Keeps w w' b.own
theorem put_x (X : Nat → Prop) (w : World) (B N : Nat) (b : PB) (q : PS) (hP : PoolX X w B b N q) (hX : ∀ k, X k → k < w.heap.size) (hN : N < 1000000) (k : Int) (h1 : 0 ≤ k) (h2 : k ≤ 9223372036854775807)
    (A2 : Option Addr) (c2 : Nat) (l : List UInt8) (hr : BRow w A2 l) (hl : l.length ≤ 1000000) (hfar2 : l ≠ [] → ∀ a, A2 = some a → ¬ b.own a.block) :
    Calls Tryz.prog 138 #[.pointer (some ⟨b.gp, 0, none⟩), .int .i64 k, .slice A2 l.length c2] w (PutX X w B b N q k l) := by
  obtain ⟨p, c, rfl, hA, hG, ⟨g1, g2, g3, g4⟩, hfx⟩ := hP
  have hb : ∀ A' c', p.bare.put k ⟨k, true, l, none, 0⟩ = ((p.put k ⟨k, true, l, A', c'⟩).1, (p.put k ⟨k, true, l, A', c'⟩).2.bare) := fun A' c' => bare_put p k ⟨k, true, l, A', c'⟩
  cases hk : whereOf p.L k with
  | some i =>
    refine (put_hit w B N c b p hA hG k h1 h2 i hk A2 c2 l hr hl).mono fun e w' ⟨he, ⟨A', c', hp, hfa⟩, hK⟩ => ?_
    have e1 : p.put k ⟨k, true, l, A', c'⟩ = (-1, { p with L := p.L.set i ⟨k, true, l, A', c'⟩ }) := by unfold PS.put; rw [hk]
    have hg := hG.put h1 h2 ⟨k, true, l, A', c'⟩ rfl hl
    unfold PutX
    rw [hb A' c', e1]
    rw [e1] at hg
    refine ⟨he, ⟨_, c, rfl, hp.more, hg, ⟨g1, g2, by simp only; omega, by simp only; omega⟩, fun f hf hs a ha hx => ?_⟩, hK⟩
    rcases List.mem_or_eq_of_mem_set hf with h | h
    · exact hfx f h hs a ha hx
    · subst h
      have := hfa a ha
      have := hX _ hx
      omega
  | none =>
    refine (put_miss w B N c b p hA hG hN k h1 h2 hk A2 c2 l hr hl hfar2).mono fun e w' ⟨he, ⟨A', c', hp, hfa⟩, hK⟩ => ?_
    have e1 : p.put k ⟨k, true, l, A', c'⟩ = ((p.place.2.L.getD p.place.1 fr0).page, { p.place.2 with L := p.place.2.L.set p.place.1 ⟨k, true, l, A', c'⟩ }) := by unfold PS.put; rw [hk]
    have hg := hG.put h1 h2 ⟨k, true, l, A', c'⟩ rfl hl
    obtain ⟨hal, _, _, q1, q2⟩ := place_ok hG
    unfold PutX
    rw [hb A' c', e1]
    rw [e1] at hg
    refine ⟨he, ⟨_, c, rfl, hp, hg, ⟨by simp only; omega, by simp only; omega, by simp only; omega, by simp only; omega⟩, fun f hf hs a ha hx => ?_⟩, hK⟩
    rcases List.mem_or_eq_of_mem_set hf with h | h
    · obtain ⟨f', hf', _, es, eA⟩ := hal.mem h
      exact hfx f' hf' (es ▸ hs) a (eA ▸ ha) hx
    · subst h
      have := hfa a ha
      have := hX _ hx
      omega
end Go.Proofs.YtcfoihihinijlaaGreat
end

section
namespace Go.Proofs.YtcfoihihinijlaaGreat
set_option linter.unusedSimpArgs false
set_option linter.unusedVariables false
open Go.RowKit Go.Maps
end Go.Proofs.YtcfoihihinijlaaGreat
end

section
namespace Go.Proofs.YtcfoihihinijlaaGreat
set_option linter.unusedSimpArgs false
set_option linter.unusedVariables false
open Go.RowKit Go.Maps
end Go.Proofs.YtcfoihihinijlaaGreat
end

section
namespace Go.Proofs.YtcfoihihinijlaaGreat
set_option linter.unusedSimpArgs false
set_option linter.unusedVariables false
open Go.RowKit Go.Maps
end Go.Proofs.YtcfoihihinijlaaGreat
end

section
namespace Go.Proofs.YtcfoihihinijlaaGreat
set_option linter.unusedSimpArgs false
set_option linter.unusedVariables false
open Go.RowKit Go.Maps
end Go.Proofs.YtcfoihihinijlaaGreat
end

section
namespace Go.Proofs.YtcfoihihinijlaaGreat
set_option linter.unusedSimpArgs false
set_option linter.unusedVariables false
open Go.RowKit Go.Maps
theorem EOwn.ne_blk {α : Type} {E : Elem α} {w : World} {B c g : Nat} {A : Option Addr} {L : List α} {T : TypeId} {cs : List Value} (h : EOwn E w B A c L) (hb : Blk w g T cs) (hT : T ≠ E.e) : ∀ a, A = some a → a.block ≠ g := by
  rintro a ha rfl
  rcases h.form with ⟨rfl, _⟩ | ⟨g', rfl, _, _, _, _, cur, hg⟩
  · cases ha
  · obtain rfl := Option.some.inj ha
    rw [hb] at hg
    simp at hg
    exact hT hg.2
theorem map_block_ne {A : Option Addr} {g : Nat} (h : ∀ a, A = some a → a.block ≠ g) : some g ≠ A.map (·.block) := by
  cases A with
  | none => simp
  | some a => simpa using fun e => h a rfl e.symm
end Go.Proofs.YtcfoihihinijlaaGreat
end

section
namespace Go.Proofs.YtcfoihihinijlaaGreat
set_option linter.unusedSimpArgs false
set_option linter.unusedVariables false
open Go.RowKit Go.Deep Go.WideShapes Go.ChangeShapes
end Go.Proofs.YtcfoihihinijlaaGreat
end

section
namespace Go.Proofs.YtcfoihihinijlaaGreat
set_option linter.unusedSimpArgs false
set_option linter.unusedVariables false
open Go.RowKit Go.Maps
theorem PoolOf.counts {w : World} {B N : Nat} {b : PB} {q : PS} (h : PoolOf w B b N q) : (0 ≤ q.hits ∧ q.hits ≤ N) ∧ 0 ≤ q.misses ∧ q.misses ≤ N := by
  obtain ⟨p, c, rfl, _, _, h1, h2, h3, h4⟩ := h
  exact ⟨⟨h1, h3⟩, h2, h4⟩
theorem PoolAt.kept' {w w' : World} {B N c : Nat} {b : PB} {p : PS} {S : Nat → Prop} (h : PoolAt w B b N c p) (h0 : 0 < p.L.length) (hk : Keeps w w' S) (hS : ∀ k, b.own k → ¬ S k) (hf : ∀ f ∈ p.L, BRowU w' f.A f.s) : PoolAt w' B b N c p := by
  have hlt := h.toF.lt h0
  have e : ∀ k, b.own k → w'.heap[k]? = w.heap[k]? := fun k hk' => hk.block k (hlt k hk') (hS k hk')
  refine ⟨h.lp, h.lf, h.lm, (e _ (.inl rfl)).trans h.head, ?_, ?_, hf, h.far⟩
  · refine ⟨h.frames.1, ?_⟩
    rcases h.frames.2 with h2 | ⟨g, cap, cur, hv, hb, hg, r⟩
    · exact .inl h2
    · refine .inr ⟨g, cap, cur, hv, hb, ?_, r⟩
      simp only [Value.slice.injEq, Option.some.injEq, Addr.mk.injEq] at hv
      obtain ⟨⟨rfl, _⟩, _⟩ := hv
      exact (e _ (.inr (.inl rfl))).trans hg
  · obtain ⟨D, ⟨es, clock, h1, r⟩, r2⟩ := h.map
    exact ⟨D, ⟨es, clock, (e _ (.inr (.inr rfl))).trans h1, r⟩, r2⟩
section
variable {w wr w' : World} {B lo g N N' : Nat} {b : PB} {qp qp' qx qx' : PS} {Ax Ax' : Option Addr} {cx cx' : Nat}
end
def PS.putAny (q : PS) (k : Int) (l : List UInt8) : Int × PS := if k < 0 then (-1, q) else q.put k ⟨k, true, l, none, 0⟩
def PutAny (X : Nat → Prop) (w : World) (B : Nat) (b : PB) (N : Nat) (q : PS) (k : Int) (l : List UInt8) (e : Ending) (w' : World) : Prop :=
  e = .returned (.int .i64 (q.putAny k l).1) ∧ PoolX X w' B b (N + 1) (q.putAny k l).2 ∧ Keeps w w' b.own
theorem PoolX.more {X : Nat → Prop} {w : World} {B N : Nat} {b : PB} {q : PS} (h : PoolX X w B b N q) : PoolX X w B b (N + 1) q := by
  obtain ⟨p, c, e, h1, h2, ⟨a1, a2, a3, a4⟩, h4⟩ := h
  exact ⟨p, c, e, h1.more, h2, ⟨a1, a2, by omega, by omega⟩, h4⟩
theorem put_anyx (X : Nat → Prop) (w : World) (B N : Nat) (b : PB) (q : PS) (hP : PoolX X w B b N q) (hX : ∀ k, X k → k < w.heap.size) (hN : N < 1000000) (k : Int) (h2 : k ≤ 9223372036854775807)
    (A2 : Option Addr) (c2 : Nat) (l : List UInt8) (hr : BRow w A2 l) (hl : l.length ≤ 1000000) (hfar2 : l ≠ [] → ∀ a, A2 = some a → ¬ b.own a.block) :
    Calls Tryz.prog 138 #[.pointer (some ⟨b.gp, 0, none⟩), .int .i64 k, .slice A2 l.length c2] w (PutAny X w B b N q k l) := by
  unfold PutAny PS.putAny
  by_cases hk : k < 0
  · rw [if_pos hk]
    obtain ⟨p, c, e, h1, _⟩ := id hP
    exact (put_neg w B N c b p h1 k hk A2 l.length c2).mono fun e w' ⟨he, hw⟩ => ⟨he, hw ▸ hP.more, hw ▸ Keeps.refl _ _⟩
  · rw [if_neg hk]
    exact put_x X w B N b q hP hX hN k (by omega) h2 A2 c2 l hr hl hfar2
end Go.Proofs.YtcfoihihinijlaaGreat
end

section
namespace Go.Proofs.YtcfoihihinijlaaGreat
set_option linter.unusedSimpArgs false
set_option linter.unusedVariables false
namespace Pag
abbrev Pgs := Nat → Option (List UInt8)
def none_ : Pgs := fun _ => none
def put (m : Pgs) (n : Nat) (b : List UInt8) : Pgs := fun i => if i = n then some b else m i
def del (m : Pgs) (n : Nat) : Pgs := fun i => if i = n then none else m i
def keys (m : Pgs) (n : Nat) : List Nat := (List.range n).filter fun i => (m i).isSome
structure MT where
  used : List Bool
  root : List UInt8
def MT.free (pages : Nat) : MT := ⟨List.replicate (pages + 1) false, []⟩
def magic : List UInt8 := [100, 111, 119, 115, 101, 114, 32, 112]
def h32 (log pages : Nat) : List UInt8 := magic ++ Wire.num log ++ Wire.num pages ++ List.replicate (32 - (magic ++ Wire.num log ++ Wire.num pages).length) 0
def label (log pages : Nat) : List UInt8 := h32 log pages ++ h32 log pages ++ List.replicate 448 0
def bits8 (u : List Bool) (i : Nat) : UInt8 := (List.range 8).foldl (fun a k => if u.getD (i * 8 + k) false = true then a ||| UInt8.ofNat (2 ^ k) else a) 0
def encode (m : MT) : List UInt8 := (List.range 256).map (bits8 m.used) ++ (Wire.text m.root ++ List.replicate (256 - (Wire.text m.root).length) 0)
def usedOf (b : List UInt8) (pages : Nat) : List Bool := (List.range (pages + 1)).map fun i => (b.getD (i / 8) 0).toNat / 2 ^ (i % 8) % 2 == 1
def decode (b : List UInt8) (pages : Nat) : MT × Int := (⟨usedOf b pages, (Wire.takeText ⟨b.drop 256, 0⟩ 64).2⟩, (Wire.takeText ⟨b.drop 256, 0⟩ 64).1.e)
def record (m : Pgs) (order : List Nat) : List UInt8 := Wire.num order.length ++ order.flatMap fun n => Wire.num n ++ Wire.text ((m n).getD [])
def redoF (pages : Nat) : Nat → Wire.RS → Pgs → Pgs × Wire.RS × Int
  | 0, r, o => (o, r, (Wire.fin r).e)
  | k + 1, r, o =>
    if (Wire.takeText (Wire.count r pages).1 512).1.e ≠ 0 ∨ (Wire.takeText (Wire.count r pages).1 512).2.length ≠ 512 then (o, (Wire.takeText (Wire.count r pages).1 512).1, 7)
    else redoF pages k (Wire.takeText (Wire.count r pages).1 512).1 (put o (Wire.count r pages).2 (Wire.takeText (Wire.count r pages).1 512).2)
def redo (pages : Nat) (s : List UInt8) (o : Pgs) : Pgs × Int :=
  ((redoF pages (Wire.count ⟨s, 0⟩ 1601).2 (Wire.count ⟨s, 0⟩ 1601).1 o).1, (redoF pages (Wire.count ⟨s, 0⟩ 1601).2 (Wire.count ⟨s, 0⟩ 1601).1 o).2.2)
def redos (pages : Nat) : List (List UInt8) → Pgs → Pgs × Int
  | [], o => (o, 0)
  | s :: L, o => if (redo pages s o).2 ≠ 0 then redo pages s o else redos pages L (redo pages s o).1
structure TX where
  m : MT
  pages : Pgs
  own : Bool
structure PG where
  d : DS
  l : LS
  q : PS
  blocks : Nat
  pages : Nat
  sure : MT
  over : Pgs
  tx : Option TX
  broken : Bool
def most (log : Int) : Int := if log < 3 then 0 else ((min log 4096 - 2) * 512 - 16) / 516
def home (blocks n : Nat) : Nat := 1 + blocks + n
def PG.fail (g : PG) : PG := { g with broken := true, tx := none }
def PG.now (g : PG) : MT := match g.tx with
  | some t => t.m
  | none => g.sure
def PG.has (g : PG) (n : Int) : Int := if g.broken = true then 3 else if n < 1 ∨ (g.pages : Int) < n ∨ g.now.used.getD n.toNat false = false then 2 else 0
def PG.read (g : PG) (n : Nat) : PG × List UInt8 × Int := match g.over n with
  | some b => (g, b, 0)
  | none => match (g.q.get n).1 with
    | some b => ({ g with q := (g.q.get n).2 }, b, 0)
    | none =>
      if g.d.why (home g.blocks n : Nat) ≠ 0 then ({ g with q := (g.q.get n).2 }.fail, [], g.d.why (home g.blocks n : Nat))
      else ({ g with q := ((g.q.get n).2.putAny n (g.d.block (home g.blocks n))).2 }, g.d.block (home g.blocks n), 0)
def PG.begin (g : PG) : PG × Int := if g.broken = true ∨ g.tx.isSome = true then (g, 3) else ({ g with tx := some ⟨g.sure, none_, false⟩ }, 0)
def PG.page (g : PG) (n : Int) : PG × List UInt8 × Int :=
  if g.has n ≠ 0 then (g, [], g.has n)
  else match g.tx.bind fun t => t.pages n.toNat with
    | some b => (g, b, 0)
    | none => g.read n.toNat
def PG.put (g : PG) (n : Int) (b : List UInt8) : PG × Int := match g.tx with
  | none => (g, 3)
  | some t => if g.broken = true then (g, 3) else if g.has n ≠ 0 then (g, g.has n) else if b.length ≠ 512 then (g, 1) else ({ g with tx := some { t with pages := Pag.put t.pages n.toNat b } }, 0)
def freeF (u : List Bool) (n : Nat) : Nat → Option Nat
  | 0 => none
  | k + 1 => if u.getD n false = false then some n else freeF u (n + 1) k
def PG.alloc (g : PG) : PG × Int × Int := match g.tx with
  | none => (g, 0, 3)
  | some t => if g.broken = true then (g, 0, 3) else match freeF t.m.used 1 g.pages with
    | none => (g, 0, 5)
    | some n => ({ g with tx := some ⟨{ t.m with used := t.m.used.set n true }, Pag.put t.pages n (List.replicate 512 0), true⟩ }, n, 0)
def PG.free (g : PG) (n : Int) : PG × Int := match g.tx with
  | none => (g, 3)
  | some t => if g.broken = true then (g, 3) else if g.has n ≠ 0 then (g, g.has n) else ({ g with tx := some ⟨{ t.m with used := t.m.used.set n.toNat false }, del t.pages n.toNat, true⟩ }, 0)
def PG.root (g : PG) : List UInt8 := if g.broken = true then [] else g.now.root
def PG.setRoot (g : PG) (b : List UInt8) : PG × Int := match g.tx with
  | none => (g, 3)
  | some t => if g.broken = true then (g, 3) else if 64 < b.length then (g, 4) else ({ g with tx := some { t with m := { t.m with root := b }, own := true } }, 0)
def layHome (blocks : Nat) (m : Pgs) : List Nat → DS → DS × Int
  | [], d => (d, 0)
  | n :: L, d => if (d.write (home blocks n : Nat) ((m n).getD [])).2 ≠ 0 then d.write (home blocks n : Nat) ((m n).getD []) else layHome blocks m L (d.write (home blocks n : Nat) ((m n).getD [])).1
def PG.settle (g : PG) : PG × Int :=
  let a := layHome g.blocks g.over (keys g.over (g.pages + 1)) g.d
  if a.2 ≠ 0 then ({ g with d := a.1 }.fail, a.2)
  else
    let f := a.1.flush
    if f.2 ≠ 0 then ({ g with d := f.1 }.fail, f.2)
    else
      let r := f.1.reset g.l
      if r.e ≠ 0 then ({ g with d := r.d, l := r.l }.fail, r.e) else ({ g with d := r.d, l := r.l, over := none_ }, 0)
def TX.all (t : TX) : Pgs := if t.own = true then Pag.put t.pages 0 (encode t.m) else t.pages
def over_ (m o : Pgs) : Pgs := fun i => (m i).or (o i)
def dropAll (q : PS) : List Nat → PS
  | [] => q
  | n :: L => dropAll (q.drop n).2 L
def PG.keep (g : PG) (t : TX) (order : List Nat) : PG × Int :=
  let r := g.d.add g.l [record t.all order]
  if r.e ≠ 0 then ({ g with d := r.d, l := r.l }.fail, r.e)
  else ({ g with d := r.d, l := r.l, over := over_ t.all g.over, q := dropAll g.q order, sure := t.m, tx := none }, 0)
def PG.commit (g : PG) : PG × Int := match g.tx with
  | none => (g, 3)
  | some t =>
    if g.broken = true then (g, 3)
    else
      let order := keys t.all (g.pages + 1)
      if order = [] then ({ g with tx := none }, 0)
      else if most g.blocks < (order.length : Int) then ({ g with tx := none }, 40)
      else if (g.l.room - g.l.data.length : Int) < ((record t.all order).length : Int) + 16 then
        if g.settle.2 ≠ 0 then g.settle else g.settle.1.keep t order
      else g.keep t order
def PG.checkpoint (g : PG) : PG × Int := if g.broken = true ∨ g.tx.isSome = true then (g, 3) else g.settle
def PG.rollback (g : PG) : PG × Int := if g.broken = true ∨ g.tx.isNone = true then (g, 3) else ({ g with tx := none }, 0)
def PG.used (g : PG) : List Nat := if g.broken = true then [] else (List.range (g.pages + 1)).filter fun n => g.now.used.getD n false
def lay (d : DS) (blocks pages : Nat) : DS × Int :=
  let a := d.write (1 : Nat) (List.replicate 512 0)
  if a.2 ≠ 0 then a else
  let b := a.1.write (2 : Nat) (List.replicate 512 0)
  if b.2 ≠ 0 then b else
  let c := b.1.write (home blocks 0 : Nat) (encode (MT.free pages))
  if c.2 ≠ 0 then c else
  let f := c.1.flush
  if f.2 ≠ 0 then f else
  let e := f.1.write (0 : Nat) (label blocks pages)
  if e.2 ≠ 0 then e else e.1.flush
def openRest (d : DS) (blocks pages frames : Nat) : DS × Option PG × Int :=
  let o := d.openW 1 ((blocks - 2) * 512)
  if o.e ≠ 0 then (o.d, none, o.e) else
  let r := redos pages o.recs none_
  if r.2 ≠ 0 then (o.d, none, r.2) else
  let g : PG := ⟨o.d, o.l, PS.new frames, blocks, pages, ⟨[], []⟩, r.1, none, false⟩
  let b := g.read 0
  if b.2.2 ≠ 0 then (o.d, none, b.2.2) else
  if (decode b.2.1 pages).2 ≠ 0 then (o.d, none, (decode b.2.1 pages).2) else (o.d, some { b.1 with sure := (decode b.2.1 pages).1 }, 0)
def open_ (d : DS) (log frames : Int) : DS × Option PG × Int :=
  let pages := min ((d.blocks.length : Int) - 2 - log) 1600
  if log < 4 ∨ (d.blocks.length : Int) < log ∨ pages < 1 ∨ frames < 1 ∨ 64 < frames then (d, none, 1)
  else if d.why 0 ≠ 0 then (d, none, d.why 0)
  else if d.block 0 = label log.toNat pages.toNat then openRest d log.toNat pages.toNat frames.toNat
  else if (lay d log.toNat pages.toNat).2 ≠ 0 then ((lay d log.toNat pages.toNat).1, none, (lay d log.toNat pages.toNat).2)
  else openRest (lay d log.toNat pages.toNat).1 log.toNat pages.toNat frames.toNat
end Pag
end Go.Proofs.YtcfoihihinijlaaGreat
end

section
namespace Go.Proofs.YtcfoihihinijlaaGreat
set_option linter.unusedSimpArgs false
set_option linter.unusedVariables false
namespace Pag
theorem mem_keys {m : Pgs} {n i : Nat} : i ∈ keys m n ↔ i < n ∧ (m i).isSome = true := by
  unfold keys
  rw [List.mem_filter, List.mem_range]
theorem keys_length (m : Pgs) (n : Nat) : (keys m n).length ≤ n := by
  have h := List.length_filter_le (fun i => (m i).isSome) (List.range n)
  rw [List.length_range] at h
  exact h
theorem put_at (m : Pgs) (n : Nat) (b : List UInt8) : put m n b n = some b := if_pos rfl
theorem put_ne {m : Pgs} {n i : Nat} (b : List UInt8) (h : i ≠ n) : put m n b i = m i := if_neg h
def laid (m : Pgs) : List Nat → Pgs → Pgs
  | [], o => o
  | n :: L, o => laid m L (put o n ((m n).getD []))
theorem laid_at (m : Pgs) : ∀ (L : List Nat) (o : Pgs) (i : Nat), laid m L o i = if i ∈ L then some ((m i).getD []) else o i
  | [], o, i => by simp [laid]
  | n :: L, o, i => by
    show laid m L (put o n ((m n).getD [])) i = _
    rw [laid_at m L]
    by_cases h : i ∈ L
    · rw [if_pos h, if_pos (List.mem_cons_of_mem _ h)]
    · rw [if_neg h]
      by_cases e : i = n
      · rw [e, put_at, if_pos (List.mem_cons_self ..)]
      · rw [put_ne _ e, if_neg (fun hc => by rcases List.mem_cons.1 hc with hc | hc; exact e hc; exact h hc)]
theorem laid_keys {m : Pgs} {n : Nat} (hm : ∀ i, n ≤ i → m i = none) (o : Pgs) : laid m (keys m n) o = over_ m o := by
  funext i
  rw [laid_at]
  unfold over_
  by_cases h : i ∈ keys m n
  · rw [if_pos h]
    obtain ⟨b, hb⟩ := Option.isSome_iff_exists.1 (mem_keys.1 h).2
    rw [hb]
    rfl
  · rw [if_neg h]
    have hi : m i = none := by
      cases hb : m i with
      | none => rfl
      | some b =>
        by_cases hin : i < n
        · exact absurd (mem_keys.2 ⟨hin, by rw [hb]; rfl⟩) h
        · rw [hm i (by omega)] at hb; cases hb
    rw [hi]
    rfl
theorem bits8_bit8 : ∀ (b0 b1 b2 b3 b4 b5 b6 b7 : Bool), ∀ k < 8,
    (((List.range 8).foldl (fun (a : UInt8) j => if ([b0, b1, b2, b3, b4, b5, b6, b7].getD j false) = true then a ||| UInt8.ofNat (2 ^ j) else a) 0).toNat / 2 ^ k % 2 == 1) = [b0, b1, b2, b3, b4, b5, b6, b7].getD k false := by decide +kernel
theorem bits8_bit (u : List Bool) (i k : Nat) (hk : k < 8) : ((bits8 u i).toNat / 2 ^ k % 2 == 1) = u.getD (i * 8 + k) false := by
  have h := bits8_bit8 (u.getD (i * 8 + 0) false) (u.getD (i * 8 + 1) false) (u.getD (i * 8 + 2) false) (u.getD (i * 8 + 3) false) (u.getD (i * 8 + 4) false) (u.getD (i * 8 + 5) false) (u.getD (i * 8 + 6) false) (u.getD (i * 8 + 7) false) k hk
  have e : ∀ j < 8, [u.getD (i * 8 + 0) false, u.getD (i * 8 + 1) false, u.getD (i * 8 + 2) false, u.getD (i * 8 + 3) false, u.getD (i * 8 + 4) false, u.getD (i * 8 + 5) false, u.getD (i * 8 + 6) false, u.getD (i * 8 + 7) false].getD j false = u.getD (i * 8 + j) false := by
    intro j hj
    have : j = 0 ∨ j = 1 ∨ j = 2 ∨ j = 3 ∨ j = 4 ∨ j = 5 ∨ j = 6 ∨ j = 7 := by omega
    rcases this with rfl | rfl | rfl | rfl | rfl | rfl | rfl | rfl <;> rfl
  rw [e k hk] at h
  rw [← h]
  rfl
theorem encode_bits (m : MT) (i : Nat) (hi : i < 256) : (encode m).getD i 0 = bits8 m.used i := by
  unfold encode
  rw [List.getD_eq_getElem?_getD, List.getElem?_append_left (by simpa using hi), List.getElem?_map, List.getElem?_range hi]
  rfl
theorem text_length (s : List UInt8) : (Wire.text s).length ≤ s.length + 10 := by
  unfold Wire.text
  rw [List.length_append]
  have := (Wire.num_length s.length).2
  omega
theorem encode_length (m : MT) (h : m.root.length ≤ 64) : (encode m).length = 512 := by
  unfold encode
  have := text_length m.root
  simp
  omega
theorem usedOf_encode (m : MT) (pages : Nat) (hu : m.used.length = pages + 1) (hp : pages < 2048) : usedOf (encode m) pages = m.used := by
  refine List.ext_getElem (by simp [usedOf, hu]) fun i h1 h2 => ?_
  have hi : i < pages + 1 := by simpa [usedOf] using h1
  have e : (usedOf (encode m) pages)[i] = (((encode m).getD (i / 8) 0).toNat / 2 ^ (i % 8) % 2 == 1) := by simp [usedOf]
  rw [e, encode_bits m _ (by omega), bits8_bit _ _ _ (Nat.mod_lt _ (by decide)), show i / 8 * 8 + i % 8 = i by omega]
  simp [List.getD, h2]
theorem encode_drop (m : MT) : (encode m).drop 256 = Wire.text m.root ++ List.replicate (256 - (Wire.text m.root).length) 0 := by
  unfold encode
  rw [List.drop_append_of_le_length (by simp), List.drop_of_length_le (by simp)]
  rfl
theorem decode_encode (m : MT) (pages : Nat) (hu : m.used.length = pages + 1) (hp : pages < 2048) (hr : m.root.length ≤ 64) : decode (encode m) pages = (m, 0) := by
  unfold decode
  rw [usedOf_encode m pages hu hp, encode_drop, Wire.takeText_text _ _ 64 (by omega) (by omega)]
theorem redoF_record (pages : Nat) (hp : pages ≤ 1600) (m : Pgs) : ∀ (L : List Nat) (o : Pgs), (∀ n ∈ L, n ≤ pages ∧ ((m n).getD []).length = 512) →
    redoF pages L.length ⟨L.flatMap fun n => Wire.num n ++ Wire.text ((m n).getD []), 0⟩ o = (laid m L o, ⟨[], 0⟩, 0)
  | [], o, _ => by simp [redoF, laid, Wire.fin]
  | n :: L, o, h => by
    obtain ⟨h1, h2⟩ := h n (List.mem_cons_self ..)
    have hc : Wire.count ⟨(n :: L).flatMap fun n => Wire.num n ++ Wire.text ((m n).getD []), 0⟩ pages = (⟨Wire.text ((m n).getD []) ++ L.flatMap fun n => Wire.num n ++ Wire.text ((m n).getD []), 0⟩, n) := by
      rw [List.flatMap_cons, List.append_assoc]
      exact Wire.count_num n pages (by omega) _ (by omega)
    have ht := Wire.takeText_text ((m n).getD []) (L.flatMap fun n => Wire.num n ++ Wire.text ((m n).getD [])) 512 (by omega) (by omega)
    rw [List.length_cons]
    unfold redoF
    rw [hc, ht]
    dsimp only
    rw [if_neg (by rw [h2]; decide)]
    exact redoF_record pages hp m L _ fun k hk => h k (List.mem_cons_of_mem _ hk)
theorem redo_record (pages : Nat) (hp : pages ≤ 1600) (m : Pgs) (L : List Nat) (o : Pgs) (hl : L.length ≤ 1601) (h : ∀ n ∈ L, n ≤ pages ∧ ((m n).getD []).length = 512) : redo pages (record m L) o = (laid m L o, 0) := by
  unfold redo record
  rw [Wire.count_num L.length 1601 (by omega) _ (by omega), redoF_record pages hp m L o h]
end Pag
end Go.Proofs.YtcfoihihinijlaaGreat
end

section
namespace Go.Proofs.YtcfoihihinijlaaGreat
set_option linter.unusedSimpArgs false
set_option linter.unusedVariables false
open Go.RowKit
structure Part where
  a : Option Addr
  c : Nat
  l : List UInt8
def Part.v (p : Part) : Value := .slice p.a p.l.length p.c
def Part.ok (w : World) (p : Part) : Prop := BRow w p.a p.l ∧ p.l.length ≤ 9223372036854775807
theorem crc_and (s : Nat) (h : s < 4294967296) : Go.bits .and .u32 (s : Int) 1 = ((s % 2 : Nat) : Int) := by
  rw [show (1 : Int) = ((1 : Nat) : Int) from rfl, u32_and_nat _ _ h (by omega), nat_mask1]
theorem crc_xor (s c : Nat) (h : s < 4294967296) (hc : c < 256) : Go.bits .xor .u32 (s : Int) (c : Int) = ((s ^^^ c : Nat) : Int) := u32_xor_nat _ _ h (by omega)
theorem crc_poly (s : Nat) (h : s < 4294967296) (h1 : s % 2 = 1) : Go.bits .xor .u32 ((s : Int) / 2) 3988292384 = ((Crc.bit s : Nat) : Int) := by
  rw [show (3988292384 : Int) = ((3988292384 : Nat) : Int) from rfl, show (s : Int) / 2 = ((s / 2 : Nat) : Int) from rfl, u32_xor_nat _ _ (by omega) (by omega), Crc.bit, if_pos h1]
theorem crc_shr (s : Nat) (h1 : s % 2 ≠ 1) : ((s : Int) / 2) = ((Crc.bit s : Nat) : Int) := by
  rw [Crc.bit, if_neg h1]; rfl
theorem crc_not (s : Nat) (h : s < 4294967296) : Go.bits .xor .u32 IntKind.u32.max (s : Int) = ((s ^^^ 4294967295 : Nat) : Int) := by
  rw [show IntKind.u32.max = ((4294967295 : Nat) : Int) from rfl, u32_xor_nat _ _ (by omega) h, Nat.xor_comm]
theorem take_flat (ps : List Part) (k : Nat) (hk : k < ps.length) : (ps.take (k + 1)).flatMap (·.l) = (ps.take k).flatMap (·.l) ++ ps[k].l := by
  rw [List.take_succ_eq_append_getElem hk, List.flatMap_append]; simp
set_option maxHeartbeats 800000 in
theorem sum_any (w : World) (A : Option Addr) (c : Nat) (ps : List Part) (hrow : Row w A (ps.map Part.v)) (hps : ∀ p ∈ ps, p.ok w) (hn : ps.length ≤ 9223372036854775807) :
    Calls Tryz.prog 152 #[.slice A ps.length c] w fun e w' => e = .returned (.int .u32 (Crc.sum (ps.flatMap (·.l)) : Nat)) ∧ w = w' := by
  have HP := Lib.hid hps
  clear hps
  go_enter Tryz.func152, Tryz.ntmps152
  go_wp2
  go_loop [3, 11] (fun s i => ∃ k : Nat, k ≤ ps.length ∧ i = .int .i64 k ∧ s = .int .u32 (Crc.run 4294967295 ((ps.take k).flatMap (·.l)) : Nat)) (fun _ i => ps.length - (intOf i).toNat)
  case atStart => exact ⟨0, Nat.zero_le _, rfl, by simp [Crc.run_nil]⟩
  case round =>
    obtain ⟨k, hk, rfl, rfl⟩ := hrel
    by_cases hlt : k < ps.length
    · have HT := Lib.hid (take_flat ps k hlt)
      have hc : ∃ b o a c l, A = some ⟨b, o, none⟩ ∧ ps[k].l = l ∧ w.cell? ⟨b, o + k, none⟩ = some (.slice a l.length c) ∧ BRow w a l ∧ l.length ≤ 9223372036854775807 := by
        obtain ⟨b, o, e, _, hc⟩ := Row.at_ (k := k) hrow (by simpa using hlt)
        have hp := HP.out ps[k] (List.getElem_mem hlt)
        exact ⟨b, o, ps[k].a, ps[k].c, ps[k].l, e, rfl, by simpa [Part.v] using hc, hp.1, hp.2⟩
      obtain ⟨b, o, a, c', l, rfl, hl, hc, hb, hll⟩ := hc
      have HL := Lib.hid hl
      clear hl hrow
      have hs : Crc.run 4294967295 ((ps.take k).flatMap (·.l)) < 4294967296 := Crc.run_lt _ (by omega)
      generalize hS : Crc.run 4294967295 ((ps.take k).flatMap (·.l)) = s at hs
      have HS0 := Lib.hid hS
      clear hS
      go_wp2
      go_loop [3, 17] (fun r i => ∃ j : Nat, j ≤ l.length ∧ i = .int .i64 j ∧ r = .int .u32 (Crc.run s (l.take j) : Nat)) (fun _ i => l.length - (intOf i).toNat)
      case atStart => exact ⟨0, Nat.zero_le _, rfl, by simp [Crc.run_nil]⟩
      case round =>
        obtain ⟨j, hj, rfl, rfl⟩ := hrel
        by_cases hjl : j < l.length
        · obtain ⟨b', o', rfl, _, hcj⟩ := BRow.at_ hb hjl
          have hcl := l[j].toNat_lt
          have HS : Hid (Crc.run s (l.take (j + 1)) = Crc.bits 8 (Crc.run s (l.take j) ^^^ l[j].toNat)) := by
            rw [List.take_succ_eq_append_getElem hjl, Crc.run_snoc]; rfl
          have hr : Crc.run s (l.take j) < 4294967296 := Crc.run_lt _ hs
          generalize Crc.run s (l.take j) = r at hr HS ⊢
          generalize l[j].toNat = cc at hcl hcj HS ⊢
          have hx := crc_xor r cc hr hcl
          have hxl : r ^^^ cc < 4294967296 := Crc.xor_lt hr (by omega)
          have HX := Lib.hid hx
          clear hx
          generalize r ^^^ cc = y at HX hxl HS
          go_wp2
          go_loop [3, 25] (fun r i => ∃ m : Nat, m ≤ 8 ∧ i = .int .i64 m ∧ r = .int .u32 (Crc.bits m y : Nat)) (fun _ i => 8 - (intOf i).toNat)
          case atStart => exact ⟨0, Nat.zero_le _, rfl, by rw [HX.out]; rfl⟩
          case round =>
            obtain ⟨m, hm, rfl, rfl⟩ := hrel
            by_cases hm8 : m < 8
            · have HB : Hid (Crc.bits (m + 1) y = Crc.bit (Crc.bits m y)) := rfl
              have hz : Crc.bits m y < 4294967296 := Crc.bits_lt m hxl
              generalize Crc.bits m y = z at hz HB
              have ha := crc_and z hz
              by_cases h1 : z % 2 = 1
              · have hp := crc_poly z hz h1
                rw [h1] at ha
                have H1 := Lib.hid h1
                clear h1
                go_wp2
                go_round
                case rel => exact ⟨m + 1, by omega, by go_num, by rw [HB.out]⟩
                case measure => simp [intOf]; omega
              · have h0 : z % 2 = 0 := by omega
                have HP2 := Lib.hid (crc_shr z h1)
                rw [h0] at ha
                clear h1 h0
                go_wp2
                go_round
                case rel => exact ⟨m + 1, by omega, by go_num, by rw [HB.out, HP2.out]⟩
                case measure => simp [intOf]; omega
            · obtain rfl : m = 8 := by omega
              go_wp2
              go_round
              case rel => exact ⟨j + 1, by omega, by go_num, by rw [HS.out]⟩
              case measure => simp [intOf]; omega
        · obtain rfl : j = l.length := by omega
          have HR : Hid (List.take l.length l = l) := List.take_length
          go_wp2
          go_round
          case rel => exact ⟨k + 1, by omega, by go_num, by rw [HR.out, HT.out, HL.out, Crc.run_append, HS0.out]⟩
          case measure => simp [intOf]; omega
    · have hs : Crc.run 4294967295 ((ps.take k).flatMap (·.l)) < 4294967296 := Crc.run_lt _ (by omega)
      have hx := crc_not _ hs
      go_wp2
      go_ret
      have : ps.take k = ps := List.take_of_length_le (by omega)
      exact ⟨by rw [this]; rfl, rfl⟩
end Go.Proofs.YtcfoihihinijlaaGreat
end

section
namespace Go.Proofs.YtcfoihihinijlaaGreat
set_option linter.unusedSimpArgs false
set_option linter.unusedVariables false
open Go.RowKit
set_option maxHeartbeats 1000000 in
theorem bgrow_any (w : World) (n : Nat) (hn : n ≤ 1000000) :
    Calls Tryz.prog 105 #[.slice none 0 0, .int .i64 n] w fun e w' => ∃ A c, e = .returned (.slice A 0 c) ∧ BOwn w' w.heap.size A c [] ∧ Below w.heap.size w w' := by
  rcases Nat.eq_zero_or_pos n with rfl | h0
  · go_enter Tryz.func105, Tryz.ntmps105
    go_wp2_with fail
    go_ret
    exact ⟨none, 0, rfl, BOwn.nil _ _, Below.refl _ _⟩
  obtain ⟨i, hi, hz, hsi, hby⟩ := info_parts info8
  have hrun := Lib.run_append_nil_zeros (P := Tryz.prog) w 56 3 56 5 i _ .i64 .i64 Tryz.underlying56 Tryz.underlying3 hi hz n h0 (by omega) (by omega) (by rw [hby]; omega)
  have hni : ¬ (n : Int) < 0 := by omega
  have hpos : (0 : Int) < (n : Int) := by omega
  have hc1 := grownCap_ge w n 0 5
  have hc2 := grownCap_le_maxLen w n 0 5 (by simp [maxLen]; omega)
  generalize grownCap w n 0 5 = c at hrun hc1 hc2
  go_enter Tryz.func105, Tryz.ntmps105
  go_wp2_with (at_builtin; refine Lib.wpList_append_run w rfl (.tmp 20) (.tmp 21) 56 3 rfl _ _ rfl rfl _ _ hrun ?_)
  go_ret
  refine ⟨some ⟨w.heap.size, 0, none⟩, c, rfl, ?_, ((Below.refl _ _).drew).alloc (Nat.le_refl _) _⟩
  exact World.ownsRow_made w.drew _ c (Nat.le_refl _) hc2 (by simp [Builtin.zeroCells]; omega)
def blens (ps : List Part) : Nat := (ps.map fun p => p.l.length).sum
theorem blens_take (ps : List Part) (i : Nat) (h : i < ps.length) : blens (ps.take (i + 1)) = blens (ps.take i) + ps[i].l.length := by
  unfold blens
  rw [List.take_succ_eq_append_getElem h, List.map_append, List.sum_append]
  simp
theorem blens_le (ps : List Part) (i : Nat) : blens (ps.take i) ≤ blens ps := by
  have e : blens ps = blens (ps.take i) + blens (ps.drop i) := by
    unfold blens
    rw [← List.sum_append, ← List.map_append, List.take_append_drop]
  omega
theorem bflat_length (ps : List Part) : (ps.flatMap (·.l)).length = blens ps := by simp [blens, List.length_flatMap]
set_option maxHeartbeats 1000000 in
theorem bconcat_any (w : World) (A : Option Addr) (c : Nat) (ps : List Part) (hr : Row w A (ps.map Part.v)) (hp : ∀ p ∈ ps, p.ok w) (hn : ps.length ≤ 1000) (h1 : blens ps ≤ 1000000) :
    Calls Tryz.prog 56 #[.slice A ps.length c] w (RetB w (ps.flatMap (·.l))) := by
  have HP := Lib.hid hp
  clear hp
  go_enter Tryz.func56, Tryz.ntmps56
  go_wp2_with fail
  go_loop [3, 11] (fun sv iv => ∃ i n : Nat, i ≤ ps.length ∧ iv = .int .i64 i ∧ sv = .int .i64 n ∧ Hid (n = blens (ps.take i))) (fun _ iv => ps.length - (intOf iv).toNat)
  case atStart => exact ⟨0, 0, by omega, rfl, rfl, rfl⟩
  case round =>
    obtain ⟨i, n, hi, rfl, rfl, HN⟩ := hrel
    have hnle : n ≤ 1000000 := by rw [HN.out]; exact Nat.le_trans (blens_le ps i) h1
    by_cases hlt : i < ps.length
    · obtain ⟨b, o, rfl, hb, hc⟩ := Row.at_ (k := i) hr (by simpa using hlt)
      rw [List.getElem_map] at hc
      have hl := Lib.hid (blens_take ps i hlt)
      have hn2 : n + ps[i].l.length ≤ 1000000 := by rw [HN.out, ← hl.out]; exact Nat.le_trans (blens_le ps (i + 1)) h1
      generalize ps[i] = q at hc hl hn2
      obtain ⟨qA, qc, qL⟩ := q
      simp only [Part.v] at hc hl hn2
      have hneg : ¬ ((n : Int) + (qL.length : Int)) < 0 := by omega
      have hlti : (i : Int) < (ps.length : Int) := by omega
      have hw : IntKind.i64.wrap ((n : Int) + (qL.length : Int)) = (n : Int) + (qL.length : Int) := by rw [IntWalk.i64_in _ (by omega)]
      clear hr
      go_wp2_with fail
      go_round
      case rel => exact ⟨i + 1, n + qL.length, by omega, by go_num, by go_num, by show _ = _; rw [hl.out, HN.out]⟩
      case measure => simp [intOf]; omega
    · obtain rfl : i = ps.length := by omega
      go_wp2_with fail
      refine (bgrow_any w n hnle).mono ?_
      rintro e w1 ⟨A0, c1, rfl, ho1, hb1⟩
      go_wp2_with fail
      go_loopw [6, 27] (fun nv iv wr => ∃ (i : Nat) (A1 : Option Addr) (c1 : Nat) (L : List UInt8), i ≤ ps.length ∧ iv = .int .i64 i ∧ nv = .slice A1 L.length c1 ∧ Hid (L = (ps.take i).flatMap (·.l)) ∧ BOwn wr w.heap.size A1 c1 L ∧ Below w.heap.size w wr) (fun _ iv _ => ps.length - (intOf iv).toNat)
      case atStart => exact ⟨0, _, c1, [], by omega, rfl, rfl, rfl, ho1, hb1⟩
      case round =>
        obtain ⟨i, A1, c1, L, hi, rfl, rfl, HL, ho, hB⟩ := hrel
        by_cases hlt : i < ps.length
        · have hrx : Row wr A (ps.map Part.v) := Row.below hr hB
          obtain ⟨b, o, rfl, hb, hc⟩ := Row.at_ (k := i) hrx (by simpa using hlt)
          rw [List.getElem_map] at hc
          have hl := Lib.hid (take_flat ps i hlt)
          have hfr := (HP.out ps[i] (List.getElem_mem hlt)).1.below hB
          have hn2 : L.length + ps[i].l.length ≤ 1000000 := by
            have := blens_le ps (i + 1)
            rw [← bflat_length, take_flat ps i hlt, ← HL.out, List.length_append] at this
            omega
          generalize ps[i] = q at hc hl hn2 hfr
          obtain ⟨qA, qc, qL⟩ := q
          simp only [Part.v] at hc hl hn2 hfr
          have hz := hB.size
          go_wp2_with (at_builtin; refine wpList_append_bytes rfl (.tmp 31) (.tmp 32) rfl _ rfl ho rfl _ rfl hfr rfl (by omega) hz ?_; intro A3 c3 w3 ho3 hb3 _ _)
          go_roundw
          case rel => exact ⟨i + 1, A3, c3, L ++ qL, by omega, by go_num, by rw [List.length_append], by show _ = _; rw [hl.out, HL.out], ho3, hB.trans hb3⟩
          case measure => simp [intOf]; omega
        · obtain rfl : i = ps.length := by omega
          go_wp2_with fail
          go_ret
          have e := HL.out
          rw [List.take_length] at e
          rw [← e]
          exact ⟨A1, c1, rfl, ho, hB⟩
theorem bconcat2 (w : World) (g : Nat) (c : Nat) (p q : Part) (hr : Row w (some ⟨g, 0, none⟩) [p.v, q.v]) (hp : p.ok w) (hq : q.ok w) (h : p.l.length + q.l.length ≤ 1000000) :
    Calls Tryz.prog 56 #[.slice (some ⟨g, 0, none⟩) 2 c] w (RetB w (p.l ++ q.l)) := by
  have := bconcat_any w (some ⟨g, 0, none⟩) c [p, q] hr (by simp; exact ⟨hp, hq⟩) (by simp) (by simp [blens]; omega)
  simpa using this
theorem bconcat3 (w : World) (g : Nat) (c : Nat) (p q r : Part) (hr : Row w (some ⟨g, 0, none⟩) [p.v, q.v, r.v]) (hp : p.ok w) (hq : q.ok w) (hx : r.ok w) (h : p.l.length + q.l.length + r.l.length ≤ 1000000) :
    Calls Tryz.prog 56 #[.slice (some ⟨g, 0, none⟩) 3 c] w (RetB w (p.l ++ (q.l ++ r.l))) := by
  have := bconcat_any w (some ⟨g, 0, none⟩) c [p, q, r] hr (by simp; exact ⟨hp, hq, hx⟩) (by simp) (by simp [blens]; omega)
  simpa using this
end Go.Proofs.YtcfoihihinijlaaGreat
end

