/-
  The contract of disk's Write.
-/
import Derived.Test.YthbanhedjfpmaaaDiskWrite0
namespace Go.Proofs.Ythbanhedjfpmaaa
set_option linter.unusedSimpArgs false
set_option linter.unusedVariables false
open Go.RowKit

/-- A write: the disk behind it, and why it is refused. -/
def DS.put (d : DS) (i : Nat) (b : B512) : DS × Int :=
  ({ d with blocks := d.blocks.set i { (d.blocks.getD i default) with now := b }, pending := d.pending ++ [⟨(i : Int), b⟩] } : DS).strike
def DS.write (d : DS) (i : Int) (l : List UInt8) : DS × Int :=
  if d.why i ≠ 0 then (d, d.why i) else if h : l.length = 512 then d.put i.toNat ⟨l, h⟩ else (d, 1)

set_option maxRecDepth 20000 in
set_option maxHeartbeats 1000000 in
theorem write_bad (w : World) (B : Nat) (k : KB) (d : DS) (h : DiskAt w B k d) (i : Int) (A : Option Addr) (c : Nat) (l : List UInt8) (hw : d.why i ≠ 0) :
    Calls Try.prog 17 #[.pointer (some ⟨k.gd, 0, none⟩), .int .i64 i, .slice A l.length c] w fun e w' => e = .returned (.int .i64 (d.why i)) ∧ w = w' := by
  have HH := Lib.hid (has_any w B k d h i)
  have hb : (d.why i != 0) = true := by simpa using hw
  generalize d.why i = e at HH hb hw ⊢
  clear h hw
  go_enter Try.func17, Try.ntmps17
  go_wp2_with fail
  refine HH.out.mono ?_
  rintro e1 w1 ⟨rfl, rfl⟩
  go_wp2_with fail
  go_ret
  exact ⟨rfl, rfl⟩
set_option maxRecDepth 20000 in
set_option maxHeartbeats 1000000 in
theorem write_long (w : World) (B : Nat) (k : KB) (d : DS) (h : DiskAt w B k d) (i : Int) (A : Option Addr) (c : Nat) (l : List UInt8) (hw : d.why i = 0) (hl : l.length ≠ 512) :
    Calls Try.prog 17 #[.pointer (some ⟨k.gd, 0, none⟩), .int .i64 i, .slice A l.length c] w fun e w' => e = .returned (.int .i64 1) ∧ w = w' := by
  have HH := Lib.hid (has_any w B k d h i)
  rw [hw] at HH
  have hlb : ((l.length : Int) != 512) = true := by simp; omega
  clear h hw hl
  go_enter Try.func17, Try.ntmps17
  go_wp2_with fail
  refine HH.out.mono ?_
  rintro e1 w1 ⟨rfl, rfl⟩
  go_wp2_with fail
  go_ret
  exact ⟨rfl, rfl⟩
set_option maxRecDepth 20000 in
theorem DiskAt.setNow {w : World} {B : Nat} {k : KB} {d : DS} (h : DiskAt w B k d) {i : Nat} (hi : i < d.blocks.length) (b : B512) :
    (Instr.storeAt 95 (.pointer (some ⟨k.gb, i * 1024 + 0, none⟩)) (.agg b.v.toArray)).run Try.prog w = .ok () (w.setCells k.gb (i * 1024 + 0) b.v) ∧
    DiskAt (w.setCells k.gb (i * 1024 + 0) b.v) B k { d with blocks := d.blocks.set i { (d.blocks.getD i default) with now := b } } ∧ Keeps w (w.setCells k.gb (i * 1024 + 0) b.v) k.own := by
  obtain ⟨hne, hlt, hlt2, hB⟩ := h.head
  obtain ⟨⟨cb, np, cp, nf, cf, Ap, Af, rfl, rfl, h3, h4, h5, h6, h7, h8, h9, h10, h11⟩, lo⟩ := h
  have hg := grown_setCells w k.gb (i * 1024 + 0) b.v
  have hgd : d.blocks.getD i default = d.blocks[i] := by simp [hi]
  have hst := run_store_part (P := Try.prog) 95 k.gb i 0 b.v h7 hi (by rw [b.v_length]; decide) (infoArr.trans (by rw [b.v_length])) b.v_one
  have ho9 := h7.storePart hi { d.blocks[i] with now := b } 0 b.v (by rw [b.v_length]; decide) (code_now _ _)
  rw [hgd]
  refine ⟨hst, ⟨⟨cb, _, cp, _, cf, Ap, Af, rfl, rfl, h3, h4, h5, ?_, ho9, ?_, ?_, h10, h11⟩, lo⟩, (Keeps.of_grown hg).mono (fun k' e => .inr e)⟩
  · rw [List.length_set]; exact h6.grown hg (by simp; exact hne)
  · exact h8.keep2 hg.size (fun a ha _ => hg.block _ (by assumption) (by simp; exact fun e => h10 a ha (.inr e)))
  · exact h9.keep2 hg.size (fun a ha _ => hg.block _ (by assumption) (by simp; exact fun e => h11 a ha (.inr e)))
theorem copy_src {w : World} {g o : Nat} {vs : List Value} (h : ∀ j (h : j < vs.length), w.cell? ⟨g, o + j, none⟩ = some vs[j]) : ∀ j v, vs[j]? = some v → w.cell? ((⟨g, o, none⟩ : Addr).add j) = some v := fun j v hv => by
  obtain ⟨hj, e⟩ := List.getElem?_eq_some_iff.1 hv
  rw [Addr.add_mid, h j hj, e]
set_option maxRecDepth 20000 in
set_option maxHeartbeats 2000000 in
theorem write_ok (w : World) (B : Nat) (k : KB) (d : DS) (h : DiskAt w B k d) (hG : DGood d) (hch : d.changes < 1000000000) (hpl : d.pending.length < 1000000) (i : Nat) (hi : i < d.blocks.length) (hd : d.down = false) (A : Option Addr) (c : Nat) (b : B512) (hr : BRow w A b.l) :
    Calls Try.prog 17 #[.pointer (some ⟨k.gd, 0, none⟩), .int .i64 i, .slice A 512 c] w fun e w' => e = .returned (.int .i64 (d.put i b).2) ∧ DiskAt w' B k (d.put i b).1 ∧ Keeps w w' k.own := by
  have hwhy : d.why i = 0 := by unfold DS.why; rw [if_neg (by simp [hd]), if_neg (by omega)]
  have HH := Lib.hid (has_any w B k d h i)
  rw [hwhy] at HH
  have HD := Lib.hid h
  have HR := Lib.hid hr
  have hp1 := hG.p1
  have hii : (i : Int) < (d.blocks.length : Int) := by omega
  have hb4 := hG.b1
  clear h hwhy hd hr
  go_enter Try.func17, Try.ntmps17
  go_wp2_with fail
  refine HH.out.mono ?_
  rintro e1 w1 ⟨rfl, rfl⟩
  have hbuild := fun w => build_write w (i : Int)
  obtain ⟨ba, oa, hA, hba, hbc⟩ := HR.out (by rw [List.length_map, b.h]; decide)
  subst hA
  have HBC := Lib.hid hbc
  have HB : Hid (∀ {W6 W7 : World}, Below w.heap.size w W6 → W6.grownBy W7 (some w.heap.size) → ∀ j (h : j < b.v.length), W7.cell? ⟨ba, oa + j, none⟩ = some b.v[j]) := fun hB hg j hj => by
    rw [World.cell?_of_block (a := ⟨ba, oa + j, none⟩) (hg.block ba (Nat.lt_of_lt_of_le hba hB.size) (by simp; omega)), World.cell?_of_block (a := ⟨ba, oa + j, none⟩) (hB.block ba hba)]
    exact HBC.out j hj
  clear hbc
  go_wp2_with (first | (refine wpList_alloc_z rfl 97 rfl (zeroDW _) ?_; intro W6 hW6; obtain ⟨ba6, hz6, hB6⟩ := fresh1 (a := Value.int .i64 0 :: zBytes 512) hW6; clear hW6) | (refine wpList_store_blk rfl rfl 97 (.tmp 8) (.tmp 19) rfl w.heap.size rfl (Value.int .i64 (i : Int) :: zBytes 512) rfl ba6 (by simp [zBytes]) (infoDW.trans (by simp [zBytes])) (eDW.one ⟨(i : Int), B512.zero⟩) ?_; intro W7 hb7 hg7; have hcp := (run_copy_cells (P := Try.prog) W7 33 33 3 5 w.heap.size 1 512 512 ⟨ba, oa, none⟩ 512 c b.v Try.underlying33 (by kernel_rfl) (by rw [b.v_length]; rfl) (copy_src (HB.out hB6 hg7)) (fun j hj => (hb7.there 1 512 (by simp [zBytes]) j (by rw [b.v_length] at hj; exact hj)).1) (fun j hj => (hb7.there 1 512 (by simp [zBytes]) j (by rw [b.v_length] at hj; exact hj)).2) b.v_one)) | (refine wpList_runv rfl (exec_copy (d := .tmp 21) (s := .tmp 22) rfl rfl rfl hcp) ?_; have hb8 := hb7.setCells 1 b.v; have hg8 := grown_setCells W7 w.heap.size 1 b.v; generalize (World.setCells W7 _ _ _) = W8 at hb8 hg8 ⊢))
  have hb8' : Blk W8 w.heap.size 97 (Value.int .i64 (i : Int) :: b.v) := by
    have := setFrom_part b.v [Value.int .i64 (i : Int)] (zBytes 512) [] (by rw [b.v_length]; simp [zBytes])
    rw [List.append_nil, List.append_nil] at this
    rw [← show setFrom (Value.int .i64 (i : Int) :: zBytes 512) 1 b.v = Value.int .i64 (i : Int) :: b.v from this]
    exact hb8
  have hB8 : Below w.heap.size w W8 := (hB6.grown hg7 hB6.size (fun k hk => by simp at hk; omega)).grown hg8 (Nat.le_trans hB6.size hg7.size) (fun k hk => by simp at hk; omega)
  have HS8 := Lib.hid (And.intro (HD.out.below hB8) (And.intro hb8' hB8))
  obtain ⟨cb, cp, cf, Ap, Af, hc8⟩ := HS8.out.1.open_
  have hz8 : w.heap.size < W8.heap.size := hb8'.lt
  clear hb8 hb8' hB8 hg7 hg8 hcp hb7 ba6 hB6
  apply wp_region_last (n := 9) (R := fun j x w' => match j with
    | 0 => x = .pointer (some ⟨k.gd, 0, none⟩)
    | 1 => x = .pointer (some ⟨k.gd, 0, none⟩)
    | 2 => x = .pointer (some ⟨k.gd, 0, none⟩)
    | 3 => x = .slice (some ⟨k.gb, 0, none⟩) d.blocks.length cb
    | 4 => x = .int .i64 (i : Nat)
    | 5 => x = .pointer (some ⟨w.heap.size, 1, none⟩)
    | 6 => x = .agg b.v.toArray
    | 7 => x = .pointer (some ⟨k.gb, i * 1024, none⟩)
    | 8 => x = .pointer (some ⟨k.gb, i * 1024, none⟩)
    | _ => True) (W := fun w' => w' = W8.drew) (Gr := fun w1 w2 => w2 = w1)
  case hG => (intro v; simp only [regFrame, List.zipIdx_cons, List.zipIdx_nil, List.foldl_cons, List.foldl_nil, Act.put, List.setIfInBounds_toArray, List.set_cons_zero, List.set_cons_succ, Nat.reduceAdd]; rfl)
  case hm => kernel_rfl
  case honce => rfl
  case hlow => kernel_rfl
  case hall => kernel_rfl
  case hn => rfl
  case ho => rfl
  case hog => rfl
  case hod => rfl
  case hR =>
    intro j x w' w'' hb h
    exact h
  case hW => exact fun w w' h hb => hb.trans h
  case h0 => rfl
  case hstep =>
    have hld := run_loadAt_mid (P := Try.prog) W8.drew w.heap.size 1 95 b.v _ (Blk.range (w := W8.drew) HS8.out.2.1 1 b.v (fun j hj => by rw [Nat.add_comm]; rfl)) Try.underlying95 rfl (infoArr.trans (by rw [b.v_length]))
    refine ⟨?_, ?_, ?_, ?_, ?_, ?_, ?_, ?_, ?_, trivial⟩ <;> (intro v w' hw' hd; subst hw'; simp only [Deps, Region.binds, ↓reduceIte, and_true] at hd) <;> (try (first | exact opDoes_move _ rfl rfl ⟨rfl, rfl⟩ | (refine opDoes_run rfl ?_ ⟨rfl, rfl⟩; go_simp; done)))
    exact opDoes_run rfl (exec_load rfl hd hld) ⟨rfl, rfl⟩
  case hend =>
    intro v w' hw' h
    subst hw'
    simp only [List.take, AllOps, Nat.zero_add, Nat.reduceAdd, and_true] at h
    obtain ⟨-, -, -, -, -, -, h6, -, h8⟩ := h
    obtain ⟨hst, hD9, hK9⟩ := DiskAt.setNow (w := W8.drew) (HS8.out.1.below (below_drew W8)) hi b
    have hb9 : Blk (W8.drew.setCells k.gb (i * 1024 + 0) b.v) w.heap.size 97 (Value.int .i64 (i : Int) :: b.v) := Blk.grown (w := W8.drew) HS8.out.2.1 (grown_setCells _ _ _ _) (by have := HD.out.head.2.2.1; simp; omega)
    have hK : Keeps w (W8.drew.setCells k.gb (i * 1024 + 0) b.v) k.own := (Keeps.of_below (HS8.out.2.2.drew)).trans hK9
    refine ⟨W8.drew.setCells k.gb (i * 1024 + 0) b.v, exec_store rfl h8 h6 hst, ?_⟩
    have HS9 := Lib.hid (And.intro hD9 (And.intro hb9 hK))
    clear hst hD9 hK9 hb9 hK h6 h8 hc8
    generalize (World.setCells W8.drew _ _ _) = W9 at HS9 ⊢
    obtain ⟨⟨cb2, np, cp2, nf, cf2, Ap2, Af2, rfl, rfl, q3, q4, q5, q6, q7, q8, q9, q10, q11⟩, lo⟩ := HS9.out.1
    have hc9 := q6.c5
    have HQ := Lib.hid (And.intro q6 q8)
    clear q6 q7 q8 q9 q10 q11
    go_wp2_with fail
    have hcl := Lib.hid (fun w' => clip_any w' Ap2 d.pending.length cp2 q3 q4 q5)
    have hlt9 : w.heap.size < W9.heap.size := HS9.out.2.1.lt
    apply wp_region_last (n := 11) (R := fun j x w' => match j with
      | 0 => x = .pointer (some ⟨k.gd, 0, none⟩)
      | 1 => x = .pointer (some ⟨k.gd, 0, none⟩)
      | 2 => x = .pointer (some ⟨k.gd, 0, none⟩)
      | 3 => x = .pointer (some ⟨k.gd, 1, none⟩)
      | 4 => x = .slice Ap2 d.pending.length cp2
      | 5 => x = .slice Ap2 d.pending.length d.pending.length
      | 6 => x = .agg (Value.int .i64 (i : Int) :: b.v).toArray
      | 7 => ∃ g', x = .slice (some ⟨g', 0, none⟩) 1 1 ∧ ERow eDW w' (some ⟨g', 0, none⟩) [⟨(i : Int), b⟩]
      | 8 => ∃ A1 c1, x = .slice A1 (d.pending.length + 1) c1 ∧ EOwn eDW w' W9.heap.size A1 c1 (d.pending ++ [⟨(i : Int), b⟩])
      | 9 => x = .pointer (some ⟨k.gd, 0, none⟩)
      | 10 => x = .pointer (some ⟨k.gd, 1, none⟩)
      | _ => True) (W := fun w' => Below W9.heap.size W9 w') (Gr := fun w1 w2 => Below w1.heap.size w1 w2)
    case hG => (intro v; simp only [regFrame, List.zipIdx_cons, List.zipIdx_nil, List.foldl_cons, List.foldl_nil, Act.put, List.setIfInBounds_toArray, List.set_cons_zero, List.set_cons_succ, Nat.reduceAdd]; rfl)
    case hm => kernel_rfl
    case honce => rfl
    case hlow => kernel_rfl
    case hall => kernel_rfl
    case hn => rfl
    case ho => rfl
    case hog => rfl
    case hod => rfl
    case hR =>
      intro j x w' w'' hb h
      split at h <;> try exact h
      · obtain ⟨g', h1, h2⟩ := h
        exact ⟨g', h1, h2.below hb⟩
      · obtain ⟨A1, c1, h1, h2⟩ := h
        exact ⟨A1, c1, h1, h2.below hb⟩
    case hW => exact fun w w' h hb => h.trans (hb.mono h.size)
    case h0 => exact below_drew W9
    case hstep =>
      clear hc9
      refine ⟨?_, ?_, ?_, ?_, ?_, ?_, ?_, ?_, ?_, ?_, ?_, trivial⟩ <;> (intro v w' hw' hd; simp only [Deps, Region.binds, ↓reduceIte, and_true] at hd; have hc9 := (HQ.out.1.below hw').c5) <;> (try (first | exact opDoes_move _ rfl rfl ⟨Below.refl _ _, rfl⟩ | (refine opDoes_run rfl ?_ ⟨Below.refl _ _, rfl⟩; clear hw'; go_simp; done)))
      · refine opDoes_call _ _ _ #[.slice Ap2 d.pending.length cp2] rfl rfl (by clear hw'; go_simp) (Try.call48 _ _) ?_
        exact (hcl.out w').mono fun e w'' ⟨he, hw⟩ => ⟨_, he, hw ▸ Below.refl _ _, rfl⟩
      · exact opDoes_run rfl (exec_load rfl rfl (run_loadAt_mid (P := Try.prog) w' w.heap.size 0 97 (Value.int .i64 (i : Int) :: b.v) _ ((HS9.out.2.1.below hw').range 0 _ (fun j hj => by rw [Nat.zero_add])) Try.underlying97 rfl (infoDW.trans (by rw [List.length_cons, b.v_length])))) ⟨Below.refl _ _, rfl⟩
      · exact opDoes_run rfl (exec_buildSlice rfl hd (run_buildSlice_one eDW ⟨(i : Int), b⟩ (.agg (Value.int .i64 (i : Int) :: b.v).toArray) rfl (by decide) w')) ⟨(fresh1 rfl).2.2, _, rfl, ERow.lit eDW w' ⟨(i : Int), b⟩ _ rfl _ rfl⟩
      · obtain ⟨h5, ⟨g', h7, hrow⟩, -⟩ := hd
        obtain ⟨A1, c1, w2, hrun, ho2, hb2⟩ := run_append_full eDW (c' := 1) 91 (HQ.out.2.below hw').row hrow (by simp) (by simp; omega) (fun h => by have := q5 h; exact List.eq_nil_of_length_eq_zero (by omega))
        exact opDoes_run rfl (exec_append rfl h5 h7 hrun) ⟨hb2, A1, c1, rfl, ho2.mono hw'.size⟩
    case hend =>
      intro v w' hw' h
      simp only [List.take, AllOps, Nat.zero_add, Nat.reduceAdd, and_true] at h
      obtain ⟨-, -, -, -, -, -, -, -, ⟨A1, c1, h8, ho8⟩, -, h10⟩ := h
      obtain ⟨⟨cb3, np, cp3, nf, cf3, Ap3, Af3, rfl, rfl, s3, s4, s5, s6, s7, s8, s9, s10, s11⟩, lo3⟩ := HS9.out.1.below hw'
      obtain ⟨hne, hlt, hlt2, hBk⟩ := (HS9.out.1.below hw').head
      have hgd9 := HS9.out.1.head
      have hfree := (s6.c5).2.2.2.2.2.2.1
      have hcell := (s6.c5).2.1
      have hst : (Instr.storeAt 91 (.pointer (some ⟨k.gd, 1, none⟩)) (.slice A1 (d.pending.length + 1) c1)).run Try.prog w' = .ok () (w'.setCell ⟨k.gd, 1, none⟩ (.slice A1 (d.pending.length + 1) c1)) := by
        clear h8 ho8 h10 s6 s7 s8 s9
        go_simp
      have hD : DiskAt (w'.setCell ⟨k.gd, 1, none⟩ (.slice A1 (d.pending.length + 1) c1)) B k { d with blocks := d.blocks.set i { (d.blocks.getD i default) with now := b }, pending := d.pending ++ [⟨(i : Int), b⟩] } := by
        have hA1 : ∀ a, A1 = some a → ¬ k.own a.block := fun a ha ho => by
          have h1 := (ho8.block a ha).1
          rcases ho with e | e <;> omega
        refine ⟨⟨cb3, _, c1, _, cf3, A1, Af3, rfl, rfl, ho8.cap, ho8.capMax, fun hn => ?_, by simpa using s6.set1 (u := .slice A1 (d.pending.length + 1) c1), ?_, ?_, ?_, hA1, s11⟩, lo3⟩
        · rcases ho8.form with ⟨_, h, _⟩ | ⟨g, h, _⟩
          · exact h
          · rw [hn] at h; cases h
        · exact s7.set _ (fun a ha => by obtain rfl := Option.some.inj ha; exact fun e => hne e.symm) _
        · exact (ho8.mono (by have := hgd9.2.2; omega)).keep2 (by simp) (fun a ha _ => heap_setCell_other w' ⟨k.gd, 1, none⟩ _ _ (fun e => hA1 a ha (.inl e)))
        · exact s9.keep2 (by simp) (fun a ha _ => heap_setCell_other w' ⟨k.gd, 1, none⟩ _ _ (fun e => s11 a ha (.inl e)))
      have hK := (HS9.out.2.2.trans (Keeps.of_below hw')).set ⟨k.gd, 1, none⟩ (.inl (.inl rfl)) (.slice A1 (d.pending.length + 1) c1)
      refine ⟨_, exec_store rfl h10 h8 hst, ?_⟩
      have HF := Lib.hid (And.intro hD hK)
      clear hD hK hst h8 h10 ho8 s6 s7 s8 s9 s10 s11 hc9
      generalize (World.setCell w' _ _) = W12 at HF ⊢
      have hG2 : DGood { d with blocks := d.blocks.set i { (d.blocks.getD i default) with now := b }, pending := d.pending ++ [⟨(i : Int), b⟩] } := by
        refine ⟨by simpa using hG.b0, by simpa using hG.b1, by simp; omega, hG.f1, fun x hx => ?_, hG.fk⟩
        simp only [List.length_set]
        rcases List.mem_append.1 hx with h | h
        · exact hG.at_ x h
        · simp only [List.mem_singleton] at h
          subst h
          exact ⟨by simp, by simpa using hi⟩
      have HST := Lib.hid (strike_any W12 B k _ HF.out.1 hG2 hch)
      clear hG2
      go_wp2_with fail
      refine HST.out.mono ?_
      rintro e w13 ⟨he, hD13, hK13⟩
      have HF2 : Hid (DiskAt w13 B k (d.put i b).1 ∧ Keeps w w13 k.own) := Lib.hid (And.intro hD13 (HF.out.2.trans hK13))
      replace he : e = .returned (.int .i64 (d.put i b).2) := he
      clear hD13 hK13 HST
      generalize hdp : d.put i b = dp at he HF2
      subst he
      go_wp2_with fail
      go_ret
      exact ⟨congrArg (fun x : DS × Int => Ending.returned (.int .i64 x.2)) hdp.symm, hdp ▸ HF2.out⟩
end Go.Proofs.Ythbanhedjfpmaaa
