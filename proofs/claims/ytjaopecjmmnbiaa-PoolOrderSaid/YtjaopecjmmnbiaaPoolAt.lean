/-
  What a pool is in memory; the contract of pool.New.
-/
import Derived.Test.YtjaopecjmmnbiaaPoolCat
import Derived.Maps.Own
import Derived.Maps.OwnSet
import Derived.Maps.Views
namespace Go.Proofs.Ytjaopecjmmnbiaa
open Go.RowKit Go.Maps

/-- Block gm is a map of at most N entries that has the numbers f, of pages. -/
def MapAt (w : World) (gm N : Nat) (f : Int → Option Nat) : Prop :=
  ∃ D : DataW Unit, w.ownsMap Try.prog 3 (plainElem Try.prog 3) gm N D ∧ IsMap D ∧
    ∀ k : Int, -9223372036854775808 ≤ k → k ≤ 9223372036854775807 → has D (.int .i64 k) = (f k).isSome ∧ ∀ i z, f k = some i → D.atKey (.int .i64 k) z = .lit (.int .i64 (i : Nat))
/-- A pool. -/
structure PS where
  L : List Fr
  hand : Nat
  hits : Int
  misses : Int
/-- At which frame a page is. -/
def whereOf (L : List Fr) (k : Int) : Option Nat := if 0 ≤ k then L.findIdx? (fun f => f.page == k) else none
/-- A pool's blocks: its own, the frames', the map's. -/
structure PB where
  gp : Nat
  gf : Nat
  gm : Nat
def PB.own (b : PB) (k : Nat) : Prop := k = b.gp ∨ k = b.gf ∨ k = b.gm
/-- The pool p lies in the blocks b, which are among those from B on. -/
structure PoolAt (w : World) (B : Nat) (b : PB) (N c : Nat) (p : PS) : Prop where
  lp : B ≤ b.gp
  lf : B ≤ b.gf
  lm : B ≤ b.gm
  head : w.heap[b.gp]? = some (.cells #[.slice (some ⟨b.gf, 0, none⟩) p.L.length c, .int .i64 (p.hand : Nat), .map (some b.gm), .int .i64 p.hits, .int .i64 p.misses] 62 (0, 0))
  frames : FOwn w B (some ⟨b.gf, 0, none⟩) c p.L
  map : MapAt w b.gm N (whereOf p.L)
  bytes : ∀ f ∈ p.L, BRow w f.A f.s
  far : ∀ f ∈ p.L, ∀ a, f.A = some a → ¬ b.own a.block
/-- No block that was there turns, but those of S. -/
structure Keeps (w w' : World) (S : Nat → Prop) : Prop where
  os : w'.os = w.os
  tape : w'.tape = w.tape
  output : w'.output = w.output
  size : w.heap.size ≤ w'.heap.size
  block : ∀ k, k < w.heap.size → ¬ S k → w'.heap[k]? = w.heap[k]?
theorem Keeps.refl (w : World) (S : Nat → Prop) : Keeps w w S := ⟨rfl, rfl, rfl, Nat.le_refl _, fun _ _ _ => rfl⟩
theorem Keeps.trans {a b c : World} {S : Nat → Prop} (h : Keeps a b S) (k : Keeps b c S) : Keeps a c S :=
  ⟨k.os.trans h.os, k.tape.trans h.tape, k.output.trans h.output, Nat.le_trans h.size k.size, fun i hi hn => (k.block i (Nat.lt_of_lt_of_le hi h.size) hn).trans (h.block i hi hn)⟩
theorem Keeps.of_below {w w' : World} {S : Nat → Prop} (h : Below w.heap.size w w') : Keeps w w' S := ⟨h.os, h.tape, h.output, h.size, fun k hk _ => h.block k hk⟩
theorem Keeps.set {w w' : World} {S : Nat → Prop} (h : Keeps w w' S) (p : Addr) (hp : S p.block ∨ w.heap.size ≤ p.block) (u : Value) : Keeps w (w'.setCell p u) S :=
  ⟨h.os, h.tape, h.output, by simpa using h.size, fun k hk hn => (heap_setCell_other w' p k u (fun e => by
    rcases hp with hp | hp
    · exact hn (e ▸ hp)
    · omega)).trans (h.block k hk hn)⟩
theorem Keeps.below {B : Nat} {w0 w w' : World} {S : Nat → Prop} (h : Keeps w w' S) (hb : Below B w0 w) (hB : B ≤ w.heap.size) (hS : ∀ k, S k → B ≤ k) : Below B w0 w' :=
  hb.trans ⟨h.os, h.tape, h.output, h.size, fun k hk => h.block k (Nat.lt_of_lt_of_le hk hB) (fun hs => by have := hS k hs; omega)⟩
def fr0 : Fr := ⟨-1, false, [], none, 0⟩
def PS.new (n : Nat) : PS := ⟨List.replicate n fr0, 0, 0, 0⟩

theorem MapAt.below {w w' : World} {gm N : Nat} {f : Int → Option Nat} (h : MapAt w gm N f) (hb : Below w.heap.size w w') : MapAt w' gm N f := by
  obtain ⟨D, h1, h2, h3⟩ := h
  exact ⟨D, World.ownsMap.kept (row := none) h1 ⟨hb.os, hb.tape, hb.output, hb.size, fun k hk _ => hb.block k hk⟩ (by simp), h2, h3⟩

theorem FOwn.mono {w : World} {B B' c : Nat} {A : Option Addr} {L : List Fr} (h : FOwn w B A c L) (hB : B' ≤ B) : FOwn w B' A c L := by
  refine ⟨h.1, ?_⟩
  rcases h.2 with h2 | ⟨g, cap, cur, hv, hb, r⟩
  · exact .inl h2
  · exact .inr ⟨g, cap, cur, hv, by omega, r⟩
/-- A store to another block turns no row of frames. -/
theorem FOwn.set {w : World} {B c : Nat} {A : Option Addr} {L : List Fr} (h : FOwn w B A c L) (p : Addr) (hne : ∀ a, A = some a → a.block ≠ p.block) (u : Value) : FOwn (w.setCell p u) B A c L := by
  refine World.ownsRow.kept (row := some p.block) h ⟨rfl, rfl, rfl, by simp, fun k _ hk => heap_setCell_other w p k u (fun e => hk (by rw [e]))⟩ ?_
  rw [own_block]
  cases A with
  | none => exact .inl rfl
  | some a => exact .inr (by simpa using hne a rfl)
theorem MapAt.set {w : World} {gm N : Nat} {f : Int → Option Nat} (h : MapAt w gm N f) (p : Addr) (hne : gm ≠ p.block) (u : Value) : MapAt (w.setCell p u) gm N f := by
  obtain ⟨D, h1, h2, h3⟩ := h
  exact ⟨D, World.ownsMap.kept (row := some p.block) h1 ⟨rfl, rfl, rfl, by simp, fun k _ hk => heap_setCell_other w p k u (fun e => hk (by rw [e]))⟩ (by simpa using hne), h2, h3⟩

theorem set_cells {w : World} {g : Nat} {cs : Array Value} {t : TypeId} (hg : w.heap[g]? = some (.cells cs t (0, 0))) (i : Nat) (u : Value) : (w.setCell ⟨g, i, none⟩ u).heap[g]? = some (.cells (cs.setIfInBounds i u) t (0, 0)) := heap_setCell_same w g i cs t u hg

set_option maxRecDepth 20000 in
set_option maxHeartbeats 1000000 in
theorem new_any (w : World) (n : Nat) (h0 : 0 < n) (hn : n ≤ 64) :
    Calls Try.prog 9 #[.int .i64 n] w fun e w' => ∃ (b : PB) (c : Nat), e = .returned (.tuple #[.pointer (some ⟨b.gp, 0, none⟩), .int .i64 0]) ∧ PoolAt w' w.heap.size b 0 c (PS.new n) ∧ Below w.heap.size w w' := by
  have hlo : ¬ (n : Int) < 1 := by omega
  have hhi : ¬ (64 : Int) < (n : Int) := by omega
  have hmm := @run_makeMap Try.prog
  go_enter Try.func9, Try.ntmps9
  go_wp2_with fail
  have hg0 : ((w.alloc (.map #[] 0)).alloc (.cells #[.slice none 0 0, .int .i64 0, .map (some w.heap.size), .int .i64 0, .int .i64 0] 62)).heap[w.heap.size + 1]? = some (.cells #[.slice none 0 0, .int .i64 0, .map (some w.heap.size), .int .i64 0, .int .i64 0] 62 (0, 0)) := by
    show ((w.heap.push _).push _)[w.heap.size + 1]? = _
    rw [show w.heap.size + 1 = (w.heap.push (Obj.map #[] 0)).size from by simp, Array.getElem?_push_size]
  have hB0 : Below w.heap.size w ((w.alloc (.map #[] 0)).alloc (.cells #[.slice none 0 0, .int .i64 0, .map (some w.heap.size), .int .i64 0, .int .i64 0] 62)) := ((Below.refl _ _).alloc (Nat.le_refl _) _).alloc (by simp) _
  have hm0 : MapAt ((w.alloc (.map #[] 0)).alloc (.cells #[.slice none 0 0, .int .i64 0, .map (some w.heap.size), .int .i64 0, .int .i64 0] 62)) w.heap.size 0 (fun _ => none) := by
    refine ⟨.map [], (World.ownsMap_made w _ _ _).alloc _, isMap_empty, fun k _ _ => ⟨rfl, fun i z h => by cases h⟩⟩
  have HG0 := Lib.hid hg0
  have HB0 := Lib.hid hB0
  have HM0 := Lib.hid hm0
  clear hg0 hB0 hm0 hmm
  go_loopw [15] (fun iv wr => ∃ (i : Nat) (A : Option Addr) (c : Nat), i ≤ n ∧ iv = .int .i64 i ∧
    Hid (wr.heap[w.heap.size + 1]? = some (.cells #[.slice A i c, .int .i64 0, .map (some w.heap.size), .int .i64 0, .int .i64 0] 62 (0, 0)) ∧ FOwn wr w.heap.size A c (List.replicate i fr0) ∧ MapAt wr w.heap.size 0 (fun _ => none) ∧ Below w.heap.size w wr)) (fun iv _ => n - (intOf iv).toNat)
  case atStart => exact ⟨0, none, 0, by omega, rfl, HG0.out, FOwn.nil _ _, HM0.out, HB0.out⟩
  case round =>
    obtain ⟨i, A, c, hi, rfl, HS⟩ := hrel
    clear HG0 HB0 HM0
    by_cases hlt : i < n
    · have hlti : (i : Int) < (n : Int) := by omega
      have hgs : w.heap.size + 1 < wr.heap.size := (Array.getElem?_eq_some_iff.1 HS.out.1).1
      have c0 : wr.cell? ⟨w.heap.size + 1, 0, none⟩ = some (.slice A i c) := by rw [cell_of_row wr _ 0 _ _ _ HS.out.1]; rfl
      have f0 : wr.frozen? ⟨w.heap.size + 1, 0, none⟩ = false := frozen_of_row wr _ 0 _ _ HS.out.1
      go_wp2_with fail
      have hx1 : Below wr.heap.size wr (wr.alloc (.cells #[.int .i64 (-1), .bool false, .slice none 0 0] 65)) := (Below.refl _ _).alloc (Nat.le_refl _) _
      have hx2 : Below wr.heap.size wr ((wr.alloc (.cells #[.int .i64 (-1), .bool false, .slice none 0 0] 65)).alloc (.cells #[.slice A i c, .slice (some ⟨wr.heap.size, 0, none⟩) 1 1] 60)) := hx1.alloc (by simp) _
      have hf1 : FRow (wr.alloc (.cells #[.int .i64 (-1), .bool false, .slice none 0 0] 65)) (some ⟨wr.heap.size, 0, none⟩) [fr0] := (FOwn.new (B := wr.heap.size) wr [fr0] (by simp [maxLen]) (Nat.le_refl _)).row
      have hf2 : FRow ((wr.alloc (.cells #[.int .i64 (-1), .bool false, .slice none 0 0] 65)).alloc (.cells #[.slice A i c, .slice (some ⟨wr.heap.size, 0, none⟩) 1 1] 60)) (some ⟨wr.heap.size, 0, none⟩) [fr0] := hf1.below ((Below.refl _ _).alloc (Nat.le_refl _) _)
      have hfA : FRow ((wr.alloc (.cells #[.int .i64 (-1), .bool false, .slice none 0 0] 65)).alloc (.cells #[.slice A i c, .slice (some ⟨wr.heap.size, 0, none⟩) 1 1] 60)) A (List.replicate i fr0) := HS.out.2.1.row.below hx2
      have hrow : Row ((wr.alloc (.cells #[.int .i64 (-1), .bool false, .slice none 0 0] 65)).alloc (.cells #[.slice A i c, .slice (some ⟨wr.heap.size, 0, none⟩) 1 1] 60)) (some ⟨wr.heap.size + 1, 0, none⟩) (([⟨A, c, List.replicate i fr0⟩, ⟨some ⟨wr.heap.size, 0, none⟩, 1, [fr0]⟩] : List FPart).map FPart.v) := by
        have h := Row.new (wr.alloc (.cells #[.int .i64 (-1), .bool false, .slice none 0 0] 65)) [.slice A i c, .slice (some ⟨wr.heap.size, 0, none⟩) 1 1] 60
        simpa [FPart.v] using h
      have hcat := concat_any ((wr.alloc (.cells #[.int .i64 (-1), .bool false, .slice none 0 0] 65)).alloc (.cells #[.slice A i c, .slice (some ⟨wr.heap.size, 0, none⟩) 1 1] 60)) (some ⟨wr.heap.size + 1, 0, none⟩) 2 [⟨A, c, List.replicate i fr0⟩, ⟨some ⟨wr.heap.size, 0, none⟩, 1, [fr0]⟩] hrow (by
        intro p hp
        simp only [List.mem_cons, List.not_mem_nil, or_false] at hp
        rcases hp with rfl | rfl
        · exact hfA
        · exact hf2) (by simp) (by simp [lens]) (by simp [lens]; omega)
      have hB2 : Below w.heap.size w ((wr.alloc (.cells #[.int .i64 (-1), .bool false, .slice none 0 0] 65)).alloc (.cells #[.slice A i c, .slice (some ⟨wr.heap.size, 0, none⟩) 1 1] 60)) := HS.out.2.2.2.trans (hx2.mono HS.out.2.2.2.size)
      have hG2 := (hx2.block _ hgs).trans HS.out.1
      have hM2 := HS.out.2.2.1.below hx2
      have HI := Lib.hid (And.intro hB2 (And.intro hG2 hM2))
      have hz2 := hB2.size
      have hzz : w.heap.size + 1 < ((wr.alloc (.cells #[.int .i64 (-1), .bool false, .slice none 0 0] 65)).alloc (.cells #[.slice A i c, .slice (some ⟨wr.heap.size, 0, none⟩) 1 1] 60)).heap.size := Nat.lt_of_lt_of_le hgs hx2.size
      clear hx1 hx2 hf1 hf2 hfA hrow hB2 hG2 hM2 c0 f0
      simp only [List.length_cons, List.length_nil, Nat.zero_add, Nat.reduceAdd, List.flatMap_cons, List.flatMap_nil, List.append_nil] at hcat
      generalize ((wr.alloc (.cells #[.int .i64 (-1), .bool false, .slice none 0 0] 65)).alloc (.cells #[.slice A i c, .slice (some ⟨wr.heap.size, 0, none⟩) 1 1] 60)) = W2 at hcat HI hz2 hzz ⊢
      refine hcat.mono ?_
      rintro e w5 ⟨A5, c5, rfl, ho5, hb5⟩
      obtain ⟨hB2, hG2, hM2⟩ := HI.out
      have hG5 := (hb5.block _ hzz).trans hG2
      have f5 : w5.frozen? ⟨w.heap.size + 1, 0, none⟩ = false := frozen_of_row w5 _ 0 _ _ hG5
      have c5x : w5.cell? ⟨w.heap.size + 1, 0, none⟩ = some (.slice A i c) := by rw [cell_of_row w5 _ 0 _ _ _ hG5]; rfl
      have e1 := set_cells hG5 0 (.slice A5 (i + 1) c5)
      simp at e1
      have hL : List.replicate i fr0 ++ [fr0] = List.replicate (i + 1) fr0 := by rw [List.replicate_succ']
      rw [hL] at ho5 ⊢
      have hfin : (w5.setCell ⟨w.heap.size + 1, 0, none⟩ (.slice A5 (i + 1) c5)).heap[w.heap.size + 1]? = some (.cells #[.slice A5 (i + 1) c5, .int .i64 0, .map (some w.heap.size), .int .i64 0, .int .i64 0] 62 (0, 0)) ∧ FOwn (w5.setCell ⟨w.heap.size + 1, 0, none⟩ (.slice A5 (i + 1) c5)) w.heap.size A5 c5 (List.replicate (i + 1) fr0) ∧
          MapAt (w5.setCell ⟨w.heap.size + 1, 0, none⟩ (.slice A5 (i + 1) c5)) w.heap.size 0 (fun _ => none) ∧ Below w.heap.size w (w5.setCell ⟨w.heap.size + 1, 0, none⟩ (.slice A5 (i + 1) c5)) := by
        refine ⟨e1, (ho5.mono hz2).set _ (fun a ha => ?_) _, (hM2.below hb5).set _ (by show w.heap.size ≠ w.heap.size + 1; omega) _, (hB2.trans (hb5.mono hz2)).setCell (p := ⟨w.heap.size + 1, 0, none⟩) (by show w.heap.size ≤ w.heap.size + 1; omega) _⟩
        have h1 := (World.ownsRow.lt ho5 a.block (by rw [ha]; rfl)).1
        show a.block ≠ w.heap.size + 1
        omega
      have HFIN := Lib.hid hfin
      clear hfin e1 hG5 ho5 hb5 hB2 hG2 hM2 hL
      simp only [List.length_replicate]
      go_wp2_with fail
      go_roundw
      case rel => exact ⟨i + 1, A5, c5, by omega, by go_num, HFIN.out⟩
      case measure => simp [intOf]; omega
    · obtain rfl : i = n := by omega
      have hlti : ¬ (i : Int) < (i : Int) := by omega
      go_wp2_with fail
      go_ret2
      obtain ⟨h1, h2, h3, h4⟩ := HS.out
      obtain ⟨gf, rfl, hgf⟩ : ∃ gf, A = some ⟨gf, 0, none⟩ ∧ w.heap.size ≤ gf := by
        rcases h2.2 with ⟨hv, hz⟩ | ⟨g, cap, cur, hv, hb, _⟩
        · simp at hz; omega
        · simp only [Value.slice.injEq] at hv
          exact ⟨g, hv.1, hb⟩
      refine ⟨⟨w.heap.size + 1, gf, w.heap.size⟩, rfl, ⟨c, by show w.heap.size ≤ w.heap.size + 1; omega, hgf, Nat.le_refl _, ?_, h2, ?_, ?_, ?_⟩, h4⟩
      · simpa [PS.new] using h1
      · have e : whereOf (PS.new i).L = fun _ => none := by
          funext k
          unfold whereOf PS.new
          split
          · rw [List.findIdx?_eq_none_iff]
            intro x hx
            rw [List.eq_of_mem_replicate hx]
            simp [fr0]
            omega
          · rfl
        rw [e]
        exact h3
      · intro f hf
        rw [List.eq_of_mem_replicate hf]
        exact BRow.nil
      · intro f hf a ha
        rw [List.eq_of_mem_replicate hf] at ha
        cases ha
end Go.Proofs.Ytjaopecjmmnbiaa
