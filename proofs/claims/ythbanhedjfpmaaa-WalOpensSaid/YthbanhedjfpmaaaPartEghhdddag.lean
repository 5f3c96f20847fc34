/-
  Texts of a proof, one behind the other (each with its own head).
-/
import Derived.Test.YthbanhedjfpmaaaPartDjchhgpih
import Derived.Laws.ResultCell
section
/-
  The plan rule, step by step: what is still to be walked stays folded.
-/
namespace Go.Proofs.Ythbanhedjfpmaaa
set_option linter.unusedSimpArgs false
set_option linter.unusedVariables false
open Go

section
variable (P : Program) (ops : Array Oper) (Q : Exit → Act → World → Prop) (T : Act → World → Prop)
theorem again_nil (a : Act) (w : World) : again P ops T [] a w = T a w := rfl
theorem again_cons (i : Nat) (r : List Nat) (a : Act) (w : World) : again P ops T (i :: r) a w = ∀ Z : Exit → Act → World → Prop, (again P ops T r a w → Z .normal a w) → wpList P ops Z (sel ops i) a w := rfl
theorem walk_fin (a : Act) (w : World) : walk P ops Q .fin a w = Q .normal a w := rfl
theorem walk_take (i : Nat) (p : Plan) (a : Act) (w : World) : walk P ops Q (.take i p) a w = ∀ Z : Exit → Act → World → Prop, (∀ a', walk P ops Q p a' w → Z .normal a' w) → wpList P ops Z (sel ops i) a w := rfl
theorem walk_run (e : Nat) (ag : List Nat) (p : Plan) (a : Act) (w : World) : walk P ops Q (.run e ag p) a w = ∀ Z : Exit → Act → World → Prop, (∀ a' w', again P ops (walk P ops Q p) ag a' w' → Z .normal a' w') → wpList P ops Z (sel ops e) a w := rfl
theorem walk_fork (p q : Plan) (a : Act) (w : World) : walk P ops Q (.fork p q) a w = (walk P ops Q p a w ∧ walk P ops Q q a w) := rfl
end
end Go.Proofs.Ythbanhedjfpmaaa
end

section
/-
  A call's own blocks (its struct variables), beside a document's disk.
-/
namespace Go.Proofs.Ythbanhedjfpmaaa
set_option linter.unusedSimpArgs false
set_option linter.unusedVariables false
open Go.RowKit

theorem _root_.Go.RowKit.Below.drewL {W w1 : World} (h : Below W.drew.heap.size W.drew w1) : Below W.heap.size W w1 := (below_drew W).trans h
theorem Blk.keptBy {w w' : World} {g g' : Nat} {T : TypeId} {cs : List Value} (h : Blk w g T cs) (hg : w.grownBy w' (some g')) (hne : g ≠ g') : Blk w' g T cs := (hg.block g h.lt (by simpa using hne)).trans h
theorem RefX.extend {S S' : Nat → Prop} {w : World} {c : List Value} {x : RX} (h : RefX S w c x) (hS : ∀ i, S' i → S i ∨ w.heap.size ≤ i) : RefX S' w c x := by
  obtain ⟨As, cs, Ap, cp, Af, cf, h1, h2, h3, h4⟩ := h
  have g : ∀ {α : Type} {E : Elem α} {A : Option Addr} {L : List α}, RowX S E w A L → RowX S' E w A L := fun {α E A L} h => ⟨h.1, fun hl a ha hs => by
    rcases hS _ hs with h' | h'
    · exact h.2 hl a ha h'
    · obtain ⟨b, o, e, hb, -⟩ := h.1.at_ (j := 0) (List.length_pos_iff.2 hl)
      rw [ha] at e
      obtain rfl := Option.some.inj e
      simp only at h'
      omega⟩
  exact ⟨As, cs, Ap, cp, Af, cf, h1, g h2, g h3, g h4⟩
theorem RefX.less {S S' : Nat → Prop} {w : World} {c : List Value} {x : RX} (h : RefX S w c x) (hS : ∀ i, S' i → S i) : RefX S' w c x := h.extend fun i hi => .inl (hS i hi)
theorem RefX.store {S : Nat → Prop} {w w' : World} {c : List Value} {x : RX} {g : Nat} (h : RefX S w c x) (hg : w.grownBy w' (some g)) (hs : S g) : RefX S w' c x := h.kept ((Keeps.of_grown hg).mono fun i hi => hi ▸ hs)
/-- A block of one's own: its number, its type, its cells. -/
structure LB where
  g : Nat
  t : TypeId
  cs : List Value
def inL (S : Nat → Prop) (bs : List LB) (i : Nat) : Prop := S i ∨ ∃ b ∈ bs, b.g = i
structure Loc (S : Nat → Prop) (w W : World) (bs : List LB) (cx : List Value) (x : RX) : Prop where
  blk : ∀ b ∈ bs, Blk W b.g b.t b.cs
  nodup : (bs.map (·.g)).Nodup
  lo : ∀ b ∈ bs, w.heap.size ≤ b.g
  bel : Below w.heap.size w W
  rx : RefX (inL S bs) W cx x
  hS : ∀ i, S i → i < w.heap.size
section
variable {S : Nat → Prop} {w W W' : World} {bs : List LB} {cx cx' : List Value} {x x' : RX}
theorem Loc.start (h : RefX S w cx x) (hS : ∀ i, S i → i < w.heap.size) : Loc S w w [] cx x :=
  ⟨by simp, by simp, by simp, Below.refl _ _, h.less (fun i hi => by
    rcases hi with hi | ⟨b, hb, -⟩
    · exact hi
    · cases hb), hS⟩
theorem Loc.lt (h : Loc S w W bs cx x) : ∀ i, inL S bs i → i < W.heap.size := fun i hi => by
  rcases hi with hi | ⟨b, hb, rfl⟩
  · exact Nat.lt_of_lt_of_le (h.hS i hi) h.bel.size
  · exact (h.blk b hb).lt
theorem Loc.at_ (h : Loc S w W bs cx x) (k : Nat) {b : LB} (hk : bs[k]? = some b) : Blk W b.g b.t b.cs := h.blk b (List.mem_of_getElem? hk)
theorem Loc.alloc (h : Loc S w W bs cx x) (a : Array Value) (t : TypeId) : Loc S w (W.alloc (.cells a t)) (bs ++ [⟨W.heap.size, t, a.toList⟩]) cx x := by
  have hb := Below.alloc1 W (.cells a t)
  have hlt := fun b hb' => (h.blk b hb').lt
  refine ⟨fun b hb' => ?_, ?_, fun b hb' => ?_, h.bel.then hb, (h.rx.extend fun i hi => ?_).below hb, h.hS⟩
  · rcases List.mem_append.1 hb' with h' | h'
    · exact (h.blk b h').below hb
    · simp only [List.mem_singleton] at h'
      subst h'
      exact (fresh1 (w := W) (a := a.toList) (t := t) (by simp)).1
  · rw [List.map_append, List.nodup_append]
    refine ⟨h.nodup, by simp, fun a ha b hb' e => ?_⟩
    simp only [List.map_cons, List.map_nil, List.mem_singleton] at hb'
    subst hb' e
    obtain ⟨c, hc, e⟩ := List.mem_map.1 ha
    have := hlt c hc
    omega
  · rcases List.mem_append.1 hb' with h' | h'
    · exact h.lo b h'
    · simp only [List.mem_singleton] at h'
      subst h'
      exact h.bel.size
  · rcases hi with hi | ⟨b, hb', rfl⟩
    · exact .inl (.inl hi)
    · rcases List.mem_append.1 hb' with h' | h'
      · exact .inl (.inr ⟨b, h', rfl⟩)
      · simp only [List.mem_singleton] at h'
        subst h'
        exact .inr (Nat.le_refl _)
theorem Loc.call (h : Loc S w W bs cx x) (hb : Below W.heap.size W W') (hx : RefX (inL S bs) W' cx' x') : Loc S w W' bs cx' x' :=
  ⟨fun b h' => (h.blk b h').below hb, h.nodup, h.lo, h.bel.then hb, hx, h.hS⟩
theorem Loc.below (h : Loc S w W bs cx x) (hb : Below W.heap.size W W') : Loc S w W' bs cx x := h.call hb (h.rx.below hb)
theorem Loc.drew (h : Loc S w W bs cx x) : Loc S w W.drew bs cx x := h.below (below_drew W)
theorem Loc.store (h : Loc S w W bs cx x) (k : Nat) {b : LB} (hk : bs[k]? = some b) (i : Nat) (vs : List Value) {cs' : List Value} (hcs : setFrom b.cs i vs = cs') : Loc S w (W.setCells b.g i vs) (bs.set k ⟨b.g, b.t, cs'⟩) cx x := by
  subst hcs
  have hm := List.mem_of_getElem? hk
  obtain ⟨hlt, hget⟩ := List.getElem?_eq_some_iff.1 hk
  have hgs := grown_setCells W b.g i vs
  have hmap : (bs.set k ⟨b.g, b.t, setFrom b.cs i vs⟩).map (·.g) = bs.map (·.g) := by
    rw [List.map_set]
    refine List.ext_getElem? fun j => ?_
    by_cases e : k = j
    · subst e
      rw [List.getElem?_set_self (by simpa using hlt), List.getElem?_map, hk]
      rfl
    · rw [List.getElem?_set_ne e]
  have hin : ∀ i', inL S (bs.set k ⟨b.g, b.t, setFrom b.cs i vs⟩) i' → inL S bs i' := fun i' hi => by
    rcases hi with hi | ⟨c, hc, e⟩
    · exact .inl hi
    · have : c.g ∈ bs.map (·.g) := by rw [← hmap]; exact List.mem_map.2 ⟨c, hc, rfl⟩
      obtain ⟨c', hc', e'⟩ := List.mem_map.1 this
      exact .inr ⟨c', hc', by rw [e', e]⟩
  refine ⟨fun c hc => ?_, by rw [hmap]; exact h.nodup, fun c hc => ?_, below_of_grown h.bel hgs (h.lo b hm) h.bel.size, (h.rx.store hgs (.inr ⟨b, hm, rfl⟩)).less hin, h.hS⟩
  · obtain ⟨j, hj, ej⟩ := List.mem_iff_getElem.1 hc
    rw [List.length_set] at hj
    by_cases e : k = j
    · subst e
      rw [List.getElem_set_self] at ej
      subst ej
      exact (h.blk b hm).setCells i vs
    · rw [List.getElem_set_ne e] at ej
      have hcm : c ∈ bs := by rw [← ej]; exact List.getElem_mem hj
      refine (h.blk c hcm).keptBy hgs fun e2 => e ?_
      have hn := h.nodup
      have h1 : (bs.map (·.g))[k]'(by simpa using hlt) = (bs.map (·.g))[j]'(by simpa using hj) := by simp [hget, ej, e2]
      exact (List.getElem_inj hn).1 h1
  · have : c.g ∈ bs.map (·.g) := by rw [← hmap]; exact List.mem_map.2 ⟨c, hc, rfl⟩
    obtain ⟨c', hc', e'⟩ := List.mem_map.1 this
    rw [← e']
    exact h.lo c' hc'
/-- What a caller keeps of it. -/
theorem Loc.done (h : Loc S w W bs cx x) : RefX S W cx x ∧ Below w.heap.size w W := ⟨h.rx.less fun i hi => .inl hi, h.bel⟩
end
theorem Blk.c11 {w : World} {g : Nat} {t : TypeId} {a b c d e f i j k l m : Value} (h : Blk w g t [a, b, c, d, e, f, i, j, k, l, m]) :
    (w.cell? ⟨g, 0, none⟩ = some a ∧ w.cell? ⟨g, 1, none⟩ = some b ∧ w.cell? ⟨g, 2, none⟩ = some c ∧ w.cell? ⟨g, 3, none⟩ = some d ∧ w.cell? ⟨g, 4, none⟩ = some e ∧ w.cell? ⟨g, 5, none⟩ = some f ∧
    w.cell? ⟨g, 6, none⟩ = some i ∧ w.cell? ⟨g, 7, none⟩ = some j ∧ w.cell? ⟨g, 8, none⟩ = some k ∧ w.cell? ⟨g, 9, none⟩ = some l ∧ w.cell? ⟨g, 10, none⟩ = some m) ∧
    (w.frozen? ⟨g, 0, none⟩ = false ∧ w.frozen? ⟨g, 1, none⟩ = false ∧ w.frozen? ⟨g, 2, none⟩ = false ∧ w.frozen? ⟨g, 3, none⟩ = false ∧ w.frozen? ⟨g, 4, none⟩ = false ∧ w.frozen? ⟨g, 5, none⟩ = false ∧
    w.frozen? ⟨g, 6, none⟩ = false ∧ w.frozen? ⟨g, 7, none⟩ = false ∧ w.frozen? ⟨g, 8, none⟩ = false ∧ w.frozen? ⟨g, 9, none⟩ = false ∧ w.frozen? ⟨g, 10, none⟩ = false ∧ g < w.heap.size) :=
  ⟨⟨h.cell 0, h.cell 1, h.cell 2, h.cell 3, h.cell 4, h.cell 5, h.cell 6, h.cell 7, h.cell 8, h.cell 9, h.cell 10⟩, h.free 0, h.free 1, h.free 2, h.free 3, h.free 4, h.free 5, h.free 6, h.free 7, h.free 8, h.free 9, h.free 10, h.lt⟩
theorem load_log {w : World} {g : Nat} {a b c d e f i j k l m : Value} (h : Blk w g 74 [a, b, c, d, e, f, i, j, k, l, m]) : (loadVar 74 ⟨g, 0, none⟩).run Try.prog w = .ok (.agg #[a, b, c, d, e, f, i, j, k, l, m]) w := by
  obtain ⟨⟨h0, h1, h2, h3, h4, h5, h6, h7, h8, h9, h10⟩, -⟩ := h.c11
  clear h
  go_simp
end Go.Proofs.Ythbanhedjfpmaaa
end

section
/-
  The document's journal in memory; the contract of its 'head'.
-/
namespace Go.Proofs.Ythbanhedjfpmaaa
set_option linter.unusedSimpArgs false
set_option linter.unusedVariables false
open Go.RowKit

/-- The journal's values behind its disk's. -/
def xlTail (l : LS) : List Value := [.int .i64 (l.at_ : Nat), .int .i64 (l.room : Nat), .int .u64 (l.seq : Nat), txt l.data, .int .i64 (l.count : Nat), .bool l.broken]
theorem ret_set11n {P : Program} {fn : Func} {R : Ending → World → Prop} {a : Act} {w : World} {p q : Tmp} {T : TypeId} {g : Nat} {old : List Value} {v0 v1 v2 v3 v4 v5 v6 v7 v8 v9 v10 r : Value} (hb : Blk w g T old) (hl : old.length = 11) (h : fn.results = #[.cell p T, .tmp q]) (hd : a.defers = [])
    (hp : a.tmps.getD p undef = .pointer (some ⟨g, 0, none⟩)) (hq : a.tmps.getD q undef = r) (hload : ∀ W : World, Blk W g T [v0, v1, v2, v3, v4, v5, v6, v7, v8, v9, v10] → (loadVar T ⟨g, 0, none⟩).run P W = .ok (.agg #[v0, v1, v2, v3, v4, v5, v6, v7, v8, v9, v10]) W)
    (hR : ∀ W, Blk W g T [v0, v1, v2, v3, v4, v5, v6, v7, v8, v9, v10] → W = w.setCells g 0 [v0, v1, v2, v3, v4, v5, v6, v7, v8, v9, v10] → R (.returned (.tuple #[.agg #[v0, v1, v2, v3, v4, v5, v6, v7, v8, v9, v10], r])) W) :
    bodyPost P fn R .ret a (((((((((((w.setCell ⟨g, 0, none⟩ v0).setCell ⟨g, 1, none⟩ v1).setCell ⟨g, 2, none⟩ v2).setCell ⟨g, 3, none⟩ v3).setCell ⟨g, 4, none⟩ v4).setCell ⟨g, 5, none⟩ v5).setCell ⟨g, 6, none⟩ v6).setCell ⟨g, 7, none⟩ v7).setCell ⟨g, 8, none⟩ v8).setCell ⟨g, 9, none⟩ v9).setCell ⟨g, 10, none⟩ v10) := by
  have hW : Blk (w.setCells g 0 [v0, v1, v2, v3, v4, v5, v6, v7, v8, v9, v10]) g T [v0, v1, v2, v3, v4, v5, v6, v7, v8, v9, v10] := hb.setAll _ (by rw [hl]; rfl)
  exact ret_mem2 (w := w.setCells g 0 [v0, v1, v2, v3, v4, v5, v6, v7, v8, v9, v10]) h hd hp hq (hload _ hW) (hR _ hW rfl)
/-- The journal behind a head that was written, or not. -/
def LS.put (l : LS) (s : Nat) (b : List UInt8) (e : Int) : LS := if e = 0 then { l with seq := s, data := b } else { l with broken := true }
/-- What a call answers: a journal, and a number. -/
def RetL (S : Nat → Prop) (w : World) (d : DS) (l : LS) (r : Int) (e : Ending) (w' : World) : Prop := ∃ c, e = .returned (.tuple #[.agg (c ++ xlTail l).toArray, .int .i64 r]) ∧ RefX S w' c d.rx ∧ Below w.heap.size w w'
set_option maxRecDepth 20000 in
set_option maxHeartbeats 4000000 in
theorem refhd_any (S : Nat → Prop) (w : World) (hS : ∀ i, S i → i < w.heap.size) (d : DS) (l : LS) (c : List Value) (h : RefX S w c d.rx) (hG : DGood d) (hch : d.changes < 1000000) (hpl : d.pending.length < 100000) (hat : l.at_ ≤ 5000) (s : Nat) (hs : s ≤ Wal.last62) (b : List UInt8) (hb : b.length ≤ 1000000) :
    Calls Try.prog 72 #[.agg (c ++ xlTail l).toArray, .int .u64 (s : Nat), txt b] w (RetL S w (d.head l.at_ s b.length).1 (l.put s b (d.head l.at_ s b.length).2) (d.head l.at_ s b.length).2) := by
  obtain ⟨r, hr⟩ : ∃ r, r = d.head l.at_ s b.length := ⟨_, rfl⟩
  rw [← hr]
  obtain ⟨d2, e2⟩ := r
  simp only
  have HL := Lib.hid (Loc.start h hS)
  obtain ⟨As, cs, Ap, cp, Af, cf, rfl⟩ := h.open_
  have hsz : (ByteArray.mk b.toArray).size = b.length := by simp [ByteArray.size]
  have hs64 : s < 18446744073709551616 := Nat.lt_of_le_of_lt hs (by decide)
  have hm2 : ((s : Int).tmod 2) = ((s % 2 : Nat) : Int) := by rw [Int.tmod_eq_emod_of_nonneg (by omega)]; rfl
  have HN : Hid (b.length < two64) := Nat.lt_of_le_of_lt hb (by decide)
  have HL5 := Lib.hid (Wal.headL_length s b.length)
  have hcast : ((l.at_ + s % 2 : Nat) : Int) = (l.at_ : Int) + (s : Int) % 2 := by omega
  have HP : Hid (∀ (S' : Nat → Prop) (W' : World) (cc : List Value), (∀ i, S' i → i < W'.heap.size) → RefX S' W' cc d.rx → Calls Try.prog 35 #[.agg cc.toArray, .int .i64 ((l.at_ : Int) + (s : Int) % 2), .string ⟨(Wal.headL s b.length).toArray⟩] W' (RetXN S' W' ((d.write ((l.at_ : Int) + (s : Int) % 2) (Wal.headL s b.length)).1.rx, (d.write ((l.at_ : Int) + (s : Int) % 2) (Wal.headL s b.length)).2))) := fun S' W' cc h1 h2 =>
    refput_any S' W' h1 d cc h2 hG (by omega) (by omega) _ _ (by rw [HL5.out]; decide)
  have hg1 := hG.write (by omega) ((l.at_ : Int) + (s : Int) % 2) (Wal.headL s b.length)
  have hc1' := write_changes d ((l.at_ : Int) + (s : Int) % 2) (Wal.headL s b.length)
  have hd := hr
  unfold DS.head at hd
  rw [hcast] at hd
  generalize d.write ((l.at_ : Int) + (s : Int) % 2) (Wal.headL s b.length) = wr at HP hg1 hc1' hd
  obtain ⟨d1, e1⟩ := wr
  simp only at HP hg1 hc1' hd
  have HG1 := Lib.hid (And.intro hg1 hc1')
  have HE := Lib.hid hd
  clear hd hg1 hc1' hcast hG hr h hS
  go_enter Try.func72, Try.ntmps72
  unfold xlTail txt
  go_upto_region 1 with (fail)
  have H0 := Lib.hid ((HL.out.alloc #[.slice As d.rx.sure.length cs, .slice Ap d.rx.pend.length cp, .slice Af d.rx.falls.length cf, .int .i64 (d.rx.ch : Nat), .bool d.rx.down, .int .i64 (l.at_ : Nat), .int .i64 (l.room : Nat), .int .u64 (l.seq : Nat), .string ⟨l.data.toArray⟩, .int .i64 (l.count : Nat), .bool l.broken] 74).alloc
    #[.slice none 0 0, .slice none 0 0, .slice none 0 0, .int .i64 0, .bool false, .int .i64 0, .int .i64 0, .int .u64 0, .string ⟨#[]⟩, .int .i64 0, .bool false] 74)
  simp only [List.nil_append, List.cons_append] at H0
  have hz1 : (w.alloc (.cells #[.slice As d.rx.sure.length cs, .slice Ap d.rx.pend.length cp, .slice Af d.rx.falls.length cf, .int .i64 (d.rx.ch : Nat), .bool d.rx.down, .int .i64 (l.at_ : Nat), .int .i64 (l.room : Nat), .int .u64 (l.seq : Nat), .string ⟨l.data.toArray⟩, .int .i64 (l.count : Nat), .bool l.broken] 74)).heap.size = w.heap.size + 1 := by simp
  rw [hz1] at H0
  clear hz1
  generalize ((w.alloc _).alloc _) = W at H0 ⊢
  have hc0 := (H0.out.at_ 0 rfl).c11
  refine wp_region_plan (.take 0 (.take 1 (.take 2 (.take 3 (.take 4 (.take 5 (.take 6 (.take 7 (.take 8 (.take 9 (.take 10 (.take 11 (.fork (.run 12 [0, 1, 2, 3, 4, 5, 6, 7] (.fork (.run 13 [] (.take 14 (.take 15 (.take 16 (.run 17 [14, 15, 16] (.run 18 [16] (.take 19 .fin))))))) (.run 17 [0, 1, 2, 3, 4, 5, 6, 7] (.run 13 [] (.take 14 (.take 15 (.take 16 (.run 18 [16] (.take 19 .fin))))))))) (.run 17 [0, 1, 2, 3, 4, 5, 6, 7, 8, 9, 10, 11] (.run 12 [0, 1, 2, 3, 4, 5, 6, 7] (.run 13 [] (.take 14 (.take 15 (.take 16 (.run 18 [16] (.take 19 .fin))))))))))))))))))))) (by kernel_rfl) (by kernel_rfl) (by kernel_rfl) (by kernel_rfl) ?_
  repeat' (first | (refine hZ _ _ ?_; clear hZ) | (refine hZ _ ?_; clear hZ) | (refine hZ ?_; clear hZ) | rw [again_nil] | rw [walk_fin] | ((first | rw [walk_take] | rw [walk_run] | rw [again_cons]); intro Z hZ; simp only [sel, List.getElem?_toArray, List.getElem?_cons_zero, List.getElem?_cons_succ]; go_wp2_with (fail)))
  have H0d := Lib.hid H0.out.drew
  rw [walk_fork]
  refine ⟨?_, ?_⟩
  · repeat' (first | (refine hZ _ _ ?_; clear hZ) | (refine hZ _ ?_; clear hZ) | (refine hZ ?_; clear hZ) | rw [again_nil] | rw [walk_fin] | ((first | rw [walk_take] | rw [walk_run] | rw [again_cons]); intro Z hZ; simp only [sel, List.getElem?_toArray, List.getElem?_cons_zero, List.getElem?_cons_succ]; go_wp2_with (fail)))
    refine (refhead_any _ s b.length hs64 HN.out).mono ?_
    rintro e w1 ⟨rfl, hb1⟩
    have H1 := Lib.hid (H0d.out.below hb1)
    have hc1 := (H1.out.at_ 0 rfl).c11
    clear hb1 hc0 H0d
    unfold txt
    go_wp2_with fail
    repeat' (first | (refine hZ _ _ ?_; clear hZ) | (refine hZ _ ?_; clear hZ) | (refine hZ ?_; clear hZ) | rw [again_nil] | rw [walk_fin] | ((first | rw [walk_take] | rw [walk_run] | rw [again_cons]); intro Z hZ; simp only [sel, List.getElem?_toArray, List.getElem?_cons_zero, List.getElem?_cons_succ]; go_wp2_with (fail)))
    rw [walk_fork]
    refine ⟨?_, ?_⟩
    · clear H0
      repeat' (first | (refine hZ _ _ ?_; clear hZ) | (refine hZ _ ?_; clear hZ) | (refine hZ ?_; clear hZ) | rw [again_nil] | rw [walk_fin] | ((first | rw [walk_take] | rw [walk_run] | rw [again_cons]); intro Z hZ; simp only [sel, List.getElem?_toArray, List.getElem?_cons_zero, List.getElem?_cons_succ]; go_wp2_with (fail)))
      refine (HP.out _ _ _ H1.out.lt H1.out.rx).mono ?_
      rintro e w3 ⟨c3, rfl, hx3, hb3⟩
      have H3 := Lib.hid (H1.out.call hb3 hx3)
      obtain ⟨As3, cs3, Ap3, cp3, Af3, cf3, rfl⟩ := hx3.open_
      clear hb3 hx3 hc1 H1 HP
      go_wp2_with fail
      repeat' (first | (refine hZ _ _ ?_; clear hZ) | (refine hZ _ ?_; clear hZ) | (refine hZ ?_; clear hZ) | rw [again_nil] | rw [walk_fin] | ((first | rw [walk_take] | rw [walk_run] | rw [again_cons]); intro Z hZ; simp only [sel, List.getElem?_toArray, List.getElem?_cons_zero, List.getElem?_cons_succ]; go_wp2_with (fail)))
      have H5 := Lib.hid (H3.out.alloc #[.slice As3 d1.rx.sure.length cs3, .slice Ap3 d1.rx.pend.length cp3, .slice Af3 d1.rx.falls.length cf3, .int .i64 (d1.rx.ch : Nat), .bool d1.rx.down] 54)
      simp only [List.nil_append, List.cons_append] at H5
      obtain ⟨gd, hgd⟩ : ∃ gd, gd = w3.heap.size := ⟨_, rfl⟩
      rw [← hgd] at H5 ⊢
      clear hgd H3
      generalize (w3.alloc _) = W5 at H5 ⊢
      rcases Classical.em (e1 = 0) with he | he
      · subst he
        rw [if_neg (by simp)] at HE
        have hcd := (H5.out.at_ 2 rfl).c5
        have HFL := Lib.hid (refflush_any _ W5 H5.out.lt d1 _ H5.out.rx HG1.out.1 (by have := HG1.out.2; omega))
        rw [← HE.out] at HFL
        go_wp2_with fail
        refine HFL.out.mono ?_
        rintro e w6 ⟨c6, rfl, hx6, hb6⟩
        simp only at hx6
        obtain ⟨As6, cs6, Ap6, cp6, Af6, cf6, rfl⟩ := hx6.open_
        have H6 := Lib.hid (H5.out.call hb6 hx6)
        clear hx6 hb6 hcd HFL H5
        have hcd := (H6.out.at_ 2 rfl).c5
        go_upto_region 4 with (fail)
        have H7 := Lib.hid (H6.out.store 2 rfl 0 [.slice As6 d2.rx.sure.length cs6, .slice Ap6 d2.rx.pend.length cp6, .slice Af6 d2.rx.falls.length cf6, .int .i64 (d2.rx.ch : Nat), .bool d2.rx.down] rfl)
        clear hcd H6
        simp only [World.setCells, Nat.zero_add, Nat.reduceAdd, List.set_cons_succ, List.set_cons_zero, setFrom] at H7
        generalize (((((World.setCell w6 _ _).setCell _ _).setCell _ _).setCell _ _).setCell _ _) = W7 at H7 ⊢
        have hcd := (H7.out.at_ 2 rfl).c5
        have hcb := (H7.out.at_ 0 rfl).c11
        go_upto_region 5 with (fail)
        have H8 := Lib.hid (H7.out.store 0 rfl 0 [.slice As6 d2.rx.sure.length cs6, .slice Ap6 d2.rx.pend.length cp6, .slice Af6 d2.rx.falls.length cf6, .int .i64 (d2.rx.ch : Nat), .bool d2.rx.down] rfl)
        clear hcd hcb H7
        simp only [World.setCells, Nat.zero_add, Nat.reduceAdd, List.set_cons_succ, List.set_cons_zero, setFrom] at H8
        generalize (((((World.setCell W7 _ _).setCell _ _).setCell _ _).setCell _ _).setCell _ _) = W8 at H8 ⊢
        have hcb := (H8.out.at_ 0 rfl).c11
        rcases Classical.em (e2 = 0) with he | he
        · subst he
          go_upto_region 9 with (fail)
          have H9 := Lib.hid (H8.out.store 0 rfl 7 [.int .u64 (s : Nat), txt b] rfl)
          clear hcb H8
          unfold txt at H9
          simp only [World.setCells, Nat.reduceAdd, List.set_cons_succ, List.set_cons_zero, setFrom] at H9
          generalize ((World.setCell W8 _ _).setCell _ _) = W9 at H9 ⊢
          have hcb := (H9.out.at_ 0 rfl).c11
          have hcr := (H9.out.at_ 1 rfl).c11
          go_wp2_with fail
          have hbr : Blk W9 (w.heap.size + 1) 74 _ := H9.out.at_ 1 rfl
          refine ret_set11n hbr rfl rfl rfl rfl rfl (fun W hW => load_log hW) fun W2 hW hg => ?_
          subst hg
          have HX := (H9.out.store 1 rfl 0 [.slice As6 d2.rx.sure.length cs6, .slice Ap6 d2.rx.pend.length cp6, .slice Af6 d2.rx.falls.length cf6, .int .i64 (d2.rx.ch : Nat), .bool d2.rx.down, .int .i64 (l.at_ : Nat), .int .i64 (l.room : Nat), .int .u64 (s : Nat), .string ⟨b.toArray⟩, .int .i64 (l.count : Nat), .bool l.broken] rfl).done
          exact ⟨_, rfl, HX⟩
        · have hen : (e2 != 0) = true := by simpa using he
          have HP2 : Hid (l.put s b e2 = { l with broken := true }) := by show _ = _; unfold LS.put; rw [if_neg he]
          clear he
          go_upto_region 7 with (fail)
          have H9 := Lib.hid (H8.out.store 0 rfl 10 [.bool true] rfl)
          clear hcb H8
          simp only [World.setCells, Nat.reduceAdd, List.set_cons_succ, List.set_cons_zero, setFrom] at H9
          generalize (World.setCell W8 _ _) = W9 at H9 ⊢
          have hcb := (H9.out.at_ 0 rfl).c11
          have hcr := (H9.out.at_ 1 rfl).c11
          go_wp2_with fail
          have hbr : Blk W9 (w.heap.size + 1) 74 _ := H9.out.at_ 1 rfl
          refine ret_set11n hbr rfl rfl rfl rfl rfl (fun W hW => load_log hW) fun W2 hW hg => ?_
          subst hg
          have HX := (H9.out.store 1 rfl 0 [.slice As6 d2.rx.sure.length cs6, .slice Ap6 d2.rx.pend.length cp6, .slice Af6 d2.rx.falls.length cf6, .int .i64 (d2.rx.ch : Nat), .bool d2.rx.down, .int .i64 (l.at_ : Nat), .int .i64 (l.room : Nat), .int .u64 (l.seq : Nat), .string ⟨l.data.toArray⟩, .int .i64 (l.count : Nat), .bool true] rfl).done
          rw [HP2.out]
          exact ⟨_, rfl, HX⟩
      · have hen : (e1 == 0) = false := by simpa using he
        have hen2 : (e1 != 0) = true := by simpa using he
        rw [if_pos he] at HE
        obtain ⟨hd2, rfl⟩ : d2 = d1 ∧ e2 = e1 := by have := HE.out; simpa using this
        have HD2 := Lib.hid hd2
        have HP2 : Hid (l.put s b e2 = { l with broken := true }) := by show _ = _; unfold LS.put; rw [if_neg he]
        clear he hd2 HE
        have hcd := (H5.out.at_ 2 rfl).c5
        have hcb := (H5.out.at_ 0 rfl).c11
        go_upto_region 5 with (fail)
        have H8 := Lib.hid (H5.out.store 0 rfl 0 [.slice As3 d1.rx.sure.length cs3, .slice Ap3 d1.rx.pend.length cp3, .slice Af3 d1.rx.falls.length cf3, .int .i64 (d1.rx.ch : Nat), .bool d1.rx.down] rfl)
        clear hcd hcb H5
        simp only [World.setCells, Nat.zero_add, Nat.reduceAdd, List.set_cons_succ, List.set_cons_zero, setFrom] at H8
        generalize (((((World.setCell W5 _ _).setCell _ _).setCell _ _).setCell _ _).setCell _ _) = W8 at H8 ⊢
        have hcb := (H8.out.at_ 0 rfl).c11
        go_upto_region 7 with (fail)
        have H9 := Lib.hid (H8.out.store 0 rfl 10 [.bool true] rfl)
        clear hcb H8
        simp only [World.setCells, Nat.reduceAdd, List.set_cons_succ, List.set_cons_zero, setFrom] at H9
        generalize (World.setCell W8 _ _) = W9 at H9 ⊢
        have hcb := (H9.out.at_ 0 rfl).c11
        have hcr := (H9.out.at_ 1 rfl).c11
        go_wp2_with fail
        have hbr : Blk W9 (w.heap.size + 1) 74 _ := H9.out.at_ 1 rfl
        refine ret_set11n hbr rfl rfl rfl rfl rfl (fun W hW => load_log hW) fun W2 hW hg => ?_
        subst hg
        have HX := (H9.out.store 1 rfl 0 [.slice As3 d1.rx.sure.length cs3, .slice Ap3 d1.rx.pend.length cp3, .slice Af3 d1.rx.falls.length cf3, .int .i64 (d1.rx.ch : Nat), .bool d1.rx.down, .int .i64 (l.at_ : Nat), .int .i64 (l.room : Nat), .int .u64 (l.seq : Nat), .string ⟨l.data.toArray⟩, .int .i64 (l.count : Nat), .bool true] rfl).done
        rw [HP2.out, HD2.out]
        exact ⟨_, rfl, HX⟩
    · clear H0
      repeat' (first | (refine hZ _ _ ?_; clear hZ) | (refine hZ _ ?_; clear hZ) | (refine hZ ?_; clear hZ) | rw [again_nil] | rw [walk_fin] | ((first | rw [walk_take] | rw [walk_run] | rw [again_cons]); intro Z hZ; simp only [sel, List.getElem?_toArray, List.getElem?_cons_zero, List.getElem?_cons_succ]; go_wp2_with (fail)))
      have H2 := Lib.hid (H1.out.alloc #[.slice none 0 0, .slice none 0 0, .slice none 0 0, .int .i64 0, .bool false] 54)
      simp only [List.nil_append, List.cons_append] at H2
      obtain ⟨gd, hgd⟩ : ∃ gd, gd = (w1).heap.size := ⟨_, rfl⟩
      rw [← hgd] at H2 ⊢
      clear hgd H1
      generalize (World.alloc w1 _) = W2 at H2 ⊢
      have hc1 := (H2.out.at_ 0 rfl).c11
      refine (HP.out _ _ _ H2.out.lt H2.out.rx).mono ?_
      rintro e w3 ⟨c3, rfl, hx3, hb3⟩
      have H3 := Lib.hid (H2.out.call hb3 hx3)
      obtain ⟨As3, cs3, Ap3, cp3, Af3, cf3, rfl⟩ := hx3.open_
      clear hb3 hx3 hc1 H2 HP
      have hcd := (H3.out.at_ 2 rfl).c5
      go_wp2_with fail
      repeat' (first | (refine hZ _ _ ?_; clear hZ) | (refine hZ _ ?_; clear hZ) | (refine hZ ?_; clear hZ) | rw [again_nil] | rw [walk_fin] | ((first | rw [walk_take] | rw [walk_run] | rw [again_cons]); intro Z hZ; simp only [sel, List.getElem?_toArray, List.getElem?_cons_zero, List.getElem?_cons_succ]; go_wp2_with (fail)))
      have H5 := Lib.hid (H3.out.store 2 rfl 0 [.slice As3 d1.rx.sure.length cs3, .slice Ap3 d1.rx.pend.length cp3, .slice Af3 d1.rx.falls.length cf3, .int .i64 (d1.rx.ch : Nat), .bool d1.rx.down] rfl)
      clear hcd H3
      simp only [World.setCells, Nat.zero_add, Nat.reduceAdd, List.set_cons_succ, List.set_cons_zero, setFrom] at H5
      generalize (((((World.setCell w3 _ _).setCell _ _).setCell _ _).setCell _ _).setCell _ _) = W5 at H5 ⊢
      rcases Classical.em (e1 = 0) with he | he
      · subst he
        rw [if_neg (by simp)] at HE
        have hcd := (H5.out.at_ 2 rfl).c5
        have HFL := Lib.hid (refflush_any _ W5 H5.out.lt d1 _ H5.out.rx HG1.out.1 (by have := HG1.out.2; omega))
        rw [← HE.out] at HFL
        go_wp2_with fail
        refine HFL.out.mono ?_
        rintro e w6 ⟨c6, rfl, hx6, hb6⟩
        simp only at hx6
        obtain ⟨As6, cs6, Ap6, cp6, Af6, cf6, rfl⟩ := hx6.open_
        have H6 := Lib.hid (H5.out.call hb6 hx6)
        clear hx6 hb6 hcd HFL H5
        have hcd := (H6.out.at_ 2 rfl).c5
        go_upto_region 4 with (fail)
        have H7 := Lib.hid (H6.out.store 2 rfl 0 [.slice As6 d2.rx.sure.length cs6, .slice Ap6 d2.rx.pend.length cp6, .slice Af6 d2.rx.falls.length cf6, .int .i64 (d2.rx.ch : Nat), .bool d2.rx.down] rfl)
        clear hcd H6
        simp only [World.setCells, Nat.zero_add, Nat.reduceAdd, List.set_cons_succ, List.set_cons_zero, setFrom] at H7
        generalize (((((World.setCell w6 _ _).setCell _ _).setCell _ _).setCell _ _).setCell _ _) = W7 at H7 ⊢
        have hcd := (H7.out.at_ 2 rfl).c5
        have hcb := (H7.out.at_ 0 rfl).c11
        go_upto_region 5 with (fail)
        have H8 := Lib.hid (H7.out.store 0 rfl 0 [.slice As6 d2.rx.sure.length cs6, .slice Ap6 d2.rx.pend.length cp6, .slice Af6 d2.rx.falls.length cf6, .int .i64 (d2.rx.ch : Nat), .bool d2.rx.down] rfl)
        clear hcd hcb H7
        simp only [World.setCells, Nat.zero_add, Nat.reduceAdd, List.set_cons_succ, List.set_cons_zero, setFrom] at H8
        generalize (((((World.setCell W7 _ _).setCell _ _).setCell _ _).setCell _ _).setCell _ _) = W8 at H8 ⊢
        have hcb := (H8.out.at_ 0 rfl).c11
        rcases Classical.em (e2 = 0) with he | he
        · subst he
          go_upto_region 9 with (fail)
          have H9 := Lib.hid (H8.out.store 0 rfl 7 [.int .u64 (s : Nat), txt b] rfl)
          clear hcb H8
          unfold txt at H9
          simp only [World.setCells, Nat.reduceAdd, List.set_cons_succ, List.set_cons_zero, setFrom] at H9
          generalize ((World.setCell W8 _ _).setCell _ _) = W9 at H9 ⊢
          have hcb := (H9.out.at_ 0 rfl).c11
          have hcr := (H9.out.at_ 1 rfl).c11
          go_wp2_with fail
          have hbr : Blk W9 (w.heap.size + 1) 74 _ := H9.out.at_ 1 rfl
          refine ret_set11n hbr rfl rfl rfl rfl rfl (fun W hW => load_log hW) fun W2 hW hg => ?_
          subst hg
          have HX := (H9.out.store 1 rfl 0 [.slice As6 d2.rx.sure.length cs6, .slice Ap6 d2.rx.pend.length cp6, .slice Af6 d2.rx.falls.length cf6, .int .i64 (d2.rx.ch : Nat), .bool d2.rx.down, .int .i64 (l.at_ : Nat), .int .i64 (l.room : Nat), .int .u64 (s : Nat), .string ⟨b.toArray⟩, .int .i64 (l.count : Nat), .bool l.broken] rfl).done
          exact ⟨_, rfl, HX⟩
        · have hen : (e2 != 0) = true := by simpa using he
          have HP2 : Hid (l.put s b e2 = { l with broken := true }) := by show _ = _; unfold LS.put; rw [if_neg he]
          clear he
          go_upto_region 7 with (fail)
          have H9 := Lib.hid (H8.out.store 0 rfl 10 [.bool true] rfl)
          clear hcb H8
          simp only [World.setCells, Nat.reduceAdd, List.set_cons_succ, List.set_cons_zero, setFrom] at H9
          generalize (World.setCell W8 _ _) = W9 at H9 ⊢
          have hcb := (H9.out.at_ 0 rfl).c11
          have hcr := (H9.out.at_ 1 rfl).c11
          go_wp2_with fail
          have hbr : Blk W9 (w.heap.size + 1) 74 _ := H9.out.at_ 1 rfl
          refine ret_set11n hbr rfl rfl rfl rfl rfl (fun W hW => load_log hW) fun W2 hW hg => ?_
          subst hg
          have HX := (H9.out.store 1 rfl 0 [.slice As6 d2.rx.sure.length cs6, .slice Ap6 d2.rx.pend.length cp6, .slice Af6 d2.rx.falls.length cf6, .int .i64 (d2.rx.ch : Nat), .bool d2.rx.down, .int .i64 (l.at_ : Nat), .int .i64 (l.room : Nat), .int .u64 (l.seq : Nat), .string ⟨l.data.toArray⟩, .int .i64 (l.count : Nat), .bool true] rfl).done
          rw [HP2.out]
          exact ⟨_, rfl, HX⟩
      · have hen : (e1 == 0) = false := by simpa using he
        have hen2 : (e1 != 0) = true := by simpa using he
        rw [if_pos he] at HE
        obtain ⟨hd2, rfl⟩ : d2 = d1 ∧ e2 = e1 := by have := HE.out; simpa using this
        have HD2 := Lib.hid hd2
        have HP2 : Hid (l.put s b e2 = { l with broken := true }) := by show _ = _; unfold LS.put; rw [if_neg he]
        clear he hd2 HE
        have hcd := (H5.out.at_ 2 rfl).c5
        have hcb := (H5.out.at_ 0 rfl).c11
        go_upto_region 5 with (fail)
        have H8 := Lib.hid (H5.out.store 0 rfl 0 [.slice As3 d1.rx.sure.length cs3, .slice Ap3 d1.rx.pend.length cp3, .slice Af3 d1.rx.falls.length cf3, .int .i64 (d1.rx.ch : Nat), .bool d1.rx.down] rfl)
        clear hcd hcb H5
        simp only [World.setCells, Nat.zero_add, Nat.reduceAdd, List.set_cons_succ, List.set_cons_zero, setFrom] at H8
        generalize (((((World.setCell W5 _ _).setCell _ _).setCell _ _).setCell _ _).setCell _ _) = W8 at H8 ⊢
        have hcb := (H8.out.at_ 0 rfl).c11
        go_upto_region 7 with (fail)
        have H9 := Lib.hid (H8.out.store 0 rfl 10 [.bool true] rfl)
        clear hcb H8
        simp only [World.setCells, Nat.reduceAdd, List.set_cons_succ, List.set_cons_zero, setFrom] at H9
        generalize (World.setCell W8 _ _) = W9 at H9 ⊢
        have hcb := (H9.out.at_ 0 rfl).c11
        have hcr := (H9.out.at_ 1 rfl).c11
        go_wp2_with fail
        have hbr : Blk W9 (w.heap.size + 1) 74 _ := H9.out.at_ 1 rfl
        refine ret_set11n hbr rfl rfl rfl rfl rfl (fun W hW => load_log hW) fun W2 hW hg => ?_
        subst hg
        have HX := (H9.out.store 1 rfl 0 [.slice As3 d1.rx.sure.length cs3, .slice Ap3 d1.rx.pend.length cp3, .slice Af3 d1.rx.falls.length cf3, .int .i64 (d1.rx.ch : Nat), .bool d1.rx.down, .int .i64 (l.at_ : Nat), .int .i64 (l.room : Nat), .int .u64 (l.seq : Nat), .string ⟨l.data.toArray⟩, .int .i64 (l.count : Nat), .bool true] rfl).done
        rw [HP2.out, HD2.out]
        exact ⟨_, rfl, HX⟩
  · repeat' (first | (refine hZ _ _ ?_; clear hZ) | (refine hZ _ ?_; clear hZ) | (refine hZ ?_; clear hZ) | rw [again_nil] | rw [walk_fin] | ((first | rw [walk_take] | rw [walk_run] | rw [again_cons]); intro Z hZ; simp only [sel, List.getElem?_toArray, List.getElem?_cons_zero, List.getElem?_cons_succ]; go_wp2_with (fail)))
    have H2 := Lib.hid (H0.out.alloc #[.slice none 0 0, .slice none 0 0, .slice none 0 0, .int .i64 0, .bool false] 54).drew
    simp only [List.nil_append, List.cons_append] at H2
    clear H0 H0d
    generalize (W.alloc _).drew = W2 at H2 ⊢
    have hc0 := (H2.out.at_ 0 rfl).c11
    refine (refhead_any _ s b.length hs64 HN.out).mono ?_
    rintro e w1 ⟨rfl, hb1⟩
    have H1 := Lib.hid (H2.out.below hb1)
    have hc1 := (H1.out.at_ 0 rfl).c11
    clear hb1 hc0 H2
    unfold txt
    go_wp2_with fail
    repeat' (first | (refine hZ _ _ ?_; clear hZ) | (refine hZ _ ?_; clear hZ) | (refine hZ ?_; clear hZ) | rw [again_nil] | rw [walk_fin] | ((first | rw [walk_take] | rw [walk_run] | rw [again_cons]); intro Z hZ; simp only [sel, List.getElem?_toArray, List.getElem?_cons_zero, List.getElem?_cons_succ]; go_wp2_with (fail)))
    refine (HP.out _ _ _ H1.out.lt H1.out.rx).mono ?_
    rintro e w3 ⟨c3, rfl, hx3, hb3⟩
    have H3 := Lib.hid (H1.out.call hb3 hx3)
    obtain ⟨As3, cs3, Ap3, cp3, Af3, cf3, rfl⟩ := hx3.open_
    clear hb3 hx3 hc1 H1 HP
    have hcd := (H3.out.at_ 2 rfl).c5
    go_wp2_with fail
    repeat' (first | (refine hZ _ _ ?_; clear hZ) | (refine hZ _ ?_; clear hZ) | (refine hZ ?_; clear hZ) | rw [again_nil] | rw [walk_fin] | ((first | rw [walk_take] | rw [walk_run] | rw [again_cons]); intro Z hZ; simp only [sel, List.getElem?_toArray, List.getElem?_cons_zero, List.getElem?_cons_succ]; go_wp2_with (fail)))
    have H5 := Lib.hid (H3.out.store 2 rfl 0 [.slice As3 d1.rx.sure.length cs3, .slice Ap3 d1.rx.pend.length cp3, .slice Af3 d1.rx.falls.length cf3, .int .i64 (d1.rx.ch : Nat), .bool d1.rx.down] rfl)
    clear hcd H3
    simp only [World.setCells, Nat.zero_add, Nat.reduceAdd, List.set_cons_succ, List.set_cons_zero, setFrom] at H5
    generalize (((((World.setCell w3 _ _).setCell _ _).setCell _ _).setCell _ _).setCell _ _) = W5 at H5 ⊢
    rcases Classical.em (e1 = 0) with he | he
    · subst he
      rw [if_neg (by simp)] at HE
      have hcd := (H5.out.at_ 2 rfl).c5
      have HFL := Lib.hid (refflush_any _ W5 H5.out.lt d1 _ H5.out.rx HG1.out.1 (by have := HG1.out.2; omega))
      rw [← HE.out] at HFL
      go_wp2_with fail
      refine HFL.out.mono ?_
      rintro e w6 ⟨c6, rfl, hx6, hb6⟩
      simp only at hx6
      obtain ⟨As6, cs6, Ap6, cp6, Af6, cf6, rfl⟩ := hx6.open_
      have H6 := Lib.hid (H5.out.call hb6 hx6)
      clear hx6 hb6 hcd HFL H5
      have hcd := (H6.out.at_ 2 rfl).c5
      go_upto_region 4 with (fail)
      have H7 := Lib.hid (H6.out.store 2 rfl 0 [.slice As6 d2.rx.sure.length cs6, .slice Ap6 d2.rx.pend.length cp6, .slice Af6 d2.rx.falls.length cf6, .int .i64 (d2.rx.ch : Nat), .bool d2.rx.down] rfl)
      clear hcd H6
      simp only [World.setCells, Nat.zero_add, Nat.reduceAdd, List.set_cons_succ, List.set_cons_zero, setFrom] at H7
      generalize (((((World.setCell w6 _ _).setCell _ _).setCell _ _).setCell _ _).setCell _ _) = W7 at H7 ⊢
      have hcd := (H7.out.at_ 2 rfl).c5
      have hcb := (H7.out.at_ 0 rfl).c11
      go_upto_region 5 with (fail)
      have H8 := Lib.hid (H7.out.store 0 rfl 0 [.slice As6 d2.rx.sure.length cs6, .slice Ap6 d2.rx.pend.length cp6, .slice Af6 d2.rx.falls.length cf6, .int .i64 (d2.rx.ch : Nat), .bool d2.rx.down] rfl)
      clear hcd hcb H7
      simp only [World.setCells, Nat.zero_add, Nat.reduceAdd, List.set_cons_succ, List.set_cons_zero, setFrom] at H8
      generalize (((((World.setCell W7 _ _).setCell _ _).setCell _ _).setCell _ _).setCell _ _) = W8 at H8 ⊢
      have hcb := (H8.out.at_ 0 rfl).c11
      rcases Classical.em (e2 = 0) with he | he
      · subst he
        go_upto_region 9 with (fail)
        have H9 := Lib.hid (H8.out.store 0 rfl 7 [.int .u64 (s : Nat), txt b] rfl)
        clear hcb H8
        unfold txt at H9
        simp only [World.setCells, Nat.reduceAdd, List.set_cons_succ, List.set_cons_zero, setFrom] at H9
        generalize ((World.setCell W8 _ _).setCell _ _) = W9 at H9 ⊢
        have hcb := (H9.out.at_ 0 rfl).c11
        have hcr := (H9.out.at_ 1 rfl).c11
        go_wp2_with fail
        have hbr : Blk W9 (w.heap.size + 1) 74 _ := H9.out.at_ 1 rfl
        refine ret_set11n hbr rfl rfl rfl rfl rfl (fun W hW => load_log hW) fun W2 hW hg => ?_
        subst hg
        have HX := (H9.out.store 1 rfl 0 [.slice As6 d2.rx.sure.length cs6, .slice Ap6 d2.rx.pend.length cp6, .slice Af6 d2.rx.falls.length cf6, .int .i64 (d2.rx.ch : Nat), .bool d2.rx.down, .int .i64 (l.at_ : Nat), .int .i64 (l.room : Nat), .int .u64 (s : Nat), .string ⟨b.toArray⟩, .int .i64 (l.count : Nat), .bool l.broken] rfl).done
        exact ⟨_, rfl, HX⟩
      · have hen : (e2 != 0) = true := by simpa using he
        have HP2 : Hid (l.put s b e2 = { l with broken := true }) := by show _ = _; unfold LS.put; rw [if_neg he]
        clear he
        go_upto_region 7 with (fail)
        have H9 := Lib.hid (H8.out.store 0 rfl 10 [.bool true] rfl)
        clear hcb H8
        simp only [World.setCells, Nat.reduceAdd, List.set_cons_succ, List.set_cons_zero, setFrom] at H9
        generalize (World.setCell W8 _ _) = W9 at H9 ⊢
        have hcb := (H9.out.at_ 0 rfl).c11
        have hcr := (H9.out.at_ 1 rfl).c11
        go_wp2_with fail
        have hbr : Blk W9 (w.heap.size + 1) 74 _ := H9.out.at_ 1 rfl
        refine ret_set11n hbr rfl rfl rfl rfl rfl (fun W hW => load_log hW) fun W2 hW hg => ?_
        subst hg
        have HX := (H9.out.store 1 rfl 0 [.slice As6 d2.rx.sure.length cs6, .slice Ap6 d2.rx.pend.length cp6, .slice Af6 d2.rx.falls.length cf6, .int .i64 (d2.rx.ch : Nat), .bool d2.rx.down, .int .i64 (l.at_ : Nat), .int .i64 (l.room : Nat), .int .u64 (l.seq : Nat), .string ⟨l.data.toArray⟩, .int .i64 (l.count : Nat), .bool true] rfl).done
        rw [HP2.out]
        exact ⟨_, rfl, HX⟩
    · have hen : (e1 == 0) = false := by simpa using he
      have hen2 : (e1 != 0) = true := by simpa using he
      rw [if_pos he] at HE
      obtain ⟨hd2, rfl⟩ : d2 = d1 ∧ e2 = e1 := by have := HE.out; simpa using this
      have HD2 := Lib.hid hd2
      have HP2 : Hid (l.put s b e2 = { l with broken := true }) := by show _ = _; unfold LS.put; rw [if_neg he]
      clear he hd2 HE
      have hcd := (H5.out.at_ 2 rfl).c5
      have hcb := (H5.out.at_ 0 rfl).c11
      go_upto_region 5 with (fail)
      have H8 := Lib.hid (H5.out.store 0 rfl 0 [.slice As3 d1.rx.sure.length cs3, .slice Ap3 d1.rx.pend.length cp3, .slice Af3 d1.rx.falls.length cf3, .int .i64 (d1.rx.ch : Nat), .bool d1.rx.down] rfl)
      clear hcd hcb H5
      simp only [World.setCells, Nat.zero_add, Nat.reduceAdd, List.set_cons_succ, List.set_cons_zero, setFrom] at H8
      generalize (((((World.setCell W5 _ _).setCell _ _).setCell _ _).setCell _ _).setCell _ _) = W8 at H8 ⊢
      have hcb := (H8.out.at_ 0 rfl).c11
      go_upto_region 7 with (fail)
      have H9 := Lib.hid (H8.out.store 0 rfl 10 [.bool true] rfl)
      clear hcb H8
      simp only [World.setCells, Nat.reduceAdd, List.set_cons_succ, List.set_cons_zero, setFrom] at H9
      generalize (World.setCell W8 _ _) = W9 at H9 ⊢
      have hcb := (H9.out.at_ 0 rfl).c11
      have hcr := (H9.out.at_ 1 rfl).c11
      go_wp2_with fail
      have hbr : Blk W9 (w.heap.size + 1) 74 _ := H9.out.at_ 1 rfl
      refine ret_set11n hbr rfl rfl rfl rfl rfl (fun W hW => load_log hW) fun W2 hW hg => ?_
      subst hg
      have HX := (H9.out.store 1 rfl 0 [.slice As3 d1.rx.sure.length cs3, .slice Ap3 d1.rx.pend.length cp3, .slice Af3 d1.rx.falls.length cf3, .int .i64 (d1.rx.ch : Nat), .bool d1.rx.down, .int .i64 (l.at_ : Nat), .int .i64 (l.room : Nat), .int .u64 (l.seq : Nat), .string ⟨l.data.toArray⟩, .int .i64 (l.count : Nat), .bool true] rfl).done
      rw [HP2.out, HD2.out]
      exact ⟨_, rfl, HX⟩
end Go.Proofs.Ythbanhedjfpmaaa
end

section
/-
  The contracts of dowserref01.Take, TakeInt, Count, TakeText, TakeBool, End.
-/
namespace Go.Proofs.Ythbanhedjfpmaaa
set_option linter.unusedSimpArgs false
set_option linter.unusedVariables false
open Go.RowKit

/-- A reader of the document's, by value. -/
def rv (r : Wire.RS) : Value := .agg #[txt r.l, .int .i64 r.e]
/-- What is answered; the memory that was there is left alone. -/
def Ans (w : World) (v : Value) (e : Ending) (w' : World) : Prop := e = .returned v ∧ Below w.heap.size w w'

theorem load_rv {w : World} {g : Nat} {x y : Value} (h0 : w.cell? ⟨g, 0, none⟩ = some x) (h1 : w.cell? ⟨g, 1, none⟩ = some y) : (loadVar 140 ⟨g, 0, none⟩).run Try.prog w = .ok (.agg #[x, y]) w := by
  go_simp
/-- The return of a function whose first result is a reader of the document's that lies in memory. -/
theorem ret_rv2 {fn : Func} {R : Ending → World → Prop} {a : Act} {w : World} {p u : Tmp} {g : Nat} {x y v : Value} (h : fn.results = #[.cell p 140, .tmp u]) (hd : a.defers = [])
    (hp : a.tmps.getD p undef = .pointer (some ⟨g, 0, none⟩)) (hu : a.tmps.getD u undef = v) (h0 : w.cell? ⟨g, 0, none⟩ = some x) (h1 : w.cell? ⟨g, 1, none⟩ = some y)
    (hR : R (.returned (.tuple #[.agg #[x, y], v])) w) : bodyPost Try.prog fn R .ret a w := by
  refine bodyPost_ret (v := .tuple #[.agg #[x, y], v]) ?_ hd hR
  rw [results_cell_tmp h, hp, hu]
  have := load_rv h0 h1
  go_simp
theorem ret_rv1 {fn : Func} {R : Ending → World → Prop} {a : Act} {w : World} {p : Tmp} {g : Nat} {x y : Value} (h : fn.results = #[.cell p 140]) (hd : a.defers = [])
    (hp : a.tmps.getD p undef = .pointer (some ⟨g, 0, none⟩)) (h0 : w.cell? ⟨g, 0, none⟩ = some x) (h1 : w.cell? ⟨g, 1, none⟩ = some y)
    (hR : R (.returned (.agg #[x, y])) w) : bodyPost Try.prog fn R .ret a w := by
  refine bodyPost_ret (v := .agg #[x, y]) ?_ hd hR
  have e : (results fn a.tmps).run Try.prog w = ((asAddr (a.tmps.getD p undef)).run Try.prog w).andThen fun b w1 => (loadVar 140 b).run Try.prog w1 := by
    simp only [results, h]
    simp [Sem.run_bind]
  rw [e, hp]
  have := load_rv h0 h1
  go_simp

theorem add_unit (a x i u : Nat) (ha : a < 128 ^ i) (hi : i ≤ 9) (hc : x < 256) (hu : u = 128 ^ i) (h9 : i = 9 → x ≤ 1) :
    IntKind.u64.wrap ((a : Int) + IntKind.u64.wrap ((u : Int) * ((x : Int) % 128))) = ((a + x % 128 * 128 ^ i : Nat) : Int) := by
  subst hu
  have hlt : a + x % 128 * 128 ^ i < 18446744073709551616 := by
    have h1 : x % 128 < 128 := Nat.mod_lt _ (by omega)
    rcases Nat.lt_or_ge i 9 with h | h
    · have h2 : 128 ^ i ≤ 128 ^ 8 := Nat.pow_le_pow_right (by omega) (by omega)
      have h3 : x % 128 * 128 ^ i ≤ 127 * 128 ^ 8 := Nat.mul_le_mul (by omega) h2
      omega
    · obtain rfl : i = 9 := by omega
      have := h9 rfl
      have h3 : x % 128 * 128 ^ 9 ≤ 1 * 128 ^ 9 := Nat.mul_le_mul (by omega) (Nat.le_refl _)
      omega
  have e1 : ((128 ^ i : Nat) : Int) * ((x : Int) % 128) = ((x % 128 * 128 ^ i : Nat) : Int) := by
    rw [Nat.mul_comm]; simp
  rw [e1]
  generalize x % 128 * 128 ^ i = q at hlt
  rw [IntWalk.u64_in (q : Int) (by omega), IntWalk.u64_in _ (by omega)]
  omega
theorem next_unit (i u : Nat) (hi : i < 9) (hu : u = 128 ^ i) : IntKind.u64.wrap ((u : Int) * 128) = ((128 ^ (i + 1) : Nat) : Int) := by
  subst hu
  have h2 : 128 ^ (i + 1) ≤ 128 ^ 9 := Nat.pow_le_pow_right (by omega) (by omega)
  have e1 : ((128 ^ i : Nat) : Int) * 128 = ((128 ^ (i + 1) : Nat) : Int) := by rw [Nat.pow_succ]; simp
  rw [e1]
  generalize 128 ^ (i + 1) = q at h2
  exact IntWalk.u64_in _ (by omega)

theorem ans_err {w w' : World} {l : List UInt8} {er : Nat} (h : (Wire.tk 0 0 l).1 = er) (h0 : er ≠ 0) (hb : Below w.heap.size w w') :
    Ans w (.tuple #[rv (Wire.take ⟨l, 0⟩).1, .int .u64 ((Wire.take ⟨l, 0⟩).2 : Nat)]) (.returned (.tuple #[.agg #[.string ⟨l.toArray⟩, .int .i64 (er : Int)], .int .u64 0])) w' := by
  have e : Wire.take ⟨l, 0⟩ = (⟨l, (er : Int)⟩, 0) := by
    unfold Wire.take
    rw [if_neg (by simp), if_pos (by rw [h]; exact h0), h]
  rw [e]
  exact ⟨rfl, hb⟩
theorem ans_ok {w w' : World} {l : List UInt8} {u v : Nat} (h : Wire.tk 0 0 l = (0, u, v)) (hb : Below w.heap.size w w') (s : ByteArray) (hs : s = ⟨(l.drop u).toArray⟩) (x : Int) (hx : x = (v : Nat)) :
    Ans w (.tuple #[rv (Wire.take ⟨l, 0⟩).1, .int .u64 ((Wire.take ⟨l, 0⟩).2 : Nat)]) (.returned (.tuple #[.agg #[.string s, .int .i64 0], .int .u64 x])) w' := by
  have e : Wire.take ⟨l, 0⟩ = (⟨l.drop u, 0⟩, v) := by
    unfold Wire.take
    rw [if_neg (by simp), if_neg (by rw [h]; simp), h]
  rw [e]
  subst hs hx
  exact ⟨rfl, hb⟩
theorem wcut_end (l : List UInt8) (k : Nat) : (ByteArray.mk l.toArray).extract k l.length = ⟨(l.drop k).toArray⟩ := by
  apply ByteArray.ext
  simp
  exact List.take_of_length_le (by simp)

set_option maxRecDepth 20000 in
set_option maxHeartbeats 1000000 in
theorem reftake_any (w : World) (r : Wire.RS) (hl : r.l.length ≤ 1000000) :
    Calls Try.prog 84 #[rv r] w (Ans w (.tuple #[rv (Wire.take r).1, .int .u64 ((Wire.take r).2 : Nat)])) := by
  obtain ⟨l, e⟩ := r
  simp only at hl
  by_cases he : e = 0
  · subst he
    have hb2 : ∀ o o', Below w.heap.size w ((w.alloc o).alloc o') := fun o o' => ((Below.refl _ _).alloc (Nat.le_refl _) _).alloc (by simp) _
    have HB := Lib.hid hb2
    clear hb2
    unfold rv txt
    go_enter Try.func84, Try.ntmps84
    go_wp2_with fail
    go_loop [4, 5, 6] (fun nv uv iv => ∃ i a u : Nat, i ≤ 10 ∧ iv = .int .i64 i ∧ nv = .int .u64 (a : Nat) ∧ uv = .int .u64 (u : Nat) ∧ i ≤ 9 ∧ Hid (u = 128 ^ i) ∧ Acc a i ∧ i ≤ l.length ∧ Hid (Wire.tk 0 0 l = Wire.tk i a (l.drop i))) (fun _ _ iv => 10 - (intOf iv).toNat)
    case atStart => exact ⟨0, 0, 1, by omega, rfl, rfl, rfl, by omega, rfl, ⟨by simp⟩, Nat.zero_le _, rfl⟩
    case round =>
      obtain ⟨i, a, u, hi10, rfl, rfl, rfl, hi, HU, HA, hil, HT⟩ := hrel
      by_cases hlt : i < l.length
      · have HC := Lib.hid (tk_cons i a l hlt)
        have hcl := l[i].toNat_lt
        have hidx : (ByteArray.mk l.toArray)[i]'(by simpa [ByteArray.size] using hlt) = l[i] := rfl
        generalize l[i] = y at hcl hidx HC
        obtain ⟨x, hx⟩ : ∃ x, y.toNat = x := ⟨_, rfl⟩
        rw [hx] at hcl HC
        have hi10l : (i : Int) < 10 := by omega
        have HO0 := Lib.hid (add_unit a x i u HA.lt hi hcl HU.out)
        by_cases hi9 : i = 9
        · have hi9b : ((i : Int) == 9) = true := by simp; omega
          have hi9l : 9 ≤ i := by omega
          clear hi9
          by_cases hx1 : 1 < x
          · have hx1l : (1 : Int) < (x : Int) := by omega
            go_wp2_with fail
            refine ret_rv2 rfl rfl rfl rfl (by go_simp; all_goals rfl) (by go_simp; all_goals rfl) ?_
            refine ans_err (er := 7) ?_ (by omega) (HB.out _ _)
            rw [HT.out, HC.out]
            rw [if_pos ⟨by omega, hx1⟩]
          · have HO := Lib.hid (HO0.out (by omega))
            have hxl : ((x : Int) < 128) := by omega
            by_cases hx0 : x = 0
            · have hx0b : ((x : Int) == 0) = true := by simp; omega
              clear hx0
              go_wp2_with fail
              refine ret_rv2 rfl rfl rfl rfl (by go_simp; all_goals rfl) (by go_simp; all_goals rfl) ?_
              refine ans_err (er := 7) ?_ (by omega) (HB.out _ _)
              rw [HT.out, HC.out]
              rw [if_neg (by omega), if_neg (by omega), if_pos ⟨by simpa using hx0b, by omega⟩]
            · have hx0b : ((x : Int) == 0) = false := by simp; omega
              go_wp2_with fail
              refine ret_rv2 rfl rfl rfl rfl (by go_simp; all_goals rfl) (by go_simp; all_goals rfl) ?_
              refine ans_ok (u := i + 1) ?_ (HB.out _ _) _ ?_ _ HO.out
              · rw [HT.out, HC.out, if_neg (by omega), if_neg (by omega), if_neg (by omega)]
              · exact wcut_end l (i + 1)
        · have HO := Lib.hid (HO0.out (by omega))
          have hi9b : ((i : Int) == 9) = false := by simp; omega
          by_cases hx : 128 ≤ x
          · go_wp2_with fail
            go_round
            case rel =>
              refine ⟨i + 1, a + x % 128 * 128 ^ i, 128 ^ (i + 1), by omega, by go_num, by rw [HO.out], by rw [next_unit i u (by omega) HU.out], by omega, rfl, ⟨?_⟩, by omega, ?_⟩
              · have h3 := HA.lt
                have h4 : x % 128 * 128 ^ i ≤ 127 * 128 ^ i := Nat.mul_le_mul (by omega) (Nat.le_refl _)
                rw [Nat.pow_succ]
                omega
              · show _ = _
                rw [HT.out, HC.out, if_neg (by omega), if_pos hx]
            case measure => simp [intOf]; omega
          · have hxl : ((x : Int) < 128) := by omega
            by_cases hx0 : x = 0
            · have hx0b : ((x : Int) == 0) = true := by simp; omega
              clear hx0
              by_cases hi0 : i ≤ 0
              · have hi0b : ¬ (0 : Int) < (i : Int) := by omega
                go_wp2_with fail
                refine ret_rv2 rfl rfl rfl rfl (by go_simp; all_goals rfl) (by go_simp; all_goals rfl) ?_
                refine ans_ok (u := i + 1) ?_ (HB.out _ _) _ ?_ _ HO.out
                · rw [HT.out, HC.out, if_neg (by omega), if_neg (by omega), if_neg (by omega)]
                · exact wcut_end l (i + 1)
              · have hi0b : (0 : Int) < (i : Int) := by omega
                go_wp2_with fail
                refine ret_rv2 rfl rfl rfl rfl (by go_simp; all_goals rfl) (by go_simp; all_goals rfl) ?_
                refine ans_err (er := 7) ?_ (by omega) (HB.out _ _)
                rw [HT.out, HC.out]
                rw [if_neg (by omega), if_neg (by omega), if_pos ⟨by simpa using hx0b, by omega⟩]
            · have hx0b : ((x : Int) == 0) = false := by simp; omega
              go_wp2_with fail
              refine ret_rv2 rfl rfl rfl rfl (by go_simp; all_goals rfl) (by go_simp; all_goals rfl) ?_
              refine ans_ok (u := i + 1) ?_ (HB.out _ _) _ ?_ _ HO.out
              · rw [HT.out, HC.out, if_neg (by omega), if_neg (by omega), if_neg (by omega)]
              · exact wcut_end l (i + 1)
      · obtain rfl : i = l.length := by omega
        have hni : ¬ (l.length : Int) < (l.length : Int) := by omega
        go_wp2_with fail
        refine ret_rv2 rfl rfl rfl rfl (by go_simp; all_goals rfl) (by go_simp; all_goals rfl) ?_
        refine ans_err (er := 10) ?_ (by omega) (HB.out _ _)
        rw [HT.out, List.drop_length]
        rfl
  · have heb : (e == 0) = false := by simpa using he
    have heb2 : (e != 0) = true := by simpa using he
    have HT : Hid (Wire.take ⟨l, e⟩ = (⟨l, e⟩, 0)) := by
      show _ = _
      unfold Wire.take
      rw [if_pos he]
    clear he
    have hb2 : ∀ o o', Below w.heap.size w ((w.alloc o).alloc o') := fun o o' => ((Below.refl _ _).alloc (Nat.le_refl _) _).alloc (by simp) _
    have HB := Lib.hid hb2
    clear hb2
    unfold rv txt
    go_enter Try.func84, Try.ntmps84
    go_wp2_with fail
    refine ret_rv2 rfl rfl rfl rfl (by go_simp; all_goals rfl) (by go_simp; all_goals rfl) ?_
    rw [HT.out]
    exact ⟨rfl, HB.out _ _⟩
end Go.Proofs.Ythbanhedjfpmaaa
end

section
/-
  The document's records of bytes.
-/
namespace Go.Proofs.Ythbanhedjfpmaaa
set_option linter.unusedSimpArgs false
set_option linter.unusedVariables false
open Go.RowKit

theorem EOwn.setCellsNe {α : Type} {E : Elem α} {w : World} {B c : Nat} {A : Option Addr} {L : List α} (h : EOwn E w B A c L) (g i : Nat) (vs : List Value) (hne : ∀ a, A = some a → a.block ≠ g) : EOwn E (w.setCells g i vs) B A c L :=
  h.keep2 (by rw [setCells_size]; exact Nat.le_refl _) fun a ha _ => setCells_other w g i vs a.block (hne a ha)
/-- Texts, in a row of the call's own, and a number. -/
def RetRecs (w : World) (r : List (List UInt8) × Int) (e : Ending) (w' : World) : Prop := ∃ A c, e = .returned (.tuple #[.slice A (List.length r.1) c, .int .i64 r.2]) ∧ EOwn eStr w' w.heap.size A c r.1 ∧ Below w.heap.size w w'
theorem ret_norecs {w w' : World} {R : List (List UInt8) × Int} {k : Int} (h : R = ([], k)) (hb : Below w.heap.size w w') : RetRecs w R (.returned (.tuple #[.slice none 0 0, .int .i64 k])) w' := by
  rw [h]
  exact ⟨none, 0, rfl, EOwn.nil _ _, hb⟩
theorem cut_mid (l : List UInt8) (n : Nat) : (ByteArray.mk l.toArray).extract 4 (4 + n) = ⟨((l.drop 4).take n).toArray⟩ := by
  apply ByteArray.ext
  simp
theorem sealed_drop (l : List UInt8) : (Crc.sealed l).drop l.length = Crc.le4 (Crc.sum l) := by unfold Crc.sealed; rw [List.drop_left]
theorem blk_append {α : Type} {E : Elem α} {w w' : World} {g B c : Nat} {T : TypeId} {cs : List Value} {A : Option Addr} {L : List α} {o : Obj} (hk : Blk w g T cs) (ho : EOwn E w B A c L) (hT : T ≠ E.e) (hg : (w.alloc o).grownBy w' (A.map (·.block))) : Blk w' g T cs := by
  have hb := Below.alloc1 w o
  have hk2 := hk.below hb
  exact (hg.block g hk2.lt (map_block_ne ((ho.below hb).ne_blk hk2 hT))).trans hk2
set_option maxRecDepth 20000 in
set_option maxHeartbeats 2000000 in
theorem refrecs_any (w : World) (b : List UInt8) (hb : b.length ≤ 1000000) :
    Calls Try.prog 73 #[txt b] w (RetRecs w (Wal.records b)) := by
  go_enter Try.func73, Try.ntmps73
  unfold txt
  go_wp2_with fail
  go_loopw [0, 4] (fun bv' av wr => ∃ (rest : List UInt8) (dn : List (List UInt8)) (Aa : Option Addr) (ca : Nat), bv' = .string ⟨rest.toArray⟩ ∧ av = .slice Aa dn.length ca ∧ rest.length ≤ b.length ∧ dn.length + rest.length ≤ b.length ∧
      Hid (Wal.records b = joinR dn (Wal.records rest) ∧ EOwn eStr wr w.heap.size Aa ca dn ∧ Below w.heap.size w wr)) (fun bv' _ _ => match bv' with | .string s => s.size | _ => 0)
  case atStart => exact ⟨b, [], none, 0, rfl, rfl, Nat.le_refl _, by simp, (joinR_nil _ (records_err _ _)).symm, EOwn.nil _ _, Below.refl _ _⟩
  case round =>
    obtain ⟨rest, dn, Aa, ca, rfl, rfl, hrl, hdl, HJ⟩ := hrel
    have hsz : (ByteArray.mk rest.toArray).size = rest.length := by simp [ByteArray.size]
    by_cases hne : rest = []
    · subst hne
      have HX : Hid (Wal.records b = (dn, 0)) := by show _ = _; rw [HJ.out.1, records_nil]; unfold joinR; simp
      go_wp2_with fail
      go_ret2
      rw [HX.out]
      exact ⟨Aa, ca, rfl, HJ.out.2.1, HJ.out.2.2⟩
    · have hbq : (rest == []) = false := by simpa using hne
      have hbp : (rest.length == 0) = false := by simpa using hne
      obtain ⟨e, r, n, hsp⟩ := split_any rest
      have hlen := hsp.len
      have htk := reftake_any wr ⟨rest, 0⟩ (by show rest.length ≤ 1000000; omega)
      rw [hsp.eq] at htk
      unfold rv txt at htk
      simp only at htk
      have HTK := Lib.hid htk
      have HSP := Lib.hid hsp
      have HNE := Lib.hid hne
      have hszr : (ByteArray.mk r.toArray).size = r.length := by simp [ByteArray.size]
      have hpos : 0 < rest.length := List.length_pos_iff.2 hne
      clear htk hsp hne
      go_wp2_with fail
      refine HTK.out.mono ?_
      rintro _ w3 ⟨rfl, hb3⟩
      have H3 := Lib.hid (And.intro (HJ.out.2.1.below hb3) (HJ.out.2.2.trans (hb3.mono HJ.out.2.2.size)))
      clear hb3 HTK
      by_cases hbad : e ≠ 0 ∨ r.length < 4 ∨ r.length - 4 < n
      · have HX : Hid (Wal.records b = ([], 7)) := by show _ = _; rw [HJ.out.1, HSP.out.form HNE.out hbad, joinR_err (by decide)]
        have HB : Hid (Below w.heap.size w (w3.alloc (.cells #[.string ⟨r.toArray⟩, .int .i64 e] 140))) := H3.out.2.alloc H3.out.2.size _
        rcases Classical.em (e = 0) with he | he
        · subst he
          rcases Nat.lt_or_ge r.length 4 with h4 | h4
          · clear hbad
            go_wp2_with fail
            go_ret2
            exact ret_norecs HX.out HB.out
          · have hn4 : ¬ (r.length : Int) < 4 := by omega
            have hnn : (r.length : Int) - 4 < (n : Int) := by omega
            clear hbad
            go_wp2_with fail
            go_ret2
            exact ret_norecs HX.out HB.out
        · have hen : (e != 0) = true := by simpa using he
          clear hbad he
          go_wp2_with fail
          go_ret2
          exact ret_norecs HX.out HB.out
      · have he : e = 0 := by
          rcases Classical.em (e = 0) with h | h
          · exact h
          · exact absurd (.inl h) hbad
        subst he
        have h4 : ¬ (r.length : Int) < 4 := by omega
        have hnn : ¬ (r.length : Int) - 4 < (n : Int) := by omega
        have HGD : Hid (4 ≤ r.length ∧ n ≤ r.length - 4) := by show _ ∧ _; omega
        have hn1 : n ≤ 1000000 := by have := HGD.out; omega
        clear hbad
        have hcm := cut_mid r n
        have hsl : ((r.drop 4).take n).length = n := by have := HGD.out; simp; omega
        have HF := Lib.hid (HSP.out.front rfl HGD.out.1 HGD.out.2)
        have HST := Lib.hid (fun hx => HSP.out.step HNE.out rfl HGD.out.1 HGD.out.2 hx)
        have HBD := Lib.hid (fun hx => HSP.out.bad HNE.out rfl HGD.out.1 HGD.out.2 hx)
        generalize (r.drop 4).take n = q at hcm hsl HF HST HBD
        have hszq : (ByteArray.mk q.toArray).size = n := by simp [ByteArray.size, hsl]
        have hS : (Crc.sealed q).length = n + 4 := by simp [Crc.sealed, Crc.le4, hsl]
        have hsz2 : (ByteArray.mk (Crc.sealed q).toArray).size = n + 4 := by simp [ByteArray.size, hS]
        have hx1 := cut_end (Crc.sealed q) n
        rw [hS, ← hsl, sealed_drop, hsl] at hx1
        have hx2 := cut_head r 4
        have hx3 := cut_end r (4 + n)
        have hq4 : Hid (q.length = n ∧ q.length ≤ 1000000) := ⟨hsl, by omega⟩
        go_upto_region 7 with (fail)
        generalize hW4 : World.alloc w3 (.cells _ _) = W4
        obtain ⟨ba4, hz4, hB4⟩ := fresh1 hW4
        clear hW4
        have H4 : Hid (Blk W4 w3.heap.size 140 [.string ⟨r.toArray⟩, .int .i64 0] ∧ EOwn eStr W4 w.heap.size Aa ca dn ∧ Below w.heap.size w W4) := ⟨ba4, H3.out.1.below hB4, H3.out.2.then hB4⟩
        have hr0 := ba4.cell 0
        have hr1 := ba4.lt
        simp only [List.getElem?_cons_zero] at hr0
        clear ba4 hB4 hz4 H3 hS
        obtain ⟨gr, hgr⟩ : ∃ gr, gr = w3.heap.size := ⟨_, rfl⟩
        rw [← hgr] at H4 hr0 hr1 ⊢
        clear hgr
        rcases Classical.em (Crc.le4 (Crc.sum q) = r.take 4) with heq | heq
        · rw [← heq] at hx2
          refine wp_region_plan (.take 0 (.take 2 (.take 3 (.take 5 (.take 6 (.take 7 (.run 1 [2, 3, 5, 6, 7] (.take 4 (.take 8 .fin))))))))) (by kernel_rfl) (by kernel_rfl) (by kernel_rfl) (by kernel_rfl) ?_
          repeat' (first | (refine hZ _ _ ?_; clear hZ) | (refine hZ _ ?_; clear hZ) | (refine hZ ?_; clear hZ) | rw [again_nil] | rw [walk_fin] | ((first | rw [walk_take] | rw [walk_run] | rw [again_cons]); intro Z hZ; simp only [sel, List.getElem?_toArray, List.getElem?_cons_zero, List.getElem?_cons_succ]; go_wp2_with (fail)))
          refine (refseal_any _ q hq4.out.2).mono ?_
          rintro _ w5 ⟨rfl, hb5⟩
          have H5 := Lib.hid (And.intro (H4.out.1.below hb5.drewL) (And.intro (H4.out.2.1.below hb5.drewL) (H4.out.2.2.then hb5.drewL)))
          have hr0' := H5.out.1.cell 0
          simp only [List.getElem?_cons_zero] at hr0'
          clear hb5 H4 hr0 hr1
          unfold txt
          go_wp2_with fail
          repeat' (first | (refine hZ _ _ ?_; clear hZ) | (refine hZ _ ?_; clear hZ) | (refine hZ ?_; clear hZ) | rw [again_nil] | rw [walk_fin] | ((first | rw [walk_take] | rw [walk_run] | rw [again_cons]); intro Z hZ; simp only [sel, List.getElem?_toArray, List.getElem?_cons_zero, List.getElem?_cons_succ]; go_wp2_with (fail)))
          have HX : Hid (Wal.records b = joinR (dn ++ [q]) (Wal.records (r.drop (4 + n)))) := by
            show _ = _
            rw [HJ.out.1, HST.out (HF.out.2 heq), joinR_joinR]
          have HLN : Hid ((r.drop (4 + n)).length = r.length - (4 + n)) := List.length_drop
          have HSZ : Hid ((ByteArray.mk (r.drop (4 + n)).toArray).size = r.length - (4 + n)) := by show _ = _; simp [ByteArray.size]
          have HRG : Hid (∀ w7 : World, (w5.alloc (.cells #[.string ⟨q.toArray⟩] 9)).grownBy w7 (Aa.map (·.block)) → w7.cell? ⟨gr, 0, none⟩ = some (.string ⟨r.toArray⟩)) := fun w7 hg => by
            have := (blk_append (E := eStr) H5.out.1 H5.out.2.1 (show 140 ≠ 9 by decide) hg).cell 0
            simpa using this
          clear heq HJ HST HBD HF
          go_wp2_with (at_builtin; refine wpList_append_elems eStr rfl (.tmp 49) (.tmp 51) rfl dn.length rfl (H5.out.2.1.below (Below.alloc1 _ _)) rfl 1 rfl (str_lit q _ rfl) rfl (by simp; omega) (by have := H5.out.2.2.size; simp; omega) ?_; intro A7 c7 w7 ho7 hb7 hg7 _; have H7 := Lib.hid (And.intro ho7 (H5.out.2.2.trans (((Below.alloc1 _ _).mono H5.out.2.2.size).trans hb7))); have hr0'' := HRG.out _ hg7; clear hr0' ho7 hb7 hg7)
          go_roundw
          case rel => exact ⟨r.drop (4 + n), dn ++ [q], A7, c7, by rw [hx3], by rw [List.length_append]; rfl, by rw [HLN.out]; omega, by rw [HLN.out, List.length_append, List.length_singleton]; omega, HX.out, H7.out⟩
          case measure => rw [hx3]; show (ByteArray.mk (r.drop (4 + n)).toArray).size < (ByteArray.mk rest.toArray).size; rw [HSZ.out, hsz]; omega
        · have hbe : (Crc.le4 (Crc.sum q) == List.take 4 r) = false := by simpa using heq
          refine wp_region_plan (.take 0 (.take 2 (.take 3 (.take 5 (.take 6 (.take 7 (.run 1 [2, 3, 5, 6, 7] (.take 4 (.take 8 .fin))))))))) (by kernel_rfl) (by kernel_rfl) (by kernel_rfl) (by kernel_rfl) ?_
          repeat' (first | (refine hZ _ _ ?_; clear hZ) | (refine hZ _ ?_; clear hZ) | (refine hZ ?_; clear hZ) | rw [again_nil] | rw [walk_fin] | ((first | rw [walk_take] | rw [walk_run] | rw [again_cons]); intro Z hZ; simp only [sel, List.getElem?_toArray, List.getElem?_cons_zero, List.getElem?_cons_succ]; go_wp2_with (fail)))
          refine (refseal_any _ q hq4.out.2).mono ?_
          rintro _ w5 ⟨rfl, hb5⟩
          have H5 := Lib.hid (And.intro (H4.out.1.below hb5.drewL) (And.intro (H4.out.2.1.below hb5.drewL) (H4.out.2.2.then hb5.drewL)))
          have hr0' := H5.out.1.cell 0
          simp only [List.getElem?_cons_zero] at hr0'
          clear hb5 H4 hr0 hr1
          unfold txt
          go_wp2_with fail
          repeat' (first | (refine hZ _ _ ?_; clear hZ) | (refine hZ _ ?_; clear hZ) | (refine hZ ?_; clear hZ) | rw [again_nil] | rw [walk_fin] | ((first | rw [walk_take] | rw [walk_run] | rw [again_cons]); intro Z hZ; simp only [sel, List.getElem?_toArray, List.getElem?_cons_zero, List.getElem?_cons_succ]; go_wp2_with (fail)))
          have HX : Hid (Wal.records b = ([], 20)) := by show _ = _; rw [HJ.out.1, HBD.out (fun h => heq (HF.out.1 h)), joinR_err (by decide)]
          clear heq HJ HST HBD HF
          go_wp2_with fail
          go_ret2
          exact ret_norecs HX.out H5.out.2.2
end Go.Proofs.Ythbanhedjfpmaaa
end

section
/-
  The contract of the document's Open.
-/
namespace Go.Proofs.Ythbanhedjfpmaaa
set_option linter.unusedSimpArgs false
set_option linter.unusedVariables false
open Go.RowKit

theorem ret_set11m {P : Program} {fn : Func} {R : Ending → World → Prop} {a : Act} {w : World} {p q q' : Tmp} {T : TypeId} {g : Nat} {old : List Value} {v0 v1 v2 v3 v4 v5 v6 v7 v8 v9 v10 r r' : Value} (hb : Blk w g T old) (hl : old.length = 11) (h : fn.results = #[.cell p T, .tmp q, .tmp q']) (hd : a.defers = [])
    (hp : a.tmps.getD p undef = .pointer (some ⟨g, 0, none⟩)) (hq : a.tmps.getD q undef = r) (hq' : a.tmps.getD q' undef = r') (hload : ∀ W : World, Blk W g T [v0, v1, v2, v3, v4, v5, v6, v7, v8, v9, v10] → (loadVar T ⟨g, 0, none⟩).run P W = .ok (.agg #[v0, v1, v2, v3, v4, v5, v6, v7, v8, v9, v10]) W)
    (hR : ∀ W, Blk W g T [v0, v1, v2, v3, v4, v5, v6, v7, v8, v9, v10] → W = w.setCells g 0 [v0, v1, v2, v3, v4, v5, v6, v7, v8, v9, v10] → R (.returned (.tuple #[.agg #[v0, v1, v2, v3, v4, v5, v6, v7, v8, v9, v10], r, r'])) W) :
    bodyPost P fn R .ret a (((((((((((w.setCell ⟨g, 0, none⟩ v0).setCell ⟨g, 1, none⟩ v1).setCell ⟨g, 2, none⟩ v2).setCell ⟨g, 3, none⟩ v3).setCell ⟨g, 4, none⟩ v4).setCell ⟨g, 5, none⟩ v5).setCell ⟨g, 6, none⟩ v6).setCell ⟨g, 7, none⟩ v7).setCell ⟨g, 8, none⟩ v8).setCell ⟨g, 9, none⟩ v9).setCell ⟨g, 10, none⟩ v10) := by
  have hW : Blk (w.setCells g 0 [v0, v1, v2, v3, v4, v5, v6, v7, v8, v9, v10]) g T [v0, v1, v2, v3, v4, v5, v6, v7, v8, v9, v10] := hb.setAll _ (by rw [hl]; rfl)
  exact ret_mem3 (w := w.setCells g 0 [v0, v1, v2, v3, v4, v5, v6, v7, v8, v9, v10]) h hd hp hq hq' (hload _ hW) (hR _ hW rfl)
/-- What the document's Open answers. -/
def RetO (S : Nat → Prop) (w : World) (at_ : Nat) (r : OR) (e : Ending) (w' : World) : Prop :=
  ∃ c l A ca, e = .returned (.tuple #[.agg (c ++ xlTail l).toArray, .slice A r.recs.length ca, .int .i64 r.e]) ∧ RefX S w' c r.d.rx ∧ l.at_ = at_ ∧ (r.e = 0 → l = r.l) ∧ EOwn eStr w' w.heap.size A ca r.recs ∧ Below w.heap.size w w'
theorem now_block {d : DS} (h : NowOk d) {i : Nat} (hi : i < d.blocks.length) : lastW i d.blocks[i].sure.l d.pending = d.block i := by
  rw [block_eq d i hi]; exact (h i hi).symm
set_option maxRecDepth 20000 in
set_option maxHeartbeats 4000000 in
theorem refopen_any (S : Nat → Prop) (w : World) (hS : ∀ i, S i → i < w.heap.size) (d : DS) (c : List Value) (h : RefX S w c d.rx) (hG : DGood d) (hN : NowOk d) (hch : d.changes < 1000000) (hpl : d.pending.length < 100000)
    (at_ blocks : Nat) (h3 : 3 ≤ blocks) (h1000 : blocks ≤ 1000) (hin : at_ + blocks ≤ d.blocks.length) :
    Calls Try.prog 61 #[.agg c.toArray, .int .i64 (at_ : Nat), .int .i64 (blocks : Nat)] w (RetO S w at_ (d.openW at_ ((blocks - 2) * 512))) := by
  have hb1 := hG.b1
  obtain ⟨room, hroom⟩ : ∃ room, room = (blocks - 2) * 512 := ⟨_, rfl⟩
  rw [← hroom]
  have hr2 : ((blocks : Int) - 2) * 512 = (room : Int) := by omega
  have hrm : room ≤ 511000 := by omega
  have hat : at_ ≤ 5000 := by omega
  have HIN : Hid (room = (blocks - 2) * 512 ∧ at_ + blocks ≤ d.blocks.length) := ⟨hroom, hin⟩
  have HL := Lib.hid (Loc.start h hS)
  have HG := Lib.hid (And.intro hG (And.intro hN (And.intro hch hpl)))
  have HNOW : Hid (∀ (S' : Nat → Prop) (W' : World) (cc : List Value) (i : Nat), RefX S' W' cc d.rx → i < d.blocks.length → Calls Try.prog 30 #[.agg cc.toArray, .int .i64 (i : Nat)] W' fun e w'' => e = .returned (.string ⟨(d.block i).toArray⟩) ∧ Below W'.heap.size W' w'') := fun S' W' cc i h1 h2 => by
    have := refnow_any S' W' d cc h1 i h2 hG.p1
    rw [now_block hN h2] at this
    exact this
  obtain ⟨As, cs, Ap, cp, Af, cf, rfl⟩ := h.open_
  clear h hS hin hroom hG hN
  go_enter Try.func61, Try.ntmps61
  go_upto_region 2 with (fail)
  have H0 := Lib.hid (((HL.out.alloc #[.slice As d.rx.sure.length cs, .slice Ap d.rx.pend.length cp, .slice Af d.rx.falls.length cf, .int .i64 (d.rx.ch : Nat), .bool d.rx.down] 54).alloc #[.slice none 0 0, .slice none 0 0, .slice none 0 0, .int .i64 0, .bool false, .int .i64 0, .int .i64 0, .int .u64 0, .string ⟨#[]⟩, .int .i64 0, .bool false] 74).alloc #[.slice As d.rx.sure.length cs, .slice Ap d.rx.pend.length cp, .slice Af d.rx.falls.length cf, .int .i64 (d.rx.ch : Nat), .bool d.rx.down, .int .i64 (at_ : Nat), .int .i64 (room : Nat), .int .u64 0, .string ⟨#[]⟩, .int .i64 0, .bool false] 74)
  simp only [List.nil_append, List.cons_append] at H0
  have hz1 : (w.alloc (.cells #[.slice As d.rx.sure.length cs, .slice Ap d.rx.pend.length cp, .slice Af d.rx.falls.length cf, .int .i64 (d.rx.ch : Nat), .bool d.rx.down] 54)).heap.size = w.heap.size + 1 := by simp
  have hz2 : ((w.alloc (.cells #[.slice As d.rx.sure.length cs, .slice Ap d.rx.pend.length cp, .slice Af d.rx.falls.length cf, .int .i64 (d.rx.ch : Nat), .bool d.rx.down] 54)).alloc (.cells #[.slice none 0 0, .slice none 0 0, .slice none 0 0, .int .i64 0, .bool false, .int .i64 0, .int .i64 0, .int .u64 0, .string ⟨#[]⟩, .int .i64 0, .bool false] 74)).heap.size = w.heap.size + 1 + 1 := by simp
  rw [hz2, hz1] at H0
  clear hz1 hz2
  generalize (((w.alloc _).alloc _).alloc _) = W at H0 ⊢
  have H0' : Hid (Loc S w W [⟨w.heap.size, 54, [.slice As d.rx.sure.length cs, .slice Ap d.rx.pend.length cp, .slice Af d.rx.falls.length cf, .int .i64 (d.rx.ch : Nat), .bool d.rx.down]⟩, ⟨w.heap.size + 1, 74, [.slice none 0 0, .slice none 0 0, .slice none 0 0, .int .i64 0, .bool false, .int .i64 0, .int .i64 0, .int .u64 0, .string ⟨#[]⟩, .int .i64 0, .bool false]⟩, ⟨w.heap.size + 1 + 1, 74, [.slice As d.rx.sure.length cs, .slice Ap d.rx.pend.length cp, .slice Af d.rx.falls.length cf, .int .i64 (d.rx.ch : Nat), .bool d.rx.down, .int .i64 (at_ : Nat), .int .i64 (room : Nat), .int .u64 0, .string ⟨#[]⟩, .int .i64 0, .bool false]⟩] [.slice As d.rx.sure.length cs, .slice Ap d.rx.pend.length cp, .slice Af d.rx.falls.length cf, .int .i64 (d.rx.ch : Nat), .bool d.rx.down] d.rx) := H0.out
  clear H0 HL
  have hrx : d.rx.down = d.down := rfl
  cases hd : d.down with
  | true =>
    rw [hd] at hrx
    have HO := Lib.hid (open_down (at_ := at_) (room := room) hd)
    have hcd := (H0'.out.at_ 0 rfl).c5
    have hcl := (H0'.out.at_ 2 rfl).c11
    have hcr := (H0'.out.at_ 1 rfl).c11
    rw [hrx] at hcd
    clear hd
    go_wp2_with fail
    have hbr : Blk W (w.heap.size + 1) 74 _ := H0'.out.at_ 1 rfl
    refine ret_set11m hbr rfl rfl rfl rfl rfl rfl (fun W hW => load_log hW) fun W2 hW hg => ?_
    subst hg
    have HX := (H0'.out.store 1 rfl 0 [.slice As d.rx.sure.length cs, .slice Ap d.rx.pend.length cp, .slice Af d.rx.falls.length cf, .int .i64 (d.rx.ch : Nat), .bool d.rx.down, .int .i64 (at_ : Nat), .int .i64 (room : Nat), .int .u64 0, .string ⟨#[]⟩, .int .i64 0, .bool false] rfl).done
    rw [HO.out]
    rw [hrx] at HX
    exact ⟨_, ⟨at_, room, 0, [], 0, false⟩, none, 0, rfl, HX.1, rfl, fun h => absurd h (show (6 : Int) ≠ 0 by decide), EOwn.nil _ _, HX.2⟩
  | false =>
    have HO : Hid (d.openW at_ room = if (d.pick at_ room).1 = 0 then
        (if (d.head at_ 1 0).2 ≠ 0 then ⟨(d.head at_ 1 0).1, .dead at_ room, [], (d.head at_ 1 0).2⟩ else ⟨(d.head at_ 1 0).1, ⟨at_, room, 1, [], 0, false⟩, [], 0⟩)
      else (if (Wal.records (d.body at_ (d.pick at_ room).2)).2 ≠ 0 then ⟨d, .dead at_ room, [], (Wal.records (d.body at_ (d.pick at_ room).2)).2⟩
        else ⟨d, ⟨at_, room, (d.pick at_ room).1, d.body at_ (d.pick at_ room).2, (Wal.records (d.body at_ (d.pick at_ room).2)).1.length, false⟩, (Wal.records (d.body at_ (d.pick at_ room).2)).1, 0⟩)) := by
      show _ = _; unfold DS.openW; rw [if_neg (by rw [hd]; decide)]
    rw [hd] at hrx
    have hcd := (H0'.out.at_ 0 rfl).c5
    rw [hrx] at hcd
    clear hd
    go_wp2_with fail
    clear hcd
    have HRX := Lib.hid hrx
    clear hrx
    go_loopw [10, 11] (fun nv iv wr => ∃ i : Nat, i ≤ 2 ∧ iv = .int .i64 (i : Nat) ∧ nv = .int .i64 ((d.picks at_ room i).2 : Nat) ∧ Hid (Loc S w wr [⟨w.heap.size, 54, [.slice As d.rx.sure.length cs, .slice Ap d.rx.pend.length cp, .slice Af d.rx.falls.length cf, .int .i64 (d.rx.ch : Nat), .bool d.rx.down]⟩, ⟨w.heap.size + 1, 74, [.slice none 0 0, .slice none 0 0, .slice none 0 0, .int .i64 0, .bool false, .int .i64 0, .int .i64 0, .int .u64 0, .string ⟨#[]⟩, .int .i64 0, .bool false]⟩, ⟨w.heap.size + 1 + 1, 74, [.slice As d.rx.sure.length cs, .slice Ap d.rx.pend.length cp, .slice Af d.rx.falls.length cf, .int .i64 (d.rx.ch : Nat), .bool d.rx.down, .int .i64 (at_ : Nat), .int .i64 (room : Nat), .int .u64 ((d.picks at_ room i).1 : Nat), .string ⟨#[]⟩, .int .i64 0, .bool false]⟩] [.slice As d.rx.sure.length cs, .slice Ap d.rx.pend.length cp, .slice Af d.rx.falls.length cf, .int .i64 (d.rx.ch : Nat), .bool d.rx.down] d.rx)) (fun _ iv _ => 2 - (intOf iv).toNat)
    case atStart => exact ⟨0, by omega, rfl, rfl, H0'.out⟩
    case round =>
      obtain ⟨i, hi, rfl, rfl, HJ⟩ := hrel
      clear H0'
      have hpr := d.picks_le at_ room i
      rcases Nat.lt_or_ge i 2 with hlt | hge
      · have hii : (i : Int) < 2 := by omega
        have hbl : at_ + i < d.blocks.length := by have := HIN.out; omega
        have HPS : Hid (d.picks at_ room (i + 1) = if (d.picks at_ room i).1 < (Wal.right (d.block (at_ + i)) room).1 then Wal.right (d.block (at_ + i)) room else d.picks at_ room i) := rfl
        have HRT := Lib.hid (fun W' => refright_any W' (d.block (at_ + i)) (DS.block_length _ _) room (by omega))
        have HRL := Lib.hid (Wal.right_le (d.block (at_ + i)) room)
        have hcst : ((at_ + i : Nat) : Int) = (at_ : Int) + (i : Int) := by omega
        have HNW := Lib.hid (fun S' W' cc (h : RefX S' W' cc d.rx) => HNOW.out S' W' cc (at_ + i) h hbl)
        rw [hcst] at HNW
        clear hcst
        generalize d.block (at_ + i) = blk at HPS HRT HRL HNW
        generalize Wal.right blk room = rr at HPS HRT HRL
        obtain ⟨s1, m1⟩ := rr
        generalize hpp : d.picks at_ room i = pp at HPS HJ hpr ⊢
        obtain ⟨s0, m0⟩ := pp
        simp only at HPS HRT HRL HJ hpr ⊢
        unfold RetRight at HRT
        simp only at HRT
        have hcd := (HJ.out.at_ 0 rfl).c5
        have hcl := (HJ.out.at_ 2 rfl).c11
        go_wp2_with fail
        refine wp_region_plan (.take 0 (.take 1 (.take 2 (.take 3 (.take 5 (.take 6 (.run 4 [5, 6] (.run 7 [] (.take 8 (.take 9 (.take 10 (.take 11 (.take 12 .fin))))))))))))) (by kernel_rfl) (by kernel_rfl) (by kernel_rfl) (by kernel_rfl) ?_
        repeat' (first | (refine hZ _ _ ?_; clear hZ) | (refine hZ _ ?_; clear hZ) | (refine hZ ?_; clear hZ) | rw [again_nil] | rw [walk_fin] | ((first | rw [walk_take] | rw [walk_run] | rw [again_cons]); intro Z hZ; simp only [sel, List.getElem?_toArray, List.getElem?_cons_zero, List.getElem?_cons_succ]; go_wp2_with (fail)))
        refine (HNW.out _ _ _ HJ.out.drew.rx).mono ?_
        rintro e w2 ⟨rfl, hb2⟩
        have H2 := Lib.hid (HJ.out.drew.below hb2)
        have hcd2 := (H2.out.at_ 0 rfl).c5
        have hcl2 := (H2.out.at_ 2 rfl).c11
        clear hcd hcl hb2 HJ HNW
        go_wp2_with fail
        repeat' (first | (refine hZ _ _ ?_; clear hZ) | (refine hZ _ ?_; clear hZ) | (refine hZ ?_; clear hZ) | rw [again_nil] | rw [walk_fin] | ((first | rw [walk_take] | rw [walk_run] | rw [again_cons]); intro Z hZ; simp only [sel, List.getElem?_toArray, List.getElem?_cons_zero, List.getElem?_cons_succ]; go_wp2_with (fail)))
        refine (HRT.out w2).mono ?_
        rintro e w3 ⟨rfl, hb3⟩
        have H3 := Lib.hid (H2.out.below hb3)
        have hcl := (H3.out.at_ 2 rfl).c11
        clear hcd2 hcl2 hb3 H2 HRT
        rcases Nat.lt_or_ge s0 s1 with hss | hss
        · have hs1 : (s0 : Int) < (s1 : Int) := by omega
          have HP1 : Hid (d.picks at_ room (i + 1) = (s1, m1)) := by show _ = _; rw [HPS.out, if_pos hss]
          clear hss
          go_wp2_with fail
          repeat' (first | (refine hZ _ _ ?_; clear hZ) | (refine hZ _ ?_; clear hZ) | (refine hZ ?_; clear hZ) | rw [again_nil] | rw [walk_fin] | ((first | rw [walk_take] | rw [walk_run] | rw [again_cons]); intro Z hZ; simp only [sel, List.getElem?_toArray, List.getElem?_cons_zero, List.getElem?_cons_succ]; go_wp2_with (fail)))
          go_wp2_with fail
          go_roundw
          case rel =>
            refine ⟨i + 1, by omega, by go_num, by rw [HP1.out], ?_⟩
            rw [HP1.out]
            exact H3.out.store 2 rfl 7 [.int .u64 (s1 : Nat)] rfl
          case measure => simp [intOf]; omega
        · have hs1 : ¬ (s0 : Int) < (s1 : Int) := by omega
          have HP1 : Hid (d.picks at_ room (i + 1) = (s0, m0)) := by show _ = _; rw [HPS.out, if_neg (by omega)]
          clear hss
          go_wp2_with fail
          repeat' (first | (refine hZ _ _ ?_; clear hZ) | (refine hZ _ ?_; clear hZ) | (refine hZ ?_; clear hZ) | rw [again_nil] | rw [walk_fin] | ((first | rw [walk_take] | rw [walk_run] | rw [again_cons]); intro Z hZ; simp only [sel, List.getElem?_toArray, List.getElem?_cons_zero, List.getElem?_cons_succ]; go_wp2_with (fail)))
          go_wp2_with fail
          go_roundw
          case rel =>
            refine ⟨i + 1, by omega, by go_num, by rw [HP1.out], ?_⟩
            rw [HP1.out]
            exact H3.out
          case measure => simp [intOf]; omega
      · obtain rfl : i = 2 := by omega
        rw [DS.picks_two] at HJ hpr ⊢
        generalize d.pick at_ room = pp at HJ HO hpr ⊢
        obtain ⟨s1, m⟩ := pp
        simp only at HJ HO hpr ⊢
        have hcl := (HJ.out.at_ 2 rfl).c11
        clear hi hge
        rcases Nat.eq_zero_or_pos s1 with hs | hs
        · subst hs
          rw [if_pos rfl] at HO
          have HH := Lib.hid (refhd_any _ wr HJ.out.lt d ⟨at_, room, 0, [], 0, false⟩ _ HJ.out.rx HG.out.1 HG.out.2.2.1 HG.out.2.2.2 hat 1 (by decide) [] (by simp))
          unfold RetL at HH
          simp only [List.length_nil] at HH
          generalize d.head at_ 1 0 = rr at HH HO
          obtain ⟨d2, e2⟩ := rr
          simp only at HH HO
          rcases Classical.em (e2 = 0) with he | he
          · subst he
            rw [if_neg (by simp)] at HO
            have hput : LS.put ⟨at_, room, 0, [], 0, false⟩ 1 [] 0 = ⟨at_, room, 1, [], 0, false⟩ := rfl
            rw [hput] at HH
            simp only [xlTail, txt, List.cons_append, List.nil_append] at HH
            clear hput
            go_wp2_with fail
            refine HH.out.mono ?_
            rintro e w3 ⟨c3, rfl, hx3, hb3⟩
            have H3 := Lib.hid (HJ.out.call hb3 hx3)
            obtain ⟨As3, cs3, Ap3, cp3, Af3, cf3, rfl⟩ := hx3.open_
            clear hx3 hb3 HH hcl HJ
            simp only [List.cons_append, List.nil_append]
            go_upto_region 13 with (fail)
            have H4 := Lib.hid (H3.out.alloc #[.slice As3 d2.rx.sure.length cs3, .slice Ap3 d2.rx.pend.length cp3, .slice Af3 d2.rx.falls.length cf3, .int .i64 (d2.rx.ch : Nat), .bool d2.rx.down, .int .i64 (at_ : Nat), .int .i64 (room : Nat), .int .u64 1, .string ⟨#[]⟩, .int .i64 0, .bool false] 74)
            simp only [List.nil_append, List.cons_append] at H4
            clear H3
            generalize (w3.alloc _) = W4 at H4 ⊢
            have hcl := (H4.out.at_ 3 rfl).c11
            have hcr := (H4.out.at_ 1 rfl).c11
            go_wp2_with fail
            have hbr : Blk W4 (w.heap.size + 1) 74 _ := H4.out.at_ 1 rfl
            refine ret_set11m hbr rfl rfl rfl rfl rfl rfl (fun W hW => load_log hW) fun W2 hW hg => ?_
            subst hg
            have HX := (H4.out.store 1 rfl 0 [.slice As3 d2.rx.sure.length cs3, .slice Ap3 d2.rx.pend.length cp3, .slice Af3 d2.rx.falls.length cf3, .int .i64 (d2.rx.ch : Nat), .bool d2.rx.down, .int .i64 (at_ : Nat), .int .i64 (room : Nat), .int .u64 1, .string ⟨#[]⟩, .int .i64 0, .bool false] rfl).done
            rw [HO.out]
            exact ⟨_, ⟨at_, room, 1, [], 0, false⟩, none, 0, rfl, HX.1, rfl, fun _ => rfl, EOwn.nil _ _, HX.2⟩
          · rw [if_pos he] at HO
            have hput : LS.put ⟨at_, room, 0, [], 0, false⟩ 1 [] e2 = ⟨at_, room, 0, [], 0, true⟩ := by unfold LS.put; rw [if_neg he]
            have HE := Lib.hid he
            clear he
            rw [hput] at HH
            simp only [xlTail, txt, List.cons_append, List.nil_append] at HH
            clear hput
            go_wp2_with fail
            refine HH.out.mono ?_
            rintro e w3 ⟨c3, rfl, hx3, hb3⟩
            have H3 := Lib.hid (HJ.out.call hb3 hx3)
            obtain ⟨As3, cs3, Ap3, cp3, Af3, cf3, rfl⟩ := hx3.open_
            clear hx3 hb3 HH hcl HJ
            simp only [List.cons_append, List.nil_append]
            go_upto_region 13 with (fail)
            have H4 := Lib.hid (H3.out.alloc #[.slice As3 d2.rx.sure.length cs3, .slice Ap3 d2.rx.pend.length cp3, .slice Af3 d2.rx.falls.length cf3, .int .i64 (d2.rx.ch : Nat), .bool d2.rx.down, .int .i64 (at_ : Nat), .int .i64 (room : Nat), .int .u64 0, .string ⟨#[]⟩, .int .i64 0, .bool true] 74)
            simp only [List.nil_append, List.cons_append] at H4
            clear H3
            generalize (w3.alloc _) = W4 at H4 ⊢
            have hcl := (H4.out.at_ 3 rfl).c11
            have hcr := (H4.out.at_ 1 rfl).c11
            go_wp2_with fail
            have hbr : Blk W4 (w.heap.size + 1) 74 _ := H4.out.at_ 1 rfl
            refine ret_set11m hbr rfl rfl rfl rfl rfl rfl (fun W hW => load_log hW) fun W2 hW hg => ?_
            subst hg
            have HX := (H4.out.store 1 rfl 0 [.slice As3 d2.rx.sure.length cs3, .slice Ap3 d2.rx.pend.length cp3, .slice Af3 d2.rx.falls.length cf3, .int .i64 (d2.rx.ch : Nat), .bool d2.rx.down, .int .i64 (at_ : Nat), .int .i64 (room : Nat), .int .u64 0, .string ⟨#[]⟩, .int .i64 0, .bool true] rfl).done
            rw [HO.out]
            exact ⟨_, ⟨at_, room, 0, [], 0, true⟩, none, 0, rfl, HX.1, rfl, fun h => absurd h HE.out, EOwn.nil _ _, HX.2⟩
        · have hs0 : ((s1 : Int) == 0) = false := by rw [beq_eq_false_iff_ne]; omega
          rw [if_neg (by omega)] at HO
          obtain ⟨wo, rfl⟩ : ∃ wo : World, wo = wr := ⟨_, rfl⟩
          have hbn : ∀ j, (ByteArray.mk (d.bytes (at_ + 2) j).toArray).size = j * 512 := fun j => by simp [ByteArray.size, DS.bytes_length]
          have HBN := Lib.hid hbn
          clear hbn
          go_wp2_with fail
          clear hcl
          go_loopw [16, 17] (fun av iv wq => ∃ j : Nat, iv = .int .i64 ((j : Int) + 2) ∧ av = .string ⟨(d.bytes (at_ + 2) j).toArray⟩ ∧ j * 512 < m + 512 ∧ Hid (Loc S w wq [⟨w.heap.size, 54, [.slice As d.rx.sure.length cs, .slice Ap d.rx.pend.length cp, .slice Af d.rx.falls.length cf, .int .i64 (d.rx.ch : Nat), .bool d.rx.down]⟩, ⟨w.heap.size + 1, 74, [.slice none 0 0, .slice none 0 0, .slice none 0 0, .int .i64 0, .bool false, .int .i64 0, .int .i64 0, .int .u64 0, .string ⟨#[]⟩, .int .i64 0, .bool false]⟩, ⟨w.heap.size + 1 + 1, 74, [.slice As d.rx.sure.length cs, .slice Ap d.rx.pend.length cp, .slice Af d.rx.falls.length cf, .int .i64 (d.rx.ch : Nat), .bool d.rx.down, .int .i64 (at_ : Nat), .int .i64 (room : Nat), .int .u64 (s1 : Nat), .string ⟨#[]⟩, .int .i64 0, .bool false]⟩] [.slice As d.rx.sure.length cs, .slice Ap d.rx.pend.length cp, .slice Af d.rx.falls.length cf, .int .i64 (d.rx.ch : Nat), .bool d.rx.down] d.rx)) (fun _ iv _ => m + 2048 - (intOf iv).toNat * 512)
          case atStart => exact ⟨0, rfl, rfl, by omega, HJ.out⟩
          case round =>
            obtain ⟨j, rfl, rfl, hjm, HQ⟩ := hrel
            clear HJ
            have hbs := HBN.out j
            rcases Nat.lt_or_ge (j * 512) m with hlt | hge
            · have hii : (j : Int) * 512 < (m : Int) := by omega
              have hbl : at_ + 2 + j < d.blocks.length := by have := HIN.out; omega
              have HNW := Lib.hid (HNOW.out _ _ _ (at_ + 2 + j) HQ.out.rx hbl)
              have hcst : ((at_ + 2 + j : Nat) : Int) = (at_ : Int) + ((j : Int) + 2) := by omega
              rw [hcst] at HNW
              have hsb : (ByteArray.mk (d.block (at_ + 2 + j)).toArray).size = 512 := by simp [ByteArray.size, DS.block_length]
              have HBS := Lib.hid (cut_join (d.bytes (at_ + 2) j) (d.block (at_ + 2 + j)))
              have hcd := (HQ.out.at_ 0 rfl).c5
              clear hcst
              go_wp2_with fail
              refine HNW.out.mono ?_
              rintro e w5 ⟨rfl, hb5⟩
              have H5 := Lib.hid (HQ.out.below hb5)
              clear hb5 HNW hcd HQ
              go_wp2_with fail
              go_roundw
              case rel => exact ⟨j + 1, by go_num, by rw [DS.bytes_succ, HBS.out], by omega, H5.out⟩
              case measure => simp [intOf]; omega
            · have hii : ¬ (j : Int) * 512 < (m : Int) := by omega
              have HBY : Hid (d.body at_ m = (d.bytes (at_ + 2) j).take m) := by
                show _ = _
                unfold DS.body
                rw [show (m + 511) / 512 = j from by omega]
              have hct := cut_head (d.bytes (at_ + 2) j) m
              rw [← HBY.out] at hct
              have hbl := d.body_length at_ m
              have hrc := Lib.hid (fun W' => refrecs_any W' (d.body at_ m) (by omega))
              generalize d.body at_ m = bd at hct hbl hrc HO
              have hszb : (ByteArray.mk bd.toArray).size = m := by simp [ByteArray.size, hbl]
              have hcl := (HQ.out.at_ 2 rfl).c11
              clear HBY
              go_upto_region 20 with (fail)
              have H6 := Lib.hid (HQ.out.store 2 rfl 8 [.string ⟨bd.toArray⟩] rfl)
              clear hcl HQ
              simp only [World.setCells, Nat.reduceAdd, List.set_cons_succ, List.set_cons_zero, setFrom] at H6
              generalize (World.setCell wr _ _) = W6 at H6 ⊢
              have hcl := (H6.out.at_ 2 rfl).c11
              unfold RetRecs at hrc
              have HER := Lib.hid (records_err bd.length bd)
              generalize hrr : Wal.records bd = rr at hrc HO
              have HRR : Hid (rr.2 = 0 ∨ rr.1 = []) := by rw [← hrr]; exact HER.out
              have HRL : Hid (rr.1.length ≤ 511000) := by rw [← hrr]; exact Nat.le_trans (records_length bd) (by omega)
              obtain ⟨rs, e7⟩ := rr
              simp only at hrc HO HRR HRL
              clear HER hrr
              go_wp2_with fail
              refine (hrc.out W6).mono ?_
              rintro e w7 ⟨A7, c7, rfl, ho7, hb7⟩
              have H7 := Lib.hid (H6.out.below hb7)
              have HR7 := Lib.hid ho7
              clear hb7 ho7 hcl hrc
              have hcl := (H7.out.at_ 2 rfl).c11
              have hrl := HRL.out
              go_upto_region 22 with (fail)
              have H8 := Lib.hid (H7.out.store 2 rfl 9 [.int .i64 (rs.length : Nat)] rfl)
              have HSZ6 : Hid (w.heap.size ≤ W6.heap.size) := H6.out.bel.size
              have HNA : Hid (∀ a, A7 = some a → a.block ≠ w.heap.size + 1 + 1 ∧ a.block ≠ w.heap.size + 1) := fun a ha => by
                have h1 := (HR7.out.block a ha).1
                have h2 := (H6.out.at_ 2 rfl).lt
                simp only at h2
                omega
              have HR8 := Lib.hid (HR7.out.setCellsNe (w.heap.size + 1 + 1) 9 [.int .i64 (rs.length : Nat)] fun a ha => (HNA.out a ha).1)
              clear hcl H7 HR7 H6
              simp only [World.setCells, Nat.reduceAdd, List.set_cons_succ, List.set_cons_zero, setFrom] at H8 HR8
              generalize (World.setCell w7 _ _) = W8 at H8 HR8 ⊢
              have hcl := (H8.out.at_ 2 rfl).c11
              have hcr := (H8.out.at_ 1 rfl).c11
              go_wp2_with fail
              have hbr : Blk W8 (w.heap.size + 1) 74 _ := H8.out.at_ 1 rfl
              refine ret_set11m hbr rfl rfl rfl rfl rfl rfl (fun W hW => load_log hW) fun W2 hW hg => ?_
              subst hg
              have HX := (H8.out.store 1 rfl 0 [.slice As d.rx.sure.length cs, .slice Ap d.rx.pend.length cp, .slice Af d.rx.falls.length cf, .int .i64 (d.rx.ch : Nat), .bool d.rx.down, .int .i64 (at_ : Nat), .int .i64 (room : Nat), .int .u64 (s1 : Nat), .string ⟨bd.toArray⟩, .int .i64 (rs.length : Nat), .bool false] rfl).done
              have HRF := (HR8.out.setCellsNe (w.heap.size + 1) 0 [.slice As d.rx.sure.length cs, .slice Ap d.rx.pend.length cp, .slice Af d.rx.falls.length cf, .int .i64 (d.rx.ch : Nat), .bool d.rx.down, .int .i64 (at_ : Nat), .int .i64 (room : Nat), .int .u64 (s1 : Nat), .string ⟨bd.toArray⟩, .int .i64 (rs.length : Nat), .bool false] fun a ha => (HNA.out a ha).2).mono HSZ6.out
              rw [HO.out]
              rcases Classical.em (e7 = 0) with he | he
              · subst he
                rw [if_neg (by simp)]
                exact ⟨_, ⟨at_, room, s1, bd, rs.length, false⟩, A7, c7, rfl, HX.1, rfl, fun _ => rfl, HRF, HX.2⟩
              · rw [if_pos he]
                have hrs : rs = [] := by
                  rcases HRR.out with h | h
                  · exact absurd h he
                  · exact h
                subst hrs
                exact ⟨_, ⟨at_, room, s1, bd, 0, false⟩, A7, c7, rfl, HX.1, rfl, fun h => absurd h he, HRF, HX.2⟩
end Go.Proofs.Ythbanhedjfpmaaa
end

section
/-
  The contract of the document's Reset.
-/
namespace Go.Proofs.Ythbanhedjfpmaaa
set_option linter.unusedSimpArgs false
set_option linter.unusedVariables false
open Go.RowKit

/-- What is known of the document's journal, if it is whole. -/
def LFine (l : LS) : Prop := l.broken = false → l.at_ ≤ 5000 ∧ l.seq ≤ Wal.last62 ∧ l.data.length ≤ 511000 ∧ l.room ≤ 511000 ∧ l.count ≤ 511000
set_option maxRecDepth 20000 in
set_option maxHeartbeats 1000000 in
theorem refreset_any (S : Nat → Prop) (w : World) (hS : ∀ i, S i → i < w.heap.size) (d : DS) (l : LS) (c : List Value) (h : RefX S w c d.rx) (hG : DGood d) (hch : d.changes < 1000000) (hpl : d.pending.length < 100000) (hl : LFine l) :
    Calls Try.prog 68 #[.agg (c ++ xlTail l).toArray] w (RetL S w (d.reset l).d (d.reset l).l (d.reset l).e) := by
  have HL := Lib.hid (Loc.start h hS)
  obtain ⟨As, cs, Ap, cp, Af, cf, rfl⟩ := h.open_
  have HG := Lib.hid (And.intro hG (And.intro hch hpl))
  clear h hS hG hch hpl
  cases hb : l.broken with
  | true =>
    have HO := Lib.hid (reset_broken (d := d) hb)
    have HB := Lib.hid hb
    clear hl hb
    go_enter Try.func68, Try.ntmps68
    unfold xlTail txt
    go_upto_region 1 with (fail)
    have H0 := Lib.hid ((HL.out.alloc #[.slice As d.rx.sure.length cs, .slice Ap d.rx.pend.length cp, .slice Af d.rx.falls.length cf, .int .i64 (d.rx.ch : Nat), .bool d.rx.down, .int .i64 (l.at_ : Nat), .int .i64 (l.room : Nat), .int .u64 (l.seq : Nat), .string ⟨l.data.toArray⟩, .int .i64 (l.count : Nat), .bool l.broken] 74).alloc
      #[.slice none 0 0, .slice none 0 0, .slice none 0 0, .int .i64 0, .bool false, .int .i64 0, .int .i64 0, .int .u64 0, .string ⟨#[]⟩, .int .i64 0, .bool false] 74)
    simp only [List.nil_append, List.cons_append] at H0
    have hz1 : (w.alloc (.cells #[.slice As d.rx.sure.length cs, .slice Ap d.rx.pend.length cp, .slice Af d.rx.falls.length cf, .int .i64 (d.rx.ch : Nat), .bool d.rx.down, .int .i64 (l.at_ : Nat), .int .i64 (l.room : Nat), .int .u64 (l.seq : Nat), .string ⟨l.data.toArray⟩, .int .i64 (l.count : Nat), .bool l.broken] 74)).heap.size = w.heap.size + 1 := by simp
    rw [hz1] at H0
    clear hz1
    generalize ((w.alloc _).alloc _) = W at H0 ⊢
    have hcb := (H0.out.at_ 0 rfl).c11
    have hcr := (H0.out.at_ 1 rfl).c11
    rw [HB.out] at hcb
    go_wp2_with fail
    have hbr : Blk W (w.heap.size + 1) 74 _ := (H0).out.at_ 1 rfl
    refine ret_set11n hbr rfl rfl rfl rfl rfl (fun W hW => load_log hW) fun W2 hW hg => ?_
    subst hg
    have HX := ((H0).out.store 1 rfl 0 [.slice As d.rx.sure.length cs, .slice Ap d.rx.pend.length cp, .slice Af d.rx.falls.length cf, .int .i64 (d.rx.ch : Nat), .bool d.rx.down, .int .i64 (l.at_ : Nat), .int .i64 (l.room : Nat), .int .u64 (l.seq : Nat), .string ⟨l.data.toArray⟩, .int .i64 (l.count : Nat), .bool true] rfl).done
    rw [HO.out]
    refine ⟨[.slice As d.rx.sure.length cs, .slice Ap d.rx.pend.length cp, .slice Af d.rx.falls.length cf, .int .i64 (d.rx.ch : Nat), .bool d.rx.down], ?_, HX⟩
    unfold xlTail
    rw [HB.out]
    rfl
  | false =>
    obtain ⟨hat, hsq, hdl, hrm, -⟩ := hl hb
    have hsw := Lib.hid (seq_wrap hsq)
    have HB := Lib.hid hb
    rcases Classical.em (l.seq = Wal.last62) with hs | hs
    · have HO : Hid (d.reset l = ⟨d, l, 40⟩) := by show _ = _; unfold DS.reset; rw [if_neg (by simp [hb]), if_pos hs]
      have hs1 : ((l.seq : Int) == 4611686018427387904) = true := by rw [hs]; decide
      clear hl hs hb
      go_enter Try.func68, Try.ntmps68
      unfold xlTail txt
      go_upto_region 1 with (fail)
      have H0 := Lib.hid ((HL.out.alloc #[.slice As d.rx.sure.length cs, .slice Ap d.rx.pend.length cp, .slice Af d.rx.falls.length cf, .int .i64 (d.rx.ch : Nat), .bool d.rx.down, .int .i64 (l.at_ : Nat), .int .i64 (l.room : Nat), .int .u64 (l.seq : Nat), .string ⟨l.data.toArray⟩, .int .i64 (l.count : Nat), .bool l.broken] 74).alloc
        #[.slice none 0 0, .slice none 0 0, .slice none 0 0, .int .i64 0, .bool false, .int .i64 0, .int .i64 0, .int .u64 0, .string ⟨#[]⟩, .int .i64 0, .bool false] 74)
      simp only [List.nil_append, List.cons_append] at H0
      have hz1 : (w.alloc (.cells #[.slice As d.rx.sure.length cs, .slice Ap d.rx.pend.length cp, .slice Af d.rx.falls.length cf, .int .i64 (d.rx.ch : Nat), .bool d.rx.down, .int .i64 (l.at_ : Nat), .int .i64 (l.room : Nat), .int .u64 (l.seq : Nat), .string ⟨l.data.toArray⟩, .int .i64 (l.count : Nat), .bool l.broken] 74)).heap.size = w.heap.size + 1 := by simp
      rw [hz1] at H0
      clear hz1
      generalize ((w.alloc _).alloc _) = W at H0 ⊢
      have hcb := (H0.out.at_ 0 rfl).c11
      have hcr := (H0.out.at_ 1 rfl).c11
      rw [HB.out] at hcb
      go_wp2_with fail
      have hbr : Blk W (w.heap.size + 1) 74 _ := (H0).out.at_ 1 rfl
      refine ret_set11n hbr rfl rfl rfl rfl rfl (fun W hW => load_log hW) fun W2 hW hg => ?_
      subst hg
      have HX := ((H0).out.store 1 rfl 0 [.slice As d.rx.sure.length cs, .slice Ap d.rx.pend.length cp, .slice Af d.rx.falls.length cf, .int .i64 (d.rx.ch : Nat), .bool d.rx.down, .int .i64 (l.at_ : Nat), .int .i64 (l.room : Nat), .int .u64 (l.seq : Nat), .string ⟨l.data.toArray⟩, .int .i64 (l.count : Nat), .bool false] rfl).done
      rw [HO.out]
      refine ⟨[.slice As d.rx.sure.length cs, .slice Ap d.rx.pend.length cp, .slice Af d.rx.falls.length cf, .int .i64 (d.rx.ch : Nat), .bool d.rx.down], ?_, HX⟩
      unfold xlTail
      rw [HB.out]
      rfl
    · have hs1 := seq_last hs
      have HS := Lib.hid (seq_next hsq hs)
      have HO : Hid (d.reset l = if (d.head l.at_ (l.seq + 1) 0).2 ≠ 0 then ⟨(d.head l.at_ (l.seq + 1) 0).1, { l with broken := true }, (d.head l.at_ (l.seq + 1) 0).2⟩ else ⟨(d.head l.at_ (l.seq + 1) 0).1, { l with seq := l.seq + 1, data := [], count := 0 }, 0⟩) := by
        show _ = _; unfold DS.reset; rw [if_neg (by simp [hb]), if_neg hs]
      clear hl hs hb
      go_enter Try.func68, Try.ntmps68
      unfold xlTail txt
      go_upto_region 1 with (fail)
      have H0 := Lib.hid ((HL.out.alloc #[.slice As d.rx.sure.length cs, .slice Ap d.rx.pend.length cp, .slice Af d.rx.falls.length cf, .int .i64 (d.rx.ch : Nat), .bool d.rx.down, .int .i64 (l.at_ : Nat), .int .i64 (l.room : Nat), .int .u64 (l.seq : Nat), .string ⟨l.data.toArray⟩, .int .i64 (l.count : Nat), .bool l.broken] 74).alloc
        #[.slice none 0 0, .slice none 0 0, .slice none 0 0, .int .i64 0, .bool false, .int .i64 0, .int .i64 0, .int .u64 0, .string ⟨#[]⟩, .int .i64 0, .bool false] 74)
      simp only [List.nil_append, List.cons_append] at H0
      have hz1 : (w.alloc (.cells #[.slice As d.rx.sure.length cs, .slice Ap d.rx.pend.length cp, .slice Af d.rx.falls.length cf, .int .i64 (d.rx.ch : Nat), .bool d.rx.down, .int .i64 (l.at_ : Nat), .int .i64 (l.room : Nat), .int .u64 (l.seq : Nat), .string ⟨l.data.toArray⟩, .int .i64 (l.count : Nat), .bool l.broken] 74)).heap.size = w.heap.size + 1 := by simp
      rw [hz1] at H0
      clear hz1
      generalize ((w.alloc _).alloc _) = W at H0 ⊢
      have hcb := (H0.out.at_ 0 rfl).c11
      have hcr := (H0.out.at_ 1 rfl).c11
      have HH := refhd_any _ W H0.out.lt d l _ H0.out.rx HG.out.1 HG.out.2.1 HG.out.2.2 hat (l.seq + 1) HS.out [] (by simp)
      unfold RetL xlTail txt at HH
      simp only [List.length_nil, Int.natCast_add, Int.natCast_one, List.cons_append, List.nil_append] at HH
      generalize d.head l.at_ (l.seq + 1) 0 = rr at HH HO
      obtain ⟨d2, e2⟩ := rr
      simp only at HH HO
      rw [HB.out] at hcb HH H0
      have HHH := Lib.hid HH
      have hw := hsw.out
      clear HH
      go_wp2_with fail
      refine HHH.out.mono ?_
      rintro e w3 ⟨c3, rfl, hx3, hb3⟩
      have H3 := Lib.hid (H0.out.call hb3 hx3)
      obtain ⟨As3, cs3, Ap3, cp3, Af3, cf3, rfl⟩ := hx3.open_
      clear hx3 hb3 HHH hcb hcr H0
      rcases Classical.em (e2 = 0) with he | he
      · subst he
        rw [if_neg (by simp)] at HO
        have hput : l.put (l.seq + 1) [] 0 = { l with seq := l.seq + 1, data := [] } := rfl
        rw [hput]
        simp only [List.cons_append, List.nil_append]
        clear hput
        have hcb := (H3.out.at_ 0 rfl).c11
        go_upto_region 6 with (fail)
        have H4 := Lib.hid (H3.out.store 0 rfl 0 [.slice As3 d2.rx.sure.length cs3, .slice Ap3 d2.rx.pend.length cp3, .slice Af3 d2.rx.falls.length cf3, .int .i64 (d2.rx.ch : Nat), .bool d2.rx.down, .int .i64 (l.at_ : Nat), .int .i64 (l.room : Nat), .int .u64 ((l.seq : Int) + 1), .string ⟨#[]⟩, .int .i64 (l.count : Nat), .bool l.broken] rfl)
        clear hcb H3
        simp only [World.setCells, Nat.zero_add, Nat.reduceAdd, List.set_cons_succ, List.set_cons_zero, setFrom] at H4
        generalize (((((((((((World.setCell w3 _ _).setCell _ _).setCell _ _).setCell _ _).setCell _ _).setCell _ _).setCell _ _).setCell _ _).setCell _ _).setCell _ _).setCell _ _) = W4 at H4 ⊢
        have hcb := (H4.out.at_ 0 rfl).c11
        go_upto_region 8 with (fail)
        have H5 := Lib.hid (H4.out.store 0 rfl 9 [.int .i64 0] rfl)
        clear hcb H4
        simp only [World.setCells, Nat.reduceAdd, List.set_cons_succ, List.set_cons_zero, setFrom] at H5
        generalize (World.setCell W4 _ _) = W5 at H5 ⊢
        have hcb := (H5.out.at_ 0 rfl).c11
        have hcr := (H5.out.at_ 1 rfl).c11
        go_wp2_with fail
        have hbr : Blk W5 (w.heap.size + 1) 74 _ := (H5).out.at_ 1 rfl
        refine ret_set11n hbr rfl rfl rfl rfl rfl (fun W hW => load_log hW) fun W2 hW hg => ?_
        subst hg
        have HX := ((H5).out.store 1 rfl 0 [.slice As3 d2.rx.sure.length cs3, .slice Ap3 d2.rx.pend.length cp3, .slice Af3 d2.rx.falls.length cf3, .int .i64 (d2.rx.ch : Nat), .bool d2.rx.down, .int .i64 (l.at_ : Nat), .int .i64 (l.room : Nat), .int .u64 ((l.seq : Int) + 1), .string ⟨#[]⟩, .int .i64 0, .bool l.broken] rfl).done
        rw [HO.out]
        exact ⟨_, rfl, HX⟩
      · rw [if_pos he] at HO
        have hput : l.put (l.seq + 1) [] e2 = { l with broken := true } := by unfold LS.put; rw [if_neg he]
        rw [hput]
        simp only [List.cons_append, List.nil_append]
        have he1 : (e2 == 0) = false := by simpa using he
        clear hput he
        have hcb := (H3.out.at_ 0 rfl).c11
        go_upto_region 6 with (fail)
        have H4 := Lib.hid (H3.out.store 0 rfl 0 [.slice As3 d2.rx.sure.length cs3, .slice Ap3 d2.rx.pend.length cp3, .slice Af3 d2.rx.falls.length cf3, .int .i64 (d2.rx.ch : Nat), .bool d2.rx.down, .int .i64 (l.at_ : Nat), .int .i64 (l.room : Nat), .int .u64 (l.seq : Nat), .string ⟨l.data.toArray⟩, .int .i64 (l.count : Nat), .bool true] rfl)
        clear hcb H3
        simp only [World.setCells, Nat.zero_add, Nat.reduceAdd, List.set_cons_succ, List.set_cons_zero, setFrom] at H4
        generalize (((((((((((World.setCell w3 _ _).setCell _ _).setCell _ _).setCell _ _).setCell _ _).setCell _ _).setCell _ _).setCell _ _).setCell _ _).setCell _ _).setCell _ _) = W4 at H4 ⊢
        have hcb := (H4.out.at_ 0 rfl).c11
        have hcr := (H4.out.at_ 1 rfl).c11
        go_wp2_with fail
        have hbr : Blk W4 (w.heap.size + 1) 74 _ := (H4).out.at_ 1 rfl
        refine ret_set11n hbr rfl rfl rfl rfl rfl (fun W hW => load_log hW) fun W2 hW hg => ?_
        subst hg
        have HX := ((H4).out.store 1 rfl 0 [.slice As3 d2.rx.sure.length cs3, .slice Ap3 d2.rx.pend.length cp3, .slice Af3 d2.rx.falls.length cf3, .int .i64 (d2.rx.ch : Nat), .bool d2.rx.down, .int .i64 (l.at_ : Nat), .int .i64 (l.room : Nat), .int .u64 (l.seq : Nat), .string ⟨l.data.toArray⟩, .int .i64 (l.count : Nat), .bool true] rfl).done
        rw [HO.out]
        exact ⟨_, rfl, HX⟩
end Go.Proofs.Ythbanhedjfpmaaa
end

section
/-
  The contract of the document's Add.
-/
namespace Go.Proofs.Ythbanhedjfpmaaa
set_option linter.unusedSimpArgs false
set_option linter.unusedVariables false
open Go.RowKit

theorem Loc.drop {S : Nat → Prop} {w W : World} {bs cs : List LB} {cx : List Value} {x : RX} (h : Loc S w W (bs ++ cs) cx x) : Loc S w W bs cx x :=
  ⟨fun b hb => h.blk b (List.mem_append_left _ hb), by
    have := h.nodup
    rw [List.map_append, List.nodup_append] at this
    exact this.1, fun b hb => h.lo b (List.mem_append_left _ hb), h.bel, h.rx.less (fun i hi => by
    rcases hi with hi | ⟨b, hb, e⟩
    · exact .inl hi
    · exact .inr ⟨b, List.mem_append_left _ hb, e⟩), h.hS⟩
theorem lframes_take (L : List (List UInt8)) (i : Nat) (h : i < L.length) : Wal.frames (L.take (i + 1)) = Wal.frames (L.take i) ++ Wal.frame L[i] := by
  rw [List.take_succ_eq_append_getElem h, Wal.frames_append]
  simp [Wal.frames]
theorem lframes_le (L : List (List UInt8)) (i : Nat) : (Wal.frames (L.take i)).length ≤ (Wal.frames L).length := by
  have e : L = L.take i ++ L.drop i := (List.take_append_drop _ _).symm
  have h1 : (Wal.frames L).length = (Wal.frames (L.take i)).length + (Wal.frames (L.drop i)).length := by
    rw [← List.length_append, ← Wal.frames_append, ← e]
  omega
/-- How many bytes all is, filled up to whole blocks. -/
def upTo (n : Nat) : Nat := (n + 511) / 512 * 512
theorem pad_cut {all : List UInt8} {k i : Nat} (hk : all.length + k = upTo all.length) (hi : i * 512 < all.length) : ((all ++ List.replicate k (0 : UInt8)).drop (i * 512)).take 512 = padB all i := by
  unfold upTo at hk
  unfold padB
  rw [List.drop_append_of_le_length (by omega), List.take_append, List.take_replicate]
  congr 2
  rw [List.length_take, List.length_drop]
  omega
theorem cut_blk (l : List UInt8) (i : Nat) : (ByteArray.mk l.toArray).extract (i * 512) (i * 512 + 512) = ⟨((l.drop (i * 512)).take 512).toArray⟩ := by
  apply ByteArray.ext
  simp
set_option maxRecDepth 20000 in
set_option maxHeartbeats 1000000 in
theorem refadd_broken (S : Nat → Prop) (w : World) (hS : ∀ i, S i → i < w.heap.size) (d : DS) (l : LS) (c : List Value) (h : RefX S w c d.rx) (hb : l.broken = true) (A : Option Addr) (ca : Nat) (recs : List (List UInt8)) :
    Calls Try.prog 67 #[.agg (c ++ xlTail l).toArray, .slice A recs.length ca] w (RetL S w (d.add l recs).d (d.add l recs).l (d.add l recs).e) := by
  have HL := Lib.hid (Loc.start h hS)
  obtain ⟨As, cs, Ap, cp, Af, cf, rfl⟩ := h.open_
  have HO := Lib.hid (add_broken (d := d) (recs := recs) hb)
  have HB := Lib.hid hb
  clear h hS hb
  go_enter Try.func67, Try.ntmps67
  unfold xlTail txt
  go_upto_region 1 with (fail)
  have H0 := Lib.hid ((HL.out.alloc #[.slice As d.rx.sure.length cs, .slice Ap d.rx.pend.length cp, .slice Af d.rx.falls.length cf, .int .i64 (d.rx.ch : Nat), .bool d.rx.down, .int .i64 (l.at_ : Nat), .int .i64 (l.room : Nat), .int .u64 (l.seq : Nat), .string ⟨l.data.toArray⟩, .int .i64 (l.count : Nat), .bool l.broken] 74).alloc #[.slice none 0 0, .slice none 0 0, .slice none 0 0, .int .i64 0, .bool false, .int .i64 0, .int .i64 0, .int .u64 0, .string ⟨#[]⟩, .int .i64 0, .bool false] 74)
  simp only [List.nil_append, List.cons_append] at H0
  have hz1 : (w.alloc (.cells #[.slice As d.rx.sure.length cs, .slice Ap d.rx.pend.length cp, .slice Af d.rx.falls.length cf, .int .i64 (d.rx.ch : Nat), .bool d.rx.down, .int .i64 (l.at_ : Nat), .int .i64 (l.room : Nat), .int .u64 (l.seq : Nat), .string ⟨l.data.toArray⟩, .int .i64 (l.count : Nat), .bool l.broken] 74)).heap.size = w.heap.size + 1 := by simp
  rw [hz1] at H0
  clear hz1
  generalize ((w.alloc _).alloc _) = W at H0 ⊢
  rw [HB.out] at H0
  have hcb := (H0.out.at_ 0 rfl).c11
  have hcr := (H0.out.at_ 1 rfl).c11
  go_wp2_with fail
  have hbr : Blk W (w.heap.size + 1) 74 _ := (H0).out.at_ 1 rfl
  refine ret_set11n hbr rfl rfl rfl rfl rfl (fun W hW => load_log hW) fun W2 hW hg => ?_
  subst hg
  have HX := ((H0).out.store 1 rfl 0 [.slice As d.rx.sure.length cs, .slice Ap d.rx.pend.length cp, .slice Af d.rx.falls.length cf, .int .i64 (d.rx.ch : Nat), .bool d.rx.down, .int .i64 (l.at_ : Nat), .int .i64 (l.room : Nat), .int .u64 (l.seq : Nat), .string ⟨l.data.toArray⟩, .int .i64 (l.count : Nat), .bool true] rfl).done
  rw [HO.out]
  refine ⟨[.slice As d.rx.sure.length cs, .slice Ap d.rx.pend.length cp, .slice Af d.rx.falls.length cf, .int .i64 (d.rx.ch : Nat), .bool d.rx.down], ?_, HX⟩
  unfold xlTail
  rw [HB.out]
  rfl
set_option maxRecDepth 20000 in
set_option maxHeartbeats 1000000 in
theorem refadd_none (S : Nat → Prop) (w : World) (hS : ∀ i, S i → i < w.heap.size) (d : DS) (l : LS) (c : List Value) (h : RefX S w c d.rx) (hb : l.broken = false) (A : Option Addr) (ca : Nat) :
    Calls Try.prog 67 #[.agg (c ++ xlTail l).toArray, .slice A 0 ca] w (RetL S w (d.add l []).d (d.add l []).l (d.add l []).e) := by
  have HL := Lib.hid (Loc.start h hS)
  obtain ⟨As, cs, Ap, cp, Af, cf, rfl⟩ := h.open_
  have HO : Hid (d.add l [] = ⟨d, l, 0⟩) := by show _ = _; unfold DS.add; rw [if_neg (by simp [hb]), if_pos rfl]
  have HB := Lib.hid hb
  clear h hS hb
  go_enter Try.func67, Try.ntmps67
  unfold xlTail txt
  go_upto_region 1 with (fail)
  have H0 := Lib.hid ((HL.out.alloc #[.slice As d.rx.sure.length cs, .slice Ap d.rx.pend.length cp, .slice Af d.rx.falls.length cf, .int .i64 (d.rx.ch : Nat), .bool d.rx.down, .int .i64 (l.at_ : Nat), .int .i64 (l.room : Nat), .int .u64 (l.seq : Nat), .string ⟨l.data.toArray⟩, .int .i64 (l.count : Nat), .bool l.broken] 74).alloc #[.slice none 0 0, .slice none 0 0, .slice none 0 0, .int .i64 0, .bool false, .int .i64 0, .int .i64 0, .int .u64 0, .string ⟨#[]⟩, .int .i64 0, .bool false] 74)
  simp only [List.nil_append, List.cons_append] at H0
  have hz1 : (w.alloc (.cells #[.slice As d.rx.sure.length cs, .slice Ap d.rx.pend.length cp, .slice Af d.rx.falls.length cf, .int .i64 (d.rx.ch : Nat), .bool d.rx.down, .int .i64 (l.at_ : Nat), .int .i64 (l.room : Nat), .int .u64 (l.seq : Nat), .string ⟨l.data.toArray⟩, .int .i64 (l.count : Nat), .bool l.broken] 74)).heap.size = w.heap.size + 1 := by simp
  rw [hz1] at H0
  clear hz1
  generalize ((w.alloc _).alloc _) = W at H0 ⊢
  rw [HB.out] at H0
  have hcb := (H0.out.at_ 0 rfl).c11
  have hcr := (H0.out.at_ 1 rfl).c11
  go_wp2_with fail
  have hbr : Blk W (w.heap.size + 1) 74 _ := (H0).out.at_ 1 rfl
  refine ret_set11n hbr rfl rfl rfl rfl rfl (fun W hW => load_log hW) fun W2 hW hg => ?_
  subst hg
  have HX := ((H0).out.store 1 rfl 0 [.slice As d.rx.sure.length cs, .slice Ap d.rx.pend.length cp, .slice Af d.rx.falls.length cf, .int .i64 (d.rx.ch : Nat), .bool d.rx.down, .int .i64 (l.at_ : Nat), .int .i64 (l.room : Nat), .int .u64 (l.seq : Nat), .string ⟨l.data.toArray⟩, .int .i64 (l.count : Nat), .bool false] rfl).done
  rw [HO.out]
  refine ⟨[.slice As d.rx.sure.length cs, .slice Ap d.rx.pend.length cp, .slice Af d.rx.falls.length cf, .int .i64 (d.rx.ch : Nat), .bool d.rx.down], ?_, HX⟩
  unfold xlTail
  rw [HB.out]
  rfl
set_option maxRecDepth 20000 in
set_option maxHeartbeats 2000000 in
theorem refadd_some (S : Nat → Prop) (w : World) (hS : ∀ i, S i → i < w.heap.size) (d : DS) (l : LS) (c : List Value) (h : RefX S w c d.rx) (hG : DGood d) (hch : d.changes < 100000) (hpl : d.pending.length < 90000) (hb : l.broken = false) (hl : LFine l)
    (A : Option Addr) (ca : Nat) (recs : List (List UInt8)) (hr : ERow eStr w A recs) (hrl : ∀ s ∈ recs, s.length ≤ 3000) (hn : recs.length ≤ 1000) (hne : recs ≠ []) :
    Calls Try.prog 67 #[.agg (c ++ xlTail l).toArray, .slice A recs.length ca] w (RetL S w (d.add l recs).d (d.add l recs).l (d.add l recs).e) := by
  have HL := Lib.hid (Loc.start h hS)
  obtain ⟨As, cs, Ap, cp, Af, cf, rfl⟩ := h.open_
  obtain ⟨hat, hsq, hdl, hrm, hcn⟩ := hl hb
  have HO : Hid (d.add l recs = if l.room < (l.data ++ Wal.frames recs).length ∨ l.seq = Wal.last62 then ⟨d, l, 40⟩ else d.addW l (l.data ++ Wal.frames recs) recs.length) := by
    show _ = _; unfold DS.add; rw [if_neg (by simp [hb]), if_neg hne]
  have HB := Lib.hid hb
  have HG := Lib.hid (And.intro hG (And.intro hch hpl))
  have HR := Lib.hid (And.intro hr hrl)
  have hnz : ((recs.length : Int) == 0) = false := by rw [beq_eq_false_iff_ne]; have := List.length_pos_iff.2 hne; omega
  clear h hS hb hl hG hch hpl hr hrl hne
  go_enter Try.func67, Try.ntmps67
  unfold xlTail txt
  go_upto_region 1 with (fail)
  have H0 := Lib.hid ((HL.out.alloc #[.slice As d.rx.sure.length cs, .slice Ap d.rx.pend.length cp, .slice Af d.rx.falls.length cf, .int .i64 (d.rx.ch : Nat), .bool d.rx.down, .int .i64 (l.at_ : Nat), .int .i64 (l.room : Nat), .int .u64 (l.seq : Nat), .string ⟨l.data.toArray⟩, .int .i64 (l.count : Nat), .bool l.broken] 74).alloc #[.slice none 0 0, .slice none 0 0, .slice none 0 0, .int .i64 0, .bool false, .int .i64 0, .int .i64 0, .int .u64 0, .string ⟨#[]⟩, .int .i64 0, .bool false] 74)
  simp only [List.nil_append, List.cons_append] at H0
  have hz1 : (w.alloc (.cells #[.slice As d.rx.sure.length cs, .slice Ap d.rx.pend.length cp, .slice Af d.rx.falls.length cf, .int .i64 (d.rx.ch : Nat), .bool d.rx.down, .int .i64 (l.at_ : Nat), .int .i64 (l.room : Nat), .int .u64 (l.seq : Nat), .string ⟨l.data.toArray⟩, .int .i64 (l.count : Nat), .bool l.broken] 74)).heap.size = w.heap.size + 1 := by simp
  rw [hz1] at H0
  clear hz1
  generalize ((w.alloc _).alloc _) = W at H0 ⊢
  rw [HB.out] at H0
  have hcb := (H0.out.at_ 0 rfl).c11
  have hcr := (H0.out.at_ 1 rfl).c11
  clear HL
  go_wp2_with fail
  clear hcb hcr
  go_loopw [6, 7] (fun av iv wr => ∃ (i : Nat) (all : List UInt8), i ≤ recs.length ∧ iv = .int .i64 (i : Nat) ∧ av = .string ⟨all.toArray⟩ ∧ all.length ≤ 520000 ∧ Hid (all = l.data ++ Wal.frames (recs.take i) ∧ Loc S w wr [⟨w.heap.size, 74, [.slice As d.rx.sure.length cs, .slice Ap d.rx.pend.length cp, .slice Af d.rx.falls.length cf, .int .i64 (d.rx.ch : Nat), .bool d.rx.down, .int .i64 (l.at_ : Nat), .int .i64 (l.room : Nat), .int .u64 (l.seq : Nat), .string ⟨l.data.toArray⟩, .int .i64 (l.count : Nat), .bool false]⟩, ⟨w.heap.size + 1, 74, [.slice none 0 0, .slice none 0 0, .slice none 0 0, .int .i64 0, .bool false, .int .i64 0, .int .i64 0, .int .u64 0, .string ⟨#[]⟩, .int .i64 0, .bool false]⟩] [.slice As d.rx.sure.length cs, .slice Ap d.rx.pend.length cp, .slice Af d.rx.falls.length cf, .int .i64 (d.rx.ch : Nat), .bool d.rx.down] d.rx)) (fun _ iv _ => recs.length - (intOf iv).toNat)
  case atStart => exact ⟨0, l.data, Nat.zero_le _, rfl, rfl, by omega, by simp [Wal.frames], H0.out⟩
  case round =>
    obtain ⟨i, all, hi, rfl, rfl, hal, HJ⟩ := hrel
    clear H0
    have hsz : (ByteArray.mk all.toArray).size = all.length := by simp [ByteArray.size]
    have hcb := (HJ.out.2.at_ 0 rfl).c11
    have hcr := (HJ.out.2.at_ 1 rfl).c11
    rcases Nat.lt_or_ge l.room all.length with hbig | hfit
    · -- too much already
      have HE : Hid (d.add l recs = ⟨d, l, 40⟩) := by
        show _ = _
        rw [HO.out, if_pos]
        left
        have h1 := lframes_le recs i
        have h2 := congrArg List.length HJ.out.1
        rw [List.length_append] at h2 ⊢
        omega
      have hbi : (l.room : Int) < (all.length : Int) := by omega
      clear HO
      rcases Nat.lt_or_ge i recs.length with hlt | hge
      · have hii : (i : Int) < (recs.length : Int) := by omega
        go_wp2_with fail
        have hbr : Blk wr (w.heap.size + 1) 74 _ := ((Lib.hid HJ.out.2)).out.at_ 1 rfl
        refine ret_set11n hbr rfl rfl rfl rfl rfl (fun W hW => load_log hW) fun W2 hW hg => ?_
        subst hg
        have HX := (((Lib.hid HJ.out.2)).out.store 1 rfl 0 [.slice As d.rx.sure.length cs, .slice Ap d.rx.pend.length cp, .slice Af d.rx.falls.length cf, .int .i64 (d.rx.ch : Nat), .bool d.rx.down, .int .i64 (l.at_ : Nat), .int .i64 (l.room : Nat), .int .u64 (l.seq : Nat), .string ⟨l.data.toArray⟩, .int .i64 (l.count : Nat), .bool false] rfl).done
        have HO := HE
        rw [HO.out]
        refine ⟨[.slice As d.rx.sure.length cs, .slice Ap d.rx.pend.length cp, .slice Af d.rx.falls.length cf, .int .i64 (d.rx.ch : Nat), .bool d.rx.down], ?_, HX⟩
        unfold xlTail
        rw [HB.out]
        rfl
      · have hii : ¬ (i : Int) < (recs.length : Int) := by omega
        go_wp2_with fail
        have hbr : Blk wr (w.heap.size + 1) 74 _ := ((Lib.hid HJ.out.2)).out.at_ 1 rfl
        refine ret_set11n hbr rfl rfl rfl rfl rfl (fun W hW => load_log hW) fun W2 hW hg => ?_
        subst hg
        have HX := (((Lib.hid HJ.out.2)).out.store 1 rfl 0 [.slice As d.rx.sure.length cs, .slice Ap d.rx.pend.length cp, .slice Af d.rx.falls.length cf, .int .i64 (d.rx.ch : Nat), .bool d.rx.down, .int .i64 (l.at_ : Nat), .int .i64 (l.room : Nat), .int .u64 (l.seq : Nat), .string ⟨l.data.toArray⟩, .int .i64 (l.count : Nat), .bool false] rfl).done
        have HO := HE
        rw [HO.out]
        refine ⟨[.slice As d.rx.sure.length cs, .slice Ap d.rx.pend.length cp, .slice Af d.rx.falls.length cf, .int .i64 (d.rx.ch : Nat), .bool d.rx.down], ?_, HX⟩
        unfold xlTail
        rw [HB.out]
        rfl
    have hfi : ¬ (l.room : Int) < (all.length : Int) := by omega
    rcases Nat.lt_or_ge i recs.length with hlt | hge
    · have hii : (i : Int) < (recs.length : Int) := by omega
      obtain ⟨b, o, rfl, hb2, hce⟩ := str_at (HR.out.1.below HJ.out.2.bel) hlt
      have HT := Lib.hid (lframes_take recs i hlt)
      have hl3 := HR.out.2 recs[i] (List.getElem_mem hlt)
      generalize recs[i] = t at hce HT hl3
      have HFR := Lib.hid (refframe_any wr t (by omega))
      have hfl := (Wal.frame_length t).2
      unfold txt at HFR
      generalize Wal.frame t = ft at HFR HT hfl
      have hszf : (ByteArray.mk ft.toArray).size = ft.length := by simp [ByteArray.size]
      have HCJ := Lib.hid (cut_join all ft)
      go_wp2_with fail
      refine HFR.out.mono ?_
      rintro e w3 ⟨rfl, hb3⟩
      have H3 := Lib.hid (HJ.out.2.below hb3)
      clear hb3 HFR hcb hcr
      go_wp2_with fail
      go_roundw
      case rel => exact ⟨i + 1, all ++ ft, by omega, by go_num, by rw [HCJ.out], by rw [List.length_append]; omega, by rw [HT.out, HJ.out.1, List.append_assoc], H3.out⟩
      case measure => simp [intOf]; omega
    · obtain rfl : i = recs.length := by omega
      have hii : ¬ ((recs.length : Nat) : Int) < ((recs.length : Nat) : Int) := by omega
      have hall : all = l.data ++ Wal.frames recs := by rw [HJ.out.1, List.take_length]
      rw [← hall] at HO
      have HAL := Lib.hid hall
      clear hall
      rcases Classical.em (l.seq = Wal.last62) with hs | hs
      · have HE : Hid (d.add l recs = ⟨d, l, 40⟩) := by show _ = _; rw [HO.out, if_pos (.inr hs)]
        have hs1 : ((l.seq : Int) == 4611686018427387904) = true := by rw [hs]; decide
        clear HO hs
        go_wp2_with fail
        have hbr : Blk wr (w.heap.size + 1) 74 _ := ((Lib.hid HJ.out.2)).out.at_ 1 rfl
        refine ret_set11n hbr rfl rfl rfl rfl rfl (fun W hW => load_log hW) fun W2 hW hg => ?_
        subst hg
        have HX := (((Lib.hid HJ.out.2)).out.store 1 rfl 0 [.slice As d.rx.sure.length cs, .slice Ap d.rx.pend.length cp, .slice Af d.rx.falls.length cf, .int .i64 (d.rx.ch : Nat), .bool d.rx.down, .int .i64 (l.at_ : Nat), .int .i64 (l.room : Nat), .int .u64 (l.seq : Nat), .string ⟨l.data.toArray⟩, .int .i64 (l.count : Nat), .bool false] rfl).done
        have HO := HE
        rw [HO.out]
        refine ⟨[.slice As d.rx.sure.length cs, .slice Ap d.rx.pend.length cp, .slice Af d.rx.falls.length cf, .int .i64 (d.rx.ch : Nat), .bool d.rx.down], ?_, HX⟩
        unfold xlTail
        rw [HB.out]
        rfl
      have hs1 := seq_last hs
      have HS := Lib.hid (seq_next hsq hs)
      have hsw := seq_wrap hsq
      rw [if_neg (by rintro (h | h); omega; exact hs h)] at HO
      clear hs hge hi
      go_wp2_with fail
      clear hcb hcr
      obtain ⟨wo, rfl⟩ : ∃ wo : World, wo = wr := ⟨_, rfl⟩
      go_loopw [8] (fun sv wq => ∃ k : Nat, sv = .string ⟨(all ++ List.replicate k (0 : UInt8)).toArray⟩ ∧ all.length + k ≤ upTo all.length ∧ Hid (wq = wo)) (fun sv _ => match sv with | .string s => upTo all.length - s.size | _ => 0)
      case atStart => exact ⟨0, by simp, by unfold upTo; omega, rfl⟩
      case round =>
        obtain ⟨k, rfl, hku, HW⟩ := hrel
        obtain rfl : wr = wo := HW.out
        have hsk : (ByteArray.mk (all ++ List.replicate k (0 : UInt8)).toArray).size = all.length + k := by simp [ByteArray.size]
        have hu := hku
        unfold upTo at hu
        rcases Classical.em ((all.length + k) % 512 = 0) with hm | hm
        · have hmi : ((all.length : Int) + (k : Int)) % 512 = 0 := by omega
          have HK : Hid (all.length + k = upTo all.length) := by show _ = _; unfold upTo; omega
          obtain ⟨M, hM⟩ : ∃ M, M = (all.length + 511) / 512 := ⟨_, rfl⟩
          have hM1 : M ≤ 1020 := by omega
          have HM : Hid (∀ i : Nat, i < M ↔ i * 512 < all.length) := fun i => by omega
          have hNM : all.length + k = M * 512 := by rw [HK.out]; unfold upTo; rw [← hM]
          have HLC : Hid (∀ i : Nat, i < M → (ByteArray.mk (all ++ List.replicate k (0 : UInt8)).toArray).extract (i * 512) ((i + 1) * 512) = ⟨(padB all i).toArray⟩) := fun i hi => by
            rw [show (i + 1) * 512 = i * 512 + 512 from by omega, cut_blk, pad_cut HK.out ((HM.out i).1 hi)]
          have hcb := (HJ.out.2.at_ 0 rfl).c11
          have hszd : (ByteArray.mk l.data.toArray).size = l.data.length := by simp [ByteArray.size]
          go_wp2_with fail
          rw [hNM] at hsk
          generalize (all ++ List.replicate k (0 : UInt8)) = laid at hsk HLC ⊢
          clear hu hmi hm hNM hku HW hM hcb
          have HJ2 := Lib.hid HJ.out.2
          clear HJ
          have hdiv : ((M * 512 : Nat) : Int) / 512 = (M : Int) := by omega
          obtain ⟨i0, hi0⟩ : ∃ i0, i0 = l.data.length / 512 := ⟨_, rfl⟩
          have hi0c : (l.data.length : Int) / 512 = (i0 : Int) := by omega
          have hi1 : i0 ≤ 1000 := by omega
          have HI0 := Lib.hid (And.intro hi0 hi0c)
          clear hi0 hi0c
          obtain ⟨wo, rfl⟩ : ∃ wo : World, wo = wr := ⟨_, rfl⟩
          go_loopw [9] (fun iv wq => ∃ (i : Nat) (dd : DS) (Asq Apq Afq : Option Addr) (csq cpq cfq : Nat), iv = .int .i64 (i : Nat) ∧ i ≤ 1020 ∧ Hid (DS.lay l.at_ all all.length (l.data.length / 512) d = DS.lay l.at_ all (all.length + i0 - i) i dd ∧ i0 ≤ i ∧ DGood dd ∧ dd.changes ≤ d.changes + i ∧ dd.pending.length ≤ d.pending.length + i ∧ Loc S w wq [⟨w.heap.size, 74, [.slice Asq dd.rx.sure.length csq, .slice Apq dd.rx.pend.length cpq, .slice Afq dd.rx.falls.length cfq, .int .i64 (dd.rx.ch : Nat), .bool dd.rx.down, .int .i64 (l.at_ : Nat), .int .i64 (l.room : Nat), .int .u64 (l.seq : Nat), .string ⟨l.data.toArray⟩, .int .i64 (l.count : Nat), .bool false]⟩, ⟨w.heap.size + 1, 74, [.slice none 0 0, .slice none 0 0, .slice none 0 0, .int .i64 0, .bool false, .int .i64 0, .int .i64 0, .int .u64 0, .string ⟨#[]⟩, .int .i64 0, .bool false]⟩] [.slice Asq dd.rx.sure.length csq, .slice Apq dd.rx.pend.length cpq, .slice Afq dd.rx.falls.length cfq, .int .i64 (dd.rx.ch : Nat), .bool dd.rx.down] dd.rx)) (fun iv _ => 1100 - (intOf iv).toNat)
          case atStart =>
            refine ⟨i0, d, As, Ap, Af, cs, cp, cf, by rw [HI0.out.2], by omega, ?_, Nat.le_refl _, HG.out.1, by omega, by omega, HJ2.out⟩
            rw [← HI0.out.1, Nat.add_sub_cancel]
          case round =>
            obtain ⟨i, dd, Asq, Apq, Afq, csq, cpq, cfq, rfl, hi, HQ⟩ := hrel
            have hgb : d.changes < 100000 ∧ d.pending.length < 90000 := HG.out.2
            clear HJ2
            have hcb := (HQ.out.2.2.2.2.2.at_ 0 rfl).c11
            rcases Nat.lt_or_ge i M with hlt | hge
            · have hii : (i : Int) < (M : Int) := by omega
              have hl5 := (HM.out i).1 hlt
              obtain ⟨f, hf⟩ : ∃ f, all.length + i0 - i = f + 1 := ⟨all.length + i0 - i - 1, by have := HQ.out.2.1; omega⟩
              have HLS := HQ.out.1
              rw [hf, lay_step _ _ _ _ _ hl5] at HLS
              have hcast : ((l.at_ + 2 + i : Nat) : Int) = (l.at_ : Int) + 2 + (i : Int) := by omega
              rw [hcast] at HLS
              have hg1 := HQ.out.2.2.1.write (by have := HQ.out.2.2.2.2.1; omega) ((l.at_ : Int) + 2 + (i : Int)) (padB all i)
              have hc1 := write_changes dd ((l.at_ : Int) + 2 + (i : Int)) (padB all i)
              have hp1 := write_pending dd ((l.at_ : Int) + 2 + (i : Int)) (padB all i)
              have HP : Hid (∀ (S' : Nat → Prop) (W' : World) (cc : List Value), (∀ i, S' i → i < W'.heap.size) → RefX S' W' cc dd.rx → Calls Try.prog 35 #[.agg cc.toArray, .int .i64 ((l.at_ : Int) + 2 + (i : Int)), .string ⟨(padB all i).toArray⟩] W' (RetXN S' W' ((dd.write ((l.at_ : Int) + 2 + (i : Int)) (padB all i)).1.rx, (dd.write ((l.at_ : Int) + 2 + (i : Int)) (padB all i)).2))) := fun S' W' cc h1 h2 =>
                refput_any S' W' h1 dd cc h2 HQ.out.2.2.1 (by have := HQ.out.2.2.2.1; omega) (by have := HQ.out.2.2.2.2.1; omega) _ _ (by rw [padB_length]; decide)
              have hxc := HLC.out i hlt
              generalize padB all i = pb at HLS hg1 hc1 hp1 HP hxc
              generalize dd.write ((l.at_ : Int) + 2 + (i : Int)) pb = wrt at HLS hg1 hc1 hp1 HP
              obtain ⟨d1, e1⟩ := wrt
              simp only at HLS hg1 hc1 hp1 HP
              have HG1 := Lib.hid (And.intro hg1 (And.intro hc1 hp1))
              have HE := Lib.hid HLS
              have HF := Lib.hid hf
              have HQL := Lib.hid HQ.out.2.2.2.2.2
              have HQN := Lib.hid (And.intro HQ.out.2.1 (And.intro HQ.out.2.2.2.1 HQ.out.2.2.2.2.1))
              clear hg1 hc1 hp1 HLS hf hcast hl5 HQ
              go_wp2_with fail
              refine wp_region_plan (.take 0 (.take 1 (.take 2 (.take 3 (.take 4 (.take 5 (.take 6 (.take 7 (.take 8 (.take 9 (.take 10 (.take 11 (.take 12 (.take 13 (.fork (.run 14 [] (.take 15 (.take 16 (.take 17 (.run 18 [15, 16, 17] (.run 19 [17] (.take 20 .fin))))))) (.run 18 [0, 1, 2, 3, 4, 5, 6, 7, 8, 9, 10, 11, 12, 13] (.run 14 [] (.take 15 (.take 16 (.take 17 (.run 19 [17] (.take 20 .fin)))))))))))))))))))))) (by kernel_rfl) (by kernel_rfl) (by kernel_rfl) (by kernel_rfl) ?_
              repeat' (first | (refine hZ _ _ ?_; clear hZ) | (refine hZ _ ?_; clear hZ) | (refine hZ ?_; clear hZ) | rw [again_nil] | rw [walk_fin] | ((first | rw [walk_take] | rw [walk_run] | rw [again_cons]); intro Z hZ; simp only [sel, List.getElem?_toArray, List.getElem?_cons_zero, List.getElem?_cons_succ]; go_wp2_with (fail)))
              rw [walk_fork]
              refine ⟨?_, ?_⟩
              · have H1 := Lib.hid HQL.out.drew
                repeat' (first | (refine hZ _ _ ?_; clear hZ) | (refine hZ _ ?_; clear hZ) | (refine hZ ?_; clear hZ) | rw [again_nil] | rw [walk_fin] | ((first | rw [walk_take] | rw [walk_run] | rw [again_cons]); intro Z hZ; simp only [sel, List.getElem?_toArray, List.getElem?_cons_zero, List.getElem?_cons_succ]; go_wp2_with (fail)))
                refine (HP.out _ _ _ (H1).out.lt (H1).out.rx).mono ?_
                rintro e w3 ⟨c3, rfl, hx3, hb3⟩
                have H3 := Lib.hid ((H1).out.call hb3 hx3)
                obtain ⟨As3, cs3, Ap3, cp3, Af3, cf3, rfl⟩ := hx3.open_
                clear hx3 hb3 hcb H1 HP HQL
                go_wp2_with fail
                repeat' (first | (refine hZ _ _ ?_; clear hZ) | (refine hZ _ ?_; clear hZ) | (refine hZ ?_; clear hZ) | rw [again_nil] | rw [walk_fin] | ((first | rw [walk_take] | rw [walk_run] | rw [again_cons]); intro Z hZ; simp only [sel, List.getElem?_toArray, List.getElem?_cons_zero, List.getElem?_cons_succ]; go_wp2_with (fail)))
                have H5 := Lib.hid (H3.out.alloc #[.slice As3 d1.rx.sure.length cs3, .slice Ap3 d1.rx.pend.length cp3, .slice Af3 d1.rx.falls.length cf3, .int .i64 (d1.rx.ch : Nat), .bool d1.rx.down] 54)
                simp only [List.nil_append, List.cons_append] at H5
                obtain ⟨gd, hgd⟩ : ∃ gd, gd = w3.heap.size := ⟨_, rfl⟩
                rw [← hgd] at H5 ⊢
                clear hgd H3
                generalize (w3.alloc _) = W5 at H5 ⊢
                have hcd := (H5.out.at_ 2 rfl).c5
                have hcb := (H5.out.at_ 0 rfl).c11
                go_upto_region 20 with (fail)
                have H6 := Lib.hid (H5.out.store 0 rfl 0 [.slice As3 d1.rx.sure.length cs3, .slice Ap3 d1.rx.pend.length cp3, .slice Af3 d1.rx.falls.length cf3, .int .i64 (d1.rx.ch : Nat), .bool d1.rx.down] rfl)
                clear hcd hcb H5
                simp only [World.setCells, Nat.zero_add, Nat.reduceAdd, List.set_cons_succ, List.set_cons_zero, setFrom] at H6
                generalize (((((World.setCell W5 _ _).setCell _ _).setCell _ _).setCell _ _).setCell _ _) = W6 at H6 ⊢
                rcases Classical.em (e1 = 0) with he | he
                · subst he
                  rw [if_neg (by simp)] at HE
                  go_wp2_with fail
                  go_roundw
                  case rel => exact ⟨i + 1, d1, As3, Ap3, Af3, cs3, cp3, cf3, by go_num, by omega, by rw [HE.out, show all.length + i0 - (i + 1) = f by have := HF.out; omega], by have := HQN.out.1; omega, HG1.out.1, by have := HG1.out.2.1; have := HQN.out.2.1; omega, by have := HG1.out.2.2; have := HQN.out.2.2; omega, Loc.drop (bs := [_, _]) (cs := [_]) H6.out⟩
                  case measure => simp [intOf]; omega
                · rw [if_pos he] at HE
                  have HO2 : Hid (d.add l recs = ⟨d1, { l with broken := true }, e1⟩) := by
                    show _ = _
                    rw [HO.out]
                    unfold DS.addW
                    rw [HE.out, if_pos he]
                  have he1 : (e1 != 0) = true := by simpa using he
                  clear he HO
                  have hcb := (H6.out.at_ 0 rfl).c11
                  go_upto_region 22 with (fail)
                  have H7 := Lib.hid (H6.out.store 0 rfl 10 [.bool true] rfl)
                  clear hcb H6
                  simp only [World.setCells, Nat.zero_add, Nat.reduceAdd, List.set_cons_succ, List.set_cons_zero, setFrom] at H7
                  generalize (World.setCell W6 _ _) = W7 at H7 ⊢
                  have hcb := (H7.out.at_ 0 rfl).c11
                  have hcr := (H7.out.at_ 1 rfl).c11
                  go_wp2_with fail
                  have hbr : Blk W7 (w.heap.size + 1) 74 _ := (H7).out.at_ 1 rfl
                  refine ret_set11n hbr rfl rfl rfl rfl rfl (fun W hW => load_log hW) fun W2 hW hg => ?_
                  subst hg
                  have HX := ((H7).out.store 1 rfl 0 [.slice As3 d1.rx.sure.length cs3, .slice Ap3 d1.rx.pend.length cp3, .slice Af3 d1.rx.falls.length cf3, .int .i64 (d1.rx.ch : Nat), .bool d1.rx.down, .int .i64 (l.at_ : Nat), .int .i64 (l.room : Nat), .int .u64 (l.seq : Nat), .string ⟨l.data.toArray⟩, .int .i64 (l.count : Nat), .bool true] rfl).done
                  rw [HO2.out]
                  exact ⟨_, rfl, HX⟩
              · have H2 := Lib.hid (HQL.out.alloc #[.slice none 0 0, .slice none 0 0, .slice none 0 0, .int .i64 0, .bool false] 54).drew
                simp only [List.nil_append, List.cons_append] at H2
                repeat' (first | (refine hZ _ _ ?_; clear hZ) | (refine hZ _ ?_; clear hZ) | (refine hZ ?_; clear hZ) | rw [again_nil] | rw [walk_fin] | ((first | rw [walk_take] | rw [walk_run] | rw [again_cons]); intro Z hZ; simp only [sel, List.getElem?_toArray, List.getElem?_cons_zero, List.getElem?_cons_succ]; go_wp2_with (fail)))
                clear hcb
                generalize (wr.alloc _).drew = W2 at H2 ⊢
                have hcb := (H2.out.at_ 0 rfl).c11
                refine (HP.out _ _ _ (H2).out.lt (H2).out.rx).mono ?_
                rintro e w3 ⟨c3, rfl, hx3, hb3⟩
                have H3 := Lib.hid ((H2).out.call hb3 hx3)
                obtain ⟨As3, cs3, Ap3, cp3, Af3, cf3, rfl⟩ := hx3.open_
                clear hx3 hb3 hcb H2 HP HQL
                have hcd := (H3.out.at_ 2 rfl).c5
                go_wp2_with fail
                repeat' (first | (refine hZ _ _ ?_; clear hZ) | (refine hZ _ ?_; clear hZ) | (refine hZ ?_; clear hZ) | rw [again_nil] | rw [walk_fin] | ((first | rw [walk_take] | rw [walk_run] | rw [again_cons]); intro Z hZ; simp only [sel, List.getElem?_toArray, List.getElem?_cons_zero, List.getElem?_cons_succ]; go_wp2_with (fail)))
                have H5 := Lib.hid (H3.out.store 2 rfl 0 [.slice As3 d1.rx.sure.length cs3, .slice Ap3 d1.rx.pend.length cp3, .slice Af3 d1.rx.falls.length cf3, .int .i64 (d1.rx.ch : Nat), .bool d1.rx.down] rfl)
                clear hcd H3
                simp only [World.setCells, Nat.zero_add, Nat.reduceAdd, List.set_cons_succ, List.set_cons_zero, setFrom] at H5
                generalize (((((World.setCell w3 _ _).setCell _ _).setCell _ _).setCell _ _).setCell _ _) = W5 at H5 ⊢
                have hcd := (H5.out.at_ 2 rfl).c5
                have hcb := (H5.out.at_ 0 rfl).c11
                go_upto_region 20 with (fail)
                have H6 := Lib.hid (H5.out.store 0 rfl 0 [.slice As3 d1.rx.sure.length cs3, .slice Ap3 d1.rx.pend.length cp3, .slice Af3 d1.rx.falls.length cf3, .int .i64 (d1.rx.ch : Nat), .bool d1.rx.down] rfl)
                clear hcd hcb H5
                simp only [World.setCells, Nat.zero_add, Nat.reduceAdd, List.set_cons_succ, List.set_cons_zero, setFrom] at H6
                generalize (((((World.setCell W5 _ _).setCell _ _).setCell _ _).setCell _ _).setCell _ _) = W6 at H6 ⊢
                rcases Classical.em (e1 = 0) with he | he
                · subst he
                  rw [if_neg (by simp)] at HE
                  go_wp2_with fail
                  go_roundw
                  case rel => exact ⟨i + 1, d1, As3, Ap3, Af3, cs3, cp3, cf3, by go_num, by omega, by rw [HE.out, show all.length + i0 - (i + 1) = f by have := HF.out; omega], by have := HQN.out.1; omega, HG1.out.1, by have := HG1.out.2.1; have := HQN.out.2.1; omega, by have := HG1.out.2.2; have := HQN.out.2.2; omega, Loc.drop (bs := [_, _]) (cs := [_]) H6.out⟩
                  case measure => simp [intOf]; omega
                · rw [if_pos he] at HE
                  have HO2 : Hid (d.add l recs = ⟨d1, { l with broken := true }, e1⟩) := by
                    show _ = _
                    rw [HO.out]
                    unfold DS.addW
                    rw [HE.out, if_pos he]
                  have he1 : (e1 != 0) = true := by simpa using he
                  clear he HO
                  have hcb := (H6.out.at_ 0 rfl).c11
                  go_upto_region 22 with (fail)
                  have H7 := Lib.hid (H6.out.store 0 rfl 10 [.bool true] rfl)
                  clear hcb H6
                  simp only [World.setCells, Nat.zero_add, Nat.reduceAdd, List.set_cons_succ, List.set_cons_zero, setFrom] at H7
                  generalize (World.setCell W6 _ _) = W7 at H7 ⊢
                  have hcb := (H7.out.at_ 0 rfl).c11
                  have hcr := (H7.out.at_ 1 rfl).c11
                  go_wp2_with fail
                  have hbr : Blk W7 (w.heap.size + 1) 74 _ := (H7).out.at_ 1 rfl
                  refine ret_set11n hbr rfl rfl rfl rfl rfl (fun W hW => load_log hW) fun W2 hW hg => ?_
                  subst hg
                  have HX := ((H7).out.store 1 rfl 0 [.slice As3 d1.rx.sure.length cs3, .slice Ap3 d1.rx.pend.length cp3, .slice Af3 d1.rx.falls.length cf3, .int .i64 (d1.rx.ch : Nat), .bool d1.rx.down, .int .i64 (l.at_ : Nat), .int .i64 (l.room : Nat), .int .u64 (l.seq : Nat), .string ⟨l.data.toArray⟩, .int .i64 (l.count : Nat), .bool true] rfl).done
                  rw [HO2.out]
                  exact ⟨_, rfl, HX⟩
            · have hii : ¬ (i : Int) < (M : Int) := by omega
              have hl5 : all.length ≤ i * 512 := by
                rcases Nat.lt_or_ge (i * 512) all.length with h | h
                · have := (HM.out i).2 h; omega
                · exact h
              have HLD : Hid (DS.lay l.at_ all all.length (l.data.length / 512) d = (dd, 0)) := by show _ = _; rw [HQ.out.1, lay_done _ _ _ _ _ hl5]
              have HFL := Lib.hid (refflush_any _ wr HQ.out.2.2.2.2.2.lt dd _ HQ.out.2.2.2.2.2.rx HQ.out.2.2.1 (by have := HQ.out.2.2.2.1; omega))
              have hgf := HQ.out.2.2.1.flush
              have hcf := flush_changes dd
              have hpf := flush_pending dd
              have HO2 : Hid (d.add l recs = if dd.flush.2 ≠ 0 then ⟨dd.flush.1, { l with broken := true }, dd.flush.2⟩
                  else if (dd.flush.1.head l.at_ (l.seq + 1) all.length).2 ≠ 0 then ⟨(dd.flush.1.head l.at_ (l.seq + 1) all.length).1, { l with broken := true }, (dd.flush.1.head l.at_ (l.seq + 1) all.length).2⟩
                  else ⟨(dd.flush.1.head l.at_ (l.seq + 1) all.length).1, { l with seq := l.seq + 1, data := all, count := l.count + recs.length }, 0⟩) := by
                show _ = _
                rw [HO.out]
                unfold DS.addW
                rw [HLD.out, if_neg (by simp)]
              generalize dd.flush = r at HFL HO2 hgf hcf hpf
              obtain ⟨d5, e5⟩ := r
              simp only at HFL HO2 hgf hcf hpf
              have HG5 : Hid (DGood d5 ∧ d5.changes < 1000000 ∧ d5.pending.length < 100000) := ⟨hgf, by have := HQ.out.2.2.2.1; omega, by have := HQ.out.2.2.2.2.1; omega⟩
              clear HO HLD hl5 hgf hcf hpf
              go_wp2_with fail
              refine HFL.out.mono ?_
              rintro e w3 ⟨c3, rfl, hx3, hb3⟩
              simp only at hx3
              have H3 := Lib.hid (HQ.out.2.2.2.2.2.call hb3 hx3)
              obtain ⟨As3, cs3, Ap3, cp3, Af3, cf3, rfl⟩ := hx3.open_
              clear hx3 hb3 HFL hcb HQ
              go_upto_region 24 with (fail)
              have H4 := Lib.hid (H3.out.alloc #[.slice As3 d5.rx.sure.length cs3, .slice Ap3 d5.rx.pend.length cp3, .slice Af3 d5.rx.falls.length cf3, .int .i64 (d5.rx.ch : Nat), .bool d5.rx.down] 54)
              simp only [List.nil_append, List.cons_append] at H4
              clear H3
              generalize (w3.alloc _) = W4 at H4 ⊢
              have hcd := (H4.out.at_ 2 rfl).c5
              have hcb := (H4.out.at_ 0 rfl).c11
              go_upto_region 25 with (fail)
              have H5 := Lib.hid (H4.out.store 0 rfl 0 [.slice As3 d5.rx.sure.length cs3, .slice Ap3 d5.rx.pend.length cp3, .slice Af3 d5.rx.falls.length cf3, .int .i64 (d5.rx.ch : Nat), .bool d5.rx.down] rfl)
              clear hcd hcb H4
              simp only [World.setCells, Nat.zero_add, Nat.reduceAdd, List.set_cons_succ, List.set_cons_zero, setFrom] at H5
              generalize (((((World.setCell W4 _ _).setCell _ _).setCell _ _).setCell _ _).setCell _ _) = W5 at H5 ⊢
              have hcb := (H5.out.at_ 0 rfl).c11
              rcases Classical.em (e5 = 0) with he | he
              · subst he
                rw [if_neg (by simp)] at HO2
                have HH := refhd_any _ W5 H5.out.lt d5 l _ H5.out.rx HG5.out.1 HG5.out.2.1 HG5.out.2.2 hat (l.seq + 1) HS.out all (by omega)
                unfold RetL xlTail txt at HH
                rw [HB.out] at HH
                simp only [Int.natCast_add, Int.natCast_one, List.cons_append, List.nil_append] at HH
                generalize d5.head l.at_ (l.seq + 1) all.length = rr at HH HO2
                obtain ⟨d8, e8⟩ := rr
                simp only at HH HO2
                have HHH := Lib.hid HH
                clear HH
                go_wp2_with fail
                refine HHH.out.mono ?_
                rintro e w6 ⟨c6, rfl, hx6, hb6⟩
                have H6 := Lib.hid (H5.out.call hb6 hx6)
                obtain ⟨As6, cs6, Ap6, cp6, Af6, cf6, rfl⟩ := hx6.open_
                clear hx6 hb6 HHH hcb H5
                have hcb := (H6.out.at_ 0 rfl).c11
                rcases Classical.em (e8 = 0) with he | he
                · subst he
                  rw [if_neg (by simp)] at HO2
                  have hput : l.put (l.seq + 1) all 0 = { l with seq := l.seq + 1, data := all } := rfl
                  rw [hput]
                  simp only [List.cons_append, List.nil_append]
                  clear hput
                  go_upto_region 29 with (fail)
                  have H7 := Lib.hid (H6.out.store 0 rfl 0 [.slice As6 d8.rx.sure.length cs6, .slice Ap6 d8.rx.pend.length cp6, .slice Af6 d8.rx.falls.length cf6, .int .i64 (d8.rx.ch : Nat), .bool d8.rx.down, .int .i64 (l.at_ : Nat), .int .i64 (l.room : Nat), .int .u64 ((l.seq : Int) + 1), .string ⟨all.toArray⟩, .int .i64 (l.count : Nat), .bool l.broken] rfl)
                  clear hcb H6
                  simp only [World.setCells, Nat.zero_add, Nat.reduceAdd, List.set_cons_succ, List.set_cons_zero, setFrom] at H7
                  generalize (((((((((((World.setCell w6 _ _).setCell _ _).setCell _ _).setCell _ _).setCell _ _).setCell _ _).setCell _ _).setCell _ _).setCell _ _).setCell _ _).setCell _ _) = W7 at H7 ⊢
                  have hcb := (H7.out.at_ 0 rfl).c11
                  go_upto_region 31 with (fail)
                  have H8 := Lib.hid (H7.out.store 0 rfl 9 [.int .i64 ((l.count : Int) + (recs.length : Int))] rfl)
                  clear hcb H7
                  simp only [World.setCells, Nat.zero_add, Nat.reduceAdd, List.set_cons_succ, List.set_cons_zero, setFrom] at H8
                  generalize (World.setCell W7 _ _) = W8 at H8 ⊢
                  have hcb := (H8.out.at_ 0 rfl).c11
                  have hcr := (H8.out.at_ 1 rfl).c11
                  go_wp2_with fail
                  have hbr : Blk W8 (w.heap.size + 1) 74 _ := (H8).out.at_ 1 rfl
                  refine ret_set11n hbr rfl rfl rfl rfl rfl (fun W hW => load_log hW) fun W2 hW hg => ?_
                  subst hg
                  have HX := ((H8).out.store 1 rfl 0 [.slice As6 d8.rx.sure.length cs6, .slice Ap6 d8.rx.pend.length cp6, .slice Af6 d8.rx.falls.length cf6, .int .i64 (d8.rx.ch : Nat), .bool d8.rx.down, .int .i64 (l.at_ : Nat), .int .i64 (l.room : Nat), .int .u64 ((l.seq : Int) + 1), .string ⟨all.toArray⟩, .int .i64 ((l.count : Int) + (recs.length : Int)), .bool l.broken] rfl).done
                  rw [HO2.out]
                  exact ⟨_, rfl, HX⟩
                · rw [if_pos he] at HO2
                  have hput : l.put (l.seq + 1) all e8 = { l with broken := true } := by unfold LS.put; rw [if_neg he]
                  rw [hput]
                  simp only [List.cons_append, List.nil_append]
                  have he1 : (e8 == 0) = false := by simpa using he
                  clear hput he
                  go_upto_region 29 with (fail)
                  have H7 := Lib.hid (H6.out.store 0 rfl 0 [.slice As6 d8.rx.sure.length cs6, .slice Ap6 d8.rx.pend.length cp6, .slice Af6 d8.rx.falls.length cf6, .int .i64 (d8.rx.ch : Nat), .bool d8.rx.down, .int .i64 (l.at_ : Nat), .int .i64 (l.room : Nat), .int .u64 (l.seq : Nat), .string ⟨l.data.toArray⟩, .int .i64 (l.count : Nat), .bool true] rfl)
                  clear hcb H6
                  simp only [World.setCells, Nat.zero_add, Nat.reduceAdd, List.set_cons_succ, List.set_cons_zero, setFrom] at H7
                  generalize (((((((((((World.setCell w6 _ _).setCell _ _).setCell _ _).setCell _ _).setCell _ _).setCell _ _).setCell _ _).setCell _ _).setCell _ _).setCell _ _).setCell _ _) = W7 at H7 ⊢
                  have hcb := (H7.out.at_ 0 rfl).c11
                  have hcr := (H7.out.at_ 1 rfl).c11
                  go_wp2_with fail
                  have hbr : Blk W7 (w.heap.size + 1) 74 _ := (H7).out.at_ 1 rfl
                  refine ret_set11n hbr rfl rfl rfl rfl rfl (fun W hW => load_log hW) fun W2 hW hg => ?_
                  subst hg
                  have HX := ((H7).out.store 1 rfl 0 [.slice As6 d8.rx.sure.length cs6, .slice Ap6 d8.rx.pend.length cp6, .slice Af6 d8.rx.falls.length cf6, .int .i64 (d8.rx.ch : Nat), .bool d8.rx.down, .int .i64 (l.at_ : Nat), .int .i64 (l.room : Nat), .int .u64 (l.seq : Nat), .string ⟨l.data.toArray⟩, .int .i64 (l.count : Nat), .bool true] rfl).done
                  rw [HO2.out]
                  exact ⟨_, rfl, HX⟩
              · rw [if_pos he] at HO2
                have he1 : (e5 != 0) = true := by simpa using he
                clear he
                go_upto_region 27 with (fail)
                have H7 := Lib.hid (H5.out.store 0 rfl 10 [.bool true] rfl)
                clear hcb H5
                simp only [World.setCells, Nat.zero_add, Nat.reduceAdd, List.set_cons_succ, List.set_cons_zero, setFrom] at H7
                generalize (World.setCell W5 _ _) = W7 at H7 ⊢
                have hcb := (H7.out.at_ 0 rfl).c11
                have hcr := (H7.out.at_ 1 rfl).c11
                go_wp2_with fail
                have hbr : Blk W7 (w.heap.size + 1) 74 _ := (H7).out.at_ 1 rfl
                refine ret_set11n hbr rfl rfl rfl rfl rfl (fun W hW => load_log hW) fun W2 hW hg => ?_
                subst hg
                have HX := ((H7).out.store 1 rfl 0 [.slice As3 d5.rx.sure.length cs3, .slice Ap3 d5.rx.pend.length cp3, .slice Af3 d5.rx.falls.length cf3, .int .i64 (d5.rx.ch : Nat), .bool d5.rx.down, .int .i64 (l.at_ : Nat), .int .i64 (l.room : Nat), .int .u64 (l.seq : Nat), .string ⟨l.data.toArray⟩, .int .i64 (l.count : Nat), .bool true] rfl).done
                rw [HO2.out]
                exact ⟨_, rfl, HX⟩
        · have hmi : ¬ ((all.length : Int) + (k : Int)) % 512 = 0 := by omega
          have HCJ : Hid (ByteArray.mk (all ++ List.replicate k (0 : UInt8)).toArray ++ ByteArray.mk #[0] = ⟨(all ++ List.replicate (k + 1) (0 : UInt8)).toArray⟩) := by
            show _ = _
            rw [show (ByteArray.mk #[0]) = ⟨([0] : List UInt8).toArray⟩ from rfl, cut_join, List.append_assoc, List.replicate_succ']
          go_wp2_with fail
          go_roundw
          case rel => exact ⟨k + 1, by rw [HCJ.out], by unfold upTo; omega, trivial⟩
          case measure => rw [HCJ.out]; show upTo all.length - (ByteArray.mk (all ++ List.replicate (k + 1) (0 : UInt8)).toArray).size < upTo all.length - (ByteArray.mk (all ++ List.replicate k (0 : UInt8)).toArray).size; rw [hsk]; simp [ByteArray.size]; unfold upTo; omega
end Go.Proofs.Ythbanhedjfpmaaa
end

section
/-
  A disk and a journal, the program's and the document's, held together.
-/
namespace Go.Proofs.Ythbanhedjfpmaaa
set_option linter.unusedSimpArgs false
set_option linter.unusedVariables false
open Go.RowKit

theorem nd_both : notDisk 77 := by refine ⟨?_, ?_, ?_, ?_⟩ <;> decide
def inB (k : KB) (gb : Nat) (o : Option Nat) (i : Nat) : Prop := k.own i ∨ i = gb ∨ o = some i
structure BotAt (w0 w : World) (k : KB) (gb : Nat) (o : Option Nat) (d : DS) (lp : Option Addr) (c : List Value) (x : RX) (l : LS) (n : Nat) : Prop where
  dl : DL w0 w k d n
  blk : Blk w gb 77 (.pointer (some ⟨k.gd, 0, none⟩) :: .pointer lp :: (c ++ xlTail l))
  rx : RefX (inB k gb o) w c x
  lo : w0.heap.size ≤ gb
  own : ¬ k.own gb
section
variable {w0 w w' : World} {k : KB} {gb : Nat} {o : Option Nat} {d : DS} {lp : Option Addr} {c : List Value} {x : RX} {l : LS} {n : Nat}
theorem BotAt.below (h : BotAt w0 w k gb o d lp c x l n) (hb : Below w.heap.size w w') : BotAt w0 w' k gb o d lp c x l n := ⟨h.dl.below hb, h.blk.below hb, h.rx.below hb, h.lo, h.own⟩
theorem BotAt.more (h : BotAt w0 w k gb o d lp c x l n) {m : Nat} (hm : n ≤ m) : BotAt w0 w k gb o d lp c x l m := ⟨h.dl.more hm, h.blk, h.rx, h.lo, h.own⟩
/-- The program did something to its disk or its journal. -/
theorem BotAt.prog (h : BotAt w0 w k gb o d lp c x l n) {d' : DS} {n' : Nat} (hd : DL w0 w' k d' n') {T : Nat → Prop} (hk : Keeps w w' T) (hT : ∀ i, T i → inB k gb o i ∧ i ≠ gb) : BotAt w0 w' k gb o d' lp c x l n' :=
  ⟨hd, h.blk.kept hk (fun ht => (hT gb ht).2 rfl), h.rx.kept (hk.mono fun i hi => (hT i hi).1), h.lo, h.own⟩
/-- The two's struct is written. -/
theorem BotAt.store (h : BotAt w0 w k gb o d lp c x l n) (i : Nat) (vs : List Value) {lp' : Option Addr} {c' : List Value} {x' : RX} {l' : LS} (hcs : setFrom (.pointer (some ⟨k.gd, 0, none⟩) :: .pointer lp :: (c ++ xlTail l)) i vs = (.pointer (some ⟨k.gd, 0, none⟩) :: .pointer lp' :: (c' ++ xlTail l'))) (hx : RefX (inB k gb o) w c' x') :
    BotAt w0 (w.setCells gb i vs) k gb o d lp' c' x' l' n := by
  have hg := grown_setCells w gb i vs
  refine ⟨h.dl.other h.blk nd_both hg h.lo, ?_, hx.store hg (.inr (.inl rfl)), h.lo, h.own⟩
  have := h.blk.setCells i vs
  rw [hcs] at this
  exact this
theorem BotAt.forget (h : BotAt w0 w k gb o d lp c x l n) : BotAt w0 w k gb none d lp c x l n := ⟨h.dl, h.blk, h.rx.less (fun i hi => by
  rcases hi with hi | hi | hi
  · exact .inl hi
  · exact .inr (.inl hi)
  · cases hi), h.lo, h.own⟩
/-- A journal that is new. -/
theorem BotAt.grow (h : BotAt w0 w k gb none d lp c x l n) (ho : ∀ g, o = some g → w.heap.size ≤ g) : BotAt w0 w k gb o d lp c x l n := ⟨h.dl, h.blk, h.rx.extend (fun i hi => by
  rcases hi with hi | hi | hi
  · exact .inl (.inl hi)
  · exact .inl (.inr (.inl hi))
  · exact .inr (ho i hi)), h.lo, h.own⟩
/-- Another block, of no kind that counts, is written. -/
theorem BotAt.aside (h : BotAt w0 w k gb o d lp c x l n) {g : Nat} {T : TypeId} {cs : List Value} (hb : Blk w g T cs) (hT : notDisk T) (hne : gb ≠ g) (hg : w.grownBy w' (some g)) (hlo : w0.heap.size ≤ g) (hx : RefX (inB k gb o) w' c x) : BotAt w0 w' k gb o d lp c x l n :=
  ⟨h.dl.other hb hT hg hlo, h.blk.keptBy hg hne, hx, h.lo, h.own⟩
theorem BotAt.lt (h : BotAt w0 w k gb o d lp c x l n) (ho : ∀ g, o = some g → g < w.heap.size) : ∀ i, inB k gb o i → i < w.heap.size := fun i hi => by
  rcases hi with hi | hi | hi
  · exact h.dl.own_lt i hi
  · subst hi; exact h.blk.lt
  · exact ho i hi
theorem LogAt.other {B g : Nat} {T : TypeId} {cs : List Value} {g' : Nat} (h : LogAt w B k g l) (hb : Blk w g' T cs) (hT : T ≠ 5) (hne : g ≠ g') (hg : w.grownBy w' (some g')) : LogAt w' B k g l := by
  obtain ⟨⟨A, c, h1, h2, h3⟩, lo, own, gd⟩ := h
  exact ⟨⟨A, c, h1.keptBy hg hne, h2.blk hb hT hg, h3⟩, lo, own, gd⟩
end
/-- The two agree. -/
def BotOk (w0 w : World) (k : KB) (gb : Nat) (d : DS) (l : LS) (n : Nat) : Prop :=
  NowAt d ∧ ∃ lp c o, BotAt w0 w k gb o d lp c d.rx l n ∧ ((∃ g, lp = some ⟨g, 0, none⟩ ∧ o = some g ∧ g ≠ gb ∧ LogAt w w0.heap.size k g l) ∨ (lp = none ∧ o = none ∧ l.broken = true))
theorem Blk.c13 {w : World} {g : Nat} {t : TypeId} {p q a b c d e f i j k l m : Value} (h : Blk w g t [p, q, a, b, c, d, e, f, i, j, k, l, m]) :
    (w.cell? ⟨g, 0, none⟩ = some p ∧ w.cell? ⟨g, 1, none⟩ = some q ∧ w.cell? ⟨g, 2, none⟩ = some a ∧ w.cell? ⟨g, 3, none⟩ = some b ∧ w.cell? ⟨g, 4, none⟩ = some c ∧ w.cell? ⟨g, 5, none⟩ = some d ∧ w.cell? ⟨g, 6, none⟩ = some e ∧ w.cell? ⟨g, 7, none⟩ = some f ∧
    w.cell? ⟨g, 8, none⟩ = some i ∧ w.cell? ⟨g, 9, none⟩ = some j ∧ w.cell? ⟨g, 10, none⟩ = some k ∧ w.cell? ⟨g, 11, none⟩ = some l ∧ w.cell? ⟨g, 12, none⟩ = some m) ∧
    (w.frozen? ⟨g, 0, none⟩ = false ∧ w.frozen? ⟨g, 1, none⟩ = false ∧ w.frozen? ⟨g, 2, none⟩ = false ∧ w.frozen? ⟨g, 3, none⟩ = false ∧ w.frozen? ⟨g, 4, none⟩ = false ∧ w.frozen? ⟨g, 5, none⟩ = false ∧ w.frozen? ⟨g, 6, none⟩ = false ∧ w.frozen? ⟨g, 7, none⟩ = false ∧
    w.frozen? ⟨g, 8, none⟩ = false ∧ w.frozen? ⟨g, 9, none⟩ = false ∧ w.frozen? ⟨g, 10, none⟩ = false ∧ w.frozen? ⟨g, 11, none⟩ = false ∧ w.frozen? ⟨g, 12, none⟩ = false ∧ g < w.heap.size) :=
  ⟨⟨h.cell 0, h.cell 1, h.cell 2, h.cell 3, h.cell 4, h.cell 5, h.cell 6, h.cell 7, h.cell 8, h.cell 9, h.cell 10, h.cell 11, h.cell 12⟩, h.free 0, h.free 1, h.free 2, h.free 3, h.free 4, h.free 5, h.free 6, h.free 7, h.free 8, h.free 9, h.free 10, h.free 11, h.free 12, h.lt⟩
/-- What both found. -/
structure Fnd (k : KB) (w : World) (B1 B2 : Nat) (A1 : Option Addr) (c1 : Nat) (ps : List Part) (A2 : Option Addr) (c2 : Nat) (L : List (List UInt8)) : Prop where
  a : EOwn ePart w B1 A1 c1 ps
  p : PartsX k.own w ps L
  t : EOwn eStr w B2 A2 c2 L
theorem Fnd.below {k : KB} {w w' : World} {B1 B2 c1 c2 : Nat} {A1 A2 : Option Addr} {ps : List Part} {L : List (List UInt8)} (h : Fnd k w B1 B2 A1 c1 ps A2 c2 L) (hb : Below w.heap.size w w') : Fnd k w' B1 B2 A1 c1 ps A2 c2 L := ⟨h.a.below hb, h.p.below hb, h.t.below hb⟩
theorem parts_store {k : KB} {w w' : World} {ps : List Part} {L : List (List UInt8)} {g : Nat} {T : TypeId} {cs : List Value} (h : PartsX k.own w ps L) (hb : Blk w g T cs) (hT : T ≠ 5) (hg : w.grownBy w' (some g)) : PartsX k.own w' ps L :=
  h.keepB hg.size fun i hu _ => hg.block i hu.lt (by
    simp only [ne_eq, Option.some.injEq]
    rintro rfl
    obtain ⟨cur, fr, hq⟩ := hu
    rw [hb] at hq
    simp only [Option.some.injEq, Obj.cells.injEq] at hq
    exact hT hq.2.1)
theorem Fnd.store {k : KB} {w w' : World} {B1 B2 c1 c2 : Nat} {A1 A2 : Option Addr} {ps : List Part} {L : List (List UInt8)} (h : Fnd k w B1 B2 A1 c1 ps A2 c2 L) {g : Nat} {cs : List Value} (hb : Blk w g 77 cs) (hg : w.grownBy w' (some g)) : Fnd k w' B1 B2 A1 c1 ps A2 c2 L :=
  ⟨h.a.keptG hb (by decide) hg, parts_store h.p hb (by decide) hg, h.t.keptG hb (by decide) hg⟩
theorem openW_bad (d : DS) (at_ room : Nat) (h : (d.openW at_ room).e ≠ 0) : (d.openW at_ room).recs = [] := by
  unfold DS.openW at h ⊢
  split
  · rfl
  · split
    · split <;> rfl
    · split
      · rfl
      · rename_i h1 h2 h3
        rw [if_neg h1, if_neg h2, if_neg h3] at h
        exact absurd rfl h
theorem openW_many (d : DS) (at_ blocks : Nat) (h : blocks ≤ 1000) : (d.openW at_ ((blocks - 2) * 512)).recs.length ≤ 1000000 := by
  have hp := d.picks_le at_ ((blocks - 2) * 512) 2
  rw [DS.picks_two] at hp
  have h1 := records_length (d.body at_ (d.pick at_ ((blocks - 2) * 512)).2)
  rw [DS.body_length] at h1
  unfold DS.openW
  split
  · simp
  · split
    · split <;> simp
    · split
      · simp
      · simp only; omega
/-- What the program's Open comes to, in one form. -/
theorem open_form {w0 w : World} {k : KB} {n : Nat} {r : OR} {e : Ending} {w' : World} (hr : r.e ≠ 0 → r.recs = []) (h : OpenOk w0 w k n r e w') : ∃ lp A c ps o, e = .returned (.tuple #[.pointer lp, .slice A (List.length ps) c, .int .i64 r.e]) ∧ Keeps w w' k.own ∧ DL w0 w' k r.d (n + 2) ∧ EOwn ePart w' w.heap.size A c ps ∧ PartsX k.own w' ps r.recs ∧
    (∀ g, o = some g → w.heap.size ≤ g) ∧ ((r.e = 0 ∧ ∃ g, lp = some ⟨g, 0, none⟩ ∧ o = some g ∧ LogAt w' w0.heap.size k g r.l) ∨ (r.e ≠ 0 ∧ lp = none ∧ o = none)) := by
  by_cases he : r.e = 0
  · obtain ⟨g, A, c, ps, h1, h2, h3, h4, h5, h6⟩ := h.1 he
    exact ⟨_, A, c, ps, some g, by rw [he]; exact h1, h6, h3.dl, h4, h5, fun g' e => by obtain rfl := Option.some.inj e; exact h2, .inl ⟨he, g, rfl, rfl, h3.log⟩⟩
  · obtain ⟨h1, h2, h3⟩ := h.2 he
    exact ⟨none, none, 0, [], none, h1, h3, h2, EOwn.nil _ _, (by rw [hr he]; exact ⟨rfl, fun p hp => by cases hp⟩), (fun g' e => by cases e), .inr ⟨he, rfl, rfl⟩⟩
def LCase (w0 w : World) (k : KB) (gb : Nat) (o : Option Nat) (r : OR) (lp : Option Addr) : Prop := (r.e = 0 ∧ ∃ g, lp = some ⟨g, 0, none⟩ ∧ o = some g ∧ g ≠ gb ∧ LogAt w w0.heap.size k g r.l) ∨ (r.e ≠ 0 ∧ lp = none ∧ o = none)
theorem LCase.below {w0 w w' : World} {k : KB} {gb : Nat} {o : Option Nat} {r : OR} {lp : Option Addr} (h : LCase w0 w k gb o r lp) (hb : Below w.heap.size w w') : LCase w0 w' k gb o r lp := by
  rcases h with ⟨h1, g, h2, h3, h4, h5⟩ | h
  · exact .inl ⟨h1, g, h2, h3, h4, h5.below hb⟩
  · exact .inr h
theorem LCase.store {w0 w w' : World} {k : KB} {gb : Nat} {o : Option Nat} {r : OR} {lp : Option Addr} (h : LCase w0 w k gb o r lp) {cs : List Value} (hb : Blk w gb 77 cs) (hg : w.grownBy w' (some gb)) : LCase w0 w' k gb o r lp := by
  rcases h with ⟨h1, g, h2, h3, h4, h5⟩ | h
  · exact .inl ⟨h1, g, h2, h3, h4, h5.other hb (by decide) h4 hg⟩
  · exact .inr h
theorem nd_xlog : notDisk 74 := by refine ⟨?_, ?_, ?_, ?_⟩ <;> decide
theorem LCase.aside {w0 w w' : World} {k : KB} {gb : Nat} {o : Option Nat} {r : OR} {lp : Option Addr} (h : LCase w0 w k gb o r lp) {gt : Nat} {cs : List Value} (hb : Blk w gt 74 cs) (ho : ∀ g, o = some g → g ≠ gt) (hg : w.grownBy w' (some gt)) : LCase w0 w' k gb o r lp := by
  rcases h with ⟨h1, g, h2, h3, h4, h5⟩ | h
  · exact .inl ⟨h1, g, h2, h3, h4, h5.other hb (by decide) (ho g h3) hg⟩
  · exact .inr h
/-- What the law's open does. -/
def BOpens (w0 : World) (k : KB) (gb : Nat) (at_ : Nat) (r : OR) (n : Nat) (e : Ending) (w' : World) : Prop := e = .returned (.bool true) ∧ ∃ l', BotOk w0 w' k gb r.d l' n ∧ l'.at_ = at_ ∧ (r.e = 0 → l' = r.l)
set_option maxRecDepth 20000 in
set_option maxHeartbeats 2000000 in
theorem bopen_any (w0 w : World) (k : KB) (gb : Nat) (o : Option Nat) (d : DS) (lp : Option Addr) (c : List Value) (l : LS) (n : Nat) (H : BotAt w0 w k gb o d lp c d.rx l n) (hN : NowAt d) (hn : n + 2 < 90000) (blocks : Nat) (h3 : 3 ≤ blocks) (h1000 : blocks ≤ 1000) (hin : l.at_ + blocks ≤ d.blocks.length) :
    Calls Try.prog 36 #[.pointer (some ⟨gb, 0, none⟩), .int .i64 (blocks : Nat)] w (BOpens w0 k gb l.at_ (d.openW l.at_ ((blocks - 2) * 512)) (n + 2)) := by
  obtain ⟨r, hr⟩ : ∃ r, r = d.openW l.at_ ((blocks - 2) * 512) := ⟨_, rfl⟩
  have hrn : r.recs.length ≤ 1000000 := by rw [hr]; exact openW_many d l.at_ blocks h1000
  have HRN := Lib.hid hrn
  clear hrn
  rw [← hr]
  have HRR := Lib.hid hr
  clear hr
  have H0 := Lib.hid H.forget
  obtain ⟨As, cs, Ap, cp, Af, cf, rfl⟩ := H.rx.open_
  have HN := Lib.hid hN
  have HIN := Lib.hid hin
  have hc := H.blk.c13
  clear H hN hin
  go_enter Try.func36, Try.ntmps36
  go_wp2_with fail
  refine wp_region_plan (.take 0 (.take 1 (.take 2 (.take 3 (.take 4 (.take 5 (.take 6 (.take 7 (.take 8 (.take 9 (.run 10 [] (.take 11 (.take 12 (.take 13 (.take 14 (.take 15 (.take 16 (.take 17 .fin)))))))))))))))))) (by kernel_rfl) (by kernel_rfl) (by kernel_rfl) (by kernel_rfl) ?_
  repeat' (first | (refine hZ _ _ ?_; clear hZ) | (refine hZ _ ?_; clear hZ) | (refine hZ ?_; clear hZ) | rw [again_nil] | rw [walk_fin] | ((first | rw [walk_take] | rw [walk_run] | rw [again_cons]); intro Z hZ; simp only [sel, List.getElem?_toArray, List.getElem?_cons_zero, List.getElem?_cons_succ]; go_wp2_with (fail)))
  have hop := open_any w0 w.drew k d n (H0.out.below (below_drew w)).dl (by omega) l.at_ blocks h3 h1000 HIN.out
  have hro : ∀ (S' : Nat → Prop) (W' : World), (∀ i, S' i → i < W'.heap.size) → ∀ cc : List Value, RefX S' W' cc d.rx → Calls Try.prog 61 #[.agg cc.toArray, .int .i64 (l.at_ : Nat), .int .i64 (blocks : Nat)] W' (RetO S' W' l.at_ (d.openW l.at_ ((blocks - 2) * 512))) := fun S' W' hS' cc hx => refopen_any S' W' hS' d cc hx H0.out.dl.good HN.out.now (Nat.lt_of_le_of_lt H0.out.dl.ch (by omega)) (Nat.lt_of_le_of_lt H0.out.dl.pe (by omega)) l.at_ blocks h3 h1000 HIN.out
  have hbad := openW_bad d l.at_ ((blocks - 2) * 512)
  have hnr := HN.out.openW l.at_ ((blocks - 2) * 512)
  rw [← HRR.out] at hop hro hbad hnr
  have HRO := Lib.hid hro
  have HNR := Lib.hid hnr
  have HBAD := Lib.hid hbad
  refine hop.mono ?_
  intro e w2 hopen
  obtain ⟨lp1, A1, c1, ps, o1, rfl, hk2, hd2, ha2, hp2, ho2, hcase⟩ := open_form HBAD.out hopen
  have H2 : Hid (BotAt w0 w2 k gb o1 r.d lp [.slice As d.rx.sure.length cs, .slice Ap d.rx.pend.length cp, .slice Af d.rx.falls.length cf, .int .i64 (d.rx.ch : Nat), .bool d.rx.down] d.rx l (n + 2)) :=
    ((H0.out.below (below_drew w)).grow ho2).prog hd2 hk2 fun i hi => ⟨.inl hi, fun e => H0.out.own (e ▸ hi)⟩
  have HP2 := Lib.hid (And.intro ha2 hp2)
  have HC := Lib.hid hcase
  have hlc : LCase w0 w2 k gb o1 r lp1 := by
    rcases hcase with ⟨h1, g, h2, h3, h4⟩ | h
    · exact .inl ⟨h1, g, h2, h3, fun e => by have h5 := ho2 g h3; have h6 := H0.out.blk.lt; have h7 : w.drew.heap.size = w.heap.size := rfl; omega, h4⟩
    · exact .inr h
  have HLC := Lib.hid hlc
  clear hlc
  have HO1 : Hid (∀ g, o1 = some g → g < w2.heap.size ∧ w.heap.size ≤ g) := fun g e => by
    refine ⟨?_, ho2 g e⟩
    rcases HC.out with ⟨-, g', -, e2, hl⟩ | ⟨-, -, e2⟩
    · rw [e2] at e
      obtain rfl := Option.some.inj e
      obtain ⟨cs9, hb9⟩ := hl.blk
      exact hb9.lt
    · rw [e2] at e; cases e
  have HGB : Hid (gb < w.heap.size) := H0.out.blk.lt
  clear hop hro hbad hnr hopen hk2 hd2 ha2 hp2 ho2 hcase hc H0
  have hc := H2.out.blk.c13
  go_wp2_with fail
  repeat' (first | (refine hZ _ _ ?_; clear hZ) | (refine hZ _ ?_; clear hZ) | (refine hZ ?_; clear hZ) | rw [again_nil] | rw [walk_fin] | ((first | rw [walk_take] | rw [walk_run] | rw [again_cons]); intro Z hZ; simp only [sel, List.getElem?_toArray, List.getElem?_cons_zero, List.getElem?_cons_succ]; go_wp2_with (fail)))
  go_wp2_with fail
  refine wp_region_plan (.take 0 (.take 1 (.take 2 (.take 3 (.take 4 (.take 5 (.take 6 (.take 7 (.take 8 (.take 9 (.take 10 (.fork (.run 11 [] (.take 12 (.take 13 (.take 14 (.take 15 (.run 16 [12, 13, 14, 15] (.run 17 [14, 15] (.take 18 (.take 19 .fin))))))))) (.run 16 [0, 1, 2, 3, 4, 5, 6, 7, 8, 9, 10] (.run 11 [] (.take 12 (.take 13 (.take 14 (.take 15 (.run 17 [14, 15] (.take 18 (.take 19 .fin))))))))))))))))))))) (by kernel_rfl) (by kernel_rfl) (by kernel_rfl) (by kernel_rfl) ?_
  repeat' (first | (refine hZ _ _ ?_; clear hZ) | (refine hZ _ ?_; clear hZ) | (refine hZ ?_; clear hZ) | rw [again_nil] | rw [walk_fin] | ((first | rw [walk_take] | rw [walk_run] | rw [again_cons]); intro Z hZ; simp only [sel, List.getElem?_toArray, List.getElem?_cons_zero, List.getElem?_cons_succ]; go_wp2_with (fail)))
  rw [walk_fork]
  refine ⟨?_, ?_⟩
  · repeat' (first | (refine hZ _ _ ?_; clear hZ) | (refine hZ _ ?_; clear hZ) | (refine hZ ?_; clear hZ) | rw [again_nil] | rw [walk_fin] | ((first | rw [walk_take] | rw [walk_run] | rw [again_cons]); intro Z hZ; simp only [sel, List.getElem?_toArray, List.getElem?_cons_zero, List.getElem?_cons_succ]; go_wp2_with (fail)))
    refine (HRO.out (inB k gb o1) w2.drew (H2.out.lt fun g e => (HO1.out g e).1) _ (H2.out.below (below_drew w2)).rx).mono ?_
    rintro e w4 ⟨c4, l4, A4, ca4, rfl, hx4, hat4, hl4, ho4, hb4⟩
    have H4 := Lib.hid (And.intro (H2.out.below hb4.drewL) (And.intro (Fnd.mk (HP2.out.1.below hb4.drewL) (HP2.out.2.below hb4.drewL) ho4) (And.intro (HLC.out.below hb4.drewL) hx4)))
    have HL4 := Lib.hid (And.intro hat4 hl4)
    obtain ⟨As4, cs4, Ap4, cp4, Af4, cf4, rfl⟩ := hx4.open_
    have hgb4 : gb < w4.heap.size := H4.out.1.blk.lt
    clear hx4 hat4 hl4 ho4 hb4 hc H2 HP2 HC HLC HRO
    simp only [xlTail, txt, List.cons_append, List.nil_append]
    go_wp2_with fail
    repeat' (first | (refine hZ _ _ ?_; clear hZ) | (refine hZ _ ?_; clear hZ) | (refine hZ ?_; clear hZ) | rw [again_nil] | rw [walk_fin] | ((first | rw [walk_take] | rw [walk_run] | rw [again_cons]); intro Z hZ; simp only [sel, List.getElem?_toArray, List.getElem?_cons_zero, List.getElem?_cons_succ]; go_wp2_with (fail)))
    have hb5 := Below.alloc1 w4 (.cells #[.slice As4 r.d.rx.sure.length cs4, .slice Ap4 r.d.rx.pend.length cp4, .slice Af4 r.d.rx.falls.length cf4, .int .i64 (r.d.rx.ch : Nat), .bool r.d.rx.down, .int .i64 (l4.at_ : Nat), .int .i64 (l4.room : Nat), .int .u64 (l4.seq : Nat), .string ⟨l4.data.toArray⟩, .int .i64 (l4.count : Nat), .bool l4.broken] 74)
    obtain ⟨gt, hgt⟩ : ∃ gt, gt = w4.heap.size := ⟨_, rfl⟩
    have H5 := Lib.hid (And.intro (H4.out.1.below hb5) (And.intro (fresh1 (w := w4) (a := [.slice As4 r.d.rx.sure.length cs4, .slice Ap4 r.d.rx.pend.length cp4, .slice Af4 r.d.rx.falls.length cf4, .int .i64 (r.d.rx.ch : Nat), .bool r.d.rx.down, .int .i64 (l4.at_ : Nat), .int .i64 (l4.room : Nat), .int .u64 (l4.seq : Nat), .string ⟨l4.data.toArray⟩, .int .i64 (l4.count : Nat), .bool l4.broken]) (t := 74) rfl).1 (And.intro (H4.out.2.1.below hb5) (And.intro (H4.out.2.2.1.below hb5) (H4.out.2.2.2.below hb5)))))
    have hne : gt ≠ gb := by omega
    rw [← hgt] at H5 ⊢
    clear hb5 hgt hgb4 H4
    generalize (w4.alloc _) = W5 at H5 ⊢
    have hcg := H5.out.1.blk.c13
    have hct := H5.out.2.1.c11
    go_wp2_with fail
    refine wp_region_plan (.take 0 (.take 1 (.take 2 (.take 3 (.take 4 (.take 5 (.run 6 [1, 3] (.take 7 (.take 8 (.run 9 [] .fin)))))))))) (by kernel_rfl) (by kernel_rfl) (by kernel_rfl) (by kernel_rfl) ?_
    repeat' (first | (refine hZ _ _ ?_; clear hZ) | (refine hZ _ ?_; clear hZ) | (refine hZ ?_; clear hZ) | rw [again_nil] | rw [walk_fin] | ((first | rw [walk_take] | rw [walk_run] | rw [again_cons]); intro Z hZ; simp only [sel, List.getElem?_toArray, List.getElem?_cons_zero, List.getElem?_cons_succ]; go_wp2_with (fail)))
    have g1 := grown_setCells W5 gb 1 [.pointer lp1]
    have B1 : BotAt w0 (W5.setCells gb 1 [.pointer lp1]) k gb o1 r.d lp1 _ d.rx l (n + 2) := H5.out.1.store 1 [.pointer lp1] rfl H5.out.1.rx
    have X1 := H5.out.2.2.2.2.store g1 (.inr (.inl rfl))
    have F1 := H5.out.2.2.1.store H5.out.1.blk g1
    have L1 := H5.out.2.2.2.1.store H5.out.1.blk g1
    have g2 := grown_setCells (W5.setCells gb 1 [.pointer lp1]) gb 2 [.slice As4 r.d.rx.sure.length cs4, .slice Ap4 r.d.rx.pend.length cp4, .slice Af4 r.d.rx.falls.length cf4, .int .i64 (r.d.rx.ch : Nat), .bool r.d.rx.down, .int .i64 (l4.at_ : Nat), .int .i64 (l4.room : Nat), .int .u64 (l4.seq : Nat), .string ⟨l4.data.toArray⟩, .int .i64 (l4.count : Nat), .bool l4.broken]
    have B2 : BotAt w0 ((W5.setCells gb 1 [.pointer lp1]).setCells gb 2 [.slice As4 r.d.rx.sure.length cs4, .slice Ap4 r.d.rx.pend.length cp4, .slice Af4 r.d.rx.falls.length cf4, .int .i64 (r.d.rx.ch : Nat), .bool r.d.rx.down, .int .i64 (l4.at_ : Nat), .int .i64 (l4.room : Nat), .int .u64 (l4.seq : Nat), .string ⟨l4.data.toArray⟩, .int .i64 (l4.count : Nat), .bool l4.broken]) k gb o1 r.d lp1 [.slice As4 r.d.rx.sure.length cs4, .slice Ap4 r.d.rx.pend.length cp4, .slice Af4 r.d.rx.falls.length cf4, .int .i64 (r.d.rx.ch : Nat), .bool r.d.rx.down] r.d.rx l4 (n + 2) := B1.store 2 [.slice As4 r.d.rx.sure.length cs4, .slice Ap4 r.d.rx.pend.length cp4, .slice Af4 r.d.rx.falls.length cf4, .int .i64 (r.d.rx.ch : Nat), .bool r.d.rx.down, .int .i64 (l4.at_ : Nat), .int .i64 (l4.room : Nat), .int .u64 (l4.seq : Nat), .string ⟨l4.data.toArray⟩, .int .i64 (l4.count : Nat), .bool l4.broken] rfl X1
    have F2 := F1.store B1.blk g2
    have L2 := L1.store B1.blk g2
    have hdr := below_drew ((W5.setCells gb 1 [.pointer lp1]).setCells gb 2 [.slice As4 r.d.rx.sure.length cs4, .slice Ap4 r.d.rx.pend.length cp4, .slice Af4 r.d.rx.falls.length cf4, .int .i64 (r.d.rx.ch : Nat), .bool r.d.rx.down, .int .i64 (l4.at_ : Nat), .int .i64 (l4.room : Nat), .int .u64 (l4.seq : Nat), .string ⟨l4.data.toArray⟩, .int .i64 (l4.count : Nat), .bool l4.broken])
    have H7 := Lib.hid (And.intro (B2.below hdr) (And.intro (F2.below hdr) (L2.below hdr)))
    clear g1 g2 B1 X1 F1 L1 B2 F2 L2 hdr hcg hct H5
    simp only [World.setCells, Nat.zero_add, Nat.reduceAdd] at H7
    generalize (World.setCell (World.setCell _ _ _) _ _).drew = W7 at H7 ⊢
    rcases H7.out.2.2 with ⟨hre, g, hlp, ho, hgg, hlog⟩ | ⟨hre, hlp, ho⟩
    · have HLG := Lib.hid hlog
      have HRE := Lib.hid (And.intro hre ho)
      have hsm := same_any W7 A1 c1 ps H7.out.2.1.a.row (fun p hp => (H7.out.2.1.p.2 p hp).1) A4 ca4 r.recs H7.out.2.1.t.row HRN.out
      rw [H7.out.2.1.p.1, show decide (r.recs = r.recs) = true by simp] at hsm
      have HSM := Lib.hid hsm
      clear hlog ho hsm
      subst hlp
      go_wp2_with fail
      refine HSM.out.mono ?_
      rintro e w9 ⟨rfl, rfl⟩
      go_wp2_with fail
      go_ret
      refine ⟨rfl, l4, ⟨HNR.out, _, _, _, H7.out.1, .inl ⟨g, rfl, HRE.out.2, hgg, ?_⟩⟩, HL4.out.1, HL4.out.2⟩
      rw [HL4.out.2 HRE.out.1]
      exact HLG.out
    · have hps : ps = [] := by
        have h1 := H7.out.2.1.p.1
        rw [HBAD.out hre] at h1
        simpa using h1
      subst hps hlp ho
      have hre2 : (r.e != 0) = true := by simpa using hre
      have HRE := Lib.hid hre
      have hcg := H7.out.1.blk.c13
      clear hre
      go_upto_region 6 with (fail)
      have H8 : Hid (BotAt w0 (W7.setCells gb 12 [.bool true]) k gb none r.d none _ r.d.rx { l4 with broken := true } (n + 2)) := H7.out.1.store 12 [.bool true] rfl H7.out.1.rx
      simp only [World.setCells, Nat.reduceAdd] at H8
      clear hcg H7
      generalize (World.setCell W7 _ _) = W8 at H8 ⊢
      simp only [List.length_nil]
      go_wp2_with fail
      go_ret
      exact ⟨rfl, _, ⟨HNR.out, _, _, _, H8.out, .inr ⟨rfl, rfl, rfl⟩⟩, HL4.out.1, fun h => absurd h HRE.out⟩
  · have HZ := Lib.hid (H2.out.below (below_drew w2))
    obtain ⟨gt, hgt⟩ : ∃ gt, gt = w2.heap.size := ⟨_, rfl⟩
    have hba : Below w2.heap.size w2 (w2.alloc (.cells #[.slice none 0 0, .slice none 0 0, .slice none 0 0, .int .i64 0, .bool false, .int .i64 0, .int .i64 0, .int .u64 0, .string ⟨#[]⟩, .int .i64 0, .bool false] 74)).drew := (Below.alloc1 w2 _).drewR
    have H3 : Hid (BotAt w0 (w2.alloc (.cells #[.slice none 0 0, .slice none 0 0, .slice none 0 0, .int .i64 0, .bool false, .int .i64 0, .int .i64 0, .int .u64 0, .string ⟨#[]⟩, .int .i64 0, .bool false] 74)).drew k gb o1 r.d lp [.slice As d.rx.sure.length cs, .slice Ap d.rx.pend.length cp, .slice Af d.rx.falls.length cf, .int .i64 (d.rx.ch : Nat), .bool d.rx.down] d.rx l (n + 2) ∧
        Blk (w2.alloc (.cells #[.slice none 0 0, .slice none 0 0, .slice none 0 0, .int .i64 0, .bool false, .int .i64 0, .int .i64 0, .int .u64 0, .string ⟨#[]⟩, .int .i64 0, .bool false] 74)).drew gt 74 [.slice none 0 0, .slice none 0 0, .slice none 0 0, .int .i64 0, .bool false, .int .i64 0, .int .i64 0, .int .u64 0, .string ⟨#[]⟩, .int .i64 0, .bool false] ∧ RefX (fun i => inB k gb o1 i ∨ i = gt) (w2.alloc (.cells #[.slice none 0 0, .slice none 0 0, .slice none 0 0, .int .i64 0, .bool false, .int .i64 0, .int .i64 0, .int .u64 0, .string ⟨#[]⟩, .int .i64 0, .bool false] 74)).drew [.slice As d.rx.sure.length cs, .slice Ap d.rx.pend.length cp, .slice Af d.rx.falls.length cf, .int .i64 (d.rx.ch : Nat), .bool d.rx.down] d.rx ∧
        EOwn ePart (w2.alloc (.cells #[.slice none 0 0, .slice none 0 0, .slice none 0 0, .int .i64 0, .bool false, .int .i64 0, .int .i64 0, .int .u64 0, .string ⟨#[]⟩, .int .i64 0, .bool false] 74)).drew w.drew.heap.size A1 c1 ps ∧ PartsX k.own (w2.alloc (.cells #[.slice none 0 0, .slice none 0 0, .slice none 0 0, .int .i64 0, .bool false, .int .i64 0, .int .i64 0, .int .u64 0, .string ⟨#[]⟩, .int .i64 0, .bool false] 74)).drew ps r.recs ∧ LCase w0 (w2.alloc (.cells #[.slice none 0 0, .slice none 0 0, .slice none 0 0, .int .i64 0, .bool false, .int .i64 0, .int .i64 0, .int .u64 0, .string ⟨#[]⟩, .int .i64 0, .bool false] 74)).drew k gb o1 r lp1 ∧ (∀ i, (inB k gb o1 i ∨ i = gt) → i < (w2.alloc (.cells #[.slice none 0 0, .slice none 0 0, .slice none 0 0, .int .i64 0, .bool false, .int .i64 0, .int .i64 0, .int .u64 0, .string ⟨#[]⟩, .int .i64 0, .bool false] 74)).drew.heap.size) ∧ gt = w2.heap.size ∧ gt < (w2.alloc (.cells #[.slice none 0 0, .slice none 0 0, .slice none 0 0, .int .i64 0, .bool false, .int .i64 0, .int .i64 0, .int .u64 0, .string ⟨#[]⟩, .int .i64 0, .bool false] 74)).drew.heap.size) := by
      subst hgt
      have hsz : (w2.alloc (.cells #[.slice none 0 0, .slice none 0 0, .slice none 0 0, .int .i64 0, .bool false, .int .i64 0, .int .i64 0, .int .u64 0, .string ⟨#[]⟩, .int .i64 0, .bool false] 74)).drew.heap.size = w2.heap.size + 1 := by
        show (w2.alloc _).heap.size = _
        simp
      refine ⟨H2.out.below hba, (fresh1 (w := w2) (a := [.slice none 0 0, .slice none 0 0, .slice none 0 0, .int .i64 0, .bool false, .int .i64 0, .int .i64 0, .int .u64 0, .string ⟨#[]⟩, .int .i64 0, .bool false]) (t := 74) rfl).1.below (below_drew _), ?_, HP2.out.1.below hba, HP2.out.2.below hba, HLC.out.below hba, fun i hi => ?_, rfl, by rw [hsz]; exact Nat.lt_succ_self _⟩
      · refine (H2.out.rx.extend fun i hi => ?_).below hba
        rcases hi with hi | rfl
        · exact .inl hi
        · exact .inr (Nat.le_refl _)
      · rw [hsz]
        rcases hi with hi | rfl
        · have := H2.out.lt (fun g e => (HO1.out g e).1) i hi
          omega
        · exact Nat.lt_succ_self _
    subst hgt
    have HQ1 : Hid (gb < w2.heap.size ∧ w0.heap.size ≤ w2.heap.size) := ⟨H2.out.blk.lt, H2.out.dl.bel.size⟩
    have hc3 := H3.out.1.blk.c13
    repeat' (first | (refine hZ _ _ ?_; clear hZ) | (refine hZ _ ?_; clear hZ) | (refine hZ ?_; clear hZ) | rw [again_nil] | rw [walk_fin] | ((first | rw [walk_take] | rw [walk_run] | rw [again_cons]); intro Z hZ; simp only [sel, List.getElem?_toArray, List.getElem?_cons_zero, List.getElem?_cons_succ]; go_wp2_with (fail)))
    clear hc hba H2 HP2 HC HLC HZ
    generalize (w2.alloc _).drew = W3 at H3 ⊢
    refine (HRO.out (fun i => inB k gb o1 i ∨ i = w2.heap.size) W3 H3.out.2.2.2.2.2.2.1 _ H3.out.2.2.1).mono ?_
    rintro e w4 ⟨c4, l4, A4, ca4, rfl, hx4, hat4, hl4, ho4, hb4⟩
    have H4 := Lib.hid (And.intro (H3.out.1.below hb4) (And.intro (H3.out.2.1.below hb4) (And.intro (H3.out.2.2.1.below hb4) (And.intro (H3.out.2.2.2.1.below hb4) (And.intro (H3.out.2.2.2.2.1.below hb4) (And.intro (H3.out.2.2.2.2.2.1.below hb4) (And.intro hx4 ho4)))))))
    have HL4 := Lib.hid (And.intro hat4 hl4)
    have HGT : Hid (w2.heap.size < W3.heap.size ∧ gb ≠ w2.heap.size ∧ w0.heap.size ≤ w2.heap.size ∧ ∀ g, o1 = some g → g ≠ w2.heap.size) := ⟨H3.out.2.2.2.2.2.2.2.2, by have := HQ1.out.1; omega, HQ1.out.2, fun g e => by have := (HO1.out g e).1; omega⟩
    obtain ⟨As4, cs4, Ap4, cp4, Af4, cf4, rfl⟩ := hx4.open_
    clear hx4 hat4 hl4 ho4 hb4 hc3 HRO H3
    simp only [xlTail, txt, List.cons_append, List.nil_append]
    have hct := H4.out.2.1.c11
    go_wp2_with fail
    repeat' (first | (refine hZ _ _ ?_; clear hZ) | (refine hZ _ ?_; clear hZ) | (refine hZ ?_; clear hZ) | rw [again_nil] | rw [walk_fin] | ((first | rw [walk_take] | rw [walk_run] | rw [again_cons]); intro Z hZ; simp only [sel, List.getElem?_toArray, List.getElem?_cons_zero, List.getElem?_cons_succ]; go_wp2_with (fail)))
    have g4 := grown_setCells w4 w2.heap.size 0 [.slice As4 r.d.rx.sure.length cs4, .slice Ap4 r.d.rx.pend.length cp4, .slice Af4 r.d.rx.falls.length cf4, .int .i64 (r.d.rx.ch : Nat), .bool r.d.rx.down, .int .i64 (l4.at_ : Nat), .int .i64 (l4.room : Nat), .int .u64 (l4.seq : Nat), .string ⟨l4.data.toArray⟩, .int .i64 (l4.count : Nat), .bool l4.broken]
    have H5 : Hid (BotAt w0 (w4.setCells w2.heap.size 0 [.slice As4 r.d.rx.sure.length cs4, .slice Ap4 r.d.rx.pend.length cp4, .slice Af4 r.d.rx.falls.length cf4, .int .i64 (r.d.rx.ch : Nat), .bool r.d.rx.down, .int .i64 (l4.at_ : Nat), .int .i64 (l4.room : Nat), .int .u64 (l4.seq : Nat), .string ⟨l4.data.toArray⟩, .int .i64 (l4.count : Nat), .bool l4.broken]) k gb o1 r.d lp [.slice As d.rx.sure.length cs, .slice Ap d.rx.pend.length cp, .slice Af d.rx.falls.length cf, .int .i64 (d.rx.ch : Nat), .bool d.rx.down] d.rx l (n + 2) ∧ Blk (w4.setCells w2.heap.size 0 [.slice As4 r.d.rx.sure.length cs4, .slice Ap4 r.d.rx.pend.length cp4, .slice Af4 r.d.rx.falls.length cf4, .int .i64 (r.d.rx.ch : Nat), .bool r.d.rx.down, .int .i64 (l4.at_ : Nat), .int .i64 (l4.room : Nat), .int .u64 (l4.seq : Nat), .string ⟨l4.data.toArray⟩, .int .i64 (l4.count : Nat), .bool l4.broken]) w2.heap.size 74 [.slice As4 r.d.rx.sure.length cs4, .slice Ap4 r.d.rx.pend.length cp4, .slice Af4 r.d.rx.falls.length cf4, .int .i64 (r.d.rx.ch : Nat), .bool r.d.rx.down, .int .i64 (l4.at_ : Nat), .int .i64 (l4.room : Nat), .int .u64 (l4.seq : Nat), .string ⟨l4.data.toArray⟩, .int .i64 (l4.count : Nat), .bool l4.broken] ∧ Fnd k (w4.setCells w2.heap.size 0 [.slice As4 r.d.rx.sure.length cs4, .slice Ap4 r.d.rx.pend.length cp4, .slice Af4 r.d.rx.falls.length cf4, .int .i64 (r.d.rx.ch : Nat), .bool r.d.rx.down, .int .i64 (l4.at_ : Nat), .int .i64 (l4.room : Nat), .int .u64 (l4.seq : Nat), .string ⟨l4.data.toArray⟩, .int .i64 (l4.count : Nat), .bool l4.broken]) w.drew.heap.size W3.heap.size A1 c1 ps A4 ca4 r.recs ∧ LCase w0 (w4.setCells w2.heap.size 0 [.slice As4 r.d.rx.sure.length cs4, .slice Ap4 r.d.rx.pend.length cp4, .slice Af4 r.d.rx.falls.length cf4, .int .i64 (r.d.rx.ch : Nat), .bool r.d.rx.down, .int .i64 (l4.at_ : Nat), .int .i64 (l4.room : Nat), .int .u64 (l4.seq : Nat), .string ⟨l4.data.toArray⟩, .int .i64 (l4.count : Nat), .bool l4.broken]) k gb o1 r lp1 ∧
        RefX (inB k gb o1) (w4.setCells w2.heap.size 0 [.slice As4 r.d.rx.sure.length cs4, .slice Ap4 r.d.rx.pend.length cp4, .slice Af4 r.d.rx.falls.length cf4, .int .i64 (r.d.rx.ch : Nat), .bool r.d.rx.down, .int .i64 (l4.at_ : Nat), .int .i64 (l4.room : Nat), .int .u64 (l4.seq : Nat), .string ⟨l4.data.toArray⟩, .int .i64 (l4.count : Nat), .bool l4.broken]) [.slice As4 r.d.rx.sure.length cs4, .slice Ap4 r.d.rx.pend.length cp4, .slice Af4 r.d.rx.falls.length cf4, .int .i64 (r.d.rx.ch : Nat), .bool r.d.rx.down] r.d.rx) := by
      refine ⟨H4.out.1.aside H4.out.2.1 nd_xlog HGT.out.2.1 g4 HGT.out.2.2.1 ((H4.out.2.2.1.store g4 (.inr rfl)).less fun i hi => .inl hi), H4.out.2.1.setAll _ rfl, ⟨H4.out.2.2.2.1.keptG H4.out.2.1 (by decide) g4, parts_store H4.out.2.2.2.2.1 H4.out.2.1 (by decide) g4, ?_⟩, H4.out.2.2.2.2.2.1.aside H4.out.2.1 HGT.out.2.2.2 g4, (H4.out.2.2.2.2.2.2.1.store g4 (.inr rfl)).less fun i hi => .inl hi⟩
      exact H4.out.2.2.2.2.2.2.2.setCellsNe _ _ _ fun a ha => by
        have h1 := (H4.out.2.2.2.2.2.2.2.block a ha).1
        have h2 := HGT.out.1
        omega
    have hne : w2.heap.size ≠ gb := fun e => HGT.out.2.1 e.symm
    clear g4 hct H4
    simp only [World.setCells, Nat.zero_add, Nat.reduceAdd] at H5
    generalize (World.setCell (World.setCell _ _ _) _ _) = W5 at H5 ⊢
    have hcg := H5.out.1.blk.c13
    have hct := H5.out.2.1.c11
    go_wp2_with fail
    refine wp_region_plan (.take 0 (.take 1 (.take 2 (.take 3 (.take 4 (.take 5 (.run 6 [1, 3] (.take 7 (.take 8 (.run 9 [] .fin)))))))))) (by kernel_rfl) (by kernel_rfl) (by kernel_rfl) (by kernel_rfl) ?_
    repeat' (first | (refine hZ _ _ ?_; clear hZ) | (refine hZ _ ?_; clear hZ) | (refine hZ ?_; clear hZ) | rw [again_nil] | rw [walk_fin] | ((first | rw [walk_take] | rw [walk_run] | rw [again_cons]); intro Z hZ; simp only [sel, List.getElem?_toArray, List.getElem?_cons_zero, List.getElem?_cons_succ]; go_wp2_with (fail)))
    have g1 := grown_setCells W5 gb 1 [.pointer lp1]
    have B1 : BotAt w0 (W5.setCells gb 1 [.pointer lp1]) k gb o1 r.d lp1 _ d.rx l (n + 2) := H5.out.1.store 1 [.pointer lp1] rfl H5.out.1.rx
    have X1 := H5.out.2.2.2.2.store g1 (.inr (.inl rfl))
    have F1 := H5.out.2.2.1.store H5.out.1.blk g1
    have L1 := H5.out.2.2.2.1.store H5.out.1.blk g1
    have g2 := grown_setCells (W5.setCells gb 1 [.pointer lp1]) gb 2 [.slice As4 r.d.rx.sure.length cs4, .slice Ap4 r.d.rx.pend.length cp4, .slice Af4 r.d.rx.falls.length cf4, .int .i64 (r.d.rx.ch : Nat), .bool r.d.rx.down, .int .i64 (l4.at_ : Nat), .int .i64 (l4.room : Nat), .int .u64 (l4.seq : Nat), .string ⟨l4.data.toArray⟩, .int .i64 (l4.count : Nat), .bool l4.broken]
    have B2 : BotAt w0 ((W5.setCells gb 1 [.pointer lp1]).setCells gb 2 [.slice As4 r.d.rx.sure.length cs4, .slice Ap4 r.d.rx.pend.length cp4, .slice Af4 r.d.rx.falls.length cf4, .int .i64 (r.d.rx.ch : Nat), .bool r.d.rx.down, .int .i64 (l4.at_ : Nat), .int .i64 (l4.room : Nat), .int .u64 (l4.seq : Nat), .string ⟨l4.data.toArray⟩, .int .i64 (l4.count : Nat), .bool l4.broken]) k gb o1 r.d lp1 [.slice As4 r.d.rx.sure.length cs4, .slice Ap4 r.d.rx.pend.length cp4, .slice Af4 r.d.rx.falls.length cf4, .int .i64 (r.d.rx.ch : Nat), .bool r.d.rx.down] r.d.rx l4 (n + 2) := B1.store 2 [.slice As4 r.d.rx.sure.length cs4, .slice Ap4 r.d.rx.pend.length cp4, .slice Af4 r.d.rx.falls.length cf4, .int .i64 (r.d.rx.ch : Nat), .bool r.d.rx.down, .int .i64 (l4.at_ : Nat), .int .i64 (l4.room : Nat), .int .u64 (l4.seq : Nat), .string ⟨l4.data.toArray⟩, .int .i64 (l4.count : Nat), .bool l4.broken] rfl X1
    have F2 := F1.store B1.blk g2
    have L2 := L1.store B1.blk g2
    have hdr := below_drew ((W5.setCells gb 1 [.pointer lp1]).setCells gb 2 [.slice As4 r.d.rx.sure.length cs4, .slice Ap4 r.d.rx.pend.length cp4, .slice Af4 r.d.rx.falls.length cf4, .int .i64 (r.d.rx.ch : Nat), .bool r.d.rx.down, .int .i64 (l4.at_ : Nat), .int .i64 (l4.room : Nat), .int .u64 (l4.seq : Nat), .string ⟨l4.data.toArray⟩, .int .i64 (l4.count : Nat), .bool l4.broken])
    have H7 := Lib.hid (And.intro (B2.below hdr) (And.intro (F2.below hdr) (L2.below hdr)))
    clear g1 g2 B1 X1 F1 L1 B2 F2 L2 hdr hcg hct H5
    simp only [World.setCells, Nat.zero_add, Nat.reduceAdd] at H7
    generalize (World.setCell (World.setCell _ _ _) _ _).drew = W7 at H7 ⊢
    rcases H7.out.2.2 with ⟨hre, g, hlp, ho, hgg, hlog⟩ | ⟨hre, hlp, ho⟩
    · have HLG := Lib.hid hlog
      have HRE := Lib.hid (And.intro hre ho)
      have hsm := same_any W7 A1 c1 ps H7.out.2.1.a.row (fun p hp => (H7.out.2.1.p.2 p hp).1) A4 ca4 r.recs H7.out.2.1.t.row HRN.out
      rw [H7.out.2.1.p.1, show decide (r.recs = r.recs) = true by simp] at hsm
      have HSM := Lib.hid hsm
      clear hlog ho hsm
      subst hlp
      go_wp2_with fail
      refine HSM.out.mono ?_
      rintro e w9 ⟨rfl, rfl⟩
      go_wp2_with fail
      go_ret
      refine ⟨rfl, l4, ⟨HNR.out, _, _, _, H7.out.1, .inl ⟨g, rfl, HRE.out.2, hgg, ?_⟩⟩, HL4.out.1, HL4.out.2⟩
      rw [HL4.out.2 HRE.out.1]
      exact HLG.out
    · have hps : ps = [] := by
        have h1 := H7.out.2.1.p.1
        rw [HBAD.out hre] at h1
        simpa using h1
      subst hps hlp ho
      have hre2 : (r.e != 0) = true := by simpa using hre
      have HRE := Lib.hid hre
      have hcg := H7.out.1.blk.c13
      clear hre
      go_upto_region 6 with (fail)
      have H8 : Hid (BotAt w0 (W7.setCells gb 12 [.bool true]) k gb none r.d none _ r.d.rx { l4 with broken := true } (n + 2)) := H7.out.1.store 12 [.bool true] rfl H7.out.1.rx
      simp only [World.setCells, Nat.reduceAdd] at H8
      clear hcg H7
      generalize (World.setCell W7 _ _) = W8 at H8 ⊢
      simp only [List.length_nil]
      go_wp2_with fail
      go_ret
      exact ⟨rfl, _, ⟨HNR.out, _, _, _, H8.out, .inr ⟨rfl, rfl, rfl⟩⟩, HL4.out.1, fun h => absurd h HRE.out⟩
end Go.Proofs.Ythbanhedjfpmaaa
end

section
/-
  Whether both tell the same of themselves.
-/
namespace Go.Proofs.Ythbanhedjfpmaaa
set_option linter.unusedSimpArgs false
set_option linter.unusedVariables false
open Go.RowKit

set_option maxRecDepth 20000 in
set_option maxHeartbeats 2000000 in
theorem blike_any (w0 w : World) (k : KB) (gb : Nat) (d : DS) (l : LS) (n : Nat) (H : BotOk w0 w k gb d l n) :
    Calls Try.prog 37 #[.pointer (some ⟨gb, 0, none⟩)] w fun e w' => e = .returned (.bool true) ∧ Below w.heap.size w w' := by
  obtain ⟨-, lp, c, o, hB, hcase⟩ := H
  obtain ⟨As, cs, Ap, cp, Af, cf, rfl⟩ := hB.rx.open_
  rcases hcase with ⟨g, rfl, -, -, hl⟩ | ⟨rfl, -, -⟩
  · have HB := Lib.hid hB
    have HL := Lib.hid hl
    have hszd : (ByteArray.mk l.data.toArray).size = l.data.length := by simp [ByteArray.size]
    have hc := hB.blk.c13
    unfold txt at hc
    have g1 := hl.good.data
    have g2 := hl.good.room
    have HRM := Lib.hid (wroom_any w.drew _ k g l (hl.below (below_drew w)))
    have HLN := Lib.hid (wlen_any w.drew.drew _ k g l ((hl.below (below_drew w)).below (below_drew _)))
    have HBR := Lib.hid (wbroken_any w.drew.drew _ k g l ((hl.below (below_drew w)).below (below_drew _)))
    have HCH : Hid (Calls Try.prog 26 #[.pointer (some ⟨k.gd, 0, none⟩)] w.drew.drew fun e w' => e = .returned (.int .i64 (d.rx.ch : Nat)) ∧ w.drew.drew = w') := (changes_any w.drew.drew _ k d ((hB.dl.at_.below (below_drew w)).below (below_drew _)))
    clear hB hl
    go_enter Try.func37, Try.ntmps37
    go_wp2_with fail
    refine wp_region_plan (.take 0 (.take 1 (.take 2 (.take 3 (.take 5 (.take 6 (.take 7 (.take 8 (.take 9 (.take 10 (.take 11 (.take 12 (.take 13 (.take 14 (.take 15 (.take 16 (.run 4 [5, 6, 7, 8, 9, 10, 11, 12, 13, 14, 15, 16] (.take 17 (.take 18 (.take 19 (.take 20 (.take 21 (.take 22 (.take 24 (.take 25 (.take 26 (.take 27 (.take 28 (.run 23 [24, 25, 26, 27, 28] (.take 29 (.take 30 (.take 31 (.take 32 (.take 33 (.take 34 (.take 35 (.take 37 (.take 38 (.take 39 (.take 40 (.take 41 (.run 36 [37, 38, 39, 40, 41] (.take 42 (.take 43 (.take 44 (.take 45 (.take 46 (.take 47 (.take 48 (.take 50 (.take 51 (.take 52 (.take 53 (.take 54 (.take 55 (.run 49 [50, 51, 52, 53, 54, 55] (.take 56 (.take 57 (.take 58 .fin))))))))))))))))))))))))))))))))))))))))))))))))))))))))))) (by kernel_rfl) (by kernel_rfl) (by kernel_rfl) (by kernel_rfl) ?_
    repeat' (first | (refine hZ _ _ ?_; clear hZ) | (refine hZ _ ?_; clear hZ) | (refine hZ ?_; clear hZ) | rw [again_nil] | rw [walk_fin] | ((first | rw [walk_take] | rw [walk_run] | rw [again_cons]); intro Z hZ; simp only [sel, List.getElem?_toArray, List.getElem?_cons_zero, List.getElem?_cons_succ]; go_wp2_with (fail)))
    refine HRM.out.mono ?_
    rintro e w1 ⟨rfl, rfl⟩
    go_wp2_with fail
    repeat' (first | (refine hZ _ _ ?_; clear hZ) | (refine hZ _ ?_; clear hZ) | (refine hZ ?_; clear hZ) | rw [again_nil] | rw [walk_fin] | ((first | rw [walk_take] | rw [walk_run] | rw [again_cons]); intro Z hZ; simp only [sel, List.getElem?_toArray, List.getElem?_cons_zero, List.getElem?_cons_succ]; go_wp2_with (fail)))
    refine HLN.out.mono ?_
    rintro e w1 ⟨rfl, rfl⟩
    go_wp2_with fail
    repeat' (first | (refine hZ _ _ ?_; clear hZ) | (refine hZ _ ?_; clear hZ) | (refine hZ ?_; clear hZ) | rw [again_nil] | rw [walk_fin] | ((first | rw [walk_take] | rw [walk_run] | rw [again_cons]); intro Z hZ; simp only [sel, List.getElem?_toArray, List.getElem?_cons_zero, List.getElem?_cons_succ]; go_wp2_with (fail)))
    refine HBR.out.mono ?_
    rintro e w1 ⟨rfl, rfl⟩
    go_wp2_with fail
    repeat' (first | (refine hZ _ _ ?_; clear hZ) | (refine hZ _ ?_; clear hZ) | (refine hZ ?_; clear hZ) | rw [again_nil] | rw [walk_fin] | ((first | rw [walk_take] | rw [walk_run] | rw [again_cons]); intro Z hZ; simp only [sel, List.getElem?_toArray, List.getElem?_cons_zero, List.getElem?_cons_succ]; go_wp2_with (fail)))
    refine HCH.out.mono ?_
    rintro e w1 ⟨rfl, rfl⟩
    go_wp2_with fail
    repeat' (first | (refine hZ _ _ ?_; clear hZ) | (refine hZ _ ?_; clear hZ) | (refine hZ ?_; clear hZ) | rw [again_nil] | rw [walk_fin] | ((first | rw [walk_take] | rw [walk_run] | rw [again_cons]); intro Z hZ; simp only [sel, List.getElem?_toArray, List.getElem?_cons_zero, List.getElem?_cons_succ]; go_wp2_with (fail)))
    go_wp2_with fail
    go_ret
    exact ⟨rfl, (below_drew w).trans (below_drew w.drew)⟩
  · have hc := hB.blk.c13
    clear hB
    go_enter Try.func37, Try.ntmps37
    go_wp2_with fail
    go_ret
    exact ⟨rfl, Below.refl _ _⟩
end Go.Proofs.Ythbanhedjfpmaaa
end

