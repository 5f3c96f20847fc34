/-
  What holds throughout PoolPlays.
-/
import Derived.Test.YtjaopecjmmnbiaaPoolOps
namespace Go.Proofs.Ytjaopecjmmnbiaa
set_option linter.unusedSimpArgs false
set_option linter.unusedVariables false
open Go.RowKit Go.Maps

/-- What holds throughout: the pool qp, the document's qx in the block g and the row behind Ax. -/
structure PInv (w : World) (B lo g : Nat) (b : PB) (N : Nat) (qp qx : PS) (Ax : Option Addr) (cx : Nat) (wr : World) : Prop where
  pool : PoolOf wr B b N qp
  x : Blk wr g 46 [.slice Ax qx.L.length cx, .int .i64 (qx.hand : Nat), .int .i64 qx.hits, .int .i64 qx.misses]
  row : RRow wr lo Ax qx.L
  far : ∀ a, Ax = some a → a.block ≠ g
  own : ∀ k, b.own k → k < lo
  log : lo ≤ g
  wB : w.heap.size ≤ B
  bel : Below w.heap.size w wr
theorem Blk.kept {w w' : World} {g : Nat} {T : TypeId} {cs : List Value} {S : Nat → Prop} (h : Blk w g T cs) (hk : Keeps w w' S) (hg : ¬ S g) : Blk w' g T cs := (hk.block _ h.lt hg).trans h
theorem PoolOf.counts {w : World} {B N : Nat} {b : PB} {q : PS} (h : PoolOf w B b N q) : (0 ≤ q.hits ∧ q.hits ≤ N) ∧ 0 ≤ q.misses ∧ q.misses ≤ N := by
  obtain ⟨p, c, rfl, _, _, h1, h2, h3, h4⟩ := h
  exact ⟨⟨h1, h3⟩, h2, h4⟩
theorem PoolAt.kept' {w w' : World} {B N c : Nat} {b : PB} {p : PS} {S : Nat → Prop} (h : PoolAt w B b N c p) (h0 : 0 < p.L.length) (hk : Keeps w w' S) (hS : ∀ k, b.own k → ¬ S k) (hf : ∀ f ∈ p.L, BRow w' f.A f.s) : PoolAt w' B b N c p := by
  have hlt := h.toF.lt h0
  have e : ∀ k, b.own k → w'.heap[k]? = w.heap[k]? := fun k hk' => hk.block k (hlt k hk') (hS k hk')
  refine ⟨h.lp, h.lf, h.lm, (e _ (.inl rfl)).trans h.head, ?_, ?_, hf, h.far⟩
  · refine ⟨h.frames.1, ?_⟩
    rcases h.frames.2 with h2 | ⟨g, cap, cur, hv, hb, hg, r⟩
    · exact .inl h2
    · refine .inr ⟨g, cap, cur, hv, hb, ?_, r⟩
      simp only [Value.slice.injEq, Option.some.injEq, Addr.mk.injEq] at hv
      obtain ⟨⟨rfl, _⟩, _⟩ := hv
      exact (e _ (.inr (.inl rfl))).trans hg
  · obtain ⟨D, ⟨es, clock, h1, r⟩, r2⟩ := h.map
    exact ⟨D, ⟨es, clock, (e _ (.inr (.inr rfl))).trans h1, r⟩, r2⟩
theorem BRow.ne_blk {w : World} {A : Option Addr} {l : List UInt8} {g : Nat} {T : TypeId} {cs : List Value} (h : BRow w A l) (hl : l ≠ []) (hb : Blk w g T cs) (hc : ∀ v ∈ cs, ∀ n, v ≠ .int .u8 n) : ∀ a, A = some a → a.block ≠ g := by
  rintro a ha rfl
  obtain ⟨b, o, e, _, hcell⟩ := h (by cases l with | nil => exact absurd rfl hl | cons x l => simp)
  rw [ha] at e
  obtain rfl := Option.some.inj e
  have h0 := hcell 0 (by cases l with | nil => exact absurd rfl hl | cons x l => simp)
  rw [hb.cell] at h0
  obtain ⟨hlt, he⟩ := List.getElem?_eq_some_iff.1 h0
  rw [List.getElem_map] at he
  exact hc _ (List.getElem_mem hlt) _ he
section
variable {w wr w' : World} {B lo g N N' : Nat} {b : PB} {qp qp' qx qx' : PS} {Ax Ax' : Option Addr} {cx cx' : Nat}
theorem PInv.pooled (h : PInv w B lo g b N qp qx Ax cx wr) (hp : PoolOf w' B b N' qp') (hk : Keeps wr w' b.own) : PInv w B lo g b N' qp' qx Ax cx w' :=
  ⟨hp, h.x.kept hk (fun ho => by have := h.own _ ho; have := h.log; omega), ⟨h.row.1.keep hk.size (fun a ha hl => hk.block _ hl (fun ho => by have := h.own _ ho; have := h.row.2 a ha; omega)), h.row.2⟩, h.far, h.own, h.log, h.wB,
    hk.below h.bel h.bel.size (fun k hk => by have := (h.pool.lt k hk).1; have := h.wB; omega)⟩
theorem PInv.below (h : PInv w B lo g b N qp qx Ax cx wr) (hb : Below wr.heap.size wr w') : PInv w B lo g b N qp qx Ax cx w' :=
  ⟨h.pool.below hb, h.x.below hb, h.row.below hb, h.far, h.own, h.log, h.wB, h.bel.trans (hb.mono h.bel.size)⟩
/-- The document's pool is stored anew. -/
theorem PInv.newg (h : PInv w B lo g b N qp qx Ax cx wr) (hg : wr.grownBy w' (some g)) (hb : Blk w' g 46 [.slice Ax' qx'.L.length cx', .int .i64 (qx'.hand : Nat), .int .i64 qx'.hits, .int .i64 qx'.misses]) (hr : RRow wr lo Ax' qx'.L) (hf : ∀ a, Ax' = some a → a.block ≠ g) :
    PInv w B lo g b N qp qx' Ax' cx' w' := by
  have hgw : w.heap.size ≤ g := by
    have h1 := (h.pool.lt b.gp (.inl rfl)).1
    have h2 := h.own b.gp (.inl rfl)
    have := h.wB
    have := h.log
    omega
  have hgo : ¬ b.own g := fun ho => by have := h.own _ ho; have := h.log; omega
  have hk : Keeps wr w' (fun k => k = g) := ⟨hg.os, hg.tape, hg.output, hg.size, fun k hk hn => hg.block k hk (by simpa using hn)⟩
  refine ⟨?_, hb, ⟨hr.1.keep hk.size (fun a ha hl => hk.block _ hl (hf a ha)), hr.2⟩, hf, h.own, h.log, h.wB, ?_⟩
  · obtain ⟨p, c, rfl, h1, h2, r⟩ := h.pool
    refine ⟨p, c, rfl, h1.kept' h2.n0 hk (fun k ho e => hgo (e ▸ ho)) (fun f hf' => ?_), h2, r⟩
    cases hs : f.s with
    | nil => exact BRow.nil
    | cons y s =>
      have hb := h1.bytes f hf'
      rw [hs] at hb
      exact hb.kept hk (fun a ha => hb.ne_blk (by simp) h.x (by simp) a ha)
  · exact hk.below h.bel h.bel.size (fun k hk => by subst hk; exact hgw)
end

theorem BRow.grown_blk {w w' : World} {A : Option Addr} {l : List UInt8} {g : Nat} {T : TypeId} {cs : List Value} (h : BRow w A l) (hg : w.grownBy w' (some g)) (hb : Blk w g T cs) (hc : ∀ v ∈ cs, ∀ n, v ≠ .int .u8 n) : BRow w' A l := by
  cases l with
  | nil => exact BRow.nil
  | cons y l =>
    obtain ⟨b, o, e, hlt, hcell⟩ := h (by simp)
    have hne := h.ne_blk (by simp) hb hc _ e
    exact fun _ => ⟨b, o, e, Nat.lt_of_lt_of_le hlt hg.size, fun j hj => (World.cell?_of_block (a := ⟨b, o + j, none⟩) (hg.block b hlt (by simp; exact hne))).trans (hcell j hj)⟩
theorem PoolX.scribble {w w' : World} {B N X : Nat} {b : PB} {q : PS} (h : PoolX (fun k => k = X) w B b N q) (hk : Keeps w w' (fun k => k = X)) (hX : ¬ b.own X) : PoolX (fun k => k = X) w' B b N q := by
  obtain ⟨p, c, rfl, h1, h2, h3, h4⟩ := h
  refine ⟨p, c, rfl, h1.kept' h2.n0 hk (fun k ho e => hX (e ▸ ho)) (fun f hf => ?_), h2, h3, h4⟩
  by_cases hs : f.s = []
  · rw [hs]; exact BRow.nil
  · exact (h1.bytes f hf).kept hk (fun a ha => h4 f hf hs a ha)
/-- A block of the call's own turns that nothing leads to. -/
theorem PInv.scribble {w wr w' : World} {B lo g N X : Nat} {b : PB} {qp qx : PS} {Ax : Option Addr} {cx : Nat} (h : PInv w B lo g b N qp qx Ax cx wr) (hx : PoolX (fun k => k = X) wr B b N qp) (hk : Keeps wr w' (fun k => k = X)) (hX : ¬ b.own X) (hg : g ≠ X) (hw : w.heap.size ≤ X) (hA : ∀ a, Ax = some a → a.block ≠ X) :
    PInv w B lo g b N qp qx Ax cx w' :=
  ⟨(hx.scribble hk hX).toOf, h.x.kept hk hg, ⟨h.row.1.keep hk.size (fun a ha hl => hk.block _ hl (hA a ha)), h.row.2⟩, h.far, h.own, h.log, h.wB, hk.below h.bel h.bel.size (fun k hk => by subst hk; exact hw)⟩
theorem BOwn.keptK {w w' : World} {B c : Nat} {A : Option Addr} {l : List UInt8} {S : Nat → Prop} (h : BOwn w B A c l) (hk : Keeps w w' S) (hf : ∀ a, A = some a → ¬ S a.block) : BOwn w' B A c l := by
  refine ⟨h.1, ?_⟩
  rcases h.2 with h2 | ⟨g, cap, cur, hv, hb, hg, r⟩
  · exact .inl h2
  · refine .inr ⟨g, cap, cur, hv, hb, ?_, r⟩
    simp only [Value.slice.injEq] at hv
    exact (hk.block g (Array.getElem?_eq_some_iff.1 hg).1 (hf _ hv.1)).trans hg
theorem PoolX.atg {w wr w' : World} {B lo g N X : Nat} {b : PB} {qp qx : PS} {Ax : Option Addr} {cx : Nat} (hx : PoolX (fun k => k = X) wr B b N qp) (h : PInv w B lo g b N qp qx Ax cx wr) (hg : wr.grownBy w' (some g)) : PoolX (fun k => k = X) w' B b N qp := by
  have hgo : ¬ b.own g := fun ho => by have := h.own _ ho; have := h.log; omega
  have hk : Keeps wr w' (fun k => k = g) := ⟨hg.os, hg.tape, hg.output, hg.size, fun k hk hn => hg.block k hk (by simpa using hn)⟩
  obtain ⟨p, c, rfl, h1, h2, h3, h4⟩ := hx
  refine ⟨p, c, rfl, h1.kept' h2.n0 hk (fun k ho e => hgo (e ▸ ho)) (fun f hf => ?_), h2, h3, h4⟩
  cases hs : f.s with
  | nil => exact BRow.nil
  | cons y s =>
    have hb := h1.bytes f hf
    rw [hs] at hb
    exact hb.kept hk (fun a ha => hb.ne_blk (by simp) h.x (by simp) a ha)
theorem bump_byte (c : UInt8) : bv (UInt8.ofNat (c.toNat + 1)) = .int .u8 (((c.toNat : Int) + 1) % 256) := by
  simp [bv]
theorem RRow.lt {w : World} {lo : Nat} {A : Option Addr} {L : List Fr} (h : RRow w lo A L) (hL : 0 < L.length) : ∀ a, A = some a → a.block < w.heap.size := by
  intro a ha
  obtain ⟨b, o, e, hb, _⟩ := h.1 hL
  rw [ha] at e
  obtain rfl := Option.some.inj e
  exact hb
theorem RRow.ne {w : World} {lo g : Nat} {A : Option Addr} {L : List Fr} {T : TypeId} {cs : List Value} (h : RRow w lo A L) (hL : 0 < L.length) (hb : Blk w g T cs) (hc : ∀ v ∈ cs, ∀ x, v ≠ .bool x) : ∀ a, A = some a → a.block ≠ g := by
  rintro a ha rfl
  obtain ⟨b, o, e, _, _, h1, _⟩ := rf_at h.1 hL
  rw [ha] at e
  obtain rfl := Option.some.inj e
  rw [hb.cell] at h1
  obtain ⟨hlt, he⟩ := List.getElem?_eq_some_iff.1 h1
  exact hc _ (List.getElem_mem hlt) _ he
/-- Which of the three a thing of a script is. -/
def kind3 (k : Int) : Nat := ((IntKind.u64.wrap k).tmod 3).toNat
theorem kind3_all (k : Int) : (IntKind.u64.wrap k).tmod 3 = 0 ∨ (IntKind.u64.wrap k).tmod 3 = 1 ∨ (IntKind.u64.wrap k).tmod 3 = 2 := by
  have h : 0 ≤ IntKind.u64.wrap k := by
    simp [IntKind.wrap, IntKind.signed, IntKind.bits]
    omega
  rw [Int.tmod_eq_emod_of_nonneg h]
  omega


/-- What a put answers and leaves, of any number. -/
def PS.putAny (q : PS) (k : Int) (l : List UInt8) : Int × PS := if k < 0 then (-1, q) else q.put k ⟨k, true, l, none, 0⟩
def PutAny (X : Nat → Prop) (w : World) (B : Nat) (b : PB) (N : Nat) (q : PS) (k : Int) (l : List UInt8) (e : Ending) (w' : World) : Prop :=
  e = .returned (.int .i64 (q.putAny k l).1) ∧ PoolX X w' B b (N + 1) (q.putAny k l).2 ∧ Keeps w w' b.own
theorem PoolX.more {X : Nat → Prop} {w : World} {B N : Nat} {b : PB} {q : PS} (h : PoolX X w B b N q) : PoolX X w B b (N + 1) q := by
  obtain ⟨p, c, e, h1, h2, ⟨a1, a2, a3, a4⟩, h4⟩ := h
  exact ⟨p, c, e, h1.more, h2, ⟨a1, a2, by omega, by omega⟩, h4⟩
theorem put_anyx (X : Nat → Prop) (w : World) (B N : Nat) (b : PB) (q : PS) (hP : PoolX X w B b N q) (hX : ∀ k, X k → k < w.heap.size) (hN : N < 1000000) (k : Int) (h2 : k ≤ 9223372036854775807)
    (A2 : Option Addr) (c2 : Nat) (l : List UInt8) (hr : BRow w A2 l) (hl : l.length ≤ 1000000) (hfar2 : l ≠ [] → ∀ a, A2 = some a → ¬ b.own a.block) :
    Calls Try.prog 10 #[.pointer (some ⟨b.gp, 0, none⟩), .int .i64 k, .slice A2 l.length c2] w (PutAny X w B b N q k l) := by
  unfold PutAny PS.putAny
  by_cases hk : k < 0
  · rw [if_pos hk]
    obtain ⟨p, c, e, h1, _⟩ := id hP
    exact (put_neg w B N c b p h1 k hk A2 l.length c2).mono fun e w' ⟨he, hw⟩ => ⟨he, hw ▸ hP.more, hw ▸ Keeps.refl _ _⟩
  · rw [if_neg hk]
    exact put_x X w B N b q hP hX hN k (by omega) h2 A2 c2 l hr hl hfar2
def RefPutAny (w : World) (lo : Nat) (q : PS) (A : Option Addr) (k : Int) (l : List UInt8) (e : Ending) (w' : World) : Prop :=
  (∃ A' c', e = .returned (.tuple #[rpv (q.putAny k l).2 A' c', .int .i64 (q.putAny k l).1]) ∧ RRow w' lo A' (q.putAny k l).2.L ∧ ∀ a, A' = some a → A' = A ∨ w.heap.size ≤ a.block) ∧ Below w.heap.size w w'
theorem refput_any (w : World) (lo : Nat) (hlo : lo ≤ w.heap.size) (q : PS) (hG : Good q) (A : Option Addr) (c : Nat) (hr : RRow w lo A q.L) (k : Int) (l : List UInt8) :
    Calls Try.prog 17 #[rpv q A c, .int .i64 k, txt l] w (RefPutAny w lo q A k l) := by
  unfold RefPutAny PS.putAny
  by_cases hk : k < 0
  · rw [if_pos hk]
    exact (refput_neg w lo q A c hr k hk l).mono fun e w' ⟨he, hb⟩ => ⟨⟨A, c, he, hr.below hb, fun a _ => .inl rfl⟩, hb⟩
  · rw [if_neg hk]
    exact (refput_pos w lo hlo q hG A c hr (hr.lt hG.n0) k (by omega) l).mono fun e w' ⟨⟨A', c', he, h1, h2⟩, hb⟩ => ⟨⟨A', c', he, ⟨h1, fun a ha => Nat.le_trans hlo (h2 a ha)⟩, fun a ha => .inr (h2 a ha)⟩, hb⟩

theorem drop_len (q : PS) (k : Int) : (q.drop k).2.L.length = q.L.length := by
  unfold PS.drop
  split <;> simp
/-- An operation that writes memory and has no value. -/
theorem opDoes_skip {P : Program} {Q : Exit → Act → World → Prop} {l : List Oper} {o : Oper} {a : Act} {w w' : World} {T : Value → World → Prop} (hg : o.guard = none) (hr : (execOp a.eval o).run P w = .ok .skip w') (h : T undef w') : opDoes P l o Q a w T :=
  opDoes_plain hg fun K hK => by
    unfold Oper.wp
    rw [hr]
    exact hK _ _ h
end Go.Proofs.Ytjaopecjmmnbiaa
