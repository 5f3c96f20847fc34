/-
  A pool in memory by what it is, wherever its bytes lie: the contracts of all methods in one form.
-/
import Derived.Test.YtjaopecjmmnbiaaPoolDrop
namespace Go.Proofs.Ytjaopecjmmnbiaa
set_option linter.unusedSimpArgs false
set_option linter.unusedVariables false
open Go.RowKit Go.Maps

def Fr.bare (f : Fr) : Fr := { f with A := none, c := 0 }
def PS.bare (p : PS) : PS := { p with L := p.L.map Fr.bare }

theorem bare_where (L : List Fr) : whereOf (L.map Fr.bare) = whereOf L := by
  funext k
  unfold whereOf
  rw [List.findIdx?_map]
  rfl
theorem bare_first : ∀ (L : List Fr) (i : Nat), firstEmpty (L.map Fr.bare) i = firstEmpty L i
  | [], _ => rfl
  | f :: L, i => by
    show (if f.page < 0 then _ else firstEmpty (L.map Fr.bare) (i + 1)) = if f.page < 0 then _ else firstEmpty L (i + 1)
    rw [bare_first L (i + 1)]
theorem bare_marked (L : List Fr) : marked (L.map Fr.bare) = marked L := by
  unfold marked
  rw [List.filter_map, List.length_map]
  rfl
theorem bare_sweep : ∀ (f : Nat) (L : List Fr) (h : Nat), sweep f (L.map Fr.bare) h = ((sweep f L h).1, (sweep f L h).2.1.map Fr.bare, (sweep f L h).2.2)
  | 0, L, h => rfl
  | f + 1, L, h => by
    unfold sweep
    by_cases hh : h < L.length
    · rw [dif_pos hh, dif_pos (by simpa using hh)]
      have hm : ((L.map Fr.bare)[h]'(by simpa using hh)).mark = L[h].mark := by rw [List.getElem_map]; rfl
      rw [hm]
      by_cases hb : L[h].mark = true
      · rw [if_pos hb, if_pos hb]
        have := bare_sweep f (L.set h { L[h] with mark := false }) ((h + 1) % L.length)
        rw [List.map_set] at this
        have e : (L.map Fr.bare).set h { ((L.map Fr.bare)[h]'(by simpa using hh)) with mark := false } = (L.map Fr.bare).set h (Fr.bare { L[h] with mark := false }) := by
          rw [List.getElem_map]; rfl
        rw [e, List.length_map, this]
      · rw [if_neg hb, if_neg hb, List.length_map]
    · rw [dif_neg hh, dif_neg (by simpa using hh)]
theorem bare_place (p : PS) : p.bare.place = (p.place.1, p.place.2.bare) := by
  unfold PS.place PS.bare
  simp only [bare_first, bare_marked, bare_sweep]
  split <;> rfl
theorem bare_put (p : PS) (k : Int) (f : Fr) : p.bare.put k f.bare = ((p.put k f).1, (p.put k f).2.bare) := by
  unfold PS.put
  have e : whereOf p.bare.L k = whereOf p.L k := by show whereOf (p.L.map Fr.bare) k = _; rw [bare_where]
  rw [e]
  split
  · simp only [PS.bare, List.map_set]
  · rw [bare_place]
    simp only [PS.bare, List.map_set, Prod.mk.injEq, and_true]
    rw [List.getD_eq_getElem?_getD, List.getD_eq_getElem?_getD, List.getElem?_map]
    cases p.place.2.L[p.place.1]? <;> rfl

/-- The pool q lies in the blocks b, which are among those from B on; N bounds its map and its counts. -/
def PoolOf (w : World) (B : Nat) (b : PB) (N : Nat) (q : PS) : Prop :=
  ∃ p c, p.bare = q ∧ PoolAt w B b N c p ∧ Good p ∧ 0 ≤ p.hits ∧ 0 ≤ p.misses ∧ p.hits ≤ N ∧ p.misses ≤ N

section
variable {w w' : World} {B N : Nat} {b : PB} {q : PS}
theorem PoolAt.more {c : Nat} {p : PS} (h : PoolAt w B b N c p) : PoolAt w B b (N + 1) c p := by
  refine ⟨h.lp, h.lf, h.lm, h.head, h.frames, ?_, h.bytes, h.far⟩
  obtain ⟨D, ⟨es, clock, h1, h2, h3, h4⟩, r⟩ := h.map
  exact ⟨D, ⟨es, clock, h1, h2, by omega, h4⟩, r⟩
theorem PoolAt.kept {c : Nat} {p : PS} {S : Nat → Prop} (h : PoolAt w B b N c p) (h0 : 0 < p.L.length) (hk : Keeps w w' S) (hS : ∀ k, b.own k → ¬ S k) (hf : ∀ f ∈ p.L, ∀ a, f.A = some a → ¬ S a.block) : PoolAt w' B b N c p := by
  have hlt := h.toF.lt h0
  have e : ∀ k, b.own k → w'.heap[k]? = w.heap[k]? := fun k hk' => hk.block k (hlt k hk') (hS k hk')
  refine ⟨h.lp, h.lf, h.lm, (e _ (.inl rfl)).trans h.head, ?_, ?_, fun f hf' => (h.bytes f hf').kept hk (hf f hf'), h.far⟩
  · refine ⟨h.frames.1, ?_⟩
    rcases h.frames.2 with h2 | ⟨g, cap, cur, hv, hb, hg, r⟩
    · exact .inl h2
    · refine .inr ⟨g, cap, cur, hv, hb, ?_, r⟩
      simp only [Value.slice.injEq, Option.some.injEq, Addr.mk.injEq] at hv
      obtain ⟨⟨rfl, _⟩, _⟩ := hv
      exact (e _ (.inr (.inl rfl))).trans hg
  · obtain ⟨D, ⟨es, clock, h1, r⟩, r2⟩ := h.map
    exact ⟨D, ⟨es, clock, (e _ (.inr (.inr rfl))).trans h1, r⟩, r2⟩
theorem PoolOf.below (h : PoolOf w B b N q) (hb : Below w.heap.size w w') : PoolOf w' B b N q := by
  obtain ⟨p, c, e, h1, r⟩ := h
  exact ⟨p, c, e, h1.below hb, r⟩
theorem PoolOf.lt (h : PoolOf w B b N q) : ∀ k, b.own k → B ≤ k ∧ k < w.heap.size := by
  obtain ⟨p, c, e, h1, h2, r⟩ := h
  intro k hk
  refine ⟨?_, h1.toF.lt h2.n0 k hk⟩
  rcases hk with rfl | rfl | rfl
  · exact h1.lp
  · exact h1.lf
  · exact h1.lm
theorem PoolOf.good (h : PoolOf w B b N q) : Good q := by
  obtain ⟨p, c, rfl, h1, h2, r⟩ := h
  have hal : Alike p.L p.bare.L ∨ True := .inr trivial
  have hm : ∀ f ∈ p.bare.L, ∃ g ∈ p.L, f.page = g.page ∧ f.s = g.s := by
    intro f hf
    obtain ⟨g, hg, rfl⟩ := List.mem_map.1 hf
    exact ⟨g, hg, rfl, rfl⟩
  have hlen : p.bare.L.length = p.L.length := by simp [PS.bare]
  refine ⟨fun i j hi hj h0 he => ?_, fun f hf => ?_, by rw [hlen]; exact h2.n0, by rw [hlen]; exact h2.n1, by rw [hlen]; exact h2.hand, fun f hf => ?_⟩
  · simp only [PS.bare, List.getElem_map] at h0 he
    exact h2.once i j (by simpa [PS.bare] using hi) (by simpa [PS.bare] using hj) h0 he
  · obtain ⟨g, hg, e, _⟩ := hm f hf
    rw [e]; exact h2.pages g hg
  · obtain ⟨g, hg, _, e⟩ := hm f hf
    rw [e]; exact h2.bytes g hg
end

/-- What Get answers: the bytes, if the page is at hand; the pool behind it. -/
def PS.get (p : PS) (k : Int) : Option (List UInt8) × PS :=
  match whereOf p.L k with
  | some i => (some (p.L.getD i fr0).s, { p with hits := p.hits + 1, L := p.L.set i { p.L.getD i fr0 with mark := true } })
  | none => (none, { p with misses := p.misses + 1 })
def PS.drop (p : PS) (k : Int) : Bool × PS :=
  match whereOf p.L k with
  | some i => (true, { p with L := p.L.set i fr0 })
  | none => (false, p)
theorem bare_get (p : PS) (k : Int) : p.bare.get k = ((p.get k).1, (p.get k).2.bare) := by
  unfold PS.get
  have e : whereOf p.bare.L k = whereOf p.L k := by show whereOf (p.L.map Fr.bare) k = _; rw [bare_where]
  rw [e]
  split
  · rename_i i _
    have e2 : p.bare.L.getD i fr0 = (p.L.getD i fr0).bare := by
      simp only [PS.bare]
      rw [List.getD_eq_getElem?_getD, List.getD_eq_getElem?_getD, List.getElem?_map]
      cases p.L[i]? <;> rfl
    rw [e2]
    simp only [PS.bare, List.map_set]
    rfl
  · rfl
theorem bare_drop (p : PS) (k : Int) : p.bare.drop k = ((p.drop k).1, (p.drop k).2.bare) := by
  unfold PS.drop
  have e : whereOf p.bare.L k = whereOf p.L k := by show whereOf (p.L.map Fr.bare) k = _; rw [bare_where]
  rw [e]
  split
  · simp only [PS.bare, List.map_set]
    rfl
  · rfl
theorem bare_new (n : Nat) : (PS.new n).bare = PS.new n := by simp [PS.new, PS.bare, fr0, Fr.bare]

theorem Good.new (n : Nat) (h0 : 0 < n) (hn : n ≤ 64) : Good (PS.new n) := by
  refine ⟨fun i j hi hj h _ => ?_, fun f hf => .inl ?_, by simpa [PS.new] using h0, by simpa [PS.new] using hn, by simpa [PS.new] using h0, fun f hf => ?_⟩
  · simp [PS.new, fr0] at h
  · rw [List.eq_of_mem_replicate hf]; rfl
  · rw [List.eq_of_mem_replicate hf]; simp [fr0]
theorem new_of (w : World) (n : Nat) (h0 : 0 < n) (hn : n ≤ 64) :
    Calls Try.prog 9 #[.int .i64 n] w fun e w' => ∃ b : PB, e = .returned (.tuple #[.pointer (some ⟨b.gp, 0, none⟩), .int .i64 0]) ∧ PoolOf w' w.heap.size b 0 (PS.new n) ∧ Below w.heap.size w w' :=
  (new_any w n h0 hn).mono fun e w' ⟨b, c, he, hp, hb⟩ => ⟨b, he, ⟨PS.new n, c, bare_new n, hp, Good.new n h0 hn, by simp [PS.new], by simp [PS.new], by simp [PS.new], by simp [PS.new]⟩, hb⟩

/-- The same, and no frame's bytes lie in a block of X. -/
def PoolX (X : Nat → Prop) (w : World) (B : Nat) (b : PB) (N : Nat) (q : PS) : Prop :=
  ∃ p c, p.bare = q ∧ PoolAt w B b N c p ∧ Good p ∧ (0 ≤ p.hits ∧ 0 ≤ p.misses ∧ p.hits ≤ N ∧ p.misses ≤ N) ∧ ∀ f ∈ p.L, f.s ≠ [] → ∀ a, f.A = some a → ¬ X a.block
theorem PoolX.toOf {X : Nat → Prop} {w : World} {B N : Nat} {b : PB} {q : PS} (h : PoolX X w B b N q) : PoolOf w B b N q := by
  obtain ⟨p, c, h1, h2, h3, h4, _⟩ := h
  exact ⟨p, c, h1, h2, h3, h4⟩
theorem PoolOf.toX {X : Nat → Prop} {w : World} {B N : Nat} {b : PB} {q : PS} (h : PoolOf w B b N q) (hX : ∀ k, X k → w.heap.size ≤ k) : PoolX X w B b N q := by
  obtain ⟨p, c, h1, h2, h3, h4⟩ := h
  refine ⟨p, c, h1, h2, h3, h4, fun f hf hs a ha hx => ?_⟩
  have := hX _ hx
  obtain ⟨b', o, e, hlt, _⟩ := h2.bytes f hf (by cases h : f.s with | nil => exact absurd h hs | cons x l => simp)
  rw [ha] at e
  obtain rfl := Option.some.inj e
  simp only at this
  omega
theorem PoolX.below {X : Nat → Prop} {w w' : World} {B N : Nat} {b : PB} {q : PS} (h : PoolX X w B b N q) (hb : Below w.heap.size w w') : PoolX X w' B b N q := by
  obtain ⟨p, c, e, h1, r⟩ := h
  exact ⟨p, c, e, h1.below hb, r⟩
/-- What Put leaves. -/
def PutX (X : Nat → Prop) (w : World) (B : Nat) (b : PB) (N : Nat) (q : PS) (k : Int) (l : List UInt8) (e : Ending) (w' : World) : Prop :=
  e = .returned (.int .i64 (q.put k ⟨k, true, l, none, 0⟩).1) ∧ PoolX X w' B b (N + 1) (q.put k ⟨k, true, l, none, 0⟩).2 ∧ Keeps w w' b.own
def PutIs (w : World) (B : Nat) (b : PB) (N : Nat) (q : PS) (k : Int) (l : List UInt8) (e : Ending) (w' : World) : Prop :=
  e = .returned (.int .i64 (q.put k ⟨k, true, l, none, 0⟩).1) ∧ PoolOf w' B b (N + 1) (q.put k ⟨k, true, l, none, 0⟩).2 ∧ Keeps w w' b.own
theorem put_x (X : Nat → Prop) (w : World) (B N : Nat) (b : PB) (q : PS) (hP : PoolX X w B b N q) (hX : ∀ k, X k → k < w.heap.size) (hN : N < 1000000) (k : Int) (h1 : 0 ≤ k) (h2 : k ≤ 9223372036854775807)
    (A2 : Option Addr) (c2 : Nat) (l : List UInt8) (hr : BRow w A2 l) (hl : l.length ≤ 1000000) (hfar2 : l ≠ [] → ∀ a, A2 = some a → ¬ b.own a.block) :
    Calls Try.prog 10 #[.pointer (some ⟨b.gp, 0, none⟩), .int .i64 k, .slice A2 l.length c2] w (PutX X w B b N q k l) := by
  obtain ⟨p, c, rfl, hA, hG, ⟨g1, g2, g3, g4⟩, hfx⟩ := hP
  have hb : ∀ A' c', p.bare.put k ⟨k, true, l, none, 0⟩ = ((p.put k ⟨k, true, l, A', c'⟩).1, (p.put k ⟨k, true, l, A', c'⟩).2.bare) := fun A' c' => bare_put p k ⟨k, true, l, A', c'⟩
  cases hk : whereOf p.L k with
  | some i =>
    refine (put_hit w B N c b p hA hG k h1 h2 i hk A2 c2 l hr hl).mono fun e w' ⟨he, ⟨A', c', hp, hfa⟩, hK⟩ => ?_
    have e1 : p.put k ⟨k, true, l, A', c'⟩ = (-1, { p with L := p.L.set i ⟨k, true, l, A', c'⟩ }) := by unfold PS.put; rw [hk]
    have hg := hG.put h1 h2 ⟨k, true, l, A', c'⟩ rfl hl
    unfold PutX
    rw [hb A' c', e1]
    rw [e1] at hg
    refine ⟨he, ⟨_, c, rfl, hp.more, hg, ⟨g1, g2, by simp only; omega, by simp only; omega⟩, fun f hf hs a ha hx => ?_⟩, hK⟩
    rcases List.mem_or_eq_of_mem_set hf with h | h
    · exact hfx f h hs a ha hx
    · subst h
      have := hfa a ha
      have := hX _ hx
      omega
  | none =>
    refine (put_miss w B N c b p hA hG hN k h1 h2 hk A2 c2 l hr hl hfar2).mono fun e w' ⟨he, ⟨A', c', hp, hfa⟩, hK⟩ => ?_
    have e1 : p.put k ⟨k, true, l, A', c'⟩ = ((p.place.2.L.getD p.place.1 fr0).page, { p.place.2 with L := p.place.2.L.set p.place.1 ⟨k, true, l, A', c'⟩ }) := by unfold PS.put; rw [hk]
    have hg := hG.put h1 h2 ⟨k, true, l, A', c'⟩ rfl hl
    obtain ⟨hal, _, _, q1, q2⟩ := place_ok hG
    unfold PutX
    rw [hb A' c', e1]
    rw [e1] at hg
    refine ⟨he, ⟨_, c, rfl, hp, hg, ⟨by simp only; omega, by simp only; omega, by simp only; omega, by simp only; omega⟩, fun f hf hs a ha hx => ?_⟩, hK⟩
    rcases List.mem_or_eq_of_mem_set hf with h | h
    · obtain ⟨f', hf', _, es, eA⟩ := hal.mem h
      exact hfx f' hf' (es ▸ hs) a (eA ▸ ha) hx
    · subst h
      have := hfa a ha
      have := hX _ hx
      omega
theorem put_of (w : World) (B N : Nat) (b : PB) (q : PS) (hP : PoolOf w B b N q) (hN : N < 1000000) (k : Int) (h1 : 0 ≤ k) (h2 : k ≤ 9223372036854775807)
    (A2 : Option Addr) (c2 : Nat) (l : List UInt8) (hr : BRow w A2 l) (hl : l.length ≤ 1000000) (hfar2 : l ≠ [] → ∀ a, A2 = some a → ¬ b.own a.block) :
    Calls Try.prog 10 #[.pointer (some ⟨b.gp, 0, none⟩), .int .i64 k, .slice A2 l.length c2] w (PutIs w B b N q k l) :=
  (put_x (fun _ => False) w B N b q (hP.toX (fun _ h => h.elim)) (fun _ h => h.elim) hN k h1 h2 A2 c2 l hr hl hfar2).mono fun e w' ⟨h1, h2, h3⟩ => ⟨h1, h2.toOf, h3⟩

/-- What Get leaves. -/
def GetIs (w : World) (B : Nat) (b : PB) (N : Nat) (q : PS) (k : Int) (e : Ending) (w' : World) : Prop :=
  (∃ A' c', e = .returned (.tuple #[.slice A' ((q.get k).1.getD []).length c', .bool (q.get k).1.isSome]) ∧ BRow w' A' ((q.get k).1.getD []) ∧ ∀ a, A' = some a → w.heap.size ≤ a.block) ∧ PoolOf w' B b (N + 1) (q.get k).2 ∧ Keeps w w' b.own
theorem get_of (w : World) (B N : Nat) (b : PB) (q : PS) (hP : PoolOf w B b N q) (hN : N < 1000000) (k : Int) (h1 : -9223372036854775808 ≤ k) (h2 : k ≤ 9223372036854775807) :
    Calls Try.prog 11 #[.pointer (some ⟨b.gp, 0, none⟩), .int .i64 k] w (GetIs w B b N q k) := by
  obtain ⟨p, c, rfl, hA, hG, g1, g2, g3, g4⟩ := hP
  unfold GetIs
  rw [bare_get]
  cases hk : whereOf p.L k with
  | some i =>
    obtain ⟨hi, _, _⟩ := where_some hk
    have e0 : p.L.getD i fr0 = p.L[i] := by simp [hi]
    have e1 : p.get k = (some p.L[i].s, { p with hits := p.hits + 1, L := p.L.set i { p.L[i] with mark := true } }) := by unfold PS.get; rw [hk]; simp only [e0]
    rw [e1]
    have hm := Alike.mark p.L i hi true
    refine (get_hit w B N c b p hA hG.n1 k h1 h2 i hi hk ⟨g1, by omega⟩ (hG.bytes _ (List.getElem_mem hi))).mono fun e w' ⟨A', c', he, hbr, hp, hK⟩ => ⟨⟨A', c', he, hbr⟩, ⟨_, c, rfl, hp.more, ?_, by simp only; omega, by simp only; omega, by simp only; omega, by simp only; omega⟩, hK⟩
    refine ⟨hm.once hG.once, fun f hf => ?_, by simpa using hG.n0, by simpa using hG.n1, by simpa using hG.hand, fun f hf => ?_⟩
    · obtain ⟨g, hg, e, _⟩ := hm.mem hf
      rw [e]; exact hG.pages g hg
    · obtain ⟨g, hg, _, e, _⟩ := hm.mem hf
      rw [e]; exact hG.bytes g hg
  | none =>
    have e1 : p.get k = (none, { p with misses := p.misses + 1 }) := by unfold PS.get; rw [hk]
    rw [e1]
    refine (get_miss w B N c b p hA hG.n0 k h1 h2 hk ⟨g2, by omega⟩).mono fun e w' ⟨he, hp, hK⟩ => ⟨⟨none, 0, he, BRow.nil, fun a ha => by cases ha⟩, ⟨_, c, rfl, hp.more, ⟨hG.once, hG.pages, hG.n0, hG.n1, hG.hand, hG.bytes⟩, by simp only; omega, by simp only; omega, by simp only; omega, by simp only; omega⟩, hK⟩

/-- What Drop leaves. -/
def DropIs (w : World) (B : Nat) (b : PB) (N : Nat) (q : PS) (k : Int) (e : Ending) (w' : World) : Prop :=
  e = .returned (.bool (q.drop k).1) ∧ PoolOf w' B b (N + 1) (q.drop k).2 ∧ Keeps w w' b.own
theorem drop_of (w : World) (B N : Nat) (b : PB) (q : PS) (hP : PoolOf w B b N q) (k : Int) (h1 : -9223372036854775808 ≤ k) (h2 : k ≤ 9223372036854775807) :
    Calls Try.prog 14 #[.pointer (some ⟨b.gp, 0, none⟩), .int .i64 k] w (DropIs w B b N q k) := by
  obtain ⟨p, c, rfl, hA, hG, g1, g2, g3, g4⟩ := hP
  unfold DropIs
  rw [bare_drop]
  cases hk : whereOf p.L k with
  | some i =>
    obtain ⟨hi, _, _⟩ := where_some hk
    have e1 : p.drop k = (true, { p with L := p.L.set i fr0 }) := by unfold PS.drop; rw [hk]
    rw [e1]
    refine (drop_hit w B N c b p hA hG k h1 h2 i hk).mono fun e w' ⟨he, hp, hK⟩ => ⟨he, ⟨_, c, rfl, hp.more, hG.set hi fr0 (fun h => absurd h (by simp [fr0])) (.inl rfl) (by simp [fr0]), g1, g2, by simp only; omega, by simp only; omega⟩, hK⟩
  | none =>
    have e1 : p.drop k = (false, p) := by unfold PS.drop; rw [hk]
    rw [e1]
    refine (drop_miss w B N c b p hA k h1 h2 hk).mono fun e w' ⟨he, hw⟩ => ⟨he, ⟨p, c, rfl, hw ▸ hA.more, hG, g1, g2, by omega, by omega⟩, hw ▸ Keeps.refl _ _⟩
theorem pages_of (w : World) (B N : Nat) (b : PB) (q : PS) (hP : PoolOf w B b N q) :
    Calls Try.prog 12 #[.pointer (some ⟨b.gp, 0, none⟩)] w fun e w' => ∃ A' c', e = .returned (.slice A' q.L.length c') ∧ EOwn eInt w' w.heap.size A' c' (q.L.map (·.page)) ∧ Below w.heap.size w w' := by
  obtain ⟨p, c, rfl, hA, hG, _⟩ := hP
  have e : p.bare.L.map (·.page) = p.L.map (·.page) := by simp only [PS.bare, List.map_map]; rfl
  rw [e, show p.bare.L.length = p.L.length from by simp [PS.bare]]
  exact pages_any w B N c b p hA hG.n1
theorem counts_of (w : World) (B N : Nat) (b : PB) (q : PS) (hP : PoolOf w B b N q) :
    Calls Try.prog 19 #[.pointer (some ⟨b.gp, 0, none⟩)] w fun e w' => e = .returned (.tuple #[.int .i64 q.hits, .int .i64 q.misses]) ∧ Below w.heap.size w w' := by
  obtain ⟨p, c, rfl, hA, _⟩ := hP
  exact counts_any w B N c b p hA
end Go.Proofs.Ytjaopecjmmnbiaa
