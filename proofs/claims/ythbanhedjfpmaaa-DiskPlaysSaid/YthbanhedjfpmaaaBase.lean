/-
  Words on memory that all walks of this seat use: a row of values that a slice leads to, rows of bytes, rows of bytes of the call's own, how they are kept, and append.
-/
import Derived.WalkKit
import Derived.Lib.Hide
import Derived.Deep.QuietTactic
import Derived.Deep.RegionWith
import Derived.Deep.AppendLies
import Derived.Deep.DeepCutAuto
import Derived.Maps.AppendAt
import Derived.BigQuiet
import Derived.WalkSpells
import Derived.WalkLawsBesides
import Derived.Lib.SlBytesConst
import Derived.Lib.AppendStr
import Derived.Test.YthbanhedjfpmaaaProg
namespace Go.Proofs.Ythbanhedjfpmaaa
set_option linter.unusedSimpArgs false
set_option linter.unusedVariables false
open Go.RowKit

/-- The number of a uint64's values: behind a name, so that no tactic counts it. -/
def two64 : Nat := 18446744073709551616
theorem two64_eq : two64 = 18446744073709551616 := rfl

/-- The one-cell values xs lie behind the address A. -/
def Row (w : World) (A : Option Addr) (xs : List Value) : Prop :=
  0 < xs.length → ∃ b o, A = some ⟨b, o, none⟩ ∧ b < w.heap.size ∧ ∀ j (h : j < xs.length), w.cell? ⟨b, o + j, none⟩ = some xs[j]
/-- A byte as a value. -/
def bv (c : UInt8) : Value := .int .u8 (c.toNat : Int)
/-- The bytes l lie behind the address A. -/
def BRow (w : World) (A : Option Addr) (l : List UInt8) : Prop := Row w A (l.map bv)
/-- The slice at A, of room c, owns the bytes l, among the blocks from B on. -/
def BOwn (w : World) (B : Nat) (A : Option Addr) (c : Nat) (l : List UInt8) : Prop := w.ownsRow B 5 1 (.slice A l.length c) l.length (l.map bv)
/-- A text. -/
def txt (l : List UInt8) : Value := .string ⟨l.toArray⟩

section
variable {w w' : World} {A : Option Addr} {xs : List Value} {l : List UInt8}
theorem Row.nil : Row w A [] := fun h => absurd h (by simp)
theorem Row.at_ {k : Nat} (h : Row w A xs) (hk : k < xs.length) : ∃ b o, A = some ⟨b, o, none⟩ ∧ b < w.heap.size ∧ w.cell? ⟨b, o + k, none⟩ = some xs[k] := by
  obtain ⟨b, o, e, hb, hc⟩ := h (by omega)
  exact ⟨b, o, e, hb, hc k hk⟩
theorem BRow.nil : BRow w A [] := Row.nil
theorem BRow.at_ {k : Nat} (h : BRow w A l) (hk : k < l.length) : ∃ b o, A = some ⟨b, o, none⟩ ∧ b < w.heap.size ∧ w.cell? ⟨b, o + k, none⟩ = some (.int .u8 (l[k].toNat : Int)) := by
  obtain ⟨b, o, e, hb, hc⟩ := Row.at_ (k := k) h (by simpa using hk)
  exact ⟨b, o, e, hb, by simpa [bv] using hc⟩
theorem Row.below (h : Row w A xs) (hb : Below w.heap.size w w') : Row w' A xs := fun hl => by
  obtain ⟨b, o, e, hlt, hc⟩ := h hl
  exact ⟨b, o, e, Nat.lt_of_lt_of_le hlt hb.size, fun j hj => (hb.cell (p := ⟨b, o + j, none⟩) hlt).trans (hc j hj)⟩
theorem BRow.below (h : BRow w A l) (hb : Below w.heap.size w w') : BRow w' A l := Row.below h hb
theorem Row.drew (h : Row w A xs) : Row w.drew A xs := h
theorem BRow.drew (h : BRow w A l) : BRow w.drew A l := h
theorem Row.alloc (h : Row w A xs) (o : Obj) : Row (w.alloc o) A xs := h.below ((Below.refl _ _).alloc (Nat.le_refl _) o)
theorem BRow.alloc (h : BRow w A l) (o : Obj) : BRow (w.alloc o) A l := Row.alloc h o
theorem Row.new (w : World) (xs : List Value) (t : TypeId) : Row (w.alloc (.cells xs.toArray t)) (some ⟨w.heap.size, 0, none⟩) xs := fun _ =>
  ⟨w.heap.size, 0, rfl, by simp, fun j hj => by simp [hj]⟩
theorem Row.newMark (w : World) (xs : List Value) (t : TypeId) (fr : Nat × Nat) : Row (w.alloc (.cells xs.toArray t fr)) (some ⟨w.heap.size, 0, none⟩) xs := fun _ =>
  ⟨w.heap.size, 0, rfl, by simp, fun j hj => by rw [World.cell?_alloc_mark]; simp [hj]⟩
theorem BRow.one (w : World) (c : UInt8) (v : Value) (t : TypeId) (h : bv c = v) : BRow (w.alloc (.cells #[v] t)) (some ⟨w.heap.size, 0, none⟩) [c] := by
  subst h
  exact Row.new w [bv c] t
/-- A cut of a row. -/
theorem Row.take (h : Row w A xs) (k : Nat) : Row w A (xs.take k) := fun hl => by
  have hk : 0 < xs.length := by rw [List.length_take] at hl; omega
  obtain ⟨b, o, e, hb, hc⟩ := h hk
  exact ⟨b, o, e, hb, fun j hj => by rw [hc j (by rw [List.length_take] at hj; omega)]; simp⟩
theorem BRow.take (h : BRow w A l) (k : Nat) : BRow w A (l.take k) := by
  have := Row.take h k
  rwa [← List.map_take] at this
theorem Row.drop (h : Row w A xs) (k : Nat) : Row w (A.map fun x => x.add k) (xs.drop k) := fun hl => by
  have hk : k < xs.length := by rw [List.length_drop] at hl; omega
  obtain ⟨b, o, rfl, hb, hc⟩ := h (by omega)
  refine ⟨b, o + k, by simp [Addr.add_lit], hb, fun j hj => ?_⟩
  rw [Nat.add_assoc, hc (k + j) (by rw [List.length_drop] at hj; omega)]
  simp
theorem BRow.drop (h : BRow w A l) (k : Nat) : BRow w (A.map fun x => x.add k) (l.drop k) := by
  have := Row.drop h k
  rwa [← List.map_drop] at this
theorem Row.far (h : Row w A xs) {p : Addr} (hne : ∀ a, A = some a → a.block ≠ p.block) (u : Value) : Row (w.setCell p u) A xs := fun hl => by
  obtain ⟨b, o, rfl, hlt, hc⟩ := h hl
  refine ⟨b, o, rfl, by simpa using hlt, fun j hj => ?_⟩
  rw [World.cell?_setCell_other w p ⟨b, o + j, none⟩ u (fun e => hne _ rfl (by rw [e]))]
  exact hc j hj
theorem BRow.far (h : BRow w A l) {p : Addr} (hne : ∀ a, A = some a → a.block ≠ p.block) (u : Value) : BRow (w.setCell p u) A l := Row.far h hne u
theorem Row.keep (h : Row w A xs) (hs : w.heap.size ≤ w'.heap.size) (hk : ∀ a, A = some a → ∀ j, w'.cell? ⟨a.block, j, none⟩ = w.cell? ⟨a.block, j, none⟩) : Row w' A xs := fun hl => by
  obtain ⟨b, o, rfl, hlt, hc⟩ := h hl
  exact ⟨b, o, rfl, by omega, fun j hj => (hk _ rfl (o + j)).trans (hc j hj)⟩
theorem BRow.lt (h : BRow w A l) (hl : 0 < l.length) : ∃ b o, A = some ⟨b, o, none⟩ ∧ b < w.heap.size := by
  obtain ⟨b, o, e, hb, _⟩ := h (by simpa using hl)
  exact ⟨b, o, e, hb⟩
theorem one_bytes (l : List UInt8) : ∀ u ∈ l.map bv, u.oneCell' = true := by
  intro u hu
  obtain ⟨_, _, rfl⟩ := List.mem_map.1 hu
  rfl

variable {B c : Nat}
theorem BOwn.form (h : BOwn w B A c l) : (A = none ∧ c = 0 ∧ l = []) ∨ ∃ g, A = some ⟨g, 0, none⟩ ∧ B ≤ g ∧ g < w.heap.size ∧ l.length ≤ c ∧ c ≤ maxLen := by
  rcases h.2 with ⟨hv, h0⟩ | ⟨g, cap, cur, hv, hb, hg, hn, hm, _⟩
  · simp only [Value.slice.injEq] at hv
    exact .inl ⟨hv.1, hv.2.2, List.eq_nil_of_length_eq_zero h0⟩
  · simp only [Value.slice.injEq] at hv
    obtain ⟨rfl, _, rfl⟩ := hv
    exact .inr ⟨g, rfl, hb, (Array.getElem?_eq_some_iff.1 hg).1, hn, hm⟩
theorem BOwn.block (h : BOwn w B A c l) : ∀ a, A = some a → B ≤ a.block ∧ a.block < w.heap.size := by
  intro a ha
  rcases h.form with ⟨rfl, _⟩ | ⟨g, rfl, h1, h2, _⟩
  · cases ha
  · obtain rfl := Option.some.inj ha
    exact ⟨h1, h2⟩
theorem BOwn.cap (h : BOwn w B A c l) : l.length ≤ c := by
  rcases h.form with ⟨_, _, rfl⟩ | ⟨_, _, _, _, h, _⟩
  · simp
  · exact h
theorem BOwn.row (h : BOwn w B A c l) : BRow w A l := fun hl => by
  rcases h.form with ⟨_, _, rfl⟩ | ⟨g, rfl, _, hlt, _⟩
  · simp at hl
  · refine ⟨g, 0, rfl, hlt, fun j hj => ?_⟩
    have := h.cells (g := g) rfl j _ (List.getElem?_eq_getElem hj)
    simpa [Addr.add_lit] using this
theorem BOwn.nil (w : World) (B : Nat) : BOwn w B none 0 [] := World.ownsRow_nil _ _ _ _
theorem BOwn.drew (h : BOwn w B A c l) : BOwn w.drew B A c l := h
theorem BOwn.alloc (h : BOwn w B A c l) (o : Obj) : BOwn (w.alloc o) B A c l := World.ownsRow.alloc h o
theorem BOwn.kept {row : Option Nat} (h : BOwn w B A c l) (hg : w.grownBy w' row) (hne : A.map (·.block) = none ∨ A.map (·.block) ≠ row) : BOwn w' B A c l :=
  World.ownsRow.kept h hg (by
    cases A with
    | none => simp [Value.ownBlock]
    | some a => simpa [Value.ownBlock] using hne)
theorem BOwn.below (h : BOwn w B A c l) (hb : Below w.heap.size w w') : BOwn w' B A c l := by
  refine World.ownsRow.kept (row := none) h ⟨hb.os, hb.tape, hb.output, hb.size, fun k hk _ => hb.block k hk⟩ ?_
  cases h2 : Value.ownBlock (.slice A l.length c) <;> simp
theorem BOwn.below_grown (h : BOwn w B A c l) (hg : w.grownBy w' (A.map (·.block))) (hB : B ≤ w.heap.size) : Below B w w' :=
  (Below.refl B w).grown hg hB fun k hk => by
    rcases h.form with ⟨rfl, _⟩ | ⟨g, rfl, hb, _⟩
    · simp at hk
    · simp at hk; omega
theorem BOwn.new (w : World) (l : List UInt8) (hm : l.length ≤ maxLen) (hB : B ≤ w.heap.size) : BOwn (w.alloc (.cells (l.map bv).toArray 5)) B (some ⟨w.heap.size, 0, none⟩) l.length l := by
  have := World.ownsRow_lit (e := 5) (size := 1) w (l.map bv).toArray l.length hB hm (by simp)
  simpa [BOwn] using this
theorem BOwn.cell {g j : Nat} (h : BOwn w B (some ⟨g, 0, none⟩) c l) (hj : j < l.length) : w.cell? ⟨g, j, none⟩ = some (.int .u8 (l[j].toNat : Int)) := by
  have := World.ownsRow.cellAt h j (by omega)
  rw [this]
  simp [hj, bv]
theorem BOwn.free {g : Nat} (h : BOwn w B (some ⟨g, 0, none⟩) c l) (j : Nat) : w.frozen? ⟨g, j, none⟩ = false := World.ownsRow.frozenAt h j
theorem BOwn.store {g : Nat} (h : BOwn w B (some ⟨g, 0, none⟩) c l) (j : Nat) (x : UInt8) (v : Value) (hv : bv x = v) : BOwn (w.setCell ⟨g, j, none⟩ v) B (some ⟨g, 0, none⟩) c (l.set j x) := by
  subst hv
  have := (World.ownsRow.stored h j (bv x)).1
  unfold BOwn
  rw [List.map_set, List.length_set]
  exact this
theorem BOwn.mono {B' : Nat} (h : BOwn w B A c l) (hB : B' ≤ B) : BOwn w B' A c l := by
  refine ⟨h.1, ?_⟩
  rcases h.2 with h2 | ⟨g, cap, cur, hv, hb, r⟩
  · exact .inl h2
  · exact .inr ⟨g, cap, cur, hv, by omega, r⟩
end

/-- The bytes of a slice that came in. -/
theorem bytes_in {w : World} {x : Addr} {len cap : Nat} {zs : List Int} (hl : len ≤ cap) (hz : zs.length = cap) (hcell : ∀ i, i < zs.length → w.cell? (x.add i) = some (.int .u8 (zs.getD i 0)))
    (hwz : ∀ n ∈ zs, (Lit.int .u8 n).wf = true) : ∃ l : List UInt8, l.length = len ∧ BRow w (some x) l := by
  refine ⟨(zs.take len).map fun n => UInt8.ofNat n.toNat, by simp; omega, fun h => ?_⟩
  have hpos : 0 < zs.length := by simp at h; omega
  have h0 := hcell 0 hpos
  obtain ⟨b, o, sp⟩ := x
  have hsp : sp = none := by simpa [Addr.add] using World.cell?_spot h0
  subst hsp
  refine ⟨b, o, rfl, World.block_lt_of_cell? w _ h0, fun j hj => ?_⟩
  have hj' : j < zs.length := by simp at hj; omega
  have := hcell j hj'
  rw [Addr.add_lit] at this
  rw [this]
  have hw := hwz zs[j] (List.getElem_mem hj')
  have hb : 0 ≤ zs[j] ∧ zs[j] ≤ 255 := by
    simp [Lit.wf, IntKind.min, IntKind.max, IntKind.signed, IntKind.bits] at hw
    omega
  simp [bv, hj']
  omega

/-! Laws at the operations -/
section
variable {P : Program} (w : World)
theorem run_append_of_none (base : Nat) (t ty e : TypeId) (i : TypeInfo) (size : Nat) (ht : P.underlying t = some (.slice e)) (hi : P.info? e = some i)
    (v : Value) (n : Nat) (xs : List Value) (hown : w.ownsRow base e size v n xs) (c : Nat) : (Builtin.append_ #[t, t] ty #[v, .slice none 0 c]).run P w = .ok v w := by
  rcases hown.2 with ⟨rfl, rfl⟩ | ⟨g, cap, cur, rfl, _, _, hnc, _⟩
  · simp [Builtin.append_, run_underlying ht, sizeOf, typeInfo, hi, Builtin.lenOf, Builtin.firstCells]
  · simp [Builtin.append_, run_underlying ht, sizeOf, typeInfo, hi, Builtin.lenOf, Builtin.firstCells, hnc, storeCells]

/-- append of a row, nil, empty or not, to a row of the call's own. -/
theorem run_append_row (base : Nat) (t ty e : TypeId) (i : TypeInfo) (z : Value) (bytes : Nat) (ht : P.underlying t = some (.slice e)) (hi : P.info? e = some i) (hz : i.zero = some z)
    (hsize : i.size = 1) (hby : i.bytes = bytes) (hzs : z.cells.size = 1)
    (v : Value) (n : Nat) (xs : List Value) (hown : w.ownsRow base e 1 v n xs)
    (A : Option Addr) (c : Nat) (news : List Value) (hr : Row w A news) (h1 : ∀ u ∈ news, u.oneCell' = true)
    (h63 : n + news.length ≤ maxLen) (hbytes : (n + news.length) * bytes ≤ 140737488355328) (hbase : base ≤ w.heap.size) :
    ∃ v' w', (Builtin.append_ #[t, t] ty #[v, .slice A news.length c]).run P w = .ok v' w' ∧ w'.ownsRow base e 1 v' (n + news.length) (xs ++ news) ∧ w.grownBy w' v.ownBlock ∧
      (v'.ownBlock = v.ownBlock ∨ v'.ownBlock = some w.heap.size) := by
  rcases A with _ | ad
  · have hm : news = [] := by
      cases news with
      | nil => rfl
      | cons x news => obtain ⟨b, o, h, _⟩ := hr (by simp); cases h
    subst hm
    exact ⟨v, w, run_append_of_none w base t ty e i 1 ht hi v n xs hown c, by simpa using hown, World.grownBy.refl w _, .inl rfl⟩
  · have hcells : ∀ j u, news[j]? = some u → w.cell? (ad.add j) = some u := by
      intro j u hu
      have hj := (List.getElem?_eq_some_iff.1 hu)
      obtain ⟨b, o, h, _, hc⟩ := hr (by have := hj.1; omega)
      obtain rfl := Option.some.inj h
      rw [Addr.add_lit, hc j hj.1, hj.2]
    obtain ⟨v', w', hrun, h2, h3, _, h5⟩ := run_append_own_at (P := P) w base t ty e i z 1 bytes ht hi hz hsize hby hzs (by omega) v n xs hown ad news.length c news (by simp) hcells h1 h63 hbytes hbase
    exact ⟨v', w', hrun, h2, h3, h5⟩

theorem own_slice {base : Nat} {e : TypeId} {size n : Nat} {v : Value} {xs : List Value} {w : World} (h : w.ownsRow base e size v n xs) : ∃ A c, v = .slice A n c := by
  rcases h.2 with ⟨rfl, rfl⟩ | ⟨g, cap, cur, rfl, _⟩
  · exact ⟨_, _, rfl⟩
  · exact ⟨_, _, rfl⟩

theorem own_block (A : Option Addr) (n c : Nat) : Value.ownBlock (.slice A n c) = A.map (·.block) := by cases A <;> rfl
end

/-! Bytes of this program -/
theorem info8 : (Try.prog.info? 5).map (fun i => (i.zero, i.size, i.bytes)) = some (some (.int .u8 0), 1, 1) := by kernel_rfl

section
variable {w : World} {l m : List UInt8} {A A' : Option Addr} {B c c' : Nat}
theorem run_append_bytes (ty : TypeId) (ho : BOwn w B A c l) (hr : BRow w A' m) (hb : l.length + m.length ≤ 140737488355328) (hB : B ≤ w.heap.size) :
    ∃ A1 c1 w1, (Builtin.append_ #[33, 33] ty #[.slice A l.length c, .slice A' m.length c']).run Try.prog w = .ok (.slice A1 (l.length + m.length) c1) w1 ∧ BOwn w1 B A1 c1 (l ++ m) ∧
      w.grownBy w1 (A.map (·.block)) ∧ (A1.map (·.block) = A.map (·.block) ∨ A1.map (·.block) = some w.heap.size) := by
  obtain ⟨i, hi, hz, hs, hby⟩ := info_parts info8
  obtain ⟨v', w', hrun, h2, h3, h4⟩ := run_append_row (P := Try.prog) w B 33 ty 5 i _ 1 Try.underlying33 hi hz hs hby rfl _ _ _ ho A' c' (m.map bv) hr (one_bytes m)
    (by simp [maxLen]; omega) (by simp; omega) hB
  simp only [List.length_map] at hrun h2
  obtain ⟨A1, c1, rfl⟩ := own_slice h2
  refine ⟨A1, c1, w', hrun, ?_, by simpa [own_block] using h3, by simpa [own_block] using h4⟩
  simpa [BOwn] using h2

theorem wp_append_bytes {o : Oper} {a : Act} {K : Act → World → Prop} {Q : Exit → Act → World → Prop} (s x : Operand)
    (hop : o.op = .call { callee := .builtin .append, args := #[s, x], argTypes := #[33, 33] })
    (n : Nat) (hs : a.eval s = .slice A n c) (ho : BOwn w B A c l) (hn : n = l.length) (k : Nat) (hx : a.eval x = .slice A' k c') (hr : BRow w A' m) (hk : k = m.length)
    (hb : l.length + m.length ≤ 140737488355328) (hB : B ≤ w.heap.size)
    (h : ∀ A1 c1 w1, BOwn w1 B A1 c1 (l ++ m) → Below B w w1 → w.grownBy w1 (A.map (·.block)) → (A1.map (·.block) = A.map (·.block) ∨ A1.map (·.block) = some w.heap.size) →
      K (a.put o.dst (.slice A1 (l.length + m.length) c1)) w1) : o.wp Try.prog a w K Q := by
  subst hn hk
  obtain ⟨A1, c1, w1, hrun, h2, h3, h4⟩ := run_append_bytes (c' := c') o.type ho hr hb hB
  unfold Oper.wp execOp
  simp only [hop, resolve, invoke, builtin, Sem.run_bind, Sem.run_pure, Result.andThen_ok, List.map_toArray, List.map_cons, List.map_nil, hs, hx, hrun]
  exact h A1 c1 w1 h2 (ho.below_grown h3 hB) h3 h4

theorem wpList_append_bytes {ops : Array Oper} {rest : List Oper} {o : Oper} {a : Act} {Q : Exit → Act → World → Prop} (hgd : o.guard = none) (s x : Operand)
    (hop : o.op = .call { callee := .builtin .append, args := #[s, x], argTypes := #[33, 33] })
    (n : Nat) (hs : a.eval s = .slice A n c) (ho : BOwn w B A c l) (hn : n = l.length) (k : Nat) (hx : a.eval x = .slice A' k c') (hr : BRow w A' m) (hk : k = m.length)
    (hb : l.length + m.length ≤ 140737488355328) (hB : B ≤ w.heap.size)
    (h : ∀ A1 c1 w1, BOwn w1 B A1 c1 (l ++ m) → Below B w w1 → w.grownBy w1 (A.map (·.block)) → (A1.map (·.block) = A.map (·.block) ∨ A1.map (·.block) = some w.heap.size) →
      wpList Try.prog ops Q rest (a.put o.dst (.slice A1 (l.length + m.length) c1)) w1) : wpList Try.prog ops Q (o :: rest) a w :=
  wpList_plain hgd fun _ hK => wp_append_bytes s x hop n hs ho hn k hx hr hk hb hB fun A1 c1 w1 h2 h3 h4 h5 => hK _ _ (h A1 c1 w1 h2 h3 h4 h5)

/-- append(bytes, text...) -/
theorem wpList_append_text {ops : Array Oper} {rest : List Oper} {o : Oper} {a : Act} {Q : Exit → Act → World → Prop} (hgd : o.guard = none) (s x : Operand)
    (hop : o.op = .call { callee := .builtin .append, args := #[s, x], argTypes := #[33, 9] })
    (n : Nat) (hs : a.eval s = .slice A n c) (ho : BOwn w B A c l) (hn : n = l.length) (hx : a.eval x = txt m)
    (hb : l.length + m.length ≤ 140737488355328) (hB : B ≤ w.heap.size)
    (h : ∀ A1 c1 w1, BOwn w1 B A1 c1 (l ++ m) → Below B w w1 → wpList Try.prog ops Q rest (a.put o.dst (.slice A1 (l.length + m.length) c1)) w1) : wpList Try.prog ops Q (o :: rest) a w := by
  subst hn
  obtain ⟨i, hi, hz, hsi, hby⟩ := info_parts info8
  have hsz : (ByteArray.mk m.toArray).size = m.length := by simp [ByteArray.size]
  refine Lib.wpList_append_own_string w hgd s x 33 9 hop B 5 i Try.underlying33 Try.underlying9 hi hz hsi hby _ _ _ hs ho ⟨m.toArray⟩ hx (by rw [hsz]; simp [maxLen]; omega) (by rw [hsz]; exact hb) hB fun v' w1 h1 h2 _ => ?_
  rw [hsz] at h1
  obtain ⟨A1, c1, rfl⟩ := own_slice h1
  refine h A1 c1 w1 ?_ (ho.below_grown (by simpa [own_block] using h2) hB)
  have e : Lib.strCells ⟨m.toArray⟩ = m.map bv := rfl
  rw [e] at h1
  simpa [BOwn] using h1

/-- make([]byte, 0, n) -/
theorem wpList_make_bytes {ops : Array Oper} {rest : List Oper} {o : Oper} {a : Act} {Q : Exit → Act → World → Prop} (hgd : o.guard = none) (x y : Operand) (hop : o.op = .makeSlice 33 x y)
    (kl kc : IntKind) (C : Int) (n : Nat) (hx : a.eval x = .int kl 0) (hy : a.eval y = .int kc C) (hC : C = (n : Int)) (hb : n ≤ 281474976710656) (hB : B ≤ w.heap.size)
    (h : ∀ w1, BOwn w1 B (some ⟨w.heap.size, 0, none⟩) n [] → Below w.heap.size w w1 → wpList Try.prog ops Q rest (a.put o.dst (.slice (some ⟨w.heap.size, 0, none⟩) 0 n)) w1) :
    wpList Try.prog ops Q (o :: rest) a w := by
  obtain ⟨i, hi, hz, hs, hby⟩ := info_parts info8
  refine wpList_make_own w hgd x y 33 hop B 5 i _ 1 Try.underlying33 hi hz hs kl kc C n hx hy hC (by rw [hby]; omega) (by simp [maxLen]; omega) hB fun w1 h1 h2 => ?_
  exact h w1 h1 ((Below.refl _ w).grown h2 (Nat.le_refl _) (fun k hk => by cases hk))
/-- make([]byte, n) -/
theorem wpList_make_zeros {ops : Array Oper} {rest : List Oper} {o : Oper} {a : Act} {Q : Exit → Act → World → Prop} (hgd : o.guard = none) (x y : Operand) (hop : o.op = .makeSlice 33 x y)
    (kl kc : IntKind) (L C : Int) (n : Nat) (hx : a.eval x = .int kl L) (hy : a.eval y = .int kc C) (hL : L = (n : Int)) (hC : C = (n : Int)) (hb : n ≤ 281474976710656) (hB : B ≤ w.heap.size)
    (h : ∀ w1, BOwn w1 B (some ⟨w.heap.size, 0, none⟩) n (List.replicate n 0) → Below w.heap.size w w1 → wpList Try.prog ops Q rest (a.put o.dst (.slice (some ⟨w.heap.size, 0, none⟩) n n)) w1) :
    wpList Try.prog ops Q (o :: rest) a w := by
  obtain ⟨i, hi, hz, hs, hby⟩ := info_parts info8
  refine wpList_make_full w hgd x y 33 hop B 5 i _ 1 Try.underlying33 hi hz hs kl kc L C n hx hy hL hC (by rw [hby]; omega) (by simp [maxLen]; omega) hB fun w1 h1 h2 => ?_
  refine h w1 ?_ ((Below.refl _ w).grown h2 (Nat.le_refl _) (fun k hk => by cases hk))
  have e : (madeCells (Value.int .u8 0).cells (n * 1)).toList = (List.replicate n (0 : UInt8)).map bv := by
    rw [Nat.mul_one]
    show (madeCells #[Value.int .u8 0] n).toList = _
    rw [toList_madeCells_one, List.map_replicate]
    rfl
  rw [e] at h1
  simpa [BOwn] using h1

/-- string(bytes). -/
theorem run_string_bytes (w : World) {A : Option Addr} {l : List UInt8} (c : Nat) (h : BRow w A l) : (convert 33 9 (.slice A l.length c)).run Try.prog w = .ok (txt l) w := by
  rcases A with _ | a
  · have : l = [] := by
      cases l with
      | nil => rfl
      | cons x l => obtain ⟨b, o, h, _⟩ := h (by simp); cases h
    subst this
    exact run_convert_bytes_nil w 33 5 Try.underlying33 Try.underlying5 0 c 9 Try.underlying9
  · refine run_convert_bytes_back w 33 9 5 a c l Try.underlying33 Try.underlying5 Try.underlying9 fun j hj => ?_
    obtain ⟨b, o, h, _, hc⟩ := h (by simpa using (by omega : 0 < l.length))
    obtain rfl := Option.some.inj h
    have := hc j (by simpa using hj)
    rw [Addr.add_lit]
    simpa [bv] using this
end

/-- []byte of a constant text. -/
theorem run_const_bytes (w : World) (C : Array Value) (g n c : Nat) (hg : g = w.heap.size) :
    (convert 33 33 (.slice (some ⟨g, 0, none⟩) n c)).run Try.prog (w.alloc (.cells C 5)) = .ok (.slice (some ⟨g, 0, none⟩) n c) (w.alloc (.cells C 5 (C.size, C.size + 1))) := by
  subst hg
  exact Lib.run_convert_bytes_const (P := Try.prog) w 33 5 C n c Try.underlying33 Try.underlying5

/-- What a call answers that hands back new bytes and leaves all that was there alone. -/
def RetB (W : World) (l : List UInt8) (e : Ending) (w' : World) : Prop :=
  ∃ A c, e = .returned (.slice A l.length c) ∧ BOwn w' W.heap.size A c l ∧ Below W.heap.size W w'
end Go.Proofs.Ythbanhedjfpmaaa
