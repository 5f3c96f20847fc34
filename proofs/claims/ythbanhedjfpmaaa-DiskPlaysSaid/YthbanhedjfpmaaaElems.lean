/-
  Rows of elements of any type whose values are known cells: rows that are read, rows of the call's own, append to these, stores.
-/
import Derived.Test.YthbanhedjfpmaaaBase
import Derived.Lib.AppendZeros
namespace Go.Proofs.Ythbanhedjfpmaaa
set_option linter.unusedSimpArgs false
set_option linter.unusedVariables false
open Go.RowKit

/-- A kind of element: its type, the slice's type, how many cells, which. -/
structure Elem (α : Type) where
  e : TypeId
  t : TypeId
  sz : Nat
  bytes : Nat
  zero : Value
  code : α → List Value
  pos : 0 < sz
  few : bytes ≤ 65536
  len : ∀ x, (code x).length = sz
  one : ∀ x, ∀ u ∈ code x, u.oneCell' = true
  zsz : zero.cells.size = sz
  info : (Try.prog.info? e).map (fun i => (i.zero, i.size, i.bytes)) = some (some zero, sz, bytes)
  under : Try.prog.underlying t = some (.slice e)

section
variable {α : Type} (E : Elem α)
def Elem.cells (L : List α) : List Value := L.flatMap E.code
theorem Elem.cells_length (L : List α) : (E.cells L).length = L.length * E.sz := by
  induction L with
  | nil => simp [Elem.cells]
  | cons x L ih =>
    show (E.code x ++ E.cells L).length = _
    rw [List.length_append, ih, E.len, List.length_cons, Nat.succ_mul]
    omega
theorem Elem.cells_append (L M : List α) : E.cells (L ++ M) = E.cells L ++ E.cells M := by simp [Elem.cells]
theorem Elem.cells_one (L : List α) : ∀ u ∈ E.cells L, u.oneCell' = true := by
  intro u hu
  obtain ⟨f, _, hf⟩ := List.mem_flatMap.1 hu
  exact E.one f u hf
theorem Elem.cells_get : ∀ (L : List α) (j k : Nat) (h : j < L.length), k < E.sz → (E.cells L)[j * E.sz + k]? = (E.code L[j])[k]?
  | [], j, k, h, _ => by simp at h
  | x :: L, 0, k, h, hk => by
    show (E.code x ++ E.cells L)[0 * E.sz + k]? = _
    rw [Nat.zero_mul, Nat.zero_add, List.getElem?_append_left (by rw [E.len]; exact hk)]
    rfl
  | x :: L, j + 1, k, h, hk => by
    have ih := Elem.cells_get L j k (by simpa using h) hk
    show (E.code x ++ E.cells L)[(j + 1) * E.sz + k]? = _
    rw [List.getElem?_append_right (by rw [E.len, Nat.succ_mul]; omega), E.len, show (j + 1) * E.sz + k - E.sz = j * E.sz + k from by rw [Nat.succ_mul]; omega]
    exact ih
theorem Elem.cells_set : ∀ (L : List α) (j k : Nat) (h : j < L.length) (x : α) (v : Value), k < E.sz → E.code x = (E.code L[j]).set k v → E.cells (L.set j x) = (E.cells L).set (j * E.sz + k) v
  | [], j, k, h, _, _, _, _ => by simp at h
  | y :: L, 0, k, h, x, v, hk, hx => by
    show E.code x ++ E.cells L = (E.code y ++ E.cells L).set (0 * E.sz + k) v
    rw [hx, Nat.zero_mul, Nat.zero_add, List.set_append_left _ _ (by rw [E.len]; exact hk)]
    rfl
  | y :: L, j + 1, k, h, x, v, hk, hx => by
    have ih := Elem.cells_set L j k (by simpa using h) x v hk hx
    show E.code y ++ E.cells (L.set j x) = (E.code y ++ E.cells L).set ((j + 1) * E.sz + k) v
    rw [List.set_append_right _ _ (by rw [E.len, Nat.succ_mul]; omega), E.len, show (j + 1) * E.sz + k - E.sz = j * E.sz + k from by rw [Nat.succ_mul]; omega, ih]

/-- The elements L lie behind the address A. -/
def ERow (w : World) (A : Option Addr) (L : List α) : Prop :=
  0 < L.length → ∃ b o, A = some ⟨b, o, none⟩ ∧ b < w.heap.size ∧ ∀ i u, (E.cells L)[i]? = some u → w.cell? ⟨b, o + i, none⟩ = some u
/-- The slice at A, of room c, owns the elements L, among the blocks from B on. -/
def EOwn (w : World) (B : Nat) (A : Option Addr) (c : Nat) (L : List α) : Prop := w.ownsRow B E.e E.sz (.slice A L.length c) L.length (E.cells L)

variable {E} {w w' : World} {B c : Nat} {A : Option Addr} {L M : List α}
theorem ERow.nil : ERow E w A ([] : List α) := fun h => absurd h (by simp)
theorem ERow.below (h : ERow E w A L) (hb : Below w.heap.size w w') : ERow E w' A L := fun hl => by
  obtain ⟨b, o, e, hlt, hc⟩ := h hl
  exact ⟨b, o, e, Nat.lt_of_lt_of_le hlt hb.size, fun i u hu => (hb.cell (p := ⟨b, o + i, none⟩) hlt).trans (hc i u hu)⟩
theorem ERow.keep (h : ERow E w A L) (hs : w.heap.size ≤ w'.heap.size) (hk : ∀ a, A = some a → a.block < w.heap.size → w'.heap[a.block]? = w.heap[a.block]?) : ERow E w' A L := fun hl => by
  obtain ⟨b, o, rfl, hlt, hc⟩ := h hl
  exact ⟨b, o, rfl, by omega, fun i u hu => (World.cell?_of_block (a := ⟨b, o + i, none⟩) (hk ⟨b, o, none⟩ rfl hlt)).trans (hc i u hu)⟩
theorem ERow.at_ (h : ERow E w A L) {j : Nat} (hj : j < L.length) : ∃ b o, A = some ⟨b, o, none⟩ ∧ b < w.heap.size ∧ ∀ k v, (E.code L[j])[k]? = some v → w.cell? ⟨b, o + (j * E.sz + k), none⟩ = some v := by
  obtain ⟨b, o, e, hlt, hc⟩ := h (by omega)
  refine ⟨b, o, e, hlt, fun k v hv => hc _ _ ?_⟩
  rw [E.cells_get L j k hj (by rw [← E.len L[j]]; exact (List.getElem?_eq_some_iff.1 hv).1)]
  exact hv
theorem ERow.drop (h : ERow E w A L) (k : Nat) : ERow E w (A.map fun x => x.add (k * E.sz)) (L.drop k) := fun hl => by
  obtain ⟨b, o, rfl, hlt, hc⟩ := h (by simp at hl; omega)
  refine ⟨b, o + k * E.sz, by simp [Addr.add_lit], hlt, fun i u hu => ?_⟩
  rw [Nat.add_assoc]
  refine hc _ _ ?_
  have e : E.cells L = E.cells (L.take k) ++ E.cells (L.drop k) := by rw [← Elem.cells_append, List.take_append_drop]
  have hk : k ≤ L.length := by simp at hl; omega
  rw [e, List.getElem?_append_right (by rw [Elem.cells_length, List.length_take]; rw [Nat.min_eq_left hk]; omega), Elem.cells_length, List.length_take, Nat.min_eq_left hk, Nat.add_sub_cancel_left]
  exact hu
theorem ERow.take (h : ERow E w A L) (k : Nat) : ERow E w A (L.take k) := fun hl => by
  obtain ⟨b, o, rfl, hlt, hc⟩ := h (by simp at hl; omega)
  refine ⟨b, o, rfl, hlt, fun i u hu => hc i u ?_⟩
  have e : E.cells L = E.cells (L.take k) ++ E.cells (L.drop k) := by rw [← Elem.cells_append, List.take_append_drop]
  rw [e, List.getElem?_append_left (List.getElem?_eq_some_iff.1 hu).1]
  exact hu

theorem EOwn.nil (w : World) (B : Nat) : EOwn E w B none 0 ([] : List α) := World.ownsRow_nil _ _ _ _
theorem EOwn.alloc (h : EOwn E w B A c L) (o : Obj) : EOwn E (w.alloc o) B A c L := World.ownsRow.alloc h o
theorem EOwn.drew (h : EOwn E w B A c L) : EOwn E w.drew B A c L := h
theorem EOwn.form (h : EOwn E w B A c L) : (A = none ∧ c = 0 ∧ L = []) ∨ ∃ g, A = some ⟨g, 0, none⟩ ∧ B ≤ g ∧ g < w.heap.size ∧ L.length ≤ c ∧ c ≤ maxLen ∧ ∃ cur, w.heap[g]? = some (.cells cur E.e (0, 0)) := by
  rcases h.2 with ⟨hv, h0⟩ | ⟨g, cap, cur, hv, hb, hg, hn, hm, _⟩
  · simp only [Value.slice.injEq] at hv
    exact .inl ⟨hv.1, hv.2.2, List.eq_nil_of_length_eq_zero h0⟩
  · simp only [Value.slice.injEq] at hv
    obtain ⟨rfl, _, rfl⟩ := hv
    exact .inr ⟨g, rfl, hb, (Array.getElem?_eq_some_iff.1 hg).1, hn, hm, cur, hg⟩
theorem EOwn.cap (h : EOwn E w B A c L) : L.length ≤ c := by
  rcases h.form with ⟨_, _, rfl⟩ | ⟨_, _, _, _, h, _⟩
  · simp
  · exact h
theorem EOwn.capMax (h : EOwn E w B A c L) : c ≤ maxLen := by
  rcases h.form with ⟨_, rfl, _⟩ | ⟨_, _, _, _, _, h, _⟩
  · simp
  · exact h
theorem EOwn.block (h : EOwn E w B A c L) : ∀ a, A = some a → B ≤ a.block ∧ a.block < w.heap.size := by
  intro a ha
  rcases h.form with ⟨rfl, _⟩ | ⟨g, rfl, h1, h2, _⟩
  · cases ha
  · obtain rfl := Option.some.inj ha
    exact ⟨h1, h2⟩
theorem EOwn.row (h : EOwn E w B A c L) : ERow E w A L := fun hl => by
  rcases h.form with ⟨_, _, rfl⟩ | ⟨g, rfl, _, hlt, _⟩
  · simp at hl
  · refine ⟨g, 0, rfl, hlt, fun j u hu => ?_⟩
    have := World.ownsRow.cells h (g := g) rfl j _ hu
    simpa [Addr.add_lit] using this
theorem EOwn.kept {row : Option Nat} (h : EOwn E w B A c L) (hg : w.grownBy w' row) (hne : A.map (·.block) = none ∨ A.map (·.block) ≠ row) : EOwn E w' B A c L :=
  World.ownsRow.kept h hg (by rw [own_block]; exact hne)
theorem EOwn.keep (h : EOwn E w B A c L) (hk : ∀ a, A = some a → w'.heap[a.block]? = w.heap[a.block]?) : EOwn E w' B A c L := by
  refine ⟨h.1, ?_⟩
  rcases h.2 with h2 | ⟨g, cap, cur, hv, hb, hg, r⟩
  · exact .inl h2
  · refine .inr ⟨g, cap, cur, hv, hb, ?_, r⟩
    simp only [Value.slice.injEq] at hv
    have := hk _ hv.1
    rw [this]; exact hg
theorem EOwn.below (h : EOwn E w B A c L) (hb : Below w.heap.size w w') : EOwn E w' B A c L := h.keep fun a ha => hb.block _ (h.block a ha).2
theorem EOwn.mono {B' : Nat} (h : EOwn E w B A c L) (hB : B' ≤ B) : EOwn E w B' A c L := by
  refine ⟨h.1, ?_⟩
  rcases h.2 with h2 | ⟨g, cap, cur, hv, hb, r⟩
  · exact .inl h2
  · exact .inr ⟨g, cap, cur, hv, by omega, r⟩
theorem EOwn.up {B' : Nat} (h : EOwn E w B A c L) (hB : ∀ a, A = some a → B' ≤ a.block) : EOwn E w B' A c L := by
  refine ⟨h.1, ?_⟩
  rcases h.2 with h2 | ⟨g, cap, cur, hv, hb, r⟩
  · exact .inl h2
  · refine .inr ⟨g, cap, cur, hv, ?_, r⟩
    simp only [Value.slice.injEq] at hv
    exact hB _ hv.1
theorem EOwn.new (w : World) (L : List α) (hm : L.length ≤ maxLen) (hB : B ≤ w.heap.size) (cs : Array Value) (hcs : cs.toList = E.cells L) : EOwn E (w.alloc (.cells cs E.e)) B (some ⟨w.heap.size, 0, none⟩) L.length L := by
  have := World.ownsRow_lit (e := E.e) (size := E.sz) w cs L.length hB hm (by rw [← Array.length_toList, hcs]; exact E.cells_length L)
  rw [hcs] at this
  exact this
theorem EOwn.below_grown (h : EOwn E w B A c L) (hg : w.grownBy w' (A.map (·.block))) (hB : B ≤ w.heap.size) : Below B w w' :=
  (Below.refl B w).grown hg hB fun k hk => by
    have := (World.ownsRow.lt h k (by rw [own_block]; exact hk)).1
    exact this
theorem EOwn.set (h : EOwn E w B A c L) (p : Addr) (hne : ∀ a, A = some a → a.block ≠ p.block) (u : Value) : EOwn E (w.setCell p u) B A c L :=
  h.keep fun a ha => heap_setCell_other w p a.block u (hne a ha)
theorem EOwn.cell {g : Nat} (h : EOwn E w B (some ⟨g, 0, none⟩) c L) {j k : Nat} (hj : j < L.length) {v : Value} (hv : (E.code L[j])[k]? = some v) : w.cell? ⟨g, j * E.sz + k, none⟩ = some v := by
  have hk : k < E.sz := by rw [← E.len L[j]]; exact (List.getElem?_eq_some_iff.1 hv).1
  rw [World.ownsRow.cellAt h (j * E.sz + k) (by have := Nat.mul_le_mul_right E.sz (show j + 1 ≤ L.length from hj); rw [Nat.succ_mul] at this; omega), E.cells_get L j k hj hk]
  exact hv
theorem EOwn.free {g : Nat} (h : EOwn E w B (some ⟨g, 0, none⟩) c L) (j : Nat) : w.frozen? ⟨g, j, none⟩ = false := World.ownsRow.frozenAt h j
/-- One cell of an element is stored. -/
theorem EOwn.store {g : Nat} (h : EOwn E w B (some ⟨g, 0, none⟩) c L) {j k : Nat} (hj : j < L.length) (hk : k < E.sz) (x : α) (v : Value) (hx : E.code x = (E.code L[j]).set k v) :
    EOwn E (w.setCell ⟨g, j * E.sz + k, none⟩ v) B (some ⟨g, 0, none⟩) c (L.set j x) := by
  have := (World.ownsRow.stored h (j * E.sz + k) v).1
  unfold EOwn
  rw [E.cells_set L j k hj x v hk hx, List.length_set]
  exact this

/-- Values stored behind each other. -/
def setFrom (xs : List Value) (i : Nat) : List Value → List Value
  | [] => xs
  | v :: vs => setFrom (xs.set i v) (i + 1) vs
def storeFrom (w : World) (g i : Nat) : List Value → World
  | [] => w
  | v :: vs => storeFrom (w.setCell ⟨g, i, none⟩ v) g (i + 1) vs
theorem setFrom_length : ∀ (vs : List Value) (xs : List Value) (i : Nat), (setFrom xs i vs).length = xs.length
  | [], _, _ => rfl
  | v :: vs, xs, i => by rw [setFrom, setFrom_length vs]; simp
theorem setFrom_get : ∀ (vs xs : List Value) (i k : Nat), i + vs.length ≤ xs.length → (setFrom xs i vs)[k]? = if i ≤ k ∧ k < i + vs.length then vs[k - i]? else xs[k]?
  | [], xs, i, k, _ => by rw [setFrom, if_neg (by simp)]
  | v :: vs, xs, i, k, h => by
    simp only [List.length_cons] at h
    rw [setFrom, setFrom_get vs (xs.set i v) (i + 1) k (by simp; omega)]
    by_cases hk : k = i
    · subst hk
      rw [if_neg (by omega), if_pos (by simp), List.getElem?_set_self (by omega)]
      simp
    · by_cases hr : i + 1 ≤ k ∧ k < i + 1 + vs.length
      · rw [if_pos hr, if_pos (by simp; omega)]
        obtain ⟨m, rfl⟩ : ∃ m, k = i + 1 + m := ⟨k - (i + 1), by omega⟩
        rw [show i + 1 + m - (i + 1) = m from by omega, show i + 1 + m - i = m + 1 from by omega]
        rfl
      · rw [if_neg hr, if_neg (by simp; omega), List.getElem?_set_ne (by omega)]
theorem Elem.cells_get' (L : List α) (k : Nat) (h : k < L.length * E.sz) : (E.cells L)[k]? = (E.code (L[k / E.sz]'(Nat.div_lt_of_lt_mul (by rw [Nat.mul_comm]; exact h))))[k % E.sz]? := by
  have hd : k / E.sz < L.length := Nat.div_lt_of_lt_mul (by rw [Nat.mul_comm]; exact h)
  have := E.cells_get L (k / E.sz) (k % E.sz) hd (Nat.mod_lt _ E.pos)
  rw [Nat.mul_comm, Nat.div_add_mod] at this
  exact this
theorem Elem.cells_setAll (L : List α) (j : Nat) (hj : j < L.length) (x : α) : E.cells (L.set j x) = setFrom (E.cells L) (j * E.sz) (E.code x) := by
  have hlen : j * E.sz + E.sz ≤ L.length * E.sz := by
    have := Nat.mul_le_mul_right E.sz (show j + 1 ≤ L.length from hj)
    rw [Nat.succ_mul] at this
    exact this
  apply List.ext_getElem?
  intro k
  rw [setFrom_get _ _ _ _ (by rw [E.len, E.cells_length]; exact hlen), E.len]
  by_cases hk : k < L.length * E.sz
  · have hd : k / E.sz < L.length := Nat.div_lt_of_lt_mul (by rw [Nat.mul_comm]; exact hk)
    rw [E.cells_get' _ k (by simpa using hk), E.cells_get' L k hk, List.getElem_set]
    have hdm := Nat.div_add_mod k E.sz
    have hml := Nat.mod_lt k E.pos
    by_cases he : j = k / E.sz
    · have hje : j * E.sz + k % E.sz = k := by rw [he, Nat.mul_comm]; exact hdm
      rw [if_pos he, if_pos ⟨by omega, by omega⟩, show k - j * E.sz = k % E.sz from by omega]
    · rw [if_neg he, if_neg]
      rintro ⟨h1, h2⟩
      refine he ?_
      symm
      rw [Nat.div_eq_iff E.pos]
      exact ⟨h1, by omega⟩
  · rw [List.getElem?_eq_none (by rw [E.cells_length]; simpa using hk), if_neg (by omega), List.getElem?_eq_none (by rw [E.cells_length]; omega)]
theorem owns_storeFrom {base : Nat} {e : TypeId} {size g n cap : Nat} : ∀ (vs : List Value) {xs : List Value} {w : World} (i : Nat), w.ownsRow base e size (.slice (some ⟨g, 0, none⟩) n cap) n xs →
    (storeFrom w g i vs).ownsRow base e size (.slice (some ⟨g, 0, none⟩) n cap) n (setFrom xs i vs)
  | [], _, _, _, h => h
  | v :: vs, _, _, i, h => owns_storeFrom vs (i + 1) (World.ownsRow.stored h i v).1
/-- A whole element is stored. -/
theorem EOwn.storeAll {g : Nat} (h : EOwn E w B (some ⟨g, 0, none⟩) c L) {j : Nat} (hj : j < L.length) (x : α) : EOwn E (storeFrom w g (j * E.sz) (E.code x)) B (some ⟨g, 0, none⟩) c (L.set j x) := by
  unfold EOwn
  rw [E.cells_setAll L j hj x, List.length_set]
  exact owns_storeFrom _ _ h
theorem storeFrom_other {g : Nat} : ∀ (vs : List Value) (w : World) (i k : Nat), k ≠ g → (storeFrom w g i vs).heap[k]? = w.heap[k]?
  | [], _, _, _, _ => rfl
  | v :: vs, w, i, k, h => (storeFrom_other vs _ (i + 1) k h).trans (heap_setCell_other w ⟨g, i, none⟩ k v h)
theorem below_storeFrom {B : Nat} {w0 : World} {g : Nat} (hg : B ≤ g) : ∀ (vs : List Value) {w : World} (i : Nat), Below B w0 w → Below B w0 (storeFrom w g i vs)
  | [], _, _, h => h
  | v :: vs, _, i, h => below_storeFrom hg vs (i + 1) (h.setCell (p := ⟨g, i, none⟩) hg v)

/-- append(row, row...) -/
theorem run_append_elems {A' : Option Addr} {c' : Nat} (ty : TypeId) (ho : EOwn E w B A c L) (hr : ERow E w A' M) (hb : L.length + M.length ≤ 1073741824) (hB : B ≤ w.heap.size) :
    ∃ A1 c1 w1, (Builtin.append_ #[E.t, E.t] ty #[.slice A L.length c, .slice A' M.length c']).run Try.prog w = .ok (.slice A1 (L.length + M.length) c1) w1 ∧ EOwn E w1 B A1 c1 (L ++ M) ∧
      w.grownBy w1 (A.map (·.block)) ∧ (A1.map (·.block) = A.map (·.block) ∨ A1.map (·.block) = some w.heap.size) := by
  obtain ⟨i, hi, hz, hsi, hby⟩ := info_parts E.info
  rcases A' with _ | ad
  · have hm : M = [] := by
      cases M with
      | nil => rfl
      | cons x M => obtain ⟨b, o, h, _⟩ := hr (by simp); cases h
    subst hm
    refine ⟨A, c, w, ?_, by simpa using ho, World.grownBy.refl w _, .inl rfl⟩
    exact run_append_of_none (P := Try.prog) w B E.t ty E.e i E.sz E.under hi _ _ _ ho c'
  · have hcells : ∀ j u, (E.cells M)[j]? = some u → w.cell? (ad.add j) = some u := by
      intro j u hu
      have hj := (List.getElem?_eq_some_iff.1 hu).1
      rw [E.cells_length] at hj
      obtain ⟨b, o, h, _, hc⟩ := hr (by
        rcases Nat.eq_zero_or_pos M.length with h0 | h0
        · rw [h0] at hj; simp at hj
        · exact h0)
      obtain rfl := Option.some.inj h
      rw [Addr.add_lit]
      exact hc j u hu
    have hbig : (L.length + M.length) * E.bytes ≤ 140737488355328 := by
      have h1 := Nat.mul_le_mul hb E.few
      omega
    obtain ⟨v', w', hrun, h2, h3, _, h5⟩ := run_append_own_at (P := Try.prog) w B E.t ty E.e i E.zero E.sz E.bytes E.under hi hz hsi hby E.zsz E.pos _ _ _ ho ad M.length c' (E.cells M)
      (E.cells_length M) hcells (E.cells_one M) (by simp [maxLen]; omega) hbig hB
    obtain ⟨A1, c1, rfl⟩ := own_slice h2
    refine ⟨A1, c1, w', hrun, ?_, by simpa [own_block] using h3, by simpa [own_block] using h5⟩
    unfold EOwn
    rw [E.cells_append, List.length_append]
    exact h2

theorem wpList_append_elems (E : Elem α) {w : World} {B c : Nat} {A A' : Option Addr} {L M : List α} {c' : Nat} {ops : Array Oper} {rest : List Oper} {o : Oper} {a : Act} {Q : Exit → Act → World → Prop} (hgd : o.guard = none) (s x : Operand)
    (hop : o.op = .call { callee := .builtin .append, args := #[s, x], argTypes := #[E.t, E.t] })
    (n : Nat) (hs : a.eval s = .slice A n c) (ho : EOwn E w B A c L) (hn : n = L.length) (k : Nat) (hx : a.eval x = .slice A' k c') (hr : ERow E w A' M) (hk : k = M.length)
    (hb : L.length + M.length ≤ 1073741824) (hB : B ≤ w.heap.size)
    (h : ∀ A1 c1 w1, EOwn E w1 B A1 c1 (L ++ M) → Below B w w1 → w.grownBy w1 (A.map (·.block)) → (A1.map (·.block) = A.map (·.block) ∨ A1.map (·.block) = some w.heap.size) →
      wpList Try.prog ops Q rest (a.put o.dst (.slice A1 (L.length + M.length) c1)) w1) : wpList Try.prog ops Q (o :: rest) a w := by
  subst hn hk
  obtain ⟨A1, c1, w1, hrun, h2, h3, h4⟩ := run_append_elems (c' := c') o.type ho hr hb hB
  refine Lib.wpList_append_run w hgd s x _ _ hop _ _ hs hx _ _ hrun ?_
  exact h A1 c1 w1 h2 (ho.below_grown h3 hB) h3 h4

/-- One new element, of a literal's own block. -/
theorem ERow.lit (E : Elem α) (w : World) (x : α) (cs : Array Value) (hcs : cs.toList = E.code x) (g : Nat) (hg : g = w.heap.size) : ERow E (w.alloc (.cells cs E.e)) (some ⟨g, 0, none⟩) [x] := by
  subst hg
  exact (EOwn.new (B := 0) w [x] (by simp [maxLen]) (Nat.zero_le _) cs (by simp [Elem.cells, hcs])).row
end

end Go.Proofs.Ythbanhedjfpmaaa
