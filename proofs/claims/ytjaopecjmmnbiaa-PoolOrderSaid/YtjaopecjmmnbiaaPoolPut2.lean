/-
  Plain facts on the frame that a new page takes, and on what a put leaves.
-/
import Derived.Test.YtjaopecjmmnbiaaPoolPut1
namespace Go.Proofs.Ytjaopecjmmnbiaa
set_option linter.unusedSimpArgs false
set_option linter.unusedVariables false
open Go.RowKit Go.Maps

/-- A pool's pages: each once, none below -1. -/
structure Good (p : PS) : Prop where
  once : Once p.L
  pages : ∀ f ∈ p.L, f.page = -1 ∨ (0 ≤ f.page ∧ f.page ≤ 9223372036854775807)
  n0 : 0 < p.L.length
  n1 : p.L.length ≤ 64
  hand : p.hand < p.L.length
  bytes : ∀ f ∈ p.L, f.s.length ≤ 1000000

/-- The frames M are those of L, but for their marks. -/
def Alike (L M : List Fr) : Prop := M.length = L.length ∧ ∀ i (h : i < L.length) (h' : i < M.length), M[i].page = L[i].page ∧ M[i].s = L[i].s ∧ M[i].A = L[i].A ∧ M[i].c = L[i].c
theorem Alike.refl (L : List Fr) : Alike L L := ⟨rfl, fun _ _ _ => ⟨rfl, rfl, rfl, rfl⟩⟩
theorem Alike.trans {L M K : List Fr} (h : Alike L M) (k : Alike M K) : Alike L K :=
  ⟨k.1.trans h.1, fun i hi hi' => by
    have hm : i < M.length := by rw [h.1]; exact hi
    obtain ⟨a1, a2, a3, a4⟩ := h.2 i hi hm
    obtain ⟨b1, b2, b3, b4⟩ := k.2 i hm hi'
    exact ⟨b1.trans a1, b2.trans a2, b3.trans a3, b4.trans a4⟩⟩
theorem Alike.mark (L : List Fr) (j : Nat) (hj : j < L.length) (x : Bool) : Alike L (L.set j { L[j] with mark := x }) :=
  ⟨by simp, fun i hi hi' => by
    rw [List.getElem_set]
    split
    · rename_i e; subst e; exact ⟨rfl, rfl, rfl, rfl⟩
    · exact ⟨rfl, rfl, rfl, rfl⟩⟩
theorem sweep_alike : ∀ (f : Nat) (L : List Fr) (h : Nat), h < L.length → Alike L (sweep f L h).2.1 ∧ (sweep f L h).1 < L.length ∧ (sweep f L h).2.2 < L.length
  | 0, L, h, hh => ⟨.refl L, hh, hh⟩
  | f + 1, L, h, hh => by
    unfold sweep
    rw [dif_pos hh]
    have hm : (h + 1) % L.length < L.length := Nat.mod_lt _ (by omega)
    split
    · obtain ⟨a, b, c⟩ := sweep_alike f (L.set h { L[h] with mark := false }) ((h + 1) % L.length) (by simpa using hm)
      exact ⟨(Alike.mark L h hh false).trans a, by simpa using b, by simpa using c⟩
    · exact ⟨.refl L, hh, hm⟩
theorem firstEmpty_at : ∀ (L : List Fr) (i : Nat), 0 ≤ firstEmpty L i → ∃ j, ∃ h : j < L.length, firstEmpty L i = ((i + j : Nat) : Int) ∧ L[j].page < 0
  | [], i, h => by simp [firstEmpty] at h
  | f :: L, i, h => by
    unfold firstEmpty at h ⊢
    split
    · rename_i hp
      exact ⟨0, by simp, by simp, by simpa using hp⟩
    · rename_i hp
      rw [if_neg hp] at h
      obtain ⟨j, hj, e, hn⟩ := firstEmpty_at L (i + 1) h
      exact ⟨j + 1, by simpa using hj, by rw [e]; congr 1; omega, by simpa using hn⟩
theorem firstEmpty_none : ∀ (L : List Fr) (i : Nat), firstEmpty L i < 0 → ∀ f ∈ L, 0 ≤ f.page
  | [], i, h => by simp
  | f :: L, i, h => by
    unfold firstEmpty at h
    split at h
    · omega
    · rename_i hp
      intro g hg
      cases hg with
      | head => omega
      | tail _ hg => exact firstEmpty_none L (i + 1) h g hg
theorem place_ok {p : PS} (h : Good p) : Alike p.L p.place.2.L ∧ p.place.1 < p.L.length ∧ p.place.2.hand < p.L.length ∧ p.place.2.hits = p.hits ∧ p.place.2.misses = p.misses := by
  unfold PS.place
  split
  · rename_i hf
    obtain ⟨j, hj, e, _⟩ := firstEmpty_at p.L 0 hf
    refine ⟨.refl _, ?_, h.hand, rfl, rfl⟩
    show (firstEmpty p.L 0).toNat < _
    omega
  · obtain ⟨a, b, c⟩ := sweep_alike (marked p.L + 1) p.L p.hand h.hand
    exact ⟨a, b, c, rfl, rfl⟩
theorem Alike.where_eq {L M : List Fr} (h : Alike L M) : whereOf M = whereOf L := by
  funext k
  unfold whereOf
  split
  · have e : ∀ M : List Fr, M.findIdx? (fun f => f.page == k) = (M.map (·.page)).findIdx? (· == k) := fun M => by rw [List.findIdx?_map]; rfl
    rw [e, e]
    congr 1
    apply List.ext_getElem (by simp [h.1])
    intro i h1 h2
    simp at h1 h2 ⊢
    exact (h.2 i h2 h1).1
  · rfl
theorem Alike.mem {L M : List Fr} (h : Alike L M) {f : Fr} (hf : f ∈ M) : ∃ g ∈ L, f.page = g.page ∧ f.s = g.s ∧ f.A = g.A := by
  obtain ⟨i, hi, rfl⟩ := List.getElem_of_mem hf
  have hl : i < L.length := by rw [← h.1]; exact hi
  obtain ⟨a, b, c, _⟩ := h.2 i hl hi
  exact ⟨L[i], List.getElem_mem hl, a, b, c⟩
theorem Alike.once {L M : List Fr} (h : Alike L M) (ho : Once L) : Once M := by
  intro i j hi hj h0 he
  have hi' : i < L.length := by rw [← h.1]; exact hi
  have hj' : j < L.length := by rw [← h.1]; exact hj
  rw [(h.2 i hi' hi).1] at h0 he
  rw [(h.2 j hj' hj).1] at he
  exact ho i j hi' hj' h0 he
theorem Good.place {p : PS} (h : Good p) : Good p.place.2 := by
  obtain ⟨a, b, c, _⟩ := place_ok h
  refine ⟨a.once h.once, fun f hf => ?_, by rw [a.1]; exact h.n0, by rw [a.1]; exact h.n1, by rw [a.1]; exact c, fun f hf => ?_⟩
  · obtain ⟨g, hg, e, _⟩ := a.mem hf
    rw [e]; exact h.pages g hg
  · obtain ⟨g, hg, _, e, _⟩ := a.mem hf
    rw [e]; exact h.bytes g hg

/-- A page is put: the page that goes, and the pool behind it. -/
def PS.put (p : PS) (k : Int) (f : Fr) : Int × PS :=
  match whereOf p.L k with
  | some i => (-1, { p with L := p.L.set i f })
  | none => ((p.place.2.L.getD p.place.1 fr0).page, { p.place.2 with L := p.place.2.L.set p.place.1 f })

theorem Good.set {p : PS} (h : Good p) {a : Nat} (ha : a < p.L.length) (f : Fr) (hf : 0 ≤ f.page → ∀ i (hi : i < p.L.length), i ≠ a → p.L[i].page ≠ f.page) (hp : f.page = -1 ∨ (0 ≤ f.page ∧ f.page ≤ 9223372036854775807)) (hs : f.s.length ≤ 1000000) :
    Good { p with L := p.L.set a f } := by
  refine ⟨once_set h.once ha f hf, fun g hg => ?_, by simpa using h.n0, by simpa using h.n1, by simpa using h.hand, fun g hg => ?_⟩
  · rcases List.mem_or_eq_of_mem_set hg with h1 | h1
    · exact h.pages g h1
    · exact h1 ▸ hp
  · rcases List.mem_or_eq_of_mem_set hg with h1 | h1
    · exact h.bytes g h1
    · exact h1 ▸ hs
theorem where_other {L : List Fr} (ho : Once L) {k : Int} {i : Nat} (h : whereOf L k = some i) : ∀ j (hj : j < L.length), j ≠ i → L[j].page ≠ k := by
  obtain ⟨hi, e, h0⟩ := where_some h
  intro j hj hne e2
  exact hne (ho j i hj hi (by omega) (by omega))
theorem Good.put {p : PS} (h : Good p) {k : Int} (h0 : 0 ≤ k) (h1 : k ≤ 9223372036854775807) (f : Fr) (hf : f.page = k) (hs : f.s.length ≤ 1000000) : Good (p.put k f).2 := by
  unfold PS.put
  split
  · rename_i i hi
    obtain ⟨hil, _, _⟩ := where_some hi
    exact h.set hil f (fun _ => hf ▸ where_other h.once hi) (.inr (by omega)) hs
  · rename_i hn
    obtain ⟨a, b, _⟩ := place_ok h
    have hn2 : whereOf p.place.2.L k = none := by rw [a.where_eq]; exact hn
    exact h.place.set (by rw [a.1]; exact b) f (fun _ i hi _ => hf ▸ where_none hn2 h0 i hi) (.inr (by omega)) hs
end Go.Proofs.Ytjaopecjmmnbiaa
