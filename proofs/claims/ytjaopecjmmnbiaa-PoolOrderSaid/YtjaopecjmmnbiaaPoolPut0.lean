/-
  Plain facts on where pages are, behind a frame's change.
-/
import Derived.Test.YtjaopecjmmnbiaaPoolGet
namespace Go.Proofs.Ytjaopecjmmnbiaa
set_option linter.unusedSimpArgs false
set_option linter.unusedVariables false
open Go.RowKit Go.Maps

/-- No page stands twice. -/
def Once (L : List Fr) : Prop := ∀ i j (hi : i < L.length) (hj : j < L.length), 0 ≤ L[i].page → L[i].page = L[j].page → i = j
theorem where_some {L : List Fr} {k : Int} {i : Nat} (h : whereOf L k = some i) : ∃ hi : i < L.length, L[i].page = k ∧ 0 ≤ k := by
  unfold whereOf at h
  split at h
  · rename_i hk
    obtain ⟨hi, h1, _⟩ := List.findIdx?_eq_some_iff_getElem.1 h
    exact ⟨hi, by simpa using h1, hk⟩
  · cases h
theorem where_of {L : List Fr} (ho : Once L) {k : Int} {i : Nat} (hi : i < L.length) (hk : L[i].page = k) (h0 : 0 ≤ k) : whereOf L k = some i := by
  unfold whereOf
  rw [if_pos h0]
  rw [List.findIdx?_eq_some_iff_getElem]
  refine ⟨hi, by simpa using hk, fun j hj => ?_⟩
  simp
  intro e
  have := ho j i (by omega) hi (by rw [e]; exact h0) (by rw [e, hk])
  omega
theorem where_none {L : List Fr} {k : Int} (h : whereOf L k = none) (h0 : 0 ≤ k) : ∀ i (hi : i < L.length), L[i].page ≠ k := by
  unfold whereOf at h
  rw [if_pos h0, List.findIdx?_eq_none_iff] at h
  intro i hi e
  have := h L[i] (List.getElem_mem hi)
  simp [e] at this

theorem where_iff {L : List Fr} (ho : Once L) (k : Int) (i : Nat) : whereOf L k = some i ↔ 0 ≤ k ∧ ∃ hi : i < L.length, L[i].page = k :=
  ⟨fun h => let ⟨hi, h1, h2⟩ := where_some h; ⟨h2, hi, h1⟩, fun ⟨h0, hi, hk⟩ => where_of ho hi hk h0⟩
theorem once_set {L : List Fr} (ho : Once L) {a : Nat} (_ha : a < L.length) (f : Fr) (hf : 0 ≤ f.page → ∀ i (hi : i < L.length), i ≠ a → L[i].page ≠ f.page) : Once (L.set a f) := by
  intro i j hi hj h0 he
  rw [List.length_set] at hi hj
  rw [List.getElem_set] at h0 he
  rw [List.getElem_set] at he
  by_cases h1 : a = i
  · by_cases h2 : a = j
    · omega
    · rw [if_pos h1] at h0 he
      rw [if_neg h2] at he
      exact absurd he.symm (hf h0 j hj (fun e => h2 e.symm))
  · rw [if_neg h1] at h0 he
    by_cases h2 : a = j
    · rw [if_pos h2] at he
      exact absurd he (hf (he ▸ h0) i hi (fun e => h1 e.symm))
    · rw [if_neg h2] at he
      exact ho i j hi hj h0 he

/-- Where pages are, behind a frame's change. -/
theorem where_set {L : List Fr} (ho : Once L) {a : Nat} (ha : a < L.length) (f : Fr) (hf : 0 ≤ f.page → ∀ i (hi : i < L.length), i ≠ a → L[i].page ≠ f.page) (k : Int) :
    whereOf (L.set a f) k = if 0 ≤ k ∧ k = f.page then some a else if k = L[a].page then none else whereOf L k := by
  have ho' := once_set ho ha f hf
  by_cases h0 : 0 ≤ k
  · by_cases hk : k = f.page
    · rw [if_pos ⟨h0, hk⟩]
      exact where_of ho' (by simpa using ha) (by simp [hk]) h0
    · rw [if_neg (fun h => hk h.2)]
      by_cases hka : k = L[a].page
      · rw [if_pos hka]
        cases h : whereOf (L.set a f) k with
        | none => rfl
        | some i =>
          obtain ⟨hi, h1, _⟩ := where_some h
          rw [List.length_set] at hi
          rw [List.getElem_set] at h1
          by_cases hia : a = i
          · rw [if_pos hia] at h1; exact absurd h1.symm hk
          · rw [if_neg hia] at h1
            exact absurd (ho a i ha hi (by omega) (by omega)) hia
      · rw [if_neg hka]
        apply Option.ext
        intro i
        rw [where_iff ho', where_iff ho]
        constructor
        · rintro ⟨_, hi, h1⟩
          rw [List.length_set] at hi
          rw [List.getElem_set] at h1
          by_cases hia : a = i
          · rw [if_pos hia] at h1; exact absurd h1.symm hk
          · rw [if_neg hia] at h1; exact ⟨h0, hi, h1⟩
        · rintro ⟨_, hi, h1⟩
          refine ⟨h0, by simpa using hi, ?_⟩
          rw [List.getElem_set]
          by_cases hia : a = i
          · subst hia; exact absurd h1.symm hka
          · rw [if_neg hia]; exact h1
  · have e : ∀ M : List Fr, whereOf M k = none := fun M => by unfold whereOf; rw [if_neg h0]
    rw [e, e, if_neg (fun h => h0 h.1)]
    split <;> rfl
end Go.Proofs.Ytjaopecjmmnbiaa
