/-
  Plain: in which order the pages of a full pool go.
-/
import Derived.Test.YtjaopecjmmnbiaaPoolInv
namespace Go.Proofs.Ytjaopecjmmnbiaa
set_option linter.unusedSimpArgs false
set_option linter.unusedVariables false
open Go.RowKit Go.Maps

/-- A pool into which pages 0, 1 .. were put. -/
def ofill (k i : Nat) : PS := (List.range i).foldl (fun (q : PS) (j : Nat) => (q.putAny (j : Int) []).2) (PS.new k)
theorem ofill_succ (k i : Nat) : ofill k (i + 1) = ((ofill k i).putAny (i : Int) []).2 := by
  unfold ofill
  rw [List.range_succ, List.foldl_append]
  rfl
def ochk (k : Nat) : Bool :=
  ((ofill k k).putAny (k : Int) []).1 == 0 && ((ofill k k).putAny (k : Int) []).2.hand == 1 && ((ofill k k).putAny (k : Int) []).2.L.length == k &&
  (List.range k).all (fun j => j == 0 || ((((ofill k k).putAny (k : Int) []).2.L.getD j fr0).page == (j : Int) && (((ofill k k).putAny (k : Int) []).2.L.getD j fr0).mark == false)) &&
  ((ofill k k).putAny (k : Int) []).2.L.all (fun f => decide (0 ≤ f.page ∧ f.page < (k : Int) + 1)) &&
  decide ((((ofill k k).putAny (k : Int) []).2.L.getD 0 fr0).page = (k : Int))
theorem ochk_all : (List.range 20).all (fun j => ochk (j + 2)) = true := by decide +kernel

/-- What stands in a pool from which pages go in their order: those from h on have not been passed, those ahead of n are marked. -/
structure OSt (k h n : Nat) (is : List Int) (q : PS) (next : Int) : Prop where
  len : q.L.length = k
  hand : h < k → q.hand = h
  h1 : 1 ≤ h
  hn : h ≤ n
  page : ∀ j (_ : j < q.L.length), h ≤ j → q.L[j].page = (j : Int) ∧ (q.L[j].mark = true ↔ is[j]? = some 1)
  mid : ∀ j, h ≤ j → j < n → is[j]? = some 1
  all : ∀ f ∈ q.L, 0 ≤ f.page ∧ f.page < next
theorem ostart (k : Nat) (h2 : 2 ≤ k) (hk : k ≤ 21) : ((ofill k k).putAny (k : Int) []).1 = 0 ∧ OSt k 1 1 (List.replicate 22 0) ((ofill k k).putAny (k : Int) []).2 ((k : Int) + 1) ∧
    (∀ f ∈ ((ofill k k).putAny (k : Int) []).2.L, f.page ≠ 0) := by
  have h : ochk k = true := by
    have := List.all_eq_true.1 ochk_all (k - 2) (by rw [List.mem_range]; omega)
    rwa [show k - 2 + 2 = k from by omega] at this
  unfold ochk at h
  generalize (ofill k k).putAny (k : Int) [] = r at h ⊢
  obtain ⟨g, q⟩ := r
  simp only [Bool.and_eq_true, beq_iff_eq, List.all_eq_true, List.mem_range, Bool.or_eq_true, decide_eq_true_eq] at h
  obtain ⟨⟨⟨⟨⟨h1, h2'⟩, h3⟩, h4⟩, h5⟩, h6⟩ := h
  have hp : ∀ j (hj : j < q.L.length), 1 ≤ j → q.L[j].page = (j : Int) ∧ q.L[j].mark = false := by
    intro j hj h1
    have := h4 j (by omega)
    rcases this with h | h
    · omega
    · simpa [hj] using h
  refine ⟨h1, ⟨h3, fun _ => h2', Nat.le_refl _, Nat.le_refl _, fun j hj h1 => ⟨(hp j hj h1).1, ?_⟩, fun j h1 h2 => by omega, h5⟩, ?_⟩
  · rw [(hp j hj h1).2]
    simp only [Bool.false_eq_true, false_iff]
    rw [List.getElem?_replicate]
    split <;> simp
  · intro f hf
    obtain ⟨j, hj, rfl⟩ := List.getElem_of_mem hf
    rcases Nat.eq_zero_or_pos j with h0 | h0
    · subst h0
      have hj0 : 0 < q.L.length := hj
      have : q.L[0].page = (k : Int) := by simpa [hj0] using h6
      rw [this]
      omega
    · rw [(hp j hj h0).1]; omega
theorem sweep_to : ∀ (d : Nat) (L : List Fr) (h n : Nat), n = h + d → (hn : n < L.length) → (∀ j (_ : j < L.length), h ≤ j → j < n → L[j].mark = true) → L[n].mark = false →
    (sweep (marked L + 1) L h).1 = n ∧ (sweep (marked L + 1) L h).2.2 = (n + 1) % L.length ∧ (sweep (marked L + 1) L h).2.1.length = L.length ∧
      (∀ j, n ≤ j → (sweep (marked L + 1) L h).2.1[j]? = L[j]?)
  | 0, L, h, n, e, hn, hm, hf => by
    obtain rfl : n = h := by omega
    have e1 : sweep (marked L + 1) L n = (n, L, (n + 1) % L.length) := by
      unfold sweep
      rw [dif_pos hn, if_neg (by simp [hf])]
    rw [e1]
    exact ⟨rfl, rfl, rfl, fun _ _ => rfl⟩
  | d + 1, L, h, n, e, hn, hm, hf => by
    have hh : h < L.length := by omega
    have hmk := hm h hh (Nat.le_refl _) (by omega)
    have hms := marked_set L h hh hmk
    have e1 : sweep (marked L + 1) L h = sweep (marked (L.set h { L[h] with mark := false }) + 1) (L.set h { L[h] with mark := false }) (h + 1) := by
      conv => lhs; unfold sweep
      rw [dif_pos hh, if_pos hmk, ← hms, Nat.mod_eq_of_lt (by omega)]
    rw [e1]
    obtain ⟨a, b, c, d'⟩ := sweep_to d (L.set h { L[h] with mark := false }) (h + 1) n (by omega) (by simpa using hn) (fun j hj h1 h2 => by
      rw [List.getElem_set_ne (by omega)]
      exact hm j (by simpa using hj) (by omega) h2) (by rw [List.getElem_set_ne (by omega)]; exact hf)
    exact ⟨a, by simpa using b, by simpa using c, fun j hj => by rw [d' j hj, List.getElem?_set_ne (by omega)]⟩
theorem OSt.put {k h n : Nat} {is : List Int} {q : PS} {next : Int} (hs : OSt k h n is q next) (hG : Good q) (hn : n < k) (hi : is[n]? ≠ some 1) (hnx : 0 ≤ next) :
    (q.putAny next []).1 = (n : Int) ∧ OSt k (n + 1) (n + 1) is (q.putAny next []).2 (next + 1) := by
  have hw : whereOf q.L next = none := by
    cases hx : whereOf q.L next with
    | none => rfl
    | some i =>
      obtain ⟨hi, e, _⟩ := where_some hx
      have := (hs.all _ (List.getElem_mem hi)).2
      omega
  have hfe : ¬ 0 ≤ firstEmpty q.L 0 := fun h => by
    obtain ⟨j, hj, _, h2⟩ := firstEmpty_at q.L 0 h
    have := (hs.all _ (List.getElem_mem hj)).1
    omega
  have hnl : n < q.L.length := by rw [hs.len]; exact hn
  have hhn := hs.hn
  have hsw := sweep_to (n - h) q.L h n (by omega) hnl (fun j hj h1 h2 => (hs.page j hj h1).2.2 (hs.mid j h1 h2)) (by
    cases hm : q.L[n].mark with
    | false => rfl
    | true => exact absurd ((hs.page n hnl hhn).2.1 hm) hi)
  obtain ⟨s1, s2, s3, s4⟩ := hsw
  have e1 : q.putAny next [] = (((sweep (marked q.L + 1) q.L h).2.1.getD n fr0).page, { q with L := (sweep (marked q.L + 1) q.L h).2.1.set n ⟨next, true, [], none, 0⟩, hand := (n + 1) % q.L.length }) := by
    unfold PS.putAny
    rw [if_neg (by omega)]
    unfold PS.put
    rw [hw]
    unfold PS.place
    rw [if_neg hfe, hs.hand (by omega), s1, s2]
  have hal := (sweep_alike (marked q.L + 1) q.L h (by omega)).1
  have s4n := s4 n (Nat.le_refl _)
  generalize (sweep (marked q.L + 1) q.L h).2.1 = M at e1 s3 s4 s4n hal
  rw [e1]
  have hpn : (M.getD n fr0).page = (n : Int) := by
    rw [List.getD_eq_getElem?_getD, s4n, List.getElem?_eq_getElem hnl]
    exact (hs.page n hnl hhn).1
  refine ⟨hpn, ⟨by simp only [List.length_set]; rw [s3]; exact hs.len, fun hlt => ?_, by omega, Nat.le_refl _, fun j hj h1 => ?_, fun j h1 h2 => by omega, fun f hf => ?_⟩⟩
  · simp only
    rw [hs.len, Nat.mod_eq_of_lt hlt]
  · simp only [List.length_set] at hj
    have hjq : j < q.L.length := by omega
    have e2 : M[j] = q.L[j] := by
      have := s4 j (by omega)
      rw [List.getElem?_eq_getElem hj, List.getElem?_eq_getElem hjq] at this
      exact Option.some.inj this
    simp only
    rw [List.getElem_set_ne (by omega), e2]
    exact hs.page j hjq (by omega)
  · rcases List.mem_or_eq_of_mem_set hf with h | h
    · obtain ⟨g, hg, e, _⟩ := hal.mem h
      have := hs.all g hg
      omega
    · subst h
      simp only
      omega
theorem OSt.step {k h n : Nat} {is : List Int} {q : PS} {next : Int} (hs : OSt k h n is q next) (hi : is[n]? = some 1) : OSt k h (n + 1) is q next :=
  ⟨hs.len, hs.hand, hs.h1, Nat.le_succ_of_le hs.hn, hs.page, fun j h1 h2 => by
    rcases Nat.lt_or_ge j n with h | h
    · exact hs.mid j h1 h
    · obtain rfl : j = n := by omega
      exact hi, hs.all⟩
theorem OSt.get {k : Nat} {is : List Int} {q : PS} {next : Int} (hs : OSt k 1 1 is q next) (h0 : ∀ f ∈ q.L, f.page ≠ 0) (hG : Good q) {m : Nat} (hm : m < k) (hl : k ≤ is.length) :
    OSt k 1 1 (is.set m 1) (q.get m).2 next ∧ ∀ f ∈ (q.get m).2.L, f.page ≠ 0 := by
  rcases Nat.eq_zero_or_pos m with h | h
  · subst h
    have hw : whereOf q.L ((0 : Nat) : Int) = none := by
      cases hx : whereOf q.L ((0 : Nat) : Int) with
      | none => rfl
      | some i =>
        obtain ⟨hi, e, _⟩ := where_some hx
        exact absurd e (h0 _ (List.getElem_mem hi))
    have hg : q.get ((0 : Nat) : Int) = (none, { q with misses := q.misses + 1 }) := by unfold PS.get; rw [hw]
    rw [hg]
    refine ⟨⟨hs.len, hs.hand, hs.h1, hs.hn, fun j hj h1 => ?_, fun j h1 h2 => by omega, hs.all⟩, h0⟩
    rw [List.getElem?_set_ne (by omega)]
    exact hs.page j hj h1
  · have hml : m < q.L.length := by rw [hs.len]; exact hm
    have hw := where_of hG.once hml (hs.page m hml h).1 (by omega)
    have hg : q.get (m : Int) = (some (q.L.getD m fr0).s, { q with hits := q.hits + 1, L := q.L.set m { q.L.getD m fr0 with mark := true } }) := by unfold PS.get; rw [hw]
    have e : q.L.getD m fr0 = q.L[m] := by simp [hml]
    rw [hg, e]
    refine ⟨⟨by simpa using hs.len, hs.hand, hs.h1, hs.hn, fun j hj h1 => ?_, fun j h1 h2 => by omega, fun f hf => ?_⟩, fun f hf => ?_⟩
    · simp only [List.length_set] at hj
      simp only
      by_cases hjm : m = j
      · subst hjm
        rw [List.getElem_set_self, List.getElem?_set_self (by omega)]
        exact ⟨(hs.page m hj h1).1, by simp⟩
      · rw [List.getElem_set_ne hjm, List.getElem?_set_ne hjm]
        exact hs.page j hj h1
    · rcases List.mem_or_eq_of_mem_set hf with h | h
      · exact hs.all f h
      · subst h; exact hs.all q.L[m] (List.getElem_mem hml)
    · rcases List.mem_or_eq_of_mem_set hf with h | h
      · exact h0 f h
      · subst h; exact h0 q.L[m] (List.getElem_mem hml)
end Go.Proofs.Ytjaopecjmmnbiaa
