/-
  Texts of a proof, one behind the other (each with its own head).
-/
import Derived.Test.YtknfnhmkiooifaaPartHkblednon
section
/-
  Rows in another order, plain: what they answer.
-/
namespace Go.Proofs.Ytknfnhmkiooifaa
set_option linter.unusedSimpArgs false
set_option linter.unusedVariables false
namespace Srt
variable {α : Type} {cmp : α → α → Int}
theorem mem_le {x : α} {X : List α} (h : Sorted cmp (x :: X)) : Sorted cmp X ∧ ∀ y ∈ X, ¬ cmp y x < 0 := by
  obtain ⟨h1, h2⟩ := List.pairwise_cons.1 h
  exact ⟨h2, h1⟩
theorem ord_tri (ho : Ord cmp) (x a : α) : (cmp x a < 0 ∧ ¬ cmp x a = 0 ∧ ¬ cmp a x < 0) ∨ (¬ cmp x a < 0 ∧ cmp x a = 0 ∧ ¬ cmp a x < 0) ∨ (¬ cmp x a < 0 ∧ ¬ cmp x a = 0 ∧ cmp a x < 0) := by
  have := ho.anti x a
  omega
/-- A sorted row: what is below a, what is like it, what is above it. -/
theorem sorted_split (ho : Ord cmp) (a : α) : ∀ {X : List α}, Sorted cmp X → X = X.filter (fun x => decide (cmp x a < 0)) ++ (X.filter (fun x => decide (cmp x a = 0)) ++ X.filter (fun x => decide (cmp a x < 0)))
  | [], _ => rfl
  | x :: X, h => by
    obtain ⟨hX, hx⟩ := mem_le h
    have ih := sorted_split ho a hX
    have n1 : ¬ cmp x a < 0 → X.filter (fun x => decide (cmp x a < 0)) = [] := fun h1 => by
      rw [List.filter_eq_nil_iff]
      intro y hy
      have := hx y hy
      rw [decide_eq_true_iff]
      intro h2
      have e := ho.anti x a
      exact this (ho.lt_of_lt_of_le h2 h1)
    have n2 : cmp a x < 0 → X.filter (fun x => decide (cmp x a = 0)) = [] := fun h1 => by
      rw [List.filter_eq_nil_iff]
      intro y hy
      have h2 := hx y hy
      rw [decide_eq_true_iff]
      intro h3
      have e := ho.anti y a
      have h4 := ho.lt_of_lt_of_le h1 h2
      omega
    rcases ord_tri ho x a with ⟨h1, h2, h3⟩ | ⟨h1, h2, h3⟩ | ⟨h1, h2, h3⟩
    · simp only [List.filter_cons]
      rw [decide_eq_true h1, decide_eq_false h2, decide_eq_false h3]
      simp only [if_true, Bool.false_eq_true, if_false, List.cons_append]
      rw [← ih]
    · simp only [List.filter_cons]
      rw [decide_eq_false h1, decide_eq_true h2, decide_eq_false h3]
      simp only [if_true, Bool.false_eq_true, if_false, List.cons_append]
      rw [n1 h1] at ih ⊢
      rw [List.nil_append] at ih ⊢
      rw [← ih]
    · simp only [List.filter_cons]
      rw [decide_eq_false h1, decide_eq_false h2, decide_eq_true h3]
      simp only [if_true, Bool.false_eq_true, if_false, List.cons_append]
      rw [n1 h1, n2 h3] at ih ⊢
      rw [List.nil_append] at ih ⊢
      rw [List.nil_append] at ih ⊢
      rw [← ih]
/-- The elements from s to e are those that are alike. -/
structure Cls (cmp : α → α → Int) (X : List α) (s e : Nat) : Prop where
  se : s < e
  el : e ≤ X.length
  lo : ∀ (i : Nat) (h : i < s), cmp (X[i]'(by omega)) (X[s]'(by omega)) < 0
  eq : ∀ (i : Nat) (h : i < e), s ≤ i → cmp (X[i]'(by omega)) (X[s]'(by omega)) = 0
  hi : ∀ (i : Nat) (h : i < X.length), e ≤ i → cmp (X[s]'(by omega)) X[i] < 0
theorem filter_all {p : α → Bool} {l : List α} (h : ∀ x ∈ l, p x = true) : l.filter p = l := List.filter_eq_self.2 h
theorem filter_no {p : α → Bool} {l : List α} (h : ∀ x ∈ l, p x = false) : l.filter p = [] := List.filter_eq_nil_iff.2 fun x hx => by rw [h x hx]; simp
theorem Cls.counts (ho : Ord cmp) {X : List α} {s e : Nat} (h : Cls cmp X s e) : (X.filter (fun x => decide (cmp x (X[s]'(by have := h.se; have := h.el; omega)) < 0))).length = s ∧ X.filter (fun x => decide (cmp x (X[s]'(by have := h.se; have := h.el; omega)) = 0)) = (X.drop s).take (e - s) := by
  have h1 := h.se
  have h2 := h.el
  generalize ha : X[s]'(by omega) = a
  have lo : ∀ (i : Nat) (k : i < s), cmp (X[i]'(by omega)) a < 0 := fun i k => by rw [← ha]; exact h.lo i k
  have eq' : ∀ (i : Nat) (k : i < e), s ≤ i → cmp (X[i]'(by omega)) a = 0 := fun i k k2 => by rw [← ha]; exact h.eq i k k2
  have hi' : ∀ (i : Nat) (k : i < X.length), e ≤ i → cmp a X[i] < 0 := fun i k k2 => by rw [← ha]; exact h.hi i k k2
  have e1 : X = X.take s ++ ((X.drop s).take (e - s) ++ X.drop e) := by
    have : X.drop e = (X.drop s).drop (e - s) := by rw [List.drop_drop]; congr 1; omega
    rw [this, List.take_append_drop, List.take_append_drop]
  have m1 : ∀ x ∈ X.take s, cmp x a < 0 := fun x hx => by
    obtain ⟨i, hi, rfl⟩ := List.getElem_of_mem hx
    rw [List.length_take] at hi
    rw [List.getElem_take]
    exact lo i (by omega)
  have m2 : ∀ x ∈ (X.drop s).take (e - s), cmp x a = 0 := fun x hx => by
    obtain ⟨i, hi, rfl⟩ := List.getElem_of_mem hx
    rw [List.length_take, List.length_drop] at hi
    rw [List.getElem_take, List.getElem_drop]
    exact eq' (s + i) (by omega) (by omega)
  have m3 : ∀ x ∈ X.drop e, cmp a x < 0 := fun x hx => by
    obtain ⟨i, hi, rfl⟩ := List.getElem_of_mem hx
    rw [List.length_drop] at hi
    rw [List.getElem_drop]
    exact hi' (e + i) (by omega) (by omega)
  have anti := fun x => ho.anti x a
  constructor
  · have : X.filter (fun x => decide (cmp x a < 0)) = X.take s := by
      conv => lhs; rw [e1]
      rw [List.filter_append, List.filter_append, filter_all, filter_no, filter_no, List.append_nil, List.append_nil]
      · intro x hx; have := m3 x hx; have := anti x; simp; omega
      · intro x hx; have := m2 x hx; simp; omega
      · intro x hx; have := m1 x hx; simp; omega
    rw [this, List.length_take]
    omega
  · conv => lhs; rw [e1]
    rw [List.filter_append, List.filter_append, filter_no, filter_all, filter_no, List.append_nil, List.nil_append]
    · intro x hx; have := m3 x hx; have := anti x; simp; omega
    · intro x hx; have := m2 x hx; simp; omega
    · intro x hx; have := m1 x hx; simp; omega
/-- Two sorted rows of the same elements: what is alike lies at the same places. -/
theorem Cls.perm (ho : Ord cmp) {X Y : List α} (hX : Sorted cmp X) (hY : Sorted cmp Y) (hp : Y.Perm X) {s e : Nat} (h : Cls cmp X s e) : ((Y.drop s).take (e - s)).Perm ((X.drop s).take (e - s)) := by
  obtain ⟨c1, c2⟩ := h.counts ho
  have h1 := h.se
  have h2 := h.el
  generalize X[s]'(by omega) = a at c1 c2
  have sp := sorted_split ho a hY
  have p1 := (hp.filter (fun x => decide (cmp x a < 0))).length_eq
  have p2 := hp.filter (fun x => decide (cmp x a = 0))
  have l2 : (X.filter (fun x => decide (cmp x a = 0))).length = e - s := by rw [c2, List.length_take, List.length_drop]; omega
  have : (Y.drop s).take (e - s) = Y.filter (fun x => decide (cmp x a = 0)) := by
    rw [sp, List.drop_append_of_le_length (by omega), List.drop_of_length_le (by omega), List.nil_append, List.take_append_of_le_length (by rw [p2.length_eq]; omega), List.take_of_length_le (by rw [p2.length_eq]; omega), ← sp]
  rw [this, ← c2]
  exact p2
theorem ssort_congr {c d : α → α → Int} (L : List α) (h : ∀ x ∈ L, ∀ y ∈ L, c x y = d x y) : ssort c L = ssort d L := by
  have hm : ∀ (X Y : List α), (∀ x ∈ X, ∀ y ∈ Y, c y x = d y x) → mg c X Y = mg d X Y := by
    intro X
    induction X with
    | nil => intro Y _; rw [mg_nil_left, mg_nil_left]
    | cons x X ih =>
      intro Y
      induction Y with
      | nil => intro _; rw [mg_nil_right, mg_nil_right]
      | cons y Y ihy =>
        intro h
        rw [mg_cons, mg_cons, h x (by simp) y (by simp), ihy (fun a ha b hb => h a ha b (by simp [hb])), ih _ (fun a ha b hb => h a (by simp [ha]) b hb)]
  induction L using list_snoc with
  | h0 => rfl
  | h1 L z ih =>
    rw [ssort_snoc, ssort_snoc, ih (fun x hx y hy => h x (by simp [hx]) y (by simp [hy])), hm]
    intro x hx y hy
    exact h y (by rw [List.mem_singleton.1 hy]; simp) x (by simp [(ssort_perm d L).mem_iff.1 hx])
end Srt
namespace Key
open Go.RowKit
theorem vord_eqW {x y : Va} (hx : x.ok) (hy : y.ok) (cx : Clean x) (cy : Clean y) (hk : x.k = y.k) : vord x y = 0 ↔ eqV x y := by
  have hv : vord x y = 0 ↔ ¬ vless x y ∧ ¬ vless y x := by
    unfold vord
    by_cases h1 : vless x y
    · rw [if_pos h1]; simp [h1]
    · rw [if_neg h1]
      by_cases h2 : vless y x
      · rw [if_pos h2]; simp [h2]
      · rw [if_neg h2]; simp [h1, h2]
  rw [hv]
  have hn : x.k ≠ 1 → x.k ≠ 4 → x.n = y.n := fun h1 h2 => by rw [cx.nn h1 h2, cy.nn (by omega) (by omega)]
  have hf : x.k ≠ 2 → x.f = y.f := fun h1 => by rw [cx.ff h1, cy.ff (by omega)]
  have hs : x.k ≠ 3 → x.s = y.s := fun h1 => by rw [cx.ss h1, cy.ss (by omega)]
  by_cases k2 : x.k = 2
  · rw [vless_real hk k2, vless_real hk.symm (by omega)]
    constructor
    · rintro ⟨h1, h2⟩
      refine ⟨hk, hn (by omega) (by omega), hs (by omega), ?_⟩
      by_cases nx : fnan x.f <;> by_cases ny : fnan y.f
      · exact ⟨⟨fun _ => ny, fun _ => nx⟩, .inl nx⟩
      · exact absurd (.inl ⟨ny, nx⟩) h2
      · exact absurd (.inl ⟨nx, ny⟩) h1
      · refine ⟨⟨fun h => absurd h nx, fun h => absurd h ny⟩, .inr (fsg_inj hx.f1 hy.f1 cx.zz cy.zz ?_)⟩
        have a1 : ¬ fsg x.f < fsg y.f := fun h => h1 (.inr ⟨nx, ny, h⟩)
        have a2 : ¬ fsg y.f < fsg x.f := fun h => h2 (.inr ⟨ny, nx, h⟩)
        exact Int.le_antisymm (Int.not_lt.1 a2) (Int.not_lt.1 a1)
    · rintro ⟨-, -, -, h1, h2⟩
      constructor
      · rintro (⟨a, b⟩ | ⟨a, b, c⟩)
        · exact a (h1.2 b)
        · rcases h2 with h2 | h2
          · exact a h2
          · rw [h2] at c; omega
      · rintro (⟨a, b⟩ | ⟨a, b, c⟩)
        · exact a (h1.1 b)
        · rcases h2 with h2 | h2
          · exact b h2
          · rw [h2] at c; omega
  by_cases k3 : x.k = 3
  · rw [vless_text hk k3, vless_text hk.symm (by omega)]
    have hff := hf (by omega)
    constructor
    · rintro ⟨h1, h2⟩
      exact ⟨hk, hn (by omega) (by omega), less_total _ _ (by simpa using h1) (by simpa using h2), by rw [hff], .inr hff⟩
    · rintro ⟨-, -, h, -⟩
      rw [h, less_irrefl]; simp
  · rw [vless_num hk k2 k3, vless_num hk.symm (by omega) (by omega)]
    have hff := hf (by omega)
    constructor
    · rintro ⟨h1, h2⟩
      exact ⟨hk, by omega, hs k3, by rw [hff], .inr hff⟩
    · rintro ⟨-, h, -⟩
      omega
end Key
namespace Ev
open Key
theorem eq_of_vord {x y : Va} (hx : x.ok) (hy : y.ok) (cx : clean x = x) (cy : clean y = y) (h : vord x y = 0) : x = y := by
  have kx : Key.Clean x := by rw [← cx]; exact clean_is x
  have ky : Key.Clean y := by rw [← cy]; exact clean_is y
  have hv : ¬ vless x y ∧ ¬ vless y x := by
    unfold vord at h
    by_cases h1 : vless x y
    · rw [if_pos h1] at h; omega
    · rw [if_neg h1] at h
      by_cases h2 : vless y x
      · rw [if_pos h2] at h; omega
      · exact ⟨h1, h2⟩
  have hk : x.k = y.k := by
    have a : ¬ (x.k < y.k) := fun e => hv.1 (.inl e)
    have b : ¬ (y.k < x.k) := fun e => hv.2 (.inl e)
    omega
  obtain ⟨-, hn, hs, hf, hg⟩ := (vord_eqW hx hy kx ky hk).1 h
  have hff : x.f = y.f := by
    rcases hg with hg | hg
    · have hg2 := hf.1 hg
      have r : ∀ {z : Va}, clean z = z → fnan z.f → z.f = 9221120237041090561 := fun {z} cz hz => by
        by_cases k2 : z.k = 2
        · have e : clean z = ⟨2, 0, real1 z.f, []⟩ := by unfold clean cleanF; simp [k2]
          have e2 : z.f = real1 z.f := by
            have := congrArg Va.f e
            rw [cz] at this
            exact this
          rw [e2]
          unfold real1
          rw [if_pos hz]
        · exfalso
          have := (show Key.Clean z by rw [← cz]; exact clean_is z).ff k2
          rw [this] at hz
          revert hz
          decide
      rw [r cx hg, r cy hg2]
    · exact hg
  obtain ⟨a, b, c, d⟩ := x
  obtain ⟨a', b', c', d'⟩ := y
  simp only at hk hn hs hff
  subst hk hn hs hff
  rfl
/-- Runs of a sorted row. -/
theorem runs_class {cmp : Rw → Rw → Int} (ho : Srt.Ord cmp) : ∀ (x : Rw) (S : List Rw), Srt.Sorted cmp (x :: S) → runs cmp (x :: S) = (x :: S).filter (fun y => decide (cmp y x = 0)) :: runs cmp ((x :: S).filter (fun y => decide (cmp x y < 0)))
  | x, [], _ => by
    have e := ho.self x
    show consG cmp x [] = _
    have h1 : [x].filter (fun y => decide (cmp y x = 0)) = [x] := by simp [e]
    have h2 : [x].filter (fun y => decide (cmp x y < 0)) = [] := by simp [e]
    rw [h1, h2]
    rfl
  | x, y :: T, h => by
    obtain ⟨hS, hx⟩ := Srt.mem_le h
    have ih := runs_class ho y T hS
    have e := ho.self x
    show consG cmp x (runs cmp (y :: T)) = _
    rw [List.filter_cons, if_pos (by simp [e]), List.filter_cons (x := x), if_neg (by simp [e])]
    obtain ⟨-, hy⟩ := Srt.mem_le hS
    by_cases hxy : cmp x y = 0
    · have f1 : (y :: T).filter (fun z => decide (cmp z x = 0)) = (y :: T).filter (fun z => decide (cmp z y = 0)) := by
        refine List.filter_congr fun z _ => ?_
        have a := (ho.eq_left z hxy).2
        have b := ho.anti z x
        have c := ho.anti z y
        rw [Bool.eq_iff_iff, decide_eq_true_iff, decide_eq_true_iff]
        omega
      have f2 : (y :: T).filter (fun z => decide (cmp x z < 0)) = (y :: T).filter (fun z => decide (cmp y z < 0)) := by
        refine List.filter_congr fun z _ => ?_
        have a := (ho.eq_left z hxy).1
        rw [Bool.eq_iff_iff, decide_eq_true_iff, decide_eq_true_iff]
        exact a
      rw [ih, f1, f2]
      have hf : firstR ((y :: T).filter (fun z => decide (cmp z y = 0))) = y := by
        rw [List.filter_cons, if_pos (by simp [ho.self y])]; rfl
      show (if cmp x (firstR _) = 0 then _ else _) = _
      rw [hf, if_pos hxy]
    · have e2 := ho.anti x y
      have hyx := hx y (by simp)
      have hlt : cmp x y < 0 := by omega
      have all : ∀ z ∈ y :: T, cmp x z < 0 := fun z hz => by
        rcases List.mem_cons.1 hz with rfl | hz
        · exact hlt
        · exact ho.lt_of_lt_of_le hlt (hy z hz)
      have f1 : (y :: T).filter (fun z => decide (cmp z x = 0)) = [] := Srt.filter_no fun z hz => by
        have a := all z hz
        have b := ho.anti x z
        simp; omega
      have f2 : (y :: T).filter (fun z => decide (cmp x z < 0)) = y :: T := Srt.filter_all fun z hz => by simp [all z hz]
      rw [f1, f2, ih]
      have hf : firstR ((y :: T).filter (fun z => decide (cmp z y = 0))) = y := by
        rw [List.filter_cons, if_pos (by simp [ho.self y])]; rfl
      show (if cmp x (firstR _) = 0 then _ else _) = _
      rw [hf, if_neg hxy]
/-- Groups that hold the same rows. -/
def Like (cmp : Rw → Rw → Int) (g h : List Rw) : Prop := g.Perm h ∧ g ≠ [] ∧ (∀ x ∈ g, ∀ y ∈ h, cmp x y = 0)
theorem runs_like {cmp : Rw → Rw → Int} (ho : Srt.Ord cmp) : ∀ (n : Nat) (S T : List Rw), S.length ≤ n → Srt.Sorted cmp S → Srt.Sorted cmp T → S.Perm T → ∃ Z : List (List Rw × List Rw), Z.map Prod.fst = runs cmp S ∧ Z.map Prod.snd = runs cmp T ∧ ∀ z ∈ Z, Like cmp z.1 z.2
  | n, [], T, _, _, _, hp => by
    have : T = [] := hp.symm.eq_nil
    subst this
    exact ⟨[], rfl, rfl, by intro z hz; cases hz⟩
  | 0, x :: S, T, h, _, _, _ => by simp at h
  | n + 1, x :: S, [], _, _, _, hp => by
    have := hp.eq_nil
    cases this
  | n + 1, x :: S, y :: T, hl, hS, hT, hp => by
    have hxy : cmp x y = 0 := by
      have h1 := (Srt.mem_le hS).2
      have h2 := (Srt.mem_le hT).2
      have a : ¬ cmp y x < 0 := by
        have hm : y ∈ x :: S := hp.mem_iff.2 (by simp)
        rcases List.mem_cons.1 hm with e | hm
        · rw [e, ho.self]; omega
        · exact h1 y hm
      have b : ¬ cmp x y < 0 := by
        have hm : x ∈ y :: T := hp.mem_iff.1 (by simp)
        rcases List.mem_cons.1 hm with e | hm
        · rw [e, ho.self]; omega
        · exact h2 x hm
      have := ho.anti x y
      omega
    have f1 : (y :: T).filter (fun z => decide (cmp z y = 0)) = (y :: T).filter (fun z => decide (cmp z x = 0)) := by
      refine List.filter_congr fun z _ => ?_
      have a := (ho.eq_left z hxy).2
      have b := ho.anti z x
      have c := ho.anti z y
      rw [Bool.eq_iff_iff, decide_eq_true_iff, decide_eq_true_iff]
      omega
    have f2 : (y :: T).filter (fun z => decide (cmp y z < 0)) = (y :: T).filter (fun z => decide (cmp x z < 0)) := by
      refine List.filter_congr fun z _ => ?_
      have a := (ho.eq_left z hxy).1
      rw [Bool.eq_iff_iff, decide_eq_true_iff, decide_eq_true_iff]
      exact a.symm
    have hlen : ((x :: S).filter (fun z => decide (cmp x z < 0))).length ≤ n := by
      rw [List.filter_cons, if_neg (by simp [ho.self x])]
      have := List.length_filter_le (fun z => decide (cmp x z < 0)) S
      simp at hl
      omega
    obtain ⟨Z, z1, z2, z3⟩ := runs_like ho n _ _ hlen (List.Pairwise.filter _ hS) (List.Pairwise.filter _ hT) (hp.filter (fun z => decide (cmp x z < 0)))
    refine ⟨((x :: S).filter (fun z => decide (cmp z x = 0)), (y :: T).filter (fun z => decide (cmp z x = 0))) :: Z, ?_, ?_, ?_⟩
    · rw [runs_class ho x S hS, List.map_cons, z1]
    · rw [runs_class ho y T hT, List.map_cons, z2, f1, f2]
    · intro z hz
      rcases List.mem_cons.1 hz with rfl | hz
      · refine ⟨hp.filter (fun z => decide (cmp z x = 0)), ?_, fun a ha b hb => ?_⟩
        · show (x :: S).filter (fun z => decide (cmp z x = 0)) ≠ []
          rw [List.filter_cons, if_pos (by simp [ho.self x])]
          simp
        · have ha := List.mem_filter.1 ha
          have hb := List.mem_filter.1 hb
          have ea : cmp a x = 0 := by simpa using ha.2
          have eb : cmp b x = 0 := by simpa using hb.2
          have := ho.anti b x
          exact ho.eq_trans ea (by omega)
      · exact z3 z hz
/-- Columns that rows are alike by. -/
theorem ordR_zero : ∀ {l : List So} {a b : List Va}, ordR l a b = 0 → ∀ s ∈ l, vord (atV a s.at_) (atV b s.at_) = 0
  | [], _, _, _, s, hs => by cases hs
  | t :: l, a, b, h, s, hs => by
    unfold ordR at h
    by_cases h0 : vord (atV a t.at_) (atV b t.at_) = 0
    · rw [if_pos h0] at h
      rcases List.mem_cons.1 hs with rfl | hs
      · exact h0
      · exact ordR_zero h s hs
    · rw [if_neg h0] at h
      exfalso
      split at h <;> omega
theorem like_at {group : List Int} {a b : List Va} (ha : ∀ v ∈ a, v.ok) (hb : ∀ v ∈ b, v.ok) (h : ordR (byOf group) a b = 0) {i : Int} (hi : i ∈ group) : atV a i = atV b i :=
  eq_of_vord (at_ok ha i) (at_ok hb i) (clean_at a i) (clean_at b i) (ordR_zero h ⟨i, false⟩ (List.mem_map.2 ⟨i, hi, rfl⟩))
/-- A query that asks for folds, and for what it groups by, alone. -/
def PlainQ (group : List Int) (items : List Nd) (order : List So) : Prop := (∀ n ∈ items, (10 ≤ n.k ∧ n.k ≤ 13) ∨ (n.k = 2 ∧ n.at_ ∈ group)) ∧ ∀ o ∈ order, o.at_ ∈ group
theorem bestV_min {k : Int} (hk : k = 12 ∨ k = 13) (vs : List Va) : (bestV k vs = nul ∧ ∀ v ∈ vs, v.k = 0) ∨ (bestV k vs ∈ vs ∧ (bestV k vs).k ≠ 0 ∧ ∀ v ∈ vs, v.k ≠ 0 → if k = 12 then vord (bestV k vs) v ≤ 0 else vord v (bestV k vs) ≤ 0) := by
  have ho := vord_ord
  induction vs using Srt.list_snoc with
  | h0 => exact .inl ⟨rfl, by intro v hv; cases hv⟩
  | h1 L z ih =>
    rw [bestV_snoc]
    generalize bestV k L = b at ih ⊢
    unfold bestStep
    have ez := ho.anti z b
    by_cases hz : z.k = 0
    · rw [if_neg (fun h => h.1 hz)]
      rcases ih with ⟨h1, h2⟩ | ⟨h1, h2, h3⟩
      · refine .inl ⟨h1, fun v hv => ?_⟩
        rcases List.mem_append.1 hv with hv | hv
        · exact h2 v hv
        · rw [List.mem_singleton.1 hv]; exact hz
      · refine .inr ⟨by simp [h1], h2, fun v hv hn => ?_⟩
        rcases List.mem_append.1 hv with hv | hv
        · exact h3 v hv hn
        · rw [List.mem_singleton.1 hv] at hn; exact absurd hz hn
    · rcases ih with ⟨h1, h2⟩ | ⟨h1, h2, h3⟩
      · rw [if_pos ⟨hz, .inl (by rw [h1]; rfl)⟩]
        refine .inr ⟨by simp, hz, fun v hv hn => ?_⟩
        rcases List.mem_append.1 hv with hv | hv
        · exact absurd (h2 v hv) hn
        · rw [List.mem_singleton.1 hv, ho.self]; simp
      · by_cases hc : z.k ≠ 0 ∧ (b.k = 0 ∨ k = 12 ∧ vord z b < 0 ∨ k = 13 ∧ 0 < vord z b)
        · rw [if_pos hc]
          refine .inr ⟨by simp, hz, fun v hv hn => ?_⟩
          rcases List.mem_append.1 hv with hv | hv
          · have h4 := h3 v hv hn
            rcases hk with rfl | rfl
            · rw [if_pos rfl] at h4 ⊢
              have : vord z b < 0 := by rcases hc.2 with h | h | h; exact absurd h h2; exact h.2; omega
              exact ho.trans z b v (by omega) h4
            · rw [if_neg (by omega)] at h4 ⊢
              have : 0 < vord z b := by rcases hc.2 with h | h | h; exact absurd h h2; omega; exact h.2
              have := ho.anti b z
              exact ho.trans v b z h4 (by omega)
          · rw [List.mem_singleton.1 hv, ho.self]; simp
        · rw [if_neg hc]
          refine .inr ⟨by simp [h1], h2, fun v hv hn => ?_⟩
          rcases List.mem_append.1 hv with hv | hv
          · exact h3 v hv hn
          · rw [List.mem_singleton.1 hv]
            rcases hk with rfl | rfl
            · rw [if_pos rfl]
              have : ¬ vord z b < 0 := fun h => hc ⟨hz, .inr (.inl ⟨rfl, h⟩)⟩
              omega
            · rw [if_neg (by omega)]
              have : ¬ 0 < vord z b := fun h => hc ⟨hz, .inr (.inr ⟨rfl, h⟩)⟩
              omega
theorem bestV_perm {k : Int} (hk : k = 12 ∨ k = 13) {vs us : List Va} (hp : vs.Perm us) (hok : ∀ v ∈ vs, v.ok) (hc : ∀ v ∈ vs, clean v = v) : bestV k vs = bestV k us := by
  have hm := fun v => hp.mem_iff (a := v)
  rcases bestV_min hk vs with ⟨h1, h2⟩ | ⟨h1, h2, h3⟩ <;> rcases bestV_min hk us with ⟨k1, k2⟩ | ⟨k1, k2, k3⟩
  · rw [h1, k1]
  · exact absurd (h2 _ ((hm _).2 k1)) k2
  · exact absurd (k2 _ ((hm _).1 h1)) h2
  · have a := h3 _ ((hm _).2 k1) k2
    have b := k3 _ ((hm _).1 h1) h2
    have e := vord_ord.anti (bestV k vs) (bestV k us)
    refine eq_of_vord (hok _ h1) (hok _ ((hm _).2 k1)) (hc _ h1) (hc _ ((hm _).2 k1)) ?_
    rcases hk with rfl | rfl
    · rw [if_pos rfl] at a b; omega
    · rw [if_neg (by omega)] at a b; omega
theorem foldV_perm {n : Nd} (hn : 10 ≤ n.k ∧ n.k ≤ 13) {g h : List Rw} (hp : g.Perm h) (hok : ∀ v ∈ argsV n g, v.ok) : foldV n g = foldV n h := by
  have ha : (argsV n g).Perm (argsV n h) := hp.map _
  have hc : ∀ v ∈ argsV n g, clean v = v := fun v hv => by
    obtain ⟨y, -, rfl⟩ := List.mem_map.1 hv
    exact clean_argV n y.l
  unfold foldV
  by_cases h10 : n.k = 10
  · rw [if_pos h10, if_pos h10, hp.length_eq]
  rw [if_neg h10, if_neg h10]
  by_cases h11 : n.k = 11
  · rw [if_pos h11, if_pos h11]
    have hi : (intsOf (argsV n g)).Perm (intsOf (argsV n h)) := (ha.filter _).map _
    have hs := sum_perm hi
    unfold sumV
    by_cases he : intsOf (argsV n g) = []
    · rw [if_pos he, if_pos (by rw [he] at hi; exact hi.symm.eq_nil)]
    · rw [if_neg he, if_neg (fun e => he (by rw [e] at hi; exact hi.eq_nil)), hs]
  · rw [if_neg h11, if_neg h11]
    exact bestV_perm (by omega) ha hok hc
theorem firstR_mem {g : List Rw} (h : g ≠ []) : firstR g ∈ g := by
  cases g with
  | nil => exact absurd rfl h
  | cons x g => show x ∈ x :: g; simp
/-- Values that may be read. -/
def RowsV (L : List Rw) (items : List Nd) : Prop := (∀ x ∈ L, ∀ v ∈ x.l, v.ok) ∧ ∀ n ∈ items, ∀ x ∈ L, (argV n x.l).ok
theorem rowV_like {group : List Int} {items : List Nd} {order : List So} (hpl : PlainQ group items order) {L : List Rw} (hv : RowsV L items) {g h : List Rw} (hg : ∀ x ∈ g, x ∈ L) (hl : Like (rcmp (byOf group)) g h) : rowV items g = rowV items h := by
  obtain ⟨hp, hne, hz⟩ := hl
  have hne' : h ≠ [] := fun e => by subst e; exact hne hp.eq_nil
  unfold rowV
  refine List.map_congr_left fun n hn => ?_
  unfold itemV
  rcases hpl.1 n hn with hk | ⟨hk, hat⟩
  · rw [if_pos hk, if_pos hk]
    refine foldV_perm hk hp fun v hv2 => ?_
    obtain ⟨y, hy, rfl⟩ := List.mem_map.1 hv2
    exact hv.2 n hn y (hg y hy)
  · rw [if_neg (by omega), if_neg (by omega)]
    have hx := firstR_mem hne
    have hy := firstR_mem hne'
    have e := hz _ hx _ hy
    have e2 : atV (firstR g).l n.at_ = atV (firstR h).l n.at_ := like_at (hv.1 _ (hg _ hx)) (hv.1 _ (hg _ (hp.mem_iff.2 hy))) e hat
    have e3 : ∀ row : List Va, eval row n = atV row n.at_ := fun row => by
      rw [eval_eq]
      unfold evalK
      rw [if_neg (by omega), if_pos hk]
      rfl
    rw [e3, e3, e2]
theorem gcmp_like {group : List Int} {items : List Nd} {order : List So} (hpl : PlainQ group items order) {L : List Rw} (hv : RowsV L items) {g h g' h' : List Rw} (hg : ∀ x ∈ g, x ∈ L) (hh : ∀ x ∈ h, x ∈ L) (hl : Like (rcmp (byOf group)) g g') (hl' : Like (rcmp (byOf group)) h h') : gcmp order g h = gcmp order g' h' := by
  have one : ∀ {g g' : List Rw}, (∀ x ∈ g, x ∈ L) → Like (rcmp (byOf group)) g g' → ∀ o ∈ order, atV (firstR g).l o.at_ = atV (firstR g').l o.at_ := fun {g g'} hg ⟨hp, hne, hz⟩ o ho => by
    have hne' : g' ≠ [] := fun e => by subst e; exact hne hp.eq_nil
    have hx := firstR_mem hne
    have hy := firstR_mem hne'
    exact like_at (hv.1 _ (hg _ hx)) (hv.1 _ (hg _ (hp.mem_iff.2 hy))) (hz _ hx _ hy) (hpl.2 o ho)
  have e1 := one hg hl
  have e2 := one hh hl'
  unfold gcmp
  clear one hl hl' hpl hg hh
  induction order with
  | nil => rfl
  | cons o l ih =>
    unfold ordR
    rw [e1 o (by simp), e2 o (by simp), ih (fun o ho => e1 o (by simp [ho])) (fun o ho => e2 o (by simp [ho]))]
/-- Of turned rows the same is answered, if a query is grouped and plain. -/
theorem grouped_same {group : List Int} {items : List Nd} {order : List So} (hpl : PlainQ group items order) {L O : List Rw} (hL : L ≠ []) (hv : RowsV L items) (hp : L.Perm O) :
    (groupsV true group order L).map (rowV items) = (groupsV true group order O).map (rowV items) := by
  have hZ : ∃ Z : List (List Rw × List Rw), Z.map Prod.fst = baseG true group L ∧ Z.map Prod.snd = baseG true group O ∧ ∀ z ∈ Z, Like (rcmp (byOf group)) z.1 z.2 := by
    unfold baseG
    simp only [↓reduceIte]
    by_cases hg : group = []
    · rw [if_pos hg, if_pos hg]
      refine ⟨[(L, O)], rfl, rfl, fun z hz => ?_⟩
      rw [List.mem_singleton.1 hz]
      refine ⟨hp, hL, fun x _ y _ => ?_⟩
      subst hg
      rfl
    · rw [if_neg hg, if_neg hg]
      have ho := rcmp_ord (byOf group)
      exact runs_like ho _ _ _ (Nat.le_refl _) (Srt.ssort_sorted ho L) (Srt.ssort_sorted ho O) (((Srt.ssort_perm _ L).trans hp).trans (Srt.ssort_perm _ O).symm)
  obtain ⟨Z, z1, z2, z3⟩ := hZ
  have hmem : ∀ z ∈ Z, ∀ x ∈ z.1, x ∈ L := fun z hz x hx => baseG_mem (gr := true) (group := group) z.1 (by rw [← z1]; exact List.mem_map.2 ⟨z, hz, rfl⟩) x hx
  have s1 : (Srt.ssort (fun x y : List Rw × List Rw => gcmp order x.1 y.1) Z).map Prod.fst = groupsV true group order L := by
    rw [ssort_on (cmp := gcmp order) Prod.fst Z, z1]; rfl
  have s2 : (Srt.ssort (fun x y : List Rw × List Rw => gcmp order x.2 y.2) Z).map Prod.snd = groupsV true group order O := by
    rw [ssort_on (cmp := gcmp order) Prod.snd Z, z2]; rfl
  rw [← s1, ← s2, Srt.ssort_congr Z (c := fun x y : List Rw × List Rw => gcmp order x.1 y.1) (d := fun x y => gcmp order x.2 y.2) fun x hx y hy => gcmp_like hpl hv (hmem x hx) (hmem y hy) (z3 x hx) (z3 y hy)]
  rw [List.map_map, List.map_map]
  refine List.map_congr_left fun z hz => ?_
  have hz' : z ∈ Z := (Srt.ssort_perm _ Z).mem_iff.1 hz
  exact rowV_like hpl hv (hmem z hz') (z3 z hz')
/-- What turned rows answer, where the elder answer holds rows that are alike. -/
theorem turned_class {gr : Bool} {group : List Int} {items : List Nd} {order : List So} (hpl : gr = true → PlainQ group items order) {L O : List Rw} (hL : L ≠ []) (hv : RowsV L items) (hp : L.Perm O) {s e : Nat}
    (hc : Srt.Cls (gcmp order) (groupsV gr group order L) s e) :
    (((groupsV gr group order O).map (rowV items)).drop s |>.take (e - s)).Perm (((groupsV gr group order L).map (rowV items)).drop s |>.take (e - s)) := by
  cases gr with
  | true => rw [grouped_same (hpl rfl) hL hv hp]
  | false =>
    have ho := gcmp_ord order
    have h := hc.perm ho (Srt.ssort_sorted ho _) (Srt.ssort_sorted ho (baseG false group O)) (((Srt.ssort_perm _ _).trans (show (baseG false group O).Perm (baseG false group L) from hp.symm.map _)).trans (Srt.ssort_perm _ _).symm)
    have h2 := h.map (rowV items)
    rw [List.map_take, List.map_drop, List.map_take, List.map_drop] at h2
    exact h2
theorem turned_len {gr : Bool} {group : List Int} {items : List Nd} {order : List So} (hpl : gr = true → PlainQ group items order) {L O : List Rw} (hL : L ≠ []) (hv : RowsV L items) (hp : L.Perm O) : (groupsV gr group order O).length = (groupsV gr group order L).length := by
  cases gr with
  | true =>
    have := congrArg List.length (grouped_same (hpl rfl) hL hv hp)
    rw [List.length_map, List.length_map] at this
    exact this.symm
  | false =>
    unfold groupsV baseG
    rw [Srt.ssort_length, Srt.ssort_length]
    simp [hp.length_eq]
end Ev
end Go.Proofs.Ytknfnhmkiooifaa
end

section
/-
  The contract of the document's Legal.
-/
namespace Go.Proofs.Ytknfnhmkiooifaa
set_option linter.unusedSimpArgs false
set_option linter.unusedVariables false
open Go.RowKit

namespace Ev
/-- May SA be what turned rows answer, where the document has the groups G, and SR of them? -/
def LegalA (order : List So) (n : Nat) (G : List (List Rw)) (SA SR : List (List Va)) : Prop :=
  ∀ s e, Srt.Cls (gcmp order) G s e → s < n → ∀ t ∈ (SA.drop s).take (min e n - s), ((SA.drop s).take (min e n - s)).countP (fun x => sameL x t) ≤ ((SR.drop s).take (e - s)).countP (fun x => sameL x t)
end Ev
namespace Srt
variable {α : Type} {cmp : α → α → Int}
/-- What lies ahead of f is below what lies behind. -/
def Bnd (cmp : α → α → Int) (X : List α) (f : Nat) : Prop := ∀ (i j : Nat) (hi : i < f) (hf : f ≤ j) (hj : j < X.length), cmp (X[i]'(by omega)) X[j] < 0
def Run (cmp : α → α → Int) (X : List α) (f e : Nat) : Prop := ∀ (i : Nat) (h : i < X.length) (h2 : f ≤ i), i < e → cmp X[i] (X[f]'(by omega)) = 0
theorem Bnd.zero {X : List α} : Bnd cmp X 0 := fun i j hi => by omega
theorem Run.one (ho : Ord cmp) {X : List α} {f : Nat} : Run cmp X f (f + 1) := fun i h h2 h3 => by
  obtain rfl : i = f := by omega
  exact ho.self _
theorem Run.more {X : List α} {f e : Nat} (h : Run cmp X f e) (he : e < X.length) (hfe : f < e) (hc : cmp X[e] (X[f]'(by omega)) = 0) : Run cmp X f (e + 1) := fun i h1 h2 h3 => by
  by_cases hi : i = e
  · subst hi; exact hc
  · exact h i h1 h2 (by omega)
theorem cls_of (ho : Ord cmp) {X : List α} (hs : Sorted cmp X) {f e : Nat} (hfe : f < e) (hel : e ≤ X.length) (hb : Bnd cmp X f) (hr : Run cmp X f e) (hx : ∀ (h : e < X.length), cmp (X[f]'(by omega)) X[e] ≠ 0) : Cls cmp X f e := by
  refine ⟨hfe, hel, fun i h => hb i f h (Nat.le_refl _) (by omega), fun i h h2 => hr i (by omega) h2 h, fun i h h2 => ?_⟩
  have he : e < X.length := by omega
  have h1 := hx he
  have h3 := sorted_le ho hs (i := f) (j := e) (by omega) he
  have h4 := sorted_le ho hs (i := e) (j := i) h2 h
  have h5 := ho.anti X[f] X[e]
  exact ho.lt_of_lt_of_le (y := X[e]) (by omega) h4
theorem Cls.bnd (ho : Ord cmp) {X : List α} {f e : Nat} (h : Cls cmp X f e) (hb : Bnd cmp X f) : Bnd cmp X e := fun i j hi hj hl => by
  have hse := h.se
  by_cases hif : i < f
  · exact hb i j hif (by omega) hl
  · have h1 := h.eq i hi (by omega)
    have h2 := h.hi j hl hj
    have h3 := ho.anti (X[i]'(by omega)) (X[f]'(by omega))
    exact ho.lt_of_le_of_lt (y := X[f]'(by omega)) (by omega) h2
end Srt
theorem DRowsAt.part {w : World} {A : Option Addr} {S : List (List Va)} {X : List Rw} (h : DRowsAt w A S X) (s m : Nat) : DRowsAt w (A.map fun x => x.add s) ((S.drop s).take m) ((X.drop s).take m) := by
  have hl := h.slen
  refine ⟨?_, fun x hx => h.rr x (List.mem_of_mem_drop (List.mem_of_mem_take hx)), ?_, fun t ht => h.cl t (List.mem_of_mem_drop (List.mem_of_mem_take ht)), ?_, fun x hx => h.lens x (List.mem_of_mem_drop (List.mem_of_mem_take hx))⟩
  · have := (h.r.drop s).take m
    rw [show s * eRw.sz = s from Nat.mul_one s] at this
    exact this
  · refine ⟨by simp [hl], fun i h1 h2 => ?_⟩
    rw [List.length_take, List.length_drop] at h1
    have e := h.dv.2 (s + i) (by omega) (by rw [List.length_map]; omega)
    simp only [List.getElem_take, List.getElem_drop, List.getElem_map] at e ⊢
    exact e
  · rw [List.length_take, List.length_drop]; have := h.len; omega
theorem RLoop.drows {B : Nat} {W : World} {A : Option Addr} {c : Nat} {R : List Rw} {S : List (List Va)} (h : RLoop B W A c R) (hd : Ev.DvR S (R.map Rw.l)) (hc : ∀ s ∈ S, ∀ v ∈ s, Key.clean v = v) (hl : S.length ≤ 1000000) (hls : ∀ s ∈ S, s.length ≤ 1000000) : DRowsAt W A S R := by
  have e := hd.1
  rw [List.length_map] at e
  refine ⟨h.own.row, h.rows, hd, hc, by omega, fun x hx => ?_⟩
  obtain ⟨i, hi, rfl⟩ := List.getElem_of_mem hx
  have := (hd.2 i (by omega) (by rw [List.length_map]; exact hi)).1
  rw [List.getElem_map] at this
  have := hls _ (List.getElem_mem (show i < S.length by omega))
  omega
set_option maxRecDepth 100000 in
set_option maxHeartbeats 8000000 in
theorem legal_any (w : World) (q : Qr) (A B : Option Addr) (c d : Nat) (L : List Rw) (SA : List (List Va)) (R : List Rw) (hq : QrIn w q) (hL : RowsOk w A L) (hll : L.length ≤ 100000) (hA : DRowsAt w B SA R) (hdc : R.length ≤ d)
    (hn : R.length = (Ev.limit q.lim (Ev.groupsV q.grouped q.group q.order L)).length)
    (hok : Ev.LegalA q.order R.length (Ev.groupsV q.grouped q.group q.order L) SA ((Ev.groupsV q.grouped q.group q.order L).map (Ev.rowV q.items))) :
    Calls Try.prog 20 #[q.v, .slice A L.length c, .slice B R.length d] w fun e w' => e = .returned (.bool true) ∧ Below w.heap.size w w' := by
  have HQ := Lib.hid hq
  have HL := Lib.hid hL
  have HA := Lib.hid hA
  have HOK := Lib.hid hok
  have hql := hq.lim
  have hRl := hA.len
  obtain ⟨D, hD⟩ : ∃ D, Ev.groupsV q.grouped q.group q.order L = D := ⟨_, rfl⟩
  rw [hD] at hn HOK
  have HSO : Hid (Srt.Sorted (Ev.gcmp q.order) D) := by
    show Srt.Sorted _ _
    rw [← hD]
    exact Srt.ssort_sorted (Ev.gcmp_ord _) _
  have HD := Lib.hid hD
  have HN := Lib.hid hn
  clear hq hL hA hok hD hn
  go_enter Try.func20, Try.ntmps20
  go_upto_region 1 with (refine wpList_box_qr rfl (.tmp 0) rfl q rfl ?_; intro W1 hb1 hz1 hB1)
  have HB1 := Lib.hid hB1
  have hw1 : w.heap.size ≤ W1.heap.size := hB1.size
  clear hB1 hz1
  generalize hg3 : w.heap.size = g3 at hb1 ⊢
  have HG3 := Lib.hid hg3
  clear hg3
  go_wp2_with (refine wpList_load_qr rfl (.tmp 3) rfl g3 rfl hb1 ?_)
  refine (dgroups_any W1 q A c L (HQ.out.below HB1.out) (HL.out.below HB1.out) hll).mono ?_
  rintro e W2 ⟨A2, c2, G, rfl, hG, hGR, hGc, hGm, hGD, hB2⟩
  have HB2 : Hid (Below W1.heap.size W1 W2) := hB2
  have HG := Lib.hid hG
  have HGR := Lib.hid hGR
  have HGD : Hid (G.map Gr.l = D) := hGD.trans HD.out
  have HBK : Hid (Blk W2 g3 40 q.cells) := hb1.below hB2
  have HGC : Hid (G.length = D.length) := by show _ = _; rw [← HGD.out, List.length_map]
  clear hb1 hG hGR hGD hB2
  have hRD : R.length ≤ G.length := by
    rw [HN.out, HGC.out, Ev.limit_len]
    split <;> omega
  have HLN : Hid (0 ≤ q.lim ∧ q.lim < (G.length : Int) → (q.lim = (R.length : Int))) := fun hx => by
    have h := HN.out
    rw [Ev.limit_len, if_pos ⟨hx.1, by rw [← HGC.out]; exact hx.2⟩] at h
    omega
  have HLM : Hid (¬ (0 ≤ q.lim ∧ q.lim < (G.length : Int)) → G.length = R.length) := fun hx => by
    have h := HN.out
    rw [Ev.limit_len, if_neg (by rw [← HGC.out]; exact hx)] at h
    have := HGC.out
    omega
  have hGl : G.length ≤ 1000000 := by
    rw [HGC.out, ← HD.out]
    unfold Ev.groupsV
    rw [Srt.ssort_length]
    have := Ev.baseG_len q.grouped q.group L
    omega
  obtain ⟨-, -, -, -, c8⟩ := Blk.qr HBK.out
  go_upto_region 3 with fail
  go_cut [25] from 17 to 25 (fun v wx => Hid (v = .bool (decide (0 ≤ q.lim ∧ q.lim < (G.length : Int))) ∧ wx = W2))
  case first =>
    by_cases h0 : 0 ≤ q.lim
    · by_cases h1 : q.lim < (G.length : Int)
      · have HF : Hid (decide (0 ≤ q.lim ∧ q.lim < (G.length : Int)) = true) := decide_eq_true ⟨h0, h1⟩
        go_wp2_with fail
        go_meet
        case rel => exact ⟨by rw [HF.out], rfl⟩
      · have HF : Hid (decide (0 ≤ q.lim ∧ q.lim < (G.length : Int)) = false) := decide_eq_false (fun h => h1 h.2)
        go_wp2_with fail
        go_meet
        case rel => exact ⟨by rw [HF.out], rfl⟩
    · have HF : Hid (decide (0 ≤ q.lim ∧ q.lim < (G.length : Int)) = false) := decide_eq_false (fun h => h0 h.1)
      go_wp2_with fail
      go_meet
      case rel => exact ⟨by rw [HF.out], rfl⟩
  case rest =>
    obtain ⟨hv, rfl⟩ := hcut.out
    subst hv
    clear hcut
    go_upto_if 25 with fail
    go_cut [8] from 25 to 27 (fun v wx => Hid (v = .int .i64 (R.length : Int) ∧ wx = wc))
    case first =>
      by_cases hx : 0 ≤ q.lim ∧ q.lim < (G.length : Int)
      · have HF := Lib.hid (HLN.out hx)
        rw [decide_eq_true hx]
        clear hx
        go_wp2_with fail
        go_meet
        case rel => exact ⟨by rw [HF.out], rfl⟩
      · have HF := Lib.hid (HLM.out hx)
        rw [decide_eq_false hx]
        clear hx
        go_wp2_with fail
        go_meet
        case rel => exact ⟨by rw [HF.out], rfl⟩
    case rest =>
      obtain ⟨hv, rfl⟩ := hcut.out
      subst hv
      clear hcut c8 HLN HLM
      have HRC := Lib.hid (drows_any wc q A2 c2 G (HQ.out.below (HB1.out.trans (HB2.out.mono hw1))) HG.out HGR.out hGl)
      go_wp2_with (refine wpList_load_qr rfl (.tmp 3) rfl g3 rfl HBK.out ?_)
      refine (show Calls _ _ #[q.v, .slice A2 G.length c2] _ _ from HRC.out).mono ?_
      rintro e W9 ⟨A9, c9, R9, rfl, hR9, hv9, hB9⟩
      clear HRC
      have hv9 : Ev.DvR ((G.map Gr.l).map (Ev.rowV q.items)) (R9.map Rw.l) := hv9
      rw [HGD.out] at hv9
      have HB9 := Lib.hid hB9
      have HR9 : Hid (DRowsAt W9 A9 (D.map (Ev.rowV q.items)) R9) := by
        refine hR9.drows hv9 (fun s hs v hv => ?_) (by rw [List.length_map, ← HGC.out]; exact hGl) (fun s hs => ?_)
        · obtain ⟨g, -, rfl⟩ := List.mem_map.1 hs
          obtain ⟨n, -, rfl⟩ := List.mem_map.1 hv
          exact Ev.clean_item n g
        · obtain ⟨g, -, rfl⟩ := List.mem_map.1 hs
          unfold Ev.rowV
          rw [List.length_map]
          exact HQ.out.il
      have HR9C : Hid (R9.length ≤ c9) := hR9.own.cap
      have hR9l : R9.length = G.length := by
        have h := hv9.1
        rw [List.length_map, List.length_map] at h
        have := HGC.out
        omega
      have HW9 : Hid (Below w.heap.size w W9) := HB1.out.trans ((HB2.out.then hB9).mono hw1)
      clear hR9 hv9 hB9
      rw [hR9l]
      have HR9L := Lib.hid hR9l
      clear hR9l
      have HST : Hid (Srt.Bnd (Ev.gcmp q.order) D 0 ∧ Below W9.heap.size W9 W9) := ⟨Srt.Bnd.zero, Below.refl _ _⟩
      go_upto_region 9 with fail
      go_loopw [10] (fun fv wr => ∃ f : Nat, f ≤ G.length ∧ fv = .int .i64 (f : Int) ∧ Hid (Srt.Bnd (Ev.gcmp q.order) D f ∧ Below W9.heap.size W9 wr)) (fun fv _ => R.length - (intOf fv).toNat)
      case atStart => exact ⟨0, Nat.zero_le _, by go_num, HST.out⟩
      case round =>
        obtain ⟨f, hf, rfl, HJ⟩ := hrel
        obtain ⟨wo, rfl⟩ : ∃ wo, wo = wr := ⟨_, rfl⟩
        clear HST
        by_cases hfl : f < R.length
        · have hfi : (f : Int) < (R.length : Int) := by omega
          have hfD : f < D.length := by have := HGC.out; omega
          have HST : Hid (Srt.Run (Ev.gcmp q.order) D f (f + 1) ∧ Below wo.heap.size wo wo) := ⟨Srt.Run.one (Ev.gcmp_ord _), Below.refl _ _⟩
          go_upto_region 11 with fail
          go_loopw [11] (fun ev wr => ∃ e : Nat, f < e ∧ e ≤ G.length ∧ ev = .int .i64 (e : Int) ∧ Hid (Srt.Run (Ev.gcmp q.order) D f e ∧ Below wo.heap.size wo wr)) (fun ev _ => G.length - (intOf ev).toNat)
          case atStart => exact ⟨f + 1, by omega, by omega, by go_num, HST.out⟩
          case round =>
            obtain ⟨e, hfe, hel, rfl, HK⟩ := hrel
            clear HST
            have HWR : Hid (Below W9.heap.size W9 wr.drew) := (HJ.out.2.then HK.out.2).drewR
            obtain ⟨-, -, -, c7, -⟩ := Blk.qr ((HBK.out.below HB9.out).below HWR.out)
            by_cases hell : e < G.length
            · have hei : (e : Int) < (G.length : Int) := by omega
              have hfG : f < G.length := by omega
              have HGW : Hid (ERow eG3 wr.drew A2 G) := HG.out.below (HB9.out.trans (HWR.out.mono HB9.out.size))
              obtain ⟨gb, go, rfl, -, q0⟩ := g3_at HGW.out hfG
              have q1 : wr.drew.cell? ⟨gb, go + e, none⟩ = some G[e].h := by
                obtain ⟨b', o', e', -, h1⟩ := g3_at HGW.out hell
                cases e'
                exact h1
              have HDF : Hid (D[f] = G[f].l) := by
                have e1 : D[f]? = (G.map Gr.l)[f]? := by rw [HGD.out]
                show D[f] = G[f].l
                simpa [hfD, hfG] using e1
              have heD : e < D.length := by have := HGC.out; omega
              have HDE : Hid (D[e] = G[e].l) := by
                have e1 : D[e]? = (G.map Gr.l)[e]? := by rw [HGD.out]
                show D[e] = G[e].l
                simpa [heD, hell] using e1
              have HRF : Hid (RowsOk wr.drew G[f].a G[f].l) := (HGR.out _ (List.getElem_mem hfG)).below (HB9.out.trans (HWR.out.mono HB9.out.size))
              have HRE : Hid (RowsOk wr.drew G[e].a G[e].l) := (HGR.out _ (List.getElem_mem hell)).below (HB9.out.trans (HWR.out.mono HB9.out.size))
              have HQD : Hid (QrIn wr.drew q) := HQ.out.below (HW9.out.then HWR.out)
              have HKB : Hid (Below wo.heap.size wo wr.drew) := HK.out.2.drewR
              have HNXT : Hid (Ev.gcmp q.order D[f] D[e] = 0 → Srt.Run (Ev.gcmp q.order) D f (e + 1)) := fun h0 => HK.out.1.more heD hfe (by have := (Ev.gcmp_ord q.order).anti D[f] D[e]; omega)
              have HSTOP : Hid (Ev.gcmp q.order D[f] D[e] ≠ 0 → Srt.Cls (Ev.gcmp q.order) D f e) := fun h0 => Srt.cls_of (Ev.gcmp_ord _) HSO.out hfe (by omega) HJ.out.1 HK.out.1 (fun _ => h0)
              have HCO : Hid (Ev.gcmp q.order D[f] D[e] = Ev.ordR q.order (Ev.firstR G[f].l).l (Ev.firstR G[e].l).l) := by show _ = _; rw [HDF.out, HDE.out]; rfl
              generalize G[f] = rf at q0 HRF HCO
              generalize G[e] = re at q1 HRE HCO
              unfold Gr.h at q0 q1
              clear HK HDF HDE
              go_upto_region 11 with fail
              refine wp_region_plan (.take 0 (.take 1 (.take 2 (.take 3 (.take 4 (.take 5 (.take 6 (.take 7 (.take 8 (.take 9 (.take 10 (.take 12 (.take 13 (.take 14 (.take 15 (.run 11 [5, 6, 12, 13, 14, 15] (.run 16 [5, 6] (.run 17 [] (.take 18 (.take 19 .fin)))))))))))))))))))) (by kernel_rfl) (by kernel_rfl) (by kernel_rfl) (by kernel_rfl) ?_
              repeat' (first | (refine hZ _ _ ?_; clear hZ) | (refine hZ _ ?_; clear hZ) | (refine hZ ?_; clear hZ) | rw [again_nil] | rw [walk_fin] | ((first | rw [walk_take] | rw [walk_run] | rw [again_cons]); intro Z hZ; simp only [sel, List.getElem?_toArray, List.getElem?_cons_zero, List.getElem?_cons_succ]; go_wp2_with (fail)))
              refine (show Calls _ _ #[.slice rf.a rf.l.length rf.c] _ _ from dfirst_any _ rf.a rf.c rf.l HRF.out.r HRF.out.len).mono ?_
              rintro e1 W3 ⟨rfl, hB3⟩
              have HB3 : Hid (Below wr.drew.heap.size wr.drew W3) := hB3
              have q1 := cell_later hB3 q1
              have c7 := cell_later hB3 c7
              clear q0 hB3
              go_wp2_with fail
              repeat' (first | (refine hZ _ _ ?_; clear hZ) | (refine hZ _ ?_; clear hZ) | (refine hZ ?_; clear hZ) | rw [again_nil] | rw [walk_fin] | ((first | rw [walk_take] | rw [walk_run] | rw [again_cons]); intro Z hZ; simp only [sel, List.getElem?_toArray, List.getElem?_cons_zero, List.getElem?_cons_succ]; go_wp2_with (fail)))
              refine (show Calls _ _ #[.slice re.a re.l.length re.c] _ _ from dfirst_any _ re.a re.c re.l (HRE.out.below HB3.out).r HRE.out.len).mono ?_
              rintro e1 W4 ⟨rfl, hB4⟩
              have HB4 := Lib.hid (HB3.out.then hB4)
              have c7 := cell_later hB4 c7
              clear q1 hB4
              go_wp2_with fail
              repeat' (first | (refine hZ _ _ ?_; clear hZ) | (refine hZ _ ?_; clear hZ) | (refine hZ ?_; clear hZ) | rw [again_nil] | rw [walk_fin] | ((first | rw [walk_take] | rw [walk_run] | rw [again_cons]); intro Z hZ; simp only [sel, List.getElem?_toArray, List.getElem?_cons_zero, List.getElem?_cons_succ]; go_wp2_with (fail)))
              refine (show Calls _ _ #[.slice q.oa q.order.length q.oc, (Ev.firstR rf.l).v, (Ev.firstR re.l).v] _ _ from rordr_any W4 q.oa (Ev.firstR rf.l).a (Ev.firstR re.l).a q.oc (Ev.firstR rf.l).c (Ev.firstR re.l).c q.order (Ev.firstR rf.l).l (Ev.firstR re.l).l (HQD.out.below HB4.out).o HQ.out.oin (by have := HQ.out.ol; omega) (HRF.out.below HB4.out).first (HRE.out.below HB4.out).first).mono ?_
              rintro e1 W5 ⟨rfl, hB5⟩
              rw [← HCO.out]
              have HB5 := Lib.hid (HKB.out.then (HB4.out.then hB5))
              clear c7 hB5
              generalize Ev.gcmp q.order D[f] D[e] = o at HNXT HSTOP HCO ⊢
              by_cases ho : o = 0
              · have HR : Hid (Srt.Run (Ev.gcmp q.order) D f (e + 1) ∧ Below wo.heap.size wo W5) := ⟨HNXT.out ho, HB5.out⟩
                subst ho
                go_wp2_with fail
                repeat' (first | (refine hZ _ _ ?_; clear hZ) | (refine hZ _ ?_; clear hZ) | (refine hZ ?_; clear hZ) | rw [again_nil] | rw [walk_fin] | ((first | rw [walk_take] | rw [walk_run] | rw [again_cons]); intro Z hZ; simp only [sel, List.getElem?_toArray, List.getElem?_cons_zero, List.getElem?_cons_succ]; go_wp2_with (fail)))
                go_wp2_with fail
                go_roundw
                case rel => exact ⟨e + 1, by omega, by omega, by go_num, HR.out⟩
                case measure => simp [intOf]; omega
              · have hob : (o == 0) = false := by simpa using ho
                have HCLS := Lib.hid (HSTOP.out ho)
                clear ho
                go_wp2_with fail
                repeat' (first | (refine hZ _ _ ?_; clear hZ) | (refine hZ _ ?_; clear hZ) | (refine hZ ?_; clear hZ) | rw [again_nil] | rw [walk_fin] | ((first | rw [walk_take] | rw [walk_run] | rw [again_cons]); intro Z hZ; simp only [sel, List.getElem?_toArray, List.getElem?_cons_zero, List.getElem?_cons_succ]; go_wp2_with (fail)))
                obtain ⟨bb, ob, rfl, -, -⟩ := rw_at HA.out.r hfl
                obtain ⟨b9, o9, rfl, -, -⟩ := rw_at HR9.out.r (show f < R9.length by rw [HR9L.out]; omega)
                have HWI : Hid (∀ W, Below W9.heap.size W9 W → ∀ k : Nat, min e R.length = k → Calls Try.prog 41 #[.slice (some ⟨bb, ob + f, none⟩) (k - f) (d - f), .slice (some ⟨b9, o9 + f, none⟩) (e - f) (c9 - f)] W fun e w' => e = .returned (.bool true) ∧ Below W.heap.size W w') := fun W hW k hk => by
                  have h := within_any W _ _ (d - f) (c9 - f) _ _ _ _ ((HA.out.below (HW9.out.then hW)).part f (k - f)) ((HR9.out.below hW).part f (e - f)) (by
                    have := HOK.out f e HCLS.out hfl
                    rw [hk] at this
                    exact this)
                  rw [show (some (⟨bb, ob, none⟩ : Addr)).map (fun x => x.add f) = some ⟨bb, ob + f, none⟩ by simp [Addr.add], show (some (⟨b9, o9, none⟩ : Addr)).map (fun x => x.add f) = some ⟨b9, o9 + f, none⟩ by simp [Addr.add]] at h
                  rw [show ((R.drop f).take (k - f)).length = k - f by rw [List.length_take, List.length_drop]; omega, show ((R9.drop f).take (e - f)).length = e - f by rw [List.length_take, List.length_drop, HR9L.out]; omega] at h
                  exact h
                have hei2 : (e : Int) ≤ (c9 : Int) := by have := HR9C.out; have := HR9L.out; omega
                have hfe2 : (f : Int) ≤ (e : Int) := by omega
                have HBX : Hid (Below W9.heap.size W9 W5.drew) := (HJ.out.2.then HB5.out).drewR
                have HBN : Hid (Srt.Bnd (Ev.gcmp q.order) D e) := HCLS.out.bnd (Ev.gcmp_ord _) HJ.out.1
                by_cases hmin : R.length < e
                · have HC := Lib.hid (HWI.out _ HBX.out R.length (by omega))
                  go_upto_region 13 with fail
                  refine wp_region_plan (.take 0 (.take 1 (.take 2 (.take 3 (.take 4 (.take 5 (.take 6 (.take 7 (.take 8 (.take 9 (.run 10 [] (.take 11 .fin)))))))))))) (by kernel_rfl) (by kernel_rfl) (by kernel_rfl) (by kernel_rfl) ?_
                  repeat' (first | (refine hZ _ _ ?_; clear hZ) | (refine hZ _ ?_; clear hZ) | (refine hZ ?_; clear hZ) | rw [again_nil] | rw [walk_fin] | ((first | rw [walk_take] | rw [walk_run] | rw [again_cons]); intro Z hZ; simp only [sel, List.getElem?_toArray, List.getElem?_cons_zero, List.getElem?_cons_succ]; go_wp2_with (fail)))
                  refine (show Calls _ _ _ _ _ from HC.out).mono ?_
                  rintro e1 W6 ⟨rfl, hB6⟩
                  have HR : Hid (Srt.Bnd (Ev.gcmp q.order) D e ∧ Below W9.heap.size W9 W6) := ⟨HBN.out, HBX.out.then hB6⟩
                  clear hB6 HC
                  go_wp2_with fail
                  repeat' (first | (refine hZ _ _ ?_; clear hZ) | (refine hZ _ ?_; clear hZ) | (refine hZ ?_; clear hZ) | rw [again_nil] | rw [walk_fin] | ((first | rw [walk_take] | rw [walk_run] | rw [again_cons]); intro Z hZ; simp only [sel, List.getElem?_toArray, List.getElem?_cons_zero, List.getElem?_cons_succ]; go_wp2_with (fail)))
                  go_wp2_with fail
                  go_roundw
                  case rel => exact ⟨e, by omega, by go_num, HR.out⟩
                  case measure => simp [intOf]; omega
                · have HC := Lib.hid (HWI.out _ HBX.out e (by omega))
                  go_upto_region 13 with fail
                  refine wp_region_plan (.take 0 (.take 1 (.take 2 (.take 3 (.take 4 (.take 5 (.take 6 (.take 7 (.take 8 (.take 9 (.run 10 [] (.take 11 .fin)))))))))))) (by kernel_rfl) (by kernel_rfl) (by kernel_rfl) (by kernel_rfl) ?_
                  repeat' (first | (refine hZ _ _ ?_; clear hZ) | (refine hZ _ ?_; clear hZ) | (refine hZ ?_; clear hZ) | rw [again_nil] | rw [walk_fin] | ((first | rw [walk_take] | rw [walk_run] | rw [again_cons]); intro Z hZ; simp only [sel, List.getElem?_toArray, List.getElem?_cons_zero, List.getElem?_cons_succ]; go_wp2_with (fail)))
                  refine (show Calls _ _ _ _ _ from HC.out).mono ?_
                  rintro e1 W6 ⟨rfl, hB6⟩
                  have HR : Hid (Srt.Bnd (Ev.gcmp q.order) D e ∧ Below W9.heap.size W9 W6) := ⟨HBN.out, HBX.out.then hB6⟩
                  clear hB6 HC
                  go_wp2_with fail
                  repeat' (first | (refine hZ _ _ ?_; clear hZ) | (refine hZ _ ?_; clear hZ) | (refine hZ ?_; clear hZ) | rw [again_nil] | rw [walk_fin] | ((first | rw [walk_take] | rw [walk_run] | rw [again_cons]); intro Z hZ; simp only [sel, List.getElem?_toArray, List.getElem?_cons_zero, List.getElem?_cons_succ]; go_wp2_with (fail)))
                  go_wp2_with fail
                  go_roundw
                  case rel => exact ⟨e, by omega, by go_num, HR.out⟩
                  case measure => simp [intOf]; omega
            · have hei : ¬ (e : Int) < (G.length : Int) := by omega
              have HCLS : Hid (Srt.Cls (Ev.gcmp q.order) D f e) := Srt.cls_of (Ev.gcmp_ord _) HSO.out hfe (by have := HGC.out; omega) HJ.out.1 HK.out.1 (fun h => absurd h (by have := HGC.out; omega))
              have HB5 := Lib.hid HK.out.2.drewR
              clear HK c7
              go_upto_region 11 with fail
              refine wp_region_plan (.take 0 (.take 1 (.take 2 (.take 3 (.take 4 (.take 5 (.take 6 (.take 7 (.take 8 (.take 9 (.take 10 (.take 12 (.take 13 (.take 14 (.take 15 (.run 11 [5, 6, 12, 13, 14, 15] (.run 16 [5, 6] (.run 17 [] (.take 18 (.take 19 .fin)))))))))))))))))))) (by kernel_rfl) (by kernel_rfl) (by kernel_rfl) (by kernel_rfl) ?_
              repeat' (first | (refine hZ _ _ ?_; clear hZ) | (refine hZ _ ?_; clear hZ) | (refine hZ ?_; clear hZ) | rw [again_nil] | rw [walk_fin] | ((first | rw [walk_take] | rw [walk_run] | rw [again_cons]); intro Z hZ; simp only [sel, List.getElem?_toArray, List.getElem?_cons_zero, List.getElem?_cons_succ]; go_wp2_with (fail)))
              obtain ⟨bb, ob, rfl, -, -⟩ := rw_at HA.out.r hfl
              obtain ⟨b9, o9, rfl, -, -⟩ := rw_at HR9.out.r (show f < R9.length by rw [HR9L.out]; omega)
              have HWI : Hid (∀ W, Below W9.heap.size W9 W → ∀ k : Nat, min e R.length = k → Calls Try.prog 41 #[.slice (some ⟨bb, ob + f, none⟩) (k - f) (d - f), .slice (some ⟨b9, o9 + f, none⟩) (e - f) (c9 - f)] W fun e w' => e = .returned (.bool true) ∧ Below W.heap.size W w') := fun W hW k hk => by
                have h := within_any W _ _ (d - f) (c9 - f) _ _ _ _ ((HA.out.below (HW9.out.then hW)).part f (k - f)) ((HR9.out.below hW).part f (e - f)) (by
                  have := HOK.out f e HCLS.out hfl
                  rw [hk] at this
                  exact this)
                rw [show (some (⟨bb, ob, none⟩ : Addr)).map (fun x => x.add f) = some ⟨bb, ob + f, none⟩ by simp [Addr.add], show (some (⟨b9, o9, none⟩ : Addr)).map (fun x => x.add f) = some ⟨b9, o9 + f, none⟩ by simp [Addr.add]] at h
                rw [show ((R.drop f).take (k - f)).length = k - f by rw [List.length_take, List.length_drop]; omega, show ((R9.drop f).take (e - f)).length = e - f by rw [List.length_take, List.length_drop, HR9L.out]; omega] at h
                exact h
              have hei2 : (e : Int) ≤ (c9 : Int) := by have := HR9C.out; have := HR9L.out; omega
              have hfe2 : (f : Int) ≤ (e : Int) := by omega
              have HBX : Hid (Below W9.heap.size W9 wr.drew.drew) := (HJ.out.2.then HB5.out).drewR
              have HBN : Hid (Srt.Bnd (Ev.gcmp q.order) D e) := HCLS.out.bnd (Ev.gcmp_ord _) HJ.out.1
              by_cases hmin : R.length < e
              · have HC := Lib.hid (HWI.out _ HBX.out R.length (by omega))
                go_upto_region 13 with fail
                refine wp_region_plan (.take 0 (.take 1 (.take 2 (.take 3 (.take 4 (.take 5 (.take 6 (.take 7 (.take 8 (.take 9 (.run 10 [] (.take 11 .fin)))))))))))) (by kernel_rfl) (by kernel_rfl) (by kernel_rfl) (by kernel_rfl) ?_
                repeat' (first | (refine hZ _ _ ?_; clear hZ) | (refine hZ _ ?_; clear hZ) | (refine hZ ?_; clear hZ) | rw [again_nil] | rw [walk_fin] | ((first | rw [walk_take] | rw [walk_run] | rw [again_cons]); intro Z hZ; simp only [sel, List.getElem?_toArray, List.getElem?_cons_zero, List.getElem?_cons_succ]; go_wp2_with (fail)))
                refine (show Calls _ _ _ _ _ from HC.out).mono ?_
                rintro e1 W6 ⟨rfl, hB6⟩
                have HR : Hid (Srt.Bnd (Ev.gcmp q.order) D e ∧ Below W9.heap.size W9 W6) := ⟨HBN.out, HBX.out.then hB6⟩
                clear hB6 HC
                go_wp2_with fail
                repeat' (first | (refine hZ _ _ ?_; clear hZ) | (refine hZ _ ?_; clear hZ) | (refine hZ ?_; clear hZ) | rw [again_nil] | rw [walk_fin] | ((first | rw [walk_take] | rw [walk_run] | rw [again_cons]); intro Z hZ; simp only [sel, List.getElem?_toArray, List.getElem?_cons_zero, List.getElem?_cons_succ]; go_wp2_with (fail)))
                go_wp2_with fail
                go_roundw
                case rel => exact ⟨e, by omega, by go_num, HR.out⟩
                case measure => simp [intOf]; omega
              · have HC := Lib.hid (HWI.out _ HBX.out e (by omega))
                go_upto_region 13 with fail
                refine wp_region_plan (.take 0 (.take 1 (.take 2 (.take 3 (.take 4 (.take 5 (.take 6 (.take 7 (.take 8 (.take 9 (.run 10 [] (.take 11 .fin)))))))))))) (by kernel_rfl) (by kernel_rfl) (by kernel_rfl) (by kernel_rfl) ?_
                repeat' (first | (refine hZ _ _ ?_; clear hZ) | (refine hZ _ ?_; clear hZ) | (refine hZ ?_; clear hZ) | rw [again_nil] | rw [walk_fin] | ((first | rw [walk_take] | rw [walk_run] | rw [again_cons]); intro Z hZ; simp only [sel, List.getElem?_toArray, List.getElem?_cons_zero, List.getElem?_cons_succ]; go_wp2_with (fail)))
                refine (show Calls _ _ _ _ _ from HC.out).mono ?_
                rintro e1 W6 ⟨rfl, hB6⟩
                have HR : Hid (Srt.Bnd (Ev.gcmp q.order) D e ∧ Below W9.heap.size W9 W6) := ⟨HBN.out, HBX.out.then hB6⟩
                clear hB6 HC
                go_wp2_with fail
                repeat' (first | (refine hZ _ _ ?_; clear hZ) | (refine hZ _ ?_; clear hZ) | (refine hZ ?_; clear hZ) | rw [again_nil] | rw [walk_fin] | ((first | rw [walk_take] | rw [walk_run] | rw [again_cons]); intro Z hZ; simp only [sel, List.getElem?_toArray, List.getElem?_cons_zero, List.getElem?_cons_succ]; go_wp2_with (fail)))
                go_wp2_with fail
                go_roundw
                case rel => exact ⟨e, by omega, by go_num, HR.out⟩
                case measure => simp [intOf]; omega
        · have hfi : ¬ (f : Int) < (R.length : Int) := by omega
          have HF : Hid (Below w.heap.size w wo) := HW9.out.then HJ.out.2
          go_wp2_with fail
          go_ret
          exact ⟨rfl, HF.out⟩
end Go.Proofs.Ytknfnhmkiooifaa
end

section
/-
  The contracts of the law's in and plain.
-/
namespace Go.Proofs.Ytknfnhmkiooifaa
set_option linter.unusedSimpArgs false
set_option linter.unusedVariables false
open Go.RowKit

set_option maxRecDepth 20000 in
set_option maxHeartbeats 1000000 in
theorem in14_any (w : World) (A : Option Addr) (c : Nat) (L : List Int) (n : Int) (hL : ERow eInt w A L) (hl : L.length ≤ 1000000) :
    Calls Try.prog 39 #[.slice A L.length c, .int .i64 n] w fun e w' => e = .returned (.bool (decide (n ∈ L))) ∧ Below w.heap.size w w' := by
  have HL := Lib.hid hL
  clear hL
  go_enter Try.func39, Try.ntmps39
  go_wp2_with fail
  have HST : Hid ((∀ (j : Nat) (h : j < L.length), j < 0 → L[j] ≠ n) ∧ Below w.heap.size w w) := ⟨fun j _ h => by omega, Below.refl _ _⟩
  go_loopw [9] (fun iv wr => ∃ i : Nat, i ≤ L.length ∧ iv = .int .i64 (i : Int) ∧ Hid ((∀ (j : Nat) (h : j < L.length), j < i → L[j] ≠ n) ∧ Below w.heap.size w wr)) (fun iv _ => L.length - (intOf iv).toNat)
  case atStart => exact ⟨0, Nat.zero_le _, by go_num, HST.out⟩
  case round =>
    obtain ⟨i, hi, rfl, HJ⟩ := hrel
    clear HST
    by_cases hlt : i < L.length
    · have hii : (i : Int) < (L.length : Int) := by omega
      obtain ⟨b, o, rfl, -, q0⟩ := int_at (HL.out.below HJ.out.2) hlt
      have HM : Hid (L[i] ∈ L) := List.getElem_mem hlt
      have HNX : Hid (L[i] ≠ n → ∀ (j : Nat) (h : j < L.length), j < i + 1 → L[j] ≠ n) := fun h0 j h hj => by
        by_cases hji : j = i
        · subst hji; exact h0
        · exact HJ.out.1 j h (by omega)
      obtain ⟨m, hm⟩ : ∃ m, L[i] = m := ⟨_, rfl⟩
      rw [hm] at q0 HM HNX
      clear hm
      by_cases hmn : m = n
      · subst hmn
        go_wp2_with fail
        go_ret
        exact ⟨by rw [decide_eq_true HM.out]; rfl, HJ.out.2⟩
      · have hb : (m == n) = false := by simpa using hmn
        have HR := Lib.hid (HNX.out hmn)
        clear hmn
        go_wp2_with fail
        go_roundw
        case rel => exact ⟨i + 1, by omega, by go_num, HR.out, HJ.out.2⟩
        case measure => simp [intOf]; omega
    · have hii : ¬ (i : Int) < (L.length : Int) := by omega
      have HN : Hid (n ∉ L) := fun hm => by
        obtain ⟨j, hj, e⟩ := List.getElem_of_mem hm
        exact HJ.out.1 j hj (by omega) e
      go_wp2_with fail
      go_ret
      exact ⟨by rw [decide_eq_false HN.out]; rfl, HJ.out.2⟩
namespace Ev
def itemP (group : List Int) (n : Nd) : Prop := (10 ≤ n.k ∧ n.k ≤ 13) ∨ (n.k = 2 ∧ n.at_ ∈ group)
end Ev
set_option maxRecDepth 20000 in
set_option maxHeartbeats 8000000 in
theorem plain14_any (w : World) (q : Qr) (hq : QrIn w q) : Calls Try.prog 19 #[q.v] w (RetIf w (Ev.PlainQ q.group q.items q.order)) := by
  have HQ := Lib.hid hq
  have hil := hq.il
  have hgl := hq.gl
  have hol := hq.ol
  clear hq
  go_enter Try.func19, Try.ntmps19
  go_upto_region 1 with (refine wpList_box_qr rfl (.tmp 0) rfl q rfl ?_; intro W1 hb1 hz1 hB1)
  have HB1 := Lib.hid hB1
  have hgz : w.heap.size < W1.heap.size := by omega
  have HBK := Lib.hid hb1
  clear hB1 hb1 hz1
  generalize hg1 : w.heap.size = g1 at HBK hgz ⊢
  have HG1 := Lib.hid hg1
  clear hg1
  obtain ⟨-, -, c6, -⟩ := Blk.qr HBK.out
  go_upto_region 2 with fail
  clear c6
  have HST : Hid ((∀ (j : Nat) (h : j < q.items.length), j < 0 → Ev.itemP q.group q.items[j]) ∧ Below W1.heap.size W1 W1) := ⟨fun j _ h => by omega, Below.refl _ _⟩
  go_loopw [10] (fun iv wr => ∃ i : Nat, i ≤ q.items.length ∧ iv = .int .i64 (i : Int) ∧ Hid ((∀ (j : Nat) (h : j < q.items.length), j < i → Ev.itemP q.group q.items[j]) ∧ Below W1.heap.size W1 wr)) (fun iv _ => q.items.length - (intOf iv).toNat)
  case atStart => exact ⟨0, Nat.zero_le _, by go_num, HST.out⟩
  case round =>
    obtain ⟨i, hi, rfl, HJ⟩ := hrel
    clear HST
    by_cases hlt : i < q.items.length
    · have hii : (i : Int) < (q.items.length : Int) := by omega
      have HIR : Hid (ERow eNd wr q.ia q.items) := by
        show ERow _ _ _ _
        exact HQ.out.i.below (HB1.out.trans (HJ.out.2.mono (by have := HG1.out; omega)))
      obtain ⟨ib, io, hia, -⟩ := HIR.out.at_ hlt
      rw [hia] at HIR ⊢
      clear hia
      go_upto_region 4 with (first | (refine wpList_load_nd_at rfl (.tmp 12) rfl HIR.out hlt rfl ?_) | (refine wpList_alloc_nd rfl rfl ?_; intro W6 hb6 hz6 hB6) | (refine wpList_store_nd rfl rfl (.tmp 4) (.tmp 13) rfl wr.heap.size rfl q.items[i] rfl hb6 ?_; intro W7 hb7 hg7))
      have HB7 : Hid (Below wr.heap.size wr W7) := below_of_grown hB6 hg7 (Nat.le_refl _) hB6.size
      have HNX : Hid (Ev.itemP q.group q.items[i] → ∀ (j : Nat) (h : j < q.items.length), j < i + 1 → Ev.itemP q.group q.items[j]) := fun h0 j h hj => by
        by_cases hji : j = i
        · subst hji; exact h0
        · exact HJ.out.1 j h (by omega)
      have HIB := Lib.hid (HQ.out.iin _ (List.getElem_mem hlt))
      clear hb6 hz6 hB6 hg7
      obtain ⟨n, hn⟩ : ∃ n, q.items[i] = n := ⟨_, rfl⟩
      rw [hn] at hb7 HNX HIB ⊢
      clear hn
      have HBW : Hid (Below W1.heap.size W1 W7) := HJ.out.2.then HB7.out
      obtain ⟨c0, -, -, -, -, -, d3, -⟩ := Blk.c10 hb7
      obtain ⟨c4, -⟩ := Blk.qr (HBK.out.below HBW.out)
      clear hb7 HJ
      generalize wr.heap.size = g4 at c0 d3 ⊢
      simp only [Act.put, List.setIfInBounds_toArray, List.set_cons_zero, List.set_cons_succ]
      go_cut [34] from 14 to 34 (fun v wx => ∃ b : Bool, v = .bool b ∧ Hid ((b = false → Ev.itemP q.group n) ∧ Below W7.heap.size W7 wx))
      case first =>
        have HRB : Hid (Below W7.heap.size W7 W7) := Below.refl _ _
        by_cases h10 : n.k < 10
        · by_cases h2 : n.k = 2
          · rw [h2] at c0
            have H2 := Lib.hid h2
            clear h10 h2
            go_wp2_with fail
            refine (in14_any W7 q.ga q.gc q.group n.at_ (HQ.out.g.below (HB1.out.trans (HBW.out.mono (by have := HG1.out; omega)))) hgl).mono ?_
            rintro e W8 ⟨rfl, hB8⟩
            have HB8 := Lib.hid hB8
            clear hB8 c0 d3 c4
            by_cases hin : n.at_ ∈ q.group
            · have HF : Hid (Ev.itemP q.group n ∧ Below W7.heap.size W7 W8) := ⟨.inr ⟨H2.out, hin⟩, HB8.out⟩
              rw [decide_eq_true hin]
              clear hin
              go_wp2_with fail
              go_meet
              case rel => exact ⟨false, rfl, fun _ => HF.out.1, HF.out.2⟩
            · have HF : Hid (Below W7.heap.size W7 W8) := HB8.out
              rw [decide_eq_false hin]
              clear hin
              go_wp2_with fail
              go_meet
              case rel => exact ⟨true, rfl, by simp, HF.out⟩
          · have h2b : (n.k != 2) = true := by simpa using h2
            go_wp2_with fail
            go_meet
            case rel => exact ⟨true, rfl, by simp, HRB.out⟩
        · by_cases h13 : 13 < n.k
          · have h2b : (n.k != 2) = true := by simp; omega
            go_wp2_with fail
            go_meet
            case rel => exact ⟨true, rfl, by simp, HRB.out⟩
          · have HF : Hid (Ev.itemP q.group n) := .inl ⟨by omega, by omega⟩
            go_wp2_with fail
            go_meet
            case rel => exact ⟨false, rfl, fun _ => HF.out, HRB.out⟩
      case rest =>
        obtain ⟨b, rfl, HC⟩ := hcut
        have HBX : Hid (Below W1.heap.size W1 wc) := HBW.out.then HC.out.2
        clear c0 d3 c4
        cases b with
        | true =>
          have HF : Hid (Below w.heap.size w wc) := HB1.out.trans (HBX.out.mono (by have := HG1.out; omega))
          go_wp2_with fail
          go_ret
          exact ⟨false, rfl, by simp, HF.out⟩
        | false =>
          have HR : Hid ((∀ (j : Nat) (h : j < q.items.length), j < i + 1 → Ev.itemP q.group q.items[j]) ∧ Below W1.heap.size W1 wc) := ⟨HNX.out (HC.out.1 rfl), HBX.out⟩
          go_wp2_with fail
          go_roundw
          case rel => exact ⟨i + 1, by omega, by go_num, HR.out⟩
          case measure => simp [intOf]; omega
    · have hii : ¬ (i : Int) < (q.items.length : Int) := by omega
      have HIT : Hid (∀ n ∈ q.items, Ev.itemP q.group n) := fun n hn => by
        obtain ⟨j, hj, rfl⟩ := List.getElem_of_mem hn
        exact HJ.out.1 j hj (by omega)
      have HBW : Hid (Below W1.heap.size W1 wr) := HJ.out.2
      obtain ⟨-, -, -, c7, -⟩ := Blk.qr (HBK.out.below HBW.out)
      clear HJ
      go_upto_region 8 with fail
      clear c7
      obtain ⟨W2, rfl⟩ : ∃ W2, W2 = wr := ⟨_, rfl⟩
      have HST : Hid ((∀ (j : Nat) (h : j < q.order.length), j < 0 → q.order[j].at_ ∈ q.group) ∧ Below W2.heap.size W2 W2) := ⟨fun j _ h => by omega, Below.refl _ _⟩
      go_loopw [39] (fun iv wr => ∃ i : Nat, i ≤ q.order.length ∧ iv = .int .i64 (i : Int) ∧ Hid ((∀ (j : Nat) (h : j < q.order.length), j < i → q.order[j].at_ ∈ q.group) ∧ Below W2.heap.size W2 wr)) (fun iv _ => q.order.length - (intOf iv).toNat)
      case atStart => exact ⟨0, Nat.zero_le _, by go_num, HST.out⟩
      case round =>
        obtain ⟨k, hk, rfl, HK⟩ := hrel
        clear HST
        have HWK : Hid (Below w.heap.size w wr) := HB1.out.trans ((HBW.out.then HK.out.2).mono (by have := HG1.out; omega))
        by_cases hkl : k < q.order.length
        · have hki : (k : Int) < (q.order.length : Int) := by omega
          obtain ⟨bb, oo, hoa, -, e0, e1⟩ := so_at (HQ.out.o.below HWK.out) hkl
          rw [hoa]
          clear hoa
          go_upto_region 10 with fail
          clear e0 e1
          generalize hW5 : World.alloc wr (.cells _ _) = W5
          obtain ⟨ba5, hz5, hB5⟩ := fresh1 hW5
          clear hW5
          have HB5 := Lib.hid hB5
          have HNX : Hid (q.order[k].at_ ∈ q.group → ∀ (j : Nat) (h : j < q.order.length), j < k + 1 → q.order[j].at_ ∈ q.group) := fun h0 j h hj => by
            by_cases hji : j = k
            · subst hji; exact h0
            · exact HK.out.1 j h (by omega)
          generalize q.order[k] = s at ba5 HNX ⊢
          obtain ⟨q0, -, -⟩ := Blk.c2 ba5
          obtain ⟨c4, -⟩ := Blk.qr (HBK.out.below (HBW.out.then (HK.out.2.then hB5)))
          clear ba5 hz5 hB5
          generalize wr.heap.size = g6 at q0 ⊢
          go_wp2_with fail
          refine (in14_any W5 q.ga q.gc q.group s.at_ (HQ.out.g.below (HWK.out.then HB5.out)) hgl).mono ?_
          rintro e W8 ⟨rfl, hB8⟩
          have HB8 : Hid (Below wr.heap.size wr W8) := HB5.out.then hB8
          clear hB8 q0 c4
          by_cases hin : s.at_ ∈ q.group
          · have HR : Hid ((∀ (j : Nat) (h : j < q.order.length), j < k + 1 → q.order[j].at_ ∈ q.group) ∧ Below W2.heap.size W2 W8) := ⟨HNX.out hin, HK.out.2.then HB8.out⟩
            rw [decide_eq_true hin]
            clear hin
            go_wp2_with fail
            go_roundw
            case rel => exact ⟨k + 1, by omega, by go_num, HR.out⟩
            case measure => simp [intOf]; omega
          · rw [decide_eq_false hin]
            clear hin
            go_wp2_with fail
            go_ret
            exact ⟨false, rfl, by simp, HWK.out.then HB8.out⟩
        · have hki : ¬ (k : Int) < (q.order.length : Int) := by omega
          have HF : Hid (Ev.PlainQ q.group q.items q.order) := ⟨HIT.out, fun s hs => by
            obtain ⟨j, hj, rfl⟩ := List.getElem_of_mem hs
            exact HK.out.1 j hj (by omega)⟩
          go_wp2_with fail
          go_ret
          exact ⟨true, rfl, fun _ => HF.out, HWK.out⟩
end Go.Proofs.Ytknfnhmkiooifaa
end

section
/-
  The walk of EvalTurned: rows in another order have a legal answer of the same query.
-/
namespace Go.Proofs.Ytknfnhmkiooifaa
set_option linter.unusedSimpArgs false
set_option linter.unusedVariables false
open Go.RowKit

namespace Ev
theorem limit_self {α : Type} (n : Int) (l : List α) : limit n l = l.take (limit n l).length := by
  unfold limit
  split
  · rw [List.length_take, List.take_eq_take_iff]; omega
  · rw [List.take_length]
theorem limit_same {α β : Type} (n : Int) {l : List α} {m : List β} (h : l.length = m.length) : (limit n l).length = (limit n m).length := by rw [limit_len, limit_len, h]
theorem turned_legal {gr : Bool} {group : List Int} {items : List Nd} {order : List So} {lim : Int} (hpl : gr = true → PlainQ group items order) {L O : List Rw} (hL : L ≠ []) (hv : RowsV L items) (hp : L.Perm O) :
    LegalA order (answerV gr group items order lim O).length (groupsV gr group order L) (answerV gr group items order lim O) ((groupsV gr group order L).map (rowV items)) := by
  intro s e hc hs t ht
  have hcl := turned_class hpl hL hv hp hc
  have hn : (answerV gr group items order lim O).length = (limit lim (groupsV gr group order O)).length := by unfold answerV; rw [List.length_map]
  have hA : answerV gr group items order lim O = ((groupsV gr group order O).map (rowV items)).take (answerV gr group items order lim O).length := by
    rw [hn]
    unfold answerV
    rw [← List.map_take, ← limit_self]
  generalize (answerV gr group items order lim O).length = n at hA hs ht ⊢
  rw [hA]
  generalize (groupsV gr group order O).map (rowV items) = S' at hcl ⊢
  refine Nat.le_trans (List.Sublist.countP_le (l₂ := (S'.drop s).take (e - s)) ?_) (Nat.le_of_eq (hcl.countP_eq _))
  rw [List.drop_take, List.take_take]
  rw [show min (min e n - s) (n - s) = min e n - s by omega]
  exact ((S'.drop s).take_prefix_take_left (show min e n - s ≤ e - s by omega)).sublist
theorem turned_same {group : List Int} {items : List Nd} {order : List So} {lim : Int} (hpl : PlainQ group items order) {L O : List Rw} (hL : L ≠ []) (hv : RowsV L items) (hp : L.Perm O) : answerV true group items order lim O = answerV true group items order lim L := by
  unfold answerV
  rw [← limit_map, ← limit_map, grouped_same hpl hL hv hp]
end Ev
theorem QrIn.gr {w : World} {q : Qr} (h : QrIn w q) (b : Bool) : QrIn w { q with grouped := b } := ⟨h.g, h.gin, h.gl, h.i, h.iin, h.il, h.o, h.oin, h.ol, h.lim⟩
theorem rowsIn_ne {A : Option Addr} {w : World} {L : List Rw} (h : ERow eRw w A L) (hne : L ≠ []) : ∃ b o, A = some ⟨b, o, none⟩ := by
  obtain ⟨b, o, e, -⟩ := rw_at h (List.length_pos_iff.2 hne)
  exact ⟨b, o, e⟩
set_option maxRecDepth 20000 in
set_option maxHeartbeats 8000000 in
theorem evalTurned_walk (w : World) (v0 : Value) (h0 : QueryW w v0) (v1 : Value) (h1 : RowsW w v1) (n : Int) (wf : (Lit.int .i64 n).wf = true) :
    Calls Try.prog 6 #[v0, v1, .int .i64 n] w fun e w' => e = .returned (.bool true) ∧ Below w.heap.size w w' := by
  obtain ⟨q, rfl, hq⟩ := h0
  obtain ⟨A, c, L, rfl, hl, hin, hlc, hcm⟩ := h1
  have HQ := Lib.hid hq
  have HL := Lib.hid hl
  have HIN := Lib.hid hin
  clear hq hl hin wf
  go_enter Try.func6, Try.ntmps6
  go_upto_region 1 with (refine wpList_box_qr rfl (.tmp 0) rfl q rfl ?_; intro W1 hb1 hz1 hB1)
  have HB1 := Lib.hid hB1
  clear hB1 hz1
  generalize hg : w.heap.size = g at hb1 ⊢
  have HG := Lib.hid hg
  clear hg
  go_wp2_with fail
  refine (elives_any W1).mono ?_
  rintro e W2 ⟨rfl, hB⟩
  have HB2 := Lib.hid (HB1.out.then hB)
  have hb2 := hb1.below hB
  obtain ⟨c0, c1, c2, c3, c4, c5, c6, c7, c8⟩ := Blk.c9 (show Blk _ _ _ [_, _, _, _, _, _, _, _, _] from hb2)
  clear hB hb1
  go_wp2_with fail
  clear c0 c1 c2 c3 c4 c5 c6 c7 c8
  refine (show Calls _ _ #[q.v] _ _ from query_any W2 q (HQ.out.below HB2.out)).mono ?_
  rintro e W3 ⟨b, rfl, hsq, hB⟩
  have HB3 := Lib.hid (HB2.out.then hB)
  have hb3 := hb2.below hB
  have HSQ := Lib.hid hsq
  clear hB hb2 hsq
  cases b with
  | false =>
    go_wp2_with fail
    refine (elives_any W3).mono ?_
    rintro e W9 ⟨rfl, hB⟩
    have HB9 := Lib.hid (HB3.out.then hB)
    clear hB
    go_wp2_with fail
    go_ret
    exact ⟨rfl, HB9.out⟩
  | true =>
    go_wp2_with fail
    refine (small_any W3 A c L (HL.out.below HB3.out) (fun r hr => (HIN.out r hr).below HB3.out) hlc hcm).mono ?_
    rintro e W4 ⟨b, rfl, hsm, hB⟩
    have HB4 := Lib.hid (HB3.out.then hB)
    have hb4 := hb3.below hB
    have HSM := Lib.hid hsm
    clear hB hb3 hsm
    cases b with
    | false =>
      go_wp2_with fail
      refine (elives_any W4).mono ?_
      rintro e W9 ⟨rfl, hB⟩
      have HB9 := Lib.hid (HB4.out.then hB)
      clear hB
      go_wp2_with fail
      go_ret
      exact ⟨rfl, HB9.out⟩
    | true =>
      have HSQ2 : Hid (SmallQ q) := HSQ.out trivial
      have HSM2 : Hid (SmallR L) := HSM.out rfl
      have hL5 : L.length ≤ 100000 := by have := HSM2.out.1; omega
      have HRW : Hid (RowsOk w A L) := ⟨HL.out, fun x hx => (HIN.out x hx).rok, by have := HSM2.out.1; omega⟩
      have HQI : Hid (QrIn w q) := HQ.out.qrIn HSQ2.out
      by_cases hL0 : L = []
      · have hLb : ((L.length : Int) == 0) = true := by simp [hL0]
        clear hL0
        go_wp2_with fail
        refine (elives_any W4).mono ?_
        rintro e W9 ⟨rfl, hB⟩
        have HB9 := Lib.hid (HB4.out.then hB)
        clear hB
        go_wp2_with fail
        go_ret
        exact ⟨rfl, HB9.out⟩
      · have hLb : ((L.length : Int) == 0) = false := by simpa using hL0
        have HNE := Lib.hid hL0
        have hpos : 0 < L.length := List.length_pos_iff.2 hL0
        clear hL0
        obtain ⟨c0, c1, c2, c3, c4, c5, c6, c7, c8⟩ := Blk.c9 (show Blk _ _ _ [_, _, _, _, _, _, _, _, _] from hb4)
        obtain ⟨gb, hgb⟩ : ∃ b, q.grouped = b := ⟨_, rfl⟩
        rw [hgb] at c5
        have HGB := Lib.hid hgb
        have HBK := Lib.hid hb4
        clear hgb hb4
        go_upto_region 3 with fail
        go_cut [34] from 28 to 34 (fun v wx => ∃ b : Bool, v = .bool b ∧ Hid ((b = false → q.grouped = true → Ev.PlainQ q.group q.items q.order) ∧ Below W4.heap.size W4 wx))
        case first =>
          have HRB : Hid (Below W4.heap.size W4 W4) := Below.refl _ _
          cases gb with
          | false =>
            go_wp2_with fail
            go_meet
            case rel => exact ⟨false, rfl, fun _ h => (by rw [HGB.out] at h; cases h), HRB.out⟩
          | true =>
            go_wp2_with fail
            refine (show Calls _ _ #[Qr.v { q with grouped := true }] _ _ from plain14_any W4 { q with grouped := true } ((HQI.out.below HB4.out).gr true)).mono ?_
            rintro e W5 ⟨b, rfl, hpl, hB⟩
            have HPL : Hid (b = true → Ev.PlainQ q.group q.items q.order) := hpl
            have HB5 := Lib.hid hB
            clear hpl hB
            cases b with
            | true =>
              go_wp2_with fail
              go_meet
              case rel => exact ⟨false, rfl, fun _ _ => HPL.out trivial, HB5.out⟩
            | false =>
              go_wp2_with fail
              go_meet
              case rel => exact ⟨true, rfl, by simp, HB5.out⟩
        case rest =>
          obtain ⟨b, rfl, HC⟩ := hcut
          have HBX : Hid (Below w.heap.size w wc) := HB4.out.then HC.out.2
          clear c0 c1 c2 c3 c4 c5 c6 c7 c8
          cases b with
          | true =>
            go_wp2_with fail
            go_ret
            exact ⟨rfl, HBX.out⟩
          | false =>
            have HPL : Hid (q.grouped = true → Ev.PlainQ q.group q.items q.order) := HC.out.1 rfl
            have HBQ : Hid (Blk wc g 40 q.cells) := HBK.out.below HC.out.2
            clear HC HBK
            have hLu : IntKind.u64.wrap (L.length : Int) = (L.length : Int) := by
              have e1 : IntKind.u64.wrap (L.length : Int) = (L.length : Int) % 18446744073709551616 := rfl
              rw [e1]
              omega
            go_upto_region 6 with fail
            obtain ⟨k, hk, hkL⟩ : ∃ k : Nat, wrap64 ((IntKind.u64.wrap n).tmod (L.length : Int)) = (k : Int) ∧ k < L.length := by
              have e1 : IntKind.u64.wrap n = n % 18446744073709551616 := rfl
              obtain ⟨u, hu⟩ : ∃ u : Nat, n % 18446744073709551616 = (u : Int) := ⟨(n % 18446744073709551616).toNat, by omega⟩
              have h1 := Nat.mod_lt u hpos
              refine ⟨u % L.length, ?_, h1⟩
              rw [e1, hu, Int.tmod_eq_emod_of_nonneg (by omega)]
              rw [show ((u : Int) % (L.length : Int)) = ((u % L.length : Nat) : Int) from rfl]
              unfold wrap64
              omega
            rw [hk]
            have HKE := Lib.hid hk
            clear hk hLu
            obtain ⟨b, o, rfl⟩ := rowsIn_ne HL.out HNE.out
            have hoE : EOwn eRw (wc.drew.alloc (.cells #[] 23)) wc.heap.size (some ⟨wc.drew.heap.size, 0, none⟩) 0 [] := EOwn.new wc.drew [] (by simp [maxLen]) (Nat.le_refl _) #[] rfl
            have HBE : Hid (Below wc.heap.size wc (wc.drew.alloc (.cells #[] 23))) := (Below.refl wc.heap.size wc).drewR.then ((Below.refl _ _).alloc (Nat.le_refl _) _)
            have hrE : ERow eRw (wc.drew.alloc (.cells #[] 23)) (some ⟨b, o + k, none⟩) (L.drop k) := by
              have h := (HL.out.below (HBX.out.then HBE.out)).drop k
              rw [show k * eRw.sz = k from Nat.mul_one k, show (some (⟨b, o, none⟩ : Addr)).map (fun x => x.add k) = some ⟨b, o + k, none⟩ by simp [Addr.add]] at h
              exact h
            have hkc : (k : Int) ≤ (c : Int) := by omega
            have hkl : (k : Int) ≤ (L.length : Int) := by omega
            have hdl : (L.drop k).length = L.length - k := List.length_drop
            have htl : (L.take k).length = k := by rw [List.length_take]; omega
            have hsz : wc.heap.size ≤ (wc.drew.alloc (.cells #[] 23)).heap.size := HBE.out.size
            have HRT : Hid (∀ W, Below wc.heap.size wc W → ERow eRw W (some ⟨b, o, none⟩) (L.take k)) := fun W hW => (HL.out.below (HBX.out.then hW)).take k
            refine wp_region_plan (.take 1 (.take 2 (.take 3 (.take 5 (.take 6 (.take 7 (.run 0 [1, 2, 3, 5, 6, 7] (.run 4 [5, 6, 7] (.run 8 [] (.take 9 .fin)))))))))) (by kernel_rfl) (by kernel_rfl) (by kernel_rfl) (by kernel_rfl) ?_
            repeat' (first | (refine hZ _ _ ?_; clear hZ) | (refine hZ _ ?_; clear hZ) | (refine hZ ?_; clear hZ) | rw [again_nil] | rw [walk_fin] | ((first | rw [walk_take] | rw [walk_run] | rw [again_cons]); intro Z hZ; simp only [sel, List.getElem?_toArray, List.getElem?_cons_zero, List.getElem?_cons_succ]; go_wp2_with (first | (at_builtin; refine wpList_append_elems eRw rfl (.tmp 42) (.tmp 45) rfl 0 rfl hoE rfl (L.length - k) rfl hrE hdl.symm (by simp; omega) hsz ?_; intro A3 c3 w3 ho3 hb3 hg3 ha3) | (at_builtin; refine wpList_append_elems eRw rfl (.tmp 46) (.tmp 49) rfl (L.length - k) rfl ho3 (by simp) k rfl (HRT.out _ (HBE.out.trans hb3)) htl.symm (by simp; omega) (HBE.out.trans hb3).size ?_; intro A4 c4 w4 ho4 hb4 hg4 ha4))))
            have HOW : Hid (EOwn eRw w4 wc.heap.size A4 c4 (L.drop k ++ L.take k)) := ho4
            have HBW4 : Hid (Below w.heap.size w w4) := HBX.out.then ((HBE.out.trans hb3).trans hb4)
            have HBQ4 : Hid (Blk w4 g 40 q.cells) := HBQ.out.below ((HBE.out.trans hb3).trans hb4)
            clear hoE hrE ho3 hb3 hg3 ha3 ho4 hb4 hg4 ha4
            rw [show L.length - k + k = L.length by omega]
            have hOl : (L.drop k ++ L.take k).length = L.length := by rw [List.length_append, hdl, htl]; omega
            have HPE : Hid (L.Perm (L.drop k ++ L.take k)) := by
              show List.Perm _ _
              conv => lhs; rw [← List.take_append_drop k L]
              exact List.perm_append_comm
            generalize L.drop k ++ L.take k = O at HOW hOl HPE
            have HOL := Lib.hid hOl
            have HOK : Hid (RowsOk w4 A4 O) := ⟨HOW.out.row, fun x hx => (HRW.out.in_ x (HPE.out.mem_iff.2 hx)).below HBW4.out, by omega⟩
            have HANS := Lib.hid (answer_any w4 q A4 c4 O (HQI.out.below HBW4.out) HOK.out HOW.out.cap HOW.out.capMax (fun h => by
              rcases HOW.out.form with ⟨-, -, e⟩ | ⟨g, e, -⟩
              · exact e
              · rw [h] at e; cases e))
            rw [hOl] at HANS
            clear hOl hdl htl hsz hkc hkl hkL
            go_wp2_with (refine wpList_load_qr rfl (.tmp 3) rfl g rfl HBQ4.out ?_)
            refine (show Calls _ _ #[q.v, .slice A4 L.length c4] _ _ from HANS.out).mono ?_
            rintro e W6 ⟨A6, c6, R6, rfl, hR6, hv6, hB⟩
            have HB6 := Lib.hid (HBW4.out.then hB)
            have hb6 := HBQ4.out.below hB
            have HV6 : Hid (R6.map Rw.l = Ev.answerV q.grouped q.group q.items q.order q.lim O) := hv6
            have HVL : Hid ((Ev.answerV q.grouped q.group q.items q.order q.lim O).length = R6.length) := by show _ = _; rw [← HV6.out, List.length_map]
            have HOL5 : Hid (O.length ≤ 100000) := by show _ ≤ _; rw [HOL.out]; exact hL5
            have HR6 : Hid (RowsCl W6 A6 R6) := by
              have hgl : (Ev.limit q.lim (Ev.groupsV q.grouped q.group q.order O)).length ≤ 1000000 := by
                have h := Ev.answerV_len (gr := q.grouped) (group := q.group) (items := q.items) (order := q.order) (lim := q.lim) HOL5.out
                unfold Ev.answerV at h
                rwa [List.length_map] at h
              exact hR6.cl HV6.out HQI.out.il hgl
            have HCS : Hid (∀ s ∈ Ev.answerV q.grouped q.group q.items q.order q.lim O, ∀ v ∈ s, Key.clean v = v) := fun s hs v hv => by
              unfold Ev.answerV at hs
              obtain ⟨g, -, rfl⟩ := List.mem_map.1 hs
              obtain ⟨n, -, rfl⟩ := List.mem_map.1 hv
              exact Ev.clean_item n g
            have HD6 : Hid (DRowsAt W6 A6 (Ev.answerV q.grouped q.group q.items q.order q.lim O) R6) := by
              refine hR6.drows ⟨by rw [HV6.out], fun i h1 h2 => ?_⟩ HCS.out (Ev.answerV_len HOL5.out) (Ev.answerV_lens HQI.out.il)
              simp only [HV6.out]
              refine ⟨rfl, fun j h3 h4 => ?_⟩
              have hm : (Ev.answerV q.grouped q.group q.items q.order q.lim O)[i] ∈ R6.map Rw.l := by rw [HV6.out]; exact List.getElem_mem h1
              obtain ⟨x, hx, hxe⟩ := List.mem_map.1 hm
              have hc := HCS.out _ (List.getElem_mem h1) _ (List.getElem_mem h3)
              have ho := HR6.out.ok x hx _ (by rw [hxe]; exact List.getElem_mem h3)
              exact ⟨ho, by rw [← hc]; exact Ev.clean_is _, hc⟩
            have HRV : Hid (Ev.RowsV L q.items) := ⟨fun x hx => (HRW.out.in_ x hx).ok, fun n hn x hx => Ev.argV_ok (HRW.out.in_ x hx).ok (HQI.out.iin n hn)⟩
            have hR6c := hR6.own.cap
            have HLG : Hid (R6.length = (Ev.limit q.lim (Ev.groupsV q.grouped q.group q.order L)).length) := by
              show _ = _
              rw [← HVL.out]
              unfold Ev.answerV
              rw [List.length_map]
              exact Ev.limit_same _ (Ev.turned_len HPL.out HNE.out HRV.out HPE.out)
            have HLA : Hid (Ev.LegalA q.order R6.length (Ev.groupsV q.grouped q.group q.order L) (Ev.answerV q.grouped q.group q.items q.order q.lim O) ((Ev.groupsV q.grouped q.group q.order L).map (Ev.rowV q.items))) := by
              show Ev.LegalA _ _ _ _ _
              rw [← HVL.out]
              exact Ev.turned_legal HPL.out HNE.out HRV.out HPE.out
            have HLC := Lib.hid (legal_any W6 q (some ⟨b, o, none⟩) A6 c c6 L _ R6 (HQI.out.below HB6.out) (HRW.out.below HB6.out) hL5 HD6.out hR6c HLG.out HLA.out)
            clear hR6 hv6 hB HANS HBQ4
            go_wp2_with (refine wpList_load_qr rfl (.tmp 3) rfl g rfl hb6 ?_)
            refine (show Calls _ _ #[q.v, .slice (some ⟨b, o, none⟩) L.length c, .slice A6 R6.length c6] _ _ from HLC.out).mono ?_
            rintro e W7 ⟨rfl, hB⟩
            have HB7 := Lib.hid (HB6.out.then hB)
            have hb7 := hb6.below hB
            have HR7 := Lib.hid (HR6.out.below hB)
            clear hB hb6 HLC
            obtain ⟨c0, c1, c2, c3', c4', c5, c6', c7, c8⟩ := Blk.c9 (show Blk _ _ _ [_, _, _, _, _, _, _, _, _] from hb7)
            cases hgr : q.grouped with
            | false =>
              rw [hgr] at c5
              clear hgr
              go_wp2_with fail
              go_ret
              exact ⟨rfl, HB7.out⟩
            | true =>
              rw [hgr] at c5
              have HGR := Lib.hid hgr
              clear hgr
              by_cases hlim : 0 ≤ q.lim
              · go_wp2_with fail
                go_ret
                exact ⟨rfl, HB7.out⟩
              · have hol : q.order.length ≤ 1000000 := HQI.out.ol
                by_cases hor : 0 < q.order.length
                · have hori : (0 : Int) < (q.order.length : Int) := by omega
                  go_wp2_with fail
                  go_ret
                  exact ⟨rfl, HB7.out⟩
                · have hori : ¬ (0 : Int) < (q.order.length : Int) := by omega
                  go_wp2_with fail
                  refine (show Calls _ _ #[Qr.v { q with grouped := true }, .slice (some ⟨b, o, none⟩) L.length c] _ _ from answer_any W7 { q with grouped := true } (some ⟨b, o, none⟩) c L ((HQI.out.below HB7.out).gr true) (HRW.out.below HB7.out) hlc hcm (fun h => by cases h)).mono ?_
                  rintro e W8 ⟨A8, c8, R8, rfl, hR8, hv8, hB⟩
                  have HB8 := Lib.hid (HB7.out.then hB)
                  have HV8 : Hid (R8.map Rw.l = Ev.answerV true q.group q.items q.order q.lim L) := hv8
                  have HR8 : Hid (RowsCl W8 A8 R8) := by
                    have hgl : (Ev.limit q.lim (Ev.groupsV true q.group q.order L)).length ≤ 1000000 := by
                      have h := Ev.answerV_len (gr := true) (group := q.group) (items := q.items) (order := q.order) (lim := q.lim) hL5
                      unfold Ev.answerV at h
                      rwa [List.length_map] at h
                    exact hR8.cl HV8.out HQI.out.il hgl
                  have HEQ : Hid (EqRows R6 R8) := eqRows_of (by rw [HV6.out, HV8.out, HGR.out]; exact Ev.turned_same (HPL.out HGR.out) HNE.out HRV.out HPE.out)
                  have HXC := Lib.hid (exact14_any W8 A6 A8 c6 c8 R6 R8 (HR7.out.below hB) HR8.out HEQ.out)
                  clear hR8 hv8 hB c0 c1 c2 c3' c4' c5 c6' c7
                  go_wp2_with fail
                  refine (show Calls _ _ _ _ _ from HXC.out).mono ?_
                  rintro e W9 ⟨rfl, hB⟩
                  have HB9 := Lib.hid (HB8.out.then hB)
                  clear hB
                  go_wp2_with fail
                  go_ret
                  exact ⟨rfl, HB9.out⟩
end Go.Proofs.Ytknfnhmkiooifaa
end

