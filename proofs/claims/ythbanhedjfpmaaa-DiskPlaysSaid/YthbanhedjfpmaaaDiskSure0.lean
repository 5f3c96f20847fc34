/-
  DiskSure, the plain part: what writes, a flush, a loss of power leave where no fall is planned.
-/
import Derived.Test.YthbanhedjfpmaaaDiskFits
namespace Go.Proofs.Ythbanhedjfpmaaa
set_option linter.unusedSimpArgs false
set_option linter.unusedVariables false
open Go.RowKit

theorem strike_none {d : DS} (h : d.falls = []) : d.strike = ({ d with changes := d.changes + 1 }, 0) := by
  unfold DS.strike; rw [h]; rfl
theorem write_plain {d : DS} (hf : d.falls = []) (hd : d.down = false) {i : Nat} (hi : i < d.blocks.length) {l : List UInt8} (hl : l.length = 512) :
    d.write (i : Int) l = ({ d with blocks := d.blocks.set i { (d.blocks.getD i default) with now := ⟨l, hl⟩ }, pending := d.pending ++ [⟨(i : Int), ⟨l, hl⟩⟩], changes := d.changes + 1 }, 0) := by
  have hw : d.why (i : Int) = 0 := by unfold DS.why; rw [if_neg (by simp [hd]), if_neg (by omega)]
  unfold DS.write
  rw [if_neg (by simp [hw]), dif_pos hl]
  unfold DS.put
  rw [strike_none (by exact hf), Int.toNat_natCast]
theorem flush_plain {d : DS} (hf : d.falls = []) (hd : d.down = false) : d.flush = (({ d with changes := d.changes + 1 } : DS).settled, 0) := by
  unfold DS.flush
  rw [if_neg (by simp [hd]), strike_none hf, if_neg (by simp)]
/-- Block i as it will surely be. -/
def DS.will (d : DS) (i : Nat) : List UInt8 := ((sureAll d.pending d.blocks).getD i default).sure.l
theorem will_set_now (ws : List DW) : ∀ (L : List DB) (m i : Nat) (b : B512), ((sureAll ws (L.set m { (L.getD m default) with now := b })).getD i default).sure = ((sureAll ws L).getD i default).sure := by
  induction ws with
  | nil =>
    intro L m i b
    show ((L.set m _).getD i default).sure = (L.getD i default).sure
    by_cases h : m = i
    · subst h
      by_cases hm : m < L.length
      · simp [hm]
      · rw [List.set_eq_of_length_le (by omega)]
    · simp [List.getElem?_set_ne h]
  | cons x ws ih =>
    intro L m i b
    show ((sureAll ws _).getD i default).sure = ((sureAll ws _).getD i default).sure
    by_cases h : m = x.at_.toNat
    · subst h
      by_cases hm : x.at_.toNat < L.length
      · simp only [List.set_set]
        have e : ∀ c : DB, (L.set x.at_.toNat c).getD x.at_.toNat default = c := fun c => by simp [hm]
        rw [e]
        have := ih (L.set x.at_.toNat { (L.getD x.at_.toNat default) with sure := x.b }) x.at_.toNat i b
        rw [e] at this
        simp only [List.set_set] at this
        exact this
      · have hs : ∀ c : DB, L.set x.at_.toNat c = L := fun c => List.set_eq_of_length_le (by omega)
        simp only [hs]
    · have e1 : (L.set m { (L.getD m default) with now := b }).getD x.at_.toNat default = L.getD x.at_.toNat default := by simp [List.getElem?_set_ne h]
      rw [e1, List.set_comm _ _ h]
      have e2 : (L.set x.at_.toNat { (L.getD x.at_.toNat default) with sure := x.b }).getD m default = L.getD m default := by simp [List.getElem?_set_ne (fun e => h e.symm)]
      have := ih (L.set x.at_.toNat { (L.getD x.at_.toNat default) with sure := x.b }) m i b
      rw [e2] at this
      exact this
theorem will_write {d : DS} (hf : d.falls = []) (hd : d.down = false) {m : Nat} (hm : m < d.blocks.length) {l : List UInt8} (hl : l.length = 512) (i : Nat) :
    (d.write (m : Int) l).1.will i = if i = m then l else d.will i := by
  rw [write_plain hf hd hm hl]
  unfold DS.will
  simp only [sureAll_snoc, Int.toNat_natCast]
  by_cases h : i = m
  · subst h
    rw [if_pos rfl]
    have hlen : i < (sureAll d.pending (d.blocks.set i { (d.blocks.getD i default) with now := ⟨l, hl⟩ })).length := by rw [sureAll_length, List.length_set]; exact hm
    have e : ∀ (L : List DB) (c : DB), i < L.length → (L.set i c).getD i default = c := fun L c h => by simp [h]
    rw [e _ _ hlen]
  · rw [if_neg h]
    have e : ∀ (L : List DB) (c : DB), (L.set m c).getD i default = L.getD i default := fun L c => by simp [List.getElem?_set_ne (fun e => h e.symm)]
    rw [e, will_set_now]
theorem hitAll_other (f : DF) (n : Int) (i : Nat) : ∀ (ws : List DW) (k : Nat) (L : List DB), (∀ w ∈ ws, w.at_.toNat ≠ i) → (hitAll f n ws k L).getD i default = L.getD i default
  | [], _, _, _ => rfl
  | w :: ws, k, L, h => by
    rw [hitAll, hitAll_other f n i ws (k + 1) _ (fun x hx => h x (List.mem_cons_of_mem _ hx))]
    have := h w List.mem_cons_self
    simp [List.getElem?_set_ne this]
theorem crash_other {d : DS} (hd : d.down = false) (f : DF) {i : Nat} (hi : i < d.blocks.length) (h : ∀ w ∈ d.pending, w.at_.toNat ≠ i) : ((d.crash f).blocks.getD i default).now = (d.blocks.getD i default).sure := by
  have h1 := hitAll_other f ((d.pending.length : Int) - 1) i d.pending 0 d.blocks h
  unfold DS.crash
  rw [if_neg (by simp [hd])]
  have hlen : i < (hitAll f ((d.pending.length : Int) - 1) d.pending 0 d.blocks).length := by rw [hitAll_length]; exact hi
  rw [← h1]
  simp [hlen]
end Go.Proofs.Ythbanhedjfpmaaa
