/-
  The walk of CrcSums.
-/
import Derived.Test.YtgdlfihiheeniaaCrcFns
import Derived.Deep.Matrix
namespace Go.Proofs.Ytgdlfihiheeniaa
open Go.RowKit Go.Deep Go.WideShapes

/-- A slice of slices of bytes that came in. -/
def PartsIn (w : World) (v : Value) : Prop := ∃ A c ps, v = .slice A (List.length ps) c ∧ Row w A (ps.map Part.v) ∧ (∀ p ∈ ps, Part.ok w p) ∧ ps.length ≤ 9223372036854775807

theorem parts_in {H : Type} {enc : TypeId × Value → H} {w : World} {base : Nat} {v : Value} {d : DataW H} {p : List MemPlace}
    (hv : Value.okWide Try.prog w .any base 22 v) (h : DataW.Trod enc Try.prog w 0 (fun _ => true) true 22 v d p) : PartsIn w v := by
  obtain ⟨a0, len0, cap0, rfl⟩ := okWide_slice Try.underlying22 hv
  obtain ⟨fuel, hf⟩ := h
  rcases open_int_rows Try.underlying22 Try.underlying25 Try.underlying5 (by kernel_rfl) (by kernel_rfl) hf with ⟨hcs, _⟩ | ⟨a, len, cap, A, L, C, Z, hcs, _, hl, hm, _, hr⟩
  · simp [Value.cells] at hcs
    obtain ⟨rfl, rfl, rfl⟩ := hcs
    exact ⟨none, 0, [], rfl, Row.nil, by simp, by simp⟩
  · simp [Value.cells] at hcs
    obtain ⟨rfl, rfl, rfl⟩ := hcs
    have each : ∀ r, r < len0 → ∃ l : List UInt8, l.length = L r ∧ BRow w (A r) l := by
      intro r hr'
      obtain ⟨_, h1, _, h3, h4, h5, h6⟩ := hr r (by omega)
      cases hA : A r with
      | none => exact ⟨[], by have := h5 hA; simp; omega, BRow.nil⟩
      | some a' => exact bytes_in h1 h3 (fun i hi => (h6 a' hA).2 i (by omega)) h4
    obtain ⟨f, hfl⟩ := choose_lt each
    unfold maxLen at hm
    refine ⟨some a, cap0, (List.range len0).map fun r => ⟨A r, C r, f r⟩, by simp, fun hpos => ?_, ?_, by simp; omega⟩
    · have hpos' : 0 < len0 := by simpa using hpos
      have h0 := (hr 0 (by omega)).1
      obtain ⟨b, o, sp⟩ := a
      have hsp : sp = none := by simpa [Addr.add] using World.cell?_spot h0
      subst hsp
      refine ⟨b, o, rfl, by simpa [Addr.add_lit] using World.block_lt_of_cell? w _ h0, fun j hj => ?_⟩
      have hj' : j < len0 := by simpa using hj
      have := (hr j (by omega)).1
      rw [Addr.add_lit] at this
      rw [this]
      simp [Part.v, (hfl j hj').1]
    · intro p hp
      obtain ⟨r, hr', rfl⟩ := List.mem_map.1 hp
      have hr'' := List.mem_range.1 hr'
      have h1 := (hr r (by omega)).2.1
      have h2 := (hr r (by omega)).2.2.1
      unfold maxLen at h2
      exact ⟨(hfl r hr'').2, by show (f r).length ≤ _; rw [(hfl r hr'').1]; omega⟩

def fewB (ps : List Part) : Bool := decide (ps.length ≤ 20) && ps.all fun p => decide (p.l.length ≤ 300)

set_option maxHeartbeats 800000 in
theorem few_any (w : World) (A : Option Addr) (c : Nat) (ps : List Part) (hrow : Row w A (ps.map Part.v)) (hps : ∀ p ∈ ps, p.ok w) (hn : ps.length ≤ 9223372036854775807) :
    Calls Try.prog 16 #[.slice A ps.length c] w fun e w' => e = .returned (.bool (fewB ps)) ∧ w = w' := by
  have HP := Lib.hid hps
  clear hps
  by_cases h20 : 20 < ps.length
  · go_enter Try.func16, Try.ntmps16
    go_wp2_with fail
    go_ret
    have h : fewB ps = false := by
      unfold fewB
      rw [Bool.and_eq_false_iff]
      exact .inl (by simpa using h20)
    exact ⟨by rw [h]; rfl, rfl⟩
  go_enter Try.func16, Try.ntmps16
  go_wp2_with fail
  go_loop [10] (fun i => ∃ k : Nat, k ≤ ps.length ∧ i = .int .i64 k ∧ Hid (∀ p ∈ ps.take k, p.l.length ≤ 300)) (fun i => ps.length - (intOf i).toNat)
  case atStart => exact ⟨0, Nat.zero_le _, rfl, by intro p hp; simp at hp⟩
  case round =>
    obtain ⟨k, hk, rfl, HK⟩ := hrel
    by_cases hlt : k < ps.length
    · have hc : ∃ b o a c l, A = some ⟨b, o, none⟩ ∧ ps[k].l = l ∧ w.cell? ⟨b, o + k, none⟩ = some (.slice a l.length c) ∧ l.length ≤ 9223372036854775807 := by
        obtain ⟨b, o, e, _, hc⟩ := Row.at_ (k := k) hrow (by simpa using hlt)
        have hp := HP.out ps[k] (List.getElem_mem hlt)
        exact ⟨b, o, ps[k].a, ps[k].c, ps[k].l, e, rfl, by simpa [Part.v] using hc, hp.2⟩
      obtain ⟨b, o, a, c', l, rfl, hl, hc, hll⟩ := hc
      have HL := Lib.hid hl
      clear hl hrow
      by_cases h3 : 300 < l.length
      · go_wp2_with fail
        go_ret
        refine ⟨?_, rfl⟩
        have hb : fewB ps = false := by
          unfold fewB
          rw [Bool.and_eq_false_iff]
          right
          rw [List.all_eq_false]
          exact ⟨ps[k], List.getElem_mem hlt, by rw [HL.out]; simp; omega⟩
        rw [hb]
        rfl
      · go_wp2_with fail
        go_round
        case rel =>
          refine ⟨k + 1, by omega, by go_num, ?_⟩
          intro p hp
          rw [List.take_succ_eq_append_getElem hlt, List.mem_append, List.mem_singleton] at hp
          rcases hp with hp | rfl
          · exact HK.out p hp
          · rw [HL.out]; omega
        case measure => simp [intOf]; omega
    · go_wp2_with fail
      go_ret
      refine ⟨?_, rfl⟩
      have hb : fewB ps = true := by
        unfold fewB
        rw [Bool.and_eq_true]
        refine ⟨by simp; omega, List.all_eq_true.2 fun p hp => ?_⟩
        have := HK.out p (by rw [List.take_of_length_le (by omega)]; exact hp)
        simpa using this
      rw [hb]
      rfl

theorem few_le (ps : List Part) (h : fewB ps = true) : ps.length ≤ 20 := by
  unfold fewB at h
  rw [Bool.and_eq_true] at h
  simpa using h.1
theorem flat_le : ∀ (ps : List Part), (∀ p ∈ ps, p.l.length ≤ 300) → (ps.flatMap (·.l)).length ≤ 300 * ps.length
  | [], _ => by simp
  | p :: ps, h => by
    have h1 := h p (by simp)
    have h2 := flat_le ps (fun q hq => h q (by simp [hq]))
    simp only [List.flatMap_cons, List.length_append, List.length_cons]
    omega
theorem few_length (ps : List Part) (h : fewB ps = true) (k : Nat) : ((ps.take k).flatMap (·.l)).length ≤ 6000 := by
  have h20 := few_le ps h
  unfold fewB at h
  rw [Bool.and_eq_true] at h
  have h3 : ∀ p ∈ ps, p.l.length ≤ 300 := fun p hp => by simpa using List.all_eq_true.1 h.2 p hp
  have := flat_le (ps.take k) (fun p hp => h3 p (List.mem_of_mem_take hp))
  have h4 : (ps.take k).length ≤ 20 := by rw [List.length_take]; omega
  omega

set_option maxHeartbeats 1000000 in
theorem crcSums_walk (w : World) (v : Value) (hv : PartsIn w v) :
    Calls Try.prog 3 #[v] w fun e w' => e = .returned (.bool true) ∧ Below w.heap.size w w' := by
  obtain ⟨A, c, ps, rfl, hrow, hps, hn⟩ := hv
  have HP := Lib.hid hps
  clear hps
  have HF : Hid (fewB ps = fewB ps) := rfl
  go_enter Try.func3, Try.ntmps3
  go_wp2_with fail
  refine (lives_any w).mono ?_
  rintro e w1 ⟨rfl, hb1⟩
  go_wp2_with fail
  have hok1 : ∀ p ∈ ps, p.ok w1 := fun p hp => ⟨(HP.out p hp).1.below hb1, (HP.out p hp).2⟩
  refine (few_any w1 A c ps (hrow.below hb1) hok1 hn).mono ?_
  rintro e w2 ⟨rfl, rfl⟩
  cases hf : fewB ps
  · go_wp2_with fail
    refine (lives_any _).mono ?_
    rintro e w2 ⟨rfl, hb2⟩
    go_wp2_with fail
    go_ret
    exact ⟨rfl, hb1.trans (hb2.mono hb1.size)⟩
  · have HL := Lib.hid (few_length ps hf)
    have h20 := few_le ps hf
    have HO := Lib.hid hok1
    have hrow1 := hrow.below hb1
    clear hf HF hok1 hrow HP
    go_wp2_with fail
    go_loop [3, 16] (fun s i => ∃ k : Nat, k ≤ ps.length ∧ i = .int .i64 k ∧ s = txt ((ps.take k).flatMap (·.l))) (fun _ i => ps.length - (intOf i).toNat)
    case atStart => exact ⟨0, Nat.zero_le _, rfl, by simp [txt]⟩
    case round =>
      obtain ⟨k, hk, rfl, rfl⟩ := hrel
      by_cases hlt : k < ps.length
      · have HT := Lib.hid (take_flat ps k hlt)
        have hc : ∃ b o a c l, A = some ⟨b, o, none⟩ ∧ ps[k].l = l ∧ w1.cell? ⟨b, o + k, none⟩ = some (.slice a l.length c) ∧ BRow w1 a l := by
          obtain ⟨b, o, e, _, hc⟩ := Row.at_ (k := k) hrow1 (by simpa using hlt)
          have hp := HO.out ps[k] (List.getElem_mem hlt)
          exact ⟨b, o, ps[k].a, ps[k].c, ps[k].l, e, rfl, by simpa [Part.v] using hc, hp.1⟩
        obtain ⟨b, o, a, c', l, rfl, hl, hc, hr⟩ := hc
        have hcv := run_string_bytes w1 c' hr
        have h1 := HL.out (k + 1)
        rw [HT.out, hl, List.length_append] at h1
        have HLL := Lib.hid hl
        clear hl hrow1
        generalize (ps.take k).flatMap (·.l) = m at HT h1
        unfold txt at hcv
        unfold txt
        have h2 : m.length + l.length ≤ 9223372036854775807 := by omega
        go_wp2_with fail
        go_round
        case rel => exact ⟨k + 1, by omega, by go_num, by rw [HT.out, HLL.out, ByteArray.mk_append_mk]⟩
        case measure => simp [intOf]; omega
      · obtain rfl : k = ps.length := by omega
        have h1 := HL.out ps.length
        rw [List.take_length] at h1
        rw [List.take_length]
        go_wp2_with fail
        refine (sum_any w1 A c ps hrow1 HO.out hn).mono ?_
        rintro e w3 ⟨rfl, rfl⟩
        go_wp2_with fail
        refine (refsum_any w1 _ (by omega)).mono ?_
        rintro e w3 ⟨rfl, rfl⟩
        go_wp2_with fail
        go_ret
        exact ⟨rfl, hb1⟩
end Go.Proofs.Ytgdlfihiheeniaa
