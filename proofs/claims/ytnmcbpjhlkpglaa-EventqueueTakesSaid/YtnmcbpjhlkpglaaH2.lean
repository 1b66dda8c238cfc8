/- What this text holds: contracts of the laws' numbers and few. -/
import Derived.Test.YtnmcbpjhlkpglaaH1
set_option linter.unusedVariables false
set_option linter.unusedSimpArgs false
namespace Go.Proofs.Ytnmcbpjhlkpglaa.B
open Go.RowKit

def numbersF (l : List Ev) (want : List Int) : Bool := decide (l.map (·.n) = want)
theorem numbersF_len (l : List Ev) (want : List Int) (h : l.length ≠ want.length) : numbersF l want = false := by
  simp only [numbersF, decide_eq_false_iff_not]
  intro he
  exact h (by rw [← he, List.length_map])
theorem numbersF_at (l : List Ev) (want : List Int) (i : Nat) (h1 : i < l.length) (h2 : i < want.length) (h : (nth ev0 l i).n ≠ nth 0 want i) : numbersF l want = false := by
  simp only [numbersF, decide_eq_false_iff_not]
  intro he
  subst he
  apply h
  rw [nth_eq ev0 l i h1, nth_eq 0 _ i h2, List.getElem_map]
theorem numbersF_all (l : List Ev) (want : List Int) (hl : l.length = want.length) (h : ∀ i, i < l.length → (nth ev0 l i).n = nth 0 want i) : numbersF l want = true := by
  simp only [numbersF, decide_eq_true_eq]
  refine List.ext_getElem (by rw [List.length_map, hl]) (fun i h1 h2 => ?_)
  rw [List.length_map] at h1
  have := h i h1
  rw [nth_eq ev0 l i h1, nth_eq 0 _ i h2] at this
  rw [List.getElem_map, this]

set_option maxHeartbeats 1000000 in
theorem numbers_calls (A B : Option Addr) (c d : Nat) (l : List Ev) (want : List Int) (w : World) (hr : evs.C w A l) (hc : l.length ≤ c) (hr2 : (ints .i64).C w B want) (hd : want.length ≤ d) :
    Calls Try.prog 29 #[.slice A l.length c, .slice B want.length d] w fun e w' => e = .returned (.bool (numbersF l want)) ∧ Below w.heap.size w w' := by
  obtain ⟨r, hr0⟩ : ∃ r, r = numbersF l want := ⟨_, rfl⟩
  rw [← hr0]
  have Hr := Hd.mk hr0
  have HR := Hd.mk hr
  have HR2 := Hd.mk hr2
  have hm := hr.1
  have hm2 := hr2.1
  clear hr0 hr hr2
  by_cases hl : l.length = want.length
  · have hne : ((l.length : Int) != want.length) = false := by simp [hl]
    have HL := Hd.mk hl
    have HND : Hd (d = d) := ⟨rfl⟩
    rw [hl] at hc hm
    rw [hl]
    clear hl hne
    go_enter Try.func29, Try.ntmps29
    go_wp2
    go_loopw [5] (fun i wr => ∃ k : Nat, k ≤ want.length ∧ i = .int .i64 k ∧ Hd (∀ j : Nat, j < k → (nth ev0 l j).n = nth 0 want j) ∧ Hd (Below w.heap.size w wr)) (fun i _ => want.length - (intOf i).toNat)
    case atStart => exact ⟨0, Nat.zero_le _, rfl, ⟨fun j h => by omega⟩, ⟨by go_grown⟩⟩
    case round =>
      obtain ⟨k, hk, rfl, Hn, HB⟩ := hrel
      by_cases hlt : k < want.length
      · obtain ⟨ad, A4, c4, e0, hx0, hx1, hx2, hx3, hx4, hl4, hi4⟩ := evs_get HR.out k (by rw [HL.out]; exact hlt)
        subst e0
        obtain ⟨bd, e1, hy⟩ := ints_get HR2.out k hlt
        subst e1
        replace hx1 := (HB.out.cell (World.block_lt_of_cell? w _ hx1)).trans hx1
        replace hy := (HB.out.cell (World.block_lt_of_cell? w _ hy)).trans hy
        clear hx0 hx2 hx3 hx4 hl4 hi4
        have hk0 : (0 : Int) ≤ k := by omega
        have hk1 : (k : Int) < want.length := by omega
        by_cases hs : (nth ev0 l k).n = nth 0 want k
        · have hb : ((nth ev0 l k).n != nth 0 want k) = false := by simp [hs]
          have Hs := Hd.mk hs
          clear hs
          go_wp2_with fail
          go_quiet (fail)
          go_wp2
          go_roundw
          case rel => exact ⟨k + 1, by omega, by go_num, ⟨fun j hj => by
            rcases Nat.lt_or_ge j k with h | h
            · exact Hn.out j h
            · obtain rfl : j = k := by omega
              exact Hs.out⟩, ⟨HB.out.trans (pw_below_drewN (Below.refl _ _) _)⟩⟩
          case measure => simp [intOf]; omega
        · have hb : ((nth ev0 l k).n != nth 0 want k) = true := by simp [hs]
          have Hs := Hd.mk hs
          clear hs
          go_wp2_with fail
          go_quiet (fail)
          go_wp2
          go_ret
          exact ⟨by rw [Hr.out, numbersF_at l want k (by rw [HL.out]; exact hlt) hlt Hs.out]; rfl, HB.out.trans (pw_below_drewN (Below.refl _ _) _)⟩
      · go_wp2
        go_ret
        exact ⟨by rw [Hr.out, numbersF_all l want HL.out (fun i hi => Hn.out i (by rw [HL.out] at hi; omega))]; rfl, HB.out⟩
  · have hne : ((l.length : Int) != want.length) = true := by simp; omega
    go_enter Try.func29, Try.ntmps29
    go_wp2
    go_ret
    exact ⟨by rw [Hr.out, numbersF_len l want hl]; rfl, by go_grown⟩

def fewF (l : List Ev) : Bool := (l.take 100).all (fun x => decide (x.body.length ≤ 5000)) && decide (l.length ≤ 60)
theorem fewF_bad (l : List Ev) (k : Nat) (hk : k < l.length) (hk2 : k < 100) (h : 5000 < (nth ev0 l k).body.length) : fewF l = false := by
  rw [fewF, Bool.and_eq_false_iff]
  left
  rw [Bool.eq_false_iff]
  intro ha
  rw [List.all_eq_true] at ha
  have := ha _ (mem_take_nth l k 100 hk2 hk)
  simp at this
  omega
theorem fewF_end (l : List Ev) (h : ∀ k, k < l.length → k < 100 → (nth ev0 l k).body.length ≤ 5000) : fewF l = decide (l.length ≤ 60) := by
  rw [fewF, show (l.take 100).all (fun x => decide (x.body.length ≤ 5000)) = true from ?_, Bool.true_and]
  rw [List.all_eq_true]
  intro x hx
  obtain ⟨i, hi, rfl⟩ := List.mem_take_iff_getElem.1 hx
  have := h i (by omega) (by omega)
  rw [nth_eq ev0 l i (by omega)] at this
  simpa using this
theorem fewF_ok (l : List Ev) (h : fewF l = true) : l.length ≤ 60 ∧ ∀ x ∈ l, x.body.length ≤ 5000 := by
  rw [fewF, Bool.and_eq_true, List.all_eq_true] at h
  obtain ⟨h1, h2⟩ := h
  have hl : l.length ≤ 60 := by simpa using h2
  refine ⟨hl, fun x hx => ?_⟩
  have := h1 x (by rw [List.take_of_length_le (by omega)]; exact hx)
  simpa using this

set_option maxHeartbeats 1000000 in
theorem few_calls (A : Option Addr) (c : Nat) (l : List Ev) (next : Int) (w : World) (hr : evs.C w A l) (hc : l.length ≤ c) :
    Calls Try.prog 11 #[.agg #[.slice A l.length c, .int .i64 next]] w fun e w' => e = .returned (.bool (fewF l)) ∧ Below w.heap.size w w' := by
  have hu24 := Try.underlying24
  have hu32 := Try.underlying32
  obtain ⟨r, hr0⟩ : ∃ r, r = fewF l := ⟨_, rfl⟩
  rw [← hr0]
  have Hr := Hd.mk hr0
  have HR := Hd.mk hr
  have hm := hr.1
  clear hr0 hr
  go_enter Try.func11, Try.ntmps11
  go_wp2
  go_loopw [3] (fun i wr => ∃ k : Nat, k ≤ l.length ∧ k ≤ 100 ∧ i = .int .i64 k ∧ Hd (∀ j : Nat, j < k → (nth ev0 l j).body.length ≤ 5000) ∧ wr.cell? ⟨w.heap.size, 0, none⟩ = some (.slice A l.length c) ∧ Hd (Below w.heap.size w wr)) (fun i _ => l.length - (intOf i).toNat)
  case atStart => exact ⟨0, Nat.zero_le _, Nat.zero_le _, rfl, ⟨fun j h => by omega⟩, by go_simp, ⟨by go_grown⟩⟩
  case round =>
    obtain ⟨k, hk, hk2, rfl, Hn, hq0, HB⟩ := hrel
    by_cases hlt : k < l.length ∧ k < 100
    · obtain ⟨hlt1, hlt2⟩ := hlt
      obtain ⟨ad, A4, c4, e0, hx0, hx1, hx2, hx3, hx4, hl4, hi4⟩ := evs_get HR.out k hlt1
      subst e0
      replace hx4 := (HB.out.cell (World.block_lt_of_cell? w _ hx4)).trans hx4
      have hb4 := hi4.1
      clear hx0 hx1 hx2 hx3 hl4 hi4
      by_cases hs : 5000 < (nth ev0 l k).body.length
      · go_wp2
        go_ret
        exact ⟨by rw [Hr.out, fewF_bad l k hlt1 hlt2 hs]; rfl, HB.out⟩
      · go_wp2
        go_roundw
        case rel => exact ⟨k + 1, by omega, by omega, by go_num, ⟨fun j hj => by
            rcases Nat.lt_or_ge j k with h | h
            · exact Hn.out j h
            · obtain rfl : j = k := by omega
              omega⟩, hq0, HB⟩
        case measure => simp [intOf]; omega
    · have hfin : Hd (fewF l = decide ((l.length : Int) ≤ 60)) := ⟨by
        rw [fewF_end l (fun j h1 h2 => Hn.out j (by omega))]
        exact decide_eq_decide.2 (by omega)⟩
      by_cases hlt1 : k < l.length
      · have hlt2 : ¬ k < 100 := fun h => hlt ⟨hlt1, h⟩
        clear hlt
        go_wp2
        go_ret
        refine ⟨?_, HB.out⟩
        rw [Hr.out, hfin.out]
        simp
        try omega
      · clear hlt
        go_wp2
        go_ret
        refine ⟨?_, HB.out⟩
        rw [Hr.out, hfin.out]
        simp
        try omega
end Go.Proofs.Ytnmcbpjhlkpglaa.B
