/- What this text holds: the plain law behind EventqueueExpires. -/
import Derived.Test.YtnmcbpjhlkpglaaO1
import Derived.Test.YtnmcbpjhlkpglaaI2
set_option linter.unusedVariables false
set_option linter.unusedSimpArgs false
namespace Go.Proofs.Ytnmcbpjhlkpglaa.B
open Go.RowKit

theorem popF_drop {L : List Ev} {n : Int} (hG : Good L n) (k : Nat) (hk : k < L.length) : popF (L.drop k) n = ((L.drop (k + 1), n), nth ev0 L k, 0) := by
  rw [popF_good (hG.sub (List.drop_sublist _ _)) (by rw [List.length_drop]; omega), List.drop_drop]
  congr 2
  rw [nth_eq ev0 _ 0 (by rw [List.length_drop]; omega), nth_eq ev0 L k (by omega), List.getElem_drop]
  rfl
theorem firstF_drop {L : List Ev} {n : Int} (hG : Good L n) (k : Nat) (hk : k < L.length) : firstF (L.drop k) n = (nth ev0 L k, true) := by
  rw [firstF, if_neg (by rw [check_of_good (hG.sub (List.drop_sublist _ _)), List.length_drop]; omega)]
  rw [nth_eq ev0 _ 0 (by rw [List.length_drop]; omega), nth_eq ev0 L k (by omega), List.getElem_drop]
  rfl
theorem dueF_good {L : List Ev} {n t : Int} (hG : Good L n) : dueF L n t = ((L.drop (placeI L t), n), L.take (placeI L t)) := by
  rw [dueF, if_neg (by rw [check_of_good hG]; decide)]

theorem expires_plain (l : List Int) (now : Int) : ∃ (ts : List Int) (L D : List Ev) (n : Int), ts = timesF l ∧ addedF ts = ((L, n), true) ∧ D.length ≤ L.length ∧ L.length ≤ 30 ∧
    dueF L n now = ((L.drop D.length, n), D) ∧
    (∀ k, k < D.length → firstF (L.drop k) n = (nth ev0 D k, true) ∧ popF (L.drop k) n = ((L.drop (k + 1), n), nth ev0 D k, 0) ∧ (nth ev0 D k).t ≤ now) ∧
    (∃ x b, firstF (L.drop D.length) n = (x, b) ∧ (b = true → now < x.t)) := by
  have hl : (timesF l).length ≤ 30 := by rw [timesF_length]; omega
  obtain ⟨L, h1, hG, hP⟩ := addedF_good (timesF l) (by omega) (fun t ht => by have := timesF_mem l t ht; omega)
  have hs := place_split (time := now) hG
  have hLl : L.length = (timesF l).length := by rw [hP.length_eq]; simp [evOf]
  have hp := placeI_le L now
  have hD : (L.take (placeI L now)).length = placeI L now := by rw [List.length_take]; omega
  refine ⟨timesF l, L, L.take (placeI L now), _, rfl, h1, by omega, by rw [hLl]; exact hl, by rw [hD]; exact dueF_good hG, fun k hk => ?_, ?_⟩
  · rw [hD] at hk
    have e : nth ev0 (L.take (placeI L now)) k = nth ev0 L k := by
      rw [nth_eq ev0 _ k (by omega), nth_eq ev0 L k (by omega), List.getElem_take]
    refine ⟨by rw [e]; exact firstF_drop hG k (by omega), by rw [e]; exact popF_drop hG k (by omega), hs.1 _ (nth_mem ev0 _ k (by omega))⟩
  · rw [hD]
    by_cases h : placeI L now < L.length
    · refine ⟨_, _, firstF_drop hG _ h, fun _ => ?_⟩
      have : nth ev0 L (placeI L now) ∈ L.drop (placeI L now) := by
        rw [nth_eq ev0 L _ h, List.drop_eq_getElem_cons h]
        exact List.mem_cons_self
      exact hs.2 _ this
    · refine ⟨ev0, false, ?_, fun h => by cases h⟩
      rw [List.drop_of_length_le (by omega), firstF, if_pos (.inr rfl)]
end Go.Proofs.Ytnmcbpjhlkpglaa.B
