/- What this text holds: the plain law behind EventqueueCancels. -/
import Derived.Test.YtnmcbpjhlkpglaaX1
set_option linter.unusedVariables false
set_option linter.unusedSimpArgs false
namespace Go.Proofs.Ytnmcbpjhlkpglaa.B
open Go.RowKit

theorem place_all (l : List Ev) (t : Int) (h : ∀ x ∈ l, x.t ≤ t) : placeI l t = l.length := by
  have : l.findIdx? (fun x => decide (t < x.t)) = none := by
    rw [List.findIdx?_eq_none_iff]
    intro x hx
    have := h x hx
    simp
    omega
  rw [placeI, this]

theorem cancels_plain (l : List Int) (which : Int) (h0 : 0 ≤ which) : ∃ (ts : List Int) (L : List Ev) (n : Int), ts = timesF l ∧ ts.length ≤ 30 ∧ addedF ts = ((L, n), true) ∧ L.length = ts.length ∧
    (0 < ts.length → ∃ (L' D D' : List Ev) (i : Nat), i < L.length ∧ cancelF L n (which % ts.length) = ((L', n), true) ∧ cancelF L' n (which % ts.length) = ((L', n), false) ∧ L'.length + 1 = L.length ∧
      dueF L n 100 = ((D, n), L) ∧ dueF L' n 100 = ((D', n), L') ∧ (nth ev0 L i).n = which % ts.length ∧ (∀ j, j < L.length → j ≠ i → (nth ev0 L j).n ≠ which % ts.length) ∧
      (∀ j, j < i → nth ev0 L' j = nth ev0 L j) ∧ (∀ j, i < j → j < L.length → nth ev0 L' (j - 1) = nth ev0 L j)) := by
  have hl : (timesF l).length ≤ 30 := by rw [timesF_length]; omega
  obtain ⟨L, h1, hG, hP⟩ := addedF_good (timesF l) (by omega) (fun t ht => by have := timesF_mem l t ht; omega)
  have hLl : L.length = (timesF l).length := by rw [hP.length_eq]; simp [evOf]
  refine ⟨timesF l, L, _, rfl, hl, h1, hLl, fun hp => ?_⟩
  obtain ⟨num, hnum⟩ : ∃ num, num = which % ((timesF l).length : Int) := ⟨_, rfl⟩
  rw [← hnum]
  have hn0 : 0 ≤ num := by rw [hnum]; exact Int.emod_nonneg _ (by omega)
  have hn1 : num < (timesF l).length := by rw [hnum]; exact Int.emod_lt_of_pos _ (by omega)
  -- the event of that number
  have hmem : ∃ x ∈ L, x.n = num := by
    have : (⟨nth 0 (timesF l) num.toNat, num.toNat, num.toNat, 0, []⟩ : Ev) ∈ evOf (timesF l) := List.mem_map.2 ⟨num.toNat, by simp; omega, rfl⟩
    exact ⟨_, hP.mem_iff.2 this, by simp; omega⟩
  obtain ⟨i, hi, hx⟩ : ∃ i, i < L.length ∧ (nth ev0 L i).n = num := by
    obtain ⟨x, hx, he⟩ := hmem
    obtain ⟨i, hi, rfl⟩ := List.getElem_of_mem hx
    exact ⟨i, hi, by rw [nth_eq ev0 L i hi]; exact he⟩
  have huniq : ∀ j, j < L.length → j ≠ i → (nth ev0 L j).n ≠ num := by
    intro j hj hne he
    have h2 := hG.nod
    rw [List.nodup_iff_pairwise_ne, List.pairwise_iff_getElem] at h2
    have key : ∀ a b (ha : a < L.length) (hb : b < L.length), a < b → (nth ev0 L a).n ≠ (nth ev0 L b).n := by
      intro a b ha hb hab
      have := h2 a b (by simpa using ha) (by simpa using hb) hab
      rw [nth_eq ev0 L a ha, nth_eq ev0 L b hb]
      simpa using this
    rcases Nat.lt_or_gt_of_ne hne with h | h
    · exact key j i hj hi h (by rw [he, hx])
    · exact key i j hi hj h (by rw [he, hx])
  have hfi : numAt L num = some i := by
    rw [numAt, List.findIdx?_eq_some_iff_getElem]
    refine ⟨hi, by rw [nth_eq ev0 L i hi] at hx; simp [hx], fun j hj => ?_⟩
    have := huniq j (by omega) (by omega)
    rw [nth_eq ev0 L j (by omega)] at this
    simp [this]
  have hsub : (L.take i ++ L.drop (i + 1)).Sublist L := by
    have : L.take i ++ L.drop (i + 1) = L.eraseIdx i := (List.eraseIdx_eq_take_drop_succ ..).symm
    rw [this]
    exact List.eraseIdx_sublist ..
  have hG' := hG.sub hsub
  have htm : ∀ x ∈ L, x.t ≤ 100 := by
    intro x hx
    obtain ⟨j, hj, rfl⟩ := List.mem_map.1 (hP.mem_iff.1 hx)
    have := timesF_mem l _ (nth_mem 0 (timesF l) j (by simpa using hj))
    simp
    omega
  have hlen : (L.take i ++ L.drop (i + 1)).length + 1 = L.length := by rw [List.length_append, List.length_take, List.length_drop]; omega
  have e1 : ∀ j, j < i → nth ev0 (L.take i ++ L.drop (i + 1)) j = nth ev0 L j := by
    intro j hj
    rw [nth_eq ev0 _ j (by omega), nth_eq ev0 L j (by omega), List.getElem_append_left (by rw [List.length_take]; omega), List.getElem_take]
  have e2 : ∀ j, i < j → j < L.length → nth ev0 (L.take i ++ L.drop (i + 1)) (j - 1) = nth ev0 L j := by
    intro j hj hj2
    rw [nth_eq ev0 _ (j - 1) (by omega), nth_eq ev0 L j (by omega), List.getElem_append_right (by rw [List.length_take]; omega), List.getElem_drop]
    congr 1
    rw [List.length_take]
    omega
  refine ⟨L.take i ++ L.drop (i + 1), [], [], i, hi, ?_, ?_, hlen, ?_, ?_, hx, huniq, e1, e2⟩
  · rw [cancelF, if_neg (by rw [check_of_good hG]; decide), hfi]
  · have hno : numAt (L.take i ++ L.drop (i + 1)) num = none := by
      rw [numAt, List.findIdx?_eq_none_iff]
      intro x hx
      obtain ⟨j, hj, rfl⟩ := List.getElem_of_mem hx
      have : nth ev0 (L.take i ++ L.drop (i + 1)) j = (L.take i ++ L.drop (i + 1))[j] := nth_eq ev0 _ j hj
      rw [← this]
      rcases Nat.lt_or_ge j i with h | h
      · rw [e1 j h]
        simpa using huniq j (by omega) (by omega)
      · have := e2 (j + 1) (by omega) (by omega)
        rw [Nat.add_sub_cancel] at this
        rw [this]
        simpa using huniq (j + 1) (by omega) (by omega)
    rw [cancelF, if_neg (by rw [check_of_good hG']; decide), hno]
  · rw [dueF_good hG, place_all L 100 htm, List.drop_length, List.take_length]
  · rw [dueF_good hG', place_all _ 100 (fun x hx => htm x (hsub.subset hx)), List.drop_length, List.take_length]
end Go.Proofs.Ytnmcbpjhlkpglaa.B
