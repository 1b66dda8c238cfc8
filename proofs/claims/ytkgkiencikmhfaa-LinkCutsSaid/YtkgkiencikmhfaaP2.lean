/- What this text holds: what a cut leaves, as plain Lean. -/
import Derived.Test.YtkgkiencikmhfaaP1
set_option linter.unusedVariables false
set_option linter.unusedSimpArgs false
namespace Go.Proofs.Ytkgkiencikmhfaa.B
open Go.RowKit

theorem chk_nil {mn mx rt idle next : Int} {dn : Bool} (hc : 0 ≤ mn ∧ mn ≤ mx ∧ mx ≤ 1073741824 ∧ 0 ≤ rt ∧ rt ≤ 65536) (hi : 0 ≤ idle ∧ idle ≤ 1073741824) (hn : 0 ≤ next ∧ next ≤ 1073741824) : chkL mn mx rt dn idle next [] = 0 := by
  unfold chkL
  rw [if_neg (by rw [cfgF, if_pos hc]; decide), if_neg (by simp [betw]; omega), if_neg (by simp [betw]; omega), if_neg (by simp), if_neg (by simp)]
  rfl
section
variable {mn mx rt idle next now : Int} {lf : List Fl}
theorem cut_1 (h : chkL mn mx rt false idle next lf = 0) : cutF mn mx rt false idle next lf = ⟨mn, mx, rt, true, idle, next, []⟩ := by rw [cutF, if_neg (by rw [h]; decide)]
theorem cut_2 (h : chkL mn mx rt true idle next [] = 0) (hn : 0 ≤ now ∧ now ≤ 65535) : sendF mn mx rt true idle next [] now [9] [2, 1] = (⟨mn, mx, rt, true, idle, next, []⟩, [2, 1], 0) := by
  unfold sendF
  rw [if_neg (by rw [h]; decide), if_neg (by simp [betw]; omega), if_neg (by simp), if_pos rfl]
theorem cut_3 (h : chkL mn mx rt true idle next [] = 0) : nextF mn mx rt true idle next [] = (0, false) := by rw [nextF, if_pos (.inr rfl)]
theorem cut_4 (h : chkL mn mx rt true idle next [] = 0) (hn : 0 ≤ now ∧ now ≤ 65535) : restoreF mn mx rt true idle next [] now = ⟨mn, mx, rt, false, now, next, []⟩ := by
  rw [restoreF, if_pos ⟨h, rfl, by simp [betw]; omega⟩]
theorem cut_5 (hc : 0 ≤ mn ∧ mn ≤ mx ∧ mx ≤ 100 ∧ 0 ≤ rt ∧ rt ≤ 100) (hx : 0 ≤ next ∧ next ≤ 40) (hn : 0 ≤ now ∧ now ≤ 65535) :
    ∃ en, 0 ≤ en ∧ en ≤ 65536 ∧ sendF mn mx rt false now next [] now [9] [] = (⟨mn, mx, rt, false, en, next + 1, [⟨en + mn, next, [9]⟩]⟩, [], 0) := by
  have ht := ticksF_small 1 rt (by decide) hc.2.2.2.1
  refine ⟨max now now + ticksF 1 rt, by omega, by omega, ?_⟩
  unfold sendF
  have h := chk_nil (dn := false) (idle := now) (next := next) (mn := mn) (mx := mx) (rt := rt) (by omega) (by omega) (by omega)
  rw [if_neg (by rw [h]; decide), if_neg (by simp [betw]; omega), if_neg (by simp), if_neg (by decide)]
  have hl : (([9] : List Int).length : Int) = 1 := rfl
  rw [hl, if_neg (by omega), if_neg (by simp; omega)]
  have hd : decI [] 3 = 0 := rfl
  have hd2 : decI (List.drop 1 []) (mx - mn + 1) = 0 := rfl
  rw [hd]
  have ha : arrN 0 = 1 := rfl
  rw [ha]
  simp only [itS, stepS, hd2, Int.add_zero]
  rfl
theorem cut_6 {en : Int} (hc : 0 ≤ mn ∧ mn ≤ mx ∧ mx ≤ 100 ∧ 0 ≤ rt ∧ rt ≤ 100) (hx : 0 ≤ next ∧ next ≤ 40) (he : 0 ≤ en ∧ en ≤ 65536) :
    deliverF mn mx rt false en (next + 1) [⟨en + mn, next, [9]⟩] 1073741824 = (⟨mn, mx, rt, false, en, next + 1, []⟩, [[9]]) := by
  have hlo : LOk [⟨en + mn, next, [9]⟩] (next + 1) := ⟨fun x hx2 => by
    obtain rfl := List.mem_singleton.1 hx2
    dsimp only
    exact ⟨by omega, by omega, by omega, by omega, by decide⟩, List.pairwise_singleton _ _, List.pairwise_singleton _ _⟩
  have h := hlo.chk (mn := mn) (mx := mx) (rt := rt) (idle := en) (by omega) (by omega) (by omega) (by simp)
  have hp : placeL [⟨en + mn, next, [9]⟩] 1073741824 = 1 := placeL_end _ _ (fun j hj => by
    obtain rfl : j = 0 := by simp at hj; omega
    show (en + mn) ≤ _
    omega)
  rw [deliverF, if_neg (by rw [h]; decide), hp]
  rfl
end
/-- One byte slice, written out. -/
theorem bss_one {w : World} {g0 g T' : Nat} {x : Int} (hx : (ints .u8).C w (some ⟨g0, 0, none⟩) [x]) (h : Blk w g T' #[.slice (some ⟨g0, 0, none⟩) 1 1]) : bss.C w (some ⟨g, 0, none⟩) [[x]] := by
  refine ⟨by simp, fun _ => ⟨_, rfl, fun i y hi => ?_⟩⟩
  have hlt := (List.getElem?_eq_some_iff.1 hi).1
  obtain rfl : i = 0 := by simp at hlt; omega
  obtain rfl : y = [x] := by simpa using hi.symm
  refine ⟨[.slice (some ⟨g0, 0, none⟩) 1 1], ⟨_, _, rfl, Nat.le_refl _, hx⟩, fun j u hu => ?_⟩
  rcases j with _ | j
  · injection hu with hu; subst hu; exact h.cell 0 rfl
  · simp at hu
end Go.Proofs.Ytkgkiencikmhfaa.B
