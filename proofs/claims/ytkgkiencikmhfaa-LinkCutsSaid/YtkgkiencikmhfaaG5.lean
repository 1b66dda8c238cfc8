/- What this text holds: contracts of few, and of the reference's copied and Decide. -/
import Derived.Test.YtkgkiencikmhfaaG4
set_option linter.unusedVariables false
set_option linter.unusedSimpArgs false
namespace Go.Proofs.Ytkgkiencikmhfaa.B
open Go.RowKit

theorem mem_take_nth (l : List Fl) (j k : Nat) (hjk : j < k) (hj : j < l.length) : nth fl0 l j ∈ l.take k := by
  rw [nth_eq fl0 l j hj]
  exact List.mem_take_iff_getElem.2 ⟨j, by omega, rfl⟩
def fewF (l : List Fl) : Bool := (l.take 100).all (fun x => decide (x.body.length ≤ 100)) && decide (l.length ≤ 40)
theorem fewF_bad (l : List Fl) (k : Nat) (hk : k < l.length) (hk2 : k < 100) (h : 100 < (nth fl0 l k).body.length) : fewF l = false := by
  rw [fewF, Bool.and_eq_false_iff]
  left
  rw [Bool.eq_false_iff]
  intro ha
  rw [List.all_eq_true] at ha
  have := ha _ (mem_take_nth l k 100 hk2 hk)
  simp at this
  omega
theorem fewF_end (l : List Fl) (h : ∀ k, k < l.length → k < 100 → (nth fl0 l k).body.length ≤ 100) : fewF l = decide (l.length ≤ 40) := by
  rw [fewF, show (l.take 100).all (fun x => decide (x.body.length ≤ 100)) = true from ?_, Bool.true_and]
  rw [List.all_eq_true]
  intro x hx
  obtain ⟨i, hi, rfl⟩ := List.mem_take_iff_getElem.1 hx
  have := h i (by omega) (by omega)
  rw [nth_eq fl0 l i (by omega)] at this
  simpa using this
theorem fewF_ok (l : List Fl) (h : fewF l = true) : l.length ≤ 40 ∧ ∀ x ∈ l, x.body.length ≤ 100 := by
  rw [fewF, Bool.and_eq_true, List.all_eq_true] at h
  obtain ⟨h1, h2⟩ := h
  have hl : l.length ≤ 40 := by simpa using h2
  refine ⟨hl, fun x hx => ?_⟩
  have := h1 x (by rw [List.take_of_length_le (by omega)]; exact hx)
  simpa using this

set_option maxHeartbeats 1000000 in
theorem few_calls (mn mx rt : Int) (dn : Bool) (idle next : Int) (A : Option Addr) (c : Nat) (l : List Fl) (w : World) (hr : fls.C w A l) (hc : l.length ≤ c) :
    Calls Try.prog 11 #[.agg #[.int .i64 mn, .int .i64 mx, .int .i64 rt, .bool dn, .int .i64 idle, .int .i64 next, .slice A l.length c]] w fun e w' => e = .returned (.bool (fewF l)) ∧ Below w.heap.size w w' := by
  have hu26 := Try.underlying26
  have hu69 := Try.underlying69
  obtain ⟨r, hr0⟩ : ∃ r, r = fewF l := ⟨_, rfl⟩
  rw [← hr0]
  have Hr := Hd.mk hr0
  have HR := Hd.mk hr
  have hm := hr.1
  clear hr0 hr
  go_enter Try.func11, Try.ntmps11
  go_wp2
  go_loopw [3] (fun i wr => ∃ k : Nat, k ≤ l.length ∧ k ≤ 100 ∧ i = .int .i64 k ∧ Hd (∀ j : Nat, j < k → (nth fl0 l j).body.length ≤ 100) ∧ wr.cell? ⟨w.heap.size, 6, none⟩ = some (.slice A l.length c) ∧ Hd (Below w.heap.size w wr)) (fun i _ => l.length - (intOf i).toNat)
  case atStart => exact ⟨0, Nat.zero_le _, Nat.zero_le _, rfl, ⟨fun j h => by omega⟩, by go_simp, ⟨by go_grown⟩⟩
  case round =>
    obtain ⟨k, hk, hk2, rfl, Hn, hq0, HB⟩ := hrel
    by_cases hlt : k < l.length ∧ k < 100
    · obtain ⟨hlt1, hlt2⟩ := hlt
      obtain ⟨ad, A4, c4, e0, hx0, hx1, hx4, hl4, hi4⟩ := fls_get HR.out k hlt1
      subst e0
      replace hx4 := (HB.out.cell (World.block_lt_of_cell? w _ hx4)).trans hx4
      have hb4 := hi4.1
      clear hx0 hx1 hl4 hi4
      by_cases hs : 100 < (nth fl0 l k).body.length
      · go_wp2
        go_ret
        exact ⟨by rw [Hr.out, fewF_bad l k hlt1 hlt2 hs]; rfl, HB.out⟩
      · go_wp2
        go_roundw
        case rel => exact ⟨k + 1, by omega, by omega, by go_num, ⟨fun j hj => by
            rcases Nat.lt_or_ge j k with h | h
            · exact Hn.out j h
            · obtain rfl : j = k := by omega
              omega⟩, hq0, HB⟩
        case measure => simp [intOf]; omega
    · have hfin : Hd (fewF l = decide ((l.length : Int) ≤ 40)) := ⟨by
        rw [fewF_end l (fun j h1 h2 => Hn.out j (by omega))]
        exact decide_eq_decide.2 (by omega)⟩
      by_cases hlt1 : k < l.length
      · have hlt2 : ¬ k < 100 := fun h => hlt ⟨hlt1, h⟩
        clear hlt
        go_wp2
        go_ret
        refine ⟨?_, HB.out⟩
        rw [Hr.out, hfin.out]
        simp
        try omega
      · clear hlt
        go_wp2
        go_ret
        refine ⟨?_, HB.out⟩
        rw [Hr.out, hfin.out]
        simp
        try omega

theorem refCopied_calls (A : Option Addr) (c : Nat) (l : List Int) (w : World) (hr : (ints .u8).C w A l) (hc : l.length ≤ c) (hl : l.length ≤ 140737488355328) :
    Calls Try.prog 46 #[.slice A l.length c] w fun e w' => ∃ v, e = .returned v ∧ (ints .u8).Own 5 w' w.heap.size (fun _ => False) v l ∧ Below w.heap.size w w' := by
  have HO : Hd ((ints .u8).Own 5 w w.heap.size (fun _ => False) (.slice none 0 0) []) := ⟨Kd.Own.nil⟩
  have HY : Hd (Fp (fun W => (ints .u8).C W A l) w (fun k => True)) := ⟨hr.fp⟩
  clear hr
  go_enter Try.func46, Try.ntmps46
  go_wp2_with (at_builtin; (refine Kd.Own.appendRow (w0 := w) rfl (.tmp 4) (.tmp 5) 37 (.int .u8 0) 1 rfl Try.underlying37 info5 rfl (by decide) rfl rfl HO.out HY.out rfl ?h1 ?h0 ?h2 ?h3 ?_); (case h1 => intro k hk _ h; cases h); (case h0 => exact Below.refl _ _); (case h2 => exact Nat.le_refl _); (case h3 => simp; omega); intro v1 w1 hown hb hg hat; rw [List.nil_append] at hown; have HO1 := Hd.mk (ints_own hown); have HB2 := Hd.mk hb; clear hown hb hg hat)
  go_ret
  exact ⟨v1, rfl, HO1.out, HB2.out⟩

/-- What Decide leaves: a decision, the choices that are left. -/
theorem refDecide_calls (A : Option Addr) (c : Nat) (l : List Int) (n : Int) (w : World) (hr : (ints .i64).C w A l) (hc : l.length ≤ c) (hl : l.length ≤ 1048576) (hn : 0 < n) (hn2 : n ≤ 4294967296) :
    Calls Try.prog 44 #[.slice A l.length c, .int .i64 n] w fun e w' => ∃ v, e = .returned (.tuple #[.int .i64 (decI l n), v]) ∧ (ints .i64).Own 3 w' w.heap.size (fun _ => False) v (l.drop 1) ∧ Below w.heap.size w w' := by
  obtain ⟨r, hrr⟩ : ∃ r, r = decI l n := ⟨_, rfl⟩
  rw [← hrr]
  rcases Nat.eq_zero_or_pos l.length with h0 | h0
  · have h1 : ((l.length : Int) == 0) = true := by simp [h0]
    have HR : Hd (r = 0) := ⟨by rw [hrr, decI, if_pos h0]⟩
    have HN : Hd (l.drop 1 = []) := ⟨by rw [List.eq_nil_of_length_eq_zero h0]; rfl⟩
    clear hrr hr h0
    go_enter Try.func44, Try.ntmps44
    go_wp2
    refine bodyPost_ret (v := .tuple #[.int .i64 0, .slice none 0 0]) (by simp [results, Try.results44, go_sem]) rfl ?_
    rw [HR.out, HN.out]
    exact ⟨_, rfl, Kd.Own.nil, Below.refl _ _⟩
  · have h1 : ((l.length : Int) == 0) = false := by simp; intro h; simp [h] at h0
    have h2 : (0 : Int) < l.length := by omega
    have h3 : (1 : Int) ≤ l.length := by omega
    obtain ⟨ad, ea, hx⟩ := ints_get hr 0 h0
    subst ea
    rw [Kd.add_zero] at hx
    obtain ⟨x, hxx⟩ : ∃ x, x = nth 0 l 0 := ⟨_, rfl⟩
    rw [← hxx] at hx
    obtain ⟨m, hm0⟩ : ∃ m, m = Int.tmod x n := ⟨_, rfl⟩
    have hf := tmod_fix x n hn
    rw [← hm0] at hf
    have hmr : r = if m < 0 then m + n else m := by rw [hrr, decI, if_neg (by omega), ← hxx, hf.1]
    have hmb : -n < m ∧ m < n := hf.2
    have w1' : IntKind.i64.wrap m = m := IntWalk.i64_in _ (by omega)
    have w2' : IntKind.i64.wrap (m + n) = m + n := IntWalk.i64_in _ (by omega)
    have hz : ¬ n = 0 := by omega
    have htm : Int.tmod x n = m := hm0.symm
    obtain ⟨A1, hcut, hA1⟩ := cut_from (P := Try.prog) 40 3 .i64 1 Try.underlying40 size3 (some ad) l.length c 1 (by omega)
    obtain ⟨M, hM⟩ : ∃ M, M = l.drop 1 := ⟨_, rfl⟩
    have hMl : l.length - 1 = M.length := by rw [hM, List.length_drop]
    have hV1 := ((hr.V hc).drop 1 h0)
    rw [show (if c = 1 then some ad else (some ad).map (·.add (1 * (ints .i64).sz))) = A1 from hA1.symm, ← hM, hMl] at hV1
    have hcut1 : ∀ W : World, (Instr.slice 40 (.slice (some ad) l.length c) (some (.int .i64 1)) none none).run Try.prog W = .ok (.slice A1 M.length (c - 1)) W := fun W => by rw [← hMl]; exact hcut W
    have hMm : M.length ≤ 1048576 := by omega
    rw [← hM]
    have HO : Hd ((ints .i64).Own 3 w w.heap.size (fun _ => False) (.slice none 0 0) []) := ⟨Kd.Own.nil⟩
    have HY : Hd (Fp (fun W => (ints .i64).C W A1 M) w (fun k => True)) := ⟨hV1.C.fp⟩
    have HM := Hd.mk hmr
    have HX := Hd.mk hx
    clear hcut hA1 hM hMl hV1 hf hm0 hmr hrr hxx hr hx
    have hneg : m < 0 ∨ ¬ m < 0 := by omega
    rcases hneg with hneg | hneg
    all_goals
      go_enter Try.func44, Try.ntmps44
      go_wp2_with (at_builtin; (refine Kd.Own.appendRow (w0 := w) rfl (.tmp 11) (.tmp 13) 40 (.int .i64 0) 8 rfl Try.underlying40 info3 rfl (by decide) rfl rfl HO.out HY.out rfl ?h1 ?h0 ?h2 ?h3 ?_); (case h1 => intro k hk _ h; cases h); (case h0 => exact Below.refl _ _); (case h2 => exact Nat.le_refl _); (case h3 => simp; omega); intro v1 w1 hown hb hg hat; rw [List.nil_append] at hown; have hx := keep (hb.mono (Nat.le_refl _)) HX.out; have HO1 := Hd.mk (ints_own hown); have HB2 := Hd.mk hb; clear hown hb hg hat)
      refine bodyPost_ret (v := .tuple #[.int .i64 r, v1]) (by simp [results, Try.results44, go_sem]; (first | (rw [HM.out, if_pos (by omega)]; done) | (rw [HM.out, if_neg (by omega)]; done) | skip)) rfl ?_
      exact ⟨v1, rfl, HO1.out, HB2.out⟩
end Go.Proofs.Ytkgkiencikmhfaa.B
