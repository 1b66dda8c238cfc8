/- What this text holds: the contract of the laws' awake. -/
import Derived.Test.YtnmcbpjhlkpglaaH3
set_option linter.unusedVariables false
set_option linter.unusedSimpArgs false
namespace Go.Proofs.Ytnmcbpjhlkpglaa.B
open Go.RowKit

def awL : List Ev := [⟨0, 3, 3, 0, []⟩, ⟨3, 1, 1, 0, []⟩, ⟨5, 0, 0, 0, []⟩, ⟨5, 2, 2, 0, []⟩]
def awL2 : List Ev := [⟨0, 3, 3, 0, []⟩, ⟨3, 1, 1, 0, []⟩, ⟨5, 2, 2, 0, []⟩]
def awL3 : List Ev := [⟨5, 2, 2, 0, []⟩]
def awL4 : List Ev := [⟨0, 3, 3, 0, []⟩, ⟨3, 1, 1, 0, []⟩]
theorem aw1 : addedF [5, 3, 5, 0] = ((awL, 4), true) := by kernel_rfl
theorem aw2 : cancelF awL 4 0 = ((awL2, 4), true) := by kernel_rfl
theorem aw3 : dueF awL2 4 4 = ((awL3, 4), awL4) := by kernel_rfl
theorem aw4 : dueF awL3 4 5 = (([], 4), awL3) := by kernel_rfl
theorem aw5 : numbersF awL [3, 1, 0, 2] = true := by kernel_rfl
theorem aw6 : numbersF awL4 [3, 1] = true := by kernel_rfl
theorem aw7 : numbersF awL3 [2] = true := by kernel_rfl

theorem ints_blk {k : IntKind} {w : World} {g T : Nat} {cs : Array Value} (h : Blk w g T cs) (xs : List Int) (hl : xs.length ≤ 9223372036854775807) (hx : ∀ i : Nat, i < xs.length → cs[i]? = some (.int k (nth 0 xs i))) : (ints k).C w (some ⟨g, 0, none⟩) xs := by
  refine ⟨hl, fun _ => ⟨_, rfl, fun i x hi => ⟨[.int k x], rfl, fun j u hu => ?_⟩⟩⟩
  have hlt : i < xs.length := (List.getElem?_eq_some_iff.1 hi).1
  have hxi : x = nth 0 xs i := by
    have := nth_get? 0 xs i hlt
    rw [hi] at this
    injection this
  rcases j with _ | j
  · injection hu with hu
    subst hu
    rw [Kd.add_plain]
    have h2 := h.cell i (hx i hlt)
    rw [hxi]
    simpa [ints] using h2
  · simp at hu

set_option maxRecDepth 100000 in
set_option maxHeartbeats 4000000 in
theorem awake_calls (w : World) : Calls Try.prog 10 #[] w fun e w' => e = .returned (.bool true) ∧ Below w.heap.size w w' := by
  have hu24 := Try.underlying24
  obtain ⟨L1, hL1⟩ : ∃ L, L = awL := ⟨_, rfl⟩
  obtain ⟨L2, hL2⟩ : ∃ L, L = awL2 := ⟨_, rfl⟩
  obtain ⟨L3, hL3⟩ : ∃ L, L = awL3 := ⟨_, rfl⟩
  obtain ⟨L4, hL4⟩ : ∃ L, L = awL4 := ⟨_, rfl⟩
  obtain ⟨L5, hL5⟩ : ∃ L : List Ev, L = [] := ⟨_, rfl⟩
  have h1 := aw1; rw [← hL1] at h1
  have h2 := aw2; rw [← hL1, ← hL2] at h2
  have h3 := aw3; rw [← hL2, ← hL3, ← hL4] at h3
  have h4 := aw4; rw [← hL3, ← hL5] at h4
  have h5 := aw5; rw [← hL1] at h5
  have h6 := aw6; rw [← hL4] at h6
  have h7 := aw7; rw [← hL3] at h7
  have hz5 : ((L5.length : Int) == 0) = true := by rw [hL5]; rfl
  have H1 := Hd.mk h1; have H2 := Hd.mk h2; have H3 := Hd.mk h3; have H4 := Hd.mk h4; have H5 := Hd.mk h5; have H6 := Hd.mk h6; have H7 := Hd.mk h7
  clear h1 h2 h3 h4 h5 h6 h7 hL1 hL2 hL3 hL4 hL5
  go_enter Try.func10, Try.ntmps10
  go_wp2_with fail
  refine (added_calls _ 4 [5, 3, 5, 0] _ (ints_blk (Blk.new w _ _) _ (by decide) (fun i hi => by
    rcases (by simp at hi; omega : i = 0 ∨ i = 1 ∨ i = 2 ∨ i = 3) with rfl | rfl | rfl | rfl <;> rfl)) (Nat.le_refl _)).mono ?_
  rw [H1.out]
  rintro e w1 ⟨v, rfl, hv, hb⟩
  obtain ⟨A1, c1, rfl, hc1, -⟩ := hv.reads
  have hbw : Below w.heap.size w w1 := Below.trans (by go_grown) (hb.mono (by simp))
  have HBW := Hd.mk hbw
  have hsz1 := hbw.size
  have hv1 : evs.V w1 (fun k => k ≠ w1.heap.size) (.slice A1 L1.length c1) L1 := hv.bound.mono (fun k hk => by have := hk.2; omega)
  have HV := Hd.mk hv1
  clear hb hbw hv hv1 H1
  go_wp2_with fail
  have bN := Blk.new (w1.alloc (.cells #[.slice A1 L1.length c1, .int .i64 4] 24)) 3 #[.int .i64 3, .int .i64 1, .int .i64 0, .int .i64 2]
  rw [World.size_alloc] at bN
  have bQ := Blk.alloc (Blk.new w1 24 #[.slice A1 L1.length c1, .int .i64 4]) (.cells #[.int .i64 3, .int .i64 1, .int .i64 0, .int .i64 2] 3)
  have hvA := (HV.out.alloc (.cells #[.slice A1 L1.length c1, .int .i64 4] 24)).alloc (.cells #[.int .i64 3, .int .i64 1, .int .i64 0, .int .i64 2] 3)
  refine (numbers_calls A1 _ c1 4 L1 [3, 1, 0, 2] _ hvA.C hc1 (ints_blk bN _ (by decide) (fun i hi => by
    rcases (by simp at hi; omega : i = 0 ∨ i = 1 ∨ i = 2 ∨ i = 3) with rfl | rfl | rfl | rfl <;> rfl)) (Nat.le_refl _)).mono ?_
  rw [H5.out]
  rintro e w2 ⟨rfl, hb⟩
  have bQ := bQ.below hb
  have hvA := hvA.below hb
  have hsz2 : w1.heap.size + 1 + 1 ≤ w2.heap.size := by have := hb.size; simpa using this
  have hbw : Below w.heap.size w w2 := (HBW.out.trans (by go_grown : Below w.heap.size w1 ((w1.alloc (.cells #[.slice A1 L1.length c1, .int .i64 4] 24)).alloc (.cells #[.int .i64 3, .int .i64 1, .int .i64 0, .int .i64 2] 3)))).trans (hb.mono (by simp; omega))
  obtain ⟨q0, q1, q2, q3⟩ := bQ.f2
  have HB := Hd.mk bQ
  have HW := Hd.mk hbw
  have HVA := Hd.mk hvA
  have hg : w.heap.size ≤ w1.heap.size := hsz1
  clear bN bQ hvA hb hbw HV HBW H5 hsz1
  go_wp2_with fail
  refine (cancel_calls A1 c1 L1 4 0 _ _ HVA.out).mono ?_
  rw [H2.out]
  rintro e w3 ⟨v, rfl, hv, hb⟩
  obtain ⟨A2, c2, rfl, hc2, -⟩ := hv.reads
  have hsz3 := hb.size
  have bQ := HB.out.below hb
  have hbw := HW.out.trans (hb.mono (by omega))
  have hv : evs.V w3 (fun k => k ≠ w1.heap.size) (.slice A2 L2.length c2) L2 := hv.mono (fun k hk => by
    have hk' : k ≠ w1.heap.size ∨ w2.heap.size ≤ k := hk
    omega)
  have HB' := Hd.mk ((bQ.put 0 (.slice A2 L2.length c2) rfl).put 1 (.int .i64 4) rfl)
  have HV := Hd.mk ((hv.far (p := ⟨w1.heap.size, 0, none⟩) (fun k hk => hk) (.slice A2 L2.length c2)).far (p := ⟨w1.heap.size, 1, none⟩) (fun k hk => hk) (.int .i64 4))
  have HW' := Hd.mk (Below.setCell (Below.setCell hbw (p := ⟨w1.heap.size, 0, none⟩) (by dsimp only; omega) (.slice A2 L2.length c2)) (p := ⟨w1.heap.size, 1, none⟩) (by dsimp only; omega) (.int .i64 4))
  clear q0 q1 q2 q3
  obtain ⟨q0, q1, q2, q3⟩ := bQ.f2
  clear hb bQ hbw hv HVA HW HB H2 hc1
  go_wp2_with fail
  refine (due_calls A2 c2 L2 4 4 _ _ HV.out).mono ?_
  rw [H3.out]
  rintro e w4 ⟨v, u, rfl, hv, hu, hb⟩
  obtain ⟨A3, c3, rfl, hc3, -⟩ := hv.reads
  obtain ⟨A4, c4, rfl, hc4, -⟩ := hu.reads
  have hsz4 := hb.size
  simp only [World.size_setCell] at hsz4 hv hu
  have bQ := HB'.out.below hb
  have hbw := HW'.out.trans (hb.mono (by simp only [World.size_setCell]; omega))
  have hv : evs.V w4 (fun k => k ≠ w1.heap.size) (.slice A3 L3.length c3) L3 := hv.mono (fun k hk => by
    have hk' : k ≠ w1.heap.size ∨ w3.heap.size ≤ k := hk
    omega)
  have hu : evs.V w4 (fun k => k ≠ w1.heap.size) (.slice A4 L4.length c4) L4 := hu.mono (fun k hk => by
    have hk' : w3.heap.size ≤ k := hk
    omega)
  have HB := Hd.mk ((bQ.put 0 (.slice A3 L3.length c3) rfl).put 1 (.int .i64 4) rfl)
  have HV2 := Hd.mk ((hv.far (p := ⟨w1.heap.size, 0, none⟩) (fun k hk => hk) (.slice A3 L3.length c3)).far (p := ⟨w1.heap.size, 1, none⟩) (fun k hk => hk) (.int .i64 4))
  have HU := Hd.mk ((hu.far (p := ⟨w1.heap.size, 0, none⟩) (fun k hk => hk) (.slice A3 L3.length c3)).far (p := ⟨w1.heap.size, 1, none⟩) (fun k hk => hk) (.int .i64 4))
  have HW := Hd.mk (Below.setCell (Below.setCell hbw (p := ⟨w1.heap.size, 0, none⟩) (by dsimp only; omega) (.slice A3 L3.length c3)) (p := ⟨w1.heap.size, 1, none⟩) (by dsimp only; omega) (.int .i64 4))
  clear q0 q1 q2 q3
  obtain ⟨q0, q1, q2, q3⟩ := bQ.f2
  clear hb bQ hbw hv hu HV HW' HB' H3 hc2
  go_wp2_with fail
  refine (due_calls A3 c3 L3 4 5 _ _ HV2.out).mono ?_
  rw [H4.out]
  rintro e w5 ⟨v, u, rfl, hv, hu, hb⟩
  obtain ⟨A5, c5, rfl, hc5, -⟩ := hv.reads
  obtain ⟨A6, c6, rfl, hc6, -⟩ := hu.reads
  have hsz5 := hb.size
  simp only [World.size_setCell] at hsz5 hv hu
  have bQ := HB.out.below hb
  have hbw := HW.out.trans (hb.mono (by simp only [World.size_setCell]; omega))
  have hu : evs.V w5 (fun k => k ≠ w1.heap.size) (.slice A6 L3.length c6) L3 := hu.mono (fun k hk => by
    have hk' : w4.heap.size ≤ k := hk
    omega)
  have hu4 := HU.out.below hb
  have HB' := Hd.mk ((bQ.put 0 (.slice A5 L5.length c5) rfl).put 1 (.int .i64 4) rfl)
  have HU4 := Hd.mk ((hu4.far (p := ⟨w1.heap.size, 0, none⟩) (fun k hk => hk) (.slice A5 L5.length c5)).far (p := ⟨w1.heap.size, 1, none⟩) (fun k hk => hk) (.int .i64 4))
  have HU6 := Hd.mk ((hu.far (p := ⟨w1.heap.size, 0, none⟩) (fun k hk => hk) (.slice A5 L5.length c5)).far (p := ⟨w1.heap.size, 1, none⟩) (fun k hk => hk) (.int .i64 4))
  have HW' := Hd.mk (Below.setCell (Below.setCell hbw (p := ⟨w1.heap.size, 0, none⟩) (by dsimp only; omega) (.slice A5 L5.length c5)) (p := ⟨w1.heap.size, 1, none⟩) (by dsimp only; omega) (.int .i64 4))
  clear q0 q1 q2 q3
  obtain ⟨q0, q1, q2, q3⟩ := bQ.f2
  clear hb bQ hbw hv hu hu4 HV2 HU HW HB H4 hc3 hc5
  go_wp2_with fail
  obtain ⟨w6, hw6⟩ : ∃ w6, w6 = ((w5.setCell ⟨w1.heap.size, 0, none⟩ (.slice A5 L5.length c5)).setCell ⟨w1.heap.size, 1, none⟩ (.int .i64 4)) := ⟨_, rfl⟩
  have hs6 : w6.heap.size = w5.heap.size := by rw [hw6]; simp
  rw [← hw6] at HB' HU4 HU6 HW' ⊢
  rw [← hs6]
  clear hw6 q0 q1 q2 q3
  have hvA := HU4.out.alloc (.cells #[.int .i64 3, .int .i64 1] 3)
  refine (numbers_calls A4 _ c4 2 L4 [3, 1] _ hvA.C hc4 (ints_blk (Blk.new w6 3 _) _ (by decide) (fun i hi => by
    rcases (by simp at hi; omega : i = 0 ∨ i = 1) with rfl | rfl <;> rfl)) (Nat.le_refl _)).mono ?_
  rw [H6.out]
  rintro e w7 ⟨rfl, hb⟩
  have hsz7 := hb.size
  simp only [World.size_alloc] at hsz7
  have bQ := (HB'.out.alloc (.cells #[.int .i64 3, .int .i64 1] 3)).below hb
  have hu6 := (HU6.out.alloc (.cells #[.int .i64 3, .int .i64 1] 3)).below hb
  have hbw := (Below.alloc HW'.out (by omega) (.cells #[.int .i64 3, .int .i64 1] 3)).trans (hb.mono (by simp; omega))
  obtain ⟨q0, q1, q2, q3⟩ := bQ.f2
  have HB := Hd.mk bQ
  have HU := Hd.mk hu6
  have HW := Hd.mk hbw
  clear bQ hu6 hbw hb HB' HU4 HU6 HW' hvA
  go_wp2_with fail
  have hvA := HU.out.alloc (.cells #[.int .i64 2] 3)
  refine (numbers_calls A6 _ c6 1 L3 [2] _ hvA.C hc6 (ints_blk (Blk.new w7 3 _) _ (by decide) (fun i hi => by
    obtain rfl : i = 0 := (by simp at hi; omega)
    rfl)) (Nat.le_refl _)).mono ?_
  rw [H7.out]
  rintro e w8 ⟨rfl, hb⟩
  have bQ := (HB.out.alloc (.cells #[.int .i64 2] 3)).below hb
  have hbw := (Below.alloc HW.out (by omega) (.cells #[.int .i64 2] 3)).trans (hb.mono (by simp; omega))
  have HW2 := Hd.mk hbw
  clear q0 q1 q2 q3
  obtain ⟨q0, q1, q2, q3⟩ := bQ.f2
  clear bQ hb hbw HB HU HW hvA
  go_wp2
  go_ret
  exact ⟨rfl, HW2.out⟩
end Go.Proofs.Ytnmcbpjhlkpglaa.B
