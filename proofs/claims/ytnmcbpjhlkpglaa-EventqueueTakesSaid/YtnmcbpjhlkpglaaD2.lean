/- What this text holds: the walk of the law EventqueueTakes. -/
import Derived.Test.YtnmcbpjhlkpglaaD1
set_option linter.unusedVariables false
set_option linter.unusedSimpArgs false
namespace Go.Proofs.Ytnmcbpjhlkpglaa.B
open Go.RowKit

set_option maxRecDepth 100000 in
set_option maxHeartbeats 4000000 in
theorem lawTakes_calls (A : Option Addr) (c : Nat) (l : List Ev) (next number now : Int) (w : World) (hr : evs.C w A l) (hc : l.length ≤ c) :
    Calls Try.prog 8 #[.agg #[.slice A l.length c, .int .i64 next], .int .i64 number, .int .i64 now] w fun e w' => e = .returned (.bool true) ∧ Below w.heap.size w w' := by
  have hu24 := Try.underlying24
  have hu32 := Try.underlying32
  have HR := Hd.mk hr
  have HV : Hd (evs.V (w.alloc (.cells #[.slice A l.length c, .int .i64 next] 24)) (fun j => j < w.heap.size) (.slice A l.length c) l) := ⟨((hr.V hc).bound.mono (fun j hj => hj.2)).alloc _⟩
  have HB : Hd (Below w.heap.size w (w.alloc (.cells #[.slice A l.length c, .int .i64 next] 24))) := ⟨by go_grown⟩
  have HQ := Hd.mk (Blk.new w 24 #[.slice A l.length c, .int .i64 next])
  clear hr
  obtain ⟨few, hfew⟩ : ∃ b, b = fewF l := ⟨_, rfl⟩
  have HF := Hd.mk hfew
  clear hfew
  go_enter Try.func8, Try.ntmps8
  go_wp2_with fail
  refine (few_calls A c l next _ (HR.out.below HB.out) hc).mono ?_
  rw [← HF.out]
  rintro e w1 ⟨rfl, hb⟩
  replace HB := Hd.mk ((bstep HB.out (Nat.le_refl _) hb))
  replace HQ := Hd.mk (HQ.out.below hb)
  replace HV := Hd.mk (HV.out.below hb)
  clear hb
  cases few
  · go_wp2_with fail
    refine (awake_calls _).mono ?_
    rintro e w2 ⟨rfl, hb⟩
    replace HB := Hd.mk (bstep HB.out (Nat.le_refl _) hb)
    clear hb HQ HV
    go_wp2
    go_ret
    first | exact ⟨rfl, HB.out⟩ | exact ⟨by simp, HB.out⟩
  obtain ⟨q0_0, q0_1, q0_2, q0_3⟩ := HQ.out.f2
  go_wp2_with fail
  refine (first_calls A c l next _ (HR.out.below HB.out) hc).mono ?_
  obtain ⟨r, hr⟩ : ∃ r, r = firstF l next := ⟨_, rfl⟩
  have HF1 := Hd.mk hr
  rw [← hr]
  clear hr
  rcases r with ⟨⟨xt, xn, xk, xd, xb⟩, is1⟩
  rintro e w2 ⟨v, rfl, hv, hb⟩
  obtain ⟨A2, c2, rfl, -, hC2⟩ := hv.reads
  dsimp only at hC2
  have b2 := Blk.new w2 32 #[.int .i64 xt, .int .i64 xn, .int .i64 xk, .int .i64 xd, .slice A2 xb.length c2]
  replace HB := Hd.mk ((balloc (bstep HB.out (Nat.le_refl _) hb) (Nat.le_refl _) (.cells #[.int .i64 xt, .int .i64 xn, .int .i64 xk, .int .i64 xd, .slice A2 xb.length c2] 32)))
  replace HQ := Hd.mk ((HQ.out.below hb).alloc (.cells #[.int .i64 xt, .int .i64 xn, .int .i64 xk, .int .i64 xd, .slice A2 xb.length c2] 32))
  replace HV := Hd.mk ((HV.out.below hb).alloc (.cells #[.int .i64 xt, .int .i64 xn, .int .i64 xk, .int .i64 xd, .slice A2 xb.length c2] 32))
  have H7 := Hd.mk b2
  have HC2 := Hd.mk (hC2.alloc (.cells #[.int .i64 xt, .int .i64 xn, .int .i64 xk, .int .i64 xd, .slice A2 xb.length c2] 32))
  clear hb hv hC2 b2
  clear q0_0 q0_1 q0_2 q0_3
  obtain ⟨q0_0, q0_1, q0_2, q0_3⟩ := HQ.out.f2
  go_wp2_with fail
  refine (refFirst_calls A c l next _ (HR.out.below HB.out) hc).mono ?_
  rw [← HF1.out]
  rintro e w3 ⟨v, rfl, hv, hb⟩
  obtain ⟨A3, c3, rfl, -, hC3⟩ := hv.reads
  dsimp only at hC3
  have b3 := Blk.new w3 32 #[.int .i64 xt, .int .i64 xn, .int .i64 xk, .int .i64 xd, .slice A3 xb.length c3]
  replace HB := Hd.mk ((balloc (bstep HB.out (Nat.le_refl _) hb) (Nat.le_refl _) (.cells #[.int .i64 xt, .int .i64 xn, .int .i64 xk, .int .i64 xd, .slice A3 xb.length c3] 32)))
  replace HQ := Hd.mk ((HQ.out.below hb).alloc (.cells #[.int .i64 xt, .int .i64 xn, .int .i64 xk, .int .i64 xd, .slice A3 xb.length c3] 32))
  replace HV := Hd.mk ((HV.out.below hb).alloc (.cells #[.int .i64 xt, .int .i64 xn, .int .i64 xk, .int .i64 xd, .slice A3 xb.length c3] 32))
  replace H7 := Hd.mk ((H7.out.below hb).alloc (.cells #[.int .i64 xt, .int .i64 xn, .int .i64 xk, .int .i64 xd, .slice A3 xb.length c3] 32))
  replace HC2 := Hd.mk ((HC2.out.below hb).alloc (.cells #[.int .i64 xt, .int .i64 xn, .int .i64 xk, .int .i64 xd, .slice A3 xb.length c3] 32))
  have H9 := Hd.mk b3
  have HC3 := Hd.mk (hC3.alloc (.cells #[.int .i64 xt, .int .i64 xn, .int .i64 xk, .int .i64 xd, .slice A3 xb.length c3] 32))
  clear hb hv hC3 b3
  clear q0_0 q0_1 q0_2 q0_3
  obtain ⟨x0_0, x0_1, x0_2, x0_3, x0_4, x0_5, x0_6, x0_7, x0_8, x0_9⟩ := H7.out.f5
  obtain ⟨x1_0, x1_1, x1_2, x1_3, x1_4, x1_5, x1_6, x1_7, x1_8, x1_9⟩ := H9.out.f5
  go_wp2_with fail
  refine (sameEvent_calls ⟨xt, xn, xk, xd, xb⟩ A2 A3 c2 c3 _ HC2.out HC3.out).mono ?_
  rintro e w4 ⟨rfl, hb⟩
  replace HB := Hd.mk ((bstep HB.out (Nat.le_refl _) hb))
  replace HQ := Hd.mk (HQ.out.below hb)
  replace HV := Hd.mk (HV.out.below hb)
  clear hb H7 H9 HC2 HC3
  clear x0_0 x0_1 x0_2 x0_3 x0_4 x0_5 x0_6 x0_7 x0_8 x0_9 x1_0 x1_1 x1_2 x1_3 x1_4 x1_5 x1_6 x1_7 x1_8 x1_9
  obtain ⟨q0_0, q0_1, q0_2, q0_3⟩ := HQ.out.f2
  go_wp2_with fail
  refine (pop_calls A c l next _ (HR.out.below HB.out) hc).mono ?_
  obtain ⟨r, hr⟩ : ∃ r, r = popF l next := ⟨_, rfl⟩
  have HF2 := Hd.mk hr
  rw [← hr]
  clear hr
  rcases r with ⟨⟨L2, n2⟩, ⟨yt, yn, yk, yd, yb⟩, e2⟩
  rintro e w5 ⟨v, vb, rfl, hv, hvb, hb⟩
  obtain ⟨A4, c4, rfl, -, hC4⟩ := hv.reads
  obtain ⟨A5, c5, rfl, -, hC5⟩ := hvb.reads
  dsimp only at hC4 hC5
  have hlt5 : w.heap.size < w5.heap.size := (HQ.out.below hb).lt
  have b4 := (Blk.new w5 24 #[.slice A4 L2.length c4, .int .i64 n2]).alloc (.cells #[.int .i64 yt, .int .i64 yn, .int .i64 yk, .int .i64 yd, .slice A5 yb.length c5] 32)
  have b5 := Blk.new (w5.alloc (.cells #[.slice A4 L2.length c4, .int .i64 n2] 24)) 32 #[.int .i64 yt, .int .i64 yn, .int .i64 yk, .int .i64 yd, .slice A5 yb.length c5]
  rw [World.size_alloc] at b5
  replace HB := Hd.mk ((balloc (balloc (bstep HB.out (Nat.le_refl _) hb) (Nat.le_refl _) (.cells #[.slice A4 L2.length c4, .int .i64 n2] 24)) (Nat.le_refl _) (.cells #[.int .i64 yt, .int .i64 yn, .int .i64 yk, .int .i64 yd, .slice A5 yb.length c5] 32)))
  replace HQ := Hd.mk (((HQ.out.below hb).alloc (.cells #[.slice A4 L2.length c4, .int .i64 n2] 24)).alloc (.cells #[.int .i64 yt, .int .i64 yn, .int .i64 yk, .int .i64 yd, .slice A5 yb.length c5] 32))
  replace HV := Hd.mk (((HV.out.below hb).alloc (.cells #[.slice A4 L2.length c4, .int .i64 n2] 24)).alloc (.cells #[.int .i64 yt, .int .i64 yn, .int .i64 yk, .int .i64 yd, .slice A5 yb.length c5] 32))
  have H11 := Hd.mk b4; have H12 := Hd.mk b5
  have HC4 := Hd.mk ((hC4.alloc (.cells #[.slice A4 L2.length c4, .int .i64 n2] 24)).alloc (.cells #[.int .i64 yt, .int .i64 yn, .int .i64 yk, .int .i64 yd, .slice A5 yb.length c5] 32))
  have HC5 := Hd.mk ((hC5.alloc (.cells #[.slice A4 L2.length c4, .int .i64 n2] 24)).alloc (.cells #[.int .i64 yt, .int .i64 yn, .int .i64 yk, .int .i64 yd, .slice A5 yb.length c5] 32))
  clear hb hv hvb hC4 hC5 b4 b5
  clear q0_0 q0_1 q0_2 q0_3
  obtain ⟨q0_0, q0_1, q0_2, q0_3⟩ := HQ.out.f2
  go_wp2_with fail
  refine (refPop_calls A c l next _ (HR.out.below HB.out) hc).mono ?_
  rw [← HF2.out]
  rintro e w6 ⟨v, vb, rfl, hv, hvb, hb⟩
  obtain ⟨A6, c6, rfl, -, hC6⟩ := hv.reads
  obtain ⟨A7, c7, rfl, -, hC7⟩ := hvb.reads
  dsimp only at hC6 hC7
  have b6 := (Blk.new w6 24 #[.slice A6 L2.length c6, .int .i64 n2]).alloc (.cells #[.int .i64 yt, .int .i64 yn, .int .i64 yk, .int .i64 yd, .slice A7 yb.length c7] 32)
  have b7 := Blk.new (w6.alloc (.cells #[.slice A6 L2.length c6, .int .i64 n2] 24)) 32 #[.int .i64 yt, .int .i64 yn, .int .i64 yk, .int .i64 yd, .slice A7 yb.length c7]
  rw [World.size_alloc] at b7
  have hlt6 : w5.heap.size + 1 < w6.heap.size := (H12.out.below hb).lt
  replace HB := Hd.mk ((balloc (balloc (bstep HB.out (Nat.le_refl _) hb) (Nat.le_refl _) (.cells #[.slice A6 L2.length c6, .int .i64 n2] 24)) (Nat.le_refl _) (.cells #[.int .i64 yt, .int .i64 yn, .int .i64 yk, .int .i64 yd, .slice A7 yb.length c7] 32)))
  replace HQ := Hd.mk (((HQ.out.below hb).alloc (.cells #[.slice A6 L2.length c6, .int .i64 n2] 24)).alloc (.cells #[.int .i64 yt, .int .i64 yn, .int .i64 yk, .int .i64 yd, .slice A7 yb.length c7] 32))
  replace HV := Hd.mk (((HV.out.below hb).alloc (.cells #[.slice A6 L2.length c6, .int .i64 n2] 24)).alloc (.cells #[.int .i64 yt, .int .i64 yn, .int .i64 yk, .int .i64 yd, .slice A7 yb.length c7] 32))
  replace H11 := Hd.mk (((H11.out.below hb).alloc (.cells #[.slice A6 L2.length c6, .int .i64 n2] 24)).alloc (.cells #[.int .i64 yt, .int .i64 yn, .int .i64 yk, .int .i64 yd, .slice A7 yb.length c7] 32))
  replace H12 := Hd.mk (((H12.out.below hb).alloc (.cells #[.slice A6 L2.length c6, .int .i64 n2] 24)).alloc (.cells #[.int .i64 yt, .int .i64 yn, .int .i64 yk, .int .i64 yd, .slice A7 yb.length c7] 32))
  replace HC4 := Hd.mk (((HC4.out.below hb).alloc (.cells #[.slice A6 L2.length c6, .int .i64 n2] 24)).alloc (.cells #[.int .i64 yt, .int .i64 yn, .int .i64 yk, .int .i64 yd, .slice A7 yb.length c7] 32))
  replace HC5 := Hd.mk (((HC5.out.below hb).alloc (.cells #[.slice A6 L2.length c6, .int .i64 n2] 24)).alloc (.cells #[.int .i64 yt, .int .i64 yn, .int .i64 yk, .int .i64 yd, .slice A7 yb.length c7] 32))
  have H14 := Hd.mk b6; have H15 := Hd.mk b7
  have HC6 := Hd.mk ((hC6.alloc (.cells #[.slice A6 L2.length c6, .int .i64 n2] 24)).alloc (.cells #[.int .i64 yt, .int .i64 yn, .int .i64 yk, .int .i64 yd, .slice A7 yb.length c7] 32))
  have HC7 := Hd.mk ((hC7.alloc (.cells #[.slice A6 L2.length c6, .int .i64 n2] 24)).alloc (.cells #[.int .i64 yt, .int .i64 yn, .int .i64 yk, .int .i64 yd, .slice A7 yb.length c7] 32))
  clear hb hv hvb hC6 hC7 b6 b7
  clear q0_0 q0_1 q0_2 q0_3
  obtain ⟨q0_0, q0_1, q0_2, q0_3⟩ := H11.out.f2
  obtain ⟨q1_0, q1_1, q1_2, q1_3⟩ := H14.out.f2
  obtain ⟨x0_0, x0_1, x0_2, x0_3, x0_4, x0_5, x0_6, x0_7, x0_8, x0_9⟩ := H12.out.f5
  obtain ⟨x1_0, x1_1, x1_2, x1_3, x1_4, x1_5, x1_6, x1_7, x1_8, x1_9⟩ := H15.out.f5
  go_wp2_with fail
  refine (same_calls L2 n2 A4 A6 c4 c6 _ HC4.out HC6.out).mono ?_
  rintro e w7 ⟨rfl, hb⟩
  replace HB := Hd.mk ((bstep HB.out (Nat.le_refl _) hb))
  replace HQ := Hd.mk (HQ.out.below hb)
  replace HV := Hd.mk (HV.out.below hb)
  replace H11 := Hd.mk (H11.out.below hb)
  replace H12 := Hd.mk (H12.out.below hb)
  replace HC5 := Hd.mk (HC5.out.below hb)
  replace H14 := Hd.mk (H14.out.below hb)
  replace H15 := Hd.mk (H15.out.below hb)
  replace HC7 := Hd.mk (HC7.out.below hb)
  clear hb HC4 HC6
  clear q0_0 q0_1 q0_2 q0_3 q1_0 q1_1 q1_2 q1_3 x0_0 x0_1 x0_2 x0_3 x0_4 x0_5 x0_6 x0_7 x0_8 x0_9 x1_0 x1_1 x1_2 x1_3 x1_4 x1_5 x1_6 x1_7 x1_8 x1_9
  obtain ⟨x0_0, x0_1, x0_2, x0_3, x0_4, x0_5, x0_6, x0_7, x0_8, x0_9⟩ := H12.out.f5
  obtain ⟨x1_0, x1_1, x1_2, x1_3, x1_4, x1_5, x1_6, x1_7, x1_8, x1_9⟩ := H15.out.f5
  go_wp2_with fail
  refine (sameEvent_calls ⟨yt, yn, yk, yd, yb⟩ A5 A7 c5 c7 _ HC5.out HC7.out).mono ?_
  rintro e w8 ⟨rfl, hb⟩
  replace HB := Hd.mk ((bstep HB.out (Nat.le_refl _) hb))
  replace HQ := Hd.mk (HQ.out.below hb)
  replace HV := Hd.mk (HV.out.below hb)
  replace H11 := Hd.mk (H11.out.below hb)
  replace H14 := Hd.mk (H14.out.below hb)
  clear hb HC5 HC7 H12 H15
  clear x0_0 x0_1 x0_2 x0_3 x0_4 x0_5 x0_6 x0_7 x0_8 x0_9 x1_0 x1_1 x1_2 x1_3 x1_4 x1_5 x1_6 x1_7 x1_8 x1_9
  obtain ⟨q0_0, q0_1, q0_2, q0_3⟩ := HQ.out.f2
  obtain ⟨q1_0, q1_1, q1_2, q1_3⟩ := H11.out.f2
  obtain ⟨q2_0, q2_1, q2_2, q2_3⟩ := H14.out.f2
  have hs8 : w6.heap.size < w8.heap.size := H14.out.lt
  go_wp2_with fail
  refine (cancel_calls A c l next number _ _ HV.out).mono ?_
  obtain ⟨r, hr⟩ : ∃ r, r = cancelF l next number := ⟨_, rfl⟩
  have HF3 := Hd.mk hr
  rw [← hr]
  clear hr
  rcases r with ⟨⟨L3, n3⟩, is3⟩
  rintro e w9 ⟨v, rfl, hv, hb⟩
  obtain ⟨A8, c8, rfl, -, -⟩ := hv.reads
  dsimp only at hv ⊢
  replace HB := Hd.mk ((bstep HB.out (Nat.le_refl _) hb))
  replace HQ := Hd.mk (HQ.out.below hb)
  replace HV := Hd.mk (HV.out.below hb)
  replace H11 := Hd.mk (H11.out.below hb)
  replace H14 := Hd.mk (H14.out.below hb)
  have hs9 := hb.size
  have HV3 : Hd (evs.V w9 (fun j => j ≠ w5.heap.size ∧ j ≠ w6.heap.size) (.slice A8 L3.length c8) L3) := ⟨hv.mono (fun j hj => by have hj2 := hj; (try dsimp only at hj2); omega)⟩
  clear hb hv
  clear q0_0 q0_1 q0_2 q0_3 q1_0 q1_1 q1_2 q1_3 q2_0 q2_1 q2_2 q2_3
  obtain ⟨t0, t1, t2, t3⟩ := H11.out.f2
  replace HB := Hd.mk (Below.setCell (Below.setCell HB.out (p := ⟨w5.heap.size, 0, none⟩) (by dsimp only; omega) (.slice A8 L3.length c8)) (p := ⟨w5.heap.size, 1, none⟩) (by dsimp only; omega) (.int .i64 n3))
  replace HQ := Hd.mk ((HQ.out.far (p := ⟨w5.heap.size, 0, none⟩) (by dsimp only; omega) (.slice A8 L3.length c8)).far (p := ⟨w5.heap.size, 1, none⟩) (by dsimp only; omega) (.int .i64 n3))
  replace HV := Hd.mk ((HV.out.far (p := ⟨w5.heap.size, 0, none⟩) (fun j hj => by have hj2 := hj; (try dsimp only at hj2); dsimp only; omega) (.slice A8 L3.length c8)).far (p := ⟨w5.heap.size, 1, none⟩) (fun j hj => by have hj2 := hj; (try dsimp only at hj2); dsimp only; omega) (.int .i64 n3))
  replace H11 := Hd.mk (put2 (b0 := .slice A8 L3.length c8) (b1 := .int .i64 n3) H11.out)
  replace H14 := Hd.mk ((H14.out.far (p := ⟨w5.heap.size, 0, none⟩) (by dsimp only; omega) (.slice A8 L3.length c8)).far (p := ⟨w5.heap.size, 1, none⟩) (by dsimp only; omega) (.int .i64 n3))
  replace HV3 := Hd.mk ((HV3.out.far (p := ⟨w5.heap.size, 0, none⟩) (fun j hj => by have hj2 := hj; (try dsimp only at hj2); dsimp only; omega) (.slice A8 L3.length c8)).far (p := ⟨w5.heap.size, 1, none⟩) (fun j hj => by have hj2 := hj; (try dsimp only at hj2); dsimp only; omega) (.int .i64 n3))
  obtain ⟨q0_0, q0_1, q0_2, q0_3⟩ := HQ.out.f2
  go_wp2_with fail
  clear t0 t1 t2 t3 q0_0 q0_1 q0_2 q0_3
  obtain ⟨w9s, hw9s⟩ : ∃ W, W = ((w9.setCell ⟨w5.heap.size, 0, none⟩ (.slice A8 L3.length c8)).setCell ⟨w5.heap.size, 1, none⟩ (.int .i64 n3)) := ⟨_, rfl⟩
  have hszw9s : w9s.heap.size = w9.heap.size := by rw [hw9s]; simp
  rw [← hw9s] at HB HQ HV H11 H14 HV3 ⊢
  clear hw9s
  refine (refCancel_calls A c l next number _ _ HV.out).mono ?_
  rw [← HF3.out]
  rintro e w10 ⟨v, rfl, hv, hb⟩
  obtain ⟨A9, c9, rfl, -, -⟩ := hv.reads
  dsimp only at hv ⊢
  replace HB := Hd.mk ((bstep HB.out (Nat.le_refl _) hb))
  replace HQ := Hd.mk (HQ.out.below hb)
  replace HV := Hd.mk (HV.out.below hb)
  replace H11 := Hd.mk (H11.out.below hb)
  replace H14 := Hd.mk (H14.out.below hb)
  replace HV3 := Hd.mk (HV3.out.below hb)
  have hs10 := hb.size
  have HV4 : Hd (evs.V w10 (fun j => j ≠ w5.heap.size ∧ j ≠ w6.heap.size) (.slice A9 L3.length c9) L3) := ⟨hv.mono (fun j hj => by have hj2 := hj; (try dsimp only at hj2); omega)⟩
  clear hb hv
  obtain ⟨t0, t1, t2, t3⟩ := H14.out.f2
  replace HB := Hd.mk (Below.setCell (Below.setCell HB.out (p := ⟨w6.heap.size, 0, none⟩) (by dsimp only; omega) (.slice A9 L3.length c9)) (p := ⟨w6.heap.size, 1, none⟩) (by dsimp only; omega) (.int .i64 n3))
  replace HQ := Hd.mk ((HQ.out.far (p := ⟨w6.heap.size, 0, none⟩) (by dsimp only; omega) (.slice A9 L3.length c9)).far (p := ⟨w6.heap.size, 1, none⟩) (by dsimp only; omega) (.int .i64 n3))
  replace HV := Hd.mk ((HV.out.far (p := ⟨w6.heap.size, 0, none⟩) (fun j hj => by have hj2 := hj; (try dsimp only at hj2); dsimp only; omega) (.slice A9 L3.length c9)).far (p := ⟨w6.heap.size, 1, none⟩) (fun j hj => by have hj2 := hj; (try dsimp only at hj2); dsimp only; omega) (.int .i64 n3))
  replace H11 := Hd.mk ((H11.out.far (p := ⟨w6.heap.size, 0, none⟩) (by dsimp only; omega) (.slice A9 L3.length c9)).far (p := ⟨w6.heap.size, 1, none⟩) (by dsimp only; omega) (.int .i64 n3))
  replace H14 := Hd.mk (put2 (b0 := .slice A9 L3.length c9) (b1 := .int .i64 n3) H14.out)
  replace HV3 := Hd.mk ((HV3.out.far (p := ⟨w6.heap.size, 0, none⟩) (fun j hj => by have hj2 := hj; (try dsimp only at hj2); dsimp only; omega) (.slice A9 L3.length c9)).far (p := ⟨w6.heap.size, 1, none⟩) (fun j hj => by have hj2 := hj; (try dsimp only at hj2); dsimp only; omega) (.int .i64 n3))
  replace HV4 := Hd.mk ((HV4.out.far (p := ⟨w6.heap.size, 0, none⟩) (fun j hj => by have hj2 := hj; (try dsimp only at hj2); dsimp only; omega) (.slice A9 L3.length c9)).far (p := ⟨w6.heap.size, 1, none⟩) (fun j hj => by have hj2 := hj; (try dsimp only at hj2); dsimp only; omega) (.int .i64 n3))
  obtain ⟨q0_0, q0_1, q0_2, q0_3⟩ := HQ.out.f2
  obtain ⟨q1_0, q1_1, q1_2, q1_3⟩ := H11.out.f2
  obtain ⟨q2_0, q2_1, q2_2, q2_3⟩ := H14.out.f2
  go_wp2_with fail
  clear t0 t1 t2 t3 q0_0 q0_1 q0_2 q0_3 q1_0 q1_1 q1_2 q1_3 q2_0 q2_1 q2_2 q2_3
  obtain ⟨w10s, hw10s⟩ : ∃ W, W = ((w10.setCell ⟨w6.heap.size, 0, none⟩ (.slice A9 L3.length c9)).setCell ⟨w6.heap.size, 1, none⟩ (.int .i64 n3)) := ⟨_, rfl⟩
  have hszw10s : w10s.heap.size = w10.heap.size := by rw [hw10s]; simp
  rw [← hw10s] at HB HQ HV H11 H14 HV3 HV4 ⊢
  clear hw10s
  refine (same_calls L3 n3 A8 A9 c8 c9 _ HV3.out.C HV4.out.C).mono ?_
  rintro e w11 ⟨rfl, hb⟩
  replace HB := Hd.mk ((bstep HB.out (Nat.le_refl _) hb))
  replace HQ := Hd.mk (HQ.out.below hb)
  replace HV := Hd.mk (HV.out.below hb)
  replace H11 := Hd.mk (H11.out.below hb)
  replace H14 := Hd.mk (H14.out.below hb)
  have hs11 := hb.size
  clear hb HV3 HV4
  obtain ⟨q0_0, q0_1, q0_2, q0_3⟩ := HQ.out.f2
  obtain ⟨q1_0, q1_1, q1_2, q1_3⟩ := H11.out.f2
  obtain ⟨q2_0, q2_1, q2_2, q2_3⟩ := H14.out.f2
  have is3b : (is3 != is3) = false := by cases is3 <;> rfl
  go_wp2_with fail
  refine (due_calls A c l next now _ _ HV.out).mono ?_
  obtain ⟨r, hr⟩ : ∃ r, r = dueF l next now := ⟨_, rfl⟩
  have HF4 := Hd.mk hr
  rw [← hr]
  clear hr
  rcases r with ⟨⟨L4, n4⟩, D4⟩
  rintro e w12 ⟨v, u, rfl, hv, hu, hb⟩
  obtain ⟨A10, c10, rfl, -, -⟩ := hv.reads
  obtain ⟨A11, c11, rfl, -, -⟩ := hu.reads
  dsimp only at hv hu ⊢
  replace HB := Hd.mk ((bstep HB.out (Nat.le_refl _) hb))
  replace HQ := Hd.mk (HQ.out.below hb)
  replace HV := Hd.mk (HV.out.below hb)
  replace H11 := Hd.mk (H11.out.below hb)
  replace H14 := Hd.mk (H14.out.below hb)
  have hs12 := hb.size
  have HV5 : Hd (evs.V w12 (fun j => j ≠ w5.heap.size ∧ j ≠ w6.heap.size) (.slice A10 L4.length c10) L4) := ⟨hv.mono (fun j hj => by have hj2 := hj; (try dsimp only at hj2); omega)⟩
  have HU5 : Hd (evs.V w12 (fun j => j ≠ w5.heap.size ∧ j ≠ w6.heap.size) (.slice A11 D4.length c11) D4) := ⟨hu.mono (fun j hj => by have hj2 := hj; (try dsimp only at hj2); omega)⟩
  clear hb hv hu
  clear q0_0 q0_1 q0_2 q0_3 q1_0 q1_1 q1_2 q1_3 q2_0 q2_1 q2_2 q2_3
  obtain ⟨t0, t1, t2, t3⟩ := H11.out.f2
  replace HB := Hd.mk (Below.setCell (Below.setCell HB.out (p := ⟨w5.heap.size, 0, none⟩) (by dsimp only; omega) (.slice A10 L4.length c10)) (p := ⟨w5.heap.size, 1, none⟩) (by dsimp only; omega) (.int .i64 n4))
  replace HQ := Hd.mk ((HQ.out.far (p := ⟨w5.heap.size, 0, none⟩) (by dsimp only; omega) (.slice A10 L4.length c10)).far (p := ⟨w5.heap.size, 1, none⟩) (by dsimp only; omega) (.int .i64 n4))
  replace HV := Hd.mk ((HV.out.far (p := ⟨w5.heap.size, 0, none⟩) (fun j hj => by have hj2 := hj; (try dsimp only at hj2); dsimp only; omega) (.slice A10 L4.length c10)).far (p := ⟨w5.heap.size, 1, none⟩) (fun j hj => by have hj2 := hj; (try dsimp only at hj2); dsimp only; omega) (.int .i64 n4))
  replace H11 := Hd.mk (put2 (b0 := .slice A10 L4.length c10) (b1 := .int .i64 n4) H11.out)
  replace H14 := Hd.mk ((H14.out.far (p := ⟨w5.heap.size, 0, none⟩) (by dsimp only; omega) (.slice A10 L4.length c10)).far (p := ⟨w5.heap.size, 1, none⟩) (by dsimp only; omega) (.int .i64 n4))
  replace HV5 := Hd.mk ((HV5.out.far (p := ⟨w5.heap.size, 0, none⟩) (fun j hj => by have hj2 := hj; (try dsimp only at hj2); dsimp only; omega) (.slice A10 L4.length c10)).far (p := ⟨w5.heap.size, 1, none⟩) (fun j hj => by have hj2 := hj; (try dsimp only at hj2); dsimp only; omega) (.int .i64 n4))
  replace HU5 := Hd.mk ((HU5.out.far (p := ⟨w5.heap.size, 0, none⟩) (fun j hj => by have hj2 := hj; (try dsimp only at hj2); dsimp only; omega) (.slice A10 L4.length c10)).far (p := ⟨w5.heap.size, 1, none⟩) (fun j hj => by have hj2 := hj; (try dsimp only at hj2); dsimp only; omega) (.int .i64 n4))
  obtain ⟨q0_0, q0_1, q0_2, q0_3⟩ := HQ.out.f2
  go_wp2_with fail
  clear t0 t1 t2 t3 q0_0 q0_1 q0_2 q0_3
  obtain ⟨w12s, hw12s⟩ : ∃ W, W = ((w12.setCell ⟨w5.heap.size, 0, none⟩ (.slice A10 L4.length c10)).setCell ⟨w5.heap.size, 1, none⟩ (.int .i64 n4)) := ⟨_, rfl⟩
  have hszw12s : w12s.heap.size = w12.heap.size := by rw [hw12s]; simp
  rw [← hw12s] at HB HQ HV H11 H14 HV5 HU5 ⊢
  clear hw12s
  refine (refDue_calls A c l next now _ _ HV.out).mono ?_
  rw [← HF4.out]
  rintro e w13 ⟨v, u, rfl, hv, hu, hb⟩
  obtain ⟨A12, c12, rfl, -, -⟩ := hv.reads
  obtain ⟨A13, c13, rfl, -, -⟩ := hu.reads
  dsimp only at hv hu ⊢
  replace HB := Hd.mk ((bstep HB.out (Nat.le_refl _) hb))
  replace HQ := Hd.mk (HQ.out.below hb)
  replace HV := Hd.mk (HV.out.below hb)
  replace H11 := Hd.mk (H11.out.below hb)
  replace H14 := Hd.mk (H14.out.below hb)
  replace HV5 := Hd.mk (HV5.out.below hb)
  replace HU5 := Hd.mk (HU5.out.below hb)
  have hs13 := hb.size
  have HV6 : Hd (evs.V w13 (fun j => j ≠ w5.heap.size ∧ j ≠ w6.heap.size) (.slice A12 L4.length c12) L4) := ⟨hv.mono (fun j hj => by have hj2 := hj; (try dsimp only at hj2); omega)⟩
  have HU6 : Hd (evs.V w13 (fun j => j ≠ w5.heap.size ∧ j ≠ w6.heap.size) (.slice A13 D4.length c13) D4) := ⟨hu.mono (fun j hj => by have hj2 := hj; (try dsimp only at hj2); omega)⟩
  clear hb hv hu
  obtain ⟨t0, t1, t2, t3⟩ := H14.out.f2
  replace HB := Hd.mk (Below.setCell (Below.setCell HB.out (p := ⟨w6.heap.size, 0, none⟩) (by dsimp only; omega) (.slice A12 L4.length c12)) (p := ⟨w6.heap.size, 1, none⟩) (by dsimp only; omega) (.int .i64 n4))
  replace HQ := Hd.mk ((HQ.out.far (p := ⟨w6.heap.size, 0, none⟩) (by dsimp only; omega) (.slice A12 L4.length c12)).far (p := ⟨w6.heap.size, 1, none⟩) (by dsimp only; omega) (.int .i64 n4))
  replace HV := Hd.mk ((HV.out.far (p := ⟨w6.heap.size, 0, none⟩) (fun j hj => by have hj2 := hj; (try dsimp only at hj2); dsimp only; omega) (.slice A12 L4.length c12)).far (p := ⟨w6.heap.size, 1, none⟩) (fun j hj => by have hj2 := hj; (try dsimp only at hj2); dsimp only; omega) (.int .i64 n4))
  replace H11 := Hd.mk ((H11.out.far (p := ⟨w6.heap.size, 0, none⟩) (by dsimp only; omega) (.slice A12 L4.length c12)).far (p := ⟨w6.heap.size, 1, none⟩) (by dsimp only; omega) (.int .i64 n4))
  replace H14 := Hd.mk (put2 (b0 := .slice A12 L4.length c12) (b1 := .int .i64 n4) H14.out)
  replace HV5 := Hd.mk ((HV5.out.far (p := ⟨w6.heap.size, 0, none⟩) (fun j hj => by have hj2 := hj; (try dsimp only at hj2); dsimp only; omega) (.slice A12 L4.length c12)).far (p := ⟨w6.heap.size, 1, none⟩) (fun j hj => by have hj2 := hj; (try dsimp only at hj2); dsimp only; omega) (.int .i64 n4))
  replace HU5 := Hd.mk ((HU5.out.far (p := ⟨w6.heap.size, 0, none⟩) (fun j hj => by have hj2 := hj; (try dsimp only at hj2); dsimp only; omega) (.slice A12 L4.length c12)).far (p := ⟨w6.heap.size, 1, none⟩) (fun j hj => by have hj2 := hj; (try dsimp only at hj2); dsimp only; omega) (.int .i64 n4))
  replace HV6 := Hd.mk ((HV6.out.far (p := ⟨w6.heap.size, 0, none⟩) (fun j hj => by have hj2 := hj; (try dsimp only at hj2); dsimp only; omega) (.slice A12 L4.length c12)).far (p := ⟨w6.heap.size, 1, none⟩) (fun j hj => by have hj2 := hj; (try dsimp only at hj2); dsimp only; omega) (.int .i64 n4))
  replace HU6 := Hd.mk ((HU6.out.far (p := ⟨w6.heap.size, 0, none⟩) (fun j hj => by have hj2 := hj; (try dsimp only at hj2); dsimp only; omega) (.slice A12 L4.length c12)).far (p := ⟨w6.heap.size, 1, none⟩) (fun j hj => by have hj2 := hj; (try dsimp only at hj2); dsimp only; omega) (.int .i64 n4))
  go_wp2_with fail
  clear t0 t1 t2 t3
  obtain ⟨w13s, hw13s⟩ : ∃ W, W = ((w13.setCell ⟨w6.heap.size, 0, none⟩ (.slice A12 L4.length c12)).setCell ⟨w6.heap.size, 1, none⟩ (.int .i64 n4)) := ⟨_, rfl⟩
  have hszw13s : w13s.heap.size = w13.heap.size := by rw [hw13s]; simp
  rw [← hw13s] at HB HQ HV H11 H14 HV5 HU5 HV6 HU6 ⊢
  clear hw13s
  refine (awake_calls _).mono ?_
  rintro e w14 ⟨rfl, hb⟩
  replace HB := Hd.mk ((bstep HB.out (Nat.le_refl _) hb))
  replace HQ := Hd.mk (HQ.out.below hb)
  replace HV := Hd.mk (HV.out.below hb)
  replace H11 := Hd.mk (H11.out.below hb)
  replace H14 := Hd.mk (H14.out.below hb)
  replace HV5 := Hd.mk (HV5.out.below hb)
  replace HU5 := Hd.mk (HU5.out.below hb)
  replace HV6 := Hd.mk (HV6.out.below hb)
  replace HU6 := Hd.mk (HU6.out.below hb)
  clear hb
  obtain ⟨q0_0, q0_1, q0_2, q0_3⟩ := H11.out.f2
  obtain ⟨q1_0, q1_1, q1_2, q1_3⟩ := H14.out.f2
  go_wp2_with fail
  refine (same_calls L4 n4 A10 A12 c10 c12 _ HV5.out.C HV6.out.C).mono ?_
  rintro e w15 ⟨rfl, hb⟩
  replace HB := Hd.mk ((bstep HB.out (Nat.le_refl _) hb))
  replace HQ := Hd.mk (HQ.out.below hb)
  replace HV := Hd.mk (HV.out.below hb)
  replace H11 := Hd.mk (H11.out.below hb)
  replace H14 := Hd.mk (H14.out.below hb)
  replace HV5 := Hd.mk (HV5.out.below hb)
  replace HU5 := Hd.mk (HU5.out.below hb)
  replace HV6 := Hd.mk (HV6.out.below hb)
  replace HU6 := Hd.mk (HU6.out.below hb)
  clear hb
  clear q0_0 q0_1 q0_2 q0_3 q1_0 q1_1 q1_2 q1_3
  go_wp2_with fail
  refine (sameEvents_calls D4 A11 A13 c11 c13 _ HU5.out.C HU6.out.C).mono ?_
  rintro e w16 ⟨rfl, hb⟩
  replace HB := Hd.mk (bstep HB.out (Nat.le_refl _) hb)
  clear hb
  go_wp2
  go_ret
  first | exact ⟨rfl, HB.out⟩ | exact ⟨by simp, HB.out⟩
end Go.Proofs.Ytnmcbpjhlkpglaa.B
