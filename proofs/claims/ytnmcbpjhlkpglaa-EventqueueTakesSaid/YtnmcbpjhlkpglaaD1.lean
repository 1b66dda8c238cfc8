/- What this text holds: the walk of the law EventqueueAdds. -/
import Derived.Test.YtnmcbpjhlkpglaaR9
import Derived.Test.YtnmcbpjhlkpglaaI2
import Derived.Test.YtnmcbpjhlkpglaaH4
set_option linter.unusedVariables false
set_option linter.unusedSimpArgs false
namespace Go.Proofs.Ytnmcbpjhlkpglaa.B
open Go.RowKit

theorem bstep {B : Nat} {w W W' : World} (h : Below B w W) (hB : B ≤ w.heap.size) (hb : Below W.heap.size W W') : Below B w W' := h.trans (hb.mono (Nat.le_trans hB h.size))
theorem balloc {B : Nat} {w W : World} (h : Below B w W) (hB : B ≤ w.heap.size) (o : Obj) : Below B w (W.alloc o) := Below.alloc h (Nat.le_trans hB h.size) o
theorem Kd.C.alloc {α : Type} {d : Kd α} {w : World} {A : Option Addr} {xs : List α} (h : d.C w A xs) (o : Obj) : d.C (w.alloc o) A xs := h.below (Below.alloc (Below.refl _ _) (Nat.le_refl _) o)

set_option maxRecDepth 100000 in
set_option maxHeartbeats 4000000 in
theorem lawAdds_calls (A : Option Addr) (c : Nat) (l : List Ev) (next : Int) (x : Ev) (A4 : Option Addr) (c4 : Nat) (w : World) (hr : evs.C w A l) (hc : l.length ≤ c) (hr4 : (ints .u8).C w A4 x.body) (hc4 : x.body.length ≤ c4) :
    Calls Try.prog 4 #[.agg #[.slice A l.length c, .int .i64 next], .agg #[.int .i64 x.t, .int .i64 x.n, .int .i64 x.kd, .int .i64 x.dst, .slice A4 x.body.length c4]] w fun e w' => e = .returned (.bool true) ∧ Below w.heap.size w w' := by
  have hu24 := Try.underlying24
  have hu32 := Try.underlying32
  have HR := Hd.mk hr
  have HR4 := Hd.mk hr4
  rcases x with ⟨xt, xn, xk, xd, xb⟩
  dsimp only at hr4 hc4 HR4 ⊢
  have hxl := hr4.1
  have HB : Hd (Below w.heap.size w ((w.alloc (.cells #[.slice A l.length c, .int .i64 next] 24)).alloc (.cells #[.int .i64 xt, .int .i64 xn, .int .i64 xk, .int .i64 xd, .slice A4 xb.length c4] 32))) := ⟨by go_grown⟩
  have b0 := (Blk.new w 24 #[.slice A l.length c, .int .i64 next]).alloc (.cells #[.int .i64 xt, .int .i64 xn, .int .i64 xk, .int .i64 xd, .slice A4 xb.length c4] 32)
  have b1 := Blk.new (w.alloc (.cells #[.slice A l.length c, .int .i64 next] 24)) 32 #[.int .i64 xt, .int .i64 xn, .int .i64 xk, .int .i64 xd, .slice A4 xb.length c4]
  rw [World.size_alloc] at b1
  have HQ := Hd.mk b0
  have HX := Hd.mk b1
  clear hr hr4 b0 b1
  obtain ⟨few, hfew⟩ : ∃ b, b = fewF l := ⟨_, rfl⟩
  have HF := Hd.mk hfew
  clear hfew
  go_enter Try.func4, Try.ntmps4
  go_wp2_with fail
  refine (few_calls A c l next _ (HR.out.below HB.out) hc).mono ?_
  rw [← HF.out]
  rintro e w1 ⟨rfl, hb⟩
  replace HB := Hd.mk (bstep HB.out (Nat.le_refl _) hb)
  replace HQ := Hd.mk (HQ.out.below hb)
  replace HX := Hd.mk (HX.out.below hb)
  clear hb
  obtain ⟨q0, q1, q2, q3⟩ := HQ.out.f2
  obtain ⟨x0, x1, x2, x3, x4, -, -, -, -, -⟩ := HX.out.f5
  by_cases hgo : few = true ∧ (xb.length : Int) ≤ 5000
  · obtain ⟨rfl, h5⟩ := hgo
    have h6 : decide ((xb.length : Int) > 5000) = false := by simp; omega
    go_wp2_with fail
    refine (add_calls A c l next xt xk xd A4 c4 xb _ (HR.out.below HB.out) hc (HR4.out.below HB.out) hc4 (by omega)).mono ?_
    obtain ⟨r, hr⟩ : ∃ r, r = addF l next xt xk xd xb := ⟨_, rfl⟩
    have HRR := Hd.mk hr
    rw [← hr]
    clear hr
    rcases r with ⟨⟨L, n1⟩, n2, n3⟩
    rintro e w2 ⟨v, rfl, hv, hb⟩
    obtain ⟨A2, c2, rfl, hc2, hC2⟩ := hv.reads
    have b5 := Blk.new w2 24 #[.slice A2 L.length c2, .int .i64 n1]
    replace HB := Hd.mk (balloc (bstep HB.out (Nat.le_refl _) hb) (Nat.le_refl _) (.cells #[.slice A2 L.length c2, .int .i64 n1] 24))
    replace HQ := Hd.mk ((HQ.out.below hb).alloc (.cells #[.slice A2 L.length c2, .int .i64 n1] 24))
    replace HX := Hd.mk ((HX.out.below hb).alloc (.cells #[.slice A2 L.length c2, .int .i64 n1] 24))
    have HC2 := Hd.mk (hC2.alloc (.cells #[.slice A2 L.length c2, .int .i64 n1] 24))
    have H5 := Hd.mk b5
    clear hb hv hC2 b5 q0 q1 q2 q3 x0 x1 x2 x3 x4
    obtain ⟨q0, q1, q2, q3⟩ := HQ.out.f2
    obtain ⟨x0, x1, x2, x3, x4, -, -, -, -, -⟩ := HX.out.f5
    go_wp2_with fail
    refine (refAdd_calls A c l next xt xk xd A4 c4 xb _ (HR.out.below HB.out) hc (HR4.out.below HB.out) hc4 (by omega)).mono ?_
    rw [← HRR.out]
    rintro e w3 ⟨v, rfl, hv, hb⟩
    obtain ⟨A3, c3, rfl, hc3, hC3⟩ := hv.reads
    have b8 := Blk.new w3 24 #[.slice A3 L.length c3, .int .i64 n1]
    replace HB := Hd.mk (balloc (bstep HB.out (Nat.le_refl _) hb) (Nat.le_refl _) (.cells #[.slice A3 L.length c3, .int .i64 n1] 24))
    replace H5 := Hd.mk ((H5.out.below hb).alloc (.cells #[.slice A3 L.length c3, .int .i64 n1] 24))
    replace HC2 := Hd.mk ((HC2.out.below hb).alloc (.cells #[.slice A3 L.length c3, .int .i64 n1] 24))
    have HC3 := Hd.mk (hC3.alloc (.cells #[.slice A3 L.length c3, .int .i64 n1] 24))
    have H8 := Hd.mk b8
    clear hb hv hC3 b8 q0 q1 q2 q3 x0 x1 x2 x3 x4 HQ HX
    go_wp2_with fail
    refine (awake_calls _).mono ?_
    rintro e w4 ⟨rfl, hb⟩
    replace HB := Hd.mk (bstep HB.out (Nat.le_refl _) hb)
    replace H5 := Hd.mk (H5.out.below hb)
    replace H8 := Hd.mk (H8.out.below hb)
    replace HC2 := Hd.mk (HC2.out.below hb)
    replace HC3 := Hd.mk (HC3.out.below hb)
    clear hb
    obtain ⟨q0, q1, q2, q3⟩ := H5.out.f2
    obtain ⟨x0, x1, x2, x3⟩ := H8.out.f2
    go_wp2_with fail
    refine (same_calls L n1 A2 A3 c2 c3 _ HC2.out HC3.out).mono ?_
    rintro e w5 ⟨rfl, hb⟩
    replace HB := Hd.mk (bstep HB.out (Nat.le_refl _) hb)
    clear hb q0 q1 q2 q3 x0 x1 x2 x3
    go_wp2
    go_ret
    first | exact ⟨rfl, HB.out⟩ | exact ⟨by simp, HB.out⟩
  · have hno : few = false ∨ (few = true ∧ decide ((xb.length : Int) > 5000) = true) := by
      cases few
      · exact .inl rfl
      · exact .inr ⟨rfl, by simp at hgo; simp; omega⟩
    clear hgo
    rcases hno with rfl | ⟨rfl, h6⟩
    all_goals
      go_wp2_with fail
      refine (awake_calls _).mono ?_
      rintro e w2 ⟨rfl, hb⟩
      replace HB := Hd.mk (bstep HB.out (Nat.le_refl _) hb)
      clear hb
      go_wp2
      go_ret
      first | exact ⟨rfl, HB.out⟩ | exact ⟨by simp, HB.out⟩
end Go.Proofs.Ytnmcbpjhlkpglaa.B
