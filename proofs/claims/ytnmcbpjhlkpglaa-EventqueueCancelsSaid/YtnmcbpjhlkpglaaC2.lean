/- What this text holds: the walk of the law EventqueueCancels. -/
import Derived.Test.YtnmcbpjhlkpglaaC1
set_option linter.unusedVariables false
set_option linter.unusedSimpArgs false
namespace Go.Proofs.Ytnmcbpjhlkpglaa.B
open Go.RowKit

set_option maxRecDepth 100000 in
set_option maxHeartbeats 4000000 in
theorem lawCancels_calls (A : Option Addr) (c : Nat) (l : List Int) (which : Int) (w : World) (hr : (ints .u16).C w A l) (hc : l.length ≤ c) (hw : ∀ x ∈ l, 0 ≤ x ∧ x ≤ 65535) (hn0 : 0 ≤ which) (hn1 : which ≤ 255) :
    Calls Try.prog 5 #[.slice A l.length c, .int .u8 which] w fun e w' => e = .returned (.bool true) ∧ Below w.heap.size w w' := by
  have hu24 := Try.underlying24
  have hu32 := Try.underlying32
  obtain ⟨ts, L, n, h1, h2, h3, h4, h5⟩ := cancels_plain l which hn0
  have HR := Hd.mk hr; have HW := Hd.mk hw; have H1 := Hd.mk h1; have H3 := Hd.mk h3; have H4 := Hd.mk h4; have H5 := Hd.mk h5
  have hwn : IntKind.i64.wrap which = which := IntWalk.i64_in _ (by omega)
  clear hr hw h1 h3 h4 h5
  go_enter Try.func5, Try.ntmps5
  go_wp2_with fail
  refine (times_calls A c l _ HR.out hc HW.out).mono ?_
  rw [← H1.out]
  rintro e w1 ⟨v, rfl, hown, hb⟩
  obtain ⟨A1, c1, rfl, hc1, -⟩ := hown.shape
  have HC1 := Hd.mk hown.C
  have HBW := Hd.mk hb
  have hsz1 := hb.size
  clear hb hown
  go_wp2_with fail
  refine (added_calls A1 c1 ts _ HC1.out hc1).mono ?_
  rw [H3.out]
  rintro e w2 ⟨v, rfl, hv, hb⟩
  obtain ⟨A2, c2, rfl, hc2, -⟩ := hv.reads
  have hsz2 := hb.size
  have HBW2 := Hd.mk (HBW.out.trans (hb.mono hsz1))
  have HV2 := Hd.mk hv
  clear hv hb HBW HC1 H3
  rcases Nat.eq_zero_or_pos ts.length with hz | hz
  · have hz1 : ((ts.length : Int) == 0) = true := by simp [hz]
    have HZ := Hd.mk hz
    clear hz
    go_wp2_with fail
    refine (awake_calls _).mono ?_
    rintro e w3 ⟨rfl, hb⟩
    have HB3 := Hd.mk ((Below.alloc HBW2.out (by omega) _).trans (hb.mono (by rw [World.size_alloc]; omega)))
    clear hb
    go_wp2
    go_ret
    first | exact ⟨rfl, HB3.out⟩ | exact ⟨by simp, HB3.out⟩
  · obtain ⟨L', D, D', ix, hix, p1, p2, p3, p4, p5, p6, p7, p8, p9⟩ := H5.out hz
    have hz1 : ((ts.length : Int) == 0) = false := by simp; intro h; simp [h] at hz
    have hz2 : ¬ ((ts.length : Int) = 0) := by omega
    have htm : Int.tmod which (ts.length : Int) = which % ts.length := Int.tmod_eq_emod_of_nonneg hn0
    obtain ⟨num, hnum⟩ : ∃ num, num = which % (ts.length : Int) := ⟨_, rfl⟩
    rw [← hnum] at p1 p2 p6 p7 htm
    have hnu0 : 0 ≤ num := by rw [hnum]; exact Int.emod_nonneg _ (by omega)
    have hnu1 : num < ts.length := by rw [hnum]; exact Int.emod_lt_of_pos _ (by omega)
    have hwnum : IntKind.i64.wrap num = num := IntWalk.i64_in _ (by omega)
    have hL := H4.out
    have hl30 : L.length ≤ 30 := by rw [H4.out]; exact h2
    have hwl : IntKind.i64.wrap ((ts.length : Int) - 1) = (L'.length : Int) := by rw [show (ts.length : Int) - 1 = L'.length by omega]; exact IntWalk.i64_in _ (by omega)
    have P1 := Hd.mk p1; have P2 := Hd.mk p2; have P4 := Hd.mk p4; have P5 := Hd.mk p5; have P6 := Hd.mk p6; have P7 := Hd.mk p7; have P8 := Hd.mk p8; have P9 := Hd.mk p9
    clear p1 p2 p4 p5 p6 p7 p8 p9 hnum hz H5 hL
    go_wp2_with fail
    have b2 := Blk.new w2 24 #[.slice A2 L.length c2, .int .i64 n]
    refine (cancel_calls A2 c2 L n num _ _ (HV2.out.alloc _)).mono ?_
    rw [P1.out]
    rintro e w3 ⟨v, rfl, hv, hb⟩
    obtain ⟨A3, c3, rfl, hc3, -⟩ := hv.reads
    have hsz3 := hb.size
    rw [World.size_alloc] at hsz3
    have HBW3 := Hd.mk ((Below.alloc HBW2.out (by omega) _).trans (hb.mono (by rw [World.size_alloc]; omega)))
    have HQ3 := Hd.mk (b2.below hb)
    have HV3 := Hd.mk ((HV2.out.alloc _).below hb)
    have HP3 := Hd.mk hv
    clear hv hb b2 HV2 HBW2
    go_wp2_with fail
    have b3 := Blk.new w3 24 #[.slice A3 L'.length c3, .int .i64 n]
    refine (cancel_calls A3 c3 L' n num _ _ (HP3.out.alloc _)).mono ?_
    rw [P2.out]
    rintro e w4 ⟨v, rfl, hv, hb⟩
    obtain ⟨A4, c4, rfl, -, -⟩ := hv.reads
    have hsz4 := hb.size
    rw [World.size_alloc] at hsz4
    have HBW4 := Hd.mk ((Below.alloc HBW3.out (by omega) _).trans (hb.mono (by rw [World.size_alloc]; omega)))
    have HQ4 := Hd.mk ((HQ3.out.alloc _).below hb)
    have HP4 := Hd.mk (b3.below hb)
    have HV4 := Hd.mk ((HV3.out.alloc _).below hb)
    have HVP4 := Hd.mk ((HP3.out.alloc _).below hb)
    clear hv hb b3 HV3 HBW3 HQ3 HP3
    obtain ⟨q0, q1, q2, q3⟩ := (HQ4.out.alloc (.cells #[.slice A4 L'.length c4, .int .i64 n] 24)).f2
    obtain ⟨r0, r1, r2, r3⟩ := (HP4.out.alloc (.cells #[.slice A4 L'.length c4, .int .i64 n] 24)).f2
    go_wp2_with fail
    refine (due_calls A2 c2 L n 100 _ _ (HV4.out.alloc _)).mono ?_
    rw [P4.out]
    rintro e w5 ⟨v, u, rfl, hv, hu, hb⟩
    obtain ⟨A5, c5, rfl, -, -⟩ := hv.reads
    obtain ⟨A6, c6, rfl, -, hC6⟩ := hu.reads
    have hsz5 := hb.size
    rw [World.size_alloc] at hsz5
    have HBW5 := Hd.mk ((Below.alloc HBW4.out (by omega) _).trans (hb.mono (by rw [World.size_alloc]; omega)))
    have HP5 := Hd.mk ((HP4.out.alloc _).below hb)
    have HVP5 := Hd.mk ((HVP4.out.alloc _).below hb)
    have HC6 := Hd.mk hC6
    clear hv hu hb hC6 q0 q1 q2 q3 r0 r1 r2 r3 HBW4 HQ4 HP4 HV4 HVP4
    obtain ⟨r0, r1, r2, r3⟩ := (HP5.out.alloc (.cells #[.slice A5 D.length c5, .int .i64 n] 24)).f2
    go_wp2_with fail
    refine (due_calls A3 c3 L' n 100 _ _ (HVP5.out.alloc _)).mono ?_
    rw [P5.out]
    rintro e w6 ⟨v, u, rfl, hv, hu, hb⟩
    obtain ⟨A7, c7, rfl, -, -⟩ := hv.reads
    obtain ⟨A8, c8, rfl, -, hC8⟩ := hu.reads
    have hsz6 := hb.size
    rw [World.size_alloc] at hsz6
    have HBW6 := Hd.mk ((Below.alloc HBW5.out (by omega) _).trans (hb.mono (by rw [World.size_alloc]; omega)))
    have HC6' := Hd.mk (((HC6.out.below (Below.alloc (Below.refl _ _) (Nat.le_refl _) (.cells #[.slice A5 D.length c5, .int .i64 n] 24))).below hb).below (Below.alloc (Below.refl _ _) (Nat.le_refl _) (.cells #[.slice A7 D'.length c7, .int .i64 n] 24)))
    have HC8 := Hd.mk (hC8.below (Below.alloc (Below.refl _ _) (Nat.le_refl _) (.cells #[.slice A7 D'.length c7, .int .i64 n] 24)))
    have HBW7 := Hd.mk (Below.alloc HBW6.out (by omega) (.cells #[.slice A7 D'.length c7, .int .i64 n] 24))
    clear hv hu hb hC8 r0 r1 r2 r3 HBW5 HP5 HVP5 HC6 HBW6
    go_wp2
    obtain ⟨w7, hw7⟩ : ∃ w7, w7 = w6.alloc (.cells #[.slice A7 D'.length c7, .int .i64 n] 24) := ⟨_, rfl⟩
    rw [← hw7] at HC6' HC8 HBW7 ⊢
    clear hw7
    have hsz7 := HBW7.out.size
    go_loopw [17, 18] (fun uk ui wr => ∃ j k, j ≤ L.length ∧ ui = .int .i64 (j : Nat) ∧ uk = .int .i64 (k : Nat) ∧ (j ≤ ix ∧ k = j ∨ ix < j ∧ k + 1 = j) ∧ Hd (Below w7.heap.size w7 wr)) (fun _ ui _ => L.length - (intOf ui).toNat)
    case atStart => exact ⟨0, 0, Nat.zero_le _, rfl, rfl, .inl ⟨Nat.zero_le _, rfl⟩, ⟨Below.refl _ _⟩⟩
    case round =>
      obtain ⟨j, k, hj, rfl, rfl, hjk, HB⟩ := hrel
      by_cases hlt : j < L.length
      · obtain ⟨ad, A10, c10, ea, x0, x1, x2, x3, x4, -, hx5⟩ := evs_get (HC6'.out.below HB.out) j hlt
        cases ea
        by_cases hji : j = ix
        · subst hji
          have hk0 : k = j := by omega
          subst hk0
          have e6 := P6.out
          have g1 : ((nth ev0 L k).n == num) = true := by simp [e6]
          have HX5 := Hd.mk hx5
          clear hx5 e6
          go_wp2
          go_roundw
          case rel => exact ⟨k + 1, k, by omega, by go_num, rfl, by omega, HB⟩
          case measure => simp [intOf]; omega
        · have e6 := P7.out j hlt hji
          have hkl : k < L'.length := by omega
          have e7 : nth ev0 L' k = nth ev0 L j := by
            rcases hjk with ⟨h, rfl⟩ | ⟨h, h'⟩
            · exact P8.out k (by omega)
            · rw [← P9.out j (by omega) hlt, show j - 1 = k by omega]
          obtain ⟨ae, A11, c11, ea, y0, y1, y2, y3, y4, -, hy5⟩ := evs_get (HC8.out.below HB.out) k hkl
          cases ea
          rw [e7] at y0 y1 y2 y3 y4 hy5
          obtain ⟨x, hx⟩ : ∃ x, x = nth ev0 L j := ⟨_, rfl⟩
          rw [← hx] at x0 x1 x2 x3 x4 hx5 y0 y1 y2 y3 y4 hy5 e6
          clear hx e7
          rcases x with ⟨xt, xn, xk, xd, xb⟩
          dsimp only at x0 x1 x2 x3 x4 hx5 y0 y1 y2 y3 y4 hy5 e6
          have g1 : (xn == num) = false := by simpa using e6
          have g2 : decide ((k : Int) ≥ L'.length) = false := by simp; omega
          have g3 : (k : Int) < L'.length := by omega
          have g4 : decide ((L'.length : Int) ≤ k) = false := by simp; omega
          have g5 : decide (L'.length ≤ k) = false := by simp; omega
          have K1 : Hd (Calls Try.prog 21 #[.agg #[.int .i64 xt, .int .i64 xn, .int .i64 xk, .int .i64 xd, .slice A10 xb.length c10], .agg #[.int .i64 xt, .int .i64 xn, .int .i64 xk, .int .i64 xd, .slice A11 xb.length c11]] wr.drew fun e w' => e = .returned (.bool true) ∧ Below wr.drew.heap.size wr.drew w') := ⟨sameEvent_calls ⟨xt, xn, xk, xd, xb⟩ A10 A11 c10 c11 _ (by exact hx5) (by exact hy5)⟩
          clear hx5 hy5 e6
          go_wp2_with fail
          go_region_held3 (fun W => W.cell? (ad.add (j * 5)) = some (.int .i64 xt) ∧ W.cell? ⟨(ad.add (j * 5)).block, (ad.add (j * 5)).off + 1, none⟩ = some (.int .i64 xn) ∧ W.cell? ⟨(ad.add (j * 5)).block, (ad.add (j * 5)).off + 2, none⟩ = some (.int .i64 xk) ∧ W.cell? ⟨(ad.add (j * 5)).block, (ad.add (j * 5)).off + 3, none⟩ = some (.int .i64 xd) ∧ W.cell? ⟨(ad.add (j * 5)).block, (ad.add (j * 5)).off + 4, none⟩ = some (.slice A10 xb.length c10) ∧ W.cell? (ae.add (k * 5)) = some (.int .i64 xt) ∧ W.cell? ⟨(ae.add (k * 5)).block, (ae.add (k * 5)).off + 1, none⟩ = some (.int .i64 xn) ∧ W.cell? ⟨(ae.add (k * 5)).block, (ae.add (k * 5)).off + 2, none⟩ = some (.int .i64 xk) ∧ W.cell? ⟨(ae.add (k * 5)).block, (ae.add (k * 5)).off + 3, none⟩ = some (.int .i64 xd) ∧ W.cell? ⟨(ae.add (k * 5)).block, (ae.add (k * 5)).off + 4, none⟩ = some (.slice A11 xb.length c11))
            (first | with_reducible exact ⟨x0, x1, x2, x3, x4, y0, y1, y2, y3, y4⟩ | with_reducible exact ⟨keepD x0, keepD x1, keepD x2, keepD x3, keepD x4, keepD y0, keepD y1, keepD y2, keepD y3, keepD y4⟩ | with_reducible exact ⟨x0', x1', x2', x3', x4', y0', y1', y2', y3', y4'⟩)
            (first
              | (go_at_call 21; refine (K1.out).mono ?_; rintro e w8 ⟨rfl, hb⟩; have x0' := keep hb (by exact x0); have x1' := keep hb (by exact x1); have x2' := keep hb (by exact x2); have x3' := keep hb (by exact x3); have x4' := keep hb (by exact x4); have y0' := keep hb (by exact y0); have y1' := keep hb (by exact y1); have y2' := keep hb (by exact y2); have y3' := keep hb (by exact y3); have y4' := keep hb (by exact y4); have HB8 : Hd (Below w7.heap.size w7 w8) := ⟨HB.out.trans (((Below.drew (Below.refl _ _)).trans hb).mono HB.out.size)⟩; clear hb))
          clear K1 x0 x1 x2 x3 x4 y0 y1 y2 y3 y4 x0' x1' x2' x3' x4' y0' y1' y2' y3' y4'
          go_wp2
          go_roundw
          case rel => exact ⟨j + 1, k + 1, by omega, by go_num, by go_num, by omega, HB8⟩
          case measure => simp [intOf]; omega
      · have hk0 : k = L'.length := by omega
        subst hk0
        go_wp2_with fail
        refine (awake_calls _).mono ?_
        rintro e w8 ⟨rfl, hb⟩
        have HB8 := Hd.mk (HBW7.out.trans ((HB.out.trans (hb.mono HB.out.size)).mono (by omega)))
        clear hb
        go_wp2
        go_ret
        first | exact ⟨rfl, HB8.out⟩ | exact ⟨by simp, HB8.out⟩
end Go.Proofs.Ytnmcbpjhlkpglaa.B
