/- What this text holds: the walk of the law EventqueueExpires. -/
import Derived.Test.YtnmcbpjhlkpglaaX1
set_option linter.unusedVariables false
set_option linter.unusedSimpArgs false
namespace Go.Proofs.Ytnmcbpjhlkpglaa.B
open Go.RowKit

set_option maxRecDepth 100000 in
set_option maxHeartbeats 4000000 in
theorem lawExpires_calls (A : Option Addr) (c : Nat) (l : List Int) (now : Int) (w : World) (hr : (ints .u16).C w A l) (hc : l.length ≤ c) (hw : ∀ x ∈ l, 0 ≤ x ∧ x ≤ 65535) (hn0 : 0 ≤ now) (hn1 : now ≤ 255) :
    Calls Try.prog 9 #[.slice A l.length c, .int .u8 now] w fun e w' => e = .returned (.bool true) ∧ Below w.heap.size w w' := by
  have hu24 := Try.underlying24
  have hu32 := Try.underlying32
  obtain ⟨ts, L, D, n, h1, h3, h2, h30, h4, h5, h6⟩ := expires_plain l now
  have HR := Hd.mk hr; have HW := Hd.mk hw; have H1 := Hd.mk h1; have H3 := Hd.mk h3; have H4 := Hd.mk h4; have H5 := Hd.mk h5; have H6 := Hd.mk h6
  have hwn : IntKind.i64.wrap now = now := IntWalk.i64_in _ (by omega)
  obtain ⟨R, hR⟩ : ∃ R, R = L.drop D.length := ⟨_, rfl⟩
  have HRR := Hd.mk hR
  clear hr hw h1 h3 h4 h5 h6 hR
  go_enter Try.func9, Try.ntmps9
  go_wp2_with fail
  refine (times_calls A c l _ HR.out hc HW.out).mono ?_
  rw [← H1.out]
  rintro e w1 ⟨v, rfl, hown, hb⟩
  obtain ⟨A1, c1, rfl, hc1, -⟩ := hown.shape
  have HC1 := Hd.mk hown.C
  have HBW := Hd.mk hb
  have hsz1 := hb.size
  clear hb hown
  go_wp2_with fail
  refine (added_calls A1 c1 ts _ HC1.out hc1).mono ?_
  rw [H3.out]
  rintro e w2 ⟨v, rfl, hv, hb⟩
  obtain ⟨A2, c2, rfl, hc2, -⟩ := hv.reads
  have hsz2 := hb.size
  have HBW2 := Hd.mk (HBW.out.trans (hb.mono hsz1))
  have HV2 : Hd (evs.V w2 (fun j => j ≠ w2.heap.size) (.slice A2 L.length c2) L) := ⟨hv.bound.mono (fun k hk => by have := hk.2; omega)⟩
  clear hv hb HBW HC1 H3
  go_wp2_with fail
  have b0 := Blk.new w2 24 #[.slice A2 L.length c2, .int .i64 n]
  refine (due_calls A2 c2 L n now _ _ (HV2.out.alloc _)).mono ?_
  rw [H4.out, ← HRR.out]
  rintro e w3 ⟨v, u, rfl, hv, hu, hb⟩
  obtain ⟨A3, c3, rfl, hc3, -⟩ := hv.reads
  obtain ⟨A4, c4, rfl, hc4, -⟩ := hu.reads
  have hsz3 := hb.size
  rw [World.size_alloc] at hsz3
  have HB3 : Hd (Below w2.heap.size w2 w3) := ⟨(Below.alloc (Below.refl _ _) (Nat.le_refl _) _).trans (hb.mono (by rw [World.size_alloc]; omega))⟩
  have HQ3 := Hd.mk (b0.below hb)
  have HVR : Hd (evs.V w3 (fun j => j ≠ w2.heap.size) (.slice A3 R.length c3) R) := ⟨hv.mono (fun k hk => by
    rcases hk with hk | hk
    · exact hk
    · rw [World.size_alloc] at hk; omega)⟩
  have HVD : Hd (evs.V w3 (fun j => j ≠ w2.heap.size) (.slice A4 D.length c4) D) := ⟨hu.mono (fun k hk => by rw [World.size_alloc] at hk; omega)⟩
  have HV3 : Hd (evs.V w3 (fun j => j ≠ w2.heap.size) (.slice A2 L.length c2) L) := ⟨(HV2.out.alloc _).below hb⟩
  clear hv hu hb b0 HV2 H4
  go_wp2
  go_loopw [9] (fun i wr => ∃ k M v, k ≤ D.length ∧ i = .int .i64 (k : Nat) ∧ Hd (M = L.drop k) ∧ Hd (evs.V wr (fun j => j ≠ w2.heap.size) v M) ∧ Hd (Blk wr w2.heap.size 24 #[v, .int .i64 n]) ∧
    Hd (Blk wr w3.heap.size 24 #[.slice A3 R.length c3, .int .i64 n]) ∧ Hd (evs.V wr (fun j => j ≠ w2.heap.size) (.slice A3 R.length c3) R) ∧ Hd (evs.V wr (fun j => j ≠ w2.heap.size) (.slice A4 D.length c4) D) ∧ w3.heap.size < wr.heap.size ∧ Hd (Below w2.heap.size w2 wr)) (fun i _ => D.length - (intOf i).toNat)
  case atStart =>
    have b1 := Blk.new w3 24 #[.slice A3 R.length c3, .int .i64 n]
    exact ⟨0, L, _, Nat.zero_le _, rfl, ⟨rfl⟩, ⟨HV3.out.alloc _⟩, ⟨HQ3.out.alloc _⟩, ⟨b1⟩, ⟨HVR.out.alloc _⟩, ⟨HVD.out.alloc _⟩, by simp, ⟨Below.alloc HB3.out (by omega) _⟩⟩
  case round =>
    obtain ⟨k, M, v, hk, rfl, HM, HV, HQ, HP, HVR', HVD', hsz, HB⟩ := hrel
    obtain ⟨A5, c5, rfl, hc5, hC5⟩ := HV.out.reads
    have HC5 := Hd.mk hC5
    clear hC5
    obtain ⟨q0, q1, q2, q3⟩ := HQ.out.f2
    by_cases hlt : k < D.length
    · go_wp2_with fail
      refine (first_calls A5 c5 M n _ HC5.out hc5).mono ?_
      obtain ⟨M', hM'⟩ : ∃ M', M' = L.drop (k + 1) := ⟨_, rfl⟩
      have e1 := (H5.out k hlt).1
      have e2 := (H5.out k hlt).2.1
      have e3 := (H5.out k hlt).2.2
      rw [← HM.out] at e1 e2
      rw [← hM'] at e2
      obtain ⟨x, hx⟩ : ∃ x, x = nth ev0 D k := ⟨_, rfl⟩
      rw [← hx] at e1 e2 e3
      have HX := Hd.mk hx
      have HM' := Hd.mk hM'
      clear hM' hx
      rcases x with ⟨xt, xn, xk, xd, xb⟩
      simp only at e3
      have E2 := Hd.mk e2
      rw [e1]
      clear e1 e2
      rintro e w4 ⟨v, rfl, hvb, hb⟩
      obtain ⟨A6, c6, rfl, -, hC6⟩ := hvb.reads
      have hsz4 := hb.size
      have HQ4 := Hd.mk (HQ.out.below hb)
      have HP4 := Hd.mk (HP.out.below hb)
      have HB4 := Hd.mk (HB.out.trans (hb.mono HB.out.size))
      have HVR4 := Hd.mk (HVR'.out.below hb)
      have HVD4 := Hd.mk (HVD'.out.below hb)
      have HC54 := Hd.mk (HC5.out.below hb)
      have HC6 := Hd.mk hC6
      clear hvb hb hC6 q0 q1 q2 q3 HQ HP HB HVR' HVD' HC5 HV
      obtain ⟨q0, q1, q2, q3⟩ := (HQ4.out.alloc (.cells #[.int .i64 xt, .int .i64 xn, .int .i64 xk, .int .i64 xd, .slice A6 xb.length c6] 32)).f2
      go_wp2_with fail
      refine (pop_calls A5 c5 M n _ (HC54.out.below (Below.alloc (Below.refl _ _) (Nat.le_refl _) _)) hc5).mono ?_
      rw [E2.out]
      rintro e w5 ⟨v, vb, rfl, hv, hvb, hb⟩
      obtain ⟨A7, c7, rfl, -, -⟩ := hv.reads
      obtain ⟨A8, c8, rfl, -, hC8⟩ := hvb.reads
      have bx := (Blk.new w4 32 #[.int .i64 xt, .int .i64 xn, .int .i64 xk, .int .i64 xd, .slice A6 xb.length c6]).below hb
      have hbw : Below w4.heap.size w4 w5 := (Below.alloc (Below.refl _ _) (Nat.le_refl _) _).trans (hb.mono (by rw [World.size_alloc]; omega))
      have hsz5 : w4.heap.size < w5.heap.size := bx.lt
      have hv5 : evs.V w5 (fun j => j ≠ w2.heap.size) (.slice A7 M'.length c7) M' := hv.mono (fun k hk => by rw [World.size_alloc] at hk; omega)
      obtain ⟨w6, hw6⟩ : ∃ w6, w6 = ((w5.alloc (.cells #[.slice A7 M'.length c7, .int .i64 n] 24)).alloc (.cells #[.int .i64 xt, .int .i64 xn, .int .i64 xk, .int .i64 xd, .slice A8 xb.length c8] 32)) := ⟨_, rfl⟩
      have hb56 : Below w5.heap.size w5 ((w5.alloc (.cells #[.slice A7 M'.length c7, .int .i64 n] 24)).alloc (.cells #[.int .i64 xt, .int .i64 xn, .int .i64 xk, .int .i64 xd, .slice A8 xb.length c8] 32)) := by go_grown
      have by6 := (Blk.new w5 24 #[.slice A7 M'.length c7, .int .i64 n]).alloc (.cells #[.int .i64 xt, .int .i64 xn, .int .i64 xk, .int .i64 xd, .slice A8 xb.length c8] 32)
      have bz6 := Blk.new (w5.alloc (.cells #[.slice A7 M'.length c7, .int .i64 n] 24)) 32 #[.int .i64 xt, .int .i64 xn, .int .i64 xk, .int .i64 xd, .slice A8 xb.length c8]
      rw [World.size_alloc] at bz6
      go_wp2_with fail
      rw [← hw6] at hb56 by6 bz6 ⊢
      clear hw6
      have hsz6 := hb56.size
      have HQ6 := Hd.mk ((HQ4.out.below hbw).below hb56)
      have HP6 := Hd.mk ((HP4.out.below hbw).below hb56)
      have HB6 := Hd.mk ((HB4.out.trans (hbw.mono (by omega))).trans (hb56.mono (by omega)))
      have HVR6 := Hd.mk ((HVR4.out.below hbw).below hb56)
      have HVD6 := Hd.mk ((HVD4.out.below hbw).below hb56)
      have HV6 := Hd.mk (hv5.below hb56)
      have HC6' := Hd.mk ((HC6.out.below hbw).below hb56)
      have HC8 := Hd.mk (hC8.below hb56)
      have hx6 := bx.below hb56
      obtain ⟨ad, A9, c9, ea, d0, d1, d2, d3, d4, hl9, hi9⟩ := evs_get HVD6.out.C k hlt
      cases ea
      rw [← HX.out] at d0 d1 d2 d3 d4 hi9
      dsimp only at d0 d1 d2 d3 d4 hi9
      have HC9 := Hd.mk hi9
      clear hv hvb hb hbw hb56 hC8 hv5 hi9 hl9 q0 q1 q2 q3 HQ4 HP4 HB4 HVR4 HVD4 HC54 HC6 bx
      obtain ⟨x0, x1, x2, x3, x4, -, -, -, -, -⟩ := hx6.f5
      obtain ⟨m0, m1, -, -⟩ := by6.f2
      obtain ⟨z0, z1, z2, z3, z4, -, -, -, -, -⟩ := bz6.f5
      have HX6 := Hd.mk hx6; have HY6 := Hd.mk by6; have HZ6 := Hd.mk bz6
      clear hx6 by6 bz6
      have g1 : decide (xt > now) = false := by simp; omega
      have K1 : Hd (Calls Try.prog 21 #[.agg #[.int .i64 xt, .int .i64 xn, .int .i64 xk, .int .i64 xd, .slice A6 xb.length c6], .agg #[.int .i64 xt, .int .i64 xn, .int .i64 xk, .int .i64 xd, .slice A8 xb.length c8]] w6.drew fun e w' => e = .returned (.bool true) ∧ Below w6.drew.heap.size w6.drew w') := ⟨sameEvent_calls ⟨xt, xn, xk, xd, xb⟩ A6 A8 c6 c8 _ HC6'.out HC8.out⟩
      have K2 : Hd (∀ W, Below w6.heap.size w6 W → Calls Try.prog 21 #[.agg #[.int .i64 xt, .int .i64 xn, .int .i64 xk, .int .i64 xd, .slice A6 xb.length c6], .agg #[.int .i64 xt, .int .i64 xn, .int .i64 xk, .int .i64 xd, .slice A9 xb.length c9]] W fun e w' => e = .returned (.bool true) ∧ Below W.heap.size W w') := ⟨fun W hW => sameEvent_calls ⟨xt, xn, xk, xd, xb⟩ A6 A9 c6 c9 _ (HC6'.out.below hW) (HC9.out.below hW)⟩
      go_region_held3 (fun W => W.cell? ⟨w4.heap.size, 0, none⟩ = some (.int .i64 xt) ∧ W.cell? ⟨w4.heap.size, 1, none⟩ = some (.int .i64 xn) ∧ W.cell? ⟨w4.heap.size, 2, none⟩ = some (.int .i64 xk) ∧ W.cell? ⟨w4.heap.size, 3, none⟩ = some (.int .i64 xd) ∧ W.cell? ⟨w4.heap.size, 4, none⟩ = some (.slice A6 xb.length c6) ∧ W.cell? ⟨w5.heap.size + 1, 0, none⟩ = some (.int .i64 xt) ∧ W.cell? ⟨w5.heap.size + 1, 1, none⟩ = some (.int .i64 xn) ∧ W.cell? ⟨w5.heap.size + 1, 2, none⟩ = some (.int .i64 xk) ∧ W.cell? ⟨w5.heap.size + 1, 3, none⟩ = some (.int .i64 xd) ∧ W.cell? ⟨w5.heap.size + 1, 4, none⟩ = some (.slice A8 xb.length c8) ∧ W.cell? (ad.add (k * 5)) = some (.int .i64 xt) ∧ W.cell? ⟨(ad.add (k * 5)).block, (ad.add (k * 5)).off + 1, none⟩ = some (.int .i64 xn) ∧ W.cell? ⟨(ad.add (k * 5)).block, (ad.add (k * 5)).off + 2, none⟩ = some (.int .i64 xk) ∧ W.cell? ⟨(ad.add (k * 5)).block, (ad.add (k * 5)).off + 3, none⟩ = some (.int .i64 xd) ∧ W.cell? ⟨(ad.add (k * 5)).block, (ad.add (k * 5)).off + 4, none⟩ = some (.slice A9 xb.length c9))
        (first | with_reducible exact ⟨x0, x1, x2, x3, x4, z0, z1, z2, z3, z4, d0, d1, d2, d3, d4⟩ | with_reducible exact ⟨keepD x0, keepD x1, keepD x2, keepD x3, keepD x4, keepD z0, keepD z1, keepD z2, keepD z3, keepD z4, keepD d0, keepD d1, keepD d2, keepD d3, keepD d4⟩ | with_reducible exact ⟨x0', x1', x2', x3', x4', z0', z1', z2', z3', z4', d0', d1', d2', d3', d4'⟩ | with_reducible exact ⟨x0'', x1'', x2'', x3'', x4'', z0'', z1'', z2'', z3'', z4'', d0'', d1'', d2'', d3'', d4''⟩)
        (first
          | (go_at_call 21; with_reducible refine (K2.out _ HB7.out).mono ?_; rintro e w8 ⟨rfl, hb⟩; have x0'' := keep hb (by exact x0'); have x1'' := keep hb (by exact x1'); have x2'' := keep hb (by exact x2'); have x3'' := keep hb (by exact x3'); have x4'' := keep hb (by exact x4'); have z0'' := keep hb (by exact z0'); have z1'' := keep hb (by exact z1'); have z2'' := keep hb (by exact z2'); have z3'' := keep hb (by exact z3'); have z4'' := keep hb (by exact z4'); have d0'' := keep hb (by exact d0'); have d1'' := keep hb (by exact d1'); have d2'' := keep hb (by exact d2'); have d3'' := keep hb (by exact d3'); have d4'' := keep hb (by exact d4'); have HB8 : Hd (Below w6.heap.size w6 w8) := ⟨HB7.out.trans (hb.mono HB7.out.size)⟩; clear hb)
          | (go_at_call 21; refine (K1.out).mono ?_; rintro e w7 ⟨rfl, hb⟩; have x0' := keep hb (by exact x0); have x1' := keep hb (by exact x1); have x2' := keep hb (by exact x2); have x3' := keep hb (by exact x3); have x4' := keep hb (by exact x4); have z0' := keep hb (by exact z0); have z1' := keep hb (by exact z1); have z2' := keep hb (by exact z2); have z3' := keep hb (by exact z3); have z4' := keep hb (by exact z4); have d0' := keep hb (by exact d0); have d1' := keep hb (by exact d1); have d2' := keep hb (by exact d2); have d3' := keep hb (by exact d3); have d4' := keep hb (by exact d4); have HB7 : Hd (Below w6.heap.size w6 w7) := ⟨(Below.drew (Below.refl _ _)).trans hb⟩; clear hb))
      have HQ8 := Hd.mk (HQ6.out.below HB8.out)
      have HP8 := Hd.mk (HP6.out.below HB8.out)
      have HVR8 := Hd.mk (HVR6.out.below HB8.out)
      have HVD8 := Hd.mk (HVD6.out.below HB8.out)
      have HV8 := Hd.mk (HV6.out.below HB8.out)
      have hsz8 := HB8.out.size
      have hbw := HB6.out.trans (HB8.out.mono (by omega))
      have HB8' := Hd.mk hbw
      obtain ⟨m0', m1', -, -⟩ := (HY6.out.below HB8.out).f2
      obtain ⟨q0, q1, q2, q3⟩ := HQ8.out.f2
      clear hbw x0 x1 x2 x3 x4 z0 z1 z2 z3 z4 d0 d1 d2 d3 d4 x0' x1' x2' x3' x4' z0' z1' z2' z3' z4' d0' d1' d2' d3' d4' x0'' x1'' x2'' x3'' x4'' z0'' z1'' z2'' z3'' z4'' d0'' d1'' d2'' d3'' d4'' m0 m1 HQ6 HP6 HVR6 HVD6 HV6 HY6 HX6 HZ6 HB6 HB7 HB8 HC6' HC8 HC9 K1 K2
      go_wp2
      go_roundw
      case rel =>
        refine ⟨k + 1, M', .slice A7 M'.length c7, by omega, by go_num, HM', ⟨?_⟩, ⟨?_⟩, ⟨?_⟩, ⟨?_⟩, ⟨?_⟩, ?_, ⟨?_⟩⟩
        · have hv := HV8.out
          repeat (first | (with_reducible exact hv) | (with_reducible refine Kd.V.far ?_ (fun k hk => by have hk' : k ≠ w2.heap.size := hk; dsimp only; omega) _))
        · exact put2 HQ8.out
        · exact (HP8.out.far (by dsimp only; omega) _).far (by dsimp only; omega) _
        · have hv := HVR8.out
          repeat (first | (with_reducible exact hv) | (with_reducible refine Kd.V.far ?_ (fun k hk => by have hk' : k ≠ w2.heap.size := hk; dsimp only; omega) _))
        · have hv := HVD8.out
          repeat (first | (with_reducible exact hv) | (with_reducible refine Kd.V.far ?_ (fun k hk => by have hk' : k ≠ w2.heap.size := hk; dsimp only; omega) _))
        · simp; omega
        · have h2 := HB8'.out
          repeat (first | (with_reducible exact h2) | (with_reducible refine Below.setCell ?_ (by dsimp only; omega) _))
      case measure => simp [intOf]; omega
    · have hkD : k = D.length := by omega
      subst hkD
      obtain ⟨x, b, e1, e2⟩ := H6.out
      rw [← HM.out] at e1
      have hMR : M = R := by rw [HM.out, HRR.out]
      subst hMR
      rcases x with ⟨xt, xn, xk, xd, xb⟩
      simp only at e2
      have E2 := Hd.mk e2
      have E1 := Hd.mk e1
      clear e1 e2
      go_wp2_with fail
      refine (first_calls A5 c5 M n _ HC5.out hc5).mono ?_
      rw [E1.out]
      rintro e w4 ⟨v, rfl, hvb, hb⟩
      obtain ⟨A6, c6, rfl, -, -⟩ := hvb.reads
      have hsz4 := hb.size
      have HQ4 := Hd.mk (HQ.out.below hb)
      have HP4 := Hd.mk (HP.out.below hb)
      have HB4 := Hd.mk (HB.out.trans (hb.mono HB.out.size))
      have HCR4 := Hd.mk (HVR'.out.C.below hb)
      have HC54 := Hd.mk (HC5.out.below hb)
      clear hvb hb q0 q1 q2 q3 HQ HP HB HVR' HVD' HC5 HV
      go_wp2_with fail
      refine (awake_calls _).mono ?_
      rintro e w5 ⟨rfl, hb⟩
      have b4 := (Blk.new w4 32 #[.int .i64 xt, .int .i64 xn, .int .i64 xk, .int .i64 xd, .slice A6 xb.length c6]).below hb
      have hbw : Below w4.heap.size w4 w5 := (Below.alloc (Below.refl _ _) (Nat.le_refl _) _).trans (hb.mono (by rw [World.size_alloc]; omega))
      have hsz5 : w4.heap.size < w5.heap.size := b4.lt
      obtain ⟨q0, q1, -, -⟩ := (HQ4.out.below hbw).f2
      obtain ⟨p0, p1, -, -⟩ := (HP4.out.below hbw).f2
      have HB5 := Hd.mk (HB4.out.trans (hbw.mono (by omega)))
      have HCR5 := Hd.mk (HCR4.out.below hbw)
      have HC55 := Hd.mk (HC54.out.below hbw)
      have H4b := Hd.mk b4
      clear hb hbw b4 HQ4 HP4 HB4 HCR4 HC54
      go_wp2_with fail
      refine (same_calls M n A3 A5 c3 c5 _ HCR5.out HC55.out).mono ?_
      rintro e w6 ⟨rfl, hb⟩
      obtain ⟨x0, -, -, -, -, -, -, -, -, -⟩ := (H4b.out.below hb).f5
      have HB6 := Hd.mk (HBW2.out.trans ((HB5.out.trans (hb.mono HB5.out.size)).mono (by omega)))
      clear hb HB5 q0 q1 p0 p1 HCR5 HC55 H4b
      rcases b with _ | _
      · go_wp2
        go_ret
        first | exact ⟨rfl, HB6.out⟩ | exact ⟨by simp, HB6.out⟩
      · have g2 : now < xt := E2.out rfl
        have g1 : decide (xt > now) = true := by simp; omega
        go_wp2
        go_ret
        first | exact ⟨rfl, HB6.out⟩ | exact ⟨by simp, HB6.out⟩
end Go.Proofs.Ytnmcbpjhlkpglaa.B
