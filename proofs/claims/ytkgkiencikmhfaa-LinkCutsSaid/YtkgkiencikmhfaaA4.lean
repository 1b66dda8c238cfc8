/- What this text holds: the walk of the law LinkDelivers. -/
import Derived.Test.YtkgkiencikmhfaaA3
set_option linter.unusedVariables false
set_option linter.unusedSimpArgs false
namespace Go.Proofs.Ytkgkiencikmhfaa.B
open Go.RowKit

set_option maxRecDepth 100000 in
set_option maxHeartbeats 4000000 in
theorem lawDelivers_calls (mn mx rt : Int) (dn : Bool) (idle next : Int) (A : Option Addr) (c : Nat) (l : List Fl) (now : Int) (w : World) (hr : fls.C w A l) (hc : l.length ≤ c) :
    Calls Try.prog 9 #[.agg #[.int .i64 mn, .int .i64 mx, .int .i64 rt, .bool dn, .int .i64 idle, .int .i64 next, .slice A l.length c], .int .i64 now] w fun e w' => e = .returned (.bool true) ∧ Below w.heap.size w w' := by
  have hu26 := Try.underlying26
  have hu23 := Try.underlying23
  have HR := Hd.mk hr
  have HL : Hd (fls.V w (fun k => k < w.heap.size) (.slice A l.length c) l) := ⟨(Kd.V.bound ⟨A, c, rfl, hc, hr.fp⟩).mono (fun k hk => hk.2)⟩
  clear hr
  obtain ⟨R, hR⟩ : ∃ R, R = deliverF mn mx rt dn idle next l now := ⟨_, rfl⟩
  have HRR := Hd.mk hR
  obtain ⟨T, hT⟩ : ∃ T, T = nextF mn mx rt dn idle next l := ⟨_, rfl⟩
  have HT := Hd.mk hT
  obtain ⟨K, hK⟩ : ∃ K, K = cutF mn mx rt dn idle next l := ⟨_, rfl⟩
  have HK := Hd.mk hK
  obtain ⟨M, hM⟩ : ∃ M, M = restoreF mn mx rt dn idle next l now := ⟨_, rfl⟩
  have HM := Hd.mk hM
  clear hR hT hK hM
  rcases R with ⟨⟨r0, r1, r2, r3, r4, r5, rl⟩, rp⟩
  rcases T with ⟨t0, t1⟩
  rcases K with ⟨k0, k1, k2, k3, k4, k5, kl⟩
  rcases M with ⟨m0, m1, m2, m3, m4, m5, ml⟩
  have HB0 : Hd (Below w.heap.size w w) := ⟨Below.refl _ _⟩
  rcases hf : fewF l with _ | _
  all_goals
    have HF := Hd.mk hf
    clear hf
    go_enter Try.func9, Try.ntmps9
    go_wp2_with fail
    refine calls_abs (fun W1 => Hd (Blk W1 w.heap.size 26 #[.int .i64 mn, .int .i64 mx, .int .i64 rt, .bool dn, .int .i64 idle, .int .i64 next, .slice A l.length c]) ∧ Hd (Below w.heap.size w W1) ∧ W1.heap.size = w.heap.size + 1) ⟨⟨?_⟩, ⟨?_⟩, ?_⟩ ?_
    · repeat (first | (with_reducible refine Blk.newE ?_; first | omega | (simp only [World.size_alloc, World.size_setCell, World.size_drew]; omega) | (simp; done)) | with_reducible refine Blk.alloc ?_ _ | with_reducible refine Blk.drew ?_ | with_reducible refine Blk.far ?_ (by dsimp only; omega) _)
    · repeat (first | with_reducible exact HB0.out | with_reducible refine Below.alloc ?_ (by first | omega | (simp only [World.size_alloc, World.size_setCell, World.size_drew]; omega) | (simp; done)) _ | with_reducible refine Below.drew ?_ | with_reducible refine Below.setCell ?_ (by dsimp only; omega) _)
    · first | omega | (simp only [World.size_alloc, World.size_setCell, World.size_drew]; omega) | (simp; done)
    clear HB0
    rintro W1 ⟨HQ, HB, hzW1⟩
    refine (few_calls mn mx rt dn idle next A c l _ (HR.out.below HB.out) hc).mono ?_
    rw [HF.out]
    rintro e w1 ⟨rfl, hb⟩
    replace HB := Hd.mk (bel_step HB.out hb (by omega))
    replace HQ := Hd.mk (HQ.out.below hb)
    have hz1 := hb.size
    clear hb
    obtain ⟨q0, q1, q2, q3, q4, q5, q6, q7, q8, q9, q10, q11, q12, q13⟩ := HQ.out.f7
    go_wp2_with fail
  · refine (awake_calls _).mono ?_
    rintro e w2 ⟨rfl, hb⟩
    replace HB := Hd.mk (bel_step HB.out hb (by omega))
    clear hb q0 q1 q2 q3 q4 q5 q6 q7 q8 q9 q10 q11 q12 q13 HQ
    go_wp2
    go_ret
    exact ⟨rfl, HB.out⟩
  · have hsm := fewF_ok l HF.out
    have HS : Hd (Small l) := ⟨⟨by have := hsm.1; omega, fun x hx => by have := hsm.2 x hx; omega⟩⟩
    clear hsm
    refine (deliver_calls mn mx rt dn idle next A c l now _ (HR.out.below HB.out) hc HS.out).mono ?_
    rw [← HRR.out]
    rintro e w2 h
    obtain ⟨v, u, rfl, hv, hu, hb⟩ := h
    dsimp only at hv hu ⊢
    obtain ⟨A2, c2, rfl, hc2, -⟩ := hv.reads
    obtain ⟨A3, c3, rfl, hc3, -⟩ := hu.reads
    replace HB := Hd.mk (bel_step HB.out hb (by omega))
    replace HQ := Hd.mk (HQ.out.below hb)
    have HV2 := Hd.mk hv.bound
    have HP2 := Hd.mk hu.bound
    have hz2 := hb.size
    clear hb hv hu q0 q1 q2 q3 q4 q5 q6 q7 q8 q9 q10 q11 q12 q13
    obtain ⟨q0, q1, q2, q3, q4, q5, q6, q7, q8, q9, q10, q11, q12, q13⟩ := HQ.out.f7
    have qa0 := keepA q0 (.cells #[.int .i64 r0, .int .i64 r1, .int .i64 r2, .bool r3, .int .i64 r4, .int .i64 r5, .slice A2 rl.length c2] 26)
    have qa1 := keepA q1 (.cells #[.int .i64 r0, .int .i64 r1, .int .i64 r2, .bool r3, .int .i64 r4, .int .i64 r5, .slice A2 rl.length c2] 26)
    have qa2 := keepA q2 (.cells #[.int .i64 r0, .int .i64 r1, .int .i64 r2, .bool r3, .int .i64 r4, .int .i64 r5, .slice A2 rl.length c2] 26)
    have qa3 := keepA q3 (.cells #[.int .i64 r0, .int .i64 r1, .int .i64 r2, .bool r3, .int .i64 r4, .int .i64 r5, .slice A2 rl.length c2] 26)
    have qa4 := keepA q4 (.cells #[.int .i64 r0, .int .i64 r1, .int .i64 r2, .bool r3, .int .i64 r4, .int .i64 r5, .slice A2 rl.length c2] 26)
    have qa5 := keepA q5 (.cells #[.int .i64 r0, .int .i64 r1, .int .i64 r2, .bool r3, .int .i64 r4, .int .i64 r5, .slice A2 rl.length c2] 26)
    have qa6 := keepA q6 (.cells #[.int .i64 r0, .int .i64 r1, .int .i64 r2, .bool r3, .int .i64 r4, .int .i64 r5, .slice A2 rl.length c2] 26)
    go_wp2_with fail
    refine calls_abs (fun W3 => Hd (Blk W3 w.heap.size 26 #[.int .i64 mn, .int .i64 mx, .int .i64 rt, .bool dn, .int .i64 idle, .int .i64 next, .slice A l.length c]) ∧ Hd (Blk W3 w2.heap.size 26 #[.int .i64 r0, .int .i64 r1, .int .i64 r2, .bool r3, .int .i64 r4, .int .i64 r5, .slice A2 rl.length c2]) ∧ Hd (fls.V W3 (fun k => w1.heap.size ≤ k ∧ k < w2.heap.size) (.slice A2 rl.length c2) rl) ∧ Hd (bss.V W3 (fun k => w1.heap.size ≤ k ∧ k < w2.heap.size) (.slice A3 rp.length c3) rp) ∧ Hd (Below w.heap.size w W3) ∧ W3.heap.size = w2.heap.size + 1) ⟨⟨?_⟩, ⟨?_⟩, ⟨?_⟩, ⟨?_⟩, ⟨?_⟩, ?_⟩ ?_
    · repeat (first | with_reducible exact HQ.out | (with_reducible refine Blk.newE ?_; first | omega | (simp only [World.size_alloc, World.size_setCell, World.size_drew]; omega) | (simp; done)) | with_reducible refine Blk.alloc ?_ _ | with_reducible refine Blk.drew ?_ | with_reducible refine Blk.far ?_ (by dsimp only; omega) _)
    · repeat (first | with_reducible exact HQ.out | (with_reducible refine Blk.newE ?_; first | omega | (simp only [World.size_alloc, World.size_setCell, World.size_drew]; omega) | (simp; done)) | with_reducible refine Blk.alloc ?_ _ | with_reducible refine Blk.drew ?_ | with_reducible refine Blk.far ?_ (by dsimp only; omega) _)
    · repeat (first | with_reducible exact HV2.out | with_reducible refine Kd.V.alloc ?_ _ | with_reducible refine Kd.V.drew ?_ | with_reducible refine Kd.V.far ?_ (fun j hj => by dsimp only at hj ⊢; omega) _)
    · repeat (first | with_reducible exact HP2.out | with_reducible refine Kd.V.alloc ?_ _ | with_reducible refine Kd.V.drew ?_ | with_reducible refine Kd.V.far ?_ (fun j hj => by dsimp only at hj ⊢; omega) _)
    · repeat (first | with_reducible exact HB.out | with_reducible refine Below.alloc ?_ (by first | omega | (simp only [World.size_alloc, World.size_setCell, World.size_drew]; omega) | (simp; done)) _ | with_reducible refine Below.drew ?_ | with_reducible refine Below.setCell ?_ (by dsimp only; omega) _)
    · first | omega | (simp only [World.size_alloc, World.size_setCell, World.size_drew]; omega) | (simp; done)
    clear HB HQ HV2 HP2 qa0 qa1 qa2 qa3 qa4 qa5 qa6 q0 q1 q2 q3 q4 q5 q6 q7 q8 q9 q10 q11 q12 q13
    rintro W3 ⟨HQ, HX, HV2, HP2, HB, hzW3⟩
    refine (refDeliver_calls mn mx rt dn idle next A c l now _ _ (HL.out.below HB.out)).mono ?_
    rw [← HRR.out]
    rintro e w4 h
    obtain ⟨v, u, rfl, hv, hu, hb⟩ := h
    dsimp only at hv hu ⊢
    obtain ⟨A4, c4, rfl, hc4, -⟩ := hv.reads
    obtain ⟨A5, c5, rfl, hc5, -⟩ := hu.reads
    replace HB := Hd.mk (bel_step HB.out hb (by omega))
    replace HQ := Hd.mk (HQ.out.below hb)
    replace HX := Hd.mk (HX.out.below hb)
    replace HV2 := Hd.mk (HV2.out.below hb)
    replace HP2 := Hd.mk (HP2.out.below hb)
    have HV4 := Hd.mk hv.bound
    have HP4 := Hd.mk hu.bound
    have hz4 := hb.size
    clear hb hv hu
    obtain ⟨x0, x1, x2, x3, x4, x5, x6, x7, x8, x9, x10, x11, x12, x13⟩ := HX.out.f7
    have xa0 := keepA x0 (.cells #[.int .i64 r0, .int .i64 r1, .int .i64 r2, .bool r3, .int .i64 r4, .int .i64 r5, .slice A4 rl.length c4] 26)
    have xa1 := keepA x1 (.cells #[.int .i64 r0, .int .i64 r1, .int .i64 r2, .bool r3, .int .i64 r4, .int .i64 r5, .slice A4 rl.length c4] 26)
    have xa2 := keepA x2 (.cells #[.int .i64 r0, .int .i64 r1, .int .i64 r2, .bool r3, .int .i64 r4, .int .i64 r5, .slice A4 rl.length c4] 26)
    have xa3 := keepA x3 (.cells #[.int .i64 r0, .int .i64 r1, .int .i64 r2, .bool r3, .int .i64 r4, .int .i64 r5, .slice A4 rl.length c4] 26)
    have xa4 := keepA x4 (.cells #[.int .i64 r0, .int .i64 r1, .int .i64 r2, .bool r3, .int .i64 r4, .int .i64 r5, .slice A4 rl.length c4] 26)
    have xa5 := keepA x5 (.cells #[.int .i64 r0, .int .i64 r1, .int .i64 r2, .bool r3, .int .i64 r4, .int .i64 r5, .slice A4 rl.length c4] 26)
    have xa6 := keepA x6 (.cells #[.int .i64 r0, .int .i64 r1, .int .i64 r2, .bool r3, .int .i64 r4, .int .i64 r5, .slice A4 rl.length c4] 26)
    go_wp2_with fail
    refine calls_abs (fun W5 => Hd (Blk W5 w.heap.size 26 #[.int .i64 mn, .int .i64 mx, .int .i64 rt, .bool dn, .int .i64 idle, .int .i64 next, .slice A l.length c]) ∧ Hd (fls.C W5 A2 rl) ∧ Hd (fls.C W5 A4 rl) ∧ Hd (bss.C W5 A3 rp) ∧ Hd (bss.C W5 A5 rp) ∧ Hd (Below w.heap.size w W5) ∧ W5.heap.size = w4.heap.size + 1) ⟨⟨?_⟩, ⟨?_⟩, ⟨?_⟩, ⟨?_⟩, ⟨?_⟩, ⟨?_⟩, ?_⟩ ?_
    · repeat (first | with_reducible exact HQ.out | (with_reducible refine Blk.newE ?_; first | omega | (simp only [World.size_alloc, World.size_setCell, World.size_drew]; omega) | (simp; done)) | with_reducible refine Blk.alloc ?_ _ | with_reducible refine Blk.drew ?_ | with_reducible refine Blk.far ?_ (by dsimp only; omega) _)
    · exact (HV2.out.alloc _).C
    · exact (HV4.out.alloc _).C
    · exact (HP2.out.alloc _).C
    · exact (HP4.out.alloc _).C
    · repeat (first | with_reducible exact HB.out | with_reducible refine Below.alloc ?_ (by first | omega | (simp only [World.size_alloc, World.size_setCell, World.size_drew]; omega) | (simp; done)) _ | with_reducible refine Below.drew ?_ | with_reducible refine Below.setCell ?_ (by dsimp only; omega) _)
    · first | omega | (simp only [World.size_alloc, World.size_setCell, World.size_drew]; omega) | (simp; done)
    clear HB HQ HX HV2 HP2 HV4 HP4 xa0 xa1 xa2 xa3 xa4 xa5 xa6 x0 x1 x2 x3 x4 x5 x6 x7 x8 x9 x10 x11 x12 x13
    rintro W5 ⟨HQ, HV2, HV4, HP2, HP4, HB, hzW5⟩
    refine (same_calls r0 r1 r2 r3 r4 r5 rl A2 A4 c2 c4 _ HV2.out HV4.out).mono ?_
    rintro e w6 ⟨rfl, hb⟩
    replace HB := Hd.mk (bel_step HB.out hb (by omega))
    replace HQ := Hd.mk (HQ.out.below hb)
    replace HP2 := Hd.mk (HP2.out.below hb)
    replace HP4 := Hd.mk (HP4.out.below hb)
    have hz6 := hb.size
    clear hb HV2 HV4
    go_wp2_with fail
    refine (samePayloads_calls rp A3 A5 c3 c5 _ HP2.out HP4.out).mono ?_
    rintro e w7 ⟨rfl, hb⟩
    replace HB := Hd.mk (bel_step HB.out hb (by omega))
    replace HQ := Hd.mk (HQ.out.below hb)
    have hz7 := hb.size
    clear hb HP2 HP4
    obtain ⟨q0, q1, q2, q3, q4, q5, q6, q7, q8, q9, q10, q11, q12, q13⟩ := HQ.out.f7
    go_wp2_with fail
    refine (next_calls mn mx rt dn idle next A c l _ (HR.out.below HB.out) hc).mono ?_
    rw [← HT.out]
    rintro e w8 ⟨rfl, hb⟩
    replace HB := Hd.mk (bel_step HB.out hb (by omega))
    replace HQ := Hd.mk (HQ.out.below hb)
    have hz8 := hb.size
    clear hb q0 q1 q2 q3 q4 q5 q6 q7 q8 q9 q10 q11 q12 q13
    obtain ⟨q0, q1, q2, q3, q4, q5, q6, q7, q8, q9, q10, q11, q12, q13⟩ := HQ.out.f7
    go_wp2_with fail
    refine (refNext_calls mn mx rt dn idle next A c l _ (HR.out.below HB.out) hc).mono ?_
    rw [← HT.out]
    rintro e w9 ⟨rfl, hb⟩
    replace HB := Hd.mk (bel_step HB.out hb (by omega))
    replace HQ := Hd.mk (HQ.out.below hb)
    have hz9 := hb.size
    clear hb q0 q1 q2 q3 q4 q5 q6 q7 q8 q9 q10 q11 q12 q13
    go_wp2_with fail
    go_region_held3 (fun W => W.cell? ⟨w.heap.size, 0, none⟩ = some (.int .i64 mn) ∧ W.cell? ⟨w.heap.size, 1, none⟩ = some (.int .i64 mx) ∧ W.cell? ⟨w.heap.size, 2, none⟩ = some (.int .i64 rt) ∧ W.cell? ⟨w.heap.size, 3, none⟩ = some (.bool dn) ∧ W.cell? ⟨w.heap.size, 4, none⟩ = some (.int .i64 idle) ∧ W.cell? ⟨w.heap.size, 5, none⟩ = some (.int .i64 next) ∧ W.cell? ⟨w.heap.size, 6, none⟩ = some (.slice A l.length c)) (first | with_reducible exact (HQ.out.drew).c7 | with_reducible exact (HQa.out).c7 | with_reducible exact (HQc.out).c7 | with_reducible exact (HQd.out).c7 | with_reducible exact (HQs.out).c7 | with_reducible exact (HQf.out).c7 | with_reducible exact (HQg.out).c7 | with_reducible exact (HQz.out).c7)
      (first
        | (go_at_call 12; refine (awake_calls _).mono ?_; rintro e wa ⟨rfl, hb⟩; have HQa := Hd.mk (HQ.out.drew.below hb); have HBa := Hd.mk (bel_step HB.out.drew hb (by exact HB.out.drew.size)); clear hb)
        | (go_at_call 29; refine (cut_calls mn mx rt dn idle next A c l wa (HR.out.below HBa.out) hc HS.out).mono ?_; rw [← HK.out]; rintro e wc h; obtain ⟨v, rfl, hv, hb⟩ := h; dsimp only at hv ⊢; obtain ⟨A6, c6, rfl, -, hcc⟩ := hv.reads; have HCC := Hd.mk hcc; clear hv hcc; have HQc := Hd.mk (HQa.out.below hb); have HBc := Hd.mk (bel_step HBa.out hb (by exact HBa.out.size)); clear hb)
        | (go_at_call 30; refine (refCut_calls mn mx rt dn idle next A c l wc _ (HL.out.below HBc.out)).mono ?_; rw [← HK.out]; rintro e wd h; obtain ⟨v, rfl, hv, hb⟩ := h; dsimp only at hv ⊢; obtain ⟨A7, c7, rfl, -, hc2⟩ := hv.reads; have HC2 := Hd.mk hc2; clear hv hc2; have HQd := Hd.mk (HQc.out.below hb); have HBd := Hd.mk (bel_step HBc.out hb (by exact HBc.out.size)); have HC1 := Hd.mk (HCC.out.below hb); clear hb)
        | (go_at_call 15; with_reducible refine (same_calls m0 m1 m2 m3 m4 m5 ml A8 A9 c8 c9 wg HM1.out HM2.out).mono ?_; rintro e wz ⟨rfl, hb⟩; have HQz := Hd.mk (HQg.out.below hb); have HBz := Hd.mk (bel_step HBg.out hb (by exact HBg.out.size)); clear hb)
        | (go_at_call 15; refine (same_calls k0 k1 k2 k3 k4 k5 kl A6 A7 c6 c7 wd HC1.out HC2.out).mono ?_; rintro e ws ⟨rfl, hb⟩; have HQs := Hd.mk (HQd.out.below hb); have HBs := Hd.mk (bel_step HBd.out hb (by exact HBd.out.size)); clear hb)
        | (go_at_call 31; refine (restore_calls mn mx rt dn idle next A c l now ws (HR.out.below HBs.out) hc HS.out).mono ?_; rw [← HM.out]; rintro e wf h; obtain ⟨v, rfl, hv, hb⟩ := h; dsimp only at hv ⊢; obtain ⟨A8, c8, rfl, -, hmc⟩ := hv.reads; have HMC := Hd.mk hmc; clear hv hmc; have HQf := Hd.mk (HQs.out.below hb); have HBf := Hd.mk (bel_step HBs.out hb (by exact HBs.out.size)); clear hb)
        | (go_at_call 32; refine (refRestore_calls mn mx rt dn idle next A c l now wf _ (HL.out.below HBf.out)).mono ?_; rw [← HM.out]; rintro e wg h; obtain ⟨v, rfl, hv, hb⟩ := h; dsimp only at hv ⊢; obtain ⟨A9, c9, rfl, -, hm2⟩ := hv.reads; have HM2 := Hd.mk hm2; clear hv hm2; have HQg := Hd.mk (HQf.out.below hb); have HBg := Hd.mk (bel_step HBf.out hb (by exact HBf.out.size)); have HM1 := Hd.mk (HMC.out.below hb); clear hb))
    all_goals
      go_wp2
      go_ret
      exact ⟨rfl, HBz.out⟩
end Go.Proofs.Ytkgkiencikmhfaa.B
