/- What this text holds: the walk of the law LinkSends. -/
import Derived.Test.YtkgkiencikmhfaaA2
import Derived.Test.YtkgkiencikmhfaaA4
set_option linter.unusedVariables false
set_option linter.unusedSimpArgs false
namespace Go.Proofs.Ytkgkiencikmhfaa.B
open Go.RowKit

set_option maxRecDepth 100000 in
set_option maxHeartbeats 4000000 in
theorem lawSends_calls (mn mx rt : Int) (dn : Bool) (idle next : Int) (A : Option Addr) (c : Nat) (l : List Fl) (now : Int) (A0 : Option Addr) (c0 : Nat) (body : List Int) (A1 : Option Addr) (c1 : Nat) (ch : List Int) (w : World)
    (hr : fls.C w A l) (hc : l.length ≤ c) (hr0 : (ints .u8).C w A0 body) (hc0 : body.length ≤ c0) (hr1 : (ints .i64).C w A1 ch) (hc1 : ch.length ≤ c1) :
    Calls Try.prog 4 #[.agg #[.int .i64 mn, .int .i64 mx, .int .i64 rt, .bool dn, .int .i64 idle, .int .i64 next, .slice A l.length c], .agg #[.int .i64 now, .slice A0 body.length c0], .slice A1 ch.length c1] w fun e w' => e = .returned (.bool true) ∧ Below w.heap.size w w' := by
  have hu26 := Try.underlying26
  have hu39 := Try.underlying39
  have HR := Hd.mk hr
  have HR0 := Hd.mk hr0
  have HR1 := Hd.mk hr1
  have HC1 : Hd ((ints .i64).V w (fun k => k < w.heap.size) (.slice A1 ch.length c1) ch) := ⟨(Kd.V.bound ⟨A1, c1, rfl, hc1, hr1.fp⟩).mono (fun k hk => hk.2)⟩
  clear hr hr0 hr1
  obtain ⟨R, hR⟩ : ∃ R, R = sendF mn mx rt dn idle next l now body ch := ⟨_, rfl⟩
  have HRR := Hd.mk hR
  clear hR
  rcases R with ⟨⟨r0, r1, r2, r3, r4, r5, rl⟩, rc, re⟩
  have HB0 : Hd (Below w.heap.size w w) := ⟨Below.refl _ _⟩
  have hcase : (fewF l = false ∨ 100 < body.length ∨ 20 < ch.length) ∨ (fewF l = true ∧ body.length ≤ 100 ∧ ch.length ≤ 20) := by
    rcases fewF l with _ | _
    · exact .inl (.inl rfl)
    · by_cases h1 : 100 < body.length
      · exact .inl (.inr (.inl h1))
      · by_cases h2 : 20 < ch.length
        · exact .inl (.inr (.inr h2))
        · exact .inr ⟨rfl, by omega, by omega⟩
  obtain ⟨fb, hfb⟩ : ∃ b, b = fewF l := ⟨_, rfl⟩
  have HFB := Hd.mk hfb
  rw [← hfb] at hcase
  clear hfb
  go_enter Try.func4, Try.ntmps4
  go_wp2_with fail
  refine calls_abs (fun W1 => Hd (Blk W1 w.heap.size 26 #[.int .i64 mn, .int .i64 mx, .int .i64 rt, .bool dn, .int .i64 idle, .int .i64 next, .slice A l.length c]) ∧ Hd (Blk W1 (w.heap.size + 1) 39 #[.int .i64 now, .slice A0 body.length c0]) ∧ Hd (Below w.heap.size w W1) ∧ W1.heap.size = w.heap.size + 2) ⟨⟨?_⟩, ⟨?_⟩, ⟨?_⟩, ?_⟩ ?_
  · repeat (first | (with_reducible refine Blk.newE ?_; first | omega | (simp only [World.size_alloc, World.size_setCell, World.size_drew]; omega) | (simp; done)) | with_reducible refine Blk.alloc ?_ _ | with_reducible refine Blk.drew ?_ | with_reducible refine Blk.far ?_ (by dsimp only; omega) _)
  · repeat (first | (with_reducible refine Blk.newE ?_; first | omega | (simp only [World.size_alloc, World.size_setCell, World.size_drew]; omega) | (simp; done)) | with_reducible refine Blk.alloc ?_ _ | with_reducible refine Blk.drew ?_ | with_reducible refine Blk.far ?_ (by dsimp only; omega) _)
  · repeat (first | with_reducible exact HB0.out | with_reducible refine Below.alloc ?_ (by first | omega | (simp only [World.size_alloc, World.size_setCell, World.size_drew]; omega) | (simp; done)) _ | with_reducible refine Below.drew ?_ | with_reducible refine Below.setCell ?_ (by dsimp only; omega) _)
  · first | omega | (simp only [World.size_alloc, World.size_setCell, World.size_drew]; omega) | (simp; done)
  clear HB0
  rintro W1 ⟨HQ, HX, HB, hzW1⟩
  refine (few_calls mn mx rt dn idle next A c l _ (HR.out.below HB.out) hc).mono ?_
  rw [← HFB.out]
  rintro e w1 ⟨rfl, hb⟩
  replace HB := Hd.mk (bel_step HB.out hb (by omega))
  replace HQ := Hd.mk (HQ.out.below hb)
  replace HX := Hd.mk (HX.out.below hb)
  have hz1 := hb.size
  clear hb
  obtain ⟨q0, q1, q2, q3, q4, q5, q6, q7, q8, q9, q10, q11, q12, q13⟩ := HQ.out.f7
  obtain ⟨x0, x1, x2, x3⟩ := HX.out.f2
  rcases hcase with h1 | ⟨h1, h2, h3⟩
  · rcases fb with _ | _
    · clear h1
      go_wp2_with fail
      refine (awake_calls _).mono ?_
      rintro e w2 ⟨rfl, hb⟩
      replace HB := Hd.mk (bel_step HB.out hb (by omega))
      clear hb HQ HX q0 q1 q2 q3 q4 q5 q6 q7 q8 q9 q10 q11 q12 q13 x0 x1 x2 x3
      go_wp2
      go_ret
      exact ⟨rfl, HB.out⟩
    · by_cases h2 : 100 < body.length
      · have g1 : decide ((body.length : Int) > 100) = true := decide_eq_true (by omega)
        clear h1
        go_wp2_with fail
        refine (awake_calls _).mono ?_
        rintro e w2 ⟨rfl, hb⟩
        replace HB := Hd.mk (bel_step HB.out hb (by omega))
        clear hb HQ HX q0 q1 q2 q3 q4 q5 q6 q7 q8 q9 q10 q11 q12 q13 x0 x1 x2 x3
        go_wp2
        go_ret
        exact ⟨rfl, HB.out⟩
      · have h3 : 20 < ch.length := by
          rcases h1 with h1 | h1 | h1
          · cases h1
          · exact absurd h1 h2
          · exact h1
        have g1 : decide ((body.length : Int) > 100) = false := decide_eq_false (by omega)
        have g2 : decide ((ch.length : Int) > 20) = true := decide_eq_true (by omega)
        clear h1
        go_wp2_with fail
        refine (awake_calls _).mono ?_
        rintro e w2 ⟨rfl, hb⟩
        replace HB := Hd.mk (bel_step HB.out hb (by omega))
        clear hb HQ HX q0 q1 q2 q3 q4 q5 q6 q7 q8 q9 q10 q11 q12 q13 x0 x1 x2 x3
        go_wp2
        go_ret
        exact ⟨rfl, HB.out⟩
  · subst h1
    have g1 : decide ((body.length : Int) > 100) = false := decide_eq_false (by omega)
    have g2 : decide ((ch.length : Int) > 20) = false := decide_eq_false (by omega)
    have hch : ch.length ≤ 1048576 := by omega
    go_wp2_with fail
    refine (send_calls mn mx rt dn idle next A c l now A0 c0 body A1 c1 ch _ (HR.out.below HB.out) hc (HR0.out.below HB.out) hc0 (HR1.out.below HB.out) hc1 hch).mono ?_
    rw [← HRR.out]
    rintro e w2 h
    obtain ⟨v, u, rfl, hv, hu, hb⟩ := h
    dsimp only at hv hu ⊢
    obtain ⟨A2, c2, rfl, hc2, -⟩ := hv.reads
    obtain ⟨A3, c3, rfl, hc3, -⟩ := hu.reads
    replace HB := Hd.mk (bel_step HB.out hb (by omega))
    replace HQ := Hd.mk (HQ.out.below hb)
    replace HX := Hd.mk (HX.out.below hb)
    have HV2 := Hd.mk hv.bound
    have HP2 := Hd.mk hu.bound
    have hz2 := hb.size
    clear hb hv hu q0 q1 q2 q3 q4 q5 q6 q7 q8 q9 q10 q11 q12 q13 x0 x1 x2 x3
    obtain ⟨q0, q1, q2, q3, q4, q5, q6, q7, q8, q9, q10, q11, q12, q13⟩ := HQ.out.f7
    obtain ⟨x0, x1, x2, x3⟩ := HX.out.f2
    have qa0 := keepA q0 (.cells #[.int .i64 r0, .int .i64 r1, .int .i64 r2, .bool r3, .int .i64 r4, .int .i64 r5, .slice A2 rl.length c2] 26)
    have qa1 := keepA q1 (.cells #[.int .i64 r0, .int .i64 r1, .int .i64 r2, .bool r3, .int .i64 r4, .int .i64 r5, .slice A2 rl.length c2] 26)
    have qa2 := keepA q2 (.cells #[.int .i64 r0, .int .i64 r1, .int .i64 r2, .bool r3, .int .i64 r4, .int .i64 r5, .slice A2 rl.length c2] 26)
    have qa3 := keepA q3 (.cells #[.int .i64 r0, .int .i64 r1, .int .i64 r2, .bool r3, .int .i64 r4, .int .i64 r5, .slice A2 rl.length c2] 26)
    have qa4 := keepA q4 (.cells #[.int .i64 r0, .int .i64 r1, .int .i64 r2, .bool r3, .int .i64 r4, .int .i64 r5, .slice A2 rl.length c2] 26)
    have qa5 := keepA q5 (.cells #[.int .i64 r0, .int .i64 r1, .int .i64 r2, .bool r3, .int .i64 r4, .int .i64 r5, .slice A2 rl.length c2] 26)
    have qa6 := keepA q6 (.cells #[.int .i64 r0, .int .i64 r1, .int .i64 r2, .bool r3, .int .i64 r4, .int .i64 r5, .slice A2 rl.length c2] 26)
    have xa0 := keepA x0 (.cells #[.int .i64 r0, .int .i64 r1, .int .i64 r2, .bool r3, .int .i64 r4, .int .i64 r5, .slice A2 rl.length c2] 26)
    have xa1 := keepA x1 (.cells #[.int .i64 r0, .int .i64 r1, .int .i64 r2, .bool r3, .int .i64 r4, .int .i64 r5, .slice A2 rl.length c2] 26)
    go_wp2_with fail
    refine calls_abs (fun W3 => Hd (Blk W3 w2.heap.size 26 #[.int .i64 r0, .int .i64 r1, .int .i64 r2, .bool r3, .int .i64 r4, .int .i64 r5, .slice A2 rl.length c2]) ∧ Hd (fls.V W3 (fun k => w1.heap.size ≤ k ∧ k < w2.heap.size) (.slice A2 rl.length c2) rl) ∧ Hd ((ints .i64).V W3 (fun k => w1.heap.size ≤ k ∧ k < w2.heap.size) (.slice A3 rc.length c3) rc) ∧ Hd (Below w.heap.size w W3) ∧ W3.heap.size = w2.heap.size + 1) ⟨⟨?_⟩, ⟨?_⟩, ⟨?_⟩, ⟨?_⟩, ?_⟩ ?_
    · repeat (first | with_reducible exact HQ.out | (with_reducible refine Blk.newE ?_; first | omega | (simp only [World.size_alloc, World.size_setCell, World.size_drew]; omega) | (simp; done)) | with_reducible refine Blk.alloc ?_ _ | with_reducible refine Blk.drew ?_ | with_reducible refine Blk.far ?_ (by dsimp only; omega) _)
    · repeat (first | with_reducible exact HV2.out | with_reducible refine Kd.V.alloc ?_ _ | with_reducible refine Kd.V.drew ?_ | with_reducible refine Kd.V.far ?_ (fun j hj => by dsimp only at hj ⊢; omega) _)
    · repeat (first | with_reducible exact HP2.out | with_reducible refine Kd.V.alloc ?_ _ | with_reducible refine Kd.V.drew ?_ | with_reducible refine Kd.V.far ?_ (fun j hj => by dsimp only at hj ⊢; omega) _)
    · repeat (first | with_reducible exact HB.out | with_reducible refine Below.alloc ?_ (by first | omega | (simp only [World.size_alloc, World.size_setCell, World.size_drew]; omega) | (simp; done)) _ | with_reducible refine Below.drew ?_ | with_reducible refine Below.setCell ?_ (by dsimp only; omega) _)
    · first | omega | (simp only [World.size_alloc, World.size_setCell, World.size_drew]; omega) | (simp; done)
    clear HB HQ HX HV2 HP2 xa0 xa1 qa0 qa1 qa2 qa3 qa4 qa5 qa6 q0 q1 q2 q3 q4 q5 q6 q7 q8 q9 q10 q11 q12 q13 x0 x1 x2 x3
    rintro W3 ⟨HQ, HV2, HP2, HB, hzW3⟩
    refine (refSend_calls mn mx rt dn idle next A c l now A0 c0 body A1 c1 ch _ _ (HR.out.below HB.out) hc (HR0.out.below HB.out) hc0 (HC1.out.below HB.out) hch).mono ?_
    rw [← HRR.out]
    rintro e w4 h
    obtain ⟨v, u, rfl, hv, hu, hb⟩ := h
    dsimp only at hv hu ⊢
    obtain ⟨A4, c4, rfl, hc4, -⟩ := hv.reads
    obtain ⟨A5, c5, rfl, hc5, -⟩ := hu.reads
    replace HB := Hd.mk (bel_step HB.out hb (by omega))
    replace HQ := Hd.mk (HQ.out.below hb)
    replace HV2 := Hd.mk (HV2.out.below hb)
    replace HP2 := Hd.mk (HP2.out.below hb)
    have HV4 := Hd.mk hv.bound
    have HP4 := Hd.mk hu.bound
    have hz4 := hb.size
    clear hb hv hu
    go_wp2_with fail
    refine calls_abs (fun W5 => Hd (Blk W5 w2.heap.size 26 #[.int .i64 r0, .int .i64 r1, .int .i64 r2, .bool r3, .int .i64 r4, .int .i64 r5, .slice A2 rl.length c2]) ∧ Hd (Blk W5 w4.heap.size 26 #[.int .i64 r0, .int .i64 r1, .int .i64 r2, .bool r3, .int .i64 r4, .int .i64 r5, .slice A4 rl.length c4]) ∧ Hd (fls.C W5 A2 rl) ∧ Hd (fls.C W5 A4 rl) ∧ Hd ((ints .i64).C W5 A3 rc) ∧ Hd ((ints .i64).C W5 A5 rc) ∧ Hd (Below w.heap.size w W5) ∧ W5.heap.size = w4.heap.size + 1) ⟨⟨?_⟩, ⟨?_⟩, ⟨?_⟩, ⟨?_⟩, ⟨?_⟩, ⟨?_⟩, ⟨?_⟩, ?_⟩ ?_
    · repeat (first | with_reducible exact HQ.out | (with_reducible refine Blk.newE ?_; first | omega | (simp only [World.size_alloc, World.size_setCell, World.size_drew]; omega) | (simp; done)) | with_reducible refine Blk.alloc ?_ _ | with_reducible refine Blk.drew ?_ | with_reducible refine Blk.far ?_ (by dsimp only; omega) _)
    · repeat (first | with_reducible exact HQ.out | (with_reducible refine Blk.newE ?_; first | omega | (simp only [World.size_alloc, World.size_setCell, World.size_drew]; omega) | (simp; done)) | with_reducible refine Blk.alloc ?_ _ | with_reducible refine Blk.drew ?_ | with_reducible refine Blk.far ?_ (by dsimp only; omega) _)
    · exact (HV2.out.alloc _).C
    · exact (HV4.out.alloc _).C
    · exact (HP2.out.alloc _).C
    · exact (HP4.out.alloc _).C
    · repeat (first | with_reducible exact HB.out | with_reducible refine Below.alloc ?_ (by first | omega | (simp only [World.size_alloc, World.size_setCell, World.size_drew]; omega) | (simp; done)) _ | with_reducible refine Below.drew ?_ | with_reducible refine Below.setCell ?_ (by dsimp only; omega) _)
    · first | omega | (simp only [World.size_alloc, World.size_setCell, World.size_drew]; omega) | (simp; done)
    clear HB HQ HV2 HP2 HV4 HP4
    rintro W5 ⟨HQ, HY, HV2, HV4, HP2, HP4, HB, hzW5⟩
    refine (awake_calls _).mono ?_
    rintro e w6 ⟨rfl, hb⟩
    replace HB := Hd.mk (bel_step HB.out hb (by omega))
    replace HQ := Hd.mk (HQ.out.below hb)
    replace HY := Hd.mk (HY.out.below hb)
    replace HV2 := Hd.mk (HV2.out.below hb)
    replace HV4 := Hd.mk (HV4.out.below hb)
    replace HP2 := Hd.mk (HP2.out.below hb)
    replace HP4 := Hd.mk (HP4.out.below hb)
    have hz6 := hb.size
    clear hb
    obtain ⟨q0, q1, q2, q3, q4, q5, q6, q7, q8, q9, q10, q11, q12, q13⟩ := HQ.out.f7
    obtain ⟨y0, y1, y2, y3, y4, y5, y6, y7, y8, y9, y10, y11, y12, y13⟩ := HY.out.f7
    go_wp2_with fail
    refine (same_calls r0 r1 r2 r3 r4 r5 rl A2 A4 c2 c4 _ HV2.out HV4.out).mono ?_
    rintro e w7 ⟨rfl, hb⟩
    replace HB := Hd.mk (bel_step HB.out hb (by omega))
    replace HP2 := Hd.mk (HP2.out.below hb)
    replace HP4 := Hd.mk (HP4.out.below hb)
    have hz7 := hb.size
    clear hb HV2 HV4 HQ HY q0 q1 q2 q3 q4 q5 q6 q7 q8 q9 q10 q11 q12 q13 y0 y1 y2 y3 y4 y5 y6 y7 y8 y9 y10 y11 y12 y13
    go_wp2_with fail
    refine (sameInts_calls rc A3 A5 c3 c5 _ HP2.out HP4.out).mono ?_
    rintro e w8 ⟨rfl, hb⟩
    replace HB := Hd.mk (bel_step HB.out hb (by omega))
    clear hb HP2 HP4
    go_wp2
    go_ret
    exact ⟨by simp, HB.out⟩
end Go.Proofs.Ytkgkiencikmhfaa.B
