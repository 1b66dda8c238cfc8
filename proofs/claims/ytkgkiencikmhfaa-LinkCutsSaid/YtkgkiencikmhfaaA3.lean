/- What this text holds: the walk of the law LinkChecks. -/
import Derived.Test.YtkgkiencikmhfaaA1
set_option linter.unusedVariables false
set_option linter.unusedSimpArgs false
namespace Go.Proofs.Ytkgkiencikmhfaa.B
open Go.RowKit

theorem Blk.c7 {w : World} {g T : Nat} {x0 x1 x2 x3 x4 x5 x6 : Value} (h : Blk w g T #[x0, x1, x2, x3, x4, x5, x6]) : w.cell? ⟨g, 0, none⟩ = some x0 ∧ w.cell? ⟨g, 1, none⟩ = some x1 ∧ w.cell? ⟨g, 2, none⟩ = some x2 ∧ w.cell? ⟨g, 3, none⟩ = some x3 ∧ w.cell? ⟨g, 4, none⟩ = some x4 ∧ w.cell? ⟨g, 5, none⟩ = some x5 ∧ w.cell? ⟨g, 6, none⟩ = some x6 :=
  ⟨h.cell 0 rfl, h.cell 1 rfl, h.cell 2 rfl, h.cell 3 rfl, h.cell 4 rfl, h.cell 5 rfl, h.cell 6 rfl⟩

set_option maxRecDepth 100000 in
set_option maxHeartbeats 4000000 in
theorem lawChecks_calls (mn mx rt : Int) (dn : Bool) (idle next : Int) (A : Option Addr) (c : Nat) (l : List Fl) (w : World) (hr : fls.C w A l) (hc : l.length ≤ c) :
    Calls Try.prog 3 #[.agg #[.int .i64 mn, .int .i64 mx, .int .i64 rt, .bool dn, .int .i64 idle, .int .i64 next, .slice A l.length c]] w fun e w' => e = .returned (.bool true) ∧ Below w.heap.size w w' := by
  have hu26 := Try.underlying26
  have hu23 := Try.underlying23
  have HR := Hd.mk hr
  clear hr
  obtain ⟨N, hN⟩ : ∃ N, N = newF mn mx rt := ⟨_, rfl⟩
  have HN := Hd.mk hN
  clear hN
  obtain ⟨er, her⟩ : ∃ er, er = chkL mn mx rt dn idle next l := ⟨_, rfl⟩
  have HER := Hd.mk her
  clear her
  have HB0 : Hd (Below w.heap.size w w) := ⟨Below.refl _ _⟩
  rcases N with ⟨⟨a0, a1, a2, a3, a4, a5, al⟩, ae⟩
  rcases hf : fewF l with _ | _
  all_goals
    have HF := Hd.mk hf
    clear hf
    go_enter Try.func3, Try.ntmps3
    go_wp2_with fail
    refine calls_abs (fun W1 => Hd (Blk W1 w.heap.size 26 #[.int .i64 mn, .int .i64 mx, .int .i64 rt, .bool dn, .int .i64 idle, .int .i64 next, .slice A l.length c]) ∧ Hd (Below w.heap.size w W1) ∧ W1.heap.size = w.heap.size + 1) ⟨⟨?_⟩, ⟨?_⟩, ?_⟩ ?_
    · repeat (first | (with_reducible refine Blk.newE ?_; first | omega | (simp only [World.size_alloc, World.size_setCell, World.size_drew]; omega) | (simp; done)) | with_reducible refine Blk.alloc ?_ _ | with_reducible refine Blk.drew ?_ | with_reducible refine Blk.far ?_ (by dsimp only; omega) _)
    · repeat (first | with_reducible exact HB0.out | with_reducible refine Below.alloc ?_ (by first | omega | (simp only [World.size_alloc, World.size_setCell, World.size_drew]; omega) | (simp; done)) _ | with_reducible refine Below.drew ?_ | with_reducible refine Below.setCell ?_ (by dsimp only; omega) _)
    · first | omega | (simp only [World.size_alloc, World.size_setCell, World.size_drew]; omega) | (simp; done)
    clear HB0
    rintro W1 ⟨HQ, HB, hzW1⟩
    refine (few_calls mn mx rt dn idle next A c l _ (HR.out.below HB.out) hc).mono ?_
    rw [HF.out]
    rintro e w1 ⟨rfl, hb⟩
    replace HB := Hd.mk (bel_step HB.out hb (by omega))
    replace HQ := Hd.mk (HQ.out.below hb)
    have hz1 := hb.size
    clear hb
    obtain ⟨q0, q1, q2, q3, q4, q5, q6, q7, q8, q9, q10, q11, q12, q13⟩ := HQ.out.f7
    go_wp2_with fail
  · refine (awake_calls _).mono ?_
    rintro e w2 ⟨rfl, hb⟩
    replace HB := Hd.mk (bel_step HB.out hb (by omega))
    clear hb q0 q1 q2 q3 q4 q5 q6 q7 q8 q9 q10 q11 q12 q13 HQ
    go_wp2
    go_ret
    exact ⟨rfl, HB.out⟩
  · refine (new_calls mn mx rt _).mono ?_
    rintro e w2 ⟨he, hb⟩
    rw [← HN.out] at he
    dsimp only at he
    subst he
    replace HB := Hd.mk (bel_step HB.out hb (by omega))
    replace HQ := Hd.mk (HQ.out.below hb)
    have hz2 := hb.size
    clear hb q0 q1 q2 q3 q4 q5 q6 q7 q8 q9 q10 q11 q12 q13
    obtain ⟨q0, q1, q2, q3, q4, q5, q6, q7, q8, q9, q10, q11, q12, q13⟩ := HQ.out.f7
    have qa0 := keepA q0 (.cells #[.int .i64 a0, .int .i64 a1, .int .i64 a2, .bool a3, .int .i64 a4, .int .i64 a5, .slice none 0 0] 26); have qa1 := keepA q1 (.cells #[.int .i64 a0, .int .i64 a1, .int .i64 a2, .bool a3, .int .i64 a4, .int .i64 a5, .slice none 0 0] 26); have qa2 := keepA q2 (.cells #[.int .i64 a0, .int .i64 a1, .int .i64 a2, .bool a3, .int .i64 a4, .int .i64 a5, .slice none 0 0] 26)
    go_wp2_with fail
    refine calls_abs (fun W3 => Hd (Blk W3 w.heap.size 26 #[.int .i64 mn, .int .i64 mx, .int .i64 rt, .bool dn, .int .i64 idle, .int .i64 next, .slice A l.length c]) ∧ Hd (Blk W3 w2.heap.size 26 #[.int .i64 a0, .int .i64 a1, .int .i64 a2, .bool a3, .int .i64 a4, .int .i64 a5, .slice none 0 0]) ∧ Hd (Below w.heap.size w W3) ∧ W3.heap.size = w2.heap.size + 1) ⟨⟨?_⟩, ⟨?_⟩, ⟨?_⟩, ?_⟩ ?_
    · repeat (first | with_reducible exact HQ.out | (with_reducible refine Blk.newE ?_; first | omega | (simp only [World.size_alloc, World.size_setCell, World.size_drew]; omega) | (simp; done)) | with_reducible refine Blk.alloc ?_ _ | with_reducible refine Blk.drew ?_ | with_reducible refine Blk.far ?_ (by dsimp only; omega) _)
    · repeat (first | with_reducible exact HQ.out | (with_reducible refine Blk.newE ?_; first | omega | (simp only [World.size_alloc, World.size_setCell, World.size_drew]; omega) | (simp; done)) | with_reducible refine Blk.alloc ?_ _ | with_reducible refine Blk.drew ?_ | with_reducible refine Blk.far ?_ (by dsimp only; omega) _)
    · repeat (first | with_reducible exact HB.out | with_reducible refine Below.alloc ?_ (by first | omega | (simp only [World.size_alloc, World.size_setCell, World.size_drew]; omega) | (simp; done)) _ | with_reducible refine Below.drew ?_ | with_reducible refine Below.setCell ?_ (by dsimp only; omega) _)
    · first | omega | (simp only [World.size_alloc, World.size_setCell, World.size_drew]; omega) | (simp; done)
    clear HB HQ qa0 qa1 qa2 q0 q1 q2 q3 q4 q5 q6 q7 q8 q9 q10 q11 q12 q13
    rintro W3 ⟨HQ, HX, HB, hzW3⟩
    refine (refNew_calls mn mx rt _).mono ?_
    rintro e w4 ⟨he, hb⟩
    rw [← HN.out] at he
    dsimp only at he
    subst he
    replace HB := Hd.mk (bel_step HB.out hb (by omega))
    replace HQ := Hd.mk (HQ.out.below hb)
    replace HX := Hd.mk (HX.out.below hb)
    have hz4 := hb.size
    clear hb
    go_wp2_with fail
    refine wp_abs (fun W5 => Hd (Blk W5 w.heap.size 26 #[.int .i64 mn, .int .i64 mx, .int .i64 rt, .bool dn, .int .i64 idle, .int .i64 next, .slice A l.length c]) ∧ Hd (Blk W5 w2.heap.size 26 #[.int .i64 a0, .int .i64 a1, .int .i64 a2, .bool a3, .int .i64 a4, .int .i64 a5, .slice none 0 0]) ∧ Hd (Blk W5 w4.heap.size 26 #[.int .i64 a0, .int .i64 a1, .int .i64 a2, .bool a3, .int .i64 a4, .int .i64 a5, .slice none 0 0]) ∧ Hd (Below w.heap.size w W5) ∧ W5.heap.size = w4.heap.size + 1) ⟨⟨?_⟩, ⟨?_⟩, ⟨?_⟩, ⟨?_⟩, ?_⟩ ?_
    · repeat (first | with_reducible exact HQ.out | (with_reducible refine Blk.newE ?_; first | omega | (simp only [World.size_alloc, World.size_setCell, World.size_drew]; omega) | (simp; done)) | with_reducible refine Blk.alloc ?_ _ | with_reducible refine Blk.drew ?_ | with_reducible refine Blk.far ?_ (by dsimp only; omega) _)
    · repeat (first | with_reducible exact HX.out | (with_reducible refine Blk.newE ?_; first | omega | (simp only [World.size_alloc, World.size_setCell, World.size_drew]; omega) | (simp; done)) | with_reducible refine Blk.alloc ?_ _ | with_reducible refine Blk.drew ?_ | with_reducible refine Blk.far ?_ (by dsimp only; omega) _)
    · repeat (first | with_reducible exact HQ.out | (with_reducible refine Blk.newE ?_; first | omega | (simp only [World.size_alloc, World.size_setCell, World.size_drew]; omega) | (simp; done)) | with_reducible refine Blk.alloc ?_ _ | with_reducible refine Blk.drew ?_ | with_reducible refine Blk.far ?_ (by dsimp only; omega) _)
    · repeat (first | with_reducible exact HB.out | with_reducible refine Below.alloc ?_ (by first | omega | (simp only [World.size_alloc, World.size_setCell, World.size_drew]; omega) | (simp; done)) _ | with_reducible refine Below.drew ?_ | with_reducible refine Below.setCell ?_ (by dsimp only; omega) _)
    · first | omega | (simp only [World.size_alloc, World.size_setCell, World.size_drew]; omega) | (simp; done)
    clear HB HQ HX
    rintro W5 ⟨HQ, HX, HY, HB, hzW5⟩
    go_region_held3 (fun W => (W.cell? ⟨w.heap.size, 0, none⟩ = some (.int .i64 mn) ∧ W.cell? ⟨w.heap.size, 1, none⟩ = some (.int .i64 mx) ∧ W.cell? ⟨w.heap.size, 2, none⟩ = some (.int .i64 rt) ∧ W.cell? ⟨w.heap.size, 3, none⟩ = some (.bool dn) ∧ W.cell? ⟨w.heap.size, 4, none⟩ = some (.int .i64 idle) ∧ W.cell? ⟨w.heap.size, 5, none⟩ = some (.int .i64 next) ∧ W.cell? ⟨w.heap.size, 6, none⟩ = some (.slice A l.length c)) ∧ (W.cell? ⟨w2.heap.size, 0, none⟩ = some (.int .i64 a0) ∧ W.cell? ⟨w2.heap.size, 1, none⟩ = some (.int .i64 a1) ∧ W.cell? ⟨w2.heap.size, 2, none⟩ = some (.int .i64 a2) ∧ W.cell? ⟨w2.heap.size, 3, none⟩ = some (.bool a3) ∧ W.cell? ⟨w2.heap.size, 4, none⟩ = some (.int .i64 a4) ∧ W.cell? ⟨w2.heap.size, 5, none⟩ = some (.int .i64 a5) ∧ W.cell? ⟨w2.heap.size, 6, none⟩ = some (.slice none 0 0)) ∧ (W.cell? ⟨w4.heap.size, 0, none⟩ = some (.int .i64 a0) ∧ W.cell? ⟨w4.heap.size, 1, none⟩ = some (.int .i64 a1) ∧ W.cell? ⟨w4.heap.size, 2, none⟩ = some (.int .i64 a2) ∧ W.cell? ⟨w4.heap.size, 3, none⟩ = some (.bool a3) ∧ W.cell? ⟨w4.heap.size, 4, none⟩ = some (.int .i64 a4) ∧ W.cell? ⟨w4.heap.size, 5, none⟩ = some (.int .i64 a5) ∧ W.cell? ⟨w4.heap.size, 6, none⟩ = some (.slice none 0 0))) (first | with_reducible exact ⟨(HQ.out.drew).c7, (HX.out.drew).c7, (HY.out.drew).c7⟩ | with_reducible exact ⟨(HQa.out).c7, (HXa.out).c7, (HYa.out).c7⟩ | with_reducible exact ⟨(HQs.out).c7, (HXs.out).c7, (HYs.out).c7⟩ | with_reducible exact ⟨(HQc.out).c7, (HXc.out).c7, (HYc.out).c7⟩ | with_reducible exact ⟨(HQr.out).c7, (HXr.out).c7, (HYr.out).c7⟩ | with_reducible exact ⟨(HQd.out).c7, (HXd.out).c7, (HYd.out).c7⟩)
      (first
        | (go_at_call 12; refine (awake_calls _).mono ?_; rintro e wa ⟨rfl, hb⟩; have HQa := Hd.mk (HQ.out.drew.below hb); have HXa := Hd.mk (HX.out.drew.below hb); have HYa := Hd.mk (HY.out.drew.below hb); have HBa := Hd.mk (bel_step HB.out.drew hb (by exact HB.out.drew.size)); clear hb)
        | (go_at_call 15; refine (same_calls a0 a1 a2 a3 a4 a5 [] none none 0 0 _ Kd.C.nil Kd.C.nil).mono ?_; rintro e ws ⟨rfl, hb⟩; have HQs := Hd.mk (HQa.out.below hb); have HXs := Hd.mk (HXa.out.below hb); have HYs := Hd.mk (HYa.out.below hb); have HBs := Hd.mk (bel_step HBa.out hb (by exact HBa.out.size)); clear hb)
        | (go_at_call 16; with_reducible refine (check_calls mn mx rt dn idle next A c l wr (HR.out.below HBr.out) hc).mono ?_; rw [← HER.out]; rintro e wd ⟨rfl, hb⟩; have HQd := Hd.mk (HQr.out.below hb); have HXd := Hd.mk (HXr.out.below hb); have HYd := Hd.mk (HYr.out.below hb); have HBd := Hd.mk (bel_step HBr.out hb (by exact HBr.out.size)); clear hb)
        | (go_at_call 17; with_reducible refine (refCheck_calls mn mx rt dn idle next A c l wc (HR.out.below HBc.out) hc).mono ?_; rw [← HER.out]; rintro e wd ⟨rfl, hb⟩; have HQd := Hd.mk (HQc.out.below hb); have HXd := Hd.mk (HXc.out.below hb); have HYd := Hd.mk (HYc.out.below hb); have HBd := Hd.mk (bel_step HBc.out hb (by exact HBc.out.size)); clear hb)
        | (go_at_call 16; refine (check_calls mn mx rt dn idle next A c l ws (HR.out.below HBs.out) hc).mono ?_; rw [← HER.out]; rintro e wc ⟨rfl, hb⟩; have HQc := Hd.mk (HQs.out.below hb); have HXc := Hd.mk (HXs.out.below hb); have HYc := Hd.mk (HYs.out.below hb); have HBc := Hd.mk (bel_step HBs.out hb (by exact HBs.out.size)); clear hb)
        | (go_at_call 17; refine (refCheck_calls mn mx rt dn idle next A c l ws (HR.out.below HBs.out) hc).mono ?_; rw [← HER.out]; rintro e wr ⟨rfl, hb⟩; have HQr := Hd.mk (HQs.out.below hb); have HXr := Hd.mk (HXs.out.below hb); have HYr := Hd.mk (HYs.out.below hb); have HBr := Hd.mk (bel_step HBs.out hb (by exact HBs.out.size)); clear hb))
    all_goals
      go_wp2
      go_ret
      exact ⟨rfl, HBd.out⟩
end Go.Proofs.Ytkgkiencikmhfaa.B
