/- What this text holds: the walk of the law LinkCuts. -/
import Derived.Test.YtkgkiencikmhfaaB1
import Derived.Test.YtkgkiencikmhfaaP2
import Derived.Test.YtkgkiencikmhfaaA4
set_option linter.unusedVariables false
set_option linter.unusedSimpArgs false
namespace Go.Proofs.Ytkgkiencikmhfaa.B
open Go.RowKit

set_option maxRecDepth 100000 in
set_option maxHeartbeats 4000000 in
theorem lawCuts_calls (mn mx rt : Int) (A : Option Addr) (c : Nat) (sl : List (Int × Int)) (A1 : Option Addr) (c1 : Nat) (ch : List Int) (now : Int) (w : World)
    (hS : sts.C w A sl) (hc : sl.length ≤ c) (hr1 : (ints .i64).C w A1 ch) (hc1 : ch.length ≤ c1) (hst : ∀ x ∈ sl, 0 ≤ x.1 ∧ x.1 ≤ 255 ∧ 0 ≤ x.2 ∧ x.2 ≤ 255) (hn : 0 ≤ now ∧ now ≤ 65535) :
    Calls Try.prog 10 #[.agg #[.int .i64 mn, .int .i64 mx, .int .i64 rt, .slice A sl.length c, .slice A1 ch.length c1], .int .u16 now] w fun e w' => e = .returned (.bool true) ∧ Below w.heap.size w w' := by
  have hu26 := Try.underlying26
  have hu23 := Try.underlying23
  have hu49 := Try.underlying49
  have HS := Hd.mk hS
  have HR1 := Hd.mk hr1
  have HST := Hd.mk hst
  have HB0 : Hd (Below w.heap.size w w) := ⟨Below.refl _ _⟩
  clear hS hr1 hst
  have wN : IntKind.i64.wrap now = now := IntWalk.i64_in _ (by omega)
  rcases hf : fitB mn mx rt sl.length ch.length with _ | _
  all_goals
    have HF := Hd.mk hf
    clear hf
    go_enter Try.func10, Try.ntmps10
    go_wp2_with fail
    refine calls_abs (fun W1 => Hd (Blk W1 w.heap.size 49 #[.int .i64 mn, .int .i64 mx, .int .i64 rt, .slice A sl.length c, .slice A1 ch.length c1]) ∧ Hd (Below w.heap.size w W1) ∧ W1.heap.size = w.heap.size + 1) ⟨⟨?_⟩, ⟨?_⟩, ?_⟩ ?_
    · repeat (first | (with_reducible refine Blk.newE ?_; first | omega | (simp only [World.size_alloc, World.size_setCell, World.size_drew]; omega) | (simp; done)) | with_reducible refine Blk.alloc ?_ _ | with_reducible refine Blk.drew ?_ | with_reducible refine Blk.far ?_ (by dsimp only; omega) _)
    · repeat (first | with_reducible exact HB0.out | with_reducible refine Below.alloc ?_ (by first | omega | (simp only [World.size_alloc, World.size_setCell, World.size_drew]; omega) | (simp; done)) _ | with_reducible refine Below.drew ?_ | with_reducible refine Below.setCell ?_ (by dsimp only; omega) _)
    · first | omega | (simp only [World.size_alloc, World.size_setCell, World.size_drew]; omega) | (simp; done)
    clear HB0
    rintro W1 ⟨HX, HB, hzW1⟩
    refine (fit_calls mn mx rt A sl.length c A1 ch.length c1 _).mono ?_
    rw [HF.out]
    rintro e w1 ⟨rfl, hb⟩
    replace HB := Hd.mk (bel_step HB.out hb (by omega))
    replace HX := Hd.mk (HX.out.below hb)
    have hz1 := hb.size
    clear hb
    obtain ⟨x0, x1, x2, x3, x4, x5, x6, x7, x8, x9⟩ := HX.out.f5
    go_wp2_with fail
  · refine (awake_calls _).mono ?_
    rintro e w2 ⟨rfl, hb⟩
    replace HB := Hd.mk (bel_step HB.out hb (by omega))
    clear hb x0 x1 x2 x3 x4 x5 x6 x7 x8 x9 HX
    go_wp2
    go_ret
    exact ⟨rfl, HB.out⟩
  have hfit : 0 ≤ mn ∧ mn ≤ mx ∧ mx ≤ 100 ∧ 0 ≤ rt ∧ rt ≤ 100 ∧ sl.length ≤ 20 ∧ ch.length ≤ 100 := by have := HF.out; simpa [fitB] using this
  have HFIT : Hd (Fit mn mx rt sl ch) := ⟨⟨by omega, by omega, by omega, by omega, by omega, HST.out⟩⟩
  refine (run_calls mn mx rt A c sl A1 c1 ch _ (HS.out.below HB.out) hc (HR1.out.below HB.out) hc1 HFIT.out).mono ?_
  have hrb := rb_to HFIT.out sl.length (Nat.le_refl _)
  obtain ⟨S, hSS⟩ : ∃ S, S = rsTo mn mx rt ch sl sl.length := ⟨_, rfl⟩
  rw [← hSS] at hrb ⊢
  have HSS := Hd.mk hSS
  clear hSS
  obtain ⟨⟨g1, g2, g3, g4⟩, -, hid, hnx, hlen, hbody, hok, -, -⟩ := hrb
  have hchk := hok.chk (mn := mn) (mx := mx) (rt := rt) (idle := S.l.idle) (by omega) (by omega) (by omega) (by omega)
  rcases S with ⟨⟨l0, l1, l2, l3, idle, next, lf⟩, ts, is, cs, snow, rest⟩
  dsimp only at *
  subst g1 g2 g3 g4
  have hcut := chk_nil (mn := l0) (mx := l1) (rt := l2) (dn := true) (idle := idle) (next := next) (by omega) (by omega) (by omega)
  have C1 := Hd.mk (cut_1 hchk)
  have C2 := Hd.mk (cut_2 (now := now) hcut hn)
  have C3 := Hd.mk (cut_3 hcut)
  have C4 := Hd.mk (cut_4 (now := now) hcut hn)
  obtain ⟨en, he0, he1, c5⟩ := cut_5 (mn := l0) (mx := l1) (rt := l2) (next := next) (now := now) (by omega) (by omega) hn
  have C5 := Hd.mk c5
  have C6 := Hd.mk (cut_6 (mn := l0) (mx := l1) (rt := l2) (next := next) (en := en) (by omega) (by omega) ⟨he0, he1⟩)
  have HSM : Hd (Small lf) := ⟨⟨by omega, fun x hx => by have := hbody x hx; omega⟩⟩
  clear c5 hcut hchk hbody hok
  rintro e w2 h
  obtain ⟨v, u3, u4, u5, rfl, hv, -, -, -, hb⟩ := h
  dsimp only at hv ⊢
  obtain ⟨A2, c2, rfl, hc2, -⟩ := hv.reads
  replace HB := Hd.mk (bel_step HB.out hb (by omega))
  have HV := Hd.mk hv.bound
  have hz2 := hb.size
  clear hb hv HX x0 x1 x2 x3 x4 x5 x6 x7 x8 x9
  go_wp2_with fail
  refine calls_abs (fun W3 => Hd (Blk W3 w2.heap.size 26 #[.int .i64 l0, .int .i64 l1, .int .i64 l2, .bool false, .int .i64 idle, .int .i64 next, .slice A2 lf.length c2]) ∧ Hd (fls.C W3 A2 lf) ∧ Hd (Below w.heap.size w W3) ∧ W3.heap.size = w2.heap.size + 1) ⟨⟨?_⟩, ⟨?_⟩, ⟨?_⟩, ?_⟩ ?_
  · repeat (first | (with_reducible refine Blk.newE ?_; first | omega | (simp only [World.size_alloc, World.size_setCell, World.size_drew]; omega) | (simp; done)) | with_reducible refine Blk.alloc ?_ _ | with_reducible refine Blk.drew ?_ | with_reducible refine Blk.far ?_ (by dsimp only; omega) _)
  · exact (HV.out.alloc _).C
  · repeat (first | with_reducible exact HB.out | with_reducible refine Below.alloc ?_ (by first | omega | (simp only [World.size_alloc, World.size_setCell, World.size_drew]; omega) | (simp; done)) _ | with_reducible refine Below.drew ?_ | with_reducible refine Below.setCell ?_ (by dsimp only; omega) _)
  · first | omega | (simp only [World.size_alloc, World.size_setCell, World.size_drew]; omega) | (simp; done)
  clear HB HV
  rintro W3 ⟨HL, HV, HB, hzW3⟩
  refine (cut_calls l0 l1 l2 false idle next A2 c2 lf _ HV.out hc2 HSM.out).mono ?_
  rw [C1.out]
  rintro e w4 h
  obtain ⟨v, rfl, hv, hb⟩ := h
  dsimp only at hv ⊢
  obtain ⟨A4, c4, rfl, -, -⟩ := hv.reads
  replace HB := Hd.mk (bel_step HB.out hb (by omega))
  replace HL := Hd.mk (HL.out.below hb)
  have hz4 := hb.size
  clear hb hv HV
  obtain ⟨q0, q1, q2, q3, q4, q5, q6, q7, q8, q9, q10, q11, q12, q13⟩ := HL.out.f7
  go_wp2_with fail
  refine calls_abs (fun W5 => Hd (Blk W5 w2.heap.size 26 #[.int .i64 l0, .int .i64 l1, .int .i64 l2, .bool true, .int .i64 idle, .int .i64 next, .slice A4 0 c4]) ∧ Hd (Blk W5 w4.heap.size 5 #[.int .u8 9]) ∧ Hd (Blk W5 (w4.heap.size + 1) 3 #[.int .i64 2, .int .i64 1]) ∧ Hd (Below w.heap.size w W5) ∧ W5.heap.size = w4.heap.size + 2) ⟨⟨?_⟩, ⟨?_⟩, ⟨?_⟩, ⟨?_⟩, ?_⟩ ?_
  · repeat (first | with_reducible exact put7 HL.out | (with_reducible refine Blk.newE ?_; first | omega | (simp only [World.size_alloc, World.size_setCell, World.size_drew]; omega) | (simp; done)) | with_reducible refine Blk.alloc ?_ _ | with_reducible refine Blk.drew ?_ | with_reducible refine Blk.far ?_ (by dsimp only; omega) _)
  · repeat (first | with_reducible exact HL.out | (with_reducible refine Blk.newE ?_; first | omega | (simp only [World.size_alloc, World.size_setCell, World.size_drew]; omega) | (simp; done)) | with_reducible refine Blk.alloc ?_ _ | with_reducible refine Blk.drew ?_ | with_reducible refine Blk.far ?_ (by dsimp only; omega) _)
  · repeat (first | with_reducible exact HL.out | (with_reducible refine Blk.newE ?_; first | omega | (simp only [World.size_alloc, World.size_setCell, World.size_drew]; omega) | (simp; done)) | with_reducible refine Blk.alloc ?_ _ | with_reducible refine Blk.drew ?_ | with_reducible refine Blk.far ?_ (by dsimp only; omega) _)
  · repeat (first | with_reducible exact HB.out | with_reducible refine Below.alloc ?_ (by first | omega | (simp only [World.size_alloc, World.size_setCell, World.size_drew]; omega) | (simp; done)) _ | with_reducible refine Below.drew ?_ | with_reducible refine Below.setCell ?_ (by dsimp only; omega) _)
  · first | omega | (simp only [World.size_alloc, World.size_setCell, World.size_drew]; omega) | (simp; done)
  clear HB HL q0 q1 q2 q3 q4 q5 q6 q7 q8 q9 q10 q11 q12 q13
  rintro W5 ⟨HL, HN, HM, HB, hzW5⟩
  refine (send_calls l0 l1 l2 true idle next A4 c4 [] now (some ⟨w4.heap.size, 0, none⟩) 1 [9] (some ⟨w4.heap.size + 1, 0, none⟩) 2 [2, 1] _ Kd.C.nil (Nat.zero_le _) (ints_one HN.out) (by decide) (ints_two HM.out) (by decide) (by decide)).mono ?_
  rw [C2.out]
  rintro e w6 h
  obtain ⟨v, u, rfl, hv, hu, hb⟩ := h
  dsimp only at hv hu ⊢
  obtain ⟨A6, c6, rfl, -, -⟩ := hv.reads
  obtain ⟨A7, c7, rfl, hc7, -⟩ := hu.reads
  replace HB := Hd.mk (bel_step HB.out hb (by omega))
  replace HL := Hd.mk (HL.out.below hb)
  have HU := Hd.mk hu.bound
  have hz6 := hb.size
  clear hb hv hu HN HM
  go_wp2_with fail
  refine calls_abs (fun W7 => Hd (Blk W7 w2.heap.size 26 #[.int .i64 l0, .int .i64 l1, .int .i64 l2, .bool true, .int .i64 idle, .int .i64 next, .slice A4 0 c4]) ∧ Hd (Blk W7 w6.heap.size 26 #[.int .i64 l0, .int .i64 l1, .int .i64 l2, .bool true, .int .i64 idle, .int .i64 next, .slice A6 0 c6]) ∧ Hd ((ints .i64).V W7 (fun k => W5.heap.size ≤ k ∧ k < w6.heap.size) (.slice A7 [(2 : Int), 1].length c7) [2, 1]) ∧ Hd (Blk W7 (w6.heap.size + 1) 3 #[.int .i64 2, .int .i64 1]) ∧ Hd (Below w.heap.size w W7) ∧ W7.heap.size = w6.heap.size + 2) ⟨⟨?_⟩, ⟨?_⟩, ⟨?_⟩, ⟨?_⟩, ⟨?_⟩, ?_⟩ ?_
  · repeat (first | with_reducible exact HL.out | (with_reducible refine Blk.newE ?_; first | omega | (simp only [World.size_alloc, World.size_setCell, World.size_drew]; omega) | (simp; done)) | with_reducible refine Blk.alloc ?_ _ | with_reducible refine Blk.drew ?_ | with_reducible refine Blk.far ?_ (by dsimp only; omega) _)
  · repeat (first | with_reducible exact HL.out | (with_reducible refine Blk.newE ?_; first | omega | (simp only [World.size_alloc, World.size_setCell, World.size_drew]; omega) | (simp; done)) | with_reducible refine Blk.alloc ?_ _ | with_reducible refine Blk.drew ?_ | with_reducible refine Blk.far ?_ (by dsimp only; omega) _)
  · repeat (first | with_reducible exact HU.out | with_reducible refine Kd.V.alloc ?_ _ | with_reducible refine Kd.V.drew ?_ | with_reducible refine Kd.V.far ?_ (fun j hj => by dsimp only at hj ⊢; omega) _)
  · repeat (first | with_reducible exact HL.out | (with_reducible refine Blk.newE ?_; first | omega | (simp only [World.size_alloc, World.size_setCell, World.size_drew]; omega) | (simp; done)) | with_reducible refine Blk.alloc ?_ _ | with_reducible refine Blk.drew ?_ | with_reducible refine Blk.far ?_ (by dsimp only; omega) _)
  · repeat (first | with_reducible exact HB.out | with_reducible refine Below.alloc ?_ (by first | omega | (simp only [World.size_alloc, World.size_setCell, World.size_drew]; omega) | (simp; done)) _ | with_reducible refine Below.drew ?_ | with_reducible refine Below.setCell ?_ (by dsimp only; omega) _)
  · first | omega | (simp only [World.size_alloc, World.size_setCell, World.size_drew]; omega) | (simp; done)
  clear HB HL HU
  rintro W7 ⟨HL, HM, HU, HN, HB, hzW7⟩
  refine (sameInts_calls [2, 1] A7 (some ⟨w6.heap.size + 1, 0, none⟩) c7 2 _ HU.out.C (ints_two HN.out)).mono ?_
  rintro e w8 ⟨rfl, hb⟩
  replace HB := Hd.mk (bel_step HB.out hb (by omega))
  replace HL := Hd.mk (HL.out.below hb)
  replace HM := Hd.mk (HM.out.below hb)
  have hz8 := hb.size
  clear hb HU HN
  obtain ⟨q0, q1, q2, q3, q4, q5, q6, q7, q8, q9, q10, q11, q12, q13⟩ := HL.out.f7
  obtain ⟨m0, m1, m2, m3, m4, m5, m6, m7, m8, m9, m10, m11, m12, m13⟩ := HM.out.f7
  go_wp2_with fail
  refine (same_calls l0 l1 l2 true idle next [] A4 A6 c4 c6 _ Kd.C.nil Kd.C.nil).mono ?_
  rintro e w9 ⟨rfl, hb⟩
  replace HB := Hd.mk (bel_step HB.out hb (by omega))
  replace HM := Hd.mk (HM.out.below hb)
  have hz9 := hb.size
  clear hb HL q0 q1 q2 q3 q4 q5 q6 q7 q8 q9 q10 q11 q12 q13 m0 m1 m2 m3 m4 m5 m6 m7 m8 m9 m10 m11 m12 m13
  obtain ⟨m0, m1, m2, m3, m4, m5, m6, m7, m8, m9, m10, m11, m12, m13⟩ := HM.out.f7
  go_wp2_with fail
  refine (next_calls l0 l1 l2 true idle next A6 c6 [] _ Kd.C.nil (Nat.zero_le _)).mono ?_
  rw [C3.out]
  rintro e w10 ⟨rfl, hb⟩
  replace HB := Hd.mk (bel_step HB.out hb (by omega))
  replace HM := Hd.mk (HM.out.below hb)
  have hz10 := hb.size
  clear hb m0 m1 m2 m3 m4 m5 m6 m7 m8 m9 m10 m11 m12 m13
  obtain ⟨m0, m1, m2, m3, m4, m5, m6, m7, m8, m9, m10, m11, m12, m13⟩ := HM.out.f7
  go_wp2_with fail
  refine (restore_calls l0 l1 l2 true idle next A6 c6 [] now _ Kd.C.nil (Nat.zero_le _) ⟨by decide, by simp⟩).mono ?_
  rw [C4.out]
  rintro e w11 h
  obtain ⟨v, rfl, hv, hb⟩ := h
  dsimp only at hv ⊢
  obtain ⟨A8, c8, rfl, -, -⟩ := hv.reads
  replace HB := Hd.mk (bel_step HB.out hb (by omega))
  replace HM := Hd.mk (HM.out.below hb)
  have hz11 := hb.size
  clear hb hv m0 m1 m2 m3 m4 m5 m6 m7 m8 m9 m10 m11 m12 m13
  obtain ⟨m0, m1, m2, m3, m4, m5, m6, m7, m8, m9, m10, m11, m12, m13⟩ := HM.out.f7
  go_wp2_with fail
  refine calls_abs (fun W12 => Hd (Blk W12 w6.heap.size 26 #[.int .i64 l0, .int .i64 l1, .int .i64 l2, .bool false, .int .i64 now, .int .i64 next, .slice A8 0 c8]) ∧ Hd (Blk W12 w11.heap.size 5 #[.int .u8 9]) ∧ Hd (Below w.heap.size w W12) ∧ W12.heap.size = w11.heap.size + 1) ⟨⟨?_⟩, ⟨?_⟩, ⟨?_⟩, ?_⟩ ?_
  · repeat (first | with_reducible exact put7 HM.out | (with_reducible refine Blk.newE ?_; first | omega | (simp only [World.size_alloc, World.size_setCell, World.size_drew]; omega) | (simp; done)) | with_reducible refine Blk.alloc ?_ _ | with_reducible refine Blk.drew ?_ | with_reducible refine Blk.far ?_ (by dsimp only; omega) _)
  · repeat (first | with_reducible exact HM.out | (with_reducible refine Blk.newE ?_; first | omega | (simp only [World.size_alloc, World.size_setCell, World.size_drew]; omega) | (simp; done)) | with_reducible refine Blk.alloc ?_ _ | with_reducible refine Blk.drew ?_ | with_reducible refine Blk.far ?_ (by dsimp only; omega) _)
  · repeat (first | with_reducible exact HB.out | with_reducible refine Below.alloc ?_ (by first | omega | (simp only [World.size_alloc, World.size_setCell, World.size_drew]; omega) | (simp; done)) _ | with_reducible refine Below.drew ?_ | with_reducible refine Below.setCell ?_ (by dsimp only; omega) _)
  · first | omega | (simp only [World.size_alloc, World.size_setCell, World.size_drew]; omega) | (simp; done)
  clear HB HM m0 m1 m2 m3 m4 m5 m6 m7 m8 m9 m10 m11 m12 m13
  rintro W12 ⟨HM, HN, HB, hzW12⟩
  refine (send_calls l0 l1 l2 false now next A8 c8 [] now (some ⟨w11.heap.size, 0, none⟩) 1 [9] none 0 [] _ Kd.C.nil (Nat.zero_le _) (ints_one HN.out) (by decide) Kd.C.nil (by decide) (by decide)).mono ?_
  rw [C5.out]
  obtain ⟨F, hF⟩ : ∃ F, F = [(⟨en + l0, next, [9]⟩ : Fl)] := ⟨_, rfl⟩
  have hFs : Small F := by rw [hF]; exact ⟨by simp, fun x hx => by rw [List.mem_singleton.1 hx]; simp⟩
  have HFs := Hd.mk hFs
  rw [← hF] at C6 ⊢
  clear hF hFs
  rintro e w13 h
  obtain ⟨v, u, rfl, hv, hu, hb⟩ := h
  dsimp only at hv hu ⊢
  obtain ⟨A9, c9, rfl, hc9, -⟩ := hv.reads
  obtain ⟨A10, c10, rfl, -, -⟩ := hu.reads
  replace HB := Hd.mk (bel_step HB.out hb (by omega))
  replace HM := Hd.mk (HM.out.below hb)
  have HV := Hd.mk hv.bound
  have hz13 := hb.size
  clear hb hv hu HN
  go_wp2_with fail
  refine calls_abs (fun W14 => Hd (Blk W14 w6.heap.size 26 #[.int .i64 l0, .int .i64 l1, .int .i64 l2, .bool false, .int .i64 now, .int .i64 next, .slice A8 0 c8]) ∧ Hd (fls.C W14 A9 F) ∧ Hd (Below w.heap.size w W14) ∧ W14.heap.size = w13.heap.size + 1) ⟨⟨?_⟩, ⟨?_⟩, ⟨?_⟩, ?_⟩ ?_
  · repeat (first | with_reducible exact HM.out | (with_reducible refine Blk.newE ?_; first | omega | (simp only [World.size_alloc, World.size_setCell, World.size_drew]; omega) | (simp; done)) | with_reducible refine Blk.alloc ?_ _ | with_reducible refine Blk.drew ?_ | with_reducible refine Blk.far ?_ (by dsimp only; omega) _)
  · exact (HV.out.alloc _).C
  · repeat (first | with_reducible exact HB.out | with_reducible refine Below.alloc ?_ (by first | omega | (simp only [World.size_alloc, World.size_setCell, World.size_drew]; omega) | (simp; done)) _ | with_reducible refine Below.drew ?_ | with_reducible refine Below.setCell ?_ (by dsimp only; omega) _)
  · first | omega | (simp only [World.size_alloc, World.size_setCell, World.size_drew]; omega) | (simp; done)
  clear HB HM HV
  rintro W14 ⟨HM, HV, HB, hzW14⟩
  refine (deliver_calls l0 l1 l2 false en (next + 1) A9 c9 F 1073741824 _ HV.out hc9 HFs.out).mono ?_
  rw [C6.out]
  rintro e w15 h
  obtain ⟨v, u, rfl, hv, hu, hb⟩ := h
  dsimp only at hv hu ⊢
  obtain ⟨A11, c11, rfl, -, -⟩ := hv.reads
  obtain ⟨A12, c12, rfl, hc12, -⟩ := hu.reads
  replace HB := Hd.mk (bel_step HB.out hb (by omega))
  replace HM := Hd.mk (HM.out.below hb)
  have HU := Hd.mk hu.bound
  have hz15 := hb.size
  clear hb hv hu HV
  go_wp2_with fail
  refine calls_abs (fun W16 => Hd (Blk W16 w6.heap.size 26 #[.int .i64 l0, .int .i64 l1, .int .i64 l2, .bool false, .int .i64 now, .int .i64 next, .slice A8 0 c8]) ∧ Hd (bss.V W16 (fun k => W14.heap.size ≤ k ∧ k < w15.heap.size) (.slice A12 [[(9 : Int)]].length c12) [[9]]) ∧ Hd (Below w.heap.size w W16) ∧ W16.heap.size = w15.heap.size + 1) ⟨⟨?_⟩, ⟨?_⟩, ⟨?_⟩, ?_⟩ ?_
  · repeat (first | with_reducible exact HM.out | (with_reducible refine Blk.newE ?_; first | omega | (simp only [World.size_alloc, World.size_setCell, World.size_drew]; omega) | (simp; done)) | with_reducible refine Blk.alloc ?_ _ | with_reducible refine Blk.drew ?_ | with_reducible refine Blk.far ?_ (by dsimp only; omega) _)
  · repeat (first | with_reducible exact HU.out | with_reducible refine Kd.V.alloc ?_ _ | with_reducible refine Kd.V.drew ?_ | with_reducible refine Kd.V.far ?_ (fun j hj => by dsimp only at hj ⊢; omega) _)
  · repeat (first | with_reducible exact HB.out | with_reducible refine Below.alloc ?_ (by first | omega | (simp only [World.size_alloc, World.size_setCell, World.size_drew]; omega) | (simp; done)) _ | with_reducible refine Below.drew ?_ | with_reducible refine Below.setCell ?_ (by dsimp only; omega) _)
  · first | omega | (simp only [World.size_alloc, World.size_setCell, World.size_drew]; omega) | (simp; done)
  clear HB HM HU
  rintro W16 ⟨HM, HU, HB, hzW16⟩
  refine (awake_calls _).mono ?_
  rintro e w17 ⟨rfl, hb⟩
  replace HB := Hd.mk (bel_step HB.out hb (by omega))
  replace HM := Hd.mk (HM.out.below hb)
  replace HU := Hd.mk (HU.out.below hb)
  have hz17 := hb.size
  clear hb
  obtain ⟨m0, m1, m2, m3, m4, m5, m6, m7, m8, m9, m10, m11, m12, m13⟩ := HM.out.f7
  go_wp2_with fail
  refine calls_abs (fun W18 => Hd (bss.V W18 (fun k => W14.heap.size ≤ k ∧ k < w15.heap.size) (.slice A12 [[(9 : Int)]].length c12) [[9]]) ∧ Hd (Blk W18 w17.heap.size 5 #[.int .u8 9]) ∧ Hd (Blk W18 (w17.heap.size + 1) 37 #[.slice (some ⟨w17.heap.size, 0, none⟩) 1 1]) ∧ Hd (Below w.heap.size w W18) ∧ W18.heap.size = w17.heap.size + 2) ⟨⟨?_⟩, ⟨?_⟩, ⟨?_⟩, ⟨?_⟩, ?_⟩ ?_
  · repeat (first | with_reducible exact HU.out | with_reducible refine Kd.V.alloc ?_ _ | with_reducible refine Kd.V.drew ?_ | with_reducible refine Kd.V.far ?_ (fun j hj => by dsimp only at hj ⊢; omega) _)
  · repeat (first | with_reducible exact HM.out | (with_reducible refine Blk.newE ?_; first | omega | (simp only [World.size_alloc, World.size_setCell, World.size_drew]; omega) | (simp; done)) | with_reducible refine Blk.alloc ?_ _ | with_reducible refine Blk.drew ?_ | with_reducible refine Blk.far ?_ (by dsimp only; omega) _)
  · repeat (first | with_reducible exact HM.out | (with_reducible refine Blk.newE ?_; first | omega | (simp only [World.size_alloc, World.size_setCell, World.size_drew]; omega) | (simp; done)) | with_reducible refine Blk.alloc ?_ _ | with_reducible refine Blk.drew ?_ | with_reducible refine Blk.far ?_ (by dsimp only; omega) _)
  · repeat (first | with_reducible exact HB.out | with_reducible refine Below.alloc ?_ (by first | omega | (simp only [World.size_alloc, World.size_setCell, World.size_drew]; omega) | (simp; done)) _ | with_reducible refine Below.drew ?_ | with_reducible refine Below.setCell ?_ (by dsimp only; omega) _)
  · first | omega | (simp only [World.size_alloc, World.size_setCell, World.size_drew]; omega) | (simp; done)
  clear HB HM HU m0 m1 m2 m3 m4 m5 m6 m7 m8 m9 m10 m11 m12 m13
  rintro W18 ⟨HU, HN, HP, HB, hzW18⟩
  refine (samePayloads_calls [[9]] A12 (some ⟨w17.heap.size + 1, 0, none⟩) c12 1 _ HU.out.C (bss_one (ints_one HN.out) HP.out)).mono ?_
  rintro e w19 ⟨rfl, hb⟩
  replace HB := Hd.mk (bel_step HB.out hb (by omega))
  clear hb
  go_wp2
  go_ret
  exact ⟨rfl, HB.out⟩
end Go.Proofs.Ytkgkiencikmhfaa.B
