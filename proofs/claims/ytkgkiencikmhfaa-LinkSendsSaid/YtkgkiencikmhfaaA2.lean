/- What this text holds: the contract of the reference's Send. -/
import Derived.Test.YtkgkiencikmhfaaA2z
import Derived.Test.YtkgkiencikmhfaaA2p
set_option linter.unusedVariables false
set_option linter.unusedSimpArgs false
namespace Go.Proofs.Ytkgkiencikmhfaa.B
open Go.RowKit

set_option maxRecDepth 100000 in
set_option maxHeartbeats 8000000 in
theorem refSend_calls (mn mx rt : Int) (dn : Bool) (idle next : Int) (A : Option Addr) (c : Nat) (l : List Fl) (now : Int) (A0 : Option Addr) (c0 : Nat) (body : List Int) (A1 : Option Addr) (c1 : Nat) (ch : List Int) (w : World) (okc : Nat → Prop)
    (hr : fls.C w A l) (hc : l.length ≤ c) (hr0 : (ints .u8).C w A0 body) (hc0 : body.length ≤ c0) (hvc : (ints .i64).V w okc (.slice A1 ch.length c1) ch) (hch : ch.length ≤ 1048576) :
    Calls Try.prog 19 #[.agg #[.int .i64 mn, .int .i64 mx, .int .i64 rt, .bool dn, .int .i64 idle, .int .i64 next, .slice A l.length c], .int .i64 now, .slice A0 body.length c0, .slice A1 ch.length c1] w (SendPost2 w okc (sendF mn mx rt dn idle next l now body ch)) := by
  have hu26 := Try.underlying26
  have hu23 := Try.underlying23
  have hu69 := Try.underlying69
  have hr1 := hvc.C
  have hc1 := hvc.n.2
  have HRl := Hd.mk hr
  have HRb := Hd.mk hr0
  have HRc := Hd.mk hr1
  have HVc := Hd.mk hvc.bound
  have HVf : Hd (Fp (fun W => (ints .i64).C W A1 ch) w okc) := ⟨by obtain ⟨A', c', he, _, hf⟩ := hvc; injection he with ha _ _; subst ha; exact hf⟩
  have hbm := hr0.1
  clear hr hr0 hr1 hvc
  obtain ⟨r, hrr⟩ : ∃ r, r = sendF mn mx rt dn idle next l now body ch := ⟨_, rfl⟩
  rw [← hrr]
  have HF := Hd.mk hrr
  clear hrr
  obtain ⟨er, her⟩ : ∃ er, er = chkL mn mx rt dn idle next l := ⟨_, rfl⟩
  have HER := Hd.mk her
  clear her
  obtain ⟨bn, hbn⟩ : ∃ b, betw now 0 1073741824 = b := ⟨_, rfl⟩
  have HN := Hd.mk hbn
  clear hbn
  have HB0 : Hd (Below w.heap.size w w) := ⟨Below.refl _ _⟩
  by_cases hall : chkL mn mx rt dn idle next l = 0 ∧ betw now 0 1073741824 = true ∧ ¬ 65536 < body.length ∧ dn = false
  · obtain ⟨ha1, ha2, ha3, ha4⟩ := hall
    subst ha4
    rw [HF.out]
    by_cases hrz : rt = 0
    · exact refSend_z mn mx rt idle next A c l now A0 c0 body A1 c1 ch w okc HRl.out hc HRb.out hc0 ⟨A1, c1, rfl, hc1, HVf.out⟩ hch ha1 ha2 ha3 hrz
    · exact refSend_p mn mx rt idle next A c l now A0 c0 body A1 c1 ch w okc HRl.out hc HRb.out hc0 ⟨A1, c1, rfl, hc1, HVf.out⟩ hch ha1 ha2 ha3 hrz
  have HALL := Hd.mk hall
  clear hall
  go_enter Try.func19, Try.ntmps19
  go_wp2_with fail
  refine calls_abs (fun W1 => Hd (Blk W1 w.heap.size 26 #[.int .i64 mn, .int .i64 mx, .int .i64 rt, .bool dn, .int .i64 idle, .int .i64 next, .slice A l.length c]) ∧ Hd (Blk W1 (w.heap.size + 1) 26 #[.int .i64 0, .int .i64 0, .int .i64 0, .bool false, .int .i64 0, .int .i64 0, .slice none 0 0]) ∧ Hd ((ints .i64).V W1 (fun k => okc k ∧ k < w.heap.size) (.slice A1 ch.length c1) ch) ∧ Hd (Below w.heap.size w W1) ∧ W1.heap.size = w.heap.size + 2) ⟨⟨?_⟩, ⟨?_⟩, ⟨?_⟩, ⟨?_⟩, ?_⟩ ?_
  · repeat (first | (with_reducible refine Blk.newE ?_; first | omega | (simp only [World.size_alloc, World.size_setCell, World.size_drew]; omega) | (simp; done)) | with_reducible refine Blk.alloc ?_ _ | with_reducible refine Blk.drew ?_ | with_reducible refine Blk.far ?_ (by dsimp only; omega) _)
  · repeat (first | (with_reducible refine Blk.newE ?_; first | omega | (simp only [World.size_alloc, World.size_setCell, World.size_drew]; omega) | (simp; done)) | with_reducible refine Blk.alloc ?_ _ | with_reducible refine Blk.drew ?_ | with_reducible refine Blk.far ?_ (by dsimp only; omega) _)
  · repeat (first | with_reducible exact HVc.out | with_reducible refine Kd.V.alloc ?_ _ | with_reducible refine Kd.V.drew ?_ | with_reducible refine Kd.V.far ?_ (fun j hj => by dsimp only at hj ⊢; omega) _)
  · repeat (first | with_reducible exact HB0.out | with_reducible refine Below.alloc ?_ (by first | omega | (simp only [World.size_alloc, World.size_setCell, World.size_drew]; omega) | (simp; done)) _ | with_reducible refine Below.drew ?_ | with_reducible refine Below.setCell ?_ (by dsimp only; omega) _)
  · first | omega | (simp only [World.size_alloc, World.size_setCell, World.size_drew]; omega) | (simp; done)
  clear HB0 HVc
  rintro W1 ⟨HQ, HP, HVc, HB, hzW1⟩
  refine (refCheck_calls mn mx rt dn idle next A c l _ (HRl.out.below HB.out) hc).mono ?_
  rw [← HER.out]
  rintro e w1 ⟨rfl, hb⟩
  replace HB := Hd.mk (bel_step HB.out hb (by omega))
  replace HQ := Hd.mk (HQ.out.below hb)
  replace HP := Hd.mk (HP.out.below hb)
  replace HVc := Hd.mk (HVc.out.below hb)
  have hz1 := hb.size
  obtain ⟨p0, p1, p2, p3, p4, p5, p6, p7, p8, p9, p10, p11, p12, p13⟩ := HQ.out.f7
  obtain ⟨q0, q1, q2, q3, q4, q5, q6, q7, q8, q9, q10, q11, q12, q13⟩ := HP.out.f7
  clear hb
  by_cases h : er = 0
  case neg =>
    have hb1 : (er != 0) = true := by simp [h]
    have HE : Hd (r = (lk0, [], er)) := ⟨by rw [HF.out, sendF, if_pos (by rw [← HER.out]; exact h), HER.out]⟩
    clear h HF
    go_wp2
    refine bodyPost_ret (v := .tuple #[.agg #[.int .i64 0, .int .i64 0, .int .i64 0, .bool false, .int .i64 0, .int .i64 0, .slice none 0 0], .slice none 0 0, .int .i64 er]) (by simp [results, Try.results19, go_sem, q0, q1, q2, q3, q4, q5, q6]) rfl ?_
    rw [HE.out]
    refine ⟨_, _, rfl, Kd.V.nil, Kd.V.nil, ?_⟩
    repeat (first | with_reducible exact HB.out | with_reducible refine Below.alloc ?_ (by first | omega | (simp only [World.size_alloc, World.size_setCell, World.size_drew]; omega) | (simp; done)) _ | with_reducible refine Below.drew ?_ | with_reducible refine Below.setCell ?_ (by dsimp only; omega) _)
  subst h
  have H0 : Hd (chkL mn mx rt dn idle next l = 0) := ⟨HER.out.symm⟩
  have hok := chkL_ok H0.out
  obtain ⟨⟨k0, k1, k2, k3, k4⟩, ⟨k5, k6⟩, ⟨k7, k8⟩, k9, k10, -⟩ := hok
  have HS := Hd.mk (chkL_small H0.out)
  have HSR := Hd.mk (Srt.of (chkL_sorted H0.out))
  clear k10
  cases bn
  case false =>
    have hnb : now < 0 ∨ 1073741824 < now := by have := HN.out; simp [betw] at this; omega
    rcases hnb with hnb | hnb
    · have hnc : decide (now < 0) = true := decide_eq_true hnb
      have HE : Hd (r = (lk0, [], 24)) := ⟨by rw [HF.out, sendF, if_neg (by rw [H0.out]; decide), if_pos HN.out]⟩
      clear HF
      go_wp2
      refine bodyPost_ret (v := .tuple #[.agg #[.int .i64 0, .int .i64 0, .int .i64 0, .bool false, .int .i64 0, .int .i64 0, .slice none 0 0], .slice none 0 0, .int .i64 24]) (by simp [results, Try.results19, go_sem, q0, q1, q2, q3, q4, q5, q6]) rfl ?_
      rw [HE.out]
      refine ⟨_, _, rfl, Kd.V.nil, Kd.V.nil, ?_⟩
      repeat (first | with_reducible exact HB.out | with_reducible refine Below.alloc ?_ (by first | omega | (simp only [World.size_alloc, World.size_setCell, World.size_drew]; omega) | (simp; done)) _ | with_reducible refine Below.drew ?_ | with_reducible refine Below.setCell ?_ (by dsimp only; omega) _)
    · have hnc : decide (now < 0) = false := decide_eq_false (by omega)
      have hnd : decide (now > 1073741824) = true := decide_eq_true hnb
      have HE : Hd (r = (lk0, [], 24)) := ⟨by rw [HF.out, sendF, if_neg (by rw [H0.out]; decide), if_pos HN.out]⟩
      clear HF
      go_wp2
      refine bodyPost_ret (v := .tuple #[.agg #[.int .i64 0, .int .i64 0, .int .i64 0, .bool false, .int .i64 0, .int .i64 0, .slice none 0 0], .slice none 0 0, .int .i64 24]) (by simp [results, Try.results19, go_sem, q0, q1, q2, q3, q4, q5, q6]) rfl ?_
      rw [HE.out]
      refine ⟨_, _, rfl, Kd.V.nil, Kd.V.nil, ?_⟩
      repeat (first | with_reducible exact HB.out | with_reducible refine Below.alloc ?_ (by first | omega | (simp only [World.size_alloc, World.size_setCell, World.size_drew]; omega) | (simp; done)) _ | with_reducible refine Below.drew ?_ | with_reducible refine Below.setCell ?_ (by dsimp only; omega) _)
  have hnow : 0 ≤ now ∧ now ≤ 1073741824 := by have := HN.out; simp [betw] at this; omega
  have hnc : decide (now < 0) = false := decide_eq_false (by omega)
  have hnd : decide (now > 1073741824) = false := decide_eq_false (by omega)
  by_cases h5 : 65536 < body.length
  case pos =>
    have h5b : decide ((body.length : Int) > 65536) = true := decide_eq_true (by omega)
    have HE : Hd (r = (lk0, [], 5)) := ⟨by rw [HF.out, sendF, if_neg (by rw [H0.out]; decide), if_neg (by rw [HN.out]; decide), if_pos h5]⟩
    clear HF
    go_wp2
    refine bodyPost_ret (v := .tuple #[.agg #[.int .i64 0, .int .i64 0, .int .i64 0, .bool false, .int .i64 0, .int .i64 0, .slice none 0 0], .slice none 0 0, .int .i64 5]) (by simp [results, Try.results19, go_sem, q0, q1, q2, q3, q4, q5, q6]) rfl ?_
    rw [HE.out]
    refine ⟨_, _, rfl, Kd.V.nil, Kd.V.nil, ?_⟩
    repeat (first | with_reducible exact HB.out | with_reducible refine Below.alloc ?_ (by first | omega | (simp only [World.size_alloc, World.size_setCell, World.size_drew]; omega) | (simp; done)) _ | with_reducible refine Below.drew ?_ | with_reducible refine Below.setCell ?_ (by dsimp only; omega) _)
  have h5b : decide ((body.length : Int) > 65536) = false := decide_eq_false (by omega)
  cases dn
  case true =>
    have HE : Hd (r = (⟨mn, mx, rt, true, idle, next, l⟩, ch, 0)) := ⟨by rw [HF.out, sendF, if_neg (by rw [H0.out]; decide), if_neg (by rw [HN.out]; decide), if_neg h5, if_pos rfl]⟩
    clear HF
    go_wp2_with fail
    refine (refCopy_calls mn mx rt true idle next A c l _ (HRl.out.below HB.out) hc HS.out).mono ?_
    rintro e w2 ⟨v, rfl, hown, hb⟩
    obtain ⟨A2, c2, rfl, -, -⟩ := hown.shape
    replace HB := Hd.mk (bel_step HB.out hb (by omega))
    replace HP := Hd.mk (HP.out.below hb)
    replace HVc := Hd.mk (HVc.out.below hb)
    have HV : Hd (fls.V w2 (fun j => w1.heap.size ≤ j ∧ j < w2.heap.size) (.slice A2 l.length c2) l) := ⟨hown.Vin (fun _ h => h)⟩
    have hz2 := hb.size
    clear hb hown p0 p1 p2 p3 p4 p5 p6 p7 p8 p9 p10 p11 p12 p13 q0 q1 q2 q3 q4 q5 q6 q7 q8 q9 q10 q11 q12 q13
    obtain ⟨q0, q1, q2, q3, q4, q5, q6, q7, q8, q9, q10, q11, q12, q13⟩ := HP.out.f7
    have HP2 := Hd.mk (put7 (b0 := .int .i64 mn) (b1 := .int .i64 mx) (b2 := .int .i64 rt) (b3 := .bool true) (b4 := .int .i64 idle) (b5 := .int .i64 next) (b6 := .slice A2 l.length c2) HP.out)
    obtain ⟨y0, y1, y2, y3, y4, y5, y6, y7, y8, y9, y10, y11, y12, y13⟩ := HP2.out.f7
    go_wp2
    refine bodyPost_ret (v := .tuple #[.agg #[.int .i64 mn, .int .i64 mx, .int .i64 rt, .bool true, .int .i64 idle, .int .i64 next, .slice A2 l.length c2], .slice A1 ch.length c1, .int .i64 0]) (by simp [results, Try.results19, go_sem, y0, y1, y2, y3, y4, y5, y6]) rfl ?_
    rw [HE.out]
    refine ⟨_, _, rfl, ?_, ?_, ?_⟩
    · refine Kd.V.mono (ok := fun j => w1.heap.size ≤ j ∧ j < w2.heap.size) ?_ (fun j hj => by have := hj.1; omega)
      repeat (first | with_reducible exact HV.out | with_reducible refine Kd.V.alloc ?_ _ | with_reducible refine Kd.V.drew ?_ | with_reducible refine Kd.V.far ?_ (fun j hj => by dsimp only at hj ⊢; omega) _)
    · refine Kd.V.mono (ok := fun j => okc j ∧ j < w.heap.size) ?_ (fun j hj => .inl hj.1)
      repeat (first | with_reducible exact HVc.out | with_reducible refine Kd.V.alloc ?_ _ | with_reducible refine Kd.V.drew ?_ | with_reducible refine Kd.V.far ?_ (fun j hj => by dsimp only at hj ⊢; omega) _)
    · repeat (first | with_reducible exact HB.out | with_reducible refine Below.alloc ?_ (by first | omega | (simp only [World.size_alloc, World.size_setCell, World.size_drew]; omega) | (simp; done)) _ | with_reducible refine Below.drew ?_ | with_reducible refine Below.setCell ?_ (by dsimp only; omega) _)
  exact absurd ⟨H0.out, HN.out, h5, rfl⟩ HALL.out
end Go.Proofs.Ytkgkiencikmhfaa.B
