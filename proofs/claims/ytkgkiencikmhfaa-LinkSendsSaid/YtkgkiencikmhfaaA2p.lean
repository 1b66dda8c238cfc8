/- What this text holds: the reference's Send on a link with a rate. -/
import Derived.Test.YtkgkiencikmhfaaS2
set_option linter.unusedVariables false
set_option linter.unusedSimpArgs false
namespace Go.Proofs.Ytkgkiencikmhfaa.B
open Go.RowKit

set_option maxRecDepth 100000 in
set_option maxHeartbeats 8000000 in
theorem refSend_p (mn mx rt : Int) (idle next : Int) (A : Option Addr) (c : Nat) (l : List Fl) (now : Int) (A0 : Option Addr) (c0 : Nat) (body : List Int) (A1 : Option Addr) (c1 : Nat) (ch : List Int) (w : World) (okc : Nat → Prop)
    (hr : fls.C w A l) (hc : l.length ≤ c) (hr0 : (ints .u8).C w A0 body) (hc0 : body.length ≤ c0) (hvc : (ints .i64).V w okc (.slice A1 ch.length c1) ch) (hch : ch.length ≤ 1048576)
    (he0 : chkL mn mx rt false idle next l = 0) (hb0 : betw now 0 1073741824 = true) (h5 : ¬ 65536 < body.length) (hrz : ¬ rt = 0) :
    Calls Try.prog 19 #[.agg #[.int .i64 mn, .int .i64 mx, .int .i64 rt, .bool false, .int .i64 idle, .int .i64 next, .slice A l.length c], .int .i64 now, .slice A0 body.length c0, .slice A1 ch.length c1] w (SendPost2 w okc (sendF mn mx rt false idle next l now body ch)) := by
  have hu26 := Try.underlying26
  have hu23 := Try.underlying23
  have hu69 := Try.underlying69
  have hr1 := hvc.C
  have hc1 := hvc.n.2
  have HRl := Hd.mk hr
  have HRb := Hd.mk hr0
  have HRc := Hd.mk hr1
  have HVc := Hd.mk hvc.bound
  have hbm := hr0.1
  clear hr hr0 hr1 hvc
  obtain ⟨r, hrr⟩ : ∃ r, r = sendF mn mx rt false idle next l now body ch := ⟨_, rfl⟩
  rw [← hrr]
  have HF := Hd.mk hrr
  clear hrr
  have H0 := Hd.mk he0
  have HN := Hd.mk hb0
  clear he0 hb0
  have HB0 : Hd (Below w.heap.size w w) := ⟨Below.refl _ _⟩
  go_enter Try.func19, Try.ntmps19
  go_wp2_with fail
  refine calls_abs (fun W1 => Hd (Blk W1 w.heap.size 26 #[.int .i64 mn, .int .i64 mx, .int .i64 rt, .bool false, .int .i64 idle, .int .i64 next, .slice A l.length c]) ∧ Hd (Blk W1 (w.heap.size + 1) 26 #[.int .i64 0, .int .i64 0, .int .i64 0, .bool false, .int .i64 0, .int .i64 0, .slice none 0 0]) ∧ Hd ((ints .i64).V W1 (fun k => okc k ∧ k < w.heap.size) (.slice A1 ch.length c1) ch) ∧ Hd (Below w.heap.size w W1) ∧ W1.heap.size = w.heap.size + 2) ⟨⟨?_⟩, ⟨?_⟩, ⟨?_⟩, ⟨?_⟩, ?_⟩ ?_
  · repeat (first | (with_reducible refine Blk.newE ?_; first | omega | (simp only [World.size_alloc, World.size_setCell, World.size_drew]; omega) | (simp; done)) | with_reducible refine Blk.alloc ?_ _ | with_reducible refine Blk.drew ?_ | with_reducible refine Blk.far ?_ (by dsimp only; omega) _)
  · repeat (first | (with_reducible refine Blk.newE ?_; first | omega | (simp only [World.size_alloc, World.size_setCell, World.size_drew]; omega) | (simp; done)) | with_reducible refine Blk.alloc ?_ _ | with_reducible refine Blk.drew ?_ | with_reducible refine Blk.far ?_ (by dsimp only; omega) _)
  · repeat (first | with_reducible exact HVc.out | with_reducible refine Kd.V.alloc ?_ _ | with_reducible refine Kd.V.drew ?_ | with_reducible refine Kd.V.far ?_ (fun j hj => by dsimp only at hj ⊢; omega) _)
  · repeat (first | with_reducible exact HB0.out | with_reducible refine Below.alloc ?_ (by first | omega | (simp only [World.size_alloc, World.size_setCell, World.size_drew]; omega) | (simp; done)) _ | with_reducible refine Below.drew ?_ | with_reducible refine Below.setCell ?_ (by dsimp only; omega) _)
  · first | omega | (simp only [World.size_alloc, World.size_setCell, World.size_drew]; omega) | (simp; done)
  clear HB0 HVc
  rintro W1 ⟨HQ, HP, HVc, HB, hzW1⟩
  refine (refCheck_calls mn mx rt false idle next A c l _ (HRl.out.below HB.out) hc).mono ?_
  rw [H0.out]
  rintro e w1 ⟨rfl, hb⟩
  replace HB := Hd.mk (bel_step HB.out hb (by omega))
  replace HQ := Hd.mk (HQ.out.below hb)
  replace HP := Hd.mk (HP.out.below hb)
  replace HVc := Hd.mk (HVc.out.below hb)
  have hz1 := hb.size
  obtain ⟨p0, p1, p2, p3, p4, p5, p6, p7, p8, p9, p10, p11, p12, p13⟩ := HQ.out.f7
  obtain ⟨q0, q1, q2, q3, q4, q5, q6, q7, q8, q9, q10, q11, q12, q13⟩ := HP.out.f7
  clear hb
  have hok := chkL_ok H0.out
  obtain ⟨⟨k0, k1, k2, k3, k4⟩, ⟨k5, k6⟩, ⟨k7, k8⟩, k9, k10, -⟩ := hok
  have HS := Hd.mk (chkL_small H0.out)
  have HSR := Hd.mk (Srt.of (chkL_sorted H0.out))
  clear k10
  have hnow : 0 ≤ now ∧ now ≤ 1073741824 := by have := HN.out; simp [betw] at this; omega
  have hnc : decide (now < 0) = false := decide_eq_false (by omega)
  have hnd : decide (now > 1073741824) = false := decide_eq_false (by omega)
  have h5b : decide ((body.length : Int) > 65536) = false := decide_eq_false (by omega)
  obtain ⟨tk, htk⟩ : ∃ tk, tk = ticksF body.length rt := ⟨_, rfl⟩
  have htb := ticksF_le body.length rt (by omega) k3
  rw [← htk] at htb
  obtain ⟨m0, hm0⟩ : ∃ m0, m0 = max now idle := ⟨_, rfl⟩
  have hmb : 0 ≤ m0 ∧ m0 ≤ 1073741824 := by rw [hm0]; omega
  obtain ⟨en, hen0⟩ : ∃ en, en = m0 + tk := ⟨_, rfl⟩
  have w10 : IntKind.i64.wrap (m0 + tk) = en := by rw [hen0]; exact IntWalk.i64_in _ (by omega)
  have w11 : IntKind.i64.wrap (en + mx) = en + mx := IntWalk.i64_in _ (by omega)
  have hmx2 : (if now < idle then idle else now) = m0 := by rw [hm0]; split <;> omega
  have hmx3 : (if idle > now then idle else now) = m0 := by rw [hm0]; split <;> omega
  have w12 : IntKind.i64.wrap ((body.length : Int) + rt) = body.length + rt := IntWalk.i64_in _ (by omega)
  have w13 : IntKind.i64.wrap ((body.length : Int) + rt - 1) = body.length + rt - 1 := IntWalk.i64_in _ (by omega)
  have w14 : IntKind.i64.wrap tk = tk := IntWalk.i64_in _ (by omega)
  have HTK := Hd.mk htk
  have HM0 := Hd.mk hm0
  have hnext : 0 ≤ next := k7
  clear hm0
  have hr1 : decide (rt > 0) = true := decide_eq_true (by omega)
  have hr3 : Int.tdiv ((body.length : Int) + rt - 1) rt = tk := by rw [Int.tdiv_eq_ediv_of_nonneg (by omega), htk, ticksF, if_neg hrz]
  clear htk
  have HEN : Hd (max now idle + ticksF body.length rt = en) := ⟨by rw [← HM0.out, ← HTK.out, hen0]⟩
  have hen : 0 ≤ en ∧ en ≤ 1073872896 := by omega
  clear HTK HM0 hen0
  by_cases hz : 1073741824 < en + mx
  case pos =>
    have hzb : decide (en + mx > 1073741824) = true := decide_eq_true hz
    have HE : Hd (r = (lk0, [], 24)) := ⟨by rw [HF.out, sendF, if_neg (by rw [H0.out]; decide), if_neg (by rw [HN.out]; decide), if_neg h5, if_neg (by decide), if_pos (by rw [HEN.out]; exact hz)]⟩
    clear HF
    go_wp2
    refine bodyPost_ret (v := .tuple #[.agg #[.int .i64 0, .int .i64 0, .int .i64 0, .bool false, .int .i64 0, .int .i64 0, .slice none 0 0], .slice none 0 0, .int .i64 24]) (by simp [results, Try.results19, go_sem, q0, q1, q2, q3, q4, q5, q6]) rfl ?_
    rw [HE.out]
    refine ⟨_, _, rfl, Kd.V.nil, Kd.V.nil, ?_⟩
    repeat (first | with_reducible exact HB.out | with_reducible refine Below.alloc ?_ (by first | omega | (simp only [World.size_alloc, World.size_setCell, World.size_drew]; omega) | (simp; done)) _ | with_reducible refine Below.drew ?_ | with_reducible refine Below.setCell ?_ (by dsimp only; omega) _)
  have hzb : decide (en + mx > 1073741824) = false := decide_eq_false hz
  by_cases hy : 4094 < l.length
  case pos =>
    have hyb : decide ((l.length : Int) > 4094) = true := decide_eq_true (by omega)
    have HE : Hd (r = (lk0, [], 11)) := ⟨by rw [HF.out, sendF, if_neg (by rw [H0.out]; decide), if_neg (by rw [HN.out]; decide), if_neg h5, if_neg (by decide), if_neg (by rw [HEN.out]; exact hz), if_pos (.inl hy)]⟩
    clear HF
    go_wp2
    refine bodyPost_ret (v := .tuple #[.agg #[.int .i64 0, .int .i64 0, .int .i64 0, .bool false, .int .i64 0, .int .i64 0, .slice none 0 0], .slice none 0 0, .int .i64 11]) (by simp [results, Try.results19, go_sem, q0, q1, q2, q3, q4, q5, q6]) rfl ?_
    rw [HE.out]
    refine ⟨_, _, rfl, Kd.V.nil, Kd.V.nil, ?_⟩
    repeat (first | with_reducible exact HB.out | with_reducible refine Below.alloc ?_ (by first | omega | (simp only [World.size_alloc, World.size_setCell, World.size_drew]; omega) | (simp; done)) _ | with_reducible refine Below.drew ?_ | with_reducible refine Below.setCell ?_ (by dsimp only; omega) _)
  have hyb : decide ((l.length : Int) > 4094) = false := decide_eq_false (by omega)
  by_cases hx : 1073741822 < next
  case pos =>
    have hxb : decide (next > 1073741822) = true := decide_eq_true hx
    have HE : Hd (r = (lk0, [], 11)) := ⟨by rw [HF.out, sendF, if_neg (by rw [H0.out]; decide), if_neg (by rw [HN.out]; decide), if_neg h5, if_neg (by decide), if_neg (by rw [HEN.out]; exact hz), if_pos (.inr hx)]⟩
    clear HF
    go_wp2
    refine bodyPost_ret (v := .tuple #[.agg #[.int .i64 0, .int .i64 0, .int .i64 0, .bool false, .int .i64 0, .int .i64 0, .slice none 0 0], .slice none 0 0, .int .i64 11]) (by simp [results, Try.results19, go_sem, q0, q1, q2, q3, q4, q5, q6]) rfl ?_
    rw [HE.out]
    refine ⟨_, _, rfl, Kd.V.nil, Kd.V.nil, ?_⟩
    repeat (first | with_reducible exact HB.out | with_reducible refine Below.alloc ?_ (by first | omega | (simp only [World.size_alloc, World.size_setCell, World.size_drew]; omega) | (simp; done)) _ | with_reducible refine Below.drew ?_ | with_reducible refine Below.setCell ?_ (by dsimp only; omega) _)
  have hxb : decide (next > 1073741822) = false := decide_eq_false hx
  obtain ⟨hd, hhd⟩ : ∃ n, n = decI ch 3 := ⟨_, rfl⟩
  have hd3 := decI_lt ch 3 (by decide)
  rw [← hhd] at hd3
  obtain ⟨n, hn⟩ : ∃ n, n = arrN hd := ⟨_, rfl⟩
  have HE : Hd (r = (⟨mn, mx, rt, false, en, (itS (en) mn mx body n (l, next, ch.drop 1)).2.1, (itS (en) mn mx body n (l, next, ch.drop 1)).1⟩, (itS (en) mn mx body n (l, next, ch.drop 1)).2.2, 0)) := ⟨by rw [HF.out, sendF, if_neg (by rw [H0.out]; decide), if_neg (by rw [HN.out]; decide), if_neg h5, if_neg (by decide), if_neg (by rw [HEN.out]; exact hz), if_neg (by omega), HEN.out, ← hhd, ← hn]⟩
  have HNN := Hd.mk hn
  have HHD := Hd.mk hhd
  obtain ⟨C0, hC0⟩ : ∃ C0, C0 = ch.drop 1 := ⟨_, rfl⟩
  rw [← hC0] at HE
  have hC0l : C0.length ≤ ch.length := by rw [hC0, List.length_drop]; omega
  have HC0 := Hd.mk hC0
  clear hn hhd HF hC0
  go_wp2_with fail
  refine (refCopy_calls mn mx rt false idle next A c l _ (HRl.out.below HB.out) hc HS.out).mono ?_
  rintro e w2 ⟨v, rfl, hown, hb⟩
  obtain ⟨A2, c2, rfl, -, -⟩ := hown.shape
  replace HB := Hd.mk (bel_step HB.out hb (by omega))
  replace HQ := Hd.mk (HQ.out.below hb)
  replace HP := Hd.mk (HP.out.below hb)
  have HV : Hd (fls.V w2 (fun j => w1.heap.size ≤ j ∧ j < w2.heap.size) (.slice A2 l.length c2) l) := ⟨hown.Vin (fun _ h => h)⟩
  have hz2 := hb.size
  clear hb hown HVc p0 p1 p2 p3 p4 p5 p6 p7 p8 p9 p10 p11 p12 p13 q0 q1 q2 q3 q4 q5 q6 q7 q8 q9 q10 q11 q12 q13
  obtain ⟨p0, p1, p2, p3, p4, p5, p6, p7, p8, p9, p10, p11, p12, p13⟩ := HQ.out.f7
  go_wp2_with fail
  refine calls_abs (fun W3 => Hd (Blk W3 w2.heap.size 26 #[.int .i64 mn, .int .i64 mx, .int .i64 rt, .bool false, .int .i64 en, .int .i64 next, .slice A2 l.length c2]) ∧ Hd (Blk W3 w.heap.size 26 #[.int .i64 mn, .int .i64 mx, .int .i64 rt, .bool false, .int .i64 idle, .int .i64 next, .slice A l.length c]) ∧ Hd (Blk W3 (w.heap.size + 1) 26 #[.int .i64 0, .int .i64 0, .int .i64 0, .bool false, .int .i64 0, .int .i64 0, .slice none 0 0]) ∧ Hd (fls.V W3 (fun j => w1.heap.size ≤ j ∧ j < w2.heap.size) (.slice A2 l.length c2) l) ∧ Hd (Below w.heap.size w W3) ∧ W3.heap.size = w2.heap.size + 1) ⟨⟨?_⟩, ⟨?_⟩, ⟨?_⟩, ⟨?_⟩, ⟨?_⟩, ?_⟩ ?_
  · repeat (first | with_reducible exact HQ.out | with_reducible refine Blk.put (cs := #[.int .i64 mn, .int .i64 mx, .int .i64 rt, .bool false, .int .i64 idle, .int .i64 next, .slice A2 l.length c2]) ?_ 4 _ rfl | (with_reducible refine Blk.newE ?_; first | omega | (simp only [World.size_alloc, World.size_setCell, World.size_drew]; omega) | (simp; done)) | with_reducible refine Blk.alloc ?_ _ | with_reducible refine Blk.drew ?_ | with_reducible refine Blk.far ?_ (by dsimp only; omega) _)
  · repeat (first | with_reducible exact HQ.out | (with_reducible refine Blk.newE ?_; first | omega | (simp only [World.size_alloc, World.size_setCell, World.size_drew]; omega) | (simp; done)) | with_reducible refine Blk.alloc ?_ _ | with_reducible refine Blk.drew ?_ | with_reducible refine Blk.far ?_ (by dsimp only; omega) _)
  · repeat (first | with_reducible exact HP.out | (with_reducible refine Blk.newE ?_; first | omega | (simp only [World.size_alloc, World.size_setCell, World.size_drew]; omega) | (simp; done)) | with_reducible refine Blk.alloc ?_ _ | with_reducible refine Blk.drew ?_ | with_reducible refine Blk.far ?_ (by dsimp only; omega) _)
  · repeat (first | with_reducible exact HV.out | with_reducible refine Kd.V.alloc ?_ _ | with_reducible refine Kd.V.drew ?_ | with_reducible refine Kd.V.far ?_ (fun j hj => by dsimp only at hj ⊢; omega) _)
  · repeat (first | with_reducible exact HB.out | with_reducible refine Below.alloc ?_ (by first | omega | (simp only [World.size_alloc, World.size_setCell, World.size_drew]; omega) | (simp; done)) _ | with_reducible refine Below.drew ?_ | with_reducible refine Below.setCell ?_ (by dsimp only; omega) _)
  · first | omega | (simp only [World.size_alloc, World.size_setCell, World.size_drew]; omega) | (simp; done)
  clear HQ HP HV HB p0 p1 p2 p3 p4 p5 p6 p7 p8 p9 p10 p11 p12 p13
  rintro W3 ⟨HX, HQ, HP, HV, HB, hzW3⟩
  refine (refDecide_calls A1 c1 ch 3 W3 (HRc.out.below HB.out) hc1 hch (by decide) (by decide)).mono ?_
  rw [← HHD.out]
  rintro e w4 ⟨u, rfl, hown, hb⟩
  rw [← HC0.out] at hown
  obtain ⟨A3, c3, rfl, hc3, -⟩ := hown.shape
  replace HB := Hd.mk (bel_step HB.out hb (by omega))
  replace HX := Hd.mk (HX.out.below hb)
  replace HQ := Hd.mk (HQ.out.below hb)
  replace HP := Hd.mk (HP.out.below hb)
  replace HV := Hd.mk (HV.out.below hb)
  have HU : Hd ((ints .i64).V w4 (fun j => W3.heap.size ≤ j ∧ j < w4.heap.size) (.slice A3 C0.length c3) C0) := ⟨hown.Vin (fun _ h => h.elim)⟩
  have hz4 := hb.size
  clear hb hown HHD
  rcases (by omega : hd = 0 ∨ hd = 1 ∨ hd = 2) with rfl | rfl | rfl
  · obtain rfl : n = 1 := HNN.out
    clear HNN
    go_wp2
    go_loopw [16, 18] (fun ur ui wr => ∃ k v, k ≤ 1 ∧ ui = .int .i64 (k : Nat) ∧ Hd (Blk wr w2.heap.size 26 #[.int .i64 mn, .int .i64 mx, .int .i64 rt, .bool false, .int .i64 en, .int .i64 (itS (en) mn mx body k (l, next, C0)).2.1, v]) ∧ Hd (Blk wr w.heap.size 26 #[.int .i64 mn, .int .i64 mx, .int .i64 rt, .bool false, .int .i64 idle, .int .i64 next, .slice A l.length c]) ∧ Hd (Blk wr (w.heap.size + 1) 26 #[.int .i64 0, .int .i64 0, .int .i64 0, .bool false, .int .i64 0, .int .i64 0, .slice none 0 0]) ∧ Hd (fls.V wr (fun j => w1.heap.size ≤ j ∧ j ≠ w2.heap.size) v (itS (en) mn mx body k (l, next, C0)).1) ∧ Hd ((ints .i64).V wr (fun j => w1.heap.size ≤ j ∧ j ≠ w2.heap.size) ur (itS (en) mn mx body k (l, next, C0)).2.2) ∧ Hd (Below w.heap.size w wr)) (fun _ ui _ => 1 - (intOf ui).toNat)
    case atStart => exact ⟨0, _, Nat.zero_le _, rfl, HX, HQ, HP, ⟨HV.out.mono (fun j hj => ⟨by have := hj.1; omega, by have := hj.2; omega⟩)⟩, ⟨HU.out.mono (fun j hj => ⟨by have := hj.1; omega, by have := hj.1; omega⟩)⟩, HB⟩
    case round =>
      clear HX HQ HP HV HU HB
      obtain ⟨k, v, hk, rfl, HX, HQ, HP, HV, HU, HB⟩ := hrel
      have hil := itS_len (en) mn mx body k (l, next, C0)
      have hsr := itS_srt (en) mn mx body k (l, next, C0) HSR.out
      have hst : itS (en) mn mx body (k + 1) (l, next, C0) = stepS (en) mn mx body (itS (en) mn mx body k (l, next, C0)) := rfl
      have HITn : Hd (k = 1 → (itS (en) mn mx body 1 (l, next, C0)) = (itS (en) mn mx body k (l, next, C0))) := ⟨fun h => by rw [h]⟩
      obtain ⟨S, hS⟩ : ∃ S, S = itS (en) mn mx body k (l, next, C0) := ⟨_, rfl⟩
      rw [← hS] at HX HV HU hil hst HITn hsr
      clear hS
      rcases S with ⟨F, nx, C⟩
      dsimp only at HX HV HU hil hsr
      have HST := Hd.mk hst
      have HSF := Hd.mk hsr
      have hCl : C.length ≤ 1048576 := by have := hil.2.2; omega
      have hnx : 0 ≤ nx ∧ nx ≤ 1073741824 := by have := hil.2.1; omega
      clear hst hsr
      obtain ⟨A5, c5, rfl, hc5, -⟩ := HV.out.reads
      obtain ⟨A6, c6, rfl, hc6, -⟩ := HU.out.reads
      obtain ⟨p0, p1, p2, p3, p4, p5, p6, p7, p8, p9, p10, p11, p12, p13⟩ := HQ.out.f7
      have hxlt := HX.out.lt
      have hplt := HP.out.lt
      by_cases hlt : k < 1
      · obtain ⟨d, hd⟩ : ∃ d, d = decI C (mx - mn + 1) := ⟨_, rfl⟩
        have hdb := decI_lt C (mx - mn + 1) (by omega)
        rw [← hd] at hdb
        have hv1 : IntKind.i64.wrap (mx - mn) = mx - mn := IntWalk.i64_in _ (by omega)
        have hv2 : IntKind.i64.wrap (mx - mn + 1) = mx - mn + 1 := IntWalk.i64_in _ (by omega)
        have hv3 : IntKind.i64.wrap (en + mn) = en + mn := IntWalk.i64_in _ (by omega)
        have hv4 : IntKind.i64.wrap (en + mn + d) = en + mn + d := IntWalk.i64_in _ (by omega)
        have hv5 : IntKind.i64.wrap (nx + 1) = nx + 1 := IntWalk.i64_in _ (by omega)
        have hFl : F.length ≤ 4096 := by omega
        obtain ⟨F', hF'⟩ : ∃ F', F' = F.take (placeL F (en + mn + d)) ++ (⟨en + mn + d, nx, body⟩ : Fl) :: F.drop (placeL F (en + mn + d)) := ⟨_, rfl⟩
        have HST2 : Hd (itS (en) mn mx body (k + 1) (l, next, C0) = (F', nx + 1, C.drop 1)) := ⟨by rw [HST.out, stepS, hF', hd]; simp only [Int.add_assoc]⟩
        have HD := Hd.mk hd
        have HF' := Hd.mk hF'
        have hkn : (k : Int) < 1 := by omega
        clear hF' hd HST hil
        go_wp2_with fail
        refine (refDecide_calls A6 c6 C (mx - mn + 1) wr HU.out.C hc6 hCl (by omega) (by omega)).mono ?_
        rw [← HD.out]
        rintro e w5 ⟨u, rfl, hown, hb⟩
        obtain ⟨C', hC'⟩ : ∃ C', C' = C.drop 1 := ⟨_, rfl⟩
        rw [← hC'] at hown HST2
        obtain ⟨A7, c7, rfl, hc7, -⟩ := hown.shape
        replace HB := Hd.mk (bel_step HB.out hb (by omega))
        replace HX := Hd.mk (HX.out.below hb)
        replace HQ := Hd.mk (HQ.out.below hb)
        replace HP := Hd.mk (HP.out.below hb)
        replace HV := Hd.mk (HV.out.bound.below hb)
        replace HU : Hd ((ints .i64).V w5 (fun j => wr.heap.size ≤ j ∧ j < w5.heap.size) (.slice A7 C'.length c7) C') := ⟨hown.Vin (fun _ h => h.elim)⟩
        have hz5 := hb.size
        have HK6 : Hd (Calls Try.prog 46 #[.slice A0 body.length c0] w5.drew fun e w' => ∃ v, e = .returned v ∧ (ints .u8).Own 5 w' w5.drew.heap.size (fun _ => False) v body ∧ Below w5.drew.heap.size w5.drew w') := ⟨refCopied_calls A0 c0 body w5.drew (HRb.out.below HB.out.drew) hc0 (by omega)⟩
        clear hb hown HD hC' p0 p1 p2 p3 p4 p5 p6 p7 p8 p9 p10 p11 p12 p13
        obtain ⟨p0, p1, p2, p3, p4, p5, p6, p7, p8, p9, p10, p11, p12, p13⟩ := HQ.out.f7
        obtain ⟨x0, x1, x2, x3, x4, x5, x6, x7, x8, x9, x10, x11, x12, x13⟩ := HX.out.f7
        go_wp2_with fail
        refine region_tail (l1 := ?_) (o := ?_) (S := (fun W => W.cell? ⟨w.heap.size, 0, none⟩ = some (.int .i64 mn) ∧ W.cell? ⟨w2.heap.size, 5, none⟩ = some (.int .i64 nx) ∧ W.cell? ⟨w2.heap.size, 6, none⟩ = some (.slice A5 F.length c5))) ?_ ?_ (by kernel_rfl) ?_ ⟨keepD p0, keepD x5, keepD x6⟩ (fun hHeld => ?_)
        rotate_left 2
        · simp only [List.dropLast]; exact rfl
        · rfl
        · kernel_rfl
        refine wpAnyH_take (i := 0) (oi := _) (v := ?_) rfl (by kernel_rfl) (by kernel_rfl) (by kernel_rfl) (fun _ _ _ h => h) (Or.inl ⟨by rfl, ?_⟩) (by assumption) ?_
        rotate_left
        · intro w hSw; (try dsimp only at hSw); go_simp; try with_reducible rfl
        try simp only [Act.put, List.setIfInBounds_toArray, List.set_cons_zero, List.set_cons_succ]
        refine wpAnyH_take (i := 1) (oi := _) (v := ?_) rfl (by kernel_rfl) (by kernel_rfl) (by kernel_rfl) (fun _ _ _ h => h) (Or.inl ⟨by rfl, ?_⟩) (by assumption) ?_
        rotate_left
        · intro w hSw; (try dsimp only at hSw); go_simp; try with_reducible rfl
        try simp only [Act.put, List.setIfInBounds_toArray, List.set_cons_zero, List.set_cons_succ]
        refine wpAnyH_take (i := 2) (oi := _) (v := ?_) rfl (by kernel_rfl) (by kernel_rfl) (by kernel_rfl) (fun _ _ _ h => h) (Or.inl ⟨by rfl, ?_⟩) (by assumption) ?_
        rotate_left
        · intro w hSw; (try dsimp only at hSw); go_simp; try with_reducible rfl
        try simp only [Act.put, List.setIfInBounds_toArray, List.set_cons_zero, List.set_cons_succ]
        refine wpAnyH_take (i := 3) (oi := _) (v := ?_) rfl (by kernel_rfl) (by kernel_rfl) (by kernel_rfl) (fun _ _ _ h => h) (Or.inl ⟨by rfl, ?_⟩) (by assumption) ?_
        rotate_left
        · intro w hSw; (try dsimp only at hSw); go_simp; try with_reducible rfl
        try simp only [Act.put, List.setIfInBounds_toArray, List.set_cons_zero, List.set_cons_succ]
        refine wpAnyH_take (i := 4) (oi := _) (v := ?_) rfl (by kernel_rfl) (by kernel_rfl) (by kernel_rfl) (fun _ _ _ h => h) (Or.inl ⟨by rfl, ?_⟩) (by assumption) ?_
        rotate_left
        · intro w hSw; (try dsimp only at hSw); go_simp; try with_reducible rfl
        try simp only [Act.put, List.setIfInBounds_toArray, List.set_cons_zero, List.set_cons_succ]
        refine wpAnyH_take (i := 5) (oi := _) (v := ?_) rfl (by kernel_rfl) (by kernel_rfl) (by kernel_rfl) (fun _ _ _ h => h) (Or.inl ⟨by rfl, ?_⟩) (by assumption) ?_
        rotate_left
        · intro w hSw; (try dsimp only at hSw); go_simp; try with_reducible rfl
        try simp only [Act.put, List.setIfInBounds_toArray, List.set_cons_zero, List.set_cons_succ]
        refine wpAnyH_take (i := 6) (oi := _) (v := ?_) rfl (by kernel_rfl) (by kernel_rfl) (by kernel_rfl) (fun _ _ _ h => h) (Or.inl ⟨by rfl, ?_⟩) (by assumption) ?_
        rotate_left
        · intro w hSw; (try dsimp only at hSw); go_simp; try with_reducible rfl
        try simp only [Act.put, List.setIfInBounds_toArray, List.set_cons_zero, List.set_cons_succ]
        refine wpAnyH_take (i := 7) (oi := _) (v := ?_) rfl (by kernel_rfl) (by kernel_rfl) (by kernel_rfl) (fun _ _ _ h => h) (Or.inl ⟨by rfl, ?_⟩) (by assumption) ?_
        rotate_left
        · intro w hSw; (try dsimp only at hSw); go_simp; try with_reducible rfl
        try simp only [Act.put, List.setIfInBounds_toArray, List.set_cons_zero, List.set_cons_succ]
        refine wpAnyH_take (i := 8) (oi := _) (v := ?_) rfl (by kernel_rfl) (by kernel_rfl) (by kernel_rfl) (fun _ _ _ h => h) (Or.inl ⟨by rfl, ?_⟩) (by assumption) ?_
        rotate_left
        · intro w hSw; (try dsimp only at hSw); go_simp; try with_reducible rfl
        try simp only [Act.put, List.setIfInBounds_toArray, List.set_cons_zero, List.set_cons_succ]
        refine wpAnyH_take (i := 9) (oi := _) (v := ?_) rfl (by kernel_rfl) (by kernel_rfl) (by kernel_rfl) (fun _ _ _ h => h) (Or.inl ⟨by rfl, ?_⟩) (by assumption) ?_
        rotate_left
        · intro w hSw; (try dsimp only at hSw); go_simp; try with_reducible rfl
        try simp only [Act.put, List.setIfInBounds_toArray, List.set_cons_zero, List.set_cons_succ]
        refine wpAnyH_take (i := 10) (oi := _) (v := ?_) rfl (by kernel_rfl) (by kernel_rfl) (by kernel_rfl) (fun _ _ _ h => h) (Or.inl ⟨by rfl, ?_⟩) (by assumption) ?_
        rotate_left
        · intro w hSw; (try dsimp only at hSw); go_simp; try with_reducible rfl
        try simp only [Act.put, List.setIfInBounds_toArray, List.set_cons_zero, List.set_cons_succ]
        refine wpAnyH_take (i := 11) (oi := _) (v := ?_) rfl (by kernel_rfl) (by kernel_rfl) (by kernel_rfl) (fun _ _ _ h => h) (Or.inl ⟨by rfl, ?_⟩) (by assumption) ?_
        rotate_left
        · intro w hSw; (try dsimp only at hSw); go_simp; try with_reducible rfl
        try simp only [Act.put, List.setIfInBounds_toArray, List.set_cons_zero, List.set_cons_succ]
        refine wpAnyH_ready (rs := [12]) (by kernel_rfl) (by simp) ?_
        refine AllReadyH.cons (o := _) rfl (fun K hK => ?_) AllReadyH.nil
        go_simp
        go_at_call 46
        refine (HK6.out).mono ?_
        rintro e w6 ⟨v6, rfl, hown, hb⟩
        obtain ⟨A8, c8, rfl, -, -⟩ := hown.shape
        have hz6 : w5.heap.size ≤ w6.heap.size := hb.size
        have HB6 := Hd.mk (bel_step HB.out.drew hb (by exact HB.out.drew.size))
        have HX6 := Hd.mk (HX.out.drew.below hb)
        have HQ6 := Hd.mk (HQ.out.drew.below hb)
        have HP6 := Hd.mk (HP.out.drew.below hb)
        have HV6 := Hd.mk (HV.out.drew.below hb)
        have HU6 := Hd.mk (HU.out.drew.below hb)
        have HF6 := Hd.mk (fl_fp (x := ⟨en + mn + d, nx, body⟩) hown)
        obtain ⟨p0', -⟩ := HQ6.out.f7
        obtain ⟨-, -, -, -, -, x5', x6', -⟩ := HX6.out.f7
        clear hown hb
        refine hK.out _ _ ⟨p0', x5', x6'⟩ (fun hHeld => ?_)
        clear hK K
        try simp only [Act.put, List.setIfInBounds_toArray, List.set_cons_zero, List.set_cons_succ]
        refine wpAnyH_take (i := 13) (oi := _) (v := ?_) rfl (by kernel_rfl) (by kernel_rfl) (by kernel_rfl) (fun _ _ _ h => h) (Or.inl ⟨by rfl, ?_⟩) (by assumption) ?_
        rotate_left
        · intro w hSw; (try dsimp only at hSw); go_simp; try with_reducible rfl
        try simp only [Act.put, List.setIfInBounds_toArray, List.set_cons_zero, List.set_cons_succ]
        refine wpAnyH_ready (rs := [14]) (by kernel_rfl) (by simp) ?_
        refine AllReadyH.cons (o := _) rfl (fun K hK => ?_) AllReadyH.nil
        go_simp
        go_at_call 45
        refine (refInsert_calls A5 c5 F (en + mn + d) nx body A8 c8 _ _ _ HV6.out HF6.out hFl (fun i j h1 h2 => HSF.out.nth i j h1 h2)).mono ?_
        rw [← HF'.out]
        rintro e w7 ⟨v7, rfl, hown, hb⟩
        obtain ⟨A9, c9, rfl, -, -⟩ := hown.shape
        have hz7 : w6.heap.size ≤ w7.heap.size := hb.size
        have HB7 := Hd.mk (bel_step HB6.out hb (by exact HB6.out.size))
        have HX7 := Hd.mk (HX6.out.below hb)
        have HQ7 := Hd.mk (HQ6.out.below hb)
        have HP7 := Hd.mk (HP6.out.below hb)
        have HU7 := Hd.mk (HU6.out.below hb)
        have HV7 := Hd.mk (hown.V.mono (ok' := fun j => w1.heap.size ≤ j ∧ j ≠ w2.heap.size) (fun j hj => by rcases hj with (hj | hj) | hj; (exact hj.1); (have h3 := hj.1; have h4 : w5.heap.size ≤ j := h3; exact ⟨by omega, by omega⟩); (have h3 := (hown.blk j hj).1; exact ⟨by omega, by omega⟩)))
        have HX8 := Hd.mk (HX7.out.put (cs' := #[.int .i64 mn, .int .i64 mx, .int .i64 rt, .bool false, .int .i64 en, .int .i64 nx, .slice A9 F'.length c9]) 6 (.slice A9 F'.length c9) rfl)
        obtain ⟨p0'', -⟩ := HQ7.out.f7
        obtain ⟨-, -, -, -, -, x5'', x6'', -⟩ := HX7.out.f7
        obtain ⟨-, -, -, -, -, y5, -, -⟩ := HX8.out.f7
        clear hown hb
        refine hK.out _ _ ⟨p0'', x5'', x6''⟩ (fun hHeld => ?_)
        clear hK K
        try simp only [Act.put, List.setIfInBounds_toArray, List.set_cons_zero, List.set_cons_succ]
        refine wpAnyH_take (i := 15) (oi := _) (v := ?_) rfl (by kernel_rfl) (by kernel_rfl) (by kernel_rfl) (fun _ _ _ h => h) (Or.inl ⟨by rfl, ?_⟩) (by assumption) ?_
        rotate_left
        · intro w hSw; (try dsimp only at hSw); go_simp; try with_reducible rfl
        try simp only [Act.put, List.setIfInBounds_toArray, List.set_cons_zero, List.set_cons_succ]
        refine wpAnyH_done (by kernel_rfl) ?_ _
        refine tailQ_op (o := _) rfl rfl (fun K hK => ?_)
        clear p0 p1 p2 p3 p4 p5 p6 p7 p8 p9 p10 p11 p12 p13 x0 x1 x2 x3 x4 x5 x6 x7 x8 x9 x10 x11 x12 x13 HB HX HQ HP HV HU HB6 HX6 HQ6 HP6 HV6 HU6 HF6 HK6
        obtain ⟨p0, p1, p2, p3, p4, p5, p6, p7, p8, p9, p10, p11, p12, p13⟩ := HX7.out.f7
        obtain ⟨x0, x1, x2, x3, x4, x5, x6, x7, x8, x9, x10, x11, x12, x13⟩ := HX8.out.f7
        go_wp2
        go_roundw
        case rel =>
          refine ⟨k + 1, .slice A9 F'.length c9, by omega, by go_num, ⟨?_⟩, ⟨?_⟩, ⟨?_⟩, ⟨?_⟩, ⟨?_⟩, ⟨?_⟩⟩
          · rw [HST2.out]
            exact HX8.out.put (cs' := #[.int .i64 mn, .int .i64 mx, .int .i64 rt, .bool false, .int .i64 en, .int .i64 (nx + 1), .slice A9 F'.length c9]) 5 _ rfl
          · repeat (first | with_reducible exact HQ7.out | (with_reducible refine Blk.newE ?_; first | omega | (simp only [World.size_alloc, World.size_setCell, World.size_drew]; omega) | (simp; done)) | with_reducible refine Blk.alloc ?_ _ | with_reducible refine Blk.drew ?_ | with_reducible refine Blk.far ?_ (by dsimp only; omega) _)
          · repeat (first | with_reducible exact HP7.out | (with_reducible refine Blk.newE ?_; first | omega | (simp only [World.size_alloc, World.size_setCell, World.size_drew]; omega) | (simp; done)) | with_reducible refine Blk.alloc ?_ _ | with_reducible refine Blk.drew ?_ | with_reducible refine Blk.far ?_ (by dsimp only; omega) _)
          · rw [HST2.out]
            repeat (first | with_reducible exact HV7.out | with_reducible refine Kd.V.alloc ?_ _ | with_reducible refine Kd.V.drew ?_ | with_reducible refine Kd.V.far ?_ (fun j hj => by dsimp only at hj ⊢; omega) _)
          · rw [HST2.out]
            refine Kd.V.mono (ok := fun j => wr.heap.size ≤ j ∧ j < w5.heap.size) ?_ (fun j hj => ⟨by have := hj.1; omega, by have := hj.1; omega⟩)
            repeat (first | with_reducible exact HU7.out | with_reducible refine Kd.V.alloc ?_ _ | with_reducible refine Kd.V.drew ?_ | with_reducible refine Kd.V.far ?_ (fun j hj => by dsimp only at hj ⊢; omega) _)
          · repeat (first | with_reducible exact HB7.out | with_reducible refine Below.alloc ?_ (by first | omega | (simp only [World.size_alloc, World.size_setCell, World.size_drew]; omega) | (simp; done)) _ | with_reducible refine Below.drew ?_ | with_reducible refine Below.setCell ?_ (by dsimp only; omega) _)
        case measure => simp [intOf]; omega
      · have hkn : k = 1 := by omega
        have hkn2 : ¬ (k : Int) < 1 := by omega
        have HEn : Hd (r = (⟨mn, mx, rt, false, en, nx, F⟩, C, 0)) := ⟨by rw [HE.out, HITn.out hkn]⟩
        obtain ⟨x0, x1, x2, x3, x4, x5, x6, x7, x8, x9, x10, x11, x12, x13⟩ := HX.out.f7
        obtain ⟨q0, q1, q2, q3, q4, q5, q6, q7, q8, q9, q10, q11, q12, q13⟩ := HP.out.f7
        have HP2 := Hd.mk (put7 (b0 := .int .i64 mn) (b1 := .int .i64 mx) (b2 := .int .i64 rt) (b3 := .bool false) (b4 := .int .i64 (en)) (b5 := .int .i64 nx) (b6 := .slice A5 F.length c5) HP.out)
        obtain ⟨y0, y1, y2, y3, y4, y5, y6, y7, y8, y9, y10, y11, y12, y13⟩ := HP2.out.f7
        clear HST HITn HE hkn hil p0 p1 p2 p3 p4 p5 p6 p7 p8 p9 p10 p11 p12 p13
        go_wp2
        refine bodyPost_ret (v := .tuple #[.agg #[.int .i64 mn, .int .i64 mx, .int .i64 rt, .bool false, .int .i64 (en), .int .i64 nx, .slice A5 F.length c5], .slice A6 C.length c6, .int .i64 0]) (by simp [results, Try.results19, go_sem, y0, y1, y2, y3, y4, y5, y6]) rfl ?_
        rw [HEn.out]
        have hbz := HB.out.size
        refine ⟨_, _, rfl, ?_, ?_, ?_⟩
        · refine Kd.V.mono (ok := fun j => w1.heap.size ≤ j ∧ j ≠ w2.heap.size) ?_ (fun j hj => by have := hj.1; omega)
          repeat (first | with_reducible exact HV.out | with_reducible refine Kd.V.alloc ?_ _ | with_reducible refine Kd.V.drew ?_ | with_reducible refine Kd.V.far ?_ (fun j hj => by dsimp only at hj ⊢; omega) _)
        · refine Kd.V.mono (ok := fun j => w1.heap.size ≤ j ∧ j ≠ w2.heap.size) ?_ (fun j hj => .inr (by have := hj.1; omega))
          repeat (first | with_reducible exact HU.out | with_reducible refine Kd.V.alloc ?_ _ | with_reducible refine Kd.V.drew ?_ | with_reducible refine Kd.V.far ?_ (fun j hj => by dsimp only at hj ⊢; omega) _)
        · repeat (first | with_reducible exact HB.out | with_reducible refine Below.alloc ?_ (by first | omega | (simp only [World.size_alloc, World.size_setCell, World.size_drew]; omega) | (simp; done)) _ | with_reducible refine Below.drew ?_ | with_reducible refine Below.setCell ?_ (by dsimp only; omega) _)
  · obtain rfl : n = 0 := HNN.out
    clear HNN
    go_wp2
    go_loopw [16, 18] (fun ur ui wr => ∃ k v, k ≤ 0 ∧ ui = .int .i64 (k : Nat) ∧ Hd (Blk wr w2.heap.size 26 #[.int .i64 mn, .int .i64 mx, .int .i64 rt, .bool false, .int .i64 en, .int .i64 (itS (en) mn mx body k (l, next, C0)).2.1, v]) ∧ Hd (Blk wr w.heap.size 26 #[.int .i64 mn, .int .i64 mx, .int .i64 rt, .bool false, .int .i64 idle, .int .i64 next, .slice A l.length c]) ∧ Hd (Blk wr (w.heap.size + 1) 26 #[.int .i64 0, .int .i64 0, .int .i64 0, .bool false, .int .i64 0, .int .i64 0, .slice none 0 0]) ∧ Hd (fls.V wr (fun j => w1.heap.size ≤ j ∧ j ≠ w2.heap.size) v (itS (en) mn mx body k (l, next, C0)).1) ∧ Hd ((ints .i64).V wr (fun j => w1.heap.size ≤ j ∧ j ≠ w2.heap.size) ur (itS (en) mn mx body k (l, next, C0)).2.2) ∧ Hd (Below w.heap.size w wr)) (fun _ ui _ => 0 - (intOf ui).toNat)
    case atStart => exact ⟨0, _, Nat.zero_le _, rfl, HX, HQ, HP, ⟨HV.out.mono (fun j hj => ⟨by have := hj.1; omega, by have := hj.2; omega⟩)⟩, ⟨HU.out.mono (fun j hj => ⟨by have := hj.1; omega, by have := hj.1; omega⟩)⟩, HB⟩
    case round =>
      clear HX HQ HP HV HU HB
      obtain ⟨k, v, hk, rfl, HX, HQ, HP, HV, HU, HB⟩ := hrel
      have hil := itS_len (en) mn mx body k (l, next, C0)
      have hsr := itS_srt (en) mn mx body k (l, next, C0) HSR.out
      have hst : itS (en) mn mx body (k + 1) (l, next, C0) = stepS (en) mn mx body (itS (en) mn mx body k (l, next, C0)) := rfl
      have HITn : Hd (k = 0 → (itS (en) mn mx body 0 (l, next, C0)) = (itS (en) mn mx body k (l, next, C0))) := ⟨fun h => by rw [h]⟩
      obtain ⟨S, hS⟩ : ∃ S, S = itS (en) mn mx body k (l, next, C0) := ⟨_, rfl⟩
      rw [← hS] at HX HV HU hil hst HITn hsr
      clear hS
      rcases S with ⟨F, nx, C⟩
      dsimp only at HX HV HU hil hsr
      have HST := Hd.mk hst
      have HSF := Hd.mk hsr
      have hCl : C.length ≤ 1048576 := by have := hil.2.2; omega
      have hnx : 0 ≤ nx ∧ nx ≤ 1073741824 := by have := hil.2.1; omega
      clear hst hsr
      obtain ⟨A5, c5, rfl, hc5, -⟩ := HV.out.reads
      obtain ⟨A6, c6, rfl, hc6, -⟩ := HU.out.reads
      obtain ⟨p0, p1, p2, p3, p4, p5, p6, p7, p8, p9, p10, p11, p12, p13⟩ := HQ.out.f7
      have hxlt := HX.out.lt
      have hplt := HP.out.lt
      by_cases hlt : k < 0
      · omega
      · have hkn : k = 0 := by omega
        have hkn2 : ¬ (k : Int) < 0 := by omega
        have HEn : Hd (r = (⟨mn, mx, rt, false, en, nx, F⟩, C, 0)) := ⟨by rw [HE.out, HITn.out hkn]⟩
        obtain ⟨x0, x1, x2, x3, x4, x5, x6, x7, x8, x9, x10, x11, x12, x13⟩ := HX.out.f7
        obtain ⟨q0, q1, q2, q3, q4, q5, q6, q7, q8, q9, q10, q11, q12, q13⟩ := HP.out.f7
        have HP2 := Hd.mk (put7 (b0 := .int .i64 mn) (b1 := .int .i64 mx) (b2 := .int .i64 rt) (b3 := .bool false) (b4 := .int .i64 (en)) (b5 := .int .i64 nx) (b6 := .slice A5 F.length c5) HP.out)
        obtain ⟨y0, y1, y2, y3, y4, y5, y6, y7, y8, y9, y10, y11, y12, y13⟩ := HP2.out.f7
        clear HST HITn HE hkn hil p0 p1 p2 p3 p4 p5 p6 p7 p8 p9 p10 p11 p12 p13
        go_wp2
        refine bodyPost_ret (v := .tuple #[.agg #[.int .i64 mn, .int .i64 mx, .int .i64 rt, .bool false, .int .i64 (en), .int .i64 nx, .slice A5 F.length c5], .slice A6 C.length c6, .int .i64 0]) (by simp [results, Try.results19, go_sem, y0, y1, y2, y3, y4, y5, y6]) rfl ?_
        rw [HEn.out]
        have hbz := HB.out.size
        refine ⟨_, _, rfl, ?_, ?_, ?_⟩
        · refine Kd.V.mono (ok := fun j => w1.heap.size ≤ j ∧ j ≠ w2.heap.size) ?_ (fun j hj => by have := hj.1; omega)
          repeat (first | with_reducible exact HV.out | with_reducible refine Kd.V.alloc ?_ _ | with_reducible refine Kd.V.drew ?_ | with_reducible refine Kd.V.far ?_ (fun j hj => by dsimp only at hj ⊢; omega) _)
        · refine Kd.V.mono (ok := fun j => w1.heap.size ≤ j ∧ j ≠ w2.heap.size) ?_ (fun j hj => .inr (by have := hj.1; omega))
          repeat (first | with_reducible exact HU.out | with_reducible refine Kd.V.alloc ?_ _ | with_reducible refine Kd.V.drew ?_ | with_reducible refine Kd.V.far ?_ (fun j hj => by dsimp only at hj ⊢; omega) _)
        · repeat (first | with_reducible exact HB.out | with_reducible refine Below.alloc ?_ (by first | omega | (simp only [World.size_alloc, World.size_setCell, World.size_drew]; omega) | (simp; done)) _ | with_reducible refine Below.drew ?_ | with_reducible refine Below.setCell ?_ (by dsimp only; omega) _)
  · obtain rfl : n = 2 := HNN.out
    clear HNN
    go_wp2
    go_loopw [16, 18] (fun ur ui wr => ∃ k v, k ≤ 2 ∧ ui = .int .i64 (k : Nat) ∧ Hd (Blk wr w2.heap.size 26 #[.int .i64 mn, .int .i64 mx, .int .i64 rt, .bool false, .int .i64 en, .int .i64 (itS (en) mn mx body k (l, next, C0)).2.1, v]) ∧ Hd (Blk wr w.heap.size 26 #[.int .i64 mn, .int .i64 mx, .int .i64 rt, .bool false, .int .i64 idle, .int .i64 next, .slice A l.length c]) ∧ Hd (Blk wr (w.heap.size + 1) 26 #[.int .i64 0, .int .i64 0, .int .i64 0, .bool false, .int .i64 0, .int .i64 0, .slice none 0 0]) ∧ Hd (fls.V wr (fun j => w1.heap.size ≤ j ∧ j ≠ w2.heap.size) v (itS (en) mn mx body k (l, next, C0)).1) ∧ Hd ((ints .i64).V wr (fun j => w1.heap.size ≤ j ∧ j ≠ w2.heap.size) ur (itS (en) mn mx body k (l, next, C0)).2.2) ∧ Hd (Below w.heap.size w wr)) (fun _ ui _ => 2 - (intOf ui).toNat)
    case atStart => exact ⟨0, _, Nat.zero_le _, rfl, HX, HQ, HP, ⟨HV.out.mono (fun j hj => ⟨by have := hj.1; omega, by have := hj.2; omega⟩)⟩, ⟨HU.out.mono (fun j hj => ⟨by have := hj.1; omega, by have := hj.1; omega⟩)⟩, HB⟩
    case round =>
      clear HX HQ HP HV HU HB
      obtain ⟨k, v, hk, rfl, HX, HQ, HP, HV, HU, HB⟩ := hrel
      have hil := itS_len (en) mn mx body k (l, next, C0)
      have hsr := itS_srt (en) mn mx body k (l, next, C0) HSR.out
      have hst : itS (en) mn mx body (k + 1) (l, next, C0) = stepS (en) mn mx body (itS (en) mn mx body k (l, next, C0)) := rfl
      have HITn : Hd (k = 2 → (itS (en) mn mx body 2 (l, next, C0)) = (itS (en) mn mx body k (l, next, C0))) := ⟨fun h => by rw [h]⟩
      obtain ⟨S, hS⟩ : ∃ S, S = itS (en) mn mx body k (l, next, C0) := ⟨_, rfl⟩
      rw [← hS] at HX HV HU hil hst HITn hsr
      clear hS
      rcases S with ⟨F, nx, C⟩
      dsimp only at HX HV HU hil hsr
      have HST := Hd.mk hst
      have HSF := Hd.mk hsr
      have hCl : C.length ≤ 1048576 := by have := hil.2.2; omega
      have hnx : 0 ≤ nx ∧ nx ≤ 1073741824 := by have := hil.2.1; omega
      clear hst hsr
      obtain ⟨A5, c5, rfl, hc5, -⟩ := HV.out.reads
      obtain ⟨A6, c6, rfl, hc6, -⟩ := HU.out.reads
      obtain ⟨p0, p1, p2, p3, p4, p5, p6, p7, p8, p9, p10, p11, p12, p13⟩ := HQ.out.f7
      have hxlt := HX.out.lt
      have hplt := HP.out.lt
      by_cases hlt : k < 2
      · obtain ⟨d, hd⟩ : ∃ d, d = decI C (mx - mn + 1) := ⟨_, rfl⟩
        have hdb := decI_lt C (mx - mn + 1) (by omega)
        rw [← hd] at hdb
        have hv1 : IntKind.i64.wrap (mx - mn) = mx - mn := IntWalk.i64_in _ (by omega)
        have hv2 : IntKind.i64.wrap (mx - mn + 1) = mx - mn + 1 := IntWalk.i64_in _ (by omega)
        have hv3 : IntKind.i64.wrap (en + mn) = en + mn := IntWalk.i64_in _ (by omega)
        have hv4 : IntKind.i64.wrap (en + mn + d) = en + mn + d := IntWalk.i64_in _ (by omega)
        have hv5 : IntKind.i64.wrap (nx + 1) = nx + 1 := IntWalk.i64_in _ (by omega)
        have hFl : F.length ≤ 4096 := by omega
        obtain ⟨F', hF'⟩ : ∃ F', F' = F.take (placeL F (en + mn + d)) ++ (⟨en + mn + d, nx, body⟩ : Fl) :: F.drop (placeL F (en + mn + d)) := ⟨_, rfl⟩
        have HST2 : Hd (itS (en) mn mx body (k + 1) (l, next, C0) = (F', nx + 1, C.drop 1)) := ⟨by rw [HST.out, stepS, hF', hd]; simp only [Int.add_assoc]⟩
        have HD := Hd.mk hd
        have HF' := Hd.mk hF'
        have hkn : (k : Int) < 2 := by omega
        clear hF' hd HST hil
        go_wp2_with fail
        refine (refDecide_calls A6 c6 C (mx - mn + 1) wr HU.out.C hc6 hCl (by omega) (by omega)).mono ?_
        rw [← HD.out]
        rintro e w5 ⟨u, rfl, hown, hb⟩
        obtain ⟨C', hC'⟩ : ∃ C', C' = C.drop 1 := ⟨_, rfl⟩
        rw [← hC'] at hown HST2
        obtain ⟨A7, c7, rfl, hc7, -⟩ := hown.shape
        replace HB := Hd.mk (bel_step HB.out hb (by omega))
        replace HX := Hd.mk (HX.out.below hb)
        replace HQ := Hd.mk (HQ.out.below hb)
        replace HP := Hd.mk (HP.out.below hb)
        replace HV := Hd.mk (HV.out.bound.below hb)
        replace HU : Hd ((ints .i64).V w5 (fun j => wr.heap.size ≤ j ∧ j < w5.heap.size) (.slice A7 C'.length c7) C') := ⟨hown.Vin (fun _ h => h.elim)⟩
        have hz5 := hb.size
        have HK6 : Hd (Calls Try.prog 46 #[.slice A0 body.length c0] w5.drew fun e w' => ∃ v, e = .returned v ∧ (ints .u8).Own 5 w' w5.drew.heap.size (fun _ => False) v body ∧ Below w5.drew.heap.size w5.drew w') := ⟨refCopied_calls A0 c0 body w5.drew (HRb.out.below HB.out.drew) hc0 (by omega)⟩
        clear hb hown HD hC' p0 p1 p2 p3 p4 p5 p6 p7 p8 p9 p10 p11 p12 p13
        obtain ⟨p0, p1, p2, p3, p4, p5, p6, p7, p8, p9, p10, p11, p12, p13⟩ := HQ.out.f7
        obtain ⟨x0, x1, x2, x3, x4, x5, x6, x7, x8, x9, x10, x11, x12, x13⟩ := HX.out.f7
        go_wp2_with fail
        refine region_tail (l1 := ?_) (o := ?_) (S := (fun W => W.cell? ⟨w.heap.size, 0, none⟩ = some (.int .i64 mn) ∧ W.cell? ⟨w2.heap.size, 5, none⟩ = some (.int .i64 nx) ∧ W.cell? ⟨w2.heap.size, 6, none⟩ = some (.slice A5 F.length c5))) ?_ ?_ (by kernel_rfl) ?_ ⟨keepD p0, keepD x5, keepD x6⟩ (fun hHeld => ?_)
        rotate_left 2
        · simp only [List.dropLast]; exact rfl
        · rfl
        · kernel_rfl
        refine wpAnyH_take (i := 0) (oi := _) (v := ?_) rfl (by kernel_rfl) (by kernel_rfl) (by kernel_rfl) (fun _ _ _ h => h) (Or.inl ⟨by rfl, ?_⟩) (by assumption) ?_
        rotate_left
        · intro w hSw; (try dsimp only at hSw); go_simp; try with_reducible rfl
        try simp only [Act.put, List.setIfInBounds_toArray, List.set_cons_zero, List.set_cons_succ]
        refine wpAnyH_take (i := 1) (oi := _) (v := ?_) rfl (by kernel_rfl) (by kernel_rfl) (by kernel_rfl) (fun _ _ _ h => h) (Or.inl ⟨by rfl, ?_⟩) (by assumption) ?_
        rotate_left
        · intro w hSw; (try dsimp only at hSw); go_simp; try with_reducible rfl
        try simp only [Act.put, List.setIfInBounds_toArray, List.set_cons_zero, List.set_cons_succ]
        refine wpAnyH_take (i := 2) (oi := _) (v := ?_) rfl (by kernel_rfl) (by kernel_rfl) (by kernel_rfl) (fun _ _ _ h => h) (Or.inl ⟨by rfl, ?_⟩) (by assumption) ?_
        rotate_left
        · intro w hSw; (try dsimp only at hSw); go_simp; try with_reducible rfl
        try simp only [Act.put, List.setIfInBounds_toArray, List.set_cons_zero, List.set_cons_succ]
        refine wpAnyH_take (i := 3) (oi := _) (v := ?_) rfl (by kernel_rfl) (by kernel_rfl) (by kernel_rfl) (fun _ _ _ h => h) (Or.inl ⟨by rfl, ?_⟩) (by assumption) ?_
        rotate_left
        · intro w hSw; (try dsimp only at hSw); go_simp; try with_reducible rfl
        try simp only [Act.put, List.setIfInBounds_toArray, List.set_cons_zero, List.set_cons_succ]
        refine wpAnyH_take (i := 4) (oi := _) (v := ?_) rfl (by kernel_rfl) (by kernel_rfl) (by kernel_rfl) (fun _ _ _ h => h) (Or.inl ⟨by rfl, ?_⟩) (by assumption) ?_
        rotate_left
        · intro w hSw; (try dsimp only at hSw); go_simp; try with_reducible rfl
        try simp only [Act.put, List.setIfInBounds_toArray, List.set_cons_zero, List.set_cons_succ]
        refine wpAnyH_take (i := 5) (oi := _) (v := ?_) rfl (by kernel_rfl) (by kernel_rfl) (by kernel_rfl) (fun _ _ _ h => h) (Or.inl ⟨by rfl, ?_⟩) (by assumption) ?_
        rotate_left
        · intro w hSw; (try dsimp only at hSw); go_simp; try with_reducible rfl
        try simp only [Act.put, List.setIfInBounds_toArray, List.set_cons_zero, List.set_cons_succ]
        refine wpAnyH_take (i := 6) (oi := _) (v := ?_) rfl (by kernel_rfl) (by kernel_rfl) (by kernel_rfl) (fun _ _ _ h => h) (Or.inl ⟨by rfl, ?_⟩) (by assumption) ?_
        rotate_left
        · intro w hSw; (try dsimp only at hSw); go_simp; try with_reducible rfl
        try simp only [Act.put, List.setIfInBounds_toArray, List.set_cons_zero, List.set_cons_succ]
        refine wpAnyH_take (i := 7) (oi := _) (v := ?_) rfl (by kernel_rfl) (by kernel_rfl) (by kernel_rfl) (fun _ _ _ h => h) (Or.inl ⟨by rfl, ?_⟩) (by assumption) ?_
        rotate_left
        · intro w hSw; (try dsimp only at hSw); go_simp; try with_reducible rfl
        try simp only [Act.put, List.setIfInBounds_toArray, List.set_cons_zero, List.set_cons_succ]
        refine wpAnyH_take (i := 8) (oi := _) (v := ?_) rfl (by kernel_rfl) (by kernel_rfl) (by kernel_rfl) (fun _ _ _ h => h) (Or.inl ⟨by rfl, ?_⟩) (by assumption) ?_
        rotate_left
        · intro w hSw; (try dsimp only at hSw); go_simp; try with_reducible rfl
        try simp only [Act.put, List.setIfInBounds_toArray, List.set_cons_zero, List.set_cons_succ]
        refine wpAnyH_take (i := 9) (oi := _) (v := ?_) rfl (by kernel_rfl) (by kernel_rfl) (by kernel_rfl) (fun _ _ _ h => h) (Or.inl ⟨by rfl, ?_⟩) (by assumption) ?_
        rotate_left
        · intro w hSw; (try dsimp only at hSw); go_simp; try with_reducible rfl
        try simp only [Act.put, List.setIfInBounds_toArray, List.set_cons_zero, List.set_cons_succ]
        refine wpAnyH_take (i := 10) (oi := _) (v := ?_) rfl (by kernel_rfl) (by kernel_rfl) (by kernel_rfl) (fun _ _ _ h => h) (Or.inl ⟨by rfl, ?_⟩) (by assumption) ?_
        rotate_left
        · intro w hSw; (try dsimp only at hSw); go_simp; try with_reducible rfl
        try simp only [Act.put, List.setIfInBounds_toArray, List.set_cons_zero, List.set_cons_succ]
        refine wpAnyH_take (i := 11) (oi := _) (v := ?_) rfl (by kernel_rfl) (by kernel_rfl) (by kernel_rfl) (fun _ _ _ h => h) (Or.inl ⟨by rfl, ?_⟩) (by assumption) ?_
        rotate_left
        · intro w hSw; (try dsimp only at hSw); go_simp; try with_reducible rfl
        try simp only [Act.put, List.setIfInBounds_toArray, List.set_cons_zero, List.set_cons_succ]
        refine wpAnyH_ready (rs := [12]) (by kernel_rfl) (by simp) ?_
        refine AllReadyH.cons (o := _) rfl (fun K hK => ?_) AllReadyH.nil
        go_simp
        go_at_call 46
        refine (HK6.out).mono ?_
        rintro e w6 ⟨v6, rfl, hown, hb⟩
        obtain ⟨A8, c8, rfl, -, -⟩ := hown.shape
        have hz6 : w5.heap.size ≤ w6.heap.size := hb.size
        have HB6 := Hd.mk (bel_step HB.out.drew hb (by exact HB.out.drew.size))
        have HX6 := Hd.mk (HX.out.drew.below hb)
        have HQ6 := Hd.mk (HQ.out.drew.below hb)
        have HP6 := Hd.mk (HP.out.drew.below hb)
        have HV6 := Hd.mk (HV.out.drew.below hb)
        have HU6 := Hd.mk (HU.out.drew.below hb)
        have HF6 := Hd.mk (fl_fp (x := ⟨en + mn + d, nx, body⟩) hown)
        obtain ⟨p0', -⟩ := HQ6.out.f7
        obtain ⟨-, -, -, -, -, x5', x6', -⟩ := HX6.out.f7
        clear hown hb
        refine hK.out _ _ ⟨p0', x5', x6'⟩ (fun hHeld => ?_)
        clear hK K
        try simp only [Act.put, List.setIfInBounds_toArray, List.set_cons_zero, List.set_cons_succ]
        refine wpAnyH_take (i := 13) (oi := _) (v := ?_) rfl (by kernel_rfl) (by kernel_rfl) (by kernel_rfl) (fun _ _ _ h => h) (Or.inl ⟨by rfl, ?_⟩) (by assumption) ?_
        rotate_left
        · intro w hSw; (try dsimp only at hSw); go_simp; try with_reducible rfl
        try simp only [Act.put, List.setIfInBounds_toArray, List.set_cons_zero, List.set_cons_succ]
        refine wpAnyH_ready (rs := [14]) (by kernel_rfl) (by simp) ?_
        refine AllReadyH.cons (o := _) rfl (fun K hK => ?_) AllReadyH.nil
        go_simp
        go_at_call 45
        refine (refInsert_calls A5 c5 F (en + mn + d) nx body A8 c8 _ _ _ HV6.out HF6.out hFl (fun i j h1 h2 => HSF.out.nth i j h1 h2)).mono ?_
        rw [← HF'.out]
        rintro e w7 ⟨v7, rfl, hown, hb⟩
        obtain ⟨A9, c9, rfl, -, -⟩ := hown.shape
        have hz7 : w6.heap.size ≤ w7.heap.size := hb.size
        have HB7 := Hd.mk (bel_step HB6.out hb (by exact HB6.out.size))
        have HX7 := Hd.mk (HX6.out.below hb)
        have HQ7 := Hd.mk (HQ6.out.below hb)
        have HP7 := Hd.mk (HP6.out.below hb)
        have HU7 := Hd.mk (HU6.out.below hb)
        have HV7 := Hd.mk (hown.V.mono (ok' := fun j => w1.heap.size ≤ j ∧ j ≠ w2.heap.size) (fun j hj => by rcases hj with (hj | hj) | hj; (exact hj.1); (have h3 := hj.1; have h4 : w5.heap.size ≤ j := h3; exact ⟨by omega, by omega⟩); (have h3 := (hown.blk j hj).1; exact ⟨by omega, by omega⟩)))
        have HX8 := Hd.mk (HX7.out.put (cs' := #[.int .i64 mn, .int .i64 mx, .int .i64 rt, .bool false, .int .i64 en, .int .i64 nx, .slice A9 F'.length c9]) 6 (.slice A9 F'.length c9) rfl)
        obtain ⟨p0'', -⟩ := HQ7.out.f7
        obtain ⟨-, -, -, -, -, x5'', x6'', -⟩ := HX7.out.f7
        obtain ⟨-, -, -, -, -, y5, -, -⟩ := HX8.out.f7
        clear hown hb
        refine hK.out _ _ ⟨p0'', x5'', x6''⟩ (fun hHeld => ?_)
        clear hK K
        try simp only [Act.put, List.setIfInBounds_toArray, List.set_cons_zero, List.set_cons_succ]
        refine wpAnyH_take (i := 15) (oi := _) (v := ?_) rfl (by kernel_rfl) (by kernel_rfl) (by kernel_rfl) (fun _ _ _ h => h) (Or.inl ⟨by rfl, ?_⟩) (by assumption) ?_
        rotate_left
        · intro w hSw; (try dsimp only at hSw); go_simp; try with_reducible rfl
        try simp only [Act.put, List.setIfInBounds_toArray, List.set_cons_zero, List.set_cons_succ]
        refine wpAnyH_done (by kernel_rfl) ?_ _
        refine tailQ_op (o := _) rfl rfl (fun K hK => ?_)
        clear p0 p1 p2 p3 p4 p5 p6 p7 p8 p9 p10 p11 p12 p13 x0 x1 x2 x3 x4 x5 x6 x7 x8 x9 x10 x11 x12 x13 HB HX HQ HP HV HU HB6 HX6 HQ6 HP6 HV6 HU6 HF6 HK6
        obtain ⟨p0, p1, p2, p3, p4, p5, p6, p7, p8, p9, p10, p11, p12, p13⟩ := HX7.out.f7
        obtain ⟨x0, x1, x2, x3, x4, x5, x6, x7, x8, x9, x10, x11, x12, x13⟩ := HX8.out.f7
        go_wp2
        go_roundw
        case rel =>
          refine ⟨k + 1, .slice A9 F'.length c9, by omega, by go_num, ⟨?_⟩, ⟨?_⟩, ⟨?_⟩, ⟨?_⟩, ⟨?_⟩, ⟨?_⟩⟩
          · rw [HST2.out]
            exact HX8.out.put (cs' := #[.int .i64 mn, .int .i64 mx, .int .i64 rt, .bool false, .int .i64 en, .int .i64 (nx + 1), .slice A9 F'.length c9]) 5 _ rfl
          · repeat (first | with_reducible exact HQ7.out | (with_reducible refine Blk.newE ?_; first | omega | (simp only [World.size_alloc, World.size_setCell, World.size_drew]; omega) | (simp; done)) | with_reducible refine Blk.alloc ?_ _ | with_reducible refine Blk.drew ?_ | with_reducible refine Blk.far ?_ (by dsimp only; omega) _)
          · repeat (first | with_reducible exact HP7.out | (with_reducible refine Blk.newE ?_; first | omega | (simp only [World.size_alloc, World.size_setCell, World.size_drew]; omega) | (simp; done)) | with_reducible refine Blk.alloc ?_ _ | with_reducible refine Blk.drew ?_ | with_reducible refine Blk.far ?_ (by dsimp only; omega) _)
          · rw [HST2.out]
            repeat (first | with_reducible exact HV7.out | with_reducible refine Kd.V.alloc ?_ _ | with_reducible refine Kd.V.drew ?_ | with_reducible refine Kd.V.far ?_ (fun j hj => by dsimp only at hj ⊢; omega) _)
          · rw [HST2.out]
            refine Kd.V.mono (ok := fun j => wr.heap.size ≤ j ∧ j < w5.heap.size) ?_ (fun j hj => ⟨by have := hj.1; omega, by have := hj.1; omega⟩)
            repeat (first | with_reducible exact HU7.out | with_reducible refine Kd.V.alloc ?_ _ | with_reducible refine Kd.V.drew ?_ | with_reducible refine Kd.V.far ?_ (fun j hj => by dsimp only at hj ⊢; omega) _)
          · repeat (first | with_reducible exact HB7.out | with_reducible refine Below.alloc ?_ (by first | omega | (simp only [World.size_alloc, World.size_setCell, World.size_drew]; omega) | (simp; done)) _ | with_reducible refine Below.drew ?_ | with_reducible refine Below.setCell ?_ (by dsimp only; omega) _)
        case measure => simp [intOf]; omega
      · have hkn : k = 2 := by omega
        have hkn2 : ¬ (k : Int) < 2 := by omega
        have HEn : Hd (r = (⟨mn, mx, rt, false, en, nx, F⟩, C, 0)) := ⟨by rw [HE.out, HITn.out hkn]⟩
        obtain ⟨x0, x1, x2, x3, x4, x5, x6, x7, x8, x9, x10, x11, x12, x13⟩ := HX.out.f7
        obtain ⟨q0, q1, q2, q3, q4, q5, q6, q7, q8, q9, q10, q11, q12, q13⟩ := HP.out.f7
        have HP2 := Hd.mk (put7 (b0 := .int .i64 mn) (b1 := .int .i64 mx) (b2 := .int .i64 rt) (b3 := .bool false) (b4 := .int .i64 (en)) (b5 := .int .i64 nx) (b6 := .slice A5 F.length c5) HP.out)
        obtain ⟨y0, y1, y2, y3, y4, y5, y6, y7, y8, y9, y10, y11, y12, y13⟩ := HP2.out.f7
        clear HST HITn HE hkn hil p0 p1 p2 p3 p4 p5 p6 p7 p8 p9 p10 p11 p12 p13
        go_wp2
        refine bodyPost_ret (v := .tuple #[.agg #[.int .i64 mn, .int .i64 mx, .int .i64 rt, .bool false, .int .i64 (en), .int .i64 nx, .slice A5 F.length c5], .slice A6 C.length c6, .int .i64 0]) (by simp [results, Try.results19, go_sem, y0, y1, y2, y3, y4, y5, y6]) rfl ?_
        rw [HEn.out]
        have hbz := HB.out.size
        refine ⟨_, _, rfl, ?_, ?_, ?_⟩
        · refine Kd.V.mono (ok := fun j => w1.heap.size ≤ j ∧ j ≠ w2.heap.size) ?_ (fun j hj => by have := hj.1; omega)
          repeat (first | with_reducible exact HV.out | with_reducible refine Kd.V.alloc ?_ _ | with_reducible refine Kd.V.drew ?_ | with_reducible refine Kd.V.far ?_ (fun j hj => by dsimp only at hj ⊢; omega) _)
        · refine Kd.V.mono (ok := fun j => w1.heap.size ≤ j ∧ j ≠ w2.heap.size) ?_ (fun j hj => .inr (by have := hj.1; omega))
          repeat (first | with_reducible exact HU.out | with_reducible refine Kd.V.alloc ?_ _ | with_reducible refine Kd.V.drew ?_ | with_reducible refine Kd.V.far ?_ (fun j hj => by dsimp only at hj ⊢; omega) _)
        · repeat (first | with_reducible exact HB.out | with_reducible refine Below.alloc ?_ (by first | omega | (simp only [World.size_alloc, World.size_setCell, World.size_drew]; omega) | (simp; done)) _ | with_reducible refine Below.drew ?_ | with_reducible refine Below.setCell ?_ (by dsimp only; omega) _)
end Go.Proofs.Ytkgkiencikmhfaa.B
