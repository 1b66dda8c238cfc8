/- What this text holds: the contract of link.Send. -/
import Derived.Test.YtkgkiencikmhfaaS1
set_option linter.unusedVariables false
set_option linter.unusedSimpArgs false
namespace Go.Proofs.Ytkgkiencikmhfaa.B
open Go.RowKit

set_option maxRecDepth 100000 in
set_option maxHeartbeats 4000000 in
theorem send_calls (mn mx rt : Int) (dn : Bool) (idle next : Int) (A : Option Addr) (c : Nat) (l : List Fl) (now : Int) (A0 : Option Addr) (c0 : Nat) (body : List Int) (A1 : Option Addr) (c1 : Nat) (ch : List Int) (w : World)
    (hr : fls.C w A l) (hc : l.length ≤ c) (hr0 : (ints .u8).C w A0 body) (hc0 : body.length ≤ c0) (hr1 : (ints .i64).C w A1 ch) (hc1 : ch.length ≤ c1) (hch : ch.length ≤ 1048576) :
    Calls Try.prog 18 #[.agg #[.int .i64 mn, .int .i64 mx, .int .i64 rt, .bool dn, .int .i64 idle, .int .i64 next, .slice A l.length c], .int .i64 now, .slice A0 body.length c0, .slice A1 ch.length c1] w (SendPost w (sendF mn mx rt dn idle next l now body ch)) := by
  have hu26 := Try.underlying26
  have hu23 := Try.underlying23
  have hu69 := Try.underlying69
  have HRl := Hd.mk hr
  have HRb := Hd.mk hr0
  have HRc := Hd.mk hr1
  have hbm := hr0.1
  clear hr hr0 hr1
  obtain ⟨r, hrr⟩ : ∃ r, r = sendF mn mx rt dn idle next l now body ch := ⟨_, rfl⟩
  rw [← hrr]
  have HF := Hd.mk hrr
  clear hrr
  obtain ⟨er, her⟩ : ∃ er, er = chkL mn mx rt dn idle next l := ⟨_, rfl⟩
  have HER := Hd.mk her
  clear her
  obtain ⟨bn, hbn⟩ : ∃ b, betw now 0 1073741824 = b := ⟨_, rfl⟩
  have HN := Hd.mk hbn
  clear hbn
  have HB : Hd (Below w.heap.size w ((w.alloc (.cells #[.int .i64 mn, .int .i64 mx, .int .i64 rt, .bool dn, .int .i64 idle, .int .i64 next, .slice A l.length c] 26)).alloc (.cells #[.int .i64 0, .int .i64 0, .int .i64 0, .bool false, .int .i64 0, .int .i64 0, .slice none 0 0] 26))) := ⟨by go_grown⟩
  have hq := (Blk.new w 26 #[.int .i64 mn, .int .i64 mx, .int .i64 rt, .bool dn, .int .i64 idle, .int .i64 next, .slice A l.length c]).alloc (.cells #[.int .i64 0, .int .i64 0, .int .i64 0, .bool false, .int .i64 0, .int .i64 0, .slice none 0 0] 26)
  have hp := Blk.new (w.alloc (.cells #[.int .i64 mn, .int .i64 mx, .int .i64 rt, .bool dn, .int .i64 idle, .int .i64 next, .slice A l.length c] 26)) 26 #[.int .i64 0, .int .i64 0, .int .i64 0, .bool false, .int .i64 0, .int .i64 0, .slice none 0 0]
  rw [World.size_alloc] at hp
  have HQ := Hd.mk hq
  have HP := Hd.mk hp
  clear hq hp
  go_enter Try.func18, Try.ntmps18
  go_wp2_with fail
  refine (check_calls mn mx rt dn idle next A c l _ (HRl.out.below HB.out) hc).mono ?_
  rw [← HER.out]
  rintro e w1 ⟨rfl, hb⟩
  have HBW := Hd.mk (bstep HB.out (Nat.le_refl _) hb)
  have HQ1 := Hd.mk (HQ.out.below hb)
  have HP1 := Hd.mk (HP.out.below hb)
  have hplt := HP1.out.lt
  obtain ⟨p0, p1, p2, p3, p4, p5, p6, p7, p8, p9, p10, p11, p12, p13⟩ := HQ1.out.f7
  obtain ⟨q0, q1, q2, q3, q4, q5, q6, q7, q8, q9, q10, q11, q12, q13⟩ := HP1.out.f7
  clear hb HB HQ HP
  by_cases h : er = 0
  · subst h
    have H0 : Hd (chkL mn mx rt dn idle next l = 0) := ⟨HER.out.symm⟩
    have hok := chkL_ok H0.out
    obtain ⟨⟨k0, k1, k2, k3, k4⟩, ⟨k5, k6⟩, ⟨k7, k8⟩, k9, k10, -⟩ := hok
    have HS := Hd.mk (chkL_small H0.out)
    have HD := Hd.mk k10
    clear k10
    cases bn
    · have HE : Hd (r = (lk0, [], 24)) := ⟨by rw [HF.out, sendF, if_neg (by rw [H0.out]; decide), if_pos HN.out]⟩
      go_wp2_with (first | (go_at_call 35; refine (between_calls _ _ _ _).mono ?_; rintro e w' ⟨rfl, rfl⟩; rw [HN.out]))
      refine bodyPost_ret (v := .tuple #[.agg #[.int .i64 0, .int .i64 0, .int .i64 0, .bool false, .int .i64 0, .int .i64 0, .slice none 0 0], .slice none 0 0, .int .i64 (24)]) (by simp [results, Try.results18, go_sem, q0, q1, q2, q3, q4, q5, q6]) rfl ?_
      rw [HE.out]
      refine ⟨_, _, rfl, Kd.V.nil, Kd.V.nil, ?_⟩
      have h2 := HBW.out
      repeat (first | (with_reducible exact h2) | (with_reducible refine Below.setCell ?_ (by dsimp only; omega) _))

    have hnow : 0 ≤ now ∧ now ≤ 1073741824 := by have := HN.out; simp [betw] at this; omega
    by_cases h5 : 65536 < body.length
    · have h5b : decide ((65536 : Int) < body.length) = true := decide_eq_true (by omega)
      have HE : Hd (r = (lk0, [], 5)) := ⟨by rw [HF.out, sendF, if_neg (by rw [H0.out]; decide), if_neg (by rw [HN.out]; decide), if_pos h5]⟩
      go_wp2_with (first | (go_at_call 35; refine (between_calls _ _ _ _).mono ?_; rintro e w' ⟨rfl, rfl⟩; rw [HN.out]))
      refine bodyPost_ret (v := .tuple #[.agg #[.int .i64 0, .int .i64 0, .int .i64 0, .bool false, .int .i64 0, .int .i64 0, .slice none 0 0], .slice none 0 0, .int .i64 (5)]) (by simp [results, Try.results18, go_sem, q0, q1, q2, q3, q4, q5, q6]) rfl ?_
      rw [HE.out]
      refine ⟨_, _, rfl, Kd.V.nil, Kd.V.nil, ?_⟩
      have h2 := HBW.out
      repeat (first | (with_reducible exact h2) | (with_reducible refine Below.setCell ?_ (by dsimp only; omega) _))

    have h5b : decide ((65536 : Int) < body.length) = false := decide_eq_false (by omega)
    cases dn
    · obtain ⟨tk, htk⟩ : ∃ tk, tk = ticksF body.length rt := ⟨_, rfl⟩
      have htb := ticksF_le body.length rt (by omega) k3
      rw [← htk] at htb
      obtain ⟨m0, hm0⟩ : ∃ m0, m0 = max now idle := ⟨_, rfl⟩
      have hmb : 0 ≤ m0 ∧ m0 ≤ 1073741824 := by rw [hm0]; omega
      have w10 : IntKind.i64.wrap (m0 + tk) = m0 + tk := IntWalk.i64_in _ (by omega)
      have w11 : IntKind.i64.wrap (m0 + tk + mx) = m0 + tk + mx := IntWalk.i64_in _ (by omega)
      have hmx2 : (if now < idle then idle else now) = m0 := by rw [hm0]; split <;> omega
      have hmx3 : (if idle > now then idle else now) = m0 := by rw [hm0]; split <;> omega
      have TK : Hd (∀ W : World, Calls Try.prog 39 #[.int .i64 (body.length : Int), .int .i64 rt] W fun e w' => e = .returned (.int .i64 tk) ∧ W = w') := ⟨fun W => by rw [htk]; exact ticks_calls _ _ W (by omega) (by omega) (by omega) (by omega)⟩
      have HTK := Hd.mk htk
      have HM0 := Hd.mk hm0
      clear htk hm0
      go_wp2_with (first | (go_at_call 35; refine (between_calls _ _ _ _).mono ?_; rintro e w' ⟨rfl, rfl⟩; rw [HN.out]))
      apply wp_via (fW := w1.drew)
      case hreg =>
        go_region_held3 (fun W => W.cell? ⟨w.heap.size, 4, none⟩ = some (.int .i64 idle) ∧ W.cell? ⟨w.heap.size, 2, none⟩ = some (.int .i64 rt))
          (first | with_reducible exact ⟨p4, p2⟩ | with_reducible exact ⟨keepD p4, keepD p2⟩)
          (first | (go_at_call 39; refine (TK.out _).mono ?_; rintro e w' ⟨rfl, rfl⟩))
        all_goals exact ⟨rfl, rfl, rfl⟩
      case hcont =>
        have HBd : Hd (Below w.heap.size w w1.drew) := ⟨HBW.out.drew⟩
        have HQd : Hd (Blk w1.drew w.heap.size 26 #[.int .i64 mn, .int .i64 mx, .int .i64 rt, .bool false, .int .i64 idle, .int .i64 next, .slice A l.length c]) := ⟨HQ1.out.drew⟩
        have HPd : Hd (Blk w1.drew (w.heap.size + 1) 26 #[.int .i64 0, .int .i64 0, .int .i64 0, .bool false, .int .i64 0, .int .i64 0, .slice none 0 0]) := ⟨HP1.out.drew⟩
        obtain ⟨wd, hwd⟩ : ∃ W, W = w1.drew := ⟨_, rfl⟩
        have hszd : wd.heap.size = w1.heap.size := by rw [hwd]; rfl
        rw [← hwd] at HBd HQd HPd ⊢
        clear hwd p0 p1 p2 p3 p4 p5 p6 p7 p8 p9 p10 p11 p12 p13 q0 q1 q2 q3 q4 q5 q6 q7 q8 q9 q10 q11 q12 q13
        obtain ⟨p0, p1, p2, p3, p4, p5, p6, p7, p8, p9, p10, p11, p12, p13⟩ := HQd.out.f7
        obtain ⟨q0, q1, q2, q3, q4, q5, q6, q7, q8, q9, q10, q11, q12, q13⟩ := HPd.out.f7
        by_cases hz1 : 1073741824 < m0 + tk + mx
        · have HE : Hd (r = (lk0, [], 24)) := ⟨by rw [HF.out, sendF, if_neg (by rw [H0.out]; decide), if_neg (by rw [HN.out]; decide), if_neg h5, if_neg (by decide), if_pos (by rw [← HM0.out, ← HTK.out]; exact hz1)]⟩
          go_wp2
          refine bodyPost_ret (v := .tuple #[.agg #[.int .i64 0, .int .i64 0, .int .i64 0, .bool false, .int .i64 0, .int .i64 0, .slice none 0 0], .slice none 0 0, .int .i64 (24)]) (by simp [results, Try.results18, go_sem, q0, q1, q2, q3, q4, q5, q6]) rfl ?_
          rw [HE.out]
          refine ⟨_, _, rfl, Kd.V.nil, Kd.V.nil, ?_⟩
          have h2 := HBd.out
          repeat (first | (with_reducible exact h2) | (with_reducible refine Below.setCell ?_ (by dsimp only; omega) _))
        by_cases hz2 : 4094 < l.length
        · have HE : Hd (r = (lk0, [], 11)) := ⟨by rw [HF.out, sendF, if_neg (by rw [H0.out]; decide), if_neg (by rw [HN.out]; decide), if_neg h5, if_neg (by decide), if_neg (by rw [← HM0.out, ← HTK.out]; exact hz1), if_pos (.inl hz2)]⟩
          have hc2b : decide ((4094 : Int) < l.length) = true := decide_eq_true (by omega)
          go_wp2
          refine bodyPost_ret (v := .tuple #[.agg #[.int .i64 0, .int .i64 0, .int .i64 0, .bool false, .int .i64 0, .int .i64 0, .slice none 0 0], .slice none 0 0, .int .i64 (11)]) (by simp [results, Try.results18, go_sem, q0, q1, q2, q3, q4, q5, q6]) rfl ?_
          rw [HE.out]
          refine ⟨_, _, rfl, Kd.V.nil, Kd.V.nil, ?_⟩
          have h2 := HBd.out
          repeat (first | (with_reducible exact h2) | (with_reducible refine Below.setCell ?_ (by dsimp only; omega) _))
        have hc2b : decide ((4094 : Int) < l.length) = false := decide_eq_false (by omega)
        by_cases hz3 : 1073741822 < next
        · have HE : Hd (r = (lk0, [], 11)) := ⟨by rw [HF.out, sendF, if_neg (by rw [H0.out]; decide), if_neg (by rw [HN.out]; decide), if_neg h5, if_neg (by decide), if_neg (by rw [← HM0.out, ← HTK.out]; exact hz1), if_pos (.inr hz3)]⟩
          go_wp2
          refine bodyPost_ret (v := .tuple #[.agg #[.int .i64 0, .int .i64 0, .int .i64 0, .bool false, .int .i64 0, .int .i64 0, .slice none 0 0], .slice none 0 0, .int .i64 (11)]) (by simp [results, Try.results18, go_sem, q0, q1, q2, q3, q4, q5, q6]) rfl ?_
          rw [HE.out]
          refine ⟨_, _, rfl, Kd.V.nil, Kd.V.nil, ?_⟩
          have h2 := HBd.out
          repeat (first | (with_reducible exact h2) | (with_reducible refine Below.setCell ?_ (by dsimp only; omega) _))
        obtain ⟨n, hn⟩ : ∃ n, n = arrN (decI ch 3) := ⟨_, rfl⟩
        have HE : Hd (r = (⟨mn, mx, rt, false, m0 + tk, (itS (m0 + tk) mn mx body n (l, next, ch.drop 1)).2.1, (itS (m0 + tk) mn mx body n (l, next, ch.drop 1)).1⟩, (itS (m0 + tk) mn mx body n (l, next, ch.drop 1)).2.2, 0)) := ⟨by rw [HF.out, sendF, if_neg (by rw [H0.out]; decide), if_neg (by rw [HN.out]; decide), if_neg h5, if_neg (by decide), if_neg (by rw [← HM0.out, ← HTK.out]; exact hz1), if_neg (by omega), ← HM0.out, ← HTK.out, ← hn]⟩
        have hd3 := decI_lt ch 3 (by decide)
        have hidx := idx3 (decI ch 3) hd3.1 hd3.2
        rw [← hn] at hidx
        have hn2 : n ≤ 2 := by rw [hn]; unfold arrN; split <;> (try split) <;> omega
        clear hn HF
        go_wp2_with fail
        refine (own_calls mn mx rt false idle next A c l _ (HRl.out.below HBd.out) hc HS.out).mono ?_
        rintro e w2 ⟨v, rfl, hown, hb⟩
        obtain ⟨A2, c2, rfl, -, -⟩ := hown.shape
        have HB2 := Hd.mk (bstep HBd.out (Nat.le_refl _) hb)
        have HQ2 := Hd.mk (HQd.out.below hb)
        have HP2 := Hd.mk (HPd.out.below hb)
        have hs2 := hb.size
        have hob2 := hown.blk
        have HO2 := Hd.mk hown.bound
        obtain ⟨w3, hw3⟩ : ∃ W, W = w2.alloc (.cells #[.int .i64 mn, .int .i64 mx, .int .i64 rt, .bool false, .int .i64 (m0 + tk), .int .i64 next, .slice A2 l.length c2] 26) := ⟨_, rfl⟩
        have HX3 := Hd.mk (Blk.new w2 26 #[.int .i64 mn, .int .i64 mx, .int .i64 rt, .bool false, .int .i64 (m0 + tk), .int .i64 next, .slice A2 l.length c2])
        have HQ3 := Hd.mk (HQ2.out.alloc (.cells #[.int .i64 mn, .int .i64 mx, .int .i64 rt, .bool false, .int .i64 (m0 + tk), .int .i64 next, .slice A2 l.length c2] 26))
        have HP3 := Hd.mk (HP2.out.alloc (.cells #[.int .i64 mn, .int .i64 mx, .int .i64 rt, .bool false, .int .i64 (m0 + tk), .int .i64 next, .slice A2 l.length c2] 26))
        have HO3 := Hd.mk (HO2.out.alloc (.cells #[.int .i64 mn, .int .i64 mx, .int .i64 rt, .bool false, .int .i64 (m0 + tk), .int .i64 next, .slice A2 l.length c2] 26))
        have HB3 := Hd.mk (balloc HB2.out (Nat.le_refl _) (.cells #[.int .i64 mn, .int .i64 mx, .int .i64 rt, .bool false, .int .i64 (m0 + tk), .int .i64 next, .slice A2 l.length c2] 26))
        have hs3 : w3.heap.size = w2.heap.size + 1 := by rw [hw3]; simp
        have HOB := Hd.mk hob2
        clear hb hown hob2 HO2 HQ2 HP2 HB2 p0 p1 p2 p3 p4 p5 p6 p7 p8 p9 p10 p11 p12 p13 q0 q1 q2 q3 q4 q5 q6 q7 q8 q9 q10 q11 q12 q13
        go_wp2_with fail
        rw [← hw3] at HX3 HQ3 HP3 HO3 HB3 ⊢
        clear hw3
        refine (cloneI_calls A1 c1 ch _ (HRc.out.below HB3.out) hc1 hch).mono ?_
        rintro e w4 ⟨v, rfl, hown, hb⟩
        obtain ⟨A3, c3, rfl, -, -⟩ := hown.shape
        have hs4 := hb.size
        have HW4 : Hd (Below w.heap.size w (w4.alloc (.cells #[.slice A3 ch.length c3] 77))) := ⟨balloc (bstep HB3.out (Nat.le_refl _) hb) (Nat.le_refl _) _⟩
        have HX4 := Hd.mk ((HX3.out.below hb).alloc (.cells #[.slice A3 ch.length c3] 77))
        have HQ4 := Hd.mk ((HQ3.out.below hb).alloc (.cells #[.slice A3 ch.length c3] 77))
        have HP4 := Hd.mk ((HP3.out.below hb).alloc (.cells #[.slice A3 ch.length c3] 77))
        have HO4 := Hd.mk ((HO3.out.below hb).alloc (.cells #[.slice A3 ch.length c3] 77))
        have HU4 : Hd ((ints .i64).V (w4.alloc (.cells #[.slice A3 ch.length c3] 77)) (fun j => w3.heap.size ≤ j ∧ j < w4.heap.size) (.slice A3 ch.length c3) ch) := ⟨(hown.V.mono (fun j hj => hj.elim (fun h => h.elim) (fun h => hown.blk j h))).alloc _⟩
        have HG4 := Hd.mk (Blk.new w4 77 #[.slice A3 ch.length c3])
        clear hb hown HX3 HQ3 HP3 HO3 HB3
        go_wp2_with fail
        refine (decide_calls w4.heap.size ch A3 c3 3 _ _ HG4.out HU4.out (fun k hk => by omega) (by decide) (by decide)).mono ?_
        rintro e w6 ⟨rfl, A6, c6, hG6, hU6, hg6⟩
        have hs6 : w4.heap.size + 1 ≤ w6.heap.size := by have := hg6.size; rw [World.size_alloc] at this; exact this
        have HX6 := Hd.mk (HX4.out.grown hg6 (by intro h; injection h with h; omega))
        have HQ6 := Hd.mk (HQ4.out.grown hg6 (by intro h; injection h with h; omega))
        have HP6 := Hd.mk (HP4.out.grown hg6 (by intro h; injection h with h; omega))
        have HO6 := Hd.mk ((HO4.out.grown hg6 (fun k hk _ h => by injection h with h; have := hk.2; omega) (fun k hk h => by injection h with h; have := (HOB.out k hk).2; omega)).mono (ok' := (fun j => wd.heap.size ≤ j ∧ j ≠ w2.heap.size ∧ j ≠ w4.heap.size)) (fun k hk => ⟨hk.1, by have := hk.2; omega, by have := hk.2; omega⟩))
        have HB6 := Hd.mk (HW4.out.grown hg6 HW4.out.size (fun j h => by injection h with h; omega))
        have HG6 := Hd.mk hG6
        have HU6 := Hd.mk hU6
        clear hG6 hU6 hg6 HX4 HQ4 HP4 HO4 HW4 HG4 HU4
        go_wp2
        go_loopw [83] (fun ui wr => ∃ k v u, k ≤ n ∧ ui = .int .i64 (k : Nat) ∧ Hd (Blk wr w2.heap.size 26 #[.int .i64 mn, .int .i64 mx, .int .i64 rt, .bool false, .int .i64 (m0 + tk), .int .i64 (itS (m0 + tk) mn mx body k (l, next, ch.drop 1)).2.1, v]) ∧ Hd (Blk wr w4.heap.size 77 #[u]) ∧ Hd (fls.Own 69 wr wd.heap.size (fun j => wd.heap.size ≤ j ∧ j ≠ w2.heap.size ∧ j ≠ w4.heap.size) v (itS (m0 + tk) mn mx body k (l, next, ch.drop 1)).1) ∧
          Hd (∀ j, v.ownBlock = some j → j ≠ w2.heap.size ∧ j ≠ w4.heap.size ∧ ¬ (w3.heap.size ≤ j ∧ j < w4.heap.size)) ∧ Hd ((ints .i64).V wr (fun j => w3.heap.size ≤ j ∧ j < w4.heap.size) u (itS (m0 + tk) mn mx body k (l, next, ch.drop 1)).2.2) ∧ Hd (Blk wr w.heap.size 26 #[.int .i64 mn, .int .i64 mx, .int .i64 rt, .bool false, .int .i64 idle, .int .i64 next, .slice A l.length c]) ∧ Hd (Blk wr (w.heap.size + 1) 26 #[.int .i64 0, .int .i64 0, .int .i64 0, .bool false, .int .i64 0, .int .i64 0, .slice none 0 0]) ∧ Hd (Below w.heap.size w wr)) (fun ui _ => n - (intOf ui).toNat)
        case atStart => exact ⟨0, _, _, Nat.zero_le _, rfl, HX6, HG6, HO6, ⟨fun j h => by have := (HOB.out j h).2; omega⟩, HU6, HQ6, HP6, HB6⟩
        case round =>
          clear HX6 HG6 HO6 HU6 HQ6 HP6 HB6 HQd HPd HBd hidx
          obtain ⟨k, v, u, hk, rfl, HX, HG, HO, HNE, HU, HQ, HP, HB⟩ := hrel
          have hil := itS_len (m0 + tk) mn mx body k (l, next, ch.drop 1)
          have hst : itS (m0 + tk) mn mx body (k + 1) (l, next, ch.drop 1) = stepS (m0 + tk) mn mx body (itS (m0 + tk) mn mx body k (l, next, ch.drop 1)) := rfl
          have HITn : Hd (k = n → (itS (m0 + tk) mn mx body n (l, next, ch.drop 1)) = (itS (m0 + tk) mn mx body k (l, next, ch.drop 1))) := ⟨fun h => by rw [h]⟩
          obtain ⟨S, hS⟩ : ∃ S, S = itS (m0 + tk) mn mx body k (l, next, ch.drop 1) := ⟨_, rfl⟩
          rw [← hS] at HX HO HU hil hst HITn
          clear hS
          rcases S with ⟨F, nx, C⟩
          dsimp only at HX HO HU hil
          have HST := Hd.mk hst
          clear hst
          obtain ⟨A5, c5, rfl, hc5, -⟩ := HO.out.shape
          obtain ⟨A7, c7, rfl, -, -⟩ := HU.out.reads
          obtain ⟨p0, p1, p2, p3, p4, p5, p6, p7, p8, p9, p10, p11, p12, p13⟩ := HQ.out.f7
          have hxlt := HX.out.lt
          have hglt := HG.out.lt
          have hplt2 := HP.out.lt
          by_cases hlt : k < n
          · obtain ⟨d, hd⟩ : ∃ d, d = decI C (mx - mn + 1) := ⟨_, rfl⟩
            have hdb := decI_lt C (mx - mn + 1) (by omega)
            rw [← hd] at hdb
            have hv1 : IntKind.i64.wrap (mx - mn) = mx - mn := IntWalk.i64_in _ (by omega)
            have hv2 : IntKind.i64.wrap (mx - mn + 1) = mx - mn + 1 := IntWalk.i64_in _ (by omega)
            have hv3 : IntKind.i64.wrap (mn + d) = mn + d := IntWalk.i64_in _ (by omega)
            have hv4 : IntKind.i64.wrap (m0 + tk + (mn + d)) = m0 + tk + (mn + d) := IntWalk.i64_in _ (by omega)
            have hv5 : IntKind.i64.wrap (nx + 1) = nx + 1 := IntWalk.i64_in _ (by omega)
            have hFl : F.length ≤ 4096 := by omega
            obtain ⟨F', hF'⟩ : ∃ F', F' = F.take (placeL F (m0 + tk + (mn + d))) ++ (⟨m0 + tk + (mn + d), nx, body⟩ : Fl) :: F.drop (placeL F (m0 + tk + (mn + d))) := ⟨_, rfl⟩
            have HST2 : Hd (itS (m0 + tk) mn mx body (k + 1) (l, next, ch.drop 1) = (F', nx + 1, C.drop 1)) := ⟨by rw [HST.out, stepS, hF', hd]⟩
            obtain ⟨C', hC'⟩ : ∃ C', C' = C.drop 1 := ⟨_, rfl⟩
            rw [← hC'] at HST2
            have K1 : Hd (Calls Try.prog 40 #[.pointer (some ⟨w4.heap.size, 0, none⟩), .int .i64 (mx - mn + 1)] wr.drew fun e w' => e = .returned (.int .i64 d) ∧ ∃ A' c', Blk w' w4.heap.size 77 #[.slice A' C'.length c'] ∧ (ints .i64).V w' (fun j => w3.heap.size ≤ j ∧ j < w4.heap.size) (.slice A' C'.length c') C' ∧ wr.drew.grownBy w' (some w4.heap.size)) := ⟨by
              rw [hd, hC']
              exact decide_calls w4.heap.size C A7 c7 (mx - mn + 1) wr.drew _ HG.out.drew HU.out.drew (fun k hk => by omega) (by omega) (by omega)⟩
            have K2 : Hd (∀ (W : World) (A9 : Option Addr) (c9 : Nat) (okx : Nat → Prop), wd.heap.size ≤ W.heap.size → fls.Own 69 W wd.heap.size (fun j => wd.heap.size ≤ j ∧ j ≠ w2.heap.size ∧ j ≠ w4.heap.size) (.slice A5 F.length c5) F → Fp (fun W => fls.K W ⟨m0 + tk + (mn + d), nx, body⟩ [.int .i64 (m0 + tk + (mn + d)), .int .i64 nx, .slice A9 body.length c9]) W okx → (∀ k, okx k → k < W.heap.size → some k ≠ (Value.slice A5 F.length c5).ownBlock) →
                Calls Try.prog 41 #[.slice A5 F.length c5, .agg #[.int .i64 (m0 + tk + (mn + d)), .int .i64 nx, .slice A9 body.length c9]] W fun e w' =>
                  ∃ v', e = .returned v' ∧ fls.Own 69 w' wd.heap.size (fun k => (fun j => wd.heap.size ≤ j ∧ j ≠ w2.heap.size ∧ j ≠ w4.heap.size) k ∨ okx k ∨ W.heap.size ≤ k) v' F' ∧ Below wd.heap.size W w' ∧ (v'.ownBlock = (Value.slice A5 F.length c5).ownBlock ∨ ∃ b, v'.ownBlock = some b ∧ W.heap.size ≤ b) ∧ ∀ k, k < W.heap.size → some k ≠ (Value.slice A5 F.length c5).ownBlock → w'.heap[k]? = W.heap[k]?) := ⟨fun W A9 c9 okx h1 h2 h3 h4 => by
              rw [hF']
              exact insertL_calls _ F _ _ body A9 c9 W wd.heap.size _ okx h1 h2 h3 h4 hFl⟩
            clear hF' hC' hd HST hil
            go_wp2_with fail
            go_region_held3 (fun W => W.cell? ⟨w.heap.size, 0, none⟩ = some (.int .i64 mn) ∧ W.cell? ⟨w.heap.size, 1, none⟩ = some (.int .i64 mx))
              (first | with_reducible exact ⟨p0, p1⟩ | with_reducible exact ⟨keepD p0, keepD p1⟩ | with_reducible exact ⟨p0', p1'⟩)
              (first | (go_at_call 40; refine (K1.out).mono ?_; rintro e w7 ⟨rfl, A8, c8, hG7, hU7, hg7⟩; have p0' : w7.cell? ⟨w.heap.size, 0, none⟩ = some (.int .i64 mn) := (cell_of_same (hg7.block _ (by show w.heap.size < wr.heap.size; omega) (by intro h; injection h with h; dsimp only at h; omega))).trans p0; have p1' : w7.cell? ⟨w.heap.size, 1, none⟩ = some (.int .i64 mx) := (cell_of_same (hg7.block _ (by show w.heap.size < wr.heap.size; omega) (by intro h; injection h with h; dsimp only at h; omega))).trans p1; have HG7 := Hd.mk hG7; have HU7 := Hd.mk hU7; have Hg7 := Hd.mk hg7; clear hG7 hU7 hg7))
            all_goals
              have hs7 : wr.heap.size ≤ w7.heap.size := Hg7.out.size
              have HX7 := Hd.mk (HX.out.drew.grown Hg7.out (by intro h; injection h with h; omega))
              have HQ7 := Hd.mk (HQ.out.drew.grown Hg7.out (by intro h; injection h with h; omega))
              have HP7 := Hd.mk (HP.out.drew.grown Hg7.out (by intro h; injection h with h; omega))
              have HO7 := Hd.mk (HO.out.drew.grown Hg7.out (fun k hk _ h => by injection h with h; have := hk.2.2; omega) (fun k hk h => by injection h with h; have := (HNE.out k hk).2.1; omega))
              have HB7 := Hd.mk (HB.out.drew.grown Hg7.out (by have := HB.out.size; exact this) (fun j h => by injection h with h; omega))
              have HOb := Hd.mk HO.out.blk
              clear HX HQ HP HO HB HG HU Hg7 K1 p0 p1 p2 p3 p4 p5 p6 p7 p8 p9 p10 p11 p12 p13 p0' p1'
              obtain ⟨x0, x1, x2, x3, x4, x5, x6, x7, x8, x9, x10, x11, x12, x13⟩ := HX7.out.f7
              have hC7 : Hd (Calls Try.prog 42 #[.slice A0 body.length c0] w7.drew fun e w' => ∃ v, e = .returned v ∧ (ints .u8).Own 5 w' w7.drew.heap.size (fun _ => False) v body ∧ Below w7.drew.heap.size w7.drew w') := ⟨clone_calls A0 c0 body w7.drew (HRb.out.below HB7.out.drew) hc0 (by omega)⟩
              go_wp2_with fail
              go_region_law
                (first
                  | (go_simp; go_at_call 42; refine (hC7.out).mono ?_; rintro e w8 ⟨v9, rfl, hown, hb⟩; obtain ⟨A9, c9, rfl, -, -⟩ := hown.shape; have x5' := keep hb (by exact x5); have x6' := keep hb (by exact x6); have HO8 := Hd.mk (HO7.out.drew.below hb); have HF8 := Hd.mk (fl_fp (x := ⟨m0 + tk + (mn + d), nx, body⟩) hown); have HX8 := Hd.mk (HX7.out.drew.below hb); have HB8 : Hd (Below w7.heap.size w7 w8) := ⟨(Below.drew (Below.refl _ _)).trans hb⟩; have hs8 := HB8.out.size; clear hown hb)
                  | (go_simp; go_at_call 41; refine (K2.out _ A9 c9 _ (by omega) HO8.out HF8.out ?h1).mono ?_; (case h1 => exact fun j hj _ h => by have := (HOb.out j h.symm).2; have h3 := hj.1; have h4 : w7.heap.size ≤ j := h3; omega); rintro e w9 ⟨v', rfl, hown, hb, ha9, hk9⟩; obtain ⟨A10, c10, rfl, -, -⟩ := hown.shape; have HX9 : Hd (Blk w9 w2.heap.size 26 #[.int .i64 mn, .int .i64 mx, .int .i64 rt, .bool false, .int .i64 (m0 + tk), .int .i64 nx, .slice A5 F.length c5]) := ⟨(hk9 _ (by omega) (fun h => (HNE.out _ h.symm).1 rfl)).trans HX8.out⟩; obtain ⟨z0, z1, z2, z3, z4, z5, z6, z7, z8, z9, z10, z11, z12, z13⟩ := HX9.out.f7; have HO9 := Hd.mk hown; have HA9 := Hd.mk ha9; have HK9 := Hd.mk hk9; have HBB9 := Hd.mk hb; clear hown hb ha9 hk9))
              all_goals
                clear x0 x1 x2 x3 x4 x5 x6 x7 x8 x9 x10 x11 x12 x13 x5' x6'
                have hs9 : w8.heap.size ≤ w9.heap.size := HBB9.out.size
                have hsame : ∀ j, j < w7.heap.size → (∀ h : (Value.slice A5 F.length c5).ownBlock = some j, False) → w9.heap[j]? = w7.heap[j]? := fun j hj hne => (HK9.out j (by omega) (fun h => hne h.symm)).trans (HB8.out.block j hj)
                have HSM := Hd.mk hsame
                clear hsame
                have HG9 : Hd (Blk w9 w4.heap.size 77 #[.slice A8 C'.length c8]) := ⟨(HSM.out _ (by omega) (fun h => (HNE.out _ h).2.1 rfl)).trans HG7.out⟩
                have HQ9 : Hd (Blk w9 w.heap.size 26 #[.int .i64 mn, .int .i64 mx, .int .i64 rt, .bool false, .int .i64 idle, .int .i64 next, .slice A l.length c]) := ⟨(HSM.out _ (by omega) (fun h => by have := (HOb.out _ h).1; omega)).trans HQ7.out⟩
                have HP9 : Hd (Blk w9 (w.heap.size + 1) 26 #[.int .i64 0, .int .i64 0, .int .i64 0, .bool false, .int .i64 0, .int .i64 0, .slice none 0 0]) := ⟨(HSM.out _ (by omega) (fun h => by have := (HOb.out _ h).1; omega)).trans HP7.out⟩
                have HU9 := Hd.mk (HU7.out.step (W1 := w9) (fun j hj hjl => HSM.out j hjl (fun h => (HNE.out _ h).2.2 hj)))
                have HN9 : Hd (∀ j, (Value.slice A10 F'.length c10).ownBlock = some j → j ≠ w2.heap.size ∧ j ≠ w4.heap.size ∧ ¬ (w3.heap.size ≤ j ∧ j < w4.heap.size)) := ⟨fun j h => by
                  rcases HA9.out with ha | ⟨b, hb1, hb2⟩
                  · exact HNE.out j (ha ▸ h)
                  · rw [hb1] at h
                    injection h with h
                    omega⟩
                have HOm := Hd.mk (HO9.out.mono (ok' := (fun j => wd.heap.size ≤ j ∧ j ≠ w2.heap.size ∧ j ≠ w4.heap.size)) (fun j hj => by
                  rcases hj with hj | hj | hj
                  · exact hj
                  · have h4 : w7.heap.size ≤ j := hj.1
                    exact ⟨by omega, by omega, by omega⟩
                  · exact ⟨by omega, by omega, by omega⟩))
                have HBn : Hd (Below w.heap.size w w9) := ⟨(HB7.out.trans (HB8.out.mono (by omega))).trans (HBB9.out.mono (by omega))⟩
                clear HO9 HA9 HK9 HBB9 HSM HO7 HO8 HX7 HX8 HQ7 HP7 HG7 HU7 HB7 HF8 hC7
                go_wp2
                go_roundw
                case rel =>
                  refine ⟨k + 1, .slice A10 F'.length c10, .slice A8 C'.length c8, by omega, by go_num, ⟨?_⟩, ⟨?_⟩, ⟨?_⟩, HN9, ⟨?_⟩, ⟨?_⟩, ⟨?_⟩, ⟨?_⟩⟩
                  · rw [HST2.out]
                    exact (HX9.out.put (cs' := #[.int .i64 mn, .int .i64 mx, .int .i64 rt, .bool false, .int .i64 (m0 + tk), .int .i64 nx, .slice A10 F'.length c10]) 6 _ rfl).put (cs' := #[.int .i64 mn, .int .i64 mx, .int .i64 rt, .bool false, .int .i64 (m0 + tk), .int .i64 (nx + 1), .slice A10 F'.length c10]) 5 _ rfl
                  · exact (HG9.out.far (by dsimp only; omega) _).far (by dsimp only; omega) _
                  · rw [HST2.out]
                    exact (HOm.out.far (fun j hj => by
                      rcases hj with hj | hj
                      · exact hj.2.1
                      · exact (HN9.out j hj).1) _).far (fun j hj => by
                      rcases hj with hj | hj
                      · exact hj.2.1
                      · exact (HN9.out j hj).1) _
                  · rw [HST2.out]
                    exact (HU9.out.far (fun j hj => by have h3 := hj.1; have h4 : w3.heap.size ≤ j := h3; dsimp only; omega) _).far (fun j hj => by have h3 := hj.1; have h4 : w3.heap.size ≤ j := h3; dsimp only; omega) _
                  · exact (HQ9.out.far (by dsimp only; omega) _).far (by dsimp only; omega) _
                  · exact (HP9.out.far (by dsimp only; omega) _).far (by dsimp only; omega) _
                  · exact Below.setCell (Below.setCell HBn.out (by dsimp only; omega) _) (by dsimp only; omega) _
                case measure => simp [intOf]; omega
          · have hkn : k = n := by omega
            have HEn : Hd (r = (⟨mn, mx, rt, false, m0 + tk, nx, F⟩, C, 0)) := ⟨by rw [HE.out, HITn.out hkn]⟩
            obtain ⟨x0, x1, x2, x3, x4, x5, x6, -, -, -, -, -, -, -⟩ := HX.out.f7
            obtain ⟨g0, -⟩ := HG.out.f1
            obtain ⟨q0, q1, q2, q3, q4, q5, q6, q7, q8, q9, q10, q11, q12, q13⟩ := HP.out.f7
            clear HST HITn HE hkn hil p0 p1 p2 p3 p4 p5 p6 p7 p8 p9 p10 p11 p12 p13
            go_wp2_with fail
            go_region_held3 (fun W => W.cell? ⟨w2.heap.size, 0, none⟩ = some (.int .i64 mn) ∧ W.cell? ⟨w2.heap.size, 1, none⟩ = some (.int .i64 mx) ∧ W.cell? ⟨w2.heap.size, 2, none⟩ = some (.int .i64 rt) ∧ W.cell? ⟨w2.heap.size, 3, none⟩ = some (.bool false) ∧ W.cell? ⟨w2.heap.size, 4, none⟩ = some (.int .i64 (m0 + tk)) ∧ W.cell? ⟨w2.heap.size, 5, none⟩ = some (.int .i64 nx) ∧ W.cell? ⟨w2.heap.size, 6, none⟩ = some (.slice A5 F.length c5) ∧ W.cell? ⟨w4.heap.size, 0, none⟩ = some (.slice A7 C.length c7))
              (first | with_reducible exact ⟨x0, x1, x2, x3, x4, x5, x6, g0⟩ | with_reducible exact ⟨keepD x0, keepD x1, keepD x2, keepD x3, keepD x4, keepD x5, keepD x6, keepD g0⟩ | (refine ⟨?_, ?_, ?_, ?_, ?_, ?_, ?_, ?_⟩ <;> (repeat (first | with_reducible assumption | with_reducible refine keepD ?_ | with_reducible refine keepS ?_ (by dsimp only; omega))) <;> done))
              (first | fail)
            all_goals
              go_wp2
              refine bodyPost_ret (v := .tuple #[.agg #[.int .i64 mn, .int .i64 mx, .int .i64 rt, .bool false, .int .i64 (m0 + tk), .int .i64 nx, .slice A5 F.length c5], .slice A7 C.length c7, .int .i64 0]) (by simp [results, Try.results18, go_sem, q0, q1, q2, q3, q4, q5, q6]) rfl ?_
              rw [HEn.out]
              refine ⟨_, _, rfl, ?_, ?_, ?_⟩
              · have hv : fls.V wr (fun j => w.heap.size + 2 ≤ j) (.slice A5 F.length c5) F := HO.out.V.mono (fun j hj => by
                  rcases hj with hj | hj
                  · have := hj.1; omega
                  · have := (HO.out.blk j hj).1; omega)
                refine Kd.V.mono (ok := fun j => w.heap.size + 2 ≤ j) ?_ (fun j hj => by have h5 : w.heap.size + 2 ≤ j := hj; omega)
                repeat (first | (with_reducible exact hv) | (with_reducible refine Kd.V.drew ?_) | (with_reducible refine Kd.V.far ?_ (fun j hj => by have h5 : w.heap.size + 2 ≤ j := hj; dsimp only; omega) _))
              · have hv : (ints .i64).V wr (fun j => w.heap.size + 2 ≤ j) (.slice A7 C.length c7) C := HU.out.mono (fun j hj => by have := hj.1; omega)
                refine Kd.V.mono (ok := fun j => w.heap.size + 2 ≤ j) ?_ (fun j hj => by have h5 : w.heap.size + 2 ≤ j := hj; omega)
                repeat (first | (with_reducible exact hv) | (with_reducible refine Kd.V.drew ?_) | (with_reducible refine Kd.V.far ?_ (fun j hj => by have h5 : w.heap.size + 2 ≤ j := hj; dsimp only; omega) _))
              · have h2 := HB.out
                repeat (first | (with_reducible exact h2) | (with_reducible refine Below.drew ?_) | (with_reducible refine Below.setCell ?_ (by dsimp only; omega) _))
    · have HE : Hd (r = (⟨mn, mx, rt, true, idle, next, l⟩, ch, 0)) := ⟨by rw [HF.out, sendF, if_neg (by rw [H0.out]; decide), if_neg (by rw [HN.out]; decide), if_neg h5, if_pos rfl]⟩
      go_wp2_with (first | (go_at_call 35; refine (between_calls _ _ _ _).mono ?_; rintro e w' ⟨rfl, rfl⟩; rw [HN.out]))
      refine (own_calls mn mx rt true idle next A c l _ (HRl.out.below HBW.out) hc HS.out).mono ?_
      rintro e w2 ⟨v, rfl, hown, hb⟩
      obtain ⟨A2, c2, rfl, -, -⟩ := hown.shape
      have HB2 := Hd.mk (bstep HBW.out (Nat.le_refl _) hb)
      have HV2 : Hd (fls.V w2 (fun j => w1.heap.size ≤ j) (.slice A2 l.length c2) l) := ⟨hown.V.mono (fun j hj => hj.elim id (fun h => (hown.blk j h).1))⟩
      have HP2 := Hd.mk (HP1.out.below hb)
      have hs2 := hb.size
      clear hb hown p0 p1 p2 p3 p4 p5 p6 p7 p8 p9 p10 p11 p12 p13 q0 q1 q2 q3 q4 q5 q6 q7 q8 q9 q10 q11 q12 q13
      go_wp2_with fail
      refine (cloneI_calls A1 c1 ch _ (HRc.out.below HB2.out) hc1 hch).mono ?_
      rintro e w3 ⟨v, rfl, hown, hb⟩
      obtain ⟨A3, c3, rfl, -, -⟩ := hown.shape
      have HB3 := Hd.mk (bstep HB2.out (Nat.le_refl _) hb)
      have HV3 := Hd.mk (HV2.out.below hb)
      have HU3 : Hd ((ints .i64).V w3 (fun j => w1.heap.size ≤ j) (.slice A3 ch.length c3) ch) := ⟨hown.V.mono (fun j hj => hj.elim (fun h => h.elim) (fun h => by have := (hown.blk j h).1; omega))⟩
      obtain ⟨q0, q1, q2, q3, q4, q5, q6, q7, q8, q9, q10, q11, q12, q13⟩ := (HP2.out.below hb).f7
      clear hb hown
      go_wp2
      refine bodyPost_ret (v := .tuple #[.agg #[.int .i64 mn, .int .i64 mx, .int .i64 rt, .bool true, .int .i64 idle, .int .i64 next, .slice A2 l.length c2], .slice A3 ch.length c3, .int .i64 0]) (by simp [results, Try.results18, go_sem, q0, q1, q2, q3, q4, q5, q6]) rfl ?_
      rw [HE.out]
      refine ⟨_, _, rfl, ?_, ?_, ?_⟩
      · have hv := HV3.out
        refine Kd.V.mono (ok := fun j => w1.heap.size ≤ j) ?_ (fun j hj => by have hj' : w1.heap.size ≤ j := hj; omega)
        repeat (first | (with_reducible exact hv) | (with_reducible refine Kd.V.far ?_ (fun j hj => by have hj' : w1.heap.size ≤ j := hj; dsimp only; omega) _))
      · have hv := HU3.out
        refine Kd.V.mono (ok := fun j => w1.heap.size ≤ j) ?_ (fun j hj => by have hj' : w1.heap.size ≤ j := hj; omega)
        repeat (first | (with_reducible exact hv) | (with_reducible refine Kd.V.far ?_ (fun j hj => by have hj' : w1.heap.size ≤ j := hj; dsimp only; omega) _))
      · have h2 := HB3.out
        repeat (first | (with_reducible exact h2) | (with_reducible refine Below.setCell ?_ (by dsimp only; omega) _))
  · have hb1 : (er != 0) = true := by simp [h]
    have HE : Hd (r = (lk0, [], er)) := ⟨by rw [HF.out, sendF, if_pos (by rw [← HER.out]; exact h), HER.out]⟩
    clear h HF
    go_wp2_with fail
    refine bodyPost_ret (v := .tuple #[.agg #[.int .i64 0, .int .i64 0, .int .i64 0, .bool false, .int .i64 0, .int .i64 0, .slice none 0 0], .slice none 0 0, .int .i64 (er)]) (by simp [results, Try.results18, go_sem, q0, q1, q2, q3, q4, q5, q6]) rfl ?_
    rw [HE.out]
    refine ⟨_, _, rfl, Kd.V.nil, Kd.V.nil, ?_⟩
    have h2 := HBW.out
    repeat (first | (with_reducible exact h2) | (with_reducible refine Below.setCell ?_ (by dsimp only; omega) _))

end Go.Proofs.Ytkgkiencikmhfaa.B
