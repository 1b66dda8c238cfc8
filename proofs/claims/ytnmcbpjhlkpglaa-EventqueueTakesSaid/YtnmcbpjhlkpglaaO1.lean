/- What this text holds: the walk of the law EventqueueOrders. -/
import Derived.Test.YtnmcbpjhlkpglaaH6
import Derived.Test.YtnmcbpjhlkpglaaP1
set_option linter.unusedVariables false
set_option linter.unusedSimpArgs false
namespace Go.Proofs.Ytnmcbpjhlkpglaa.B
open Go.RowKit

theorem put2 {w : World} {g T : Nat} {a0 a1 b0 b1 : Value} (h : Blk w g T #[a0, a1]) : Blk ((w.setCell ⟨g, 0, none⟩ b0).setCell ⟨g, 1, none⟩ b1) g T #[b0, b1] := (h.put 0 _ rfl).put 1 _ rfl
theorem put5 {w : World} {g T : Nat} {a0 a1 a2 a3 a4 b0 b1 b2 b3 b4 : Value} (h : Blk w g T #[a0, a1, a2, a3, a4]) :
    Blk (((((w.setCell ⟨g, 0, none⟩ b0).setCell ⟨g, 1, none⟩ b1).setCell ⟨g, 2, none⟩ b2).setCell ⟨g, 3, none⟩ b3).setCell ⟨g, 4, none⟩ b4) g T #[b0, b1, b2, b3, b4] := ((((h.put 0 _ rfl).put 1 _ rfl).put 2 _ rfl).put 3 _ rfl).put 4 _ rfl

theorem popF_good {l : List Ev} {next : Int} (g : Good l next) (h : 0 < l.length) : popF l next = ((l.drop 1, next), nth ev0 l 0, 0) := by
  rw [popF, if_neg (by rw [check_of_good g]; decide), if_neg (by omega)]

theorem orders_plain (l : List Int) : ∃ (ts : List Int) (L : List Ev), ts = timesF l ∧ ts.length ≤ 30 ∧ addedF ts = ((L, (ts.length : Int)), true) ∧ L.length = ts.length ∧
    (∀ k, k < ts.length → popF (L.drop k) ts.length = ((L.drop (k + 1), (ts.length : Int)), nth ev0 L k, 0)) ∧ popF (L.drop ts.length) ts.length = (([], 0), ev0, 7) ∧
    (∀ k, k < ts.length → ∃ i : Nat, i < ts.length ∧ (nth ev0 L k).n = i ∧ (nth ev0 L k).kd = i ∧ (nth ev0 L k).t = nth 0 ts i ∧ 0 ≤ (nth ev0 L k).t) ∧
    (∀ k, 0 < k → k < ts.length → ltE (nth ev0 L (k - 1)) (nth ev0 L k)) := by
  have hl : (timesF l).length ≤ 30 := by rw [timesF_length]; omega
  obtain ⟨L, h1, hG, hP⟩ := addedF_good (timesF l) (by omega) (fun t ht => by have := timesF_mem l t ht; omega)
  have hLl : L.length = (timesF l).length := by rw [hP.length_eq]; simp [evOf]
  refine ⟨timesF l, L, rfl, hl, h1, hLl, fun k hk => ?_, ?_, fun k hk => ?_, fun k hk hk2 => ?_⟩
  · rw [popF_good (hG.sub (List.drop_sublist _ _)) (by rw [List.length_drop]; omega), List.drop_drop]
    congr 2
    rw [nth_eq ev0 _ 0 (by rw [List.length_drop]; omega), nth_eq ev0 L k (by omega), List.getElem_drop]
    rfl
  · rw [List.drop_of_length_le (by omega), popF, if_neg (by rw [check_of_good (hG.sub (List.nil_sublist L))]; decide)]
    rfl
  · have hm : nth ev0 L k ∈ evOf (timesF l) := hP.mem_iff.1 (nth_mem ev0 L k (by omega))
    obtain ⟨i, hi, he⟩ := List.mem_map.1 hm
    have hi' : i < (timesF l).length := by simpa using hi
    refine ⟨i, hi', by rw [← he], by rw [← he], by rw [← he], ?_⟩
    rw [← he]
    exact (timesF_mem l _ (nth_mem 0 _ i hi')).1
  · rw [nth_eq ev0 L (k - 1) (by omega), nth_eq ev0 L k (by omega)]
    exact List.pairwise_iff_getElem.1 hG.srt (k - 1) k (by omega) (by omega) (by omega)

set_option maxRecDepth 100000 in
set_option maxHeartbeats 4000000 in
theorem lawOrders_calls (A : Option Addr) (c : Nat) (l : List Int) (w : World) (hr : (ints .u16).C w A l) (hc : l.length ≤ c) (hw : ∀ x ∈ l, 0 ≤ x ∧ x ≤ 65535) :
    Calls Try.prog 7 #[.slice A l.length c] w fun e w' => e = .returned (.bool true) ∧ Below w.heap.size w w' := by
  have hu24 := Try.underlying24
  have hu32 := Try.underlying32
  obtain ⟨ts, L, h1, h2, h3, h4, h5, h6, h7, h8⟩ := orders_plain l
  have HR := Hd.mk hr; have HW := Hd.mk hw; have H1 := Hd.mk h1; have H3 := Hd.mk h3; have H4 := Hd.mk h4; have H5 := Hd.mk h5; have H6 := Hd.mk h6; have H7 := Hd.mk h7; have H8 := Hd.mk h8
  have hne : ((L.length : Int) != ts.length) = false := by simp [h4]
  clear hr hw h1 h3 h4 h5 h6 h7 h8
  go_enter Try.func7, Try.ntmps7
  go_wp2_with fail
  refine (times_calls A c l _ HR.out hc HW.out).mono ?_
  rw [← H1.out]
  rintro e w1 ⟨v, rfl, hown, hb⟩
  obtain ⟨A1, c1, rfl, hc1, -⟩ := hown.shape
  have HC1 := Hd.mk hown.C
  have HBW := Hd.mk hb
  have hsz1 := hb.size
  clear hb hown
  go_wp2_with fail
  refine (added_calls A1 c1 ts _ HC1.out hc1).mono ?_
  rw [H3.out]
  rintro e w2 ⟨v, rfl, hv, hb⟩
  obtain ⟨A2, c2, rfl, hc2, -⟩ := hv.reads
  have hsz2 := hb.size
  have HBW2 := Hd.mk (HBW.out.trans (hb.mono hsz1))
  have HC2 := Hd.mk (HC1.out.below hb)
  have HV2 : Hd (evs.V w2 (fun j => j ≠ w2.heap.size ∧ j ≠ w2.heap.size + 1) (.slice A2 L.length c2) L) := ⟨hv.bound.mono (fun k hk => by have := hk.2; omega)⟩
  clear hv hb HBW HC1 H3
  go_wp2
  go_loopw [7] (fun i wr => ∃ k M v lt ln x2 x3 x4, k ≤ ts.length ∧ i = .int .i64 (k : Nat) ∧ Hd (M = L.drop k) ∧ Hd (evs.V wr (fun j => j ≠ w2.heap.size ∧ j ≠ w2.heap.size + 1) v M) ∧ Hd (Blk wr w2.heap.size 24 #[v, .int .i64 ts.length]) ∧
    Hd (Blk wr (w2.heap.size + 1) 32 #[.int .i64 lt, .int .i64 ln, x2, x3, x4]) ∧ Hd ((k = 0 ∧ lt = -1) ∨ (0 < k ∧ lt = (nth ev0 L (k - 1)).t ∧ ln = (nth ev0 L (k - 1)).n)) ∧ w2.heap.size + 2 ≤ wr.heap.size ∧ Hd (Below w2.heap.size w2 wr)) (fun i _ => ts.length - (intOf i).toNat)
  case atStart =>
    have b0 := Blk.alloc (Blk.new w2 24 #[.slice A2 L.length c2, .int .i64 ts.length]) (.cells #[.int .i64 (-1), .int .i64 0, .int .i64 0, .int .i64 0, .slice none 0 0] 32)
    have b1 := Blk.new (w2.alloc (.cells #[.slice A2 L.length c2, .int .i64 ts.length] 24)) 32 #[.int .i64 (-1), .int .i64 0, .int .i64 0, .int .i64 0, .slice none 0 0]
    rw [World.size_alloc] at b1
    exact ⟨0, L, _, -1, 0, _, _, _, Nat.zero_le _, rfl, ⟨rfl⟩, ⟨(HV2.out.alloc _).alloc _⟩, ⟨b0⟩, ⟨b1⟩, ⟨.inl ⟨rfl, rfl⟩⟩, by simp, ⟨by go_grown⟩⟩
  case round =>
    obtain ⟨k, M, v, lt, ln, x2, x3, x4, hk, rfl, HM, HV, HB0, HB1, HL, hsz, HB⟩ := hrel
    obtain ⟨A3, c3, rfl, hc3, hC3⟩ := HV.out.reads
    have HC3 := Hd.mk hC3
    clear hC3
    obtain ⟨q0, q1, q2, q3⟩ := HB0.out.f2
    by_cases hlt : k < ts.length
    · go_wp2_with fail
      refine (pop_calls A3 c3 M ts.length _ HC3.out hc3).mono ?_
      obtain ⟨M', hM'⟩ : ∃ M', M' = L.drop (k + 1) := ⟨_, rfl⟩
      rw [HM.out, H5.out k hlt, ← hM']
      have HM' := Hd.mk hM'
      clear hM'
      obtain ⟨i, hi, en, ek, et, ez⟩ := H7.out k hlt
      have hlast : lt < (nth ev0 L k).t ∨ (lt = (nth ev0 L k).t ∧ ln < (nth ev0 L k).n) := by
        rcases HL.out with ⟨rfl, hm⟩ | ⟨h0, ha, hb⟩
        · omega
        · rw [ha, hb]
          exact H8.out k h0 hlt
      obtain ⟨x, hx⟩ : ∃ x, x = nth ev0 L k := ⟨_, rfl⟩
      have HX := Hd.mk hx
      rw [← hx] at en ek et ez hlast ⊢
      clear hx
      rcases x with ⟨xt, xn, xk, xd, xb⟩
      simp only at en ek et ez hlast
      subst en; subst ek
      have HLast := Hd.mk hlast
      have Het := Hd.mk et
      clear hlast et HL
      rintro e w3 ⟨v, vb, rfl, hv, hvb, hb⟩
      obtain ⟨A5, c5, rfl, -, -⟩ := hvb.reads
      clear hvb
      obtain ⟨A4, c4, rfl, hc4, -⟩ := hv.reads
      have hsz3 := hb.size
      have HB0' := Hd.mk (HB0.out.below hb)
      have HB1' := Hd.mk (HB1.out.below hb)
      have HB' := Hd.mk (HB.out.trans (hb.mono HB.out.size))
      have HV' : Hd (evs.V w3 (fun j => j ≠ w2.heap.size ∧ j ≠ w2.heap.size + 1) (.slice A4 M'.length c4) M') := ⟨hv.mono (fun j hj => by have hj' : wr.heap.size ≤ j := hj; omega)⟩
      clear hv hb q0 q1 q2 q3 HB0 HB1 HB HC3 HV
      go_wp2_with fail
      obtain ⟨w4, hw4⟩ : ∃ w4, w4 = ((w3.alloc (.cells #[.slice A4 M'.length c4, .int .i64 ts.length] 24)).alloc (.cells #[.int .i64 xt, .int .i64 i, .int .i64 i, .int .i64 xd, .slice A5 xb.length c5] 32)) := ⟨_, rfl⟩
      have bq := ((HB0'.out.alloc (.cells #[.slice A4 M'.length c4, .int .i64 ts.length] 24)).alloc (.cells #[.int .i64 xt, .int .i64 i, .int .i64 i, .int .i64 xd, .slice A5 xb.length c5] 32))
      have bl := ((HB1'.out.alloc (.cells #[.slice A4 M'.length c4, .int .i64 ts.length] 24)).alloc (.cells #[.int .i64 xt, .int .i64 i, .int .i64 i, .int .i64 xd, .slice A5 xb.length c5] 32))
      have b8 := (Blk.new w3 24 #[.slice A4 M'.length c4, .int .i64 ts.length]).alloc (.cells #[.int .i64 xt, .int .i64 i, .int .i64 i, .int .i64 xd, .slice A5 xb.length c5] 32)
      have b9 := Blk.new (w3.alloc (.cells #[.slice A4 M'.length c4, .int .i64 ts.length] 24)) 32 #[.int .i64 xt, .int .i64 i, .int .i64 i, .int .i64 xd, .slice A5 xb.length c5]
      rw [World.size_alloc] at b9
      have hbw : Below w2.heap.size w2 ((w3.alloc (.cells #[.slice A4 M'.length c4, .int .i64 ts.length] 24)).alloc (.cells #[.int .i64 xt, .int .i64 i, .int .i64 i, .int .i64 xd, .slice A5 xb.length c5] 32)) := Below.alloc (Below.alloc HB'.out (by omega) _) (by rw [World.size_alloc]; omega) _
      have hv4 := (HV'.out.alloc (.cells #[.slice A4 M'.length c4, .int .i64 ts.length] 24)).alloc (.cells #[.int .i64 xt, .int .i64 i, .int .i64 i, .int .i64 xd, .slice A5 xb.length c5] 32)
      rw [← hw4] at bq bl b8 b9 hbw hv4 ⊢
      have hsz4 : w2.heap.size + 2 ≤ w4.heap.size := by rw [hw4, World.size_alloc, World.size_alloc]; omega
      clear hw4
      obtain ⟨ad, ea, hxc⟩ := ints_get (HC2.out.below hbw) i hi
      cases ea
      rw [← Het.out] at hxc
      obtain ⟨q0, q1, q2, q3⟩ := bq.f2
      obtain ⟨l0, l1, l2, l3, l4, l5, l6, l7, l8, l9⟩ := bl.f5
      obtain ⟨m0, m1, m2, m3⟩ := b8.f2
      obtain ⟨n0, n1, n2, n3, n4, n5, n6, n7, n8, n9⟩ := b9.f5
      have HQ := Hd.mk bq; have HLB := Hd.mk bl; have H8b := Hd.mk b8; have H9b := Hd.mk b9; have HBw := Hd.mk hbw; have HV4 := Hd.mk hv4
      clear bq bl b8 b9 hbw hv4 HB0' HB1' HB' HV'
      have hi0 : (0 : Int) ≤ i := by omega
      have hi1 : (i : Int) < ts.length := by omega
      have d0 : decide ((i : Int) < 0) = false := by simp
      have d1 : decide ((i : Int) ≥ ts.length) = false := by simp; omega
      have d2 : decide (xt < lt) = false := by have := HLast.out; simp; omega
      have hcs : xt = lt ∧ decide ((i : Int) ≤ ln) = false ∨ (xt == lt) = false := by
        have := HLast.out
        by_cases h : lt = xt
        · exact .inl ⟨h.symm, by simp; omega⟩
        · exact .inr (by simp; omega)
      rcases hcs with ⟨hlx, d3⟩ | d3
      all_goals
        try subst hlx
        go_quiet (fail)
        obtain ⟨w5, hw5⟩ : ∃ w5, w5 = World.drewN w4 nq := ⟨_, rfl⟩
        have hq5 := HQ.out.drewN nq
        have hl5 := HLB.out.drewN nq
        have h85 := H8b.out.drewN nq
        have h95 := H9b.out.drewN nq
        have hb5 := pw_below_drewN HBw.out nq
        have hv5 := HV4.out.drewN nq
        have hs5 : w2.heap.size + 2 ≤ (World.drewN w4 nq).heap.size := hsz4
        rw [← hw5] at hq5 hl5 h85 h95 hb5 hv5 hs5 ⊢
        clear hw5 q0 q1 q2 q3 l0 l1 l2 l3 l4 l5 l6 l7 l8 l9 m0 m1 m2 m3 n0 n1 n2 n3 n4 n5 n6 n7 n8 n9 hxc HQ HLB H8b H9b HBw HV4
        obtain ⟨q0, q1, q2, q3⟩ := hq5.f2
        obtain ⟨l0, l1, l2, l3, l4, l5, l6, l7, l8, l9⟩ := hl5.f5
        obtain ⟨m0, m1, -, -⟩ := h85.f2
        obtain ⟨n0, n1, n2, n3, n4, -, -, -, -, -⟩ := h95.f5
        have HQ := Hd.mk hq5; have HLB := Hd.mk hl5; have HBw := Hd.mk hb5; have HV5 := Hd.mk hv5
        clear hq5 hl5 h85 h95 hb5 hv5
        go_wp2_with fail
        go_region_held3 (fun W => W.cell? ⟨w3.heap.size, 0, none⟩ = some (.slice A4 M'.length c4) ∧ W.cell? ⟨w3.heap.size, 1, none⟩ = some (.int .i64 ts.length) ∧ W.cell? ⟨w3.heap.size + 1, 0, none⟩ = some (.int .i64 xt) ∧ W.cell? ⟨w3.heap.size + 1, 1, none⟩ = some (.int .i64 i) ∧ W.cell? ⟨w3.heap.size + 1, 2, none⟩ = some (.int .i64 i) ∧ W.cell? ⟨w3.heap.size + 1, 3, none⟩ = some (.int .i64 xd) ∧ W.cell? ⟨w3.heap.size + 1, 4, none⟩ = some (.slice A5 xb.length c5))
          (first | with_reducible exact ⟨m0, m1, n0, n1, n2, n3, n4⟩ | (refine ⟨?_, ?_, ?_, ?_, ?_, ?_, ?_⟩ <;> (repeat (first | with_reducible assumption | with_reducible refine keepD ?_ | with_reducible refine keepS ?_ (by dsimp only; omega))) <;> done))
          (first | fail)
        all_goals
          go_wp2
          go_roundw
          case rel =>
            refine ⟨k + 1, M', .slice A4 M'.length c4, xt, i, .int .i64 i, .int .i64 xd, .slice A5 xb.length c5, by omega, by go_num, HM', ⟨?_⟩, ⟨?_⟩, ⟨?_⟩, ⟨.inr ⟨by omega, by rw [show k + 1 - 1 = k by omega, ← HX.out], by rw [show k + 1 - 1 = k by omega, ← HX.out]⟩⟩, ?_, ⟨?_⟩⟩
            · have hv := HV5.out
              repeat (first | (with_reducible exact hv) | (with_reducible refine Kd.V.drew ?_) | (with_reducible refine Kd.V.far ?_ (fun k hk => by have hk' : k ≠ w2.heap.size ∧ k ≠ w2.heap.size + 1 := hk; dsimp only; omega) _))
            · have hq := HQ.out
              repeat (first | (with_reducible exact hq) | (with_reducible refine Blk.drew ?_) | (with_reducible exact put2 hq) | (with_reducible refine Blk.far ?_ (by dsimp only; omega) _))
            · have hq := HLB.out
              repeat (first | (with_reducible exact hq) | (with_reducible refine Blk.drew ?_) | (with_reducible exact put5 ((hq.far (p := ⟨w2.heap.size, 0, none⟩) (by dsimp only; omega) _).far (p := ⟨w2.heap.size, 1, none⟩) (by dsimp only; omega) _)) | (with_reducible refine Blk.far ?_ (by dsimp only; omega) _))
            · simp; omega
            · have h2 := HBw.out
              repeat (first | (with_reducible exact h2) | (with_reducible refine Below.drew ?_) | (with_reducible refine Below.setCell ?_ (by dsimp only; omega) _))
          case measure => simp [intOf]; omega
    · have h6 : popF M ts.length = (([], 0), ev0, 7) := by rw [HM.out, show k = ts.length by omega]; exact H6.out
      have H6' := Hd.mk h6
      clear h6
      go_wp2_with fail
      refine (pop_calls A3 c3 M ts.length _ HC3.out hc3).mono ?_
      rw [H6'.out]
      rintro e w3 ⟨v, vb, rfl, hv, hvb, hb⟩
      obtain ⟨A4, c4, rfl, -, -⟩ := hv.reads
      obtain ⟨A5, c5, rfl, -, -⟩ := hvb.reads
      have hbw : Below w.heap.size w w3 := HBW2.out.trans ((HB.out.trans (hb.mono HB.out.size)).mono (by omega))
      have HBx := Hd.mk hbw
      clear hv hvb hb hbw q0 q1 q2 q3 HB0 HB1 HB HC3 HV
      go_wp2_with fail
      refine (awake_calls _).mono ?_
      rintro e w5 ⟨rfl, hb⟩
      have hz := HBx.out.size
      have HB5 := Hd.mk ((Below.alloc (Below.alloc HBx.out hz _) (by rw [World.size_alloc]; omega) _).trans (hb.mono (by rw [World.size_alloc, World.size_alloc]; omega)))
      clear hb
      go_wp2
      go_ret
      first | exact ⟨rfl, HB5.out⟩ | exact ⟨by simp, HB5.out⟩
end Go.Proofs.Ytnmcbpjhlkpglaa.B
