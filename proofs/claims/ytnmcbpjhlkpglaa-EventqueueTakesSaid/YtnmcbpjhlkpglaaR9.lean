/- What this text holds: the contract of the reference's Add. -/
import Derived.Test.YtnmcbpjhlkpglaaR8
set_option linter.unusedVariables false
set_option linter.unusedSimpArgs false
namespace Go.Proofs.Ytnmcbpjhlkpglaa.B
open Go.RowKit

/-- The first events, with x ahead of place p. -/
def putF (l : List Ev) (x : Ev) (p k : Nat) : List Ev := if k ≤ p then l.take k else l.take p ++ x :: (l.drop p).take (k - p)
theorem putF_lt (l : List Ev) (x : Ev) (p k : Nat) (hl : k < l.length) (h : k < p) : putF l x p (k + 1) = putF l x p k ++ [nth ev0 l k] := by
  rw [putF, if_pos (by omega), putF, if_pos (by omega), take_nth ev0 l k hl]
theorem putF_eq (l : List Ev) (x : Ev) (p : Nat) (hl : p < l.length) : putF l x p (p + 1) = putF l x p p ++ [x] ++ [nth ev0 l p] := by
  have h1 : (l.drop p).take 1 = [nth ev0 l p] := by rw [List.drop_eq_getElem_cons hl, nth_eq ev0 l p hl]; rfl
  rw [putF, if_neg (by omega), putF, if_pos (by omega), show p + 1 - p = 1 by omega, h1]
  simp
theorem putF_gt (l : List Ev) (x : Ev) (p k : Nat) (hl : k < l.length) (h : p < k) : putF l x p (k + 1) = putF l x p k ++ [nth ev0 l k] := by
  rw [putF, if_neg (by omega), putF, if_neg (by omega), show k + 1 - p = (k - p) + 1 by omega, take_nth ev0 (l.drop p) (k - p) (by rw [List.length_drop]; omega)]
  have : nth ev0 (l.drop p) (k - p) = nth ev0 l k := by
    rw [nth_eq ev0 _ _ (by rw [List.length_drop]; omega), nth_eq ev0 l k hl, List.getElem_drop]
    congr 1
    omega
  rw [this]
  simp
theorem putF_len (l : List Ev) (x : Ev) (p k : Nat) : (putF l x p k).length ≤ l.length + 1 := by
  unfold putF
  split
  · rw [List.length_take]; omega
  · rw [List.length_append, List.length_cons, List.length_take, List.length_take, List.length_drop]; omega
theorem putF_all (l : List Ev) (x : Ev) (p : Nat) (h : p < l.length) : putF l x p l.length = l.take p ++ x :: l.drop p := by
  have h1 : (l.drop p).take (l.length - p) = l.drop p := List.take_of_length_le (by rw [List.length_drop]; omega)
  rw [putF, if_neg (by omega), h1]
theorem putF_end (l : List Ev) (x : Ev) (p : Nat) (h : p = l.length) : putF l x p l.length ++ [x] = l.take p ++ x :: l.drop p := by
  rw [putF, if_pos (by omega), h, List.drop_length]

set_option maxRecDepth 100000 in
set_option maxHeartbeats 4000000 in
theorem refAdd_calls (A : Option Addr) (c : Nat) (l : List Ev) (next time kind dst : Int) (A0 : Option Addr) (c0 : Nat) (body : List Int) (w : World) (hr : evs.C w A l) (hc : l.length ≤ c)
    (hr4 : (ints .u8).C w A0 body) (hc4 : body.length ≤ c0) (hl4 : body.length ≤ 140737488355328) :
    Calls Try.prog 15 #[.agg #[.slice A l.length c, .int .i64 next], .int .i64 time, .int .i64 kind, .int .i64 dst, .slice A0 body.length c0] w (AddPost w (addF l next time kind dst body)) := by
  have hu24 := Try.underlying24
  have hu32 := Try.underlying32
  have HR := Hd.mk hr
  have HR4 := Hd.mk hr4
  have HC := Hd.mk hc
  clear hr hr4
  obtain ⟨r, hrr⟩ : ∃ r, r = addF l next time kind dst body := ⟨_, rfl⟩
  rw [← hrr]
  have HF := Hd.mk hrr
  clear hrr
  obtain ⟨er, her⟩ : ∃ er, er = checkF l next := ⟨_, rfl⟩
  have HER := Hd.mk her
  clear her
  by_cases h : er = 0
  · subst h
    have H0 : Hd (checkF l next = 0) := ⟨HER.out.symm⟩
    have hok := checkF_ok l next H0.out
    have HS := Hd.mk (checkF_small l next H0.out)
    have hll := hok.1
    have hn0 := hok.2.1
    have hn1 := hok.2.2.1
    have hw1 : IntKind.i64.wrap (next + 1) = next + 1 := IntWalk.i64_in _ (by omega)
    clear hok
    go_enter Try.func15, Try.ntmps15
    go_wp2_with fail
    refine (refCheck_calls A c l next _ (HR.out.below (by go_grown)) hc).mono ?_
    rw [H0.out]
    rintro e w1 ⟨rfl, hb⟩
    have hbw : Below w.heap.size w w1 := Below.trans (by go_grown) (hb.mono (by simp; omega))
    have hsz : w.heap.size + 2 ≤ w1.heap.size := by have := hb.size; simpa using this
    have B0 := ((Blk.new w 24 #[.slice A l.length c, .int .i64 next]).alloc (.cells #[.slice none 0 0, .int .i64 0] 24)).below hb
    have B1 := (Blk.new (w.alloc (.cells #[.slice A l.length c, .int .i64 next] 24)) 24 #[.slice none 0 0, .int .i64 0]).below hb
    rw [World.size_alloc] at B1
    have HBW := Hd.mk hbw
    have HB0 := Hd.mk B0
    have HB1 := Hd.mk B1
    obtain ⟨p0, p1, p2, p3⟩ := B0.f2
    obtain ⟨q0, q1, q2, q3⟩ := B1.f2
    clear hb hbw B0 B1
    by_cases hc : time < 0
    · have HE : Hd (r = (([], 0), 0, 24)) := ⟨by
        have hw : wrongF time next kind dst body.length (next + 1) = 24 := by
          simp only [wrongF]
          repeat' split
          all_goals omega
        rw [HF.out, addF, if_neg (by rw [H0.out]; decide), if_pos (by rw [hw]; decide), hw]⟩
      go_wp2
      refine bodyPost_ret (v := .tuple #[.agg #[.slice none 0 0, .int .i64 0], .int .i64 0, .int .i64 (24)]) (by simp [results, Try.results15, go_sem, q0, q1]) rfl ?_
      rw [HE.out]
      refine ⟨_, rfl, Kd.V.nil, ?_⟩
      have h2 := HBW.out
      repeat (first | (with_reducible exact h2) | (with_reducible refine Below.setCell ?_ (by dsimp only; omega) _))
    by_cases hc : 1073741824 < time
    · have HE : Hd (r = (([], 0), 0, 24)) := ⟨by
        have hw : wrongF time next kind dst body.length (next + 1) = 24 := by
          simp only [wrongF]
          repeat' split
          all_goals omega
        rw [HF.out, addF, if_neg (by rw [H0.out]; decide), if_pos (by rw [hw]; decide), hw]⟩
      go_wp2
      refine bodyPost_ret (v := .tuple #[.agg #[.slice none 0 0, .int .i64 0], .int .i64 0, .int .i64 (24)]) (by simp [results, Try.results15, go_sem, q0, q1]) rfl ?_
      rw [HE.out]
      refine ⟨_, rfl, Kd.V.nil, ?_⟩
      have h2 := HBW.out
      repeat (first | (with_reducible exact h2) | (with_reducible refine Below.setCell ?_ (by dsimp only; omega) _))
    by_cases hc : kind < 0
    · have HE : Hd (r = (([], 0), 0, 2)) := ⟨by
        have hw : wrongF time next kind dst body.length (next + 1) = 2 := by
          simp only [wrongF]
          repeat' split
          all_goals omega
        rw [HF.out, addF, if_neg (by rw [H0.out]; decide), if_pos (by rw [hw]; decide), hw]⟩
      go_wp2
      refine bodyPost_ret (v := .tuple #[.agg #[.slice none 0 0, .int .i64 0], .int .i64 0, .int .i64 (2)]) (by simp [results, Try.results15, go_sem, q0, q1]) rfl ?_
      rw [HE.out]
      refine ⟨_, rfl, Kd.V.nil, ?_⟩
      have h2 := HBW.out
      repeat (first | (with_reducible exact h2) | (with_reducible refine Below.setCell ?_ (by dsimp only; omega) _))
    by_cases hc : dst < 0
    · have HE : Hd (r = (([], 0), 0, 2)) := ⟨by
        have hw : wrongF time next kind dst body.length (next + 1) = 2 := by
          simp only [wrongF]
          repeat' split
          all_goals omega
        rw [HF.out, addF, if_neg (by rw [H0.out]; decide), if_pos (by rw [hw]; decide), hw]⟩
      go_wp2
      refine bodyPost_ret (v := .tuple #[.agg #[.slice none 0 0, .int .i64 0], .int .i64 0, .int .i64 (2)]) (by simp [results, Try.results15, go_sem, q0, q1]) rfl ?_
      rw [HE.out]
      refine ⟨_, rfl, Kd.V.nil, ?_⟩
      have h2 := HBW.out
      repeat (first | (with_reducible exact h2) | (with_reducible refine Below.setCell ?_ (by dsimp only; omega) _))
    by_cases hc : (4096 : Int) < (body.length : Int)
    · have HE : Hd (r = (([], 0), 0, 5)) := ⟨by
        have hw : wrongF time next kind dst body.length (next + 1) = 5 := by
          simp only [wrongF]
          repeat' split
          all_goals omega
        rw [HF.out, addF, if_neg (by rw [H0.out]; decide), if_pos (by rw [hw]; decide), hw]⟩
      go_wp2
      refine bodyPost_ret (v := .tuple #[.agg #[.slice none 0 0, .int .i64 0], .int .i64 0, .int .i64 (5)]) (by simp [results, Try.results15, go_sem, q0, q1]) rfl ?_
      rw [HE.out]
      refine ⟨_, rfl, Kd.V.nil, ?_⟩
      have h2 := HBW.out
      repeat (first | (with_reducible exact h2) | (with_reducible refine Below.setCell ?_ (by dsimp only; omega) _))
    by_cases hc : (4096 : Int) ≤ (l.length : Int)
    · have HE : Hd (r = (([], 0), 0, 11)) := ⟨by
        have hw : wrongF time next kind dst body.length (next + 1) = 0 := by
          simp only [wrongF]
          repeat' split
          all_goals omega
        rw [HF.out, addF, if_neg (by rw [H0.out]; decide), if_neg (by rw [hw]; decide), if_pos (by omega)]⟩
      go_wp2
      refine bodyPost_ret (v := .tuple #[.agg #[.slice none 0 0, .int .i64 0], .int .i64 0, .int .i64 (11)]) (by simp [results, Try.results15, go_sem, q0, q1]) rfl ?_
      rw [HE.out]
      refine ⟨_, rfl, Kd.V.nil, ?_⟩
      have h2 := HBW.out
      repeat (first | (with_reducible exact h2) | (with_reducible refine Below.setCell ?_ (by dsimp only; omega) _))
    by_cases hc : 1073741824 ≤ next
    · have HE : Hd (r = (([], 0), 0, 11)) := ⟨by
        have hw : wrongF time next kind dst body.length (next + 1) = 0 := by
          simp only [wrongF]
          repeat' split
          all_goals omega
        rw [HF.out, addF, if_neg (by rw [H0.out]; decide), if_neg (by rw [hw]; decide), if_pos (by omega)]⟩
      go_wp2
      refine bodyPost_ret (v := .tuple #[.agg #[.slice none 0 0, .int .i64 0], .int .i64 0, .int .i64 (11)]) (by simp [results, Try.results15, go_sem, q0, q1]) rfl ?_
      rw [HE.out]
      refine ⟨_, rfl, Kd.V.nil, ?_⟩
      have h2 := HBW.out
      repeat (first | (with_reducible exact h2) | (with_reducible refine Below.setCell ?_ (by dsimp only; omega) _))

    obtain ⟨p, hpl⟩ : ∃ p, placeI l time = p := ⟨_, rfl⟩
    have hple := placeI_le l time
    rw [hpl] at hple
    have hspl := place_split (time := time) (good_of_check H0.out)
    rw [hpl] at hspl
    have HE : Hd (r = ((l.take p ++ (⟨time, next, kind, dst, body⟩ : Ev) :: l.drop p, next + 1), next, 0)) := ⟨by
      have hw : wrongF time next kind dst body.length (next + 1) = 0 := by
        simp only [wrongF]
        repeat' split
        all_goals omega
      rw [HF.out, addF, if_neg (by rw [H0.out]; decide), if_neg (by rw [hw]; decide), if_neg (by omega), hpl]⟩
    have HSP := Hd.mk hspl
    clear hspl hpl HF
    go_wp2_with fail
    refine (refCopy_calls (⟨time, next, kind, dst, body⟩ : Ev) A0 c0 _ (HR4.out.below HBW.out) hc4 hl4).mono ?_
    rintro e w2 ⟨v4, rfl, hown, hb⟩
    obtain ⟨A1, c1, rfl, -, -⟩ := hown.shape
    have HFX := Hd.mk (ev_fp (x := (⟨time, next, kind, dst, body⟩ : Ev)) hown)
    have hsz2 := hb.size
    have HBB := Hd.mk (HBW.out.trans (hb.mono (by omega)))
    have HB0' := Hd.mk (HB0.out.below hb)
    have HB1' := Hd.mk (HB1.out.below hb)
    obtain ⟨p0', p1', p2', p3'⟩ := (HB0'.out.alloc (.cells #[.int .i64 time, .int .i64 next, .int .i64 kind, .int .i64 dst, .slice A1 body.length c1] 32)).f2
    clear hb hown p0 p1 p2 p3 q0 q1 q2 q3 HB0 HB1 HBW
    dsimp only at HFX ⊢
    go_wp2
    go_loopw [16, 17] (fun up ui wr => ∃ k v b, k ≤ l.length ∧ ui = .int .i64 (k : Nat) ∧ up = .bool b ∧ Hd (b = decide (p < k)) ∧ Hd (Blk wr w.heap.size 24 #[.slice A l.length c, .int .i64 next]) ∧ Hd (Blk wr (w.heap.size + 1) 24 #[.slice none 0 0, .int .i64 0]) ∧ Hd (Blk wr w2.heap.size 32 #[.int .i64 time, .int .i64 next, .int .i64 kind, .int .i64 dst, .slice A1 body.length c1]) ∧
      Hd (Fp (fun W => evs.K W (⟨time, next, kind, dst, body⟩ : Ev) [.int .i64 time, .int .i64 next, .int .i64 kind, .int .i64 dst, .slice A1 body.length c1]) wr (fun j => w1.heap.size ≤ j ∧ j < w2.heap.size)) ∧ Hd (Blk wr (w2.heap.size + 1) 24 #[v, .int .i64 (next + 1)]) ∧ Hd (evs.Own 32 wr (w2.heap.size + 2) (fun j => w1.heap.size ≤ j ∧ j ≠ w2.heap.size + 1) v (putF l (⟨time, next, kind, dst, body⟩ : Ev) p k)) ∧ Hd (Below w.heap.size w wr)) (fun _ ui _ => l.length - (intOf ui).toNat)
    case atStart =>
      have b2 := (Blk.new w2 32 #[.int .i64 time, .int .i64 next, .int .i64 kind, .int .i64 dst, .slice A1 body.length c1]).alloc (.cells #[.slice none 0 0, .int .i64 (next + 1)] 24)
      have b3 := Blk.new (w2.alloc (.cells #[.int .i64 time, .int .i64 next, .int .i64 kind, .int .i64 dst, .slice A1 body.length c1] 32)) 24 #[.slice none 0 0, .int .i64 (next + 1)]
      rw [World.size_alloc] at b3
      have hb2 : Below w2.heap.size w2 ((w2.alloc (.cells #[.int .i64 time, .int .i64 next, .int .i64 kind, .int .i64 dst, .slice A1 body.length c1] 32)).alloc (.cells #[.slice none 0 0, .int .i64 (next + 1)] 24)) := by go_grown
      exact ⟨0, _, false, Nat.zero_le _, rfl, rfl, ⟨by simp⟩, ⟨HB0'.out.below hb2⟩, ⟨HB1'.out.below hb2⟩, ⟨b2⟩, ⟨HFX.out.below hb2⟩, ⟨b3⟩, ⟨by rw [putF, if_pos (Nat.zero_le _)]; exact Kd.Own.nil⟩, ⟨HBB.out.trans (hb2.mono (by omega))⟩⟩
    case round =>
      clear HFX HBB HB0' HB1' p0' p1' p2' p3'
      obtain ⟨k, v, b, hk, rfl, rfl, Hb, HB0, HB1, HBX, HFX, HB2, HO, HBB⟩ := hrel
      obtain ⟨M, hM⟩ : ∃ M, M = putF l (⟨time, next, kind, dst, body⟩ : Ev) p k := ⟨_, rfl⟩
      have HM := Hd.mk hM
      have hMl : M.length ≤ l.length + 1 := by rw [hM]; exact putF_len l _ p k
      rw [← hM] at HO
      clear hM
      obtain ⟨A3, c3, rfl, -, -⟩ := HO.out.shape
      have hszr : w2.heap.size + 1 < wr.heap.size := HB2.out.lt
      obtain ⟨b0, b1, b2, b3⟩ := HB0.out.f2
      by_cases hlt : k < l.length
      · obtain ⟨x, hx⟩ : ∃ x, x = nth ev0 l k := ⟨_, rfl⟩
        have HXk := Hd.mk hx
        clear hx
        rcases x with ⟨xt, xn, xk, xd, xb⟩
        rcases Nat.lt_trichotomy k p with hkp | hkp | hkp
        · have hbf : b = false := by rw [Hb.out]; simp; omega
          subst hbf
          have hxt : xt ≤ time := by
            have h1 := HSP.out.1 ((l.take p)[k]'(by rw [List.length_take]; omega)) (List.getElem_mem _)
            rw [List.getElem_take, ← nth_eq ev0 l k hlt, ← HXk.out] at h1
            exact h1
          have g1 : decide (xt > time) = false := by simp; omega
          have hfk : putF l (⟨time, next, kind, dst, body⟩ : Ev) p (k + 1) = M ++ [(⟨xt, xn, xk, xd, xb⟩ : Ev)] := by rw [putF_lt l _ p k hlt hkp, ← HM.out, ← HXk.out]
          have HFK := Hd.mk hfk
          clear hfk hxt b0 b1 b2 b3
          obtain ⟨b0, b1, b2, b3⟩ := HB0.out.f2
          obtain ⟨o0, o1, o2, o3⟩ := HB2.out.f2
          obtain ⟨ad', A4, c4, ea, x0, x1, x2, x3, x4, hx5, hx6⟩ := evs_get (HR.out.below HBB.out) k hlt
          cases ea
          have hxl : (nth ev0 l k).body.length ≤ 4096 := HS.out.2 _ (nth_mem ev0 l k hlt)
          rw [← HXk.out] at x0 x1 x2 x3 x4 hx5 hx6 hxl
          dsimp only at x0 x1 x2 x3 x4 hx5 hx6 hxl
          have K1 : Hd (Calls Try.prog 39 #[.agg #[.int .i64 xt, .int .i64 xn, .int .i64 xk, .int .i64 xd, .slice A4 xb.length c4]] wr.drew fun e w' => ∃ v, e = .returned (.agg #[.int .i64 xt, .int .i64 xn, .int .i64 xk, .int .i64 xd, v]) ∧ (ints .u8).Own 5 w' wr.drew.heap.size (fun _ => False) v xb ∧ Below wr.drew.heap.size wr.drew w') := ⟨refCopy_calls ⟨xt, xn, xk, xd, xb⟩ A4 c4 _ (by exact hx6) hx5 (by exact Nat.le_trans hxl (by decide))⟩
          have hszW : w2.heap.size + 1 < wr.heap.size := HB2.out.lt
          clear hx6
          go_wp2_with fail
          go_region_law
            (first
              | (refine Kd.Own.step_append1 (w0 := wr) rfl (.tmp 90) (.tmp 97) 22 (.agg #[(.int .i64 0), (.int .i64 0), (.int .i64 0), (.int .i64 0), (.slice none 0 0)]) 56 rfl Try.underlying22 info32 rfl (by decide) rfl rfl HO7.out HF7.out ?h1 (HB7.out.mono (by omega)) ?h2 ?h3 ?_; (case h1 => exact fun j hj _ h => by have := (HO.out.blk j h.symm).2; have h3 : wr.heap.size ≤ j := hj.1; omega); (case h2 => omega); (case h3 => omega); intro v1 w8 hown hb2 hg hat; obtain ⟨A8, c8, rfl, -, -⟩ := hown.shape; have HQ8 := Hd.mk (HQ7.out.grown hg (fun h => by have := (HO7.out.blk _ h.symm).1; omega)); obtain ⟨p0', p1', p2', p3'⟩ := HQ8.out.f2; have HO8 := Hd.mk hown; have HB8 := Hd.mk hb2; clear hown hb2 hg hat)
              | (go_simp; go_at_call 39; refine (K1.out).mono ?_; rintro e w7 ⟨v4, rfl, hown, hb⟩; obtain ⟨A7, c7, rfl, -, -⟩ := hown.shape; have o0' := keep hb (by exact o0); have b0' := keep hb (by exact b0); have x0' := keep hb (by exact x0); have x1' := keep hb (by exact x1); have x2' := keep hb (by exact x2); have x3' := keep hb (by exact x3); have x4' := keep hb (by exact x4); have HO7 := Hd.mk (HO.out.drew.below hb); have HF7 := Hd.mk (ev_fp (x := ⟨xt, xn, xk, xd, xb⟩) hown); have HB7 : Hd (Below wr.heap.size wr w7) := ⟨(Below.drew (Below.refl _ _)).trans hb⟩; have HQ7 := Hd.mk (HB2.out.drew.below hb); have hsz7 := HB7.out.size; have o0a := keepA o0' (.cells #[.int .i64 xt, .int .i64 xn, .int .i64 xk, .int .i64 xd, .slice A7 xb.length c7] 32); clear hown hb))
          all_goals
            clear x0 x1 x2 x3 x4 x0' x1' x2' x3' x4' o0 o0' o0a b0 b0' K1
            have HP0 := Hd.mk (HB0.out.belowB HB8.out (by omega))
            have HP1 := Hd.mk (HB1.out.belowB HB8.out (by omega))
            have HPX := Hd.mk (HBX.out.belowB HB8.out (by omega))
            have HFX8 := Hd.mk (HFX.out.step (W1 := w8.setCell ⟨w2.heap.size + 1, 0, none⟩ (.slice A8 (M ++ [(⟨xt, xn, xk, xd, xb⟩ : Ev)]).length c8)) (fun j hj _ => (Below.heap_setCell w8 _ _ j (by dsimp only; omega)).trans (HB8.out.block j (by omega))))
            have HBx := Hd.mk (HBB.out.trans (HB8.out.mono (by omega)))
            go_wp2
            go_roundw
            case rel =>
              refine ⟨k + 1, .slice A8 (M ++ [(⟨xt, xn, xk, xd, xb⟩ : Ev)]).length c8, false, by omega, by go_num, rfl, ⟨by first | (simp; done) | (simp; omega)⟩, ⟨HP0.out.far (by dsimp only; omega) _⟩, ⟨HP1.out.far (by dsimp only; omega) _⟩, ⟨HPX.out.far (by dsimp only; omega) _⟩, ⟨?_⟩, ⟨HQ8.out.put 0 _ (by simp)⟩, ⟨?_⟩, ⟨?_⟩⟩
              · simpa using HFX8.out
              · rw [HFK.out]
                exact (HO8.out.mono (fun j hj => by
                  rcases hj with hj | hj
                  · exact hj
                  · have h4 : wr.heap.size ≤ j := hj.1
                    exact ⟨by omega, by omega⟩)).far (fun j hj => by
                  rcases hj with hj | hj
                  · exact hj.2
                  · have := (HO8.out.blk j hj).1; dsimp only; omega) _
              · exact Below.setCell HBx.out (by dsimp only; omega) _
            case measure => simp [intOf]; omega

        · have hbf : b = false := by rw [Hb.out]; simp; omega
          subst hbf
          subst hkp
          have hxt : time < xt := by
            have h1 := HSP.out.2 (nth ev0 l k) (by
              rw [nth_eq ev0 l k hlt, List.drop_eq_getElem_cons hlt]
              exact List.mem_cons_self)
            rw [← HXk.out] at h1
            exact h1
          have g1 : decide (xt > time) = true := by simp; omega
          have hfk : putF l (⟨time, next, kind, dst, body⟩ : Ev) k (k + 1) = M ++ [(⟨time, next, kind, dst, body⟩ : Ev)] ++ [(⟨xt, xn, xk, xd, xb⟩ : Ev)] := by rw [putF_eq l _ k hlt, ← HM.out, ← HXk.out]
          have HFK := Hd.mk hfk
          obtain ⟨ad, A5, c5, ea, x0, x1, x2, x3, x4, hx5, hx6⟩ := evs_get (HR.out.below HBB.out) k hlt
          cases ea
          rw [← HXk.out] at x0 x1 x2 x3 x4
          dsimp only at x0 x1 x2 x3 x4
          obtain ⟨o0, o1, o2, o3⟩ := HB2.out.f2
          obtain ⟨y0, y1, y2, y3, y4, y5, y6, y7, y8, y9⟩ := HBX.out.f5
          clear hfk hxt hx5 hx6
          go_wp2_with (at_builtin; refine Kd.Own.append1 (w0 := wr) rfl (.tmp 84) (.tmp 86) 22 (.agg #[(.int .i64 0), (.int .i64 0), (.int .i64 0), (.int .i64 0), (.slice none 0 0)]) 56 rfl Try.underlying22 info32 rfl (by decide) rfl rfl HO.out HFX.out ?h1 (Below.refl _ _) ?h2 ?h3 ?_; (case h1 => exact fun j hj _ h => by have := (HO.out.blk j h.symm).1; have h3 : w1.heap.size ≤ j ∧ j < w2.heap.size := hj; omega); (case h2 => omega); (case h3 => omega); intro v1 w5 hown hb2 hg hat; obtain ⟨M2, hM2⟩ : ∃ M2, M2 = M ++ [(⟨time, next, kind, dst, body⟩ : Ev)] := ⟨_, rfl⟩; have hM2l : M2.length = M.length + 1 := (by rw [hM2]; simp); rw [← hM2] at hown; have HM2 := Hd.mk hM2; obtain ⟨A9, c9, rfl, -, -⟩ := hown.shape; have HQ5 := Hd.mk (HB2.out.grown hg (fun h => by have := (HO.out.blk _ h.symm).1; omega)); obtain ⟨p0', p1', p2', p3'⟩ := HQ5.out.f2; have HO5 := Hd.mk hown; have HB5 := Hd.mk (hb2.mono (Nat.le_of_eq rfl)); have HG5 := Hd.mk hg; have hLM2 := Hd.mk hM2l; clear hown hb2 hg hat hM2 hM2l)

          have hW : ∃ w9, w9 = w5.setCell ⟨w2.heap.size + 1, 0, none⟩ (.slice A9 M2.length c9) := ⟨_, rfl⟩
          obtain ⟨w9, hw9⟩ := hW
          have HB0' := Hd.mk ((HB0.out.grown HG5.out (fun h => by have := (HO.out.blk _ h.symm).1; omega)).far (p := ⟨w2.heap.size + 1, 0, none⟩) (by dsimp only; omega) (.slice A9 M2.length c9))
          have HB1' := Hd.mk ((HB1.out.grown HG5.out (fun h => by have := (HO.out.blk _ h.symm).1; omega)).far (p := ⟨w2.heap.size + 1, 0, none⟩) (by dsimp only; omega) (.slice A9 M2.length c9))
          have HBX' := Hd.mk ((HBX.out.grown HG5.out (fun h => by have := (HO.out.blk _ h.symm).1; omega)).far (p := ⟨w2.heap.size + 1, 0, none⟩) (by dsimp only; omega) (.slice A9 M2.length c9))
          have HB2' := Hd.mk (HQ5.out.put (cs' := #[.slice A9 M2.length c9, .int .i64 (next + 1)]) 0 (.slice A9 M2.length c9) (by simp))
          have HFX' := Hd.mk (HFX.out.step (W1 := w5.setCell ⟨w2.heap.size + 1, 0, none⟩ (.slice A9 M2.length c9)) (fun j hj hlt' => (Below.heap_setCell w5 _ _ j (by dsimp only; omega)).trans (HG5.out.block j hlt' (fun h => by have := (HO.out.blk _ h.symm).1; omega))))
          have HO' : Hd (evs.Own 32 (w5.setCell ⟨w2.heap.size + 1, 0, none⟩ (.slice A9 M2.length c9)) (w2.heap.size + 2) (fun j => w1.heap.size ≤ j ∧ j ≠ w2.heap.size + 1) (.slice A9 M2.length c9) M2) := ⟨(HO5.out.mono (fun j hj => by
            rcases hj with hj | hj
            · exact hj
            · have h4 : w1.heap.size ≤ j ∧ j < w2.heap.size := hj
              exact ⟨by omega, by omega⟩)).far (fun j hj => by
            rcases hj with hj | hj
            · exact hj.2
            · have := (HO5.out.blk j hj).1; dsimp only; omega) _⟩
          have HBB' : Hd (Below w.heap.size w (w5.setCell ⟨w2.heap.size + 1, 0, none⟩ (.slice A9 M2.length c9))) := ⟨Below.setCell (HBB.out.grown HG5.out (by omega) (fun j h => by have := (HO.out.blk _ h).1; omega)) (by dsimp only; omega) _⟩
          have hLM := hLM2.out
          have HLM := Hd.mk hLM
          rw [← hw9] at HB0' HB1' HBX' HB2' HFX' HO' HBB' ⊢
          have HB0 := HB0'; have HB1 := HB1'; have HBX := HBX'; have HB2 := HB2'; have HFX := HFX'; have HO := HO'; have HBB := HBB'
          clear hw9 HB0' HB1' HBX' HB2' HFX' HO' HBB' HQ5 HO5 HB5 HG5 hLM2 p0' p1' p2' p3' hLM

          clear b0 b1 b2 b3 o0 o1 o2 o3 x0 x1 x2 x3 x4 y0 y1 y2 y3 y4 y5 y6 y7 y8 y9
          have hlm : M2.length ≤ 4098 := by rw [HLM.out]; omega
          have HFK2 : Hd (putF l (⟨time, next, kind, dst, body⟩ : Ev) k (k + 1) = M2 ++ [(⟨xt, xn, xk, xd, xb⟩ : Ev)]) := ⟨by rw [HFK.out, ← HM2.out]⟩
          obtain ⟨b0, b1, b2, b3⟩ := HB0.out.f2
          obtain ⟨o0, o1, o2, o3⟩ := HB2.out.f2
          obtain ⟨ad', A4, c4, ea, x0, x1, x2, x3, x4, hx5, hx6⟩ := evs_get (HR.out.below HBB.out) k hlt
          cases ea
          have hxl : (nth ev0 l k).body.length ≤ 4096 := HS.out.2 _ (nth_mem ev0 l k hlt)
          rw [← HXk.out] at x0 x1 x2 x3 x4 hx5 hx6 hxl
          dsimp only at x0 x1 x2 x3 x4 hx5 hx6 hxl
          have K1 : Hd (Calls Try.prog 39 #[.agg #[.int .i64 xt, .int .i64 xn, .int .i64 xk, .int .i64 xd, .slice A4 xb.length c4]] w9.drew fun e w' => ∃ v, e = .returned (.agg #[.int .i64 xt, .int .i64 xn, .int .i64 xk, .int .i64 xd, v]) ∧ (ints .u8).Own 5 w' w9.drew.heap.size (fun _ => False) v xb ∧ Below w9.drew.heap.size w9.drew w') := ⟨refCopy_calls ⟨xt, xn, xk, xd, xb⟩ A4 c4 _ (by exact hx6) hx5 (by exact Nat.le_trans hxl (by decide))⟩
          have hszW : w2.heap.size + 1 < w9.heap.size := HB2.out.lt
          clear hx6
          go_wp2_with fail
          go_region_law
            (first
              | (refine Kd.Own.step_append1 (w0 := w9) rfl (.tmp 90) (.tmp 97) 22 (.agg #[(.int .i64 0), (.int .i64 0), (.int .i64 0), (.int .i64 0), (.slice none 0 0)]) 56 rfl Try.underlying22 info32 rfl (by decide) rfl rfl HO7.out HF7.out ?h1 (HB7.out.mono (by omega)) ?h2 ?h3 ?_; (case h1 => exact fun j hj _ h => by have := (HO.out.blk j h.symm).2; have h3 : w9.heap.size ≤ j := hj.1; omega); (case h2 => omega); (case h3 => omega); intro v1 w8 hown hb2 hg hat; obtain ⟨A8, c8, rfl, -, -⟩ := hown.shape; have HQ8 := Hd.mk (HQ7.out.grown hg (fun h => by have := (HO7.out.blk _ h.symm).1; omega)); obtain ⟨p0', p1', p2', p3'⟩ := HQ8.out.f2; have HO8 := Hd.mk hown; have HB8 := Hd.mk hb2; clear hown hb2 hg hat)
              | (go_simp; go_at_call 39; refine (K1.out).mono ?_; rintro e w7 ⟨v4, rfl, hown, hb⟩; obtain ⟨A7, c7, rfl, -, -⟩ := hown.shape; have o0' := keep hb (by exact o0); have b0' := keep hb (by exact b0); have x0' := keep hb (by exact x0); have x1' := keep hb (by exact x1); have x2' := keep hb (by exact x2); have x3' := keep hb (by exact x3); have x4' := keep hb (by exact x4); have HO7 := Hd.mk (HO.out.drew.below hb); have HF7 := Hd.mk (ev_fp (x := ⟨xt, xn, xk, xd, xb⟩) hown); have HB7 : Hd (Below w9.heap.size w9 w7) := ⟨(Below.drew (Below.refl _ _)).trans hb⟩; have HQ7 := Hd.mk (HB2.out.drew.below hb); have hsz7 := HB7.out.size; have o0a := keepA o0' (.cells #[.int .i64 xt, .int .i64 xn, .int .i64 xk, .int .i64 xd, .slice A7 xb.length c7] 32); clear hown hb))
          all_goals
            clear x0 x1 x2 x3 x4 x0' x1' x2' x3' x4' o0 o0' o0a b0 b0' K1
            have HP0 := Hd.mk (HB0.out.belowB HB8.out (by omega))
            have HP1 := Hd.mk (HB1.out.belowB HB8.out (by omega))
            have HPX := Hd.mk (HBX.out.belowB HB8.out (by omega))
            have HFX8 := Hd.mk (HFX.out.step (W1 := w8.setCell ⟨w2.heap.size + 1, 0, none⟩ (.slice A8 (M2 ++ [(⟨xt, xn, xk, xd, xb⟩ : Ev)]).length c8)) (fun j hj _ => (Below.heap_setCell w8 _ _ j (by dsimp only; omega)).trans (HB8.out.block j (by omega))))
            have HBx := Hd.mk (HBB.out.trans (HB8.out.mono (by omega)))
            go_wp2
            go_roundw
            case rel =>
              refine ⟨k + 1, .slice A8 (M2 ++ [(⟨xt, xn, xk, xd, xb⟩ : Ev)]).length c8, true, by omega, by go_num, rfl, ⟨by first | (simp; done) | (simp; omega)⟩, ⟨HP0.out.far (by dsimp only; omega) _⟩, ⟨HP1.out.far (by dsimp only; omega) _⟩, ⟨HPX.out.far (by dsimp only; omega) _⟩, ⟨?_⟩, ⟨HQ8.out.put 0 _ (by simp)⟩, ⟨?_⟩, ⟨?_⟩⟩
              · simpa using HFX8.out
              · rw [HFK2.out]
                exact (HO8.out.mono (fun j hj => by
                  rcases hj with hj | hj
                  · exact hj
                  · have h4 : w9.heap.size ≤ j := hj.1
                    exact ⟨by omega, by omega⟩)).far (fun j hj => by
                  rcases hj with hj | hj
                  · exact hj.2
                  · have := (HO8.out.blk j hj).1; dsimp only; omega) _
              · exact Below.setCell HBx.out (by dsimp only; omega) _
            case measure => simp [intOf]; omega

        · have hbf : b = true := by rw [Hb.out]; simp; omega
          subst hbf
          have hfk : putF l (⟨time, next, kind, dst, body⟩ : Ev) p (k + 1) = M ++ [(⟨xt, xn, xk, xd, xb⟩ : Ev)] := by rw [putF_gt l _ p k hlt hkp, ← HM.out, ← HXk.out]
          have HFK := Hd.mk hfk
          clear hfk b0 b1 b2 b3
          obtain ⟨b0, b1, b2, b3⟩ := HB0.out.f2
          obtain ⟨o0, o1, o2, o3⟩ := HB2.out.f2
          obtain ⟨ad', A4, c4, ea, x0, x1, x2, x3, x4, hx5, hx6⟩ := evs_get (HR.out.below HBB.out) k hlt
          cases ea
          have hxl : (nth ev0 l k).body.length ≤ 4096 := HS.out.2 _ (nth_mem ev0 l k hlt)
          rw [← HXk.out] at x0 x1 x2 x3 x4 hx5 hx6 hxl
          dsimp only at x0 x1 x2 x3 x4 hx5 hx6 hxl
          have K1 : Hd (Calls Try.prog 39 #[.agg #[.int .i64 xt, .int .i64 xn, .int .i64 xk, .int .i64 xd, .slice A4 xb.length c4]] wr.drew fun e w' => ∃ v, e = .returned (.agg #[.int .i64 xt, .int .i64 xn, .int .i64 xk, .int .i64 xd, v]) ∧ (ints .u8).Own 5 w' wr.drew.heap.size (fun _ => False) v xb ∧ Below wr.drew.heap.size wr.drew w') := ⟨refCopy_calls ⟨xt, xn, xk, xd, xb⟩ A4 c4 _ (by exact hx6) hx5 (by exact Nat.le_trans hxl (by decide))⟩
          have hszW : w2.heap.size + 1 < wr.heap.size := HB2.out.lt
          clear hx6
          go_wp2_with fail
          go_region_law
            (first
              | (refine Kd.Own.step_append1 (w0 := wr) rfl (.tmp 90) (.tmp 97) 22 (.agg #[(.int .i64 0), (.int .i64 0), (.int .i64 0), (.int .i64 0), (.slice none 0 0)]) 56 rfl Try.underlying22 info32 rfl (by decide) rfl rfl HO7.out HF7.out ?h1 (HB7.out.mono (by omega)) ?h2 ?h3 ?_; (case h1 => exact fun j hj _ h => by have := (HO.out.blk j h.symm).2; have h3 : wr.heap.size ≤ j := hj.1; omega); (case h2 => omega); (case h3 => omega); intro v1 w8 hown hb2 hg hat; obtain ⟨A8, c8, rfl, -, -⟩ := hown.shape; have HQ8 := Hd.mk (HQ7.out.grown hg (fun h => by have := (HO7.out.blk _ h.symm).1; omega)); obtain ⟨p0', p1', p2', p3'⟩ := HQ8.out.f2; have HO8 := Hd.mk hown; have HB8 := Hd.mk hb2; clear hown hb2 hg hat)
              | (go_simp; go_at_call 39; refine (K1.out).mono ?_; rintro e w7 ⟨v4, rfl, hown, hb⟩; obtain ⟨A7, c7, rfl, -, -⟩ := hown.shape; have o0' := keep hb (by exact o0); have b0' := keep hb (by exact b0); have x0' := keep hb (by exact x0); have x1' := keep hb (by exact x1); have x2' := keep hb (by exact x2); have x3' := keep hb (by exact x3); have x4' := keep hb (by exact x4); have HO7 := Hd.mk (HO.out.drew.below hb); have HF7 := Hd.mk (ev_fp (x := ⟨xt, xn, xk, xd, xb⟩) hown); have HB7 : Hd (Below wr.heap.size wr w7) := ⟨(Below.drew (Below.refl _ _)).trans hb⟩; have HQ7 := Hd.mk (HB2.out.drew.below hb); have hsz7 := HB7.out.size; have o0a := keepA o0' (.cells #[.int .i64 xt, .int .i64 xn, .int .i64 xk, .int .i64 xd, .slice A7 xb.length c7] 32); clear hown hb))
          all_goals
            clear x0 x1 x2 x3 x4 x0' x1' x2' x3' x4' o0 o0' o0a b0 b0' K1
            have HP0 := Hd.mk (HB0.out.belowB HB8.out (by omega))
            have HP1 := Hd.mk (HB1.out.belowB HB8.out (by omega))
            have HPX := Hd.mk (HBX.out.belowB HB8.out (by omega))
            have HFX8 := Hd.mk (HFX.out.step (W1 := w8.setCell ⟨w2.heap.size + 1, 0, none⟩ (.slice A8 (M ++ [(⟨xt, xn, xk, xd, xb⟩ : Ev)]).length c8)) (fun j hj _ => (Below.heap_setCell w8 _ _ j (by dsimp only; omega)).trans (HB8.out.block j (by omega))))
            have HBx := Hd.mk (HBB.out.trans (HB8.out.mono (by omega)))
            go_wp2
            go_roundw
            case rel =>
              refine ⟨k + 1, .slice A8 (M ++ [(⟨xt, xn, xk, xd, xb⟩ : Ev)]).length c8, true, by omega, by go_num, rfl, ⟨by first | (simp; done) | (simp; omega)⟩, ⟨HP0.out.far (by dsimp only; omega) _⟩, ⟨HP1.out.far (by dsimp only; omega) _⟩, ⟨HPX.out.far (by dsimp only; omega) _⟩, ⟨?_⟩, ⟨HQ8.out.put 0 _ (by simp)⟩, ⟨?_⟩, ⟨?_⟩⟩
              · simpa using HFX8.out
              · rw [HFK.out]
                exact (HO8.out.mono (fun j hj => by
                  rcases hj with hj | hj
                  · exact hj
                  · have h4 : wr.heap.size ≤ j := hj.1
                    exact ⟨by omega, by omega⟩)).far (fun j hj => by
                  rcases hj with hj | hj
                  · exact hj.2
                  · have := (HO8.out.blk j hj).1; dsimp only; omega) _
              · exact Below.setCell HBx.out (by dsimp only; omega) _
            case measure => simp [intOf]; omega

      · have hkl : k = l.length := by omega
        subst hkl
        by_cases hpl : p < l.length
        · have hbf : b = true := by rw [Hb.out]; simp; omega
          subst hbf
          have hfk : l.take p ++ (⟨time, next, kind, dst, body⟩ : Ev) :: l.drop p = M := by rw [HM.out, putF_all l _ p hpl]
          have HFK := Hd.mk hfk
          clear hfk b0 b1 b2 b3
          obtain ⟨b0, b1, b2, b3⟩ := HB0.out.f2
          obtain ⟨o0, o1, o2, o3⟩ := HB2.out.f2
          obtain ⟨q0, q1, q2, q3⟩ := HB1.out.f2
          have hszW : w2.heap.size + 1 < wr.heap.size := HB2.out.lt
          go_wp2_with fail
          go_region_held3 (fun W => W.cell? ⟨w.heap.size, 1, none⟩ = some (.int .i64 next) ∧ W.cell? ⟨w2.heap.size + 1, 0, none⟩ = some (.slice A3 M.length c3) ∧ W.cell? ⟨w2.heap.size + 1, 1, none⟩ = some (.int .i64 (next + 1)))
            (first | with_reducible exact ⟨b1, o0, o1⟩ | (refine ⟨?_, ?_, ?_⟩ <;> (repeat (first | with_reducible assumption | with_reducible refine keepD ?_ | with_reducible refine keepS ?_ (by dsimp only; omega))) <;> done))
            (first | fail)
          all_goals
            go_wp2
            refine bodyPost_ret (v := .tuple #[.agg #[.slice A3 M.length c3, .int .i64 (next + 1)], .int .i64 next, .int .i64 0]) (by simp [results, Try.results15, go_sem, q0, q1]) rfl ?_
            rw [HE.out, HFK.out]
            refine ⟨_, rfl, ?_, ?_⟩
            · have hv : evs.V wr (fun j => w1.heap.size ≤ j) (.slice A3 M.length c3) M := HO.out.V.mono (fun j hj => by
                rcases hj with hj | hj
                · exact hj.1
                · have := (HO.out.blk j hj).1; omega)
              refine Kd.V.mono (ok := fun j => w1.heap.size ≤ j) ?_ (fun j hj => by have hj' : w1.heap.size ≤ j := hj; omega)
              repeat (first | (with_reducible exact hv) | (with_reducible refine Kd.V.drew ?_) | (with_reducible refine Kd.V.far ?_ (fun j hj => by have hj' : w1.heap.size ≤ j := hj; dsimp only; omega) _))
            · have h2 := HBB.out
              repeat (first | (with_reducible exact h2) | (with_reducible refine Below.drew ?_) | (with_reducible refine Below.setCell ?_ (by dsimp only; omega) _))

        · have hbf : b = false := by rw [Hb.out]; simp; omega
          subst hbf
          obtain ⟨o0, o1, o2, o3⟩ := HB2.out.f2
          obtain ⟨y0, y1, y2, y3, y4, y5, y6, y7, y8, y9⟩ := HBX.out.f5
          go_wp2_with (at_builtin; refine Kd.Own.append1 (w0 := wr) rfl (.tmp 103) (.tmp 105) 22 (.agg #[(.int .i64 0), (.int .i64 0), (.int .i64 0), (.int .i64 0), (.slice none 0 0)]) 56 rfl Try.underlying22 info32 rfl (by decide) rfl rfl HO.out HFX.out ?h1 (Below.refl _ _) ?h2 ?h3 ?_; (case h1 => exact fun j hj _ h => by have := (HO.out.blk j h.symm).1; have h3 : w1.heap.size ≤ j ∧ j < w2.heap.size := hj; omega); (case h2 => omega); (case h3 => omega); intro v1 w5 hown hb2 hg hat; obtain ⟨M2, hM2⟩ : ∃ M2, M2 = M ++ [(⟨time, next, kind, dst, body⟩ : Ev)] := ⟨_, rfl⟩; have hM2l : M2.length = M.length + 1 := (by rw [hM2]; simp); rw [← hM2] at hown; have HM2 := Hd.mk hM2; obtain ⟨A9, c9, rfl, -, -⟩ := hown.shape; have HQ5 := Hd.mk (HB2.out.grown hg (fun h => by have := (HO.out.blk _ h.symm).1; omega)); obtain ⟨p0', p1', p2', p3'⟩ := HQ5.out.f2; have HO5 := Hd.mk hown; have HB5 := Hd.mk (hb2.mono (Nat.le_of_eq rfl)); have HG5 := Hd.mk hg; have hLM2 := Hd.mk hM2l; clear hown hb2 hg hat hM2 hM2l)

          have hW : ∃ w9, w9 = w5.setCell ⟨w2.heap.size + 1, 0, none⟩ (.slice A9 M2.length c9) := ⟨_, rfl⟩
          obtain ⟨w9, hw9⟩ := hW
          have HB0' := Hd.mk ((HB0.out.grown HG5.out (fun h => by have := (HO.out.blk _ h.symm).1; omega)).far (p := ⟨w2.heap.size + 1, 0, none⟩) (by dsimp only; omega) (.slice A9 M2.length c9))
          have HB1' := Hd.mk ((HB1.out.grown HG5.out (fun h => by have := (HO.out.blk _ h.symm).1; omega)).far (p := ⟨w2.heap.size + 1, 0, none⟩) (by dsimp only; omega) (.slice A9 M2.length c9))
          have HBX' := Hd.mk ((HBX.out.grown HG5.out (fun h => by have := (HO.out.blk _ h.symm).1; omega)).far (p := ⟨w2.heap.size + 1, 0, none⟩) (by dsimp only; omega) (.slice A9 M2.length c9))
          have HB2' := Hd.mk (HQ5.out.put (cs' := #[.slice A9 M2.length c9, .int .i64 (next + 1)]) 0 (.slice A9 M2.length c9) (by simp))
          have HFX' := Hd.mk (HFX.out.step (W1 := w5.setCell ⟨w2.heap.size + 1, 0, none⟩ (.slice A9 M2.length c9)) (fun j hj hlt' => (Below.heap_setCell w5 _ _ j (by dsimp only; omega)).trans (HG5.out.block j hlt' (fun h => by have := (HO.out.blk _ h.symm).1; omega))))
          have HO' : Hd (evs.Own 32 (w5.setCell ⟨w2.heap.size + 1, 0, none⟩ (.slice A9 M2.length c9)) (w2.heap.size + 2) (fun j => w1.heap.size ≤ j ∧ j ≠ w2.heap.size + 1) (.slice A9 M2.length c9) M2) := ⟨(HO5.out.mono (fun j hj => by
            rcases hj with hj | hj
            · exact hj
            · have h4 : w1.heap.size ≤ j ∧ j < w2.heap.size := hj
              exact ⟨by omega, by omega⟩)).far (fun j hj => by
            rcases hj with hj | hj
            · exact hj.2
            · have := (HO5.out.blk j hj).1; dsimp only; omega) _⟩
          have HBB' : Hd (Below w.heap.size w (w5.setCell ⟨w2.heap.size + 1, 0, none⟩ (.slice A9 M2.length c9))) := ⟨Below.setCell (HBB.out.grown HG5.out (by omega) (fun j h => by have := (HO.out.blk _ h).1; omega)) (by dsimp only; omega) _⟩
          have hLM := hLM2.out
          have HLM := Hd.mk hLM
          rw [← hw9] at HB0' HB1' HBX' HB2' HFX' HO' HBB' ⊢
          have HB0 := HB0'; have HB1 := HB1'; have HBX := HBX'; have HB2 := HB2'; have HFX := HFX'; have HO := HO'; have HBB := HBB'
          clear hw9 HB0' HB1' HBX' HB2' HFX' HO' HBB' HQ5 HO5 HB5 HG5 hLM2 p0' p1' p2' p3' hLM

          clear b0 b1 b2 b3 o0 o1 o2 o3 y0 y1 y2 y3 y4 y5 y6 y7 y8 y9
          have hfk : l.take p ++ (⟨time, next, kind, dst, body⟩ : Ev) :: l.drop p = M2 := by rw [HM2.out, HM.out, putF_end l _ p (by omega)]
          have HFK := Hd.mk hfk
          clear hfk
          obtain ⟨b0, b1, b2, b3⟩ := HB0.out.f2
          obtain ⟨o0, o1, o2, o3⟩ := HB2.out.f2
          obtain ⟨q0, q1, q2, q3⟩ := HB1.out.f2
          have hszW : w2.heap.size + 1 < w9.heap.size := HB2.out.lt
          go_wp2_with fail
          go_region_held3 (fun W => W.cell? ⟨w.heap.size, 1, none⟩ = some (.int .i64 next) ∧ W.cell? ⟨w2.heap.size + 1, 0, none⟩ = some (.slice A9 M2.length c9) ∧ W.cell? ⟨w2.heap.size + 1, 1, none⟩ = some (.int .i64 (next + 1)))
            (first | with_reducible exact ⟨b1, o0, o1⟩ | (refine ⟨?_, ?_, ?_⟩ <;> (repeat (first | with_reducible assumption | with_reducible refine keepD ?_ | with_reducible refine keepS ?_ (by dsimp only; omega))) <;> done))
            (first | fail)
          all_goals
            go_wp2
            refine bodyPost_ret (v := .tuple #[.agg #[.slice A9 M2.length c9, .int .i64 (next + 1)], .int .i64 next, .int .i64 0]) (by simp [results, Try.results15, go_sem, q0, q1]) rfl ?_
            rw [HE.out, HFK.out]
            refine ⟨_, rfl, ?_, ?_⟩
            · have hv : evs.V w9 (fun j => w1.heap.size ≤ j) (.slice A9 M2.length c9) M2 := HO.out.V.mono (fun j hj => by
                rcases hj with hj | hj
                · exact hj.1
                · have := (HO.out.blk j hj).1; omega)
              refine Kd.V.mono (ok := fun j => w1.heap.size ≤ j) ?_ (fun j hj => by have hj' : w1.heap.size ≤ j := hj; omega)
              repeat (first | (with_reducible exact hv) | (with_reducible refine Kd.V.drew ?_) | (with_reducible refine Kd.V.far ?_ (fun j hj => by have hj' : w1.heap.size ≤ j := hj; dsimp only; omega) _))
            · have h2 := HBB.out
              repeat (first | (with_reducible exact h2) | (with_reducible refine Below.drew ?_) | (with_reducible refine Below.setCell ?_ (by dsimp only; omega) _))

  · have hb1 : (er != 0) = true := by simp [h]
    have HE : Hd (r = (([], 0), 0, er)) := ⟨by rw [HF.out, addF, if_pos (by rw [← HER.out]; exact h), HER.out]⟩
    clear h HF
    go_enter Try.func15, Try.ntmps15
    go_wp2_with fail
    refine (refCheck_calls A c l next _ (HR.out.below (by go_grown)) hc).mono ?_
    rw [← HER.out]
    rintro e w1 ⟨rfl, hb⟩
    have hbw : Below w.heap.size w w1 := Below.trans (by go_grown) (hb.mono (by simp; omega))
    have hsz : w.heap.size + 2 ≤ w1.heap.size := by have := hb.size; simpa using this
    have B1 := (Blk.new (w.alloc (.cells #[.slice A l.length c, .int .i64 next] 24)) 24 #[.slice none 0 0, .int .i64 0]).below hb
    rw [World.size_alloc] at B1
    have HBW := Hd.mk hbw
    obtain ⟨q0, q1, q2, q3⟩ := B1.f2
    clear hb hbw B1
    go_wp2
    refine bodyPost_ret (v := .tuple #[.agg #[.slice none 0 0, .int .i64 0], .int .i64 0, .int .i64 (er)]) (by simp [results, Try.results15, go_sem, q0, q1]) rfl ?_
    rw [HE.out]
    refine ⟨_, rfl, Kd.V.nil, ?_⟩
    have h2 := HBW.out
    repeat (first | (with_reducible exact h2) | (with_reducible refine Below.setCell ?_ (by dsimp only; omega) _))

end Go.Proofs.Ytnmcbpjhlkpglaa.B
