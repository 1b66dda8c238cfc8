/- What this text holds: the contract of the reference's Deliver, on a link that is in order. -/
import Derived.Test.YtkgkiencikmhfaaH5
set_option linter.unusedVariables false
set_option linter.unusedSimpArgs false
namespace Go.Proofs.Ytkgkiencikmhfaa.B
open Go.RowKit

/-- What the reference's Deliver leaves: a link, payloads. -/
def DeliverPost2 (w : World) (ok : Nat → Prop) (r : Lk × List (List Int)) (e : Ending) (w' : World) : Prop :=
  ∃ v u, e = .returned (.tuple #[.agg #[.int .i64 r.1.mn, .int .i64 r.1.mx, .int .i64 r.1.rt, .bool r.1.down, .int .i64 r.1.idle, .int .i64 r.1.next, v], u]) ∧ fls.V w' (fun k => ok k ∨ w.heap.size ≤ k) v r.1.fl ∧ bss.V w' (fun k => w.heap.size ≤ k) u r.2 ∧ Below w.heap.size w w'

set_option maxRecDepth 100000 in
set_option maxHeartbeats 4000000 in
theorem refDeliver_ok (mn mx rt : Int) (dn : Bool) (idle next : Int) (A : Option Addr) (c : Nat) (l : List Fl) (now : Int) (w : World) (ok : Nat → Prop) (hv0 : fls.V w ok (.slice A l.length c) l) (h : chkL mn mx rt dn idle next l = 0) (hs : Small l) :
    Calls Try.prog 26 #[.agg #[.int .i64 mn, .int .i64 mx, .int .i64 rt, .bool dn, .int .i64 idle, .int .i64 next, .slice A l.length c], .int .i64 now] w (DeliverPost2 w ok (⟨mn, mx, rt, dn, idle, next, l.filter (fun x => !decide (x.t ≤ now))⟩, (l.filter (fun x => decide (x.t ≤ now))).map (·.body))) := by
  have hu26 := Try.underlying26
  have hu69 := Try.underlying69
  have hr := hv0.C
  have hc : l.length ≤ c := hv0.n.2
  have HR := Hd.mk hr
  have HS := Hd.mk hs
  have hll := hs.1
  have H0 := Hd.mk h
  clear hv0 hr hs h
  obtain ⟨R1, hR1⟩ : ∃ R1, R1 = l.filter (fun x => !decide (x.t ≤ now)) := ⟨_, rfl⟩
  obtain ⟨R2, hR2⟩ : ∃ R2, R2 = (l.filter (fun x => decide (x.t ≤ now))).map (·.body) := ⟨_, rfl⟩
  rw [← hR1, ← hR2]
  have HR1 := Hd.mk hR1; have HR2 := Hd.mk hR2
  clear hR1 hR2
  have HB : Hd (Below w.heap.size w ((w.alloc (.cells #[.int .i64 mn, .int .i64 mx, .int .i64 rt, .bool dn, .int .i64 idle, .int .i64 next, .slice A l.length c] 26)).alloc (.cells #[.int .i64 0, .int .i64 0, .int .i64 0, .bool false, .int .i64 0, .int .i64 0, .slice none 0 0] 26))) := ⟨by go_grown⟩
  have hq := (Blk.new w 26 #[.int .i64 mn, .int .i64 mx, .int .i64 rt, .bool dn, .int .i64 idle, .int .i64 next, .slice A l.length c]).alloc (.cells #[.int .i64 0, .int .i64 0, .int .i64 0, .bool false, .int .i64 0, .int .i64 0, .slice none 0 0] 26)
  have hp := Blk.new (w.alloc (.cells #[.int .i64 mn, .int .i64 mx, .int .i64 rt, .bool dn, .int .i64 idle, .int .i64 next, .slice A l.length c] 26)) 26 #[.int .i64 0, .int .i64 0, .int .i64 0, .bool false, .int .i64 0, .int .i64 0, .slice none 0 0]
  rw [World.size_alloc] at hp
  have HQ := Hd.mk hq
  have HP := Hd.mk hp
  clear hq hp
  go_enter Try.func26, Try.ntmps26
  go_wp2_with fail
  refine (refCheck_calls mn mx rt dn idle next A c l _ (HR.out.below HB.out) hc).mono ?_
  rw [H0.out]
  rintro e w2 ⟨rfl, hb⟩
  replace HB := Hd.mk (bstep HB.out (Nat.le_refl _) hb)
  replace HQ := Hd.mk (HQ.out.below hb)
  replace HP := Hd.mk (HP.out.below hb)
  clear hb
  obtain ⟨q0, q1, q2, q3, q4, q5, q6, q7, q8, q9, q10, q11, q12, q13⟩ := HQ.out.f7
  go_wp2_with fail
  refine (refCopy_calls mn mx rt dn idle next A c l _ (HR.out.below HB.out) hc HS.out).mono ?_
  rintro e w3 ⟨v, rfl, hown, hb⟩
  obtain ⟨A2, c2, rfl, -, -⟩ := hown.shape
  replace HB := Hd.mk (bstep HB.out (Nat.le_refl _) hb)
  replace HQ := Hd.mk (HQ.out.below hb)
  replace HP := Hd.mk (HP.out.below hb)
  have hplt := HP.out.lt
  have hw3 : w.heap.size + 1 < w3.heap.size := hplt
  clear hb hown q0 q1 q2 q3 q4 q5 q6 q7 q8 q9 q10 q11 q12 q13
  go_wp2
  go_loopw [7, 8] (fun ua ui wr => ∃ k v, k ≤ l.length ∧ ui = .int .i64 (k : Nat) ∧ Hd (Blk wr w.heap.size 26 #[.int .i64 mn, .int .i64 mx, .int .i64 rt, .bool dn, .int .i64 idle, .int .i64 next, .slice A l.length c]) ∧ Hd (Blk wr (w.heap.size + 1) 26 #[.int .i64 0, .int .i64 0, .int .i64 0, .bool false, .int .i64 0, .int .i64 0, .slice none 0 0]) ∧ Hd (Blk wr w3.heap.size 26 #[.int .i64 mn, .int .i64 mx, .int .i64 rt, .bool dn, .int .i64 idle, .int .i64 next, v]) ∧
    Hd (bss.Own 37 wr (w3.heap.size + 1) (fun j => (w3.heap.size + 1) ≤ j ∧ some j ≠ v.ownBlock) ua (((l.take k).filter (fun x => decide (x.t ≤ now))).map (·.body))) ∧ Hd (fls.Own 69 wr (w3.heap.size + 1) (fun j => (w3.heap.size + 1) ≤ j ∧ some j ≠ ua.ownBlock) v ((l.take k).filter (fun x => !decide (x.t ≤ now)))) ∧ Hd (∀ j, ua.ownBlock = some j → v.ownBlock ≠ some j) ∧ Hd (Below w.heap.size w wr)) (fun _ ui _ => l.length - (intOf ui).toNat)
  case atStart => exact ⟨0, _, Nat.zero_le _, rfl, ⟨HQ.out.alloc _⟩, ⟨HP.out.alloc _⟩, ⟨Blk.new w3 26 _⟩, ⟨Kd.Own.nil⟩, ⟨Kd.Own.nil⟩, ⟨fun j hj => by cases hj⟩, ⟨balloc HB.out (Nat.le_refl _) _⟩⟩
  case round =>
    clear HQ HP HB hplt
    obtain ⟨k, v, hk, rfl, HQ, HP, HX, HD, HO, HNE, HB⟩ := hrel
    obtain ⟨M, hM⟩ : ∃ M, M = (l.take k).filter (fun x => !decide (x.t ≤ now)) := ⟨_, rfl⟩
    obtain ⟨D, hD⟩ : ∃ D, D = ((l.take k).filter (fun x => decide (x.t ≤ now))).map (·.body) := ⟨_, rfl⟩
    have HM := Hd.mk hM; have HDd := Hd.mk hD
    have hMl : M.length ≤ l.length := by rw [hM]; exact Nat.le_trans (List.length_filter_le _ _) (by rw [List.length_take]; omega)
    have hDl : D.length ≤ l.length := by rw [hD, List.length_map]; exact Nat.le_trans (List.length_filter_le _ _) (by rw [List.length_take]; omega)
    rw [← hM] at HO
    rw [← hD] at HD
    clear hM hD
    obtain ⟨A3, c3, rfl, -, -⟩ := HO.out.shape
    obtain ⟨A6, c6, rfl, -, -⟩ := HD.out.shape
    have hxlt := HX.out.lt
    have hplt := HP.out.lt
    obtain ⟨q0, q1, q2, q3, q4, q5, q6, -, -, -, -, -, -, -⟩ := HQ.out.f7
    by_cases hlt : k < l.length
    · obtain ⟨ad, A4, c4, ea, y0, y1, y2, hx5, hx6⟩ := fls_get (HR.out.below HB.out) k hlt
      cases ea
      have hxl : (nth fl0 l k).body.length ≤ 65536 := HS.out.2 _ (nth_mem fl0 l k hlt)
      have htk := take_nth fl0 l k hlt
      obtain ⟨x, hx⟩ : ∃ x, x = nth fl0 l k := ⟨_, rfl⟩
      rw [← hx] at y0 y1 y2 hx5 hx6 hxl htk
      clear hx
      rcases x with ⟨xt, xn, xb⟩
      dsimp only at y0 y1 y2 hx5 hx6 hxl
      have HTK := Hd.mk htk
      have HC6 := Hd.mk (hx6.below (Below.alloc (Below.refl _ _) (Nat.le_refl _) (.cells #[.int .i64 xt, .int .i64 xn, .slice A4 xb.length c4] 69)))
      have HX5 := Hd.mk hx5
      have hkl : (k : Int) < l.length := by omega
      clear htk hx5 hx6
      have hba : Below wr.heap.size wr (wr.alloc (.cells #[.int .i64 xt, .int .i64 xn, .slice A4 xb.length c4] 69)) := Below.alloc (Below.refl _ _) (Nat.le_refl _) _
      have HQa := Hd.mk (HQ.out.below hba); have HPa := Hd.mk (HP.out.below hba); have HXa := Hd.mk (HX.out.below hba)
      have HDa := Hd.mk (HD.out.below hba); have HOa := Hd.mk (HO.out.below hba); have HBa := Hd.mk (bstep HB.out (Nat.le_refl _) hba)
      have HDb := Hd.mk HD.out.blk; have HOb := Hd.mk HO.out.blk
      have HF := Hd.mk (Blk.new wr 69 #[.int .i64 xt, .int .i64 xn, .slice A4 xb.length c4])
      have HDc := Hd.mk (HD.out.bound.below hba); have HOc := Hd.mk (HO.out.bound.below hba)
      clear hba HQ HP HX HD HO HB
      by_cases hxt : xt ≤ now
      · have g1 : decide (xt ≤ now) = true := by simp [hxt]
        have HE1 : Hd (((l.take (k + 1)).filter (fun x => decide (x.t ≤ now))).map (·.body) = D ++ [xb]) := ⟨by rw [HTK.out, List.filter_append, List.map_append, ← HDd.out]; simp [hxt]⟩
        have HE2 : Hd ((l.take (k + 1)).filter (fun x => !decide (x.t ≤ now)) = M) := ⟨by rw [HTK.out, List.filter_append, ← HM.out]; simp [hxt]⟩
        go_wp2_with fail
        refine (refCopied_calls A4 c4 xb _ HC6.out HX5.out (by omega)).mono ?_
        rintro e w7 ⟨v4, rfl, hown, hb⟩
        obtain ⟨A7, c7, rfl, -, -⟩ := hown.shape
        have HF7 := Hd.mk (bs_fp hown)
        have HD7 := Hd.mk (HDa.out.below hb); have HO7 := Hd.mk (HOa.out.below hb)
        have HQ7 := Hd.mk (HQa.out.below hb); have HP7 := Hd.mk (HPa.out.below hb); have HX7 := Hd.mk (HXa.out.below hb)
        have HB7 := Hd.mk (bstep HBa.out (Nat.le_refl _) hb)
        have hs7 : wr.heap.size + 1 ≤ w7.heap.size := by have := hb.size; rw [World.size_alloc] at this; exact this
        clear hown hb y0 y1 y2 q0 q1 q2 q3 q4 q5 q6 HDa HOa HDc HOc HQa HPa HXa HBa HF
        go_wp2_with (at_builtin; refine Kd.Own.append1 (w0 := w7) rfl (.tmp 33) (.tmp 37) 53 (.slice none 0 0) 24 rfl Try.underlying53 info37 rfl (by decide) rfl rfl HD7.out HF7.out ?h1 (Below.refl _ _) ?h2 ?h3 ?_; (case h1 => exact fun j hj _ h => by have := (HDb.out j h.symm).2; have h3 := hj.1; rw [World.size_alloc] at h3; omega); (case h2 => omega); (case h3 => omega); intro v1 w8 hown hb2 hg hat; have HU8 := Hd.mk hown; have HB8 := Hd.mk hb2; have HG8 := Hd.mk hg; have HAT8 := Hd.mk hat; clear hown hb2 hg hat)
        have HPr := Hd.mk (Kd.Own.pair HU8.out HO7.out HNE.out (fun j hj => ⟨by have h3 := hj.1; rw [World.size_alloc] at h3; omega, fun h => by have := (HOb.out j h.symm).2; have h3 := hj.1; rw [World.size_alloc] at h3; omega⟩) HG8.out HAT8.out)
        go_roundw
        case rel => exact ⟨k + 1, _, by omega, by go_num, ⟨HQ7.out.belowB HB8.out (by omega)⟩, ⟨HP7.out.belowB HB8.out (by omega)⟩, ⟨HX7.out.belowB HB8.out (by omega)⟩, ⟨by rw [HE1.out]; exact HPr.out.1⟩, ⟨by rw [HE2.out]; exact HPr.out.2.1⟩, ⟨HPr.out.2.2⟩, ⟨HB7.out.trans (HB8.out.mono (by omega))⟩⟩
        case measure => simp [intOf]; omega
      · have g1 : decide (xt ≤ now) = false := by simp [hxt]
        have HE1 : Hd (((l.take (k + 1)).filter (fun x => decide (x.t ≤ now))).map (·.body) = D) := ⟨by rw [HTK.out, List.filter_append, List.map_append, ← HDd.out]; simp [hxt]⟩
        have HE2 : Hd ((l.take (k + 1)).filter (fun x => !decide (x.t ≤ now)) = M ++ [⟨xt, xn, xb⟩]) := ⟨by rw [HTK.out, List.filter_append, ← HM.out]; simp; omega⟩
        go_wp2_with fail
        refine (refCopied_calls A4 c4 xb _ HC6.out HX5.out (by omega)).mono ?_
        rintro e w7 ⟨v4, rfl, hown, hb⟩
        obtain ⟨A7, c7, rfl, -, -⟩ := hown.shape
        have hs7 : wr.heap.size + 1 ≤ w7.heap.size := by have := hb.size; rw [World.size_alloc] at this; exact this
        have HF7 := Hd.mk ((fl_fp (x := ⟨xt, xn, xb⟩) hown).mono (fun j hj => (⟨by have := hj.1; rw [World.size_alloc] at this; exact this, hj.2⟩ : wr.heap.size + 1 ≤ j ∧ j < w7.heap.size)))
        have HFb := Hd.mk (HF.out.below hb)
        have HX7 := Hd.mk (HXa.out.below hb)
        have HF8 := Hd.mk (HF7.out.step (W1 := w7.setCell ⟨wr.heap.size, 2, none⟩ (.slice A7 xb.length c7)) (fun j hj _ => Below.heap_setCell w7 _ _ j (by dsimp only; omega)))
        have HFB := Hd.mk (HFb.out.put (cs' := #[.int .i64 xt, .int .i64 xn, .slice A7 xb.length c7]) 2 (.slice A7 xb.length c7) rfl)
        have HD8 := Hd.mk (((HDc.out.below hb).far (p := ⟨wr.heap.size, 2, none⟩) (fun j hj => by
          rcases hj with hj | hj
          · have := hj.2; dsimp only; omega
          · have := (HDb.out j hj).2; dsimp only; omega) (.slice A7 xb.length c7)).mono (fun j hj => hj.1))
        have HO8 := Hd.mk (((HOc.out.below hb).far (p := ⟨wr.heap.size, 2, none⟩) (fun j hj => by
          rcases hj with hj | hj
          · have := hj.2; dsimp only; omega
          · have := (HOb.out j hj).2; dsimp only; omega) (.slice A7 xb.length c7)).mono (fun j hj => hj.1))
        have HQ8 := Hd.mk ((HQa.out.below hb).far (p := ⟨wr.heap.size, 2, none⟩) (by dsimp only; omega) (.slice A7 xb.length c7))
        have HP8 := Hd.mk ((HPa.out.below hb).far (p := ⟨wr.heap.size, 2, none⟩) (by dsimp only; omega) (.slice A7 xb.length c7))
        have HX8 := Hd.mk (HX7.out.far (p := ⟨wr.heap.size, 2, none⟩) (by dsimp only; omega) (.slice A7 xb.length c7))
        have HB8 := Hd.mk (Below.setCell (bstep HBa.out (Nat.le_refl _) hb) (p := ⟨wr.heap.size, 2, none⟩) (by dsimp only; omega) (.slice A7 xb.length c7))
        clear hown hb y0 y1 y2 q0 q1 q2 q3 q4 q5 q6 HDa HOa HDc HOc HQa HPa HXa HBa HF
        obtain ⟨f0, f1, f2, f3, f4, f5⟩ := HFb.out.f3
        obtain ⟨F0, F1, F2, -, -, -⟩ := HFB.out.f3
        obtain ⟨x0, x1, x2, x3, x4, x5, x6, x7, x8, x9, x10, x11, x12, x13⟩ := HX7.out.f7
        go_wp2_with (at_builtin; refine Kd.Own.append1 (w0 := w7.setCell ⟨wr.heap.size, 2, none⟩ (.slice A7 xb.length c7)) rfl (.tmp 44) (.tmp 46) 24 (.agg #[(.int .i64 0), (.int .i64 0), (.slice none 0 0)]) 40 rfl Try.underlying24 info69 rfl (by decide) rfl (by simp [Act.eval]) HO8.out HF8.out ?h1 (Below.refl _ _) ?h2 ?h3 ?_; (case h1 => exact fun j hj _ h => by have := (HOb.out j h.symm).2; have h3 := hj.1; omega); (case h2 => simp; omega); (case h3 => omega); intro v1 w9 hown hb2 hg hat; obtain ⟨A9, c9, rfl, -, -⟩ := hown.shape; have HU9 := Hd.mk hown; have HB9 := Hd.mk hb2; have HG9 := Hd.mk hg; have HAT9 := Hd.mk hat; have HX9 := Hd.mk (HX8.out.belowB hb2 (by omega)); clear hown hb2 hg hat x0 x1 x2 x3 x4 x5 x6 x7 x8 x9 x10 x11 x12 x13; obtain ⟨x0, x1, x2, x3, x4, x5, x6, x7, x8, x9, x10, x11, x12, x13⟩ := HX9.out.f7)
        have HPr := Hd.mk (Kd.Own.pair HU9.out HD8.out (fun j hj h => HNE.out j h hj) (fun j hj => ⟨by have h3 := hj.1; omega, fun h => by have := (HDb.out j h.symm).2; have h3 := hj.1; omega⟩) HG9.out HAT9.out)
        have HQ9 := Hd.mk (HQ8.out.belowB HB9.out (by omega))
        have HP9 := Hd.mk (HP8.out.belowB HB9.out (by omega))
        have HBx := Hd.mk (HB8.out.trans (HB9.out.mono (by omega)))
        go_roundw
        case rel =>
          refine ⟨k + 1, .slice A9 (M ++ [(⟨xt, xn, xb⟩ : Fl)]).length c9, by omega, by go_num, ⟨HQ9.out.far (by dsimp only; omega) _⟩, ⟨HP9.out.far (by dsimp only; omega) _⟩, ⟨HX9.out.put 6 _ (by simp)⟩, ⟨?_⟩, ⟨?_⟩, ⟨fun j hj h => HPr.out.2.2 j h hj⟩, ⟨?_⟩⟩
          · rw [HE1.out]
            exact HPr.out.2.1.set (fun _ h => h.1) (by dsimp only; omega) _
          · rw [HE2.out]
            exact HPr.out.1.set (fun _ h => h.1) (by dsimp only; omega) _
          · exact Below.setCell HBx.out (by dsimp only; omega) _
        case measure => simp [intOf]; omega
    · have hkl : k = l.length := by omega
      subst hkl
      have e1 : R1 = M := by rw [HR1.out, HM.out, List.take_length]
      have e2 : R2 = D := by rw [HR2.out, HDd.out, List.take_length]
      have E1 := Hd.mk e1; have E2 := Hd.mk e2
      clear e1 e2
      obtain ⟨x0, x1, x2, x3, x4, x5, x6, -, -, -, -, -, -, -⟩ := HX.out.f7
      obtain ⟨p0, p1, p2, p3, p4, p5, p6, p7, p8, p9, p10, p11, p12, p13⟩ := HP.out.f7
      go_wp2
      refine bodyPost_ret (v := .tuple #[.agg #[.int .i64 mn, .int .i64 mx, .int .i64 rt, .bool dn, .int .i64 idle, .int .i64 next, .slice A3 M.length c3], .slice A6 D.length c6]) (by simp [results, Try.results26, go_sem, p0, p1, p2, p3, p4, p5, p6]) rfl ?_
      rw [E1.out, E2.out]
      refine ⟨_, _, rfl, ?_, ?_, ?_⟩
      · have hv : fls.V wr (fun k => w3.heap.size + 1 ≤ k) _ _ := HO.out.V.mono (fun j hj => by
          rcases hj with hj | hj
          · exact hj.1
          · exact (HO.out.blk j hj).1)
        refine Kd.V.mono (ok := fun k => w3.heap.size + 1 ≤ k) ?_ (fun j hj => .inr (by have hj' : w3.heap.size + 1 ≤ j := hj; omega))
        repeat (first | (with_reducible exact hv) | (with_reducible refine Kd.V.far ?_ (fun j hj => by have hj' : w3.heap.size + 1 ≤ j := hj; dsimp only; omega) _))
      · have hv : bss.V wr (fun k => w3.heap.size + 1 ≤ k) _ _ := HD.out.V.mono (fun j hj => by
          rcases hj with hj | hj
          · exact hj.1
          · exact (HD.out.blk j hj).1)
        refine Kd.V.mono (ok := fun k => w3.heap.size + 1 ≤ k) ?_ (fun j hj => by have hj' : w3.heap.size + 1 ≤ j := hj; omega)
        repeat (first | (with_reducible exact hv) | (with_reducible refine Kd.V.far ?_ (fun j hj => by have hj' : w3.heap.size + 1 ≤ j := hj; dsimp only; omega) _))
      · have h2 := HB.out
        repeat (first | (with_reducible exact h2) | (with_reducible refine Below.setCell ?_ (by dsimp only; omega) _))
end Go.Proofs.Ytkgkiencikmhfaa.B
