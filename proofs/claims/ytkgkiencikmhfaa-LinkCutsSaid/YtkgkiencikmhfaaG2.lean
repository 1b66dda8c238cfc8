/- What this text holds: the contract of link.Deliver. -/
import Derived.Test.YtkgkiencikmhfaaG1
set_option linter.unusedVariables false
set_option linter.unusedSimpArgs false
namespace Go.Proofs.Ytkgkiencikmhfaa.B
open Go.RowKit

theorem bstep {B : Nat} {w W W' : World} (h : Below B w W) (hB : B ≤ w.heap.size) (hb : Below W.heap.size W W') : Below B w W' := h.trans (hb.mono (Nat.le_trans hB h.size))
theorem balloc {B : Nat} {w W : World} (h : Below B w W) (hB : B ≤ w.heap.size) (o : Obj) : Below B w (W.alloc o) := Below.alloc h (Nat.le_trans hB h.size) o
theorem placeL_lt (l : List Fl) (time : Int) (k : Nat) (hk : k < placeL l time) : (nth fl0 l k).t ≤ time := by
  have hle := placeL_le l time
  unfold placeL at hk
  split at hk
  · rename_i i h
    have := (List.findIdx?_eq_some_iff_getElem.1 h).2.2 k hk
    rw [nth_eq fl0 l k (by have := (List.findIdx?_eq_some_iff_getElem.1 h).1; omega)]
    simp at this
    omega
  · rename_i h
    rw [List.findIdx?_eq_none_iff] at h
    have := h _ (List.getElem_mem hk)
    rw [nth_eq fl0 l k hk]
    simp at this
    omega
theorem placeL_ge (l : List Fl) (time : Int) (hk : placeL l time < l.length) : time < (nth fl0 l (placeL l time)).t := by
  obtain ⟨p, hp⟩ : ∃ p, p = placeL l time := ⟨_, rfl⟩
  rw [← hp] at hk ⊢
  unfold placeL at hp
  split at hp
  · rename_i i h
    subst hp
    obtain ⟨h1, h2, _⟩ := List.findIdx?_eq_some_iff_getElem.1 h
    rw [nth_eq fl0 l p h1]
    simpa using h2
  · omega

set_option maxRecDepth 100000 in
set_option maxHeartbeats 4000000 in
theorem deliver_calls (mn mx rt : Int) (dn : Bool) (idle next : Int) (A : Option Addr) (c : Nat) (l : List Fl) (now : Int) (w : World) (hr : fls.C w A l) (hc : l.length ≤ c) (hs : Small l) :
    Calls Try.prog 23 #[.agg #[.int .i64 mn, .int .i64 mx, .int .i64 rt, .bool dn, .int .i64 idle, .int .i64 next, .slice A l.length c], .int .i64 now] w (DeliverPost w (deliverF mn mx rt dn idle next l now)) := by
  have hu26 := Try.underlying26
  have hu69 := Try.underlying69
  have HR := Hd.mk hr
  have hll := hs.1
  have HS := Hd.mk hs
  clear hr hs
  obtain ⟨r, hrr⟩ : ∃ r, r = deliverF mn mx rt dn idle next l now := ⟨_, rfl⟩
  rw [← hrr]
  have HF := Hd.mk hrr
  clear hrr
  obtain ⟨er, her⟩ : ∃ er, er = chkL mn mx rt dn idle next l := ⟨_, rfl⟩
  have HER := Hd.mk her
  clear her
  have HB : Hd (Below w.heap.size w ((w.alloc (.cells #[.int .i64 mn, .int .i64 mx, .int .i64 rt, .bool dn, .int .i64 idle, .int .i64 next, .slice A l.length c] 26)).alloc (.cells #[.int .i64 0, .int .i64 0, .int .i64 0, .bool false, .int .i64 0, .int .i64 0, .slice none 0 0] 26))) := ⟨by go_grown⟩
  have hq := (Blk.new w 26 #[.int .i64 mn, .int .i64 mx, .int .i64 rt, .bool dn, .int .i64 idle, .int .i64 next, .slice A l.length c]).alloc (.cells #[.int .i64 0, .int .i64 0, .int .i64 0, .bool false, .int .i64 0, .int .i64 0, .slice none 0 0] 26)
  have hp := Blk.new (w.alloc (.cells #[.int .i64 mn, .int .i64 mx, .int .i64 rt, .bool dn, .int .i64 idle, .int .i64 next, .slice A l.length c] 26)) 26 #[.int .i64 0, .int .i64 0, .int .i64 0, .bool false, .int .i64 0, .int .i64 0, .slice none 0 0]
  rw [World.size_alloc] at hp
  have HQ := Hd.mk hq
  have HP := Hd.mk hp
  clear hq hp
  go_enter Try.func23, Try.ntmps23
  go_wp2_with fail
  refine (own_calls mn mx rt dn idle next A c l _ (HR.out.below HB.out) hc HS.out).mono ?_
  rintro e w1 ⟨v, rfl, hown, hb⟩
  obtain ⟨A2, c2, rfl, hc2, -⟩ := hown.shape
  have hs1 : w.heap.size + 2 ≤ w1.heap.size := by have := hb.size; simpa using this
  replace HB := Hd.mk (bstep HB.out (Nat.le_refl _) hb)
  replace HQ := Hd.mk (HQ.out.below hb)
  replace HP := Hd.mk (HP.out.below hb)
  have HV : Hd (fls.V w1 (fun j => w.heap.size + 2 ≤ j ∧ j < w1.heap.size) (.slice A2 l.length c2) l) := ⟨hown.V.bound.mono (fun j hj => ⟨by
    rcases hj.1 with h | h
    · simp at h; omega
    · have := (hown.blk j h).1; simp at this; omega, hj.2⟩)⟩
  have HO := Hd.mk (Blk.new w1 26 #[.int .i64 mn, .int .i64 mx, .int .i64 rt, .bool dn, .int .i64 idle, .int .i64 next, .slice A2 l.length c2])
  clear hb hown
  replace HB := Hd.mk (balloc HB.out (Nat.le_refl _) (.cells #[.int .i64 mn, .int .i64 mx, .int .i64 rt, .bool dn, .int .i64 idle, .int .i64 next, .slice A2 l.length c2] 26))
  replace HQ := Hd.mk (HQ.out.alloc (.cells #[.int .i64 mn, .int .i64 mx, .int .i64 rt, .bool dn, .int .i64 idle, .int .i64 next, .slice A2 l.length c2] 26))
  replace HP := Hd.mk (HP.out.alloc (.cells #[.int .i64 mn, .int .i64 mx, .int .i64 rt, .bool dn, .int .i64 idle, .int .i64 next, .slice A2 l.length c2] 26))
  replace HV := Hd.mk (HV.out.alloc (.cells #[.int .i64 mn, .int .i64 mx, .int .i64 rt, .bool dn, .int .i64 idle, .int .i64 next, .slice A2 l.length c2] 26))
  obtain ⟨q0, q1, q2, q3, q4, q5, q6, q7, q8, q9, q10, q11, q12, q13⟩ := HQ.out.f7
  go_wp2_with fail
  refine (check_calls mn mx rt dn idle next A c l _ (HR.out.below HB.out) hc).mono ?_
  rw [← HER.out]
  rintro e w2 ⟨rfl, hb⟩
  have hs2 : w1.heap.size + 1 ≤ w2.heap.size := by have := hb.size; simpa using this
  replace HB := Hd.mk (bstep HB.out (Nat.le_refl _) hb)
  replace HO := Hd.mk (HO.out.below hb)
  replace HP := Hd.mk (HP.out.below hb)
  replace HV := Hd.mk (HV.out.below hb)
  clear hb HQ q0 q1 q2 q3 q4 q5 q6 q7 q8 q9 q10 q11 q12 q13
  obtain ⟨o0, o1, o2, o3, o4, o5, o6, o7, o8, o9, o10, o11, o12, o13⟩ := HO.out.f7
  by_cases h : er = 0
  · subst h
    obtain ⟨p, hp⟩ : ∃ p, p = placeL l now := ⟨_, rfl⟩
    have hple := placeL_le l now
    rw [← hp] at hple
    have HE : Hd (r = (⟨mn, mx, rt, dn, idle, next, l.drop p⟩, (l.take p).map (·.body))) := ⟨by rw [HF.out, deliverF, if_neg (by rw [← HER.out]; decide), hp]⟩
    have HLT : Hd (∀ k, k < p → (nth fl0 l k).t ≤ now) := ⟨fun k hk => placeL_lt l now k (by omega)⟩
    have HGE : Hd (p < l.length → now < (nth fl0 l p).t) := ⟨fun h => by rw [hp] at h ⊢; exact placeL_ge l now h⟩
    clear hp HF
    go_wp2
    go_loopw [7, 8, 20] (fun ua ub ui wr => ∃ k, k ≤ p ∧ ui = .int .i64 (k : Nat) ∧ ub = .int .i64 (k : Nat) ∧ Hd (bss.Own 37 wr (w1.heap.size + 1) (fun j => w.heap.size + 2 ≤ j ∧ j < w1.heap.size) ua ((l.take k).map (·.body))) ∧ Hd (fls.V wr (fun j => w.heap.size + 2 ≤ j ∧ j < w1.heap.size) (.slice A2 l.length c2) l) ∧ Hd (Blk wr w1.heap.size 26 #[.int .i64 mn, .int .i64 mx, .int .i64 rt, .bool dn, .int .i64 idle, .int .i64 next, .slice A2 l.length c2]) ∧ Hd (Blk wr (w.heap.size + 1) 26 #[.int .i64 0, .int .i64 0, .int .i64 0, .bool false, .int .i64 0, .int .i64 0, .slice none 0 0]) ∧ Hd (Below w.heap.size w wr)) (fun _ _ ui _ => l.length - (intOf ui).toNat)
    case atStart => exact ⟨0, Nat.zero_le _, rfl, rfl, ⟨Kd.Own.nil⟩, HV, HO, HP, HB⟩
    case round =>
      clear HV HO HP HB o0 o1 o2 o3 o4 o5 o6 o7 o8 o9 o10 o11 o12 o13
      obtain ⟨k, hk, rfl, rfl, HW, HV, HO, HP, HB⟩ := hrel
      have holt := HO.out.lt
      have hplt := HP.out.lt
      have HRf : Hd (r = (⟨mn, mx, rt, dn, idle, next, l.drop p⟩, (l.take p).map (·.body))) := HE
      obtain ⟨D, hD⟩ : ∃ D, D = (l.take k).map (·.body) := ⟨_, rfl⟩
      have HD := Hd.mk hD
      have hDl : D.length ≤ l.length := by rw [hD, List.length_map, List.length_take]; omega
      rw [← hD] at HW
      clear hD
      obtain ⟨A5, c5, rfl, -, -⟩ := HW.out.shape
      by_cases hlt : k < p
      · obtain ⟨ad, A4, c4, ea, x0, x1, x2, hvb⟩ := fls_elem HV.out k (by omega)
        cases ea
        have hxt := HLT.out k hlt
        have hxl : (nth fl0 l k).body.length ≤ 65536 := HS.out.2 _ (nth_mem fl0 l k (by omega))
        have htk := take_nth fl0 l k (show k < l.length by omega)
        obtain ⟨x, hx⟩ : ∃ x, x = nth fl0 l k := ⟨_, rfl⟩
        rw [← hx] at x0 x1 x2 hvb hxt hxl htk
        clear hx
        rcases x with ⟨xt, xn, xb⟩
        dsimp only at x0 x1 x2 hvb hxt hxl
        have hmp : (l.take (k + 1)).map (·.body) = D ++ [xb] := by rw [htk, List.map_append, ← HD.out]; rfl
        have HMP := Hd.mk hmp
        have g1 : decide (xt > now) = false := by simp; omega
        have hkl : (k : Int) < l.length := by omega
        have HY : Hd (Fp (fun W => bss.K W xb [.slice A4 xb.length c4]) (wr.alloc (.cells #[.int .i64 xt, .int .i64 xn, .slice A4 xb.length c4] 69)) (fun j => w.heap.size + 2 ≤ j ∧ j < w1.heap.size)) := ⟨by
          obtain ⟨A', c', he, hl', hf⟩ := hvb.alloc (.cells #[.int .i64 xt, .int .i64 xn, .slice A4 xb.length c4] 69)
          injection he with ha _ hc
          subst ha; subst hc
          exact hf.imp (fun W' hC => ⟨_, _, rfl, hl', hC⟩)⟩
        have HWa := Hd.mk (HW.out.alloc (.cells #[.int .i64 xt, .int .i64 xn, .slice A4 xb.length c4] 69))
        have HVa := Hd.mk (HV.out.alloc (.cells #[.int .i64 xt, .int .i64 xn, .slice A4 xb.length c4] 69))
        have HOa := Hd.mk (HO.out.alloc (.cells #[.int .i64 xt, .int .i64 xn, .slice A4 xb.length c4] 69))
        have HPa := Hd.mk (HP.out.alloc (.cells #[.int .i64 xt, .int .i64 xn, .slice A4 xb.length c4] 69))
        have HBa := Hd.mk (balloc HB.out (Nat.le_refl _) (.cells #[.int .i64 xt, .int .i64 xn, .slice A4 xb.length c4] 69))
        have HBr : Hd (Below (w1.heap.size + 1) wr (wr.alloc (.cells #[.int .i64 xt, .int .i64 xn, .slice A4 xb.length c4] 69))) := ⟨Below.alloc (Below.refl _ _) (by omega) _⟩
        have HWb := Hd.mk HWa.out.blk
        clear hmp htk hvb
        go_wp2_with (at_builtin; refine Kd.Own.append1 (w0 := wr) rfl (.tmp 28) (.tmp 31) 53 (.slice none 0 0) 24 rfl Try.underlying53 info37 rfl (by decide) rfl (by simp [Act.eval]) HWa.out HY.out ?h1 HBr.out ?h2 ?h3 ?_; (case h1 => exact fun j hj _ h => by have := (HWb.out j h.symm).1; have h4 := hj.2; omega); (case h2 => rw [World.size_alloc]; omega); (case h3 => omega); intro v1 w3 hown hb2 hg2 hat; have HU3 := Hd.mk hown; have HG3 := Hd.mk hg2; clear hown hb2 hg2 hat)
        go_roundw
        case rel =>
          exact ⟨k + 1, by omega, by go_num, by go_num, ⟨by rw [HMP.out]; exact HU3.out.mono (fun j hj => hj.elim id id)⟩,
            ⟨HVa.out.step (fun j hj hjl => HG3.out.block j hjl (fun h => by have := (HWb.out j h.symm).1; have h4 := hj.2; omega))⟩,
            ⟨HOa.out.grown HG3.out (fun h => by have := (HWb.out _ h.symm).1; omega)⟩, ⟨HPa.out.grown HG3.out (fun h => by have := (HWb.out _ h.symm).1; omega)⟩,
            ⟨HBa.out.grown HG3.out HBa.out.size (fun j h => by have := (HWb.out _ h).1; omega)⟩⟩
        case measure => simp [intOf]; omega
      · have hkp : k = p := by omega
        subst hkp
        obtain ⟨A6, hcut, hA6⟩ := cut_from (P := Try.prog) 24 69 .i64 3 Try.underlying24 size69 A2 l.length c2 k hple
        have hvd := HV.out.drop k hple
        rw [show (if c2 = k then A2 else A2.map (·.add (k * fls.sz))) = A6 from hA6.symm] at hvd
        have HVd := Hd.mk hvd
        have HPd : Hd (bss.V wr (fun j => w.heap.size + 2 ≤ j ∧ j ≠ w1.heap.size) (.slice A5 D.length c5) D) := ⟨HW.out.V.mono (fun j hj => by
          rcases hj with hj | hj
          · exact ⟨hj.1, by have := hj.2; omega⟩
          · have := (HW.out.blk j hj).1
            exact ⟨by omega, by omega⟩)⟩
        have hm0 : (0 : Int) ≤ k := by omega
        have hm1 : (k : Int) ≤ l.length := by omega
        have HEd := Hd.mk HD.out
        clear hvd hA6
        by_cases hkl : k < l.length
        · obtain ⟨ad, A4, c4, ea, x0, x1, x2, hvb⟩ := fls_elem HV.out k hkl
          cases ea
          have hxt := HGE.out hkl
          obtain ⟨x, hx⟩ : ∃ x, x = nth fl0 l k := ⟨_, rfl⟩
          rw [← hx] at x0 x1 x2 hvb hxt
          clear hx hvb
          rcases x with ⟨xt, xn, xb⟩
          dsimp only at x0 x1 x2 hxt
          have g1 : decide (xt > now) = true := by simp; omega
          have hkl2 : (k : Int) < l.length := by omega
          have HOy := Hd.mk ((HO.out.alloc (.cells #[.int .i64 xt, .int .i64 xn, .slice A4 xb.length c4] 69)).put (cs' := #[.int .i64 mn, .int .i64 mx, .int .i64 rt, .bool dn, .int .i64 idle, .int .i64 next, .slice A6 (l.length - k) (c2 - k)]) 6 (.slice A6 (l.length - k) (c2 - k)) rfl)
          have HPy := Hd.mk ((HP.out.alloc (.cells #[.int .i64 xt, .int .i64 xn, .slice A4 xb.length c4] 69)).far (p := ⟨w1.heap.size, 6, none⟩) (by dsimp only; omega) (.slice A6 (l.length - k) (c2 - k)))
          obtain ⟨o0, o1, o2, o3, o4, o5, o6, o7, o8, o9, o10, o11, o12, o13⟩ := (HO.out.alloc (.cells #[.int .i64 xt, .int .i64 xn, .slice A4 xb.length c4] 69)).f7
          obtain ⟨y0, y1, y2, y3, y4, y5, y6, y7, y8, y9, y10, y11, y12, y13⟩ := HOy.out.f7
          obtain ⟨q0, q1, q2, q3, q4, q5, q6, q7, q8, q9, q10, q11, q12, q13⟩ := HPy.out.f7
          clear hplt holt
          go_wp2
          have hplt := HP.out.lt
          have holt := HO.out.lt
          rw [← HEd.out] at HRf
          refine bodyPost_ret (v := .tuple #[.agg #[.int .i64 mn, .int .i64 mx, .int .i64 rt, .bool dn, .int .i64 idle, .int .i64 next, .slice A6 (l.length - k) (c2 - k)], .slice A5 D.length c5]) (by simp [results, Try.results23, go_sem, q0, q1, q2, q3, q4, q5, q6]) rfl ?_
          rw [HRf.out]
          refine ⟨_, _, rfl, ?_, ?_, ?_⟩
          · have hv := HVd.out
            refine Kd.V.mono (ok := (fun j => w.heap.size + 2 ≤ j ∧ j < w1.heap.size)) ?_ (fun j hj => by have h3 := hj.1; have h5 : w.heap.size + 2 ≤ j := h3; omega)
            repeat (first | (with_reducible exact hv) | (with_reducible refine Kd.V.alloc ?_ _) | (with_reducible refine Kd.V.far ?_ (fun j hj => by have h3 := hj.1; have h4 := hj.2; have h5 : w.heap.size + 2 ≤ j := h3; have h6 : j < w1.heap.size := h4; dsimp only; omega) _))
          · have hv := HPd.out
            refine Kd.V.mono (ok := fun j => w.heap.size + 2 ≤ j ∧ j ≠ w1.heap.size) ?_ (fun j hj => by have h3 := hj.1; have h5 : w.heap.size + 2 ≤ j := h3; omega)
            repeat (first | (with_reducible exact hv) | (with_reducible refine Kd.V.alloc ?_ _) | (with_reducible refine Kd.V.far ?_ (fun j hj => by have h3 := hj.1; have h4 := hj.2; have h5 : w.heap.size + 2 ≤ j := h3; have h6 : j ≠ w1.heap.size := h4; dsimp only; omega) _))
          · have h2 := HB.out
            repeat (first | (with_reducible exact h2) | (with_reducible refine Below.alloc ?_ (by omega) _) | (with_reducible refine Below.setCell ?_ (by dsimp only; omega) _))
        · have hkl2 : ¬ (k : Int) < l.length := by omega
          have HOy := Hd.mk (HO.out.put (cs' := #[.int .i64 mn, .int .i64 mx, .int .i64 rt, .bool dn, .int .i64 idle, .int .i64 next, .slice A6 (l.length - k) (c2 - k)]) 6 (.slice A6 (l.length - k) (c2 - k)) rfl)
          have HPy := Hd.mk (HP.out.far (p := ⟨w1.heap.size, 6, none⟩) (by dsimp only; omega) (.slice A6 (l.length - k) (c2 - k)))
          obtain ⟨o0, o1, o2, o3, o4, o5, o6, o7, o8, o9, o10, o11, o12, o13⟩ := HO.out.f7
          obtain ⟨y0, y1, y2, y3, y4, y5, y6, y7, y8, y9, y10, y11, y12, y13⟩ := HOy.out.f7
          obtain ⟨q0, q1, q2, q3, q4, q5, q6, q7, q8, q9, q10, q11, q12, q13⟩ := HPy.out.f7
          clear hplt holt
          go_wp2
          have hplt := HP.out.lt
          have holt := HO.out.lt
          rw [← HEd.out] at HRf
          refine bodyPost_ret (v := .tuple #[.agg #[.int .i64 mn, .int .i64 mx, .int .i64 rt, .bool dn, .int .i64 idle, .int .i64 next, .slice A6 (l.length - k) (c2 - k)], .slice A5 D.length c5]) (by simp [results, Try.results23, go_sem, q0, q1, q2, q3, q4, q5, q6]) rfl ?_
          rw [HRf.out]
          refine ⟨_, _, rfl, ?_, ?_, ?_⟩
          · have hv := HVd.out
            refine Kd.V.mono (ok := (fun j => w.heap.size + 2 ≤ j ∧ j < w1.heap.size)) ?_ (fun j hj => by have h3 := hj.1; have h5 : w.heap.size + 2 ≤ j := h3; omega)
            repeat (first | (with_reducible exact hv) | (with_reducible refine Kd.V.alloc ?_ _) | (with_reducible refine Kd.V.far ?_ (fun j hj => by have h3 := hj.1; have h4 := hj.2; have h5 : w.heap.size + 2 ≤ j := h3; have h6 : j < w1.heap.size := h4; dsimp only; omega) _))
          · have hv := HPd.out
            refine Kd.V.mono (ok := fun j => w.heap.size + 2 ≤ j ∧ j ≠ w1.heap.size) ?_ (fun j hj => by have h3 := hj.1; have h5 : w.heap.size + 2 ≤ j := h3; omega)
            repeat (first | (with_reducible exact hv) | (with_reducible refine Kd.V.alloc ?_ _) | (with_reducible refine Kd.V.far ?_ (fun j hj => by have h3 := hj.1; have h4 := hj.2; have h5 : w.heap.size + 2 ≤ j := h3; have h6 : j ≠ w1.heap.size := h4; dsimp only; omega) _))
          · have h2 := HB.out
            repeat (first | (with_reducible exact h2) | (with_reducible refine Below.alloc ?_ (by omega) _) | (with_reducible refine Below.setCell ?_ (by dsimp only; omega) _))
  · have hb1 : (er != 0) = true := by simp [h]
    have HE : Hd (r = (⟨mn, mx, rt, dn, idle, next, l⟩, [])) := ⟨by rw [HF.out, deliverF, if_pos (by rw [← HER.out]; exact h)]⟩
    have hplt := HP.out.lt
    obtain ⟨q0, q1, q2, q3, q4, q5, q6, q7, q8, q9, q10, q11, q12, q13⟩ := HP.out.f7
    clear h HF
    go_wp2
    refine bodyPost_ret (v := .tuple #[.agg #[.int .i64 mn, .int .i64 mx, .int .i64 rt, .bool dn, .int .i64 idle, .int .i64 next, .slice A2 l.length c2], .slice none 0 0]) (by simp [results, Try.results23, go_sem, q0, q1, q2, q3, q4, q5, q6]) rfl ?_
    rw [HE.out]
    refine ⟨_, _, rfl, ?_, Kd.V.nil, ?_⟩
    · have hv := HV.out
      refine Kd.V.mono (ok := fun j => w.heap.size + 2 ≤ j ∧ j < w1.heap.size) ?_ (fun j hj => by have h3 := hj.1; have h5 : w.heap.size + 2 ≤ j := h3; omega)
      repeat (first | (with_reducible exact hv) | (with_reducible refine Kd.V.far ?_ (fun j hj => by have h3 := hj.1; have h5 : w.heap.size + 2 ≤ j := h3; dsimp only; omega) _))
    · have h2 := HB.out
      repeat (first | (with_reducible exact h2) | (with_reducible refine Below.setCell ?_ (by dsimp only; omega) _))
end Go.Proofs.Ytkgkiencikmhfaa.B
