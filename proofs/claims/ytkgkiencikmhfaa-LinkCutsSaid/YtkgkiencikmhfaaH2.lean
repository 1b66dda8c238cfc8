/- What this text holds: the contract of the reference's insert. -/
import Derived.Test.YtkgkiencikmhfaaH1
set_option linter.unusedVariables false
set_option linter.unusedSimpArgs false
namespace Go.Proofs.Ytkgkiencikmhfaa.B
open Go.RowKit

section
variable {P : Program}
/-- 's[:m]'. -/
theorem cut_high (t e : TypeId) (kl : IntKind) (size : Nat) (ht : P.underlying t = some (.slice e)) (hi : (P.info? e).map (·.size) = some size) (A : Option Addr) (n c m : Nat) (hm : m ≤ c) :
    ∀ W : World, (Instr.slice t (.slice A n c) none (some (.int kl (m : Int))) none).run P W = .ok (.slice A m c) W := by
  intro W
  obtain ⟨i, hq, hsz⟩ := Option.map_eq_some_iff.1 hi
  have hel : P.elem t = e := by simp [Program.elem, ht]
  have hu : P.underlying t = some (.slice (P.elem t)) := by rw [hel]; exact ht
  rw [run_slice_h W t A n c hu kl (m : Int) (Int.natCast_nonneg _) (by omega), hel]
  cases A <;> simp [sizeOf, typeInfo, hq, hsz, sliced, Result.andThen, Kd.add_zero]
end

set_option maxRecDepth 100000 in
set_option maxHeartbeats 4000000 in
theorem refInsert_calls (A : Option Addr) (c : Nat) (l : List Fl) (xt xn : Int) (xb : List Int) (A4 : Option Addr) (c4 : Nat) (w : World) (okl okx : Nat → Prop)
    (hv : fls.V w okl (.slice A l.length c) l) (hx : Fp (fun W => fls.K W ⟨xt, xn, xb⟩ [.int .i64 xt, .int .i64 xn, .slice A4 xb.length c4]) w okx) (hlen : l.length ≤ 4096) (hsrt : ∀ i j, i < j → j < l.length → (nth fl0 l i).t ≤ (nth fl0 l j).t) :
    Calls Try.prog 45 #[.slice A l.length c, .agg #[.int .i64 xt, .int .i64 xn, .slice A4 xb.length c4]] w fun e w' =>
      ∃ v', e = .returned v' ∧ fls.Own 69 w' w.heap.size (fun k => okl k ∨ okx k) v' (l.take (placeL l xt) ++ (⟨xt, xn, xb⟩ : Fl) :: l.drop (placeL l xt)) ∧ Below w.heap.size w w' := by
  have hu69 := Try.underlying69
  obtain ⟨p, hp⟩ : ∃ p, p = placeL l xt := ⟨_, rfl⟩
  have hple := placeL_le l xt
  rw [← hp] at hple ⊢
  have hc := hv.n.2
  have HGT : Hd (∀ j, p ≤ j → j < l.length → xt < (nth fl0 l j).t) := ⟨fun j h1 h2 => by
    have h3 : xt < (nth fl0 l p).t := by rw [hp] at h1 ⊢; exact placeL_ge l xt (by omega)
    rcases Nat.lt_or_ge p j with h | h
    · have := hsrt p j h h2
      omega
    · obtain rfl : j = p := by omega
      exact h3⟩
  have HLE : Hd (∀ j, j < p → (nth fl0 l j).t ≤ xt) := ⟨fun j h => placeL_lt l xt j (by omega)⟩
  have HV : Hd (fls.V (w.alloc (.cells #[.int .i64 xt, .int .i64 xn, .slice A4 xb.length c4] 69)) (fun j => okl j ∧ j < w.heap.size) (.slice A l.length c) l) := ⟨hv.bound.alloc _⟩
  have HX : Hd (Fp (fun W => fls.K W ⟨xt, xn, xb⟩ [.int .i64 xt, .int .i64 xn, .slice A4 xb.length c4]) (w.alloc (.cells #[.int .i64 xt, .int .i64 xn, .slice A4 xb.length c4] 69)) (fun j => okx j ∧ j < w.heap.size)) := ⟨hx.bound.below (Below.alloc (Below.refl _ _) (Nat.le_refl _) _)⟩
  obtain ⟨Ad, hcut, hAd⟩ := cut_from (P := Try.prog) 24 69 .i64 3 Try.underlying24 size69 A l.length c p hple
  have hch := cut_high (P := Try.prog) 24 69 .i64 3 Try.underlying24 size69 A l.length c p (by omega)
  have HAd := Hd.mk hAd
  have hm0 : (0 : Int) ≤ p := by omega
  clear hp hv hx hsrt hAd
  go_enter Try.func45, Try.ntmps45
  go_wp2
  go_loopw [5] (fun ui wr => ∃ j, p ≤ j ∧ j ≤ l.length ∧ ui = .int .i64 (j : Nat) ∧ Hd (Blk wr w.heap.size 69 #[.int .i64 xt, .int .i64 xn, .slice A4 xb.length c4]) ∧ Hd (fls.V wr (fun j => okl j ∧ j < w.heap.size) (.slice A l.length c) l) ∧ Hd (Fp (fun W => fls.K W ⟨xt, xn, xb⟩ [.int .i64 xt, .int .i64 xn, .slice A4 xb.length c4]) wr (fun j => okx j ∧ j < w.heap.size)) ∧ Hd (Below w.heap.size w wr)) (fun ui _ => (intOf ui).toNat)
  case atStart => exact ⟨l.length, hple, Nat.le_refl _, rfl, ⟨Blk.new w 69 _⟩, HV, HX, ⟨by go_grown⟩⟩
  case round =>
    clear HV HX
    obtain ⟨j, hpj, hjl, rfl, HQ, HV, HX, HB⟩ := hrel
    obtain ⟨q0, q1, q2, q3, q4, q5⟩ := HQ.out.f3
    have hqlt := HQ.out.lt
    have hcases : (j = p ∧ p = 0) ∨ (j = p ∧ 0 < p) ∨ p < j := by omega
    rcases hcases with ⟨hjp, hp0⟩ | ⟨hjp, hp0⟩ | hlt
    · subst hjp
      have g0 : decide ((j : Int) > 0) = false := decide_eq_false (by omega)
      go_wp2_with fail
      go_quiet (fail)
      clear hp0 g0
      obtain ⟨wz, hwz⟩ : ∃ W, W = World.drewN wr nq := ⟨_, rfl⟩
      have HQz : Hd (Blk (World.drewN wr nq) w.heap.size 69 #[.int .i64 xt, .int .i64 xn, .slice A4 xb.length c4]) := ⟨HQ.out.drewN nq⟩
      have HBz : Hd (Below w.heap.size w (World.drewN wr nq)) := ⟨pw_below_drewN HB.out nq⟩
      have HVz : Hd (fls.V (World.drewN wr nq) (fun j => okl j ∧ j < w.heap.size) (.slice A l.length c) l) := ⟨HV.out.drewN nq⟩
      have HXz : Hd (Fp (fun W => fls.K W ⟨xt, xn, xb⟩ [.int .i64 xt, .int .i64 xn, .slice A4 xb.length c4]) (World.drewN wr nq) (fun j => okx j ∧ j < w.heap.size)) := ⟨HX.out.below (pw_below_drewN (Below.refl _ _) nq)⟩
      rw [← hwz] at HQz HBz HVz HXz ⊢
      clear hwz HQ HB HV HX
      have hsz := HBz.out.size
      have hqz := HQz.out.lt
      have HN0 : Hd (fls.Own 69 wz wz.heap.size (fun _ => False) (.slice none 0 0) []) := ⟨Kd.Own.nil⟩
      have hvt := HVz.out.take j hple c (by omega)
      have HY1 : Hd (Fp (fun W => fls.C W A (l.take j)) wz (fun j => okl j ∧ j < w.heap.size)) := ⟨by
        obtain ⟨A', c', he, _, hf⟩ := hvt
        injection he with ha _ _
        subst ha
        exact hf⟩
      have HT1 : Hd ((l.take j).length = j) := ⟨by rw [List.length_take]; omega⟩
      have HTd : Hd ((l.drop j).length = l.length - j) := ⟨by rw [List.length_drop]⟩
      have HYd : Hd (∀ {W : World}, fls.V W (fun j => okl j ∧ j < w.heap.size) (.slice A l.length c) l → Fp (fun W => fls.C W Ad (l.drop j)) W (fun j => okl j ∧ j < w.heap.size)) := ⟨fun h => by
        have h2 := h.drop j hple
        rw [show (if c = j then A else A.map (·.add (j * fls.sz))) = Ad from HAd.out.symm] at h2
        obtain ⟨A', c', he, _, hf⟩ := h2
        injection he with ha _ _
        subst ha
        exact hf⟩
      clear hvt
      go_wp2_with (first
        | (at_builtin; refine Kd.Own.appendRow (w0 := wz) rfl (.tmp 24) (.tmp 27) 24 (.agg #[(.int .i64 0), (.int .i64 0), (.slice none 0 0)]) 40 rfl Try.underlying24 info69 rfl (by decide) rfl rfl HN0.out HY1.out HT1.out ?h1 ?h0 ?h2 ?h3 ?_; (case h1 => intro j hj _ h; cases h); (case h0 => exact Below.refl _ _); (case h2 => exact Nat.le_refl _); (case h3 => simp; omega); intro v1 w5 hown hb hg hat; rw [List.nil_append] at hown; have HO5 := Hd.mk (hown.mono (fun j hj => hj.elim (fun h => h.elim) id)); have HB5 := Hd.mk hb; have HQ5 := Hd.mk (HQz.out.belowB hb HQz.out.lt); obtain ⟨f0, f1, f2, f3, f4, f5⟩ := HQ5.out.f3; have HX5 := Hd.mk (HXz.out.below (hb)); have HV5 := Hd.mk (HVz.out.below hb); have HW5 := Hd.mk hown.blk; have hs5 := hb.size; clear hown hb hg hat)
        | (at_builtin; refine Kd.Own.append1 (w0 := w5) rfl (.tmp 29) (.tmp 31) 24 (.agg #[(.int .i64 0), (.int .i64 0), (.slice none 0 0)]) 40 rfl Try.underlying24 info69 rfl (by decide) rfl rfl HO5.out HX5.out ?h1 (Below.refl _ _) ?h2 ?h3 ?_; (case h1 => exact fun j hj _ h => by have := (HW5.out j h.symm).1; have h9 := hj; (try dsimp only at h9); omega); (case h2 => omega); (case h3 => rw [List.length_take]; omega); intro v2 w6 hown hb hg hat; have HO6 := Hd.mk hown; have HV6 := Hd.mk (HV5.out.step (W1 := w6) (fun j hj hjl => hg.block j hjl (fun h => by have := (HW5.out j h.symm).1; have h9 := hj; (try dsimp only at h9); omega))); have HW6 := Hd.mk hown.blk; have HB6 := Hd.mk (HB5.out.trans hb); have hs6 := hg.size; clear hown hb hg hat)
        | (at_builtin; refine Kd.Own.appendRow (w0 := w6) rfl (.tmp 33) (.tmp 36) 24 (.agg #[(.int .i64 0), (.int .i64 0), (.slice none 0 0)]) 40 rfl Try.underlying24 info69 rfl (by decide) rfl rfl HO6.out (HYd.out HV6.out) HTd.out ?h1 ?h0 ?h2 ?h3 ?_; (case h1 => exact fun j hj _ h => by have := (HW6.out j h.symm).1; have h9 := hj; (try dsimp only at h9); omega); (case h0 => exact Below.refl _ _); (case h2 => omega); (case h3 => rw [List.length_append, List.length_take]; simp; omega); intro v3 w7 hown hb hg hat; have HO7 := Hd.mk hown; have HB7 := Hd.mk (HB6.out.trans hb); clear hown hb hg hat))
      go_ret
      have hfin : l.take j ++ [(⟨xt, xn, xb⟩ : Fl)] ++ l.drop j = l.take j ++ (⟨xt, xn, xb⟩ : Fl) :: l.drop j := by simp
      refine ⟨_, rfl, ?_, ?_⟩
      · have h7 := HO7.out
        rw [hfin] at h7
        refine (h7.lower (base' := w.heap.size) (by omega)).mono (fun j hj => ?_)
        rcases hj with (hj | hj) | hj
        · exact .inl hj.1
        · exact .inr hj.1
        · exact .inl hj.1
      · exact HBz.out.trans (HB7.out.mono (by omega))
    · subst hjp
      obtain ⟨m, hm⟩ : ∃ m, m < j ∧ j ≤ m + 1 := ⟨j - 1, by omega, by omega⟩
      obtain ⟨ad, A5, c5, ea, y0, y1, y2, hvb⟩ := fls_elem HV.out m (by omega)
      cases ea
      have hyt := HLE.out m (by omega)
      obtain ⟨y, hy⟩ : ∃ y, y = nth fl0 l m := ⟨_, rfl⟩
      rw [← hy] at y0 y1 y2 hyt
      clear hy hvb
      rcases y with ⟨yt, yn, yb⟩
      dsimp only at y0 y1 y2 hyt
      have g0 : decide ((j : Int) > 0) = true := decide_eq_true (by omega)
      have g1 : decide (yt > xt) = false := decide_eq_false (by omega)
      have hw1 : IntKind.i64.wrap ((j : Int) - 1) = (m : Int) := by rw [show (j : Int) - 1 = m by omega]; exact IntWalk.i64_in _ (by omega)
      have hb0 : (0 : Int) ≤ m := by omega
      have hb1 : (m : Int) < l.length := by omega
      go_wp2_with fail
      go_quiet (fail)
      clear y0 y1 y2
      obtain ⟨wz, hwz⟩ : ∃ W, W = World.drewN wr nq := ⟨_, rfl⟩
      have HQz : Hd (Blk (World.drewN wr nq) w.heap.size 69 #[.int .i64 xt, .int .i64 xn, .slice A4 xb.length c4]) := ⟨HQ.out.drewN nq⟩
      have HBz : Hd (Below w.heap.size w (World.drewN wr nq)) := ⟨pw_below_drewN HB.out nq⟩
      have HVz : Hd (fls.V (World.drewN wr nq) (fun j => okl j ∧ j < w.heap.size) (.slice (some ad) l.length c) l) := ⟨HV.out.drewN nq⟩
      have HXz : Hd (Fp (fun W => fls.K W ⟨xt, xn, xb⟩ [.int .i64 xt, .int .i64 xn, .slice A4 xb.length c4]) (World.drewN wr nq) (fun j => okx j ∧ j < w.heap.size)) := ⟨HX.out.below (pw_below_drewN (Below.refl _ _) nq)⟩
      rw [← hwz] at HQz HBz HVz HXz ⊢
      clear hwz HQ HB HV HX
      have hsz := HBz.out.size
      have hqz := HQz.out.lt
      have HN0 : Hd (fls.Own 69 wz wz.heap.size (fun _ => False) (.slice none 0 0) []) := ⟨Kd.Own.nil⟩
      have hvt := HVz.out.take j hple c (by omega)
      have HY1 : Hd (Fp (fun W => fls.C W (some ad) (l.take j)) wz (fun j => okl j ∧ j < w.heap.size)) := ⟨by
        obtain ⟨A', c', he, _, hf⟩ := hvt
        injection he with ha _ _
        subst ha
        exact hf⟩
      have HT1 : Hd ((l.take j).length = j) := ⟨by rw [List.length_take]; omega⟩
      have HTd : Hd ((l.drop j).length = l.length - j) := ⟨by rw [List.length_drop]⟩
      have HYd : Hd (∀ {W : World}, fls.V W (fun j => okl j ∧ j < w.heap.size) (.slice (some ad) l.length c) l → Fp (fun W => fls.C W Ad (l.drop j)) W (fun j => okl j ∧ j < w.heap.size)) := ⟨fun h => by
        have h2 := h.drop j hple
        rw [show (if c = j then (some ad) else (some ad).map (·.add (j * fls.sz))) = Ad from HAd.out.symm] at h2
        obtain ⟨A', c', he, _, hf⟩ := h2
        injection he with ha _ _
        subst ha
        exact hf⟩
      clear hvt
      go_wp2_with (first
        | (at_builtin; refine Kd.Own.appendRow (w0 := wz) rfl (.tmp 24) (.tmp 27) 24 (.agg #[(.int .i64 0), (.int .i64 0), (.slice none 0 0)]) 40 rfl Try.underlying24 info69 rfl (by decide) rfl rfl HN0.out HY1.out HT1.out ?h1 ?h0 ?h2 ?h3 ?_; (case h1 => intro j hj _ h; cases h); (case h0 => exact Below.refl _ _); (case h2 => exact Nat.le_refl _); (case h3 => simp; omega); intro v1 w5 hown hb hg hat; rw [List.nil_append] at hown; have HO5 := Hd.mk (hown.mono (fun j hj => hj.elim (fun h => h.elim) id)); have HB5 := Hd.mk hb; have HQ5 := Hd.mk (HQz.out.belowB hb HQz.out.lt); obtain ⟨f0, f1, f2, f3, f4, f5⟩ := HQ5.out.f3; have HX5 := Hd.mk (HXz.out.below (hb)); have HV5 := Hd.mk (HVz.out.below hb); have HW5 := Hd.mk hown.blk; have hs5 := hb.size; clear hown hb hg hat)
        | (at_builtin; refine Kd.Own.append1 (w0 := w5) rfl (.tmp 29) (.tmp 31) 24 (.agg #[(.int .i64 0), (.int .i64 0), (.slice none 0 0)]) 40 rfl Try.underlying24 info69 rfl (by decide) rfl rfl HO5.out HX5.out ?h1 (Below.refl _ _) ?h2 ?h3 ?_; (case h1 => exact fun j hj _ h => by have := (HW5.out j h.symm).1; have h9 := hj; (try dsimp only at h9); omega); (case h2 => omega); (case h3 => rw [List.length_take]; omega); intro v2 w6 hown hb hg hat; have HO6 := Hd.mk hown; have HV6 := Hd.mk (HV5.out.step (W1 := w6) (fun j hj hjl => hg.block j hjl (fun h => by have := (HW5.out j h.symm).1; have h9 := hj; (try dsimp only at h9); omega))); have HW6 := Hd.mk hown.blk; have HB6 := Hd.mk (HB5.out.trans hb); have hs6 := hg.size; clear hown hb hg hat)
        | (at_builtin; refine Kd.Own.appendRow (w0 := w6) rfl (.tmp 33) (.tmp 36) 24 (.agg #[(.int .i64 0), (.int .i64 0), (.slice none 0 0)]) 40 rfl Try.underlying24 info69 rfl (by decide) rfl rfl HO6.out (HYd.out HV6.out) HTd.out ?h1 ?h0 ?h2 ?h3 ?_; (case h1 => exact fun j hj _ h => by have := (HW6.out j h.symm).1; have h9 := hj; (try dsimp only at h9); omega); (case h0 => exact Below.refl _ _); (case h2 => omega); (case h3 => rw [List.length_append, List.length_take]; simp; omega); intro v3 w7 hown hb hg hat; have HO7 := Hd.mk hown; have HB7 := Hd.mk (HB6.out.trans hb); clear hown hb hg hat))
      go_ret
      have hfin : l.take j ++ [(⟨xt, xn, xb⟩ : Fl)] ++ l.drop j = l.take j ++ (⟨xt, xn, xb⟩ : Fl) :: l.drop j := by simp
      refine ⟨_, rfl, ?_, ?_⟩
      · have h7 := HO7.out
        rw [hfin] at h7
        refine (h7.lower (base' := w.heap.size) (by omega)).mono (fun j hj => ?_)
        rcases hj with (hj | hj) | hj
        · exact .inl hj.1
        · exact .inr hj.1
        · exact .inl hj.1
      · exact HBz.out.trans (HB7.out.mono (by omega))
    · obtain ⟨m, hm⟩ : ∃ m, m < j ∧ j ≤ m + 1 := ⟨j - 1, by omega, by omega⟩
      obtain ⟨ad, A5, c5, ea, y0, y1, y2, hvb⟩ := fls_elem HV.out m (by omega)
      cases ea
      have hyt := HGT.out m (by omega) (by omega)
      have hp0 : 0 < j := by omega
      obtain ⟨y, hy⟩ : ∃ y, y = nth fl0 l m := ⟨_, rfl⟩
      rw [← hy] at y0 y1 y2 hyt
      clear hy hvb
      rcases y with ⟨yt, yn, yb⟩
      dsimp only at y0 y1 y2 hyt
      have g0 : decide ((j : Int) > 0) = true := decide_eq_true (by omega)
      have g1 : decide (yt > xt) = true := decide_eq_true (by omega)
      have hw1 : IntKind.i64.wrap ((j : Int) - 1) = (m : Int) := by rw [show (j : Int) - 1 = m by omega]; exact IntWalk.i64_in _ (by omega)
      have hb0 : (0 : Int) ≤ m := by omega
      have hb1 : (m : Int) < l.length := by omega
      go_wp2_with fail
      go_quiet (fail)
      go_wp2
      go_roundw
      case rel => exact ⟨m, by omega, by omega, by first | rfl | go_num, ⟨HQ.out.drewN nq⟩, ⟨HV.out.drewN nq⟩, ⟨HX.out.below (pw_below_drewN (Below.refl _ _) nq)⟩, ⟨pw_below_drewN HB.out nq⟩⟩
      case measure => simp [intOf]; omega
end Go.Proofs.Ytkgkiencikmhfaa.B
