/- What this text holds: contracts of the reference's Next, Cut and Restore. -/
import Derived.Test.YtkgkiencikmhfaaG7
set_option linter.unusedVariables false
set_option linter.unusedSimpArgs false
namespace Go.Proofs.Ytkgkiencikmhfaa.B
open Go.RowKit

set_option maxRecDepth 100000 in
set_option maxHeartbeats 2000000 in
theorem refNext_calls (mn mx rt : Int) (dn : Bool) (idle next : Int) (A : Option Addr) (c : Nat) (l : List Fl) (w : World) (hr : fls.C w A l) (hc : l.length ≤ c) :
    Calls Try.prog 28 #[.agg #[.int .i64 mn, .int .i64 mx, .int .i64 rt, .bool dn, .int .i64 idle, .int .i64 next, .slice A l.length c]] w fun e w' => e = .returned (.tuple #[.int .i64 (nextF mn mx rt dn idle next l).1, .bool (nextF mn mx rt dn idle next l).2]) ∧ Below w.heap.size w w' := by
  have hu26 := Try.underlying26
  have hu69 := Try.underlying69
  have HR := Hd.mk hr
  have HC := Hd.mk hr
  clear hr
  obtain ⟨er, her⟩ : ∃ er, er = chkL mn mx rt dn idle next l := ⟨_, rfl⟩
  have HER := Hd.mk her
  clear her
  obtain ⟨r, hrr⟩ : ∃ r, r = nextF mn mx rt dn idle next l := ⟨_, rfl⟩
  rw [← hrr]
  have HF := Hd.mk hrr
  clear hrr
  have HB : Hd (Below w.heap.size w (w.alloc (.cells #[.int .i64 mn, .int .i64 mx, .int .i64 rt, .bool dn, .int .i64 idle, .int .i64 next, .slice A l.length c] 26))) := ⟨by go_grown⟩
  have HQ := Hd.mk (Blk.new w 26 #[.int .i64 mn, .int .i64 mx, .int .i64 rt, .bool dn, .int .i64 idle, .int .i64 next, .slice A l.length c])
  go_enter Try.func28, Try.ntmps28
  go_wp2_with fail
  refine (refCheck_calls mn mx rt dn idle next A c l _ (HR.out.below HB.out) hc).mono ?_
  rw [← HER.out]
  rintro e w2 ⟨rfl, hb⟩
  replace HB := Hd.mk (bstep HB.out (Nat.le_refl _) hb)
  obtain ⟨q0, q1, q2, q3, q4, q5, q6, q7, q8, q9, q10, q11, q12, q13⟩ := (HQ.out.below hb).f7
  clear hb HQ
  by_cases h : er = 0
  · subst h
    rcases Nat.eq_zero_or_pos l.length with h0 | h0
    · have h1 : ((l.length : Int) == 0) = true := by simp [h0]
      have HE : Hd (r = (0, false)) := ⟨by rw [HF.out, nextF, if_pos (.inr h0)]⟩
      clear h0
      go_wp2
      refine bodyPost_ret (v := .tuple #[.int .i64 0, .bool false]) (by simp [results, Try.results28, go_sem]) rfl ?_
      exact ⟨by rw [HE.out], HB.out⟩
    · have h1 : ((l.length : Int) == 0) = false := by simp; intro h; simp [h] at h0
      have h2 : (0 : Int) < l.length := by omega
      obtain ⟨ad, A4, c4, ea, x0, x1, x2, -, -⟩ := fls_get (HC.out.below HB.out) 0 h0
      cases ea
      simp only [Nat.zero_mul, Kd.add_zero] at x0 x1 x2
      have HE : Hd (r = ((nth fl0 l 0).t, true)) := ⟨by rw [HF.out, nextF, if_neg (by rw [← HER.out]; simp; intro h; simp [h] at h0)]⟩
      go_wp2
      refine bodyPost_ret (v := .tuple #[.int .i64 (nth fl0 l 0).t, .bool true]) (by simp [results, Try.results28, go_sem]) rfl ?_
      exact ⟨by rw [HE.out], HB.out⟩
  · have hb1 : (er != 0) = true := by simp [h]
    have HE : Hd (r = (0, false)) := ⟨by rw [HF.out, nextF, if_pos (.inl (by rw [← HER.out]; exact h))]⟩
    clear h
    go_wp2
    refine bodyPost_ret (v := .tuple #[.int .i64 0, .bool false]) (by simp [results, Try.results28, go_sem]) rfl ?_
    exact ⟨by rw [HE.out], HB.out⟩


/-- What the reference's Cut and Restore leave: a link, maybe the very one. -/
def LinkPost2 (w : World) (ok : Nat → Prop) (r : Lk) (e : Ending) (w' : World) : Prop :=
  ∃ v, e = .returned (.agg #[.int .i64 r.mn, .int .i64 r.mx, .int .i64 r.rt, .bool r.down, .int .i64 r.idle, .int .i64 r.next, v]) ∧ fls.V w' (fun k => ok k ∨ w.heap.size ≤ k) v r.fl ∧ Below w.heap.size w w'

set_option maxRecDepth 100000 in
set_option maxHeartbeats 2000000 in
theorem refCut_calls (mn mx rt : Int) (dn : Bool) (idle next : Int) (A : Option Addr) (c : Nat) (l : List Fl) (w : World) (ok : Nat → Prop) (hv0 : fls.V w ok (.slice A l.length c) l) :
    Calls Try.prog 30 #[.agg #[.int .i64 mn, .int .i64 mx, .int .i64 rt, .bool dn, .int .i64 idle, .int .i64 next, .slice A l.length c]] w (LinkPost2 w ok (cutF mn mx rt dn idle next l)) := by
  obtain ⟨r, hrr⟩ : ∃ r, r = cutF mn mx rt dn idle next l := ⟨_, rfl⟩
  rw [← hrr]
  have HF := Hd.mk hrr
  clear hrr
  have hu26 := Try.underlying26
  have hr := hv0.C
  have hc : l.length ≤ c := hv0.n.2
  have HR := Hd.mk hr
  have HV0 := Hd.mk hv0.bound
  clear hr hv0
  obtain ⟨er, her⟩ : ∃ er, er = chkL mn mx rt dn idle next l := ⟨_, rfl⟩
  have HER := Hd.mk her
  clear her
  have HB : Hd (Below w.heap.size w ((w.alloc (.cells #[.int .i64 mn, .int .i64 mx, .int .i64 rt, .bool dn, .int .i64 idle, .int .i64 next, .slice A l.length c] 26)).alloc (.cells #[.int .i64 0, .int .i64 0, .int .i64 0, .bool false, .int .i64 0, .int .i64 0, .slice none 0 0] 26))) := ⟨by go_grown⟩
  have hq := (Blk.new w 26 #[.int .i64 mn, .int .i64 mx, .int .i64 rt, .bool dn, .int .i64 idle, .int .i64 next, .slice A l.length c]).alloc (.cells #[.int .i64 0, .int .i64 0, .int .i64 0, .bool false, .int .i64 0, .int .i64 0, .slice none 0 0] 26)
  have hp := Blk.new (w.alloc (.cells #[.int .i64 mn, .int .i64 mx, .int .i64 rt, .bool dn, .int .i64 idle, .int .i64 next, .slice A l.length c] 26)) 26 #[.int .i64 0, .int .i64 0, .int .i64 0, .bool false, .int .i64 0, .int .i64 0, .slice none 0 0]
  rw [World.size_alloc] at hp
  have HQ := Hd.mk hq
  have HP := Hd.mk hp
  clear hq hp
  go_enter Try.func30, Try.ntmps30
  go_wp2_with fail
  refine (refCheck_calls mn mx rt dn idle next A c l _ (HR.out.below HB.out) hc).mono ?_
  rw [← HER.out]
  rintro e w2 ⟨rfl, hb⟩
  replace HB := Hd.mk (bstep HB.out (Nat.le_refl _) hb)
  replace HQ := Hd.mk (HQ.out.below hb)
  replace HP := Hd.mk (HP.out.below hb)
  have HV := Hd.mk (HV0.out.below HB.out)
  have hplt := HP.out.lt
  clear hb HV0
  obtain ⟨p0, p1, p2, p3, p4, p5, p6, p7, p8, p9, p10, p11, p12, p13⟩ := HQ.out.f7
  by_cases h : er = 0
  · subst h
    have HE : Hd (r = ⟨mn, mx, rt, true, idle, next, []⟩) := ⟨by rw [HF.out, cutF, if_neg (by rw [← HER.out]; decide)]⟩
    have HQ2 := Hd.mk ((HQ.out.put (cs' := #[.int .i64 mn, .int .i64 mx, .int .i64 rt, .bool true, .int .i64 idle, .int .i64 next, .slice A l.length c]) 3 (.bool true) rfl).put (cs' := #[.int .i64 mn, .int .i64 mx, .int .i64 rt, .bool true, .int .i64 idle, .int .i64 next, .slice none 0 0]) 6 (.slice none 0 0) rfl)
    have HP2 := Hd.mk ((HP.out.far (p := ⟨w.heap.size, 3, none⟩) (by dsimp only; omega) (.bool true)).far (p := ⟨w.heap.size, 6, none⟩) (by dsimp only; omega) (.slice none 0 0))
    obtain ⟨y0, y1, y2, y3, y4, y5, y6, -, -, -, -, -, -, -⟩ := HQ2.out.f7
    obtain ⟨q0, q1, q2, q3, q4, q5, q6, q7, q8, q9, q10, q11, q12, q13⟩ := HP2.out.f7
    clear HF hplt
    go_wp2
    refine bodyPost_ret (v := .agg #[.int .i64 mn, .int .i64 mx, .int .i64 rt, .bool true, .int .i64 idle, .int .i64 next, .slice none 0 0]) (by simp [results, Try.results30, go_sem, q0, q1, q2, q3, q4, q5, q6]) rfl ?_
    rw [HE.out]
    refine ⟨_, rfl, ?_, ?_⟩
    · exact Kd.V.nil
    · have h2 := HB.out
      repeat (first | (with_reducible exact h2) | (with_reducible refine Below.setCell ?_ (by dsimp only; omega) _))
  · have hb1 : (er != 0) = true := by simp [h]
    have HE : Hd (r = ⟨mn, mx, rt, dn, idle, next, l⟩) := ⟨by rw [HF.out, cutF, if_pos (by rw [← HER.out]; exact h)]⟩
    obtain ⟨q0, q1, q2, q3, q4, q5, q6, q7, q8, q9, q10, q11, q12, q13⟩ := HP.out.f7
    clear h HF
    go_wp2
    refine bodyPost_ret (v := .agg #[.int .i64 mn, .int .i64 mx, .int .i64 rt, .bool dn, .int .i64 idle, .int .i64 next, .slice A l.length c]) (by simp [results, Try.results30, go_sem, q0, q1, q2, q3, q4, q5, q6]) rfl ?_
    rw [HE.out]
    refine ⟨_, rfl, ?_, ?_⟩
    · have hv := HV.out
      refine Kd.V.mono (ok := fun j => ok j ∧ j < w.heap.size) ?_ (fun j hj => .inl hj.1)
      repeat (first | (with_reducible exact hv) | (with_reducible refine Kd.V.far ?_ (fun j hj => by have h4 := hj.2; dsimp only; omega) _))
    · have h2 := HB.out
      repeat (first | (with_reducible exact h2) | (with_reducible refine Below.setCell ?_ (by dsimp only; omega) _))

end Go.Proofs.Ytkgkiencikmhfaa.B
