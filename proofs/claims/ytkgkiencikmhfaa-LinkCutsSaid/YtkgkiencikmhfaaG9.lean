/- What this text holds: the contract of the reference's Restore. -/
import Derived.Test.YtkgkiencikmhfaaG8
set_option linter.unusedVariables false
set_option linter.unusedSimpArgs false
namespace Go.Proofs.Ytkgkiencikmhfaa.B
open Go.RowKit

set_option maxRecDepth 100000 in
set_option maxHeartbeats 2000000 in
theorem refRestore_calls (mn mx rt : Int) (dn : Bool) (idle next : Int) (A : Option Addr) (c : Nat) (l : List Fl) (now : Int) (w : World) (ok : Nat → Prop) (hv0 : fls.V w ok (.slice A l.length c) l) :
    Calls Try.prog 32 #[.agg #[.int .i64 mn, .int .i64 mx, .int .i64 rt, .bool dn, .int .i64 idle, .int .i64 next, .slice A l.length c], .int .i64 now] w (LinkPost2 w ok (restoreF mn mx rt dn idle next l now)) := by
  obtain ⟨r, hrr⟩ : ∃ r, r = restoreF mn mx rt dn idle next l now := ⟨_, rfl⟩
  rw [← hrr]
  have HF := Hd.mk hrr
  clear hrr
  have hu26 := Try.underlying26
  have hr := hv0.C
  have hc : l.length ≤ c := hv0.n.2
  have HR := Hd.mk hr
  have HV0 := Hd.mk hv0.bound
  clear hr hv0
  obtain ⟨er, her⟩ : ∃ er, er = chkL mn mx rt dn idle next l := ⟨_, rfl⟩
  have HER := Hd.mk her
  clear her
  have HB : Hd (Below w.heap.size w ((w.alloc (.cells #[.int .i64 mn, .int .i64 mx, .int .i64 rt, .bool dn, .int .i64 idle, .int .i64 next, .slice A l.length c] 26)).alloc (.cells #[.int .i64 0, .int .i64 0, .int .i64 0, .bool false, .int .i64 0, .int .i64 0, .slice none 0 0] 26))) := ⟨by go_grown⟩
  have hq := (Blk.new w 26 #[.int .i64 mn, .int .i64 mx, .int .i64 rt, .bool dn, .int .i64 idle, .int .i64 next, .slice A l.length c]).alloc (.cells #[.int .i64 0, .int .i64 0, .int .i64 0, .bool false, .int .i64 0, .int .i64 0, .slice none 0 0] 26)
  have hp := Blk.new (w.alloc (.cells #[.int .i64 mn, .int .i64 mx, .int .i64 rt, .bool dn, .int .i64 idle, .int .i64 next, .slice A l.length c] 26)) 26 #[.int .i64 0, .int .i64 0, .int .i64 0, .bool false, .int .i64 0, .int .i64 0, .slice none 0 0]
  rw [World.size_alloc] at hp
  have HQ := Hd.mk hq
  have HP := Hd.mk hp
  clear hq hp
  go_enter Try.func32, Try.ntmps32
  go_wp2_with fail
  refine (refCheck_calls mn mx rt dn idle next A c l _ (HR.out.below HB.out) hc).mono ?_
  rw [← HER.out]
  rintro e w2 ⟨rfl, hb⟩
  replace HB := Hd.mk (bstep HB.out (Nat.le_refl _) hb)
  replace HQ := Hd.mk (HQ.out.below hb)
  replace HP := Hd.mk (HP.out.below hb)
  have HV := Hd.mk (HV0.out.below HB.out)
  have hplt := HP.out.lt
  clear hb HV0
  have h3 : er ≠ 0 ∨ (er = 0 ∧ dn = false) ∨ (er = 0 ∧ dn = true ∧ now < 0) ∨ (er = 0 ∧ dn = true ∧ ¬ now < 0 ∧ 1073741824 < now) ∨ (er = 0 ∧ dn = true ∧ ¬ now < 0 ∧ ¬ 1073741824 < now) := by
    by_cases h : er = 0
    · cases dn
      · exact .inr (.inl ⟨h, rfl⟩)
      · have : now < 0 ∨ (¬ now < 0 ∧ 1073741824 < now) ∨ (¬ now < 0 ∧ ¬ 1073741824 < now) := by omega
        rcases this with a | a | a
        · exact .inr (.inr (.inl ⟨h, rfl, a⟩))
        · exact .inr (.inr (.inr (.inl ⟨h, rfl, a⟩)))
        · exact .inr (.inr (.inr (.inr ⟨h, rfl, a⟩)))
    · exact .inl h
  rcases h3 with h | ⟨h, rfl⟩ | ⟨h, rfl, h4⟩ | ⟨h, rfl, h4, h5⟩ | ⟨h, rfl, h4, h5⟩
  · have hb1 : (er != 0) = true := by simp [h]
    have HE : Hd (r = ⟨mn, mx, rt, dn, idle, next, l⟩) := ⟨by rw [HF.out, restoreF, if_neg (by rw [← HER.out]; exact fun hh => h hh.1)]⟩
    obtain ⟨p0, p1, p2, p3, p4, p5, p6, p7, p8, p9, p10, p11, p12, p13⟩ := HQ.out.f7
    obtain ⟨q0, q1, q2, q3, q4, q5, q6, q7, q8, q9, q10, q11, q12, q13⟩ := HP.out.f7
    clear h
    clear HF
    go_wp2
    refine bodyPost_ret (v := .agg #[.int .i64 mn, .int .i64 mx, .int .i64 rt, .bool dn, .int .i64 idle, .int .i64 next, .slice A l.length c]) (by simp [results, Try.results32, go_sem, q0, q1, q2, q3, q4, q5, q6]) rfl ?_
    rw [HE.out]
    refine ⟨_, rfl, ?_, ?_⟩
    · have hv := HV.out
      refine Kd.V.mono (ok := fun j => ok j ∧ j < w.heap.size) ?_ (fun j hj => .inl hj.1)
      repeat (first | (with_reducible exact hv) | (with_reducible refine Kd.V.far ?_ (fun j hj => by have h4 := hj.2; dsimp only; omega) _))
    · have h2 := HB.out
      repeat (first | (with_reducible exact h2) | (with_reducible refine Below.setCell ?_ (by dsimp only; omega) _))
  · subst h
    have HE : Hd (r = ⟨mn, mx, rt, false, idle, next, l⟩) := ⟨by rw [HF.out, restoreF, if_neg (fun hh => by cases hh.2.1)]⟩
    obtain ⟨p0, p1, p2, p3, p4, p5, p6, p7, p8, p9, p10, p11, p12, p13⟩ := HQ.out.f7
    obtain ⟨q0, q1, q2, q3, q4, q5, q6, q7, q8, q9, q10, q11, q12, q13⟩ := HP.out.f7
    clear HF
    go_wp2
    refine bodyPost_ret (v := .agg #[.int .i64 mn, .int .i64 mx, .int .i64 rt, .bool false, .int .i64 idle, .int .i64 next, .slice A l.length c]) (by simp [results, Try.results32, go_sem, q0, q1, q2, q3, q4, q5, q6]) rfl ?_
    rw [HE.out]
    refine ⟨_, rfl, ?_, ?_⟩
    · have hv := HV.out
      refine Kd.V.mono (ok := fun j => ok j ∧ j < w.heap.size) ?_ (fun j hj => .inl hj.1)
      repeat (first | (with_reducible exact hv) | (with_reducible refine Kd.V.far ?_ (fun j hj => by have h4 := hj.2; dsimp only; omega) _))
    · have h2 := HB.out
      repeat (first | (with_reducible exact h2) | (with_reducible refine Below.setCell ?_ (by dsimp only; omega) _))
  · subst h
    have HE : Hd (r = ⟨mn, mx, rt, true, idle, next, l⟩) := ⟨by rw [HF.out, restoreF, if_neg (fun hh => by have := hh.2.2; simp [betw] at this; omega)]⟩
    obtain ⟨p0, p1, p2, p3, p4, p5, p6, p7, p8, p9, p10, p11, p12, p13⟩ := HQ.out.f7
    obtain ⟨q0, q1, q2, q3, q4, q5, q6, q7, q8, q9, q10, q11, q12, q13⟩ := HP.out.f7
    clear HF
    go_wp2
    refine bodyPost_ret (v := .agg #[.int .i64 mn, .int .i64 mx, .int .i64 rt, .bool true, .int .i64 idle, .int .i64 next, .slice A l.length c]) (by simp [results, Try.results32, go_sem, q0, q1, q2, q3, q4, q5, q6]) rfl ?_
    rw [HE.out]
    refine ⟨_, rfl, ?_, ?_⟩
    · have hv := HV.out
      refine Kd.V.mono (ok := fun j => ok j ∧ j < w.heap.size) ?_ (fun j hj => .inl hj.1)
      repeat (first | (with_reducible exact hv) | (with_reducible refine Kd.V.far ?_ (fun j hj => by have h4 := hj.2; dsimp only; omega) _))
    · have h2 := HB.out
      repeat (first | (with_reducible exact h2) | (with_reducible refine Below.setCell ?_ (by dsimp only; omega) _))
  · subst h
    have HE : Hd (r = ⟨mn, mx, rt, true, idle, next, l⟩) := ⟨by rw [HF.out, restoreF, if_neg (fun hh => by have := hh.2.2; simp [betw] at this; omega)]⟩
    obtain ⟨p0, p1, p2, p3, p4, p5, p6, p7, p8, p9, p10, p11, p12, p13⟩ := HQ.out.f7
    obtain ⟨q0, q1, q2, q3, q4, q5, q6, q7, q8, q9, q10, q11, q12, q13⟩ := HP.out.f7
    clear HF
    go_wp2
    refine bodyPost_ret (v := .agg #[.int .i64 mn, .int .i64 mx, .int .i64 rt, .bool true, .int .i64 idle, .int .i64 next, .slice A l.length c]) (by simp [results, Try.results32, go_sem, q0, q1, q2, q3, q4, q5, q6]) rfl ?_
    rw [HE.out]
    refine ⟨_, rfl, ?_, ?_⟩
    · have hv := HV.out
      refine Kd.V.mono (ok := fun j => ok j ∧ j < w.heap.size) ?_ (fun j hj => .inl hj.1)
      repeat (first | (with_reducible exact hv) | (with_reducible refine Kd.V.far ?_ (fun j hj => by have h4 := hj.2; dsimp only; omega) _))
    · have h2 := HB.out
      repeat (first | (with_reducible exact h2) | (with_reducible refine Below.setCell ?_ (by dsimp only; omega) _))
  · subst h
    have HE : Hd (r = ⟨mn, mx, rt, false, now, next, l⟩) := ⟨by rw [HF.out, restoreF, if_pos ⟨by rw [← HER.out], rfl, by simp [betw]; omega⟩]⟩
    obtain ⟨p0, p1, p2, p3, p4, p5, p6, p7, p8, p9, p10, p11, p12, p13⟩ := HQ.out.f7
    have HQ2 := Hd.mk ((HQ.out.put (cs' := #[.int .i64 mn, .int .i64 mx, .int .i64 rt, .bool false, .int .i64 idle, .int .i64 next, .slice A l.length c]) 3 (.bool false) rfl).put (cs' := #[.int .i64 mn, .int .i64 mx, .int .i64 rt, .bool false, .int .i64 now, .int .i64 next, .slice A l.length c]) 4 (.int .i64 now) rfl)
    have HP2 := Hd.mk ((HP.out.far (p := ⟨w.heap.size, 3, none⟩) (by dsimp only; omega) (.bool false)).far (p := ⟨w.heap.size, 4, none⟩) (by dsimp only; omega) (.int .i64 now))
    obtain ⟨y0, y1, y2, y3, y4, y5, y6, -, -, -, -, -, -, -⟩ := HQ2.out.f7
    obtain ⟨q0, q1, q2, q3, q4, q5, q6, q7, q8, q9, q10, q11, q12, q13⟩ := HP2.out.f7
    clear HF hplt
    go_wp2
    refine bodyPost_ret (v := .agg #[.int .i64 mn, .int .i64 mx, .int .i64 rt, .bool false, .int .i64 now, .int .i64 next, .slice A l.length c]) (by simp [results, Try.results32, go_sem, q0, q1, q2, q3, q4, q5, q6]) rfl ?_
    rw [HE.out]
    refine ⟨_, rfl, ?_, ?_⟩
    · have hv := HV.out
      refine Kd.V.mono (ok := fun j => ok j ∧ j < w.heap.size) ?_ (fun j hj => .inl hj.1)
      repeat (first | (with_reducible exact hv) | (with_reducible refine Kd.V.far ?_ (fun j hj => by have h4 := hj.2; dsimp only; omega) _))
    · have h2 := HB.out
      repeat (first | (with_reducible exact h2) | (with_reducible refine Below.setCell ?_ (by dsimp only; omega) _))

end Go.Proofs.Ytkgkiencikmhfaa.B
