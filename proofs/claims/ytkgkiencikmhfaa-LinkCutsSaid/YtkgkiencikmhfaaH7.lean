/- What this text holds: the contract of the reference's Deliver. -/
import Derived.Test.YtkgkiencikmhfaaH6
import Derived.Test.YtkgkiencikmhfaaS1
set_option linter.unusedVariables false
set_option linter.unusedSimpArgs false
namespace Go.Proofs.Ytkgkiencikmhfaa.B
open Go.RowKit

/-- In order: no flight stands before an earlier one. -/
theorem chkL_sorted {mn mx rt : Int} {dn : Bool} {idle next : Int} {l : List Fl} (h : chkL mn mx rt dn idle next l = 0) : ∀ i j, i < j → j < l.length → (nth fl0 l i).t ≤ (nth fl0 l j).t := by
  obtain ⟨_, _, _, _, _, hz⟩ := chkL_ok h
  intro i j hij
  induction j with
  | zero => omega
  | succ j ih =>
    intro hj
    have h1 := hz (j + 1) hj
    have hs : (nth fl0 l j).t ≤ (nth fl0 l (j + 1)).t := by
      unfold chkLAt at h1
      split at h1
      · rename_i h2
        exact absurd h1 h2
      · split at h1
        · cases h1
        · rename_i h3
          have h4 : ¬ 0 ≤ cmpE (nth fl0 l j).t (nth fl0 l j).n (nth fl0 l (j + 1)).t (nth fl0 l (j + 1)).n := fun h => h3 (by simpa using h)
          rw [cmpE_ge] at h4
          omega
    rcases Nat.lt_or_ge i j with h2 | h2
    · exact Int.le_trans (ih h2 (by omega)) hs
    · obtain rfl : i = j := by omega
      exact hs
theorem deliver_filter {mn mx rt : Int} {dn : Bool} {idle next : Int} {l : List Fl} (now : Int) (h : chkL mn mx rt dn idle next l = 0) :
    (⟨mn, mx, rt, dn, idle, next, l.filter (fun x => !decide (x.t ≤ now))⟩, (l.filter (fun x => decide (x.t ≤ now))).map (·.body)) = deliverF mn mx rt dn idle next l now := by
  have hs := chkL_sorted h
  have hp := placeL_le l now
  have e := filterL_split l now (fun x hx => by
    obtain ⟨i, hi, rfl⟩ := List.getElem_of_mem hx
    have h1 : i < placeL l now := by rw [List.length_take] at hi; omega
    have := placeL_lt l now i h1
    rw [nth_eq fl0 l i (by omega)] at this
    rw [List.getElem_take]
    exact this) (fun x hx => by
    obtain ⟨i, hi, rfl⟩ := List.getElem_of_mem hx
    rw [List.length_drop] at hi
    have h1 := placeL_ge l now (by omega)
    rw [List.getElem_drop, ← nth_eq fl0 l (placeL l now + i) (by omega)]
    rcases Nat.eq_zero_or_pos i with h0 | h0
    · rw [h0]; exact h1
    · exact Int.lt_of_lt_of_le h1 (hs _ _ (by omega) (by omega)))
  rw [deliverF, if_neg (by rw [h]; decide), e.1, e.2]

set_option maxRecDepth 100000 in
set_option maxHeartbeats 4000000 in
theorem refDeliver_bad (mn mx rt : Int) (dn : Bool) (idle next : Int) (A : Option Addr) (c : Nat) (l : List Fl) (now : Int) (w : World) (ok : Nat → Prop) (hv0 : fls.V w ok (.slice A l.length c) l) (h : chkL mn mx rt dn idle next l ≠ 0) :
    Calls Try.prog 26 #[.agg #[.int .i64 mn, .int .i64 mx, .int .i64 rt, .bool dn, .int .i64 idle, .int .i64 next, .slice A l.length c], .int .i64 now] w (DeliverPost2 w ok (⟨mn, mx, rt, dn, idle, next, l⟩, [])) := by
  have hu26 := Try.underlying26
  have hu69 := Try.underlying69
  have hr := hv0.C
  have hc : l.length ≤ c := hv0.n.2
  have HR := Hd.mk hr
  have HV0 := Hd.mk (hv0.bound)
  obtain ⟨er, her⟩ : ∃ er, er = chkL mn mx rt dn idle next l := ⟨_, rfl⟩
  rw [← her] at h
  have hb1 : (er != 0) = true := by simp [h]
  have HER := Hd.mk her
  clear hv0 hr h her
  have HB : Hd (Below w.heap.size w ((w.alloc (.cells #[.int .i64 mn, .int .i64 mx, .int .i64 rt, .bool dn, .int .i64 idle, .int .i64 next, .slice A l.length c] 26)).alloc (.cells #[.int .i64 0, .int .i64 0, .int .i64 0, .bool false, .int .i64 0, .int .i64 0, .slice none 0 0] 26))) := ⟨by go_grown⟩
  have hq := (Blk.new w 26 #[.int .i64 mn, .int .i64 mx, .int .i64 rt, .bool dn, .int .i64 idle, .int .i64 next, .slice A l.length c]).alloc (.cells #[.int .i64 0, .int .i64 0, .int .i64 0, .bool false, .int .i64 0, .int .i64 0, .slice none 0 0] 26)
  have hp := Blk.new (w.alloc (.cells #[.int .i64 mn, .int .i64 mx, .int .i64 rt, .bool dn, .int .i64 idle, .int .i64 next, .slice A l.length c] 26)) 26 #[.int .i64 0, .int .i64 0, .int .i64 0, .bool false, .int .i64 0, .int .i64 0, .slice none 0 0]
  rw [World.size_alloc] at hp
  have HQ := Hd.mk hq
  have HP := Hd.mk hp
  have HVb := Hd.mk (HV0.out.below HB.out)
  clear hq hp
  go_enter Try.func26, Try.ntmps26
  go_wp2_with fail
  refine (refCheck_calls mn mx rt dn idle next A c l _ (HR.out.below HB.out) hc).mono ?_
  rw [← HER.out]
  rintro e w2 ⟨rfl, hb⟩
  replace HB := Hd.mk (bstep HB.out (Nat.le_refl _) hb)
  replace HQ := Hd.mk (HQ.out.below hb)
  replace HP := Hd.mk (HP.out.below hb)
  have HV := Hd.mk (HVb.out.below hb)
  have hplt := HP.out.lt
  clear hb
  obtain ⟨q0, q1, q2, q3, q4, q5, q6, q7, q8, q9, q10, q11, q12, q13⟩ := HQ.out.f7
  obtain ⟨p0, p1, p2, p3, p4, p5, p6, p7, p8, p9, p10, p11, p12, p13⟩ := HP.out.f7
  have HP2 := Hd.mk (put7 (b0 := .int .i64 mn) (b1 := .int .i64 mx) (b2 := .int .i64 rt) (b3 := .bool dn) (b4 := .int .i64 idle) (b5 := .int .i64 next) (b6 := .slice A l.length c) HP.out)
  obtain ⟨y0, y1, y2, y3, y4, y5, y6, y7, y8, y9, y10, y11, y12, y13⟩ := HP2.out.f7
  go_wp2
  refine bodyPost_ret (v := .tuple #[.agg #[.int .i64 mn, .int .i64 mx, .int .i64 rt, .bool dn, .int .i64 idle, .int .i64 next, .slice A l.length c], .slice none 0 0]) (by simp [results, Try.results26, go_sem, y0, y1, y2, y3, y4, y5, y6]) rfl ?_
  refine ⟨_, _, rfl, ?_, Kd.V.nil, ?_⟩
  · have hv := HV.out
    refine Kd.V.mono (ok := fun k => ok k ∧ k < w.heap.size) ?_ (fun j hj => .inl hj.1)
    repeat (first | (with_reducible exact hv) | (with_reducible refine Kd.V.far ?_ (fun j hj => by have hj' := hj.2; dsimp only; omega) _))
  · have h2 := HB.out
    repeat (first | (with_reducible exact h2) | (with_reducible refine Below.setCell ?_ (by dsimp only; omega) _))

theorem refDeliver_calls (mn mx rt : Int) (dn : Bool) (idle next : Int) (A : Option Addr) (c : Nat) (l : List Fl) (now : Int) (w : World) (ok : Nat → Prop) (hv0 : fls.V w ok (.slice A l.length c) l) :
    Calls Try.prog 26 #[.agg #[.int .i64 mn, .int .i64 mx, .int .i64 rt, .bool dn, .int .i64 idle, .int .i64 next, .slice A l.length c], .int .i64 now] w (DeliverPost2 w ok (deliverF mn mx rt dn idle next l now)) := by
  by_cases h : chkL mn mx rt dn idle next l = 0
  · rw [← deliver_filter now h]
    exact refDeliver_ok mn mx rt dn idle next A c l now w ok hv0 h (chkL_small h)
  · rw [deliverF, if_pos h]
    exact refDeliver_bad mn mx rt dn idle next A c l now w ok hv0 h
end Go.Proofs.Ytkgkiencikmhfaa.B
