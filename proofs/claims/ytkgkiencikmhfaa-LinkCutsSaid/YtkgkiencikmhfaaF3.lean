/- What this text holds: what link.Check answers, and its contract. -/
import Derived.Test.YtkgkiencikmhfaaF2
set_option linter.unusedVariables false
set_option linter.unusedSimpArgs false
namespace Go.Proofs.Ytkgkiencikmhfaa.B
open Go.RowKit

/-- The first of f 0, f 1, .. that is not 0, among n. -/
def firstErr (f : Nat → Int) : Nat → Int
  | 0 => 0
  | n + 1 => if firstErr f n = 0 then f n else firstErr f n
theorem firstErr_zero (f : Nat → Int) (n : Nat) (h : ∀ j, j < n → f j = 0) : firstErr f n = 0 := by
  induction n with
  | zero => rfl
  | succ n ih =>
    rw [firstErr, if_pos (ih (fun j hj => h j (by omega)))]
    exact h n (by omega)
theorem firstErr_at (f : Nat → Int) (n k : Nat) (hk : k < n) (h : ∀ j, j < k → f j = 0) (hf : f k ≠ 0) : firstErr f n = f k := by
  induction n with
  | zero => omega
  | succ n ih =>
    rw [firstErr]
    rcases Nat.lt_or_ge k n with hlt | hge
    · rw [ih hlt, if_neg hf]
    · obtain rfl : k = n := by omega
      rw [if_pos (firstErr_zero f k h)]
theorem nth_mem {α : Type} (z : α) (l : List α) (k : Nat) (h : k < l.length) : nth z l k ∈ l := by rw [nth_eq z l k h]; exact List.getElem_mem h
theorem take_nth {α : Type} (z : α) (l : List α) (k : Nat) (h : k < l.length) : l.take (k + 1) = l.take k ++ [nth z l k] := by
  rw [List.take_succ_eq_append_getElem h, nth_eq z l k h]

def wrongL (t n : Int) (len : Nat) (next : Int) : Int := if betw t 0 1073741824 = false then 24 else if betw n 0 (next - 1) = false then 2 else if 65536 < len then 5 else 0
def chkLAt (l : List Fl) (next : Int) (i : Nat) : Int :=
  if wrongL (nth fl0 l i).t (nth fl0 l i).n (nth fl0 l i).body.length next ≠ 0 then wrongL (nth fl0 l i).t (nth fl0 l i).n (nth fl0 l i).body.length next
  else if 0 < i ∧ 0 ≤ cmpE (nth fl0 l (i - 1)).t (nth fl0 l (i - 1)).n (nth fl0 l i).t (nth fl0 l i).n then 3
  else if (l.take i).any (fun x => x.n == (nth fl0 l i).n) then 8 else 0
def chkL (mn mx rt : Int) (dn : Bool) (idle next : Int) (l : List Fl) : Int :=
  if cfgF mn mx rt ≠ 0 then 2 else if betw idle 0 1073741824 = false then 24 else if betw next 0 1073741824 = false then 2 else if 4096 < l.length then 6 else if dn = true ∧ 0 < l.length then 12
  else firstErr (chkLAt l next) l.length
theorem cfgF_two {mn mx rt : Int} (h : cfgF mn mx rt ≠ 0) : cfgF mn mx rt = 2 := by
  unfold cfgF at h ⊢
  split <;> simp_all

set_option maxRecDepth 100000 in
set_option maxHeartbeats 4000000 in
theorem check_calls (mn mx rt : Int) (dn : Bool) (idle next : Int) (A : Option Addr) (c : Nat) (l : List Fl) (w : World) (hr : fls.C w A l) (hc : l.length ≤ c) :
    Calls Try.prog 16 #[.agg (#[.int .i64 mn, .int .i64 mx, .int .i64 rt, .bool dn, .int .i64 idle, .int .i64 next, .slice A l.length c])] w fun e w' => e = .returned (.int .i64 (chkL mn mx rt dn idle next l)) ∧ Below w.heap.size w w' := by
  have hu26 := Try.underlying26
  have hu23 := Try.underlying23
  have hu69 := Try.underlying69
  have HRd := Hd.mk hr
  have HCc := Hd.mk hc
  have hm := hr.1
  clear hr hc
  obtain ⟨r, hr⟩ : ∃ r, r = chkL mn mx rt dn idle next l := ⟨_, rfl⟩
  rw [← hr]
  have HR := Hd.mk hr
  clear hr
  obtain ⟨cf, hcf⟩ : ∃ cf, cfgF mn mx rt = cf := ⟨_, rfl⟩
  have HC := Hd.mk hcf
  obtain ⟨bi, hbi⟩ : ∃ b, betw idle 0 1073741824 = b := ⟨_, rfl⟩
  have HI := Hd.mk hbi
  obtain ⟨bn, hbn⟩ : ∃ b, betw next 0 1073741824 = b := ⟨_, rfl⟩
  have HN := Hd.mk hbn
  have HBW : Hd (Below w.heap.size w (w.alloc (.cells #[.int .i64 mn, .int .i64 mx, .int .i64 rt, .bool dn, .int .i64 idle, .int .i64 next, .slice A l.length c] 26))) := ⟨by go_grown⟩
  have HQ := Hd.mk (Blk.new w 26 #[.int .i64 mn, .int .i64 mx, .int .i64 rt, .bool dn, .int .i64 idle, .int .i64 next, .slice A l.length c])
  clear hcf hbi hbn
  by_cases h0 : cf = 0
  rotate_left
  · have h0b : (cf != 0) = true := by simp [h0]
    have H0 := Hd.mk h0; clear h0
    go_enter Try.func16, Try.ntmps16
    go_wp2_with (first | (go_at_call 33; refine (config_calls _ _ _ _).mono ?_; rintro e w1 ⟨rfl, hb⟩; rw [HC.out]; have HB1 := Hd.mk (HBW.out.trans (hb.mono HBW.out.size)); have hq := (HQ.out.below hb).f7; obtain ⟨q0, q1, q2, q3, q4, q5, q6, q7, q8, q9, q10, q11, q12, q13⟩ := hq; clear hb) | (go_at_call 35; refine (between_calls _ _ _ _).mono ?_; rintro e w' ⟨rfl, rfl⟩; (first | rw [HI.out] | rw [HN.out])))
    go_ret
    exact ⟨by rw [HR.out, chkL]; rw [if_pos (by rw [HC.out]; exact H0.out)] <;> rfl, HB1.out⟩

  subst h0
  cases bi
  · skip
    go_enter Try.func16, Try.ntmps16
    go_wp2_with (first | (go_at_call 33; refine (config_calls _ _ _ _).mono ?_; rintro e w1 ⟨rfl, hb⟩; rw [HC.out]; have HB1 := Hd.mk (HBW.out.trans (hb.mono HBW.out.size)); have hq := (HQ.out.below hb).f7; obtain ⟨q0, q1, q2, q3, q4, q5, q6, q7, q8, q9, q10, q11, q12, q13⟩ := hq; clear hb) | (go_at_call 35; refine (between_calls _ _ _ _).mono ?_; rintro e w' ⟨rfl, rfl⟩; (first | rw [HI.out] | rw [HN.out])))
    go_ret
    exact ⟨by rw [HR.out, chkL]; rw [if_neg (by rw [HC.out]; decide), if_pos HI.out] <;> rfl, HB1.out⟩

  cases bn
  · skip
    go_enter Try.func16, Try.ntmps16
    go_wp2_with (first | (go_at_call 33; refine (config_calls _ _ _ _).mono ?_; rintro e w1 ⟨rfl, hb⟩; rw [HC.out]; have HB1 := Hd.mk (HBW.out.trans (hb.mono HBW.out.size)); have hq := (HQ.out.below hb).f7; obtain ⟨q0, q1, q2, q3, q4, q5, q6, q7, q8, q9, q10, q11, q12, q13⟩ := hq; clear hb) | (go_at_call 35; refine (between_calls _ _ _ _).mono ?_; rintro e w' ⟨rfl, rfl⟩; (first | rw [HI.out] | rw [HN.out])))
    go_ret
    exact ⟨by rw [HR.out, chkL]; rw [if_neg (by rw [HC.out]; decide), if_neg (by rw [HI.out]; decide), if_pos HN.out] <;> rfl, HB1.out⟩

  by_cases h4 : 4096 < l.length
  · skip
    go_enter Try.func16, Try.ntmps16
    go_wp2_with (first | (go_at_call 33; refine (config_calls _ _ _ _).mono ?_; rintro e w1 ⟨rfl, hb⟩; rw [HC.out]; have HB1 := Hd.mk (HBW.out.trans (hb.mono HBW.out.size)); have hq := (HQ.out.below hb).f7; obtain ⟨q0, q1, q2, q3, q4, q5, q6, q7, q8, q9, q10, q11, q12, q13⟩ := hq; clear hb) | (go_at_call 35; refine (between_calls _ _ _ _).mono ?_; rintro e w' ⟨rfl, rfl⟩; (first | rw [HI.out] | rw [HN.out])))
    go_ret
    exact ⟨by rw [HR.out, chkL]; rw [if_neg (by rw [HC.out]; decide), if_neg (by rw [HI.out]; decide), if_neg (by rw [HN.out]; decide), if_pos h4] <;> rfl, HB1.out⟩

  by_cases h5 : dn = true ∧ 0 < l.length
  · obtain ⟨rfl, h6⟩ := h5; have h7 : (0 : Int) < l.length := by omega
    go_enter Try.func16, Try.ntmps16
    go_wp2_with (first | (go_at_call 33; refine (config_calls _ _ _ _).mono ?_; rintro e w1 ⟨rfl, hb⟩; rw [HC.out]; have HB1 := Hd.mk (HBW.out.trans (hb.mono HBW.out.size)); have hq := (HQ.out.below hb).f7; obtain ⟨q0, q1, q2, q3, q4, q5, q6, q7, q8, q9, q10, q11, q12, q13⟩ := hq; clear hb) | (go_at_call 35; refine (between_calls _ _ _ _).mono ?_; rintro e w' ⟨rfl, rfl⟩; (first | rw [HI.out] | rw [HN.out])))
    go_ret
    exact ⟨by rw [HR.out, chkL]; rw [if_neg (by rw [HC.out]; decide), if_neg (by rw [HI.out]; decide), if_neg (by rw [HN.out]; decide), if_neg h4, if_pos ⟨rfl, h6⟩] <;> rfl, HB1.out⟩

  have hnx : 0 ≤ next ∧ next ≤ 1073741824 := by have := HN.out; simp [betw] at this; omega
  have HR2 : Hd (r = firstErr (chkLAt l next) l.length) := ⟨by rw [HR.out, chkL, if_neg (by rw [HC.out]; decide), if_neg (by rw [HI.out]; decide), if_neg (by rw [HN.out]; decide), if_neg h4, if_neg h5]⟩
  have hdn : dn = false ∨ (dn = true ∧ ¬ (0 : Int) < l.length ∧ decide ((0 : Int) < l.length) = false) := by
    cases dn
    · exact .inl rfl
    · have h6 : ¬ 0 < l.length := fun h => h5 ⟨rfl, h⟩
      exact .inr ⟨rfl, by omega, decide_eq_false (by omega)⟩
  have hwn : IntKind.i64.wrap (next - 1) = next - 1 := IntWalk.i64_in _ (by omega)
  have hmm := @run_makeMap Try.prog
  clear h5 HR
  rcases hdn with rfl | ⟨rfl, hdn1, hdn2⟩
  · go_enter Try.func16, Try.ntmps16
    go_wp2_with (first | (go_at_call 33; refine (config_calls _ _ _ _).mono ?_; rintro e w1 ⟨rfl, hb⟩; rw [HC.out]; have HB1 := Hd.mk (HBW.out.trans (hb.mono HBW.out.size)); have HQ1 := Hd.mk (HQ.out.below hb); obtain ⟨q0, q1, q2, q3, q4, q5, q6, q7, q8, q9, q10, q11, q12, q13⟩ := HQ1.out.f7; have qlt := HQ1.out.lt; have qne : w1.heap.size ≠ w.heap.size := (by omega); clear hb) | (go_at_call 35; refine (between_calls _ _ _ _).mono ?_; rintro e w' ⟨rfl, rfl⟩; (first | rw [HI.out] | rw [HN.out])))
    go_loopw [39] (fun ui wr => ∃ k d, k ≤ l.length ∧ ui = .int .i64 (k : Nat) ∧ Hd (∀ j, j < k → chkLAt l next j = 0) ∧ Hd (Blk wr w.heap.size 26 #[.int .i64 mn, .int .i64 mx, .int .i64 rt, .bool d, .int .i64 idle, .int .i64 next, .slice A l.length c]) ∧ Hd (Met wr w1.heap.size (l.take k)) ∧ Hd (Below w.heap.size w wr)) (fun ui _ => l.length - (intOf ui).toNat)
    case atStart =>
      exact ⟨0, _, Nat.zero_le _, rfl, ⟨fun j hj => by omega⟩, ⟨HQ1.out.alloc _⟩, ⟨Met.made w1⟩, ⟨Below.alloc HB1.out (by omega) _⟩⟩
    case round =>
      clear HQ1 HB1 q0 q1 q2 q3 q4 q5 q6 q7 q8 q9 q10 q11 q12 q13
      obtain ⟨k, d, hk, rfl, HZ, HQ, HM, HB⟩ := hrel
      obtain ⟨q0, q1, q2, q3, q4, q5, q6, q7, q8, q9, q10, q11, q12, q13⟩ := HQ.out.f7
      have hqlt := HQ.out.lt
      by_cases hlt : k < l.length
      · obtain ⟨ad, A4, c4, ea, x0, x1, x2, hx5, hx6⟩ := fls_get (HRd.out.below HB.out) k hlt
        cases ea
        obtain ⟨x, hx⟩ : ∃ x, x = nth fl0 l k := ⟨_, rfl⟩
        rw [← hx] at x0 x1 x2 hx5 hx6
        have HX := Hd.mk hx
        clear hx hx5
        have hxm := hx6.1
        clear hx6
        rcases x with ⟨xt, xn, xb⟩
        dsimp only at x0 x1 x2 hxm
        obtain ⟨b1, hb1⟩ : ∃ b, betw xt 0 1073741824 = b := ⟨_, rfl⟩
        obtain ⟨b2, hb2⟩ : ∃ b, betw xn 0 (next - 1) = b := ⟨_, rfl⟩
        have H1 := Hd.mk hb1
        have H2 := Hd.mk hb2
        clear hb1 hb2
        have HF := Hd.mk ((Blk.new wr 69 #[.int .i64 xt, .int .i64 xn, .slice A4 xb.length c4]))
        have HQ' := Hd.mk (HQ.out.alloc (.cells #[.int .i64 xt, .int .i64 xn, .slice A4 xb.length c4] 69))
        have HM' := Hd.mk (HM.out.below (Below.alloc (Below.refl _ _) (Nat.le_refl _) (.cells #[.int .i64 xt, .int .i64 xn, .slice A4 xb.length c4] 69)))
        have HB' := Hd.mk (Below.alloc HB.out (by omega) (.cells #[.int .i64 xt, .int .i64 xn, .slice A4 xb.length c4] 69))
        have hwg : chkLAt l next k = if wrongL xt xn xb.length next ≠ 0 then wrongL xt xn xb.length next else if 0 < k ∧ 0 ≤ cmpE (nth fl0 l (k - 1)).t (nth fl0 l (k - 1)).n xt xn then 3 else if (l.take k).any (fun x => x.n == xn) then 8 else 0 := by rw [chkLAt, ← HX.out]
        have HWG := Hd.mk hwg
        clear hwg
        cases b1
        · have hw1 : wrongL xt xn xb.length next = 24 := by rw [wrongL, if_pos H1.out]
          have hw : chkLAt l next k = 24 := by rw [HWG.out, hw1]; rfl
          have HW := Hd.mk hw
          clear hw hw1
          go_wp2_with (go_at_call 35; refine (between_calls _ _ _ _).mono ?_; rintro e w' ⟨rfl, rfl⟩; (first | rw [H1.out] | rw [H2.out]))
          go_ret
          exact ⟨by rw [HR2.out, firstErr_at _ _ k hlt HZ.out (by rw [HW.out]; decide), HW.out]; rfl, HB'.out⟩
        cases b2
        · have hw1 : wrongL xt xn xb.length next = 2 := by rw [wrongL, if_neg (by rw [H1.out]; decide), if_pos H2.out]
          have hw : chkLAt l next k = 2 := by rw [HWG.out, hw1]; rfl
          have HW := Hd.mk hw
          clear hw hw1
          go_wp2_with (go_at_call 35; refine (between_calls _ _ _ _).mono ?_; rintro e w' ⟨rfl, rfl⟩; (first | rw [H1.out] | rw [H2.out]))
          go_ret
          exact ⟨by rw [HR2.out, firstErr_at _ _ k hlt HZ.out (by rw [HW.out]; decide), HW.out]; rfl, HB'.out⟩
        by_cases h3 : 65536 < xb.length
        · have hw1 : wrongL xt xn xb.length next = 5 := by rw [wrongL, if_neg (by rw [H1.out]; decide), if_neg (by rw [H2.out]; decide), if_pos h3]
          have hw : chkLAt l next k = 5 := by rw [HWG.out, hw1]; rfl
          have HW := Hd.mk hw
          have h3b : decide ((65536 : Int) < xb.length) = true := by simp; omega
          clear hw hw1
          go_wp2_with (go_at_call 35; refine (between_calls _ _ _ _).mono ?_; rintro e w' ⟨rfl, rfl⟩; (first | rw [H1.out] | rw [H2.out]))
          go_ret
          exact ⟨by rw [HR2.out, firstErr_at _ _ k hlt HZ.out (by rw [HW.out]; decide), HW.out]; rfl, HB'.out⟩
        have hw0 : wrongL xt xn xb.length next = 0 := by rw [wrongL, if_neg (by rw [H1.out]; decide), if_neg (by rw [H2.out]; decide), if_neg h3]
        have HW0 := Hd.mk hw0
        have hxn : 0 ≤ xn ∧ xn ≤ 1073741824 := by have := H2.out; simp [betw] at this; omega
        have hxw : (Lit.int .i64 xn).wf = true := WalkArith.wf_i64 (by omega)
        have HXW := Hd.mk hxw
        clear hw0 hxw
        have h3b : decide ((65536 : Int) < xb.length) = false := decide_eq_false (by omega)
        rcases Nat.eq_zero_or_pos k with hk0 | hk0
        · subst hk0
          simp only [Nat.zero_mul, Kd.add_zero] at x0 x1 x2
          have HCM : Hd (¬ (0 < 0 ∧ 0 ≤ cmpE (nth fl0 l (0 - 1)).t (nth fl0 l (0 - 1)).n xt xn)) := ⟨fun h => absurd h.1 (by omega)⟩
          go_wp2_with (go_at_call 35; refine (between_calls _ _ _ _).mono ?_; rintro e w' ⟨rfl, rfl⟩; (first | rw [H1.out] | rw [H2.out]))
          go_quiet (fail)
          obtain ⟨w5, hw5⟩ : ∃ w5, w5 = World.drewN (wr.alloc (.cells #[.int .i64 xt, .int .i64 xn, .slice A4 xb.length c4] 69)) nq := ⟨_, rfl⟩
          have HQ5 : Hd (Blk (World.drewN (wr.alloc (.cells #[.int .i64 xt, .int .i64 xn, .slice A4 xb.length c4] 69)) nq) w.heap.size 26 _) := Hd.mk (HQ'.out.drewN nq)
          have HF5 : Hd (Blk (World.drewN (wr.alloc (.cells #[.int .i64 xt, .int .i64 xn, .slice A4 xb.length c4] 69)) nq) wr.heap.size 69 _) := Hd.mk (HF.out.drewN nq)
          have HM5 : Hd (Met (World.drewN (wr.alloc (.cells #[.int .i64 xt, .int .i64 xn, .slice A4 xb.length c4] 69)) nq) w1.heap.size (l.take 0)) := Hd.mk (HM'.out.same rfl)
          have HB5 : Hd (Below w.heap.size w (World.drewN (wr.alloc (.cells #[.int .i64 xt, .int .i64 xn, .slice A4 xb.length c4] 69)) nq)) := Hd.mk (pw_below_drewN HB'.out nq)
          rw [← hw5] at HQ5 HF5 HM5 HB5 ⊢
          clear hw5 q0 q1 q2 q3 q4 q5 q6 q7 q8 q9 q10 q11 q12 q13 x0 x1 x2 HQ HM HB HQ' HM' HB' HF
          have hlk := HM5.out.look xn HXW.out
          rcases ha : (l.take 0).any (fun x => x.n == xn) with _ | _
          · rw [ha] at hlk
            obtain ⟨w6, hput, hM6, hg6⟩ := HM5.out.put ⟨xt, xn, xb⟩ HXW.out (by rw [List.length_take]; simp only [maxLen]; omega)
            dsimp only at hput
            have hz : chkLAt l next 0 = 0 := by rw [HWG.out, HW0.out, if_neg (by simp), if_neg HCM.out, if_neg (by simp [ha])]
            have HZk := Hd.mk hz
            have HM6 := Hd.mk hM6
            have HQ6 := Hd.mk (HQ5.out.grown hg6 (by intro h; injection h with h; omega))
            have HB6 := Hd.mk (HB5.out.grown hg6 HB5.out.size (fun j h => by injection h with h; omega))
            obtain ⟨q0, q1, q2, q3, q4, q5, q6, q7, q8, q9, q10, q11, q12, q13⟩ := HQ5.out.f7
            obtain ⟨f0, f1, f2, f3, f4, f5⟩ := HF5.out.f3
            clear ha hz hM6 hg6
            go_wp2
            go_roundw
            case rel => exact ⟨0 + 1, d, by omega, by go_num, ⟨fun j hj => by
              rcases Nat.lt_or_ge j 0 with h | h
              · exact HZ.out j h
              · obtain rfl : j = 0 := by omega
                exact HZk.out⟩, HQ6, ⟨by rw [take_nth fl0 l 0 hlt, ← HX.out]; exact HM6.out⟩, HB6⟩
            case measure => simp [intOf]; omega
          · rw [ha] at hlk
            have hz : chkLAt l next 0 = 8 := by rw [HWG.out, HW0.out, if_neg (by simp), if_neg HCM.out, if_pos ha]
            have HZk := Hd.mk hz
            obtain ⟨q0, q1, q2, q3, q4, q5, q6, q7, q8, q9, q10, q11, q12, q13⟩ := HQ5.out.f7
            obtain ⟨f0, f1, f2, f3, f4, f5⟩ := HF5.out.f3
            clear ha hz
            go_wp2
            go_ret
            exact ⟨by rw [HR2.out, firstErr_at _ _ 0 hlt HZ.out (by rw [HZk.out]; decide), HZk.out]; rfl, HB5.out⟩
        · obtain ⟨m, rfl⟩ : ∃ m, k = m + 1 := ⟨k - 1, by omega⟩
          obtain ⟨ad', A5, c5, ea, y0, y1, y2, -, -⟩ := fls_get (HRd.out.below HB.out) m (by omega)
          cases ea
          have hwr : IntKind.i64.wrap ((m : Int) + 1 - 1) = (m : Int) := by rw [show (m : Int) + 1 - 1 = m by omega]; exact IntWalk.i64_in _ (by omega)
          have hwr2 : IntKind.i64.wrap (m : Int) = (m : Int) := IntWalk.i64_in _ (by omega)
          have hm0 : (0 : Int) ≤ m := by omega
          have hm1 : (m : Int) < l.length := by omega
          obtain ⟨y, hy⟩ : ∃ y, y = nth fl0 l m := ⟨_, rfl⟩
          have HY := Hd.mk hy
          rw [← hy] at y0 y1 y2
          clear hy
          rcases y with ⟨yt, yn, yb⟩
          dsimp only at y0 y1 y2
          have Y0 := keepA y0 (.cells #[.int .i64 xt, .int .i64 xn, .slice A4 xb.length c4] 69)
          have Y1 := keepA y1 (.cells #[.int .i64 xt, .int .i64 xn, .slice A4 xb.length c4] 69)
          have Y2 := keepA y2 (.cells #[.int .i64 xt, .int .i64 xn, .slice A4 xb.length c4] 69)
          have Q6 := keepA q6 (.cells #[.int .i64 xt, .int .i64 xn, .slice A4 xb.length c4] 69)
          obtain ⟨F0, F1, F2, -, -, -⟩ := HF.out.f3
          go_wp2_with (go_at_call 35; refine (between_calls _ _ _ _).mono ?_; rintro e w' ⟨rfl, rfl⟩; (first | rw [H1.out] | rw [H2.out]))
          go_region_held3 (fun W => W.cell? ⟨w.heap.size, 6, none⟩ = some (.slice (some ad) l.length c) ∧ W.cell? (ad.add (m * 3)) = some (.int .i64 yt) ∧ W.cell? ⟨(ad.add (m * 3)).block, (ad.add (m * 3)).off + 1, none⟩ = some (.int .i64 yn) ∧ W.cell? ⟨(ad.add (m * 3)).block, (ad.add (m * 3)).off + 2, none⟩ = some (.slice A5 yb.length c5) ∧ W.cell? ⟨wr.heap.size, 0, none⟩ = some (.int .i64 xt) ∧ W.cell? ⟨wr.heap.size, 1, none⟩ = some (.int .i64 xn) ∧ W.cell? ⟨wr.heap.size, 2, none⟩ = some (.slice A4 xb.length c4))
            (first | with_reducible exact ⟨Q6, Y0, Y1, Y2, F0, F1, F2⟩ | with_reducible exact ⟨keepD Q6, keepD Y0, keepD Y1, keepD Y2, keepD F0, keepD F1, keepD F2⟩ | exact ⟨keep Hb2.out (by exact Q6), keep Hb2.out (by exact Y0), keep Hb2.out (by exact Y1), keep Hb2.out (by exact Y2), keep Hb2.out (by exact F0), keep Hb2.out (by exact F1), keep Hb2.out (by exact F2)⟩)
            (first | (go_at_call 36; refine (order_calls _ _ _ _ _ _ _).mono ?_; rintro e w5 ⟨rfl, hb⟩; have Hb2 := Hd.mk hb; clear hb))
          have HQ5 := Hd.mk (HQ'.out.drew.below Hb2.out)
          have HF5 := Hd.mk (HF.out.drew.below Hb2.out)
          have HM5 := Hd.mk ((HM'.out.same (w' := (wr.alloc (.cells #[.int .i64 xt, .int .i64 xn, .slice A4 xb.length c4] 69)).drew) rfl).below Hb2.out)
          have HB5 : Hd (Below w.heap.size w w5) := Hd.mk (HB'.out.drew.trans (Hb2.out.mono (by have := HB'.out.size; exact this)))
          clear Hb2 q0 q1 q2 q3 q4 q5 q6 q7 q8 q9 q10 q11 q12 q13 x0 x1 x2 y0 y1 y2 Y0 Y1 Y2 Q6 F0 F1 F2 HQ HM HB HQ' HM' HB' HF hwr hwr2
          have hk1 : ((m + 1 : Nat) : Int) = (m : Int) + 1 := by omega
          by_cases hcm : 0 ≤ cmpE yt yn xt xn
          · have hz : chkLAt l next (m + 1) = 3 := by rw [HWG.out, HW0.out, if_neg (by simp), if_pos ⟨by omega, by rw [Nat.add_sub_cancel, ← HY.out]; exact hcm⟩]
            have HZk := Hd.mk hz
            clear hz
            go_wp2
            go_ret
            exact ⟨by rw [HR2.out, firstErr_at _ _ (m + 1) hlt HZ.out (by rw [HZk.out]; decide), HZk.out]; rfl, HB5.out⟩
          · have HCM : Hd (¬ (0 < m + 1 ∧ 0 ≤ cmpE (nth fl0 l (m + 1 - 1)).t (nth fl0 l (m + 1 - 1)).n xt xn)) := ⟨fun h => by have h2 := h.2; rw [Nat.add_sub_cancel, ← HY.out] at h2; exact hcm h2⟩
            have hlk := HM5.out.look xn HXW.out
            rcases ha : (l.take (m + 1)).any (fun x => x.n == xn) with _ | _
            · rw [ha] at hlk
              obtain ⟨w6, hput, hM6, hg6⟩ := HM5.out.put ⟨xt, xn, xb⟩ HXW.out (by rw [List.length_take]; simp only [maxLen]; omega)
              dsimp only at hput
              have hz : chkLAt l next (m + 1) = 0 := by rw [HWG.out, HW0.out, if_neg (by simp), if_neg HCM.out, if_neg (by simp [ha])]
              have HZk := Hd.mk hz
              have HM6 := Hd.mk hM6
              have HQ6 := Hd.mk (HQ5.out.grown hg6 (by intro h; injection h with h; omega))
              have HB6 := Hd.mk (HB5.out.grown hg6 HB5.out.size (fun j h => by injection h with h; omega))
              obtain ⟨q0, q1, q2, q3, q4, q5, q6, q7, q8, q9, q10, q11, q12, q13⟩ := HQ5.out.f7
              obtain ⟨f0, f1, f2, f3, f4, f5⟩ := HF5.out.f3
              clear ha hz hM6 hg6
              go_wp2
              go_roundw
              case rel => exact ⟨m + 1 + 1, d, by omega, by go_num, ⟨fun j hj => by
                rcases Nat.lt_or_ge j (m + 1) with h | h
                · exact HZ.out j h
                · obtain rfl : j = m + 1 := by omega
                  exact HZk.out⟩, HQ6, ⟨by rw [take_nth fl0 l (m + 1) hlt, ← HX.out]; exact HM6.out⟩, HB6⟩
              case measure => simp [intOf]; omega
            · rw [ha] at hlk
              have hz : chkLAt l next (m + 1) = 8 := by rw [HWG.out, HW0.out, if_neg (by simp), if_neg HCM.out, if_pos ha]
              have HZk := Hd.mk hz
              obtain ⟨q0, q1, q2, q3, q4, q5, q6, q7, q8, q9, q10, q11, q12, q13⟩ := HQ5.out.f7
              obtain ⟨f0, f1, f2, f3, f4, f5⟩ := HF5.out.f3
              clear ha hz
              go_wp2
              go_ret
              exact ⟨by rw [HR2.out, firstErr_at _ _ (m + 1) hlt HZ.out (by rw [HZk.out]; decide), HZk.out]; rfl, HB5.out⟩
      · go_wp2
        go_ret
        exact ⟨by rw [HR2.out, firstErr_zero _ _ (fun j hj => HZ.out j (by omega))]; rfl, HB.out⟩
  · go_enter Try.func16, Try.ntmps16
    go_wp2_with (first | (go_at_call 33; refine (config_calls _ _ _ _).mono ?_; rintro e w1 ⟨rfl, hb⟩; rw [HC.out]; have HB1 := Hd.mk (HBW.out.trans (hb.mono HBW.out.size)); have HQ1 := Hd.mk (HQ.out.below hb); obtain ⟨q0, q1, q2, q3, q4, q5, q6, q7, q8, q9, q10, q11, q12, q13⟩ := HQ1.out.f7; have qlt := HQ1.out.lt; have qne : w1.heap.size ≠ w.heap.size := (by omega); clear hb) | (go_at_call 35; refine (between_calls _ _ _ _).mono ?_; rintro e w' ⟨rfl, rfl⟩; (first | rw [HI.out] | rw [HN.out])))
    go_loopw [39] (fun ui wr => ∃ k d, k ≤ l.length ∧ ui = .int .i64 (k : Nat) ∧ Hd (∀ j, j < k → chkLAt l next j = 0) ∧ Hd (Blk wr w.heap.size 26 #[.int .i64 mn, .int .i64 mx, .int .i64 rt, .bool d, .int .i64 idle, .int .i64 next, .slice A l.length c]) ∧ Hd (Met wr w1.heap.size (l.take k)) ∧ Hd (Below w.heap.size w wr)) (fun ui _ => l.length - (intOf ui).toNat)
    case atStart =>
      exact ⟨0, _, Nat.zero_le _, rfl, ⟨fun j hj => by omega⟩, ⟨HQ1.out.alloc _⟩, ⟨Met.made w1⟩, ⟨Below.alloc HB1.out (by omega) _⟩⟩
    case round =>
      clear HQ1 HB1 q0 q1 q2 q3 q4 q5 q6 q7 q8 q9 q10 q11 q12 q13
      obtain ⟨k, d, hk, rfl, HZ, HQ, HM, HB⟩ := hrel
      obtain ⟨q0, q1, q2, q3, q4, q5, q6, q7, q8, q9, q10, q11, q12, q13⟩ := HQ.out.f7
      have hqlt := HQ.out.lt
      by_cases hlt : k < l.length
      · exact absurd hlt (by omega)
      · go_wp2
        go_ret
        exact ⟨by rw [HR2.out, firstErr_zero _ _ (fun j hj => HZ.out j (by omega))]; rfl, HB.out⟩
end Go.Proofs.Ytkgkiencikmhfaa.B
