/- What this text holds: the walk of the law EventqueueNumbers. -/
import Derived.Test.YtnmcbpjhlkpglaaH6
import Derived.Test.YtnmcbpjhlkpglaaP1
set_option linter.unusedVariables false
set_option linter.unusedSimpArgs false
namespace Go.Proofs.Ytnmcbpjhlkpglaa.B
open Go.RowKit

theorem numbers_plain (l : List Int) (now : Int) : ∃ (ts : List Int) (L D T R : List Ev), ts = timesF l ∧ ts.length ≤ 30 ∧ addedF ts = ((L, (ts.length : Int)), true) ∧ dueF L ts.length now = ((D, (ts.length : Int)), T) ∧
    addF D ts.length 7 1 2 [3] = ((R, (ts.length : Int) + 1), (ts.length : Int), 0) ∧ checkF R ((ts.length : Int) + 1) = 0 := by
  have hl : (timesF l).length ≤ 30 := by rw [timesF_length]; omega
  obtain ⟨L, h1, hG, hP⟩ := addedF_good (timesF l) (by omega) (fun t ht => by have := timesF_mem l t ht; omega)
  have hD : Good (L.drop (placeI L now)) (timesF l).length := hG.sub (List.drop_sublist _ _)
  have hLl : L.length = (timesF l).length := by rw [hP.length_eq]; simp [evOf]
  have hDl : (L.drop (placeI L now)).length ≤ 30 := by rw [List.length_drop]; omega
  have hw : wrongF 7 (timesF l).length 1 2 ([3] : List Int).length (((timesF l).length : Int) + 1) = 0 := by
    rw [wrongF, if_neg (by omega), if_neg (by omega), if_neg (by simp)]
  exact ⟨timesF l, L, _, _, _, rfl, hl, h1, by rw [dueF, if_neg (by rw [check_of_good hG]; decide)], addF_good hD (by omega) (by omega) hw, check_of_good (Good.add hD (by omega) (by omega) hw)⟩

set_option maxRecDepth 100000 in
set_option maxHeartbeats 4000000 in
theorem lawNumbers_calls (A : Option Addr) (c : Nat) (l : List Int) (now : Int) (w : World) (hr : (ints .u16).C w A l) (hc : l.length ≤ c) (hw : ∀ x ∈ l, 0 ≤ x ∧ x ≤ 65535) (hn0 : 0 ≤ now) (hn1 : now ≤ 255) :
    Calls Try.prog 6 #[.slice A l.length c, .int .u8 now] w fun e w' => e = .returned (.bool true) ∧ Below w.heap.size w w' := by
  have hu24 := Try.underlying24
  obtain ⟨ts, L, D, T, R, h1, h2, h3, h4, h5, h6⟩ := numbers_plain l now
  have HR := Hd.mk hr; have HW := Hd.mk hw; have H1 := Hd.mk h1; have H3 := Hd.mk h3; have H4 := Hd.mk h4; have H5 := Hd.mk h5; have H6 := Hd.mk h6
  have hwn : IntKind.i64.wrap now = now := IntWalk.i64_in _ (by omega)
  have hwt : IntKind.i64.wrap ((ts.length : Int) + 1) = (ts.length : Int) + 1 := IntWalk.i64_in _ (by omega)
  clear hr hw h1 h3 h4 h5 h6
  go_enter Try.func6, Try.ntmps6
  go_wp2_with fail
  refine (times_calls A c l _ HR.out hc HW.out).mono ?_
  rw [← H1.out]
  rintro e w1 ⟨v, rfl, hown, hb⟩
  obtain ⟨A1, c1, rfl, hc1, -⟩ := hown.shape
  have HC1 := Hd.mk hown.C
  have HBW := Hd.mk hb
  have hsz1 := hb.size
  clear hb hown
  go_wp2_with fail
  refine (added_calls A1 c1 ts _ HC1.out hc1).mono ?_
  rw [H3.out]
  rintro e w2 ⟨v, rfl, hv, hb⟩
  obtain ⟨A2, c2, rfl, hc2, -⟩ := hv.reads
  have hsz2 := hb.size
  have HBW2 := Hd.mk (HBW.out.trans (hb.mono hsz1))
  have HV2 := Hd.mk hv
  clear hv hb HBW HC1 H3
  go_wp2_with fail
  refine (due_calls A2 c2 L ts.length now _ _ (HV2.out.alloc _)).mono ?_
  rw [H4.out]
  rintro e w3 ⟨v, u, rfl, hv, -, hb⟩
  obtain ⟨A3, c3, rfl, hc3, -⟩ := hv.reads
  have hsz3 := hb.size
  rw [World.size_alloc] at hsz3
  have HBW3 := Hd.mk ((Below.alloc HBW2.out (by omega) _).trans (hb.mono (by rw [World.size_alloc]; omega)))
  have HV3 := Hd.mk hv.C
  clear hv hb HBW2 HV2 H4
  go_wp2_with fail
  have b3 := Blk.new (w3.alloc (.cells #[.slice A3 D.length c3, .int .i64 ts.length] 24)) 5 #[.int .u8 3]
  rw [World.size_alloc] at b3
  have hC3 := (HV3.out.below (Below.alloc (Below.refl _ _) (Nat.le_refl _) (.cells #[.slice A3 D.length c3, .int .i64 ts.length] 24))).below (Below.alloc (Below.refl _ _) (Nat.le_refl _) (.cells #[.int .u8 3] 5))
  have hbb : Below w.heap.size w ((w3.alloc (.cells #[.slice A3 D.length c3, .int .i64 ts.length] 24)).alloc (.cells #[.int .u8 3] 5)) := Below.alloc (Below.alloc HBW3.out (by omega) _) (by rw [World.size_alloc]; omega) _
  refine (add_calls A3 c3 D ts.length 7 1 2 _ 1 [3] _ hC3 hc3 (ints_blk b3 _ (by decide) (fun i hi => by
    obtain rfl : i = 0 := (by simp at hi; omega)
    rfl)) (Nat.le_refl _) (by decide)).mono ?_
  rw [H5.out]
  rintro e w4 ⟨v, rfl, hv, hb⟩
  obtain ⟨A4, c4, rfl, hc4, hC4⟩ := hv.reads
  have hsz4 := hb.size
  have hs4 : w.heap.size ≤ w4.heap.size := by have := hbb.size; omega
  have HBW4 := Hd.mk (hbb.trans (hb.mono hbb.size))
  have HC4 := Hd.mk hC4
  clear b3 hC3 hbb hv hb hC4 HBW3 HV3 H5
  go_wp2_with fail
  refine (awake_calls _).mono ?_
  rintro e w5 ⟨rfl, hb⟩
  have bx := (Blk.new w4 24 #[.slice A4 R.length c4, .int .i64 ((ts.length : Int) + 1)]).below hb
  have hbw := (Below.alloc HBW4.out hs4 (.cells #[.slice A4 R.length c4, .int .i64 ((ts.length : Int) + 1)] 24)).trans (hb.mono (by rw [World.size_alloc]; omega))
  have HC5 := Hd.mk ((HC4.out.below (Below.alloc (Below.refl _ _) (Nat.le_refl _) (.cells #[.slice A4 R.length c4, .int .i64 ((ts.length : Int) + 1)] 24))).below hb)
  have HBX := Hd.mk bx
  have HBW5 := Hd.mk hbw
  obtain ⟨x0, x1, x2, x3⟩ := bx.f2
  clear bx hbw hb HC4 HBW4
  go_wp2_with fail
  refine (times_calls A c l _ (HR.out.below HBW5.out) hc HW.out).mono ?_
  rw [← H1.out]
  rintro e w6 ⟨v, rfl, hown, hb⟩
  obtain ⟨A6, c6, rfl, hc6, -⟩ := hown.shape
  have bx := HBX.out.below hb
  have HC6 := Hd.mk (HC5.out.below hb)
  have HBW6 := Hd.mk (HBW5.out.trans (hb.mono HBW5.out.size))
  clear x0 x1 x2 x3
  obtain ⟨x0, x1, x2, x3⟩ := bx.f2
  clear bx hown hb HC5 HBX HBW5
  go_wp2_with fail
  refine (check_calls A4 c4 R ((ts.length : Int) + 1) _ HC6.out hc4).mono ?_
  rw [H6.out]
  rintro e w7 ⟨rfl, hb⟩
  have HBW7 := Hd.mk (HBW6.out.trans (hb.mono HBW6.out.size))
  clear hb x0 x1 x2 x3
  go_wp2
  go_ret
  first | exact ⟨rfl, HBW7.out⟩ | exact ⟨by simp, HBW7.out⟩
end Go.Proofs.Ytnmcbpjhlkpglaa.B
