/- What this text holds: the reference's Same answers true of equal links. -/
import Derived.Test.YtkgkiencikmhfaaG5
set_option linter.unusedVariables false
set_option linter.unusedSimpArgs false
namespace Go.Proofs.Ytkgkiencikmhfaa.B
open Go.RowKit

set_option maxRecDepth 100000 in
set_option maxHeartbeats 2000000 in
theorem same_calls (mn mx rt : Int) (dn : Bool) (idle next : Int) (l : List Fl) (A A' : Option Addr) (c c' : Nat) (w : World) (h : fls.C w A l) (h' : fls.C w A' l) :
    Calls Try.prog 15 #[.agg #[.int .i64 mn, .int .i64 mx, .int .i64 rt, .bool dn, .int .i64 idle, .int .i64 next, .slice A l.length c], .agg #[.int .i64 mn, .int .i64 mx, .int .i64 rt, .bool dn, .int .i64 idle, .int .i64 next, .slice A' l.length c']] w fun e w' => e = .returned (.bool true) ∧ Below w.heap.size w w' := by
  have hu26 := Try.underlying26
  have hu23 := Try.underlying23
  have hu69 := Try.underlying69
  have HR := Hd.mk h
  have HR' := Hd.mk h'
  have hm := h.1
  have hdd : (dn != dn) = false := by cases dn <;> rfl
  clear h h'
  go_enter Try.func15, Try.ntmps15
  go_wp2
  go_loopw [5] (fun i wr => ∃ k, k ≤ l.length ∧ i = .int .i64 (k : Nat) ∧ Hd (Blk wr w.heap.size 26 #[.int .i64 mn, .int .i64 mx, .int .i64 rt, .bool dn, .int .i64 idle, .int .i64 next, .slice A l.length c]) ∧ Hd (Blk wr (w.heap.size + 1) 26 #[.int .i64 mn, .int .i64 mx, .int .i64 rt, .bool dn, .int .i64 idle, .int .i64 next, .slice A' l.length c']) ∧ Hd (Below w.heap.size w wr)) (fun i _ => l.length - (intOf i).toNat)
  case atStart =>
    have b0 := (Blk.new w 26 #[.int .i64 mn, .int .i64 mx, .int .i64 rt, .bool dn, .int .i64 idle, .int .i64 next, .slice A l.length c]).alloc (.cells #[.int .i64 mn, .int .i64 mx, .int .i64 rt, .bool dn, .int .i64 idle, .int .i64 next, .slice A' l.length c'] 26)
    have b1 := Blk.new (w.alloc (.cells #[.int .i64 mn, .int .i64 mx, .int .i64 rt, .bool dn, .int .i64 idle, .int .i64 next, .slice A l.length c] 26)) 26 #[.int .i64 mn, .int .i64 mx, .int .i64 rt, .bool dn, .int .i64 idle, .int .i64 next, .slice A' l.length c']
    rw [World.size_alloc] at b1
    exact ⟨0, Nat.zero_le _, rfl, ⟨b0⟩, ⟨b1⟩, ⟨by go_grown⟩⟩
  case round =>
    obtain ⟨k, hk, rfl, HQ, HP, HB⟩ := hrel
    have hplt := HP.out.lt
    obtain ⟨q0, q1, q2, q3, q4, q5, q6, -, -, -, -, -, -, -⟩ := HQ.out.f7
    obtain ⟨p0, p1, p2, p3, p4, p5, p6, -, -, -, -, -, -, -⟩ := HP.out.f7
    by_cases hlt : k < l.length
    · obtain ⟨ad, A4, c4, ea, x0, x1, x2, hx5, hx6⟩ := fls_get (HR.out.below HB.out) k hlt
      cases ea
      obtain ⟨ad', A5, c5, ea, y0, y1, y2, hy5, hy6⟩ := fls_get (HR'.out.below HB.out) k hlt
      cases ea
      obtain ⟨x, hx⟩ : ∃ x, x = nth fl0 l k := ⟨_, rfl⟩
      rw [← hx] at x0 x1 x2 hx6 y0 y1 y2 hy6
      clear hx hx5 hy5
      rcases x with ⟨xt, xn, xb⟩
      dsimp only at x0 x1 x2 hx6 y0 y1 y2 hy6
      have hkl : (k : Int) < l.length := by omega
      have hbW1 : Below wr.heap.size wr (((wr.alloc (.cells #[.int .i64 xt, .int .i64 xn, .slice A4 xb.length c4] 69)).alloc (.cells #[.int .i64 xt, .int .i64 xn, .slice A5 xb.length c5] 69)).drew) := Below.drew (by go_grown)
      have hbW2 : Below wr.heap.size wr (((wr.alloc (.cells #[.int .i64 xt, .int .i64 xn, .slice A5 xb.length c5] 69)).alloc (.cells #[.int .i64 xt, .int .i64 xn, .slice A4 xb.length c4] 69)).drew) := Below.drew (by go_grown)
      have k1 := run_str (P := Try.prog) 37 9 5 Try.underlying37 Try.underlying5 Try.underlying9 (((wr.alloc (.cells #[.int .i64 xt, .int .i64 xn, .slice A4 xb.length c4] 69)).alloc (.cells #[.int .i64 xt, .int .i64 xn, .slice A5 xb.length c5] 69)).drew) A4 c4 xb (hx6.below hbW1)
      have k2 := run_str (P := Try.prog) 37 9 5 Try.underlying37 Try.underlying5 Try.underlying9 (((wr.alloc (.cells #[.int .i64 xt, .int .i64 xn, .slice A4 xb.length c4] 69)).alloc (.cells #[.int .i64 xt, .int .i64 xn, .slice A5 xb.length c5] 69)).drew) A5 c5 xb (hy6.below hbW1)
      have k3 := run_str (P := Try.prog) 37 9 5 Try.underlying37 Try.underlying5 Try.underlying9 (((wr.alloc (.cells #[.int .i64 xt, .int .i64 xn, .slice A5 xb.length c5] 69)).alloc (.cells #[.int .i64 xt, .int .i64 xn, .slice A4 xb.length c4] 69)).drew) A4 c4 xb (hx6.below hbW2)
      have k4 := run_str (P := Try.prog) 37 9 5 Try.underlying37 Try.underlying5 Try.underlying9 (((wr.alloc (.cells #[.int .i64 xt, .int .i64 xn, .slice A5 xb.length c5] 69)).alloc (.cells #[.int .i64 xt, .int .i64 xn, .slice A4 xb.length c4] 69)).drew) A5 c5 xb (hy6.below hbW2)
      have HBW1 := Hd.mk (HB.out.trans (hbW1.mono HB.out.size)); have HBW2 := Hd.mk (HB.out.trans (hbW2.mono HB.out.size))
      have HQ1 := Hd.mk (HQ.out.below hbW1); have HQ2 := Hd.mk (HQ.out.below hbW2)
      have HP1 := Hd.mk (HP.out.below hbW1); have HP2 := Hd.mk (HP.out.below hbW2)
      clear hbW1 hbW2
      clear hx6 hy6
      go_wp2_with fail
      go_region_held3 (fun W => W.cell? ⟨w.heap.size, 6, none⟩ = some (.slice (some ad) l.length c) ∧ W.cell? ⟨w.heap.size + 1, 6, none⟩ = some (.slice (some ad') l.length c') ∧ W.cell? (ad.add (k * 3)) = some (.int .i64 xt) ∧ W.cell? ⟨(ad.add (k * 3)).block, (ad.add (k * 3)).off + 1, none⟩ = some (.int .i64 xn) ∧ W.cell? ⟨(ad.add (k * 3)).block, (ad.add (k * 3)).off + 2, none⟩ = some (.slice A4 xb.length c4) ∧ W.cell? (ad'.add (k * 3)) = some (.int .i64 xt) ∧ W.cell? ⟨(ad'.add (k * 3)).block, (ad'.add (k * 3)).off + 1, none⟩ = some (.int .i64 xn) ∧ W.cell? ⟨(ad'.add (k * 3)).block, (ad'.add (k * 3)).off + 2, none⟩ = some (.slice A5 xb.length c5))
        (first | with_reducible exact ⟨q6, p6, x0, x1, x2, y0, y1, y2⟩ | (refine ⟨?_, ?_, ?_, ?_, ?_, ?_, ?_, ?_⟩ <;> (repeat (first | with_reducible assumption | with_reducible refine keepD ?_ | with_reducible refine keepA ?_ _ | with_reducible refine keepS ?_ (by dsimp only; omega))) <;> done))
        (first | fail)
      all_goals
        go_wp2
        go_roundw
        case rel => exact ⟨k + 1, by omega, by go_num, by first | exact HQ1 | exact HQ2, by first | exact HP1 | exact HP2, by first | exact HBW1 | exact HBW2⟩
        case measure => simp [intOf]; omega
    · go_wp2
      go_ret
      exact ⟨rfl, HB.out⟩
end Go.Proofs.Ytkgkiencikmhfaa.B
