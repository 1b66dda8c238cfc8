/- What this text holds: the reference's SameEvents and Same answer true of equal lists and queues. -/
import Derived.Test.YtnmcbpjhlkpglaaI1
set_option linter.unusedVariables false
set_option linter.unusedSimpArgs false
namespace Go.Proofs.Ytnmcbpjhlkpglaa.B
open Go.RowKit

set_option maxHeartbeats 1000000 in
theorem sameEvents_calls (l : List Ev) (A A' : Option Addr) (c c' : Nat) (w : World) (h : evs.C w A l) (h' : evs.C w A' l) :
    Calls Try.prog 28 #[.slice A l.length c, .slice A' l.length c'] w fun e w' => e = .returned (.bool true) ∧ Below w.heap.size w w' := by
  have hu32 := Try.underlying32
  have HR := Hd.mk h
  have HR' := Hd.mk h'
  have hm := h.1
  clear h h'
  go_enter Try.func28, Try.ntmps28
  go_wp2
  go_loopw [5] (fun i wr => ∃ k : Nat, k ≤ l.length ∧ i = .int .i64 k ∧ Hd (Below w.heap.size w wr)) (fun i _ => l.length - (intOf i).toNat)
  case atStart => exact ⟨0, Nat.zero_le _, rfl, ⟨Below.refl _ _⟩⟩
  case round =>
    obtain ⟨k, hk, rfl, HB⟩ := hrel
    by_cases hlt : k < l.length
    · obtain ⟨ad, A4, c4, e0, hx0, hx1, hx2, hx3, hx4, hl4, hi4⟩ := evs_get (HR.out.below HB.out) k hlt
      subst e0
      obtain ⟨ad', A5, c5, e0, hy0, hy1, hy2, hy3, hy4, hl5, hi5⟩ := evs_get (HR'.out.below HB.out) k hlt
      subst e0
      have HI4 := Hd.mk hi4
      have HI5 := Hd.mk hi5
      clear hl4 hi4 hl5 hi5
      go_wp2_with fail
      go_region_held3 (fun W => W.cell? (ad.add (k * 5)) = some (.int .i64 (nth ev0 l k).t) ∧ W.cell? ⟨(ad.add (k * 5)).block, (ad.add (k * 5)).off + 1, none⟩ = some (.int .i64 (nth ev0 l k).n) ∧ W.cell? ⟨(ad.add (k * 5)).block, (ad.add (k * 5)).off + 2, none⟩ = some (.int .i64 (nth ev0 l k).kd) ∧ W.cell? ⟨(ad.add (k * 5)).block, (ad.add (k * 5)).off + 3, none⟩ = some (.int .i64 (nth ev0 l k).dst) ∧ W.cell? ⟨(ad.add (k * 5)).block, (ad.add (k * 5)).off + 4, none⟩ = some (.slice A4 (nth ev0 l k).body.length c4) ∧ W.cell? (ad'.add (k * 5)) = some (.int .i64 (nth ev0 l k).t) ∧ W.cell? ⟨(ad'.add (k * 5)).block, (ad'.add (k * 5)).off + 1, none⟩ = some (.int .i64 (nth ev0 l k).n) ∧ W.cell? ⟨(ad'.add (k * 5)).block, (ad'.add (k * 5)).off + 2, none⟩ = some (.int .i64 (nth ev0 l k).kd) ∧ W.cell? ⟨(ad'.add (k * 5)).block, (ad'.add (k * 5)).off + 3, none⟩ = some (.int .i64 (nth ev0 l k).dst) ∧ W.cell? ⟨(ad'.add (k * 5)).block, (ad'.add (k * 5)).off + 4, none⟩ = some (.slice A5 (nth ev0 l k).body.length c5))
        (first | with_reducible exact ⟨hx0, hx1, hx2, hx3, hx4, hy0, hy1, hy2, hy3, hy4⟩ | with_reducible exact ⟨keepD hx0, keepD hx1, keepD hx2, keepD hx3, keepD hx4, keepD hy0, keepD hy1, keepD hy2, keepD hy3, keepD hy4⟩ | exact ⟨keep Hb2.out (by exact hx0), keep Hb2.out (by exact hx1), keep Hb2.out (by exact hx2), keep Hb2.out (by exact hx3), keep Hb2.out (by exact hx4), keep Hb2.out (by exact hy0), keep Hb2.out (by exact hy1), keep Hb2.out (by exact hy2), keep Hb2.out (by exact hy3), keep Hb2.out (by exact hy4)⟩)
        (first | (go_at_call 21; refine (sameEvent_calls (nth ev0 l k) A4 A5 c4 c5 _ (by exact HI4.out) (by exact HI5.out)).mono ?_; rintro e w2 ⟨rfl, hb⟩; have Hb2 := Hd.mk hb; clear hb))
      have HB2 : Hd (Below w.heap.size w w2) := ⟨HB.out.trans ((Below.drew (Below.refl _ _)).trans (Hb2.out.mono (by have := HB.out.size; exact this)))⟩
      clear Hb2 hx0 hx1 hx2 hx3 hx4 hy0 hy1 hy2 hy3 hy4
      go_wp2
      go_roundw
      case rel => exact ⟨k + 1, by omega, by go_num, HB2⟩
      case measure => simp [intOf]; omega
    · go_wp2
      go_ret
      exact ⟨rfl, HB.out⟩

set_option maxHeartbeats 1000000 in
theorem same_calls (l : List Ev) (n : Int) (A A' : Option Addr) (c c' : Nat) (w : World) (h : evs.C w A l) (h' : evs.C w A' l) :
    Calls Try.prog 16 #[.agg #[.slice A l.length c, .int .i64 n], .agg #[.slice A' l.length c', .int .i64 n]] w fun e w' => e = .returned (.bool true) ∧ Below w.heap.size w w' := by
  have hu24 := Try.underlying24
  have HR := Hd.mk h
  have HR' := Hd.mk h'
  clear h h'
  go_enter Try.func16, Try.ntmps16
  go_wp2_with fail
  refine (sameEvents_calls l A A' c c' _ (HR.out.below (by go_grown)) (HR'.out.below (by go_grown))).mono ?_
  rintro e w1 ⟨rfl, hb⟩
  have Hb : Hd (Below w.heap.size w w1) := ⟨Below.trans (by go_grown) (hb.mono (by simp; omega))⟩
  clear hb
  go_wp2
  go_ret
  exact ⟨rfl, Hb.out⟩
end Go.Proofs.Ytnmcbpjhlkpglaa.B
