/- What this text holds: the contract of the reference's Due, as the queue's own. -/
import Derived.Test.YtnmcbpjhlkpglaaR7
set_option linter.unusedVariables false
set_option linter.unusedSimpArgs false
namespace Go.Proofs.Ytnmcbpjhlkpglaa.B
open Go.RowKit

set_option maxHeartbeats 1000000 in
theorem refDue_bad (A : Option Addr) (c : Nat) (l : List Ev) (next t : Int) (w : World) (ok : Nat → Prop) (hv0 : evs.V w ok (.slice A l.length c) l) (h : checkF l next ≠ 0) :
    Calls Try.prog 27 #[.agg #[.slice A l.length c, .int .i64 next], .int .i64 t] w (DuePost w ok ((l, next), [])) := by
  have hu24 := Try.underlying24
  have hr := hv0.C
  have hc : l.length ≤ c := by obtain ⟨A', c', he, hl, -⟩ := hv0; injection he with _ _ h3; omega
  have HV0 := Hd.mk hv0
  have HR := Hd.mk hr
  clear hv0
  have hb1 : (checkF l next != 0) = true := by simp [h]
  clear hr h
  go_enter Try.func27, Try.ntmps27
  go_wp2_with fail
  refine (refCheck_calls A c l next _ (HR.out.below (by go_grown)) hc).mono ?_
  rintro e w1 ⟨rfl, hb⟩
  have hbw : Below w.heap.size w w1 := Below.trans (by go_grown) (hb.mono (by simp; omega))
  have HBW := Hd.mk hbw
  have hsz : w.heap.size + 2 ≤ w1.heap.size := by have := hb.size; simpa using this
  have B0 := (Blk.alloc (Blk.new w 24 #[.slice A l.length c, .int .i64 next]) (.cells #[.slice none 0 0, .int .i64 0] 24)).below hb
  have B2 := (Blk.new (w.alloc _) 24 _).below hb
  simp only [World.size_alloc] at B2
  obtain ⟨p0, p1, p2, p3⟩ := B0.f2
  obtain ⟨q0, q1, q2, q3⟩ := B2.f2
  clear hb hbw B0 B2
  go_wp2
  refine bodyPost_ret (v := .tuple #[.agg #[.slice A l.length c, .int .i64 next], .slice none 0 0]) (by simp [results, Try.results27, go_sem, q0, q1]) rfl ?_
  have h2 : Below w.heap.size w (((w1.setCell ⟨w.heap.size + 1, 0, none⟩ (.slice A l.length c)).setCell ⟨w.heap.size + 1, 1, none⟩ (.int .i64 next))) := by
    have h2 := HBW.out
    repeat (first | (with_reducible exact h2) | (with_reducible refine Below.setCell ?_ (by dsimp only; omega) _))
  exact ⟨_, _, rfl, (HV0.out.below h2).mono (fun k hk => .inl hk), Kd.V.nil, h2⟩

theorem refDue_calls (A : Option Addr) (c : Nat) (l : List Ev) (next t : Int) (w : World) (ok : Nat → Prop) (hv0 : evs.V w ok (.slice A l.length c) l) :
    Calls Try.prog 27 #[.agg #[.slice A l.length c, .int .i64 next], .int .i64 t] w (DuePost w ok (dueF l next t)) := by
  by_cases h : checkF l next = 0
  · rw [dueF, if_neg (by simp [h])]
    have hs := place_split (time := t) (good_of_check h)
    have hf := filter_split l t hs.1 hs.2
    rw [← hf.1, ← hf.2]
    exact refDue_ok A c l next t w ok hv0 h
  · rw [dueF, if_pos h]
    exact refDue_bad A c l next t w ok hv0 h
end Go.Proofs.Ytnmcbpjhlkpglaa.B
