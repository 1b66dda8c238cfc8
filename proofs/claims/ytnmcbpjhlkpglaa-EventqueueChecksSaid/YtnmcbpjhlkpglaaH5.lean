/- What this text holds: the walk of the law EventqueueChecks. -/
import Derived.Test.YtnmcbpjhlkpglaaH4
set_option linter.unusedVariables false
set_option linter.unusedSimpArgs false
namespace Go.Proofs.Ytnmcbpjhlkpglaa.B
open Go.RowKit

set_option maxRecDepth 100000 in
set_option maxHeartbeats 4000000 in
theorem lawChecks_calls (A : Option Addr) (c : Nat) (l : List Ev) (next : Int) (w : World) (hr : evs.C w A l) (hc : l.length ≤ c) :
    Calls Try.prog 3 #[.agg #[.slice A l.length c, .int .i64 next]] w fun e w' => e = .returned (.bool true) ∧ Below w.heap.size w w' := by
  have hu24 := Try.underlying24
  have HR := Hd.mk hr
  clear hr
  rcases hf : fewF l with _ | _
  all_goals
    have HF := Hd.mk hf
    clear hf
    go_enter Try.func3, Try.ntmps3
    go_wp2_with fail
    obtain ⟨q0, q1, -, -⟩ := (Blk.new w 24 #[.slice A l.length c, .int .i64 next]).f2
    have HBW : Hd (Below w.heap.size w (w.alloc (.cells #[.slice A l.length c, .int .i64 next] 24))) := ⟨by go_grown⟩
    have hws : w.heap.size < (w.alloc (.cells #[.slice A l.length c, .int .i64 next] 24)).heap.size := by simp
    go_region_with (first
        | (go_at_call 10; refine (awake_calls _).mono ?_; rintro e wa ⟨rfl, hb⟩; have a0 := keep hb q0; have a1 := keep hb q1; have HBA := Hd.mk (HBW.out.drew.trans (hb.mono (Nat.le_of_lt hws))); have hwa := World.block_lt_of_cell? wa _ a0; clear hb)
        | (go_at_call 11; refine (few_calls A c l next _ (HR.out.below HBA.out) hc).mono ?_; rw [HF.out]; rintro e wf ⟨rfl, hb⟩; have f0 := keep hb a0; have f1 := keep hb a1; have HBF := Hd.mk (HBA.out.trans (hb.mono (Nat.le_of_lt hwa))); have hwf := World.block_lt_of_cell? wf _ f0; clear hb)
        | (go_at_call 12; refine (check_calls A c l next _ (HR.out.below HBF.out) hc).mono ?_; rintro e wc ⟨rfl, hb⟩; have c0 := keep hb f0; have c1' := keep hb f1; have HBC := Hd.mk (HBF.out.trans (hb.mono (Nat.le_of_lt hwf))); have hwc := World.block_lt_of_cell? wc _ c0; clear hb)
        | (go_at_call 13; refine (refCheck_calls A c l next _ (HR.out.below HBF.out) hc).mono ?_; rintro e wr ⟨rfl, hb⟩; have r0 := keep hb f0; have r1 := keep hb f1; have HBR := Hd.mk (HBF.out.trans (hb.mono (Nat.le_of_lt hwf))); have hwr := World.block_lt_of_cell? wr _ r0; clear hb)
        | (go_at_call 12; refine (check_calls A c l next _ (HR.out.below HBR.out) hc).mono ?_; rintro e wc ⟨rfl, hb⟩; have s0 := keep hb r0; have s1 := keep hb r1; have HBS := Hd.mk (HBR.out.trans (hb.mono (Nat.le_of_lt hwr))); clear hb)
        | (go_at_call 13; refine (refCheck_calls A c l next _ (HR.out.below HBC.out) hc).mono ?_; rintro e wr ⟨rfl, hb⟩; have s0 := keep hb c0; have s1 := keep hb c1'; have HBS := Hd.mk (HBC.out.trans (hb.mono (Nat.le_of_lt hwc))); clear hb))
    all_goals
      go_wp2
      go_ret
      first | exact ⟨rfl, HBS.out⟩ | exact ⟨by simp, HBS.out⟩ | exact ⟨rfl, HBF.out⟩ | exact ⟨by simp, HBF.out⟩
end Go.Proofs.Ytnmcbpjhlkpglaa.B
