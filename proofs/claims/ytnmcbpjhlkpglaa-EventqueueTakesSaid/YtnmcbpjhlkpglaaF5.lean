/- What this text holds: contracts of eventqueue's copies. -/
import Derived.Test.YtnmcbpjhlkpglaaF4
set_option linter.unusedVariables false
set_option linter.unusedSimpArgs false
namespace Go.Proofs.Ytnmcbpjhlkpglaa.B
open Go.RowKit

set_option maxHeartbeats 1000000 in
theorem copied_calls (x : Ev) (A : Option Addr) (c : Nat) (w : World) (hr : (ints .u8).C w A x.body) (hc : x.body.length ≤ c) (hl : x.body.length ≤ 140737488355328) :
    Calls Try.prog 34 #[.agg #[.int .i64 x.t, .int .i64 x.n, .int .i64 x.kd, .int .i64 x.dst, .slice A x.body.length c]] w fun e w' =>
      ∃ v, e = .returned (.agg #[.int .i64 x.t, .int .i64 x.n, .int .i64 x.kd, .int .i64 x.dst, v]) ∧ (ints .u8).Own 5 w' w.heap.size (fun _ => False) v x.body ∧ Below w.heap.size w w' := by
  have hu32 := Try.underlying32
  have HR := Hd.mk hr
  clear hr
  go_enter Try.func34, Try.ntmps34
  go_wp2_with fail
  refine (clone_calls A c x.body _ (HR.out.below (by go_grown)) hc hl).mono ?_
  rintro e w1 ⟨v, rfl, hown, hb⟩
  obtain ⟨A1, c1, rfl, hl1, hm1⟩ := hown.shape
  have HO := Hd.mk hown
  have Hb := Hd.mk hb
  clear hown hb hl1 hm1
  have B0 := (Blk.alloc (Blk.new w 32 #[.int .i64 x.t, .int .i64 x.n, .int .i64 x.kd, .int .i64 x.dst, .slice A x.body.length c]) _).below Hb.out
  have B1 := (Blk.new (w.alloc _) 32 _).below Hb.out
  obtain ⟨b0, b1, b2, b3, b4, b5, b6, b7, b8, b9⟩ := B0.f5
  simp only [World.size_alloc] at B1
  obtain ⟨d0, d1, d2, d3, d4, d5, d6, d7, d8, d9⟩ := B1.f5
  have HB0 := Hd.mk B0
  have HB1 := Hd.mk B1
  clear B0 B1
  go_wp2
  refine bodyPost_ret (v := .agg #[.int .i64 x.t, .int .i64 x.n, .int .i64 x.kd, .int .i64 x.dst, .slice A1 x.body.length c1]) (by simp [results, Try.results34, go_sem, d0, d1, d2, d3, d4]) rfl ⟨_, rfl, ?_, ?_⟩
  · have h := HO.out
    simp only [World.size_alloc] at h
    refine Kd.Own.lower (base := w.heap.size + 1 + 1) ?_ (by omega)
    repeat (first | (with_reducible exact h) | (with_reducible refine Kd.Own.set ?_ (fun _ h => h.elim) (by dsimp only; omega) _))
  · have h := Hb.out
    simp only [World.size_alloc] at h
    have h2 : Below w.heap.size w w1 := Below.trans (by go_grown) (h.mono (by omega))
    clear h
    repeat (first | (with_reducible exact h2) | (with_reducible refine Below.setCell ?_ (by dsimp only; omega) _))
end Go.Proofs.Ytnmcbpjhlkpglaa.B
