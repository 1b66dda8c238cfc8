/- What this text holds: the contract of the reference's Copy. -/
import Derived.Test.YtnmcbpjhlkpglaaF6
set_option linter.unusedVariables false
set_option linter.unusedSimpArgs false
namespace Go.Proofs.Ytnmcbpjhlkpglaa.B
open Go.RowKit

set_option maxHeartbeats 1000000 in
theorem refCopy_calls (x : Ev) (A : Option Addr) (c : Nat) (w : World) (hr : (ints .u8).C w A x.body) (hc : x.body.length ≤ c) (hl : x.body.length ≤ 140737488355328) :
    Calls Try.prog 39 #[.agg #[.int .i64 x.t, .int .i64 x.n, .int .i64 x.kd, .int .i64 x.dst, .slice A x.body.length c]] w fun e w' =>
      ∃ v, e = .returned (.agg #[.int .i64 x.t, .int .i64 x.n, .int .i64 x.kd, .int .i64 x.dst, v]) ∧ (ints .u8).Own 5 w' w.heap.size (fun _ => False) v x.body ∧ Below w.heap.size w w' := by
  have hu32 := Try.underlying32
  have HR := Hd.mk hr
  have HL := Hd.mk hl
  clear hr
  have hb0 : Below w.heap.size w ((w.alloc (.cells #[.int .i64 x.t, .int .i64 x.n, .int .i64 x.kd, .int .i64 x.dst, .slice A x.body.length c] 32)).alloc (.cells #[.int .i64 0, .int .i64 0, .int .i64 0, .int .i64 0, .slice none 0 0] 32)) := by go_grown
  have b0 := (Blk.new w 32 #[.int .i64 x.t, .int .i64 x.n, .int .i64 x.kd, .int .i64 x.dst, .slice A x.body.length c]).alloc (.cells #[.int .i64 0, .int .i64 0, .int .i64 0, .int .i64 0, .slice none 0 0] 32)
  have b1 := Blk.new (w.alloc (.cells #[.int .i64 x.t, .int .i64 x.n, .int .i64 x.kd, .int .i64 x.dst, .slice A x.body.length c] 32)) 32 #[.int .i64 0, .int .i64 0, .int .i64 0, .int .i64 0, .slice none 0 0]
  rw [World.size_alloc] at b1
  have HO : Hd ((ints .u8).Own 5 ((w.alloc (.cells #[.int .i64 x.t, .int .i64 x.n, .int .i64 x.kd, .int .i64 x.dst, .slice A x.body.length c] 32)).alloc (.cells #[.int .i64 0, .int .i64 0, .int .i64 0, .int .i64 0, .slice none 0 0] 32)) (w.heap.size + 1 + 1) (fun _ => False) (.slice none 0 0) []) := ⟨Kd.Own.nil⟩
  have HY : Hd (Fp (fun W => (ints .u8).C W A x.body) ((w.alloc (.cells #[.int .i64 x.t, .int .i64 x.n, .int .i64 x.kd, .int .i64 x.dst, .slice A x.body.length c] 32)).alloc (.cells #[.int .i64 0, .int .i64 0, .int .i64 0, .int .i64 0, .slice none 0 0] 32)) (fun k => True)) := ⟨(HR.out.below hb0).fp⟩
  have HB0 := Hd.mk b0; have HB1 := Hd.mk b1; have HBB := Hd.mk hb0
  clear b0 b1 hb0
  go_enter Try.func39, Try.ntmps39
  go_wp2_with (at_builtin; (refine Kd.Own.appendRow (w0 := (w.alloc (.cells #[.int .i64 x.t, .int .i64 x.n, .int .i64 x.kd, .int .i64 x.dst, .slice A x.body.length c] 32)).alloc (.cells #[.int .i64 0, .int .i64 0, .int .i64 0, .int .i64 0, .slice none 0 0] 32)) rfl (.tmp 4) (.tmp 6) 30 (.int .u8 0) 1 rfl Try.underlying30 info5 rfl (by decide) rfl rfl HO.out HY.out rfl ?h1 ?h0 ?h2 ?h3 ?_); (case h1 => intro k hk _ h; cases h); (case h0 => exact Below.refl _ _); (case h2 => simp); (case h3 => simp; omega); intro v1 w1 hown hb hg hat; rw [List.nil_append] at hown; obtain ⟨A1, c1, rfl, -, -⟩ := hown.shape; have HO1 := Hd.mk (ints_own hown); have HB2 := Hd.mk hb; obtain ⟨x0, x1, x2, x3, x4, x5, x6, x7, x8, x9⟩ := (HB0.out.belowB hb (by omega)).f5; obtain ⟨z0, z1, z2, z3, z4, z5, z6, z7, z8, z9⟩ := (HB1.out.belowB hb (by omega)).f5; clear hown hb hg hat)
  refine bodyPost_ret (v := .agg #[.int .i64 x.t, .int .i64 x.n, .int .i64 x.kd, .int .i64 x.dst, .slice A1 x.body.length c1]) (by simp [results, Try.results39, go_sem, z0, z1, z2, z3, z4]) rfl ⟨_, rfl, ?_, ?_⟩
  · have h := HO1.out
    refine Kd.Own.lower (base := w.heap.size + 1 + 1) ?_ (by omega)
    repeat (first | (with_reducible exact h) | (with_reducible refine Kd.Own.set ?_ (fun _ h => h.elim) (by dsimp only; omega) _))
  · have h2 : Below w.heap.size w w1 := HBB.out.trans (HB2.out.mono (by omega))
    repeat (first | (with_reducible exact h2) | (with_reducible refine Below.setCell ?_ (by dsimp only; omega) _))
end Go.Proofs.Ytnmcbpjhlkpglaa.B
