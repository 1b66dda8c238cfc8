/- What is proved: the given statement EventqueueCancelsSaid: for every list of times and every choice the law EventqueueCancels returns true, and the arguments read as they did. -/
import Derived.Test.YtnmcbpjhlkpglaaRows
import Derived.Test.YtnmcbpjhlkpglaaC2
import Derived.Test.YtnmcbpjhlkpglaaOpen
set_option linter.unusedVariables false
set_option linter.unusedSimpArgs false
namespace Go.Proofs.Ytnmcbpjhlkpglaa.eventqueueCancels
open Go.ChangeShapes Go.WideShapes Go.ChangeAt Go.RowKit Go.Proofs.Ytnmcbpjhlkpglaa.B

theorem own : ownKnob Try.prog.godebug = none := by kernel_rfl
theorem laidOut : laidOutB Try.prog = true := by kernel_rfl

set_option maxRecDepth 100000 in
theorem lifted (os : Os) (started : os.Started) (H : Type) (enc : TypeId × Value → H) :
    ReturnsInHanded {} Try.checked os 5 .any (Rows.eventqueueCancelsSpec.pre6 enc Try.prog Try.f5 Rows.eventqueueCancelsRow.domain false) (Rows.eventqueueCancelsSpec.post enc Try.prog Try.f5 false true false false) := by
  refine returnsInHanded_of_change_sized (C := Try.checked) own started (by kernel_rfl) Try.func5
    (ChangeSpec.witness6 (enc := enc) (C := Try.checked) false ⟨#[], #[.slice none 0 0, .int .u8 0], []⟩ 8 (by kernel_rfl) (by kernel_rfl) (by kernel_rfl) (by kernel_rfl)) ?_
  intro W base args ds gs before hval0 hW hcnd hsz0 _
  have hval : ∀ (j : Nat) t v, Try.f5.params[j]? = some t → args[j]? = some v → Value.okWide Try.prog W .any base t v := hval0
  have hW' := hW
  obtain ⟨p, q, hA0, hV, rfl, hfz, hnd⟩ := hW
  have hA : DataW.TrodAll enc Try.prog W 0 (fun _ => true) true Try.f5.params.toList args.toList ds p := hA0
  rw [Try.params5] at hA hval
  obtain ⟨v0, vs0, d0, ds0, p0, q0, hargs, rfl, rfl, h0, r0⟩ := trodAll_cons hA
  obtain ⟨v1, vs1, d1, ds1, p1, q1, rfl, rfl, rfl, h1, r1⟩ := trodAll_cons r0
  obtain ⟨rfl, rfl, rfl⟩ := trodAll_nil r1
  obtain rfl : args = #[v0, v1] := by cases args; simp_all
  obtain ⟨rfl, rfl⟩ := trodVars_none hV
  have k0 := h0
  have lt0 : ∀ x ∈ p0, x.block < W.heap.size := by obtain ⟨m, hm⟩ := k0; exact DataW.trod_lt m _ _ _ hm
  obtain ⟨a0, len0, cap0, rfl⟩ := okWide_slice Try.underlying39 (hval 0 39 v0 rfl rfl)
  obtain ⟨A, c, l, e0, hl, hC, hwf⟩ : ∃ A c l, (Value.slice a0 len0 cap0) = .slice A l.length c ∧ l.length ≤ c ∧ (ints .u16).C W A l ∧ ∀ n ∈ l, (Lit.int .u16 n).wf = true := by
    obtain ⟨fuel, hf⟩ := h0
    obtain ⟨A, n, c, xs, hcs, hn, hl, hC, hw⟩ := rd_ints Try.underlying39 Try.underlying69 (by kernel_rfl) hf
    subst hn
    simp only [Value.cells, List.cons.injEq, and_true] at hcs
    exact ⟨A, c, xs, hcs, hl, hC, hw⟩
  injection e0 with ea en ec
  subst ea; subst en; subst ec
  obtain ⟨a1, rfl, rfl, rfl, w1⟩ := open_int Try.underlying5 (hval 1 5 v1 rfl rfl) h1
  have hb := bounds_u8 w1
  clear hA0 hval0 hsz0
  refine (lawCancels_calls _ _ l a1 W hC hl (fun x hx => by have := bounds_u16 (hwf x hx); omega) (by omega) (by omega)).mono fun e W' ⟨he, bel⟩ => ?_
  subst he
  exact ⟨_, rfl, _, _, _, [], _, [], hW', trodAll_mk1 (shut_bool Try.underlying4 _), (trodAll_cons_mk (Below.trod laidOut (by kernel_rfl) (of_decide_eq_true (by kernel_rfl)) k0 bel lt0) (trodAll_cons_mk (shut_int Try.underlying5 w1) trodAll_mk0)), rfl, bel.frame _, fun h => by cases h⟩
theorem over : Rows.eventqueueCancelsRow.holds Try.pinned (OpenSpec.ofChange Rows.eventqueueCancelsSpec) :=
  OpenClaim.holds_of_wide 5 Try.f5 rfl rfl rfl rfl rfl rfl rfl ⟨rfl, rfl, rfl, rfl, rfl⟩ rfl rfl rfl rfl rfl (by kernel_rfl) Try.func5 (by kernel_rfl)
    (of_decide_eq_true (by kernel_rfl)) (by unfold Func.isWrapper; first | (rw [if_pos (by decide +kernel)]; kernel_rfl) | (rw [if_neg (by decide +kernel)]; exact ⟨rfl, rfl⟩))
    (fun os started H enc _ => lifted os started H enc)
theorem proved : Rows.EventqueueCancelsSaid := over
end Go.Proofs.Ytnmcbpjhlkpglaa.eventqueueCancels
namespace Go.Proofs.Ytnmcbpjhlkpglaa
/-- The row, under a short name, for the claim. -/
theorem eventqueueCancels_holds : Rows.EventqueueCancelsSaid := eventqueueCancels.proved
#print axioms eventqueueCancels_holds
end Go.Proofs.Ytnmcbpjhlkpglaa
