/- What is proved: the given statement EventqueueOrdersSaid: for every list of times the law EventqueueOrders returns true, and the list reads as it did. -/
import Derived.Test.YtnmcbpjhlkpglaaRows
import Derived.Test.YtnmcbpjhlkpglaaO1
import Derived.Test.YtnmcbpjhlkpglaaOpen
set_option linter.unusedVariables false
set_option linter.unusedSimpArgs false
namespace Go.Proofs.Ytnmcbpjhlkpglaa.eventqueueOrders
open Go.ChangeShapes Go.WideShapes Go.ChangeAt Go.RowKit Go.Proofs.Ytnmcbpjhlkpglaa.B

theorem own : ownKnob Try.prog.godebug = none := by kernel_rfl
theorem laidOut : laidOutB Try.prog = true := by kernel_rfl

set_option maxRecDepth 100000 in
theorem lifted (os : Os) (started : os.Started) (H : Type) (enc : TypeId × Value → H) :
    ReturnsInHanded {} Try.checked os 7 .any (Rows.eventqueueOrdersSpec.pre6 enc Try.prog Try.f7 Rows.eventqueueOrdersRow.domain false) (Rows.eventqueueOrdersSpec.post enc Try.prog Try.f7 false true false false) := by
  refine returnsInHanded_of_change_sized (C := Try.checked) own started (by kernel_rfl) Try.func7
    (ChangeSpec.witness6 (enc := enc) (C := Try.checked) false ⟨#[], #[.slice none 0 0], []⟩ 8 (by kernel_rfl) (by kernel_rfl) (by kernel_rfl) (by kernel_rfl)) ?_
  intro W base args ds gs before hval0 hW hcnd hsz0 _
  have hval : ∀ (j : Nat) t v, Try.f7.params[j]? = some t → args[j]? = some v → Value.okWide Try.prog W .any base t v := hval0
  have hW' := hW
  obtain ⟨p, q, hA0, hV, rfl, hfz, hnd⟩ := hW
  have hA : DataW.TrodAll enc Try.prog W 0 (fun _ => true) true Try.f7.params.toList args.toList ds p := hA0
  rw [Try.params7] at hA hval
  obtain ⟨v0, vs0, d0, ds0, p0, q0, hargs, rfl, rfl, h0, r0⟩ := trodAll_cons hA
  obtain ⟨rfl, rfl, rfl⟩ := trodAll_nil r0
  obtain rfl : args = #[v0] := by cases args; simp_all
  obtain ⟨rfl, rfl⟩ := trodVars_none hV
  have k0 := h0
  have lt0 : ∀ x ∈ p0, x.block < W.heap.size := by obtain ⟨m, hm⟩ := k0; exact DataW.trod_lt m _ _ _ hm
  obtain ⟨a0, len0, cap0, rfl⟩ := okWide_slice Try.underlying39 (hval 0 39 v0 rfl rfl)
  obtain ⟨A, c, l, e0, hl, hC, hwf⟩ : ∃ A c l, (Value.slice a0 len0 cap0) = .slice A l.length c ∧ l.length ≤ c ∧ (ints .u16).C W A l ∧ ∀ n ∈ l, (Lit.int .u16 n).wf = true := by
    obtain ⟨fuel, hf⟩ := h0
    obtain ⟨A, n, c, xs, hcs, hn, hl, hC, hw⟩ := rd_ints Try.underlying39 Try.underlying69 (by kernel_rfl) hf
    subst hn
    simp only [Value.cells, List.cons.injEq, and_true] at hcs
    exact ⟨A, c, xs, hcs, hl, hC, hw⟩
  injection e0 with ea en ec
  subst ea; subst en; subst ec
  clear hA0 hval0 hsz0
  refine (lawOrders_calls _ _ l W hC hl (fun x hx => by have := bounds_u16 (hwf x hx); omega)).mono fun e W' ⟨he, bel⟩ => ?_
  subst he
  exact ⟨_, rfl, _, _, _, [], _, [], hW', trodAll_mk1 (shut_bool Try.underlying4 _), (trodAll_cons_mk (Below.trod laidOut (by kernel_rfl) (of_decide_eq_true (by kernel_rfl)) k0 bel lt0) trodAll_mk0), rfl, bel.frame _, fun h => by cases h⟩
theorem over : Rows.eventqueueOrdersRow.holds Try.pinned (OpenSpec.ofChange Rows.eventqueueOrdersSpec) :=
  OpenClaim.holds_of_wide 7 Try.f7 rfl rfl rfl rfl rfl rfl rfl ⟨rfl, rfl, rfl, rfl, rfl⟩ rfl rfl rfl rfl rfl (by kernel_rfl) Try.func7 (by kernel_rfl)
    (of_decide_eq_true (by kernel_rfl)) (by unfold Func.isWrapper; first | (rw [if_pos (by decide +kernel)]; kernel_rfl) | (rw [if_neg (by decide +kernel)]; exact ⟨rfl, rfl⟩))
    (fun os started H enc _ => lifted os started H enc)
theorem proved : Rows.EventqueueOrdersSaid := over
end Go.Proofs.Ytnmcbpjhlkpglaa.eventqueueOrders
namespace Go.Proofs.Ytnmcbpjhlkpglaa
/-- The row, under a short name, for the claim. -/
theorem eventqueueOrders_holds : Rows.EventqueueOrdersSaid := eventqueueOrders.proved
#print axioms eventqueueOrders_holds
end Go.Proofs.Ytnmcbpjhlkpglaa
