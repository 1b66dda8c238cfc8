/- What this text holds: the map of the numbers that were met, as Check keeps it. -/
import Derived.Test.YtkgkiencikmhfaaF1
import Derived.Maps.OwnSet
import Derived.Maps.Views
set_option linter.unusedVariables false
set_option linter.unusedSimpArgs false
namespace Go.Proofs.Ytkgkiencikmhfaa.B
open Go.RowKit Go.Maps

theorem zero4 (w : World) : (zeroValue 4).run Try.prog w = .ok (.bool false) w := by kernel_rfl

/-- Block b is the map of the numbers of l. -/
def Met (w : World) (b : Nat) (l : List Fl) : Prop :=
  ∃ D : DataW Unit, w.ownsMap Try.prog 3 (plainElem Try.prog 4) b l.length D ∧ ∀ x : Int, (Lit.int .i64 x).wf = true → D.atKey (.int .i64 x) (.lit (.bool false)) = .lit (.bool (l.any (fun y => y.n == x)))
theorem Met.made (w : World) : Met (w.alloc (.map #[] 0)) w.heap.size [] := ⟨.map [], World.ownsMap_made w _ _ _, fun x _ => rfl⟩
theorem Met.same {w w' : World} {b : Nat} {l : List Fl} (h : Met w b l) (hs : w'.heap[b]? = w.heap[b]?) : Met w' b l := by
  obtain ⟨D, ⟨es, clock, hb, F, hn, hD⟩, hx⟩ := h
  exact ⟨D, ⟨es, clock, hs.trans hb, F, hn, hD⟩, hx⟩
theorem Met.lt {w : World} {b : Nat} {l : List Fl} (h : Met w b l) : b < w.heap.size := by
  obtain ⟨D, h, _⟩ := h
  exact h.lt
theorem Met.below {w w' : World} {b : Nat} {l : List Fl} (h : Met w b l) (hb : Below w.heap.size w w') : Met w' b l := h.same (hb.block b h.lt)
theorem Met.look {w : World} {b : Nat} {l : List Fl} (h : Met w b l) (x : Int) (hx : (Lit.int .i64 x).wf = true) :
    (Instr.lookup 73 (.map (some b)) (.int .i64 x) false).run Try.prog w = .ok (.bool (l.any (fun y => y.n == x))) w := by
  obtain ⟨D, h, ha⟩ := h
  obtain ⟨v, ps, hrun, hv⟩ := h.lookup (int_keyed Try.underlying3) Try.underlying73 (zero4 w) (plainElem_bool Try.underlying4 false) (keyOf_int_mk Try.underlying3 hx)
  rw [ha x hx] at hv
  have hv2 : v = .bool (l.any (fun y => y.n == x)) := by
    unfold plainElem at hv
    rw [Try.underlying4] at hv
    cases v <;> simp at hv
    rw [hv.1]
  rw [hrun, hv2]
theorem wf_key (x : Int) : WideAt.IsKeyLit (Lit.int .i64 x) := by first | exact trivial | (unfold WideAt.IsKeyLit; trivial) | (intro; simp)
theorem Met.put {w : World} {b : Nat} {l : List Fl} (h : Met w b l) (x : Fl) (hx : (Lit.int .i64 x.n).wf = true) (hl : l.length < maxLen) :
    ∃ w', (Instr.mapUpdate 73 (.map (some b)) (.int .i64 x.n) (.bool true)).run Try.prog w = .ok () w' ∧ Met w' b (l ++ [x]) ∧ w.grownBy w' (some b) := by
  obtain ⟨D, h, ha⟩ := h
  have hm := h.isMap
  obtain ⟨w', hrun, h2, hg⟩ := h.update (int_keyed Try.underlying3) Try.underlying73 hl (keyOf_int_mk Try.underlying3 hx) (plainElem_bool Try.underlying4 true)
  refine ⟨w', hrun, ⟨_, by rw [List.length_append]; exact h2, fun y hy => ?_⟩, hg⟩
  by_cases e : y = x.n
  · subst e
    rw [atKey_put_same hm (wf_key _)]
    simp
  · have hne : (Lit.int .i64 y) ≠ Lit.int .i64 x.n := by intro h; injection h with _ h; exact e h
    rw [atKey_put_other hne, ha y hy]
    congr 2
    rw [List.any_append]
    simp
    intro h
    exact absurd h.symm e
end Go.Proofs.Ytkgkiencikmhfaa.B
