/- What this text holds: two rows of one's own of two kinds, one of which grows; bytes that have just been copied, as an element of a row of byte slices. -/
import Derived.Test.YtkgkiencikmhfaaH4
set_option linter.unusedVariables false
set_option linter.unusedSimpArgs false
namespace Go.Proofs.Ytkgkiencikmhfaa.B
open Go.RowKit

namespace Kd
/-- Two rows of one's own, apart from each other: one of them grows. -/
theorem Own.pair {α β : Type} {d : Kd α} {d' : Kd β} {W W1 : World} {u u1 v : Value} {xs : List α} {ys : List β} {y : α} {e e' base : Nat} {okx : Nat → Prop}
    (HU1 : d.Own e W1 base (fun k => (base ≤ k ∧ some k ≠ v.ownBlock) ∨ okx k) u1 (xs ++ [y])) (HV : d'.Own e' W base (fun k => base ≤ k ∧ some k ≠ u.ownBlock) v ys)
    (hne : ∀ j, u.ownBlock = some j → v.ownBlock ≠ some j) (hx : ∀ k, okx k → base ≤ k ∧ some k ≠ v.ownBlock) (hg : W.grownBy W1 u.ownBlock) (hat : u1.ownBlock = u.ownBlock ∨ ∃ b, u1.ownBlock = some b ∧ W.heap.size ≤ b) :
    d.Own e W1 base (fun k => base ≤ k ∧ some k ≠ v.ownBlock) u1 (xs ++ [y]) ∧ d'.Own e' W1 base (fun k => base ≤ k ∧ some k ≠ u1.ownBlock) v ys ∧ ∀ j, u1.ownBlock = some j → v.ownBlock ≠ some j := by
  refine ⟨HU1.mono (fun k hk => hk.elim id (hx k)), ?_, ?_⟩
  · refine (HV.bound.grown hg (fun k hk _ => hk.1.2) (fun k hk h => hne k h.symm hk)).mono (fun k hk => ⟨hk.1.1, ?_⟩)
    rcases hat with hat | ⟨b, hb, hle⟩
    · rw [hat]; exact hk.1.2
    · rw [hb]
      intro h
      injection h with h
      have := hk.2
      omega
  · intro j hj hv
    rcases hat with hat | ⟨b, hb, hle⟩
    · exact hne j (hat ▸ hj) hv
    · have h1 := (HV.blk j hv).2
      rw [hb] at hj
      injection hj with hj
      omega
end Kd

theorem bs_fp {w : World} {x : List Int} {A : Option Addr} {c base : Nat} (h : (ints .u8).Own 5 w base (fun _ => False) (.slice A x.length c) x) :
    Fp (fun W => bss.K W x [.slice A x.length c]) w (fun k => base ≤ k ∧ k < w.heap.size) := by
  obtain ⟨A', c', he, hl, hf⟩ := h.V
  injection he with ha _ hc
  subst ha; subst hc
  refine (hf.mono (fun k hk => ?_)).imp (fun W' hC => ⟨_, _, rfl, hl, hC⟩)
  rcases hk with hk | hk
  · exact hk.elim
  · exact h.blk k hk

theorem filterL_split (l : List Fl) (t : Int) (h1 : ∀ x ∈ l.take (placeL l t), x.t ≤ t) (h2 : ∀ x ∈ l.drop (placeL l t), t < x.t) :
    l.filter (fun x => decide (x.t ≤ t)) = l.take (placeL l t) ∧ l.filter (fun x => !decide (x.t ≤ t)) = l.drop (placeL l t) := by
  have e : l = l.take (placeL l t) ++ l.drop (placeL l t) := (List.take_append_drop _ _).symm
  generalize l.take (placeL l t) = a at h1 e ⊢
  generalize l.drop (placeL l t) = b at h2 e ⊢
  subst e
  constructor
  · rw [List.filter_append, List.filter_eq_self.2 (fun x hx => by simpa using h1 x hx), List.filter_eq_nil_iff.2 (fun x hx => by have := h2 x hx; simp; omega), List.append_nil]
  · rw [List.filter_append, List.filter_eq_nil_iff.2 (fun x hx => by have := h1 x hx; simp; omega), List.filter_eq_self.2 (fun x hx => by have := h2 x hx; simp; omega), List.nil_append]
end Go.Proofs.Ytkgkiencikmhfaa.B
