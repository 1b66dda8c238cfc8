/- What this text holds: a walk's world is given a letter, its facts are shown of it by peeling off what has been written. -/
import Derived.Test.YtkgkiencikmhfaaBase
set_option linter.unusedVariables false
set_option linter.unusedSimpArgs false
namespace Go.Proofs.Ytkgkiencikmhfaa.B
open Go.RowKit

theorem calls_abs {P : Program} {f : FuncId} {args : Array Value} {Q : Ending → World → Prop} {W : World} (F : World → Prop) (hF : F W) (h : ∀ W2, F W2 → Calls P f args W2 Q) : Calls P f args W Q := h W hF
theorem wp_abs {P : Program} {c : Code} {Q : Exit → Act → World → Prop} {a : Act} {W : World} (F : World → Prop) (hF : F W) (h : ∀ W2, F W2 → c.wp P Q a W2) : c.wp P Q a W := h W hF
theorem wpList_abs {P : Program} {ops : Array Oper} {Q : Exit → Act → World → Prop} {l : List Oper} {a : Act} {W : World} (F : World → Prop) (hF : F W) (h : ∀ W2, F W2 → wpList P ops Q l a W2) : wpList P ops Q l a W := h W hF
/-- A part of the code that ends, in whatever order, as R says. -/
theorem wp_mid {P : Program} {c : Code} {Q : Exit → Act → World → Prop} {a : Act} {w : World} (R : Act → World → Prop) (hreg : c.wp P (fun e a' w' => e = .normal ∧ R a' w') a w) (hcont : ∀ a' w', R a' w' → Q .normal a' w') : c.wp P Q a w :=
  Code.wp_mono (fun e a' w' h => by obtain ⟨rfl, h2⟩ := h; exact hcont a' w' h2) hreg
theorem Blk.newE {W : World} {T : Nat} {cs : Array Value} {g : Nat} (h : g = W.heap.size) : Blk (W.alloc (.cells cs T)) g T cs := by subst h; exact Blk.new W T cs
theorem Fp.far {P : World → Prop} {W : World} {ok : Nat → Prop} {p : Addr} (h : Fp P W ok) (hp : ∀ k, ok k → k ≠ p.block) (u : Value) : Fp P (W.setCell p u) ok := h.step (fun k hk _ => Below.heap_setCell W p u k (hp k hk))
theorem Fp.alloc {P : World → Prop} {W : World} {ok : Nat → Prop} (h : Fp P W ok) (o : Obj) : Fp P (W.alloc o) ok := h.below (Below.alloc (Below.refl _ _) (Nat.le_refl _) o)
theorem Fp.drew {P : World → Prop} {W : World} {ok : Nat → Prop} (h : Fp P W ok) : Fp P W.drew ok := h.below (Below.drew (Below.refl _ _))
theorem bel_step {B : Nat} {w W W' : World} (h : Below B w W) (hb : Below W.heap.size W W') (hB : B ≤ W.heap.size) : Below B w W' := h.trans (hb.mono hB)
theorem Kd.Own.Vin {α : Type} {d : Kd α} {e : Nat} {W : World} {base : Nat} {ok : Nat → Prop} {v : Value} {xs : List α} (h : d.Own e W base ok v xs) (hok : ∀ k, ok k → base ≤ k) : d.V W (fun k => base ≤ k ∧ k < W.heap.size) v xs :=
  h.V.bound.mono (fun k hk => ⟨hk.1.elim (hok k) (fun h2 => (h.blk k h2).1), hk.2⟩)
end Go.Proofs.Ytkgkiencikmhfaa.B
