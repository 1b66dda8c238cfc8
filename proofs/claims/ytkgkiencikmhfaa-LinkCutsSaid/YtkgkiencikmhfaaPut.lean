/- What this text holds: a part of the code is left with some slots written; append of a row as a step of a drawn region. -/
import Derived.Test.YtkgkiencikmhfaaAbs
import Derived.Test.YtkgkiencikmhfaaKinds
set_option linter.unusedVariables false
set_option linter.unusedSimpArgs false
namespace Go.Proofs.Ytkgkiencikmhfaa.B
open Go.RowKit

/-- Slots written, one after the other. -/
def putL (a : Act) : List (Nat × Value) → Act
  | [] => a
  | (i, v) :: r => putL (a.put (some i) v) r
/-- These slots written, F of their values and of the world. -/
def PutPost (idx : List Nat) (F : List Value → World → Prop) (a : Act) (e : Exit) (a' : Act) (w' : World) : Prop := e = .normal ∧ ∃ vs, a' = putL a (idx.zip vs) ∧ F vs w'
theorem PutPost.mk {idx : List Nat} {F : List Value → World → Prop} {a a' : Act} {w' : World} (vs : List Value) (h : a' = putL a (idx.zip vs)) (hF : F vs w') : PutPost idx F a .normal a' w' := ⟨rfl, vs, h, hF⟩
/-- A part of the code that ends, in whatever order, with these slots written, F of their values and of the world. -/
theorem wp_put {P : Program} {c : Code} {Q : Exit → Act → World → Prop} {a : Act} {w : World} (idx : List Nat) (F : List Value → World → Prop)
    (hreg : c.wp P (PutPost idx F a) a w) (hcont : ∀ vs w', F vs w' → Q .normal (putL a (idx.zip vs)) w') : c.wp P Q a w :=
  Code.wp_mono (fun e a' w' h => by obtain ⟨rfl, vs, rfl, h2⟩ := h; exact hcont vs w' h2) hreg
/-- The walk stands before region n. -/
theorem at_region (n : Nat) {P : Program} {ops : Array Oper} {b : Bool} {c : Code} {Q : Exit → Act → World → Prop} {a : Act} {w : World} (h : Code.wp P ((Code.region n ops b).seq c) Q a w) : Code.wp P ((Code.region n ops b).seq c) Q a w := h

theorem ints_one_fp {k : IntKind} {w : World} {g T : Nat} {x : Int} (h : Blk w g T #[.int k x]) : Fp (fun W => (ints k).C W (some ⟨g, 0, none⟩) [x]) w (fun j => j = g) := by
  intro W' hW
  have h2 : Blk W' g T #[.int k x] := (hW g rfl h.lt).trans h
  refine ⟨by simp, fun _ => ⟨_, rfl, fun i y hi => ⟨[.int k x], ?_, fun j u hu => ?_⟩⟩⟩
  · rcases i with _ | i
    · have : x = y := by simpa using hi
      rw [this]; rfl
    · simp at hi
  · rcases i with _ | i
    · rcases j with _ | j
      · injection hu with hu
        subst hu
        exact h2.cell 0 rfl
      · simp at hu
    · simp at hi

namespace Kd
section
variable {α : Type} {d : Kd α} {W : World} {v : Value} {xs : List α} {base e : Nat} {A : Option Addr}
variable {P : Program} {ops : Array Oper} {o : Oper} {a : Act} {K : Act → World → Prop} {Q : Exit → Act → World → Prop} {E : Prop}
theorem Own.step_appendRow {ok okx : Nat → Prop} {ys : List α} {m cc : Nat} (hgd : o.guard = none) (s x : Operand) (t : TypeId) (z : Value) (bytes : Nat)
    (ho : o.op = .call { callee := .builtin .append, args := #[s, x], argTypes := #[t, t] })
    (ht : P.underlying t = some (.slice e)) (hinfo : (P.info? e).map (fun i => (i.zero, i.size, i.bytes)) = some (some z, d.sz, bytes)) (hz : z.cells.size = d.sz) (hb0 : 0 < bytes)
    (hs : a.eval s = v) (hx : a.eval x = .slice A m cc)
    (HO : d.Own e W base ok v xs) (HY : Fp (fun W => d.C W A ys) W okx) (hm : ys.length = m) (hne : ∀ k, okx k → k < W.heap.size → some k ≠ v.ownBlock)
    (hbase : base ≤ W.heap.size) (hl : (xs.length + m) * bytes ≤ 140737488355328)
    (h : ∀ v1 w1, d.Own e w1 base (fun k => ok k ∨ okx k) v1 (xs ++ ys) → W.grownBy w1 v.ownBlock → (v1.ownBlock = v.ownBlock ∨ ∃ b, v1.ownBlock = some b ∧ W.heap.size ≤ b) → K (a.put o.dst v1) w1) :
    if Region.wanted o (yielded ops a.tmps) = true then Oper.wp P o a W K Q else E := by
  have hw : Region.wanted o (yielded ops a.tmps) = true := by simp [Region.wanted, hgd]
  rw [if_pos hw]
  obtain ⟨v1, w1, hr, hown, hg, hat⟩ := Own.run_appendRow (P := P) (cc := cc) t o.type z bytes ht hinfo hz hb0 HO HY hm hne hbase hl
  unfold Oper.wp execOp
  simp only [ho, resolve, invoke, builtin, Sem.run_bind, Sem.run_pure, Result.andThen_ok, List.map_toArray, List.map_cons, List.map_nil, hs, hx, hr]
  exact h v1 w1 hown hg hat
end
end Kd
end Go.Proofs.Ytkgkiencikmhfaa.B
