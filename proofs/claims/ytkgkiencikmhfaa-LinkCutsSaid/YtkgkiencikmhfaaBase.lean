/- What this text holds: words of the proofs of this seat: how data lie in memory (read, owned), and how a row of one's own grows. -/
import Derived.Maps.AppendAt
import Derived.Handy
import Derived.Deep.AppendLies
import Derived.Lib.ConvBytes
import Derived.Laws.BytesArg
import Derived.Laws.Rows
import Derived.Laws.IdiomCopy
import Derived.Deep.LoopGhost
import Derived.Deep.QuietTactic
import Derived.BigQuiet
import Derived.Deep.DeepCutAuto
import Derived.Deep.CutBlock
import Derived.Deep.RegionHeld3
import Derived.OrdersHeld
import Derived.WideLaws
import Derived.KernelRfl
set_option linter.unusedVariables false
set_option linter.unusedSimpArgs false
namespace Go.Proofs.Ytkgkiencikmhfaa.B
open Go.RowKit

/-- A fact that the walk does not look into. -/
structure Hd (p : Prop) : Prop where mk :: (out : p)

/-- Element i. -/
def nth {α : Type} (z : α) (l : List α) (i : Nat) : α := l.getD i z
theorem nth_eq {α : Type} (z : α) (l : List α) (i : Nat) (h : i < l.length) : nth z l i = l[i] := by simp [nth, List.getD_eq_getElem?_getD, h]
theorem nth_get? {α : Type} (z : α) (l : List α) (i : Nat) (h : i < l.length) : l[i]? = some (nth z l i) := by simp [nth, List.getD_eq_getElem?_getD, h]

/-- P holds in W and in every world that has W's blocks of ok. -/
def Fp (P : World → Prop) (W : World) (ok : Nat → Prop) : Prop := ∀ W' : World, (∀ k, ok k → k < W.heap.size → W'.heap[k]? = W.heap[k]?) → P W'

theorem lt_of_same {W W1 : World} {k : Nat} (h : W1.heap[k]? = W.heap[k]?) (hlt : k < W.heap.size) : k < W1.heap.size := by
  rw [Array.getElem?_eq_getElem hlt] at h
  exact (Array.getElem?_eq_some_iff.1 h).1
theorem cell_of_same {W W1 : World} {p : Addr} (h : W1.heap[p.block]? = W.heap[p.block]?) : W1.cell? p = W.cell? p := World.cell?_of_block h

theorem keep {w w1 : World} {a : Addr} {v : Value} (hb : Below w.heap.size w w1) (h : w.cell? a = some v) : w1.cell? a = some v := (hb.cell (World.block_lt_of_cell? w _ h)).trans h

theorem keepB {B : Nat} {w w1 : World} {a : Addr} {v : Value} (hb : Below B w w1) (h : w.cell? a = some v) (hlt : a.block < B) : w1.cell? a = some v := (hb.cell hlt).trans h
theorem keepS {w : World} {a p : Addr} {v u : Value} (h : w.cell? a = some v) (hne : a.block ≠ p.block) : (w.setCell p u).cell? a = some v := (cell_of_same (Below.heap_setCell w p u a.block hne)).trans h
theorem keepD {w : World} {a : Addr} {v : Value} (h : w.cell? a = some v) : w.drew.cell? a = some v := h
theorem keepA {w : World} {a : Addr} {v : Value} (h : w.cell? a = some v) (o : Obj) : (w.alloc o).cell? a = some v := keep (Below.alloc (Below.refl _ _) (Nat.le_refl _) o) h
theorem pw_below_drewN {B : Nat} {w W : World} (h : Below B w W) (n : Nat) : Below B w (W.drewN n) := ⟨h.os, h.tape, h.output, h.size, h.block⟩

theorem bcell {W w1 : World} (hb : Below W.heap.size W w1) : (∀ b o, b < W.heap.size → w1.cell? ⟨b, o, none⟩ = W.cell? ⟨b, o, none⟩) ∧ (∀ b o, b < W.heap.size → w1.frozen? ⟨b, o, none⟩ = W.frozen? ⟨b, o, none⟩) :=
  ⟨fun b o h => hb.cell (p := ⟨b, o, none⟩) h, fun b o h => hb.frozen (p := ⟨b, o, none⟩) h⟩

/-- A block of one's own: a variable in memory. -/
def Blk (w : World) (g : Nat) (T : Nat) (cs : Array Value) : Prop := w.heap[g]? = some (.cells cs T (0, 0))
namespace Blk
variable {w w1 : World} {g T : Nat} {cs cs' : Array Value}
theorem lt (h : Blk w g T cs) : g < w.heap.size := (Array.getElem?_eq_some_iff.1 h).1
theorem new (w : World) (T : Nat) (cs : Array Value) : Blk (w.alloc (.cells cs T)) w.heap.size T cs := heap_alloc_new w _
theorem alloc (h : Blk w g T cs) (o : Obj) : Blk (w.alloc o) g T cs := (Below.heap_alloc w o g h.lt).trans h
theorem drew (h : Blk w g T cs) : Blk w.drew g T cs := h
theorem drewN (h : Blk w g T cs) (n : Nat) : Blk (w.drewN n) g T cs := h
theorem below (h : Blk w g T cs) (hb : Below w.heap.size w w1) : Blk w1 g T cs := (hb.block g h.lt).trans h
theorem belowB (h : Blk w g T cs) {B : Nat} (hb : Below B w w1) (hg : g < B) : Blk w1 g T cs := (hb.block g hg).trans h
theorem grown (h : Blk w g T cs) {row : Option Nat} (hg : w.grownBy w1 row) (hne : some g ≠ row) : Blk w1 g T cs := (hg.block g h.lt hne).trans h
theorem far (h : Blk w g T cs) {p : Addr} (hp : g ≠ p.block) (u : Value) : Blk (w.setCell p u) g T cs := (Below.heap_setCell w p u g hp).trans h
theorem put (h : Blk w g T cs) (i : Nat) (u : Value) (e : cs.setIfInBounds i u = cs') : Blk (w.setCell ⟨g, i, none⟩ u) g T cs' := by
  subst e
  have hlt := h.lt
  unfold Blk at h ⊢
  simp [World.setCell, Array.getElem?_modify, h]
theorem cell (h : Blk w g T cs) (i : Nat) {u : Value} (e : cs[i]? = some u) : w.cell? ⟨g, i, none⟩ = some u := by
  unfold Blk at h
  simp [World.cell?, h, e]
theorem frozen (h : Blk w g T cs) (i : Nat) : w.frozen? ⟨g, i, none⟩ = false := by
  unfold Blk at h
  simp [World.frozen?, h]
theorem typ {g' T' : Nat} (h : Blk w g T cs) (h' : Blk w g' T' cs') (hne : T ≠ T') : g ≠ g' := by
  rintro rfl
  unfold Blk at h h'
  rw [h] at h'
  injection h' with h'
  injection h' with _ ht
  exact hne ht
theorem f1 {x0 : Value} (h : Blk w g T #[x0]) : w.cell? ⟨g, 0, none⟩ = some x0 ∧ w.frozen? ⟨g, 0, none⟩ = false :=
  ⟨h.cell 0 rfl, h.frozen 0⟩
theorem f2 {x0 x1 : Value} (h : Blk w g T #[x0, x1]) : w.cell? ⟨g, 0, none⟩ = some x0 ∧ w.cell? ⟨g, 1, none⟩ = some x1 ∧ w.frozen? ⟨g, 0, none⟩ = false ∧ w.frozen? ⟨g, 1, none⟩ = false :=
  ⟨h.cell 0 rfl, h.cell 1 rfl, h.frozen 0, h.frozen 1⟩
theorem f3 {x0 x1 x2 : Value} (h : Blk w g T #[x0, x1, x2]) : w.cell? ⟨g, 0, none⟩ = some x0 ∧ w.cell? ⟨g, 1, none⟩ = some x1 ∧ w.cell? ⟨g, 2, none⟩ = some x2 ∧ w.frozen? ⟨g, 0, none⟩ = false ∧ w.frozen? ⟨g, 1, none⟩ = false ∧ w.frozen? ⟨g, 2, none⟩ = false :=
  ⟨h.cell 0 rfl, h.cell 1 rfl, h.cell 2 rfl, h.frozen 0, h.frozen 1, h.frozen 2⟩
theorem f4 {x0 x1 x2 x3 : Value} (h : Blk w g T #[x0, x1, x2, x3]) : w.cell? ⟨g, 0, none⟩ = some x0 ∧ w.cell? ⟨g, 1, none⟩ = some x1 ∧ w.cell? ⟨g, 2, none⟩ = some x2 ∧ w.cell? ⟨g, 3, none⟩ = some x3 ∧ w.frozen? ⟨g, 0, none⟩ = false ∧ w.frozen? ⟨g, 1, none⟩ = false ∧ w.frozen? ⟨g, 2, none⟩ = false ∧ w.frozen? ⟨g, 3, none⟩ = false :=
  ⟨h.cell 0 rfl, h.cell 1 rfl, h.cell 2 rfl, h.cell 3 rfl, h.frozen 0, h.frozen 1, h.frozen 2, h.frozen 3⟩
theorem f5 {x0 x1 x2 x3 x4 : Value} (h : Blk w g T #[x0, x1, x2, x3, x4]) : w.cell? ⟨g, 0, none⟩ = some x0 ∧ w.cell? ⟨g, 1, none⟩ = some x1 ∧ w.cell? ⟨g, 2, none⟩ = some x2 ∧ w.cell? ⟨g, 3, none⟩ = some x3 ∧ w.cell? ⟨g, 4, none⟩ = some x4 ∧ w.frozen? ⟨g, 0, none⟩ = false ∧ w.frozen? ⟨g, 1, none⟩ = false ∧ w.frozen? ⟨g, 2, none⟩ = false ∧ w.frozen? ⟨g, 3, none⟩ = false ∧ w.frozen? ⟨g, 4, none⟩ = false :=
  ⟨h.cell 0 rfl, h.cell 1 rfl, h.cell 2 rfl, h.cell 3 rfl, h.cell 4 rfl, h.frozen 0, h.frozen 1, h.frozen 2, h.frozen 3, h.frozen 4⟩
theorem f6 {x0 x1 x2 x3 x4 x5 : Value} (h : Blk w g T #[x0, x1, x2, x3, x4, x5]) : w.cell? ⟨g, 0, none⟩ = some x0 ∧ w.cell? ⟨g, 1, none⟩ = some x1 ∧ w.cell? ⟨g, 2, none⟩ = some x2 ∧ w.cell? ⟨g, 3, none⟩ = some x3 ∧ w.cell? ⟨g, 4, none⟩ = some x4 ∧ w.cell? ⟨g, 5, none⟩ = some x5 ∧ w.frozen? ⟨g, 0, none⟩ = false ∧ w.frozen? ⟨g, 1, none⟩ = false ∧ w.frozen? ⟨g, 2, none⟩ = false ∧ w.frozen? ⟨g, 3, none⟩ = false ∧ w.frozen? ⟨g, 4, none⟩ = false ∧ w.frozen? ⟨g, 5, none⟩ = false :=
  ⟨h.cell 0 rfl, h.cell 1 rfl, h.cell 2 rfl, h.cell 3 rfl, h.cell 4 rfl, h.cell 5 rfl, h.frozen 0, h.frozen 1, h.frozen 2, h.frozen 3, h.frozen 4, h.frozen 5⟩
theorem f7 {x0 x1 x2 x3 x4 x5 x6 : Value} (h : Blk w g T #[x0, x1, x2, x3, x4, x5, x6]) : w.cell? ⟨g, 0, none⟩ = some x0 ∧ w.cell? ⟨g, 1, none⟩ = some x1 ∧ w.cell? ⟨g, 2, none⟩ = some x2 ∧ w.cell? ⟨g, 3, none⟩ = some x3 ∧ w.cell? ⟨g, 4, none⟩ = some x4 ∧ w.cell? ⟨g, 5, none⟩ = some x5 ∧ w.cell? ⟨g, 6, none⟩ = some x6 ∧ w.frozen? ⟨g, 0, none⟩ = false ∧ w.frozen? ⟨g, 1, none⟩ = false ∧ w.frozen? ⟨g, 2, none⟩ = false ∧ w.frozen? ⟨g, 3, none⟩ = false ∧ w.frozen? ⟨g, 4, none⟩ = false ∧ w.frozen? ⟨g, 5, none⟩ = false ∧ w.frozen? ⟨g, 6, none⟩ = false :=
  ⟨h.cell 0 rfl, h.cell 1 rfl, h.cell 2 rfl, h.cell 3 rfl, h.cell 4 rfl, h.cell 5 rfl, h.cell 6 rfl, h.frozen 0, h.frozen 1, h.frozen 2, h.frozen 3, h.frozen 4, h.frozen 5, h.frozen 6⟩
theorem f8 {x0 x1 x2 x3 x4 x5 x6 x7 : Value} (h : Blk w g T #[x0, x1, x2, x3, x4, x5, x6, x7]) : w.cell? ⟨g, 0, none⟩ = some x0 ∧ w.cell? ⟨g, 1, none⟩ = some x1 ∧ w.cell? ⟨g, 2, none⟩ = some x2 ∧ w.cell? ⟨g, 3, none⟩ = some x3 ∧ w.cell? ⟨g, 4, none⟩ = some x4 ∧ w.cell? ⟨g, 5, none⟩ = some x5 ∧ w.cell? ⟨g, 6, none⟩ = some x6 ∧ w.cell? ⟨g, 7, none⟩ = some x7 ∧ w.frozen? ⟨g, 0, none⟩ = false ∧ w.frozen? ⟨g, 1, none⟩ = false ∧ w.frozen? ⟨g, 2, none⟩ = false ∧ w.frozen? ⟨g, 3, none⟩ = false ∧ w.frozen? ⟨g, 4, none⟩ = false ∧ w.frozen? ⟨g, 5, none⟩ = false ∧ w.frozen? ⟨g, 6, none⟩ = false ∧ w.frozen? ⟨g, 7, none⟩ = false :=
  ⟨h.cell 0 rfl, h.cell 1 rfl, h.cell 2 rfl, h.cell 3 rfl, h.cell 4 rfl, h.cell 5 rfl, h.cell 6 rfl, h.cell 7 rfl, h.frozen 0, h.frozen 1, h.frozen 2, h.frozen 3, h.frozen 4, h.frozen 5, h.frozen 6, h.frozen 7⟩
theorem f9 {x0 x1 x2 x3 x4 x5 x6 x7 x8 : Value} (h : Blk w g T #[x0, x1, x2, x3, x4, x5, x6, x7, x8]) : w.cell? ⟨g, 0, none⟩ = some x0 ∧ w.cell? ⟨g, 1, none⟩ = some x1 ∧ w.cell? ⟨g, 2, none⟩ = some x2 ∧ w.cell? ⟨g, 3, none⟩ = some x3 ∧ w.cell? ⟨g, 4, none⟩ = some x4 ∧ w.cell? ⟨g, 5, none⟩ = some x5 ∧ w.cell? ⟨g, 6, none⟩ = some x6 ∧ w.cell? ⟨g, 7, none⟩ = some x7 ∧ w.cell? ⟨g, 8, none⟩ = some x8 ∧ w.frozen? ⟨g, 0, none⟩ = false ∧ w.frozen? ⟨g, 1, none⟩ = false ∧ w.frozen? ⟨g, 2, none⟩ = false ∧ w.frozen? ⟨g, 3, none⟩ = false ∧ w.frozen? ⟨g, 4, none⟩ = false ∧ w.frozen? ⟨g, 5, none⟩ = false ∧ w.frozen? ⟨g, 6, none⟩ = false ∧ w.frozen? ⟨g, 7, none⟩ = false ∧ w.frozen? ⟨g, 8, none⟩ = false :=
  ⟨h.cell 0 rfl, h.cell 1 rfl, h.cell 2 rfl, h.cell 3 rfl, h.cell 4 rfl, h.cell 5 rfl, h.cell 6 rfl, h.cell 7 rfl, h.cell 8 rfl, h.frozen 0, h.frozen 1, h.frozen 2, h.frozen 3, h.frozen 4, h.frozen 5, h.frozen 6, h.frozen 7, h.frozen 8⟩
end Blk

namespace Fp
variable {P Q : World → Prop} {W W1 : World} {ok ok' : Nat → Prop}
theorem now (h : Fp P W ok) : P W := h W (fun _ _ _ => rfl)
theorem mono (h : Fp P W ok) (hok : ∀ k, ok k → ok' k) : Fp P W ok' := fun W' hW => h W' (fun k hk hlt => hW k (hok k hk) hlt)
theorem bound (h : Fp P W ok) : Fp P W (fun k => ok k ∧ k < W.heap.size) := fun W' hW => h W' (fun k hk hlt => hW k ⟨hk, hlt⟩ hlt)
theorem step (h : Fp P W ok) (hm : ∀ k, ok k → k < W.heap.size → W1.heap[k]? = W.heap[k]?) : Fp P W1 ok := fun W' hW => h W' (fun k hk hlt => (hW k hk (lt_of_same (hm k hk hlt) hlt)).trans (hm k hk hlt))
theorem imp (h : Fp P W ok) (hi : ∀ W', P W' → Q W') : Fp Q W ok := fun W' hW => hi W' (h W' hW)
theorem both (h : Fp P W ok) (k : Fp Q W ok) : Fp (fun w => P w ∧ Q w) W ok := fun W' hW => ⟨h W' hW, k W' hW⟩
/-- Moved over what is new: and still elder than it. -/
theorem old (h : Fp P W ok) (hb : Below W.heap.size W W1) : Fp P W1 (fun k => ok k ∧ k < W.heap.size) := h.bound.step (fun k _ hlt => hb.block k hlt)
theorem below (h : Fp P W ok) (hb : Below W.heap.size W W1) : Fp P W1 ok := h.step (fun k _ hlt => hb.block k hlt)
theorem grown (h : Fp P W ok) {row : Option Nat} (hg : W.grownBy W1 row) (hok : ∀ k, ok k → k < W.heap.size → some k ≠ row) : Fp P W1 ok := h.step (fun k hk hlt => hg.block k hlt (hok k hk hlt))
end Fp

/-- How a value of a kind lies in its cells. -/
structure Kd (α : Type) where
  sz : Nat
  pos : 0 < sz
  K : World → α → List Value → Prop
  len : ∀ {w x cs}, K w x cs → cs.length = sz
  one : ∀ {w x cs}, K w x cs → ∀ u ∈ cs, u.oneCell' = true
  mv : ∀ {w w1 : World} {x cs}, K w x cs → (∀ k, k < w.heap.size → w1.heap[k]? = w.heap[k]?) → K w1 x cs

namespace Kd
variable {α β : Type} {d : Kd α} {w w1 W W1 : World} {A : Option Addr} {xs : List α} {ok ok' : Nat → Prop} {v v1 : Value} {base e : Nat}

/-- Element i lies behind address ad. -/
def At (d : Kd α) (w : World) (ad : Addr) (i : Nat) (x : α) : Prop := ∃ cs, d.K w x cs ∧ ∀ j u, cs[j]? = some u → w.cell? (ad.add (i * d.sz + j)) = some u
/-- A row that is read. -/
def C (d : Kd α) (w : World) (A : Option Addr) (xs : List α) : Prop :=
  xs.length ≤ 9223372036854775807 ∧ (0 < xs.length → ∃ ad, A = some ad ∧ ∀ i x, xs[i]? = some x → d.At w ad i x)

theorem At.mv {ad : Addr} {i : Nat} {x : α} (h : d.At w ad i x) (hm : ∀ k, k < w.heap.size → w1.heap[k]? = w.heap[k]?) : d.At w1 ad i x := by
  obtain ⟨cs, hk, hc⟩ := h
  refine ⟨cs, d.mv hk hm, fun j u hu => ?_⟩
  have h1 := hc j u hu
  exact (cell_of_same (hm _ (World.block_lt_of_cell? w _ h1))).trans h1
theorem C.mv (h : d.C w A xs) (hm : ∀ k, k < w.heap.size → w1.heap[k]? = w.heap[k]?) : d.C w1 A xs := by
  refine ⟨h.1, fun hp => ?_⟩
  obtain ⟨ad, ha, hx⟩ := h.2 hp
  exact ⟨ad, ha, fun i x hi => (hx i x hi).mv hm⟩
theorem C.below (h : d.C w A xs) (hb : Below w.heap.size w w1) : d.C w1 A xs := h.mv (fun k hk => hb.block k hk)
theorem C.fp (h : d.C w A xs) : Fp (fun w => d.C w A xs) w (fun _ => True) := fun W' hW => h.mv (fun k hk => hW k trivial hk)
theorem C.nil : d.C w A [] := ⟨by simp, fun h => by simp at h⟩
theorem C.get (h : d.C w A xs) (z : α) (i : Nat) (hi : i < xs.length) : ∃ ad, A = some ad ∧ d.At w ad i (nth z xs i) := by
  obtain ⟨ad, ha, hx⟩ := h.2 (by omega)
  exact ⟨ad, ha, hx i _ (nth_get? z xs i hi)⟩
theorem K.fp {x : α} {cs : List Value} (h : d.K w x cs) : Fp (fun w => d.K w x cs) w (fun _ => True) := fun W' hW => d.mv h (fun k hk => hW k trivial hk)

theorem add_zero (ad : Addr) : ad.add 0 = ad := rfl
theorem add_add (ad : Addr) (m j : Nat) : (ad.add m).add j = ad.add (m + j) := by
  unfold Addr.add
  by_cases hm : m = 0 <;> by_cases hj : j = 0 <;> simp [hm, hj, Nat.add_assoc]
theorem add_fld (ad : Addr) (m j : Nat) (hj : 0 < j) : ad.add (m + j) = ⟨(ad.add m).block, (ad.add m).off + j, none⟩ := by
  unfold Addr.add
  by_cases hm : m = 0
  · subst hm
    simp [Nat.ne_of_gt hj]
  · simp [hm, Nat.add_assoc]

theorem C.take (h : d.C w A xs) (m : Nat) : d.C w A (xs.take m) := by
  refine ⟨by have := h.1; rw [List.length_take]; omega, fun hp => ?_⟩
  obtain ⟨ad, ha, hx⟩ := h.2 (by rw [List.length_take] at hp; omega)
  refine ⟨ad, ha, fun i x hi => hx i x ?_⟩
  rw [List.getElem?_take] at hi
  split at hi
  · exact hi
  · cases hi
theorem C.drop {c : Nat} (h : d.C w A xs) (hc : xs.length ≤ c) (m : Nat) (hm : m ≤ xs.length) : d.C w (if c = m then A else A.map (·.add (m * d.sz))) (xs.drop m) := by
  refine ⟨by have := h.1; rw [List.length_drop]; omega, fun hp => ?_⟩
  rw [List.length_drop] at hp
  obtain ⟨ad, rfl, hx⟩ := h.2 (by omega)
  rw [if_neg (by omega)]
  refine ⟨ad.add (m * d.sz), rfl, fun i x hi => ?_⟩
  rw [List.getElem?_drop] at hi
  obtain ⟨cs, hk, hcs⟩ := hx _ _ hi
  refine ⟨cs, hk, fun j u hu => ?_⟩
  rw [add_add, ← Nat.add_assoc, ← Nat.add_mul]
  exact hcs j u hu

/-- A value that reads as a list; ok: the blocks that it leads to. -/
def V (d : Kd α) (W : World) (ok : Nat → Prop) (v : Value) (xs : List α) : Prop := ∃ A c, v = .slice A xs.length c ∧ xs.length ≤ c ∧ Fp (fun W => d.C W A xs) W ok
theorem V.mono (h : d.V W ok v xs) (hok : ∀ k, ok k → ok' k) : d.V W ok' v xs := by obtain ⟨A, c, hv, hl, hf⟩ := h; exact ⟨A, c, hv, hl, hf.mono hok⟩
theorem V.step (h : d.V W ok v xs) (hm : ∀ k, ok k → k < W.heap.size → W1.heap[k]? = W.heap[k]?) : d.V W1 ok v xs := by obtain ⟨A, c, hv, hl, hf⟩ := h; exact ⟨A, c, hv, hl, hf.step hm⟩
theorem V.below (h : d.V W ok v xs) (hb : Below W.heap.size W W1) : d.V W1 ok v xs := h.step (fun k _ hlt => hb.block k hlt)
theorem V.old (h : d.V W ok v xs) (hb : Below W.heap.size W W1) : d.V W1 (fun k => ok k ∧ k < W.heap.size) v xs := by obtain ⟨A, c, hv, hl, hf⟩ := h; exact ⟨A, c, hv, hl, hf.old hb⟩
theorem V.bound (h : d.V W ok v xs) : d.V W (fun k => ok k ∧ k < W.heap.size) v xs := by obtain ⟨A, c, hv, hl, hf⟩ := h; exact ⟨A, c, hv, hl, hf.bound⟩
theorem V.reads (h : d.V W ok v xs) : ∃ A c, v = .slice A xs.length c ∧ xs.length ≤ c ∧ d.C W A xs := by obtain ⟨A, c, hv, hl, hf⟩ := h; exact ⟨A, c, hv, hl, hf.now⟩
theorem C.V {c : Nat} (h : d.C W A xs) (hc : xs.length ≤ c) : d.V W (fun _ => True) (.slice A xs.length c) xs := ⟨A, c, rfl, hc, h.fp⟩
theorem V.far {p : Addr} (h : d.V W ok v xs) (hp : ∀ k, ok k → k ≠ p.block) (u : Value) : d.V (W.setCell p u) ok v xs := h.step (fun k hk _ => Below.heap_setCell W p u k (hp k hk))
theorem V.alloc (h : d.V W ok v xs) (o : Obj) : d.V (W.alloc o) ok v xs := h.below (Below.alloc (Below.refl _ _) (Nat.le_refl _) o)
theorem V.drew (h : d.V W ok v xs) : d.V W.drew ok v xs := h.below (Below.drew (Below.refl _ _))
theorem V.drewN (h : d.V W ok v xs) (n : Nat) : d.V (W.drewN n) ok v xs := h.below (pw_below_drewN (Below.refl _ _) n)
theorem V.nil : d.V W ok (.slice none 0 0) [] := ⟨none, 0, rfl, Nat.le_refl _, fun _ _ => C.nil⟩

/-- A row of one's own: it alone holds its block; what its elements lead to lies in ok, and not in that block. -/
def Own (d : Kd α) (e : Nat) (W : World) (base : Nat) (ok : Nat → Prop) (v : Value) (xs : List α) : Prop :=
  ∃ inner, W.ownsRow base e d.sz v xs.length inner ∧ ∀ i x, xs[i]? = some x → Fp (fun W => d.K W x ((inner.drop (i * d.sz)).take d.sz)) W (fun k => ok k ∧ some k ≠ v.ownBlock)

theorem Own.nil : d.Own e W base ok (.slice none 0 0) [] := ⟨[], World.ownsRow_nil W base e d.sz, fun i x h => by simp at h⟩
theorem Own.mono (h : d.Own e W base ok v xs) (hok : ∀ k, ok k → ok' k) : d.Own e W base ok' v xs := by
  obtain ⟨inner, ho, hx⟩ := h
  exact ⟨inner, ho, fun i x hi => (hx i x hi).mono (fun k hk => ⟨hok k hk.1, hk.2⟩)⟩
theorem own_move {base n size : Nat} {e : TypeId} {v : Value} {cs : List Value} (h : w.ownsRow base e size v n cs) (hm : ∀ k, v.ownBlock = some k → w1.heap[k]? = w.heap[k]?) : w1.ownsRow base e size v n cs := by
  obtain ⟨h1, h2⟩ := h
  refine ⟨h1, ?_⟩
  rcases h2 with h2 | ⟨g, cap, cur, rfl, hg, hh, r⟩
  · exact .inl h2
  · exact .inr ⟨g, cap, cur, rfl, hg, (hm g (by simp [Value.ownBlock])).trans hh, r⟩
theorem own_lower {base base' n size : Nat} {e : TypeId} {v : Value} {cs : List Value} (h : w.ownsRow base e size v n cs) (hb : base' ≤ base) : w.ownsRow base' e size v n cs := by
  obtain ⟨h1, h2⟩ := h
  refine ⟨h1, ?_⟩
  rcases h2 with h2 | ⟨g, cap, cur, rfl, hg, r⟩
  · exact .inl h2
  · exact .inr ⟨g, cap, cur, rfl, Nat.le_trans hb hg, r⟩
theorem Own.lower {base' : Nat} (h : d.Own e W base ok v xs) (hb : base' ≤ base) : d.Own e W base' ok v xs := by
  obtain ⟨inner, ho, hx⟩ := h
  exact ⟨inner, own_lower ho hb, hx⟩
theorem Own.blk (h : d.Own e W base ok v xs) (k : Nat) (hk : v.ownBlock = some k) : base ≤ k ∧ k < W.heap.size := by
  obtain ⟨inner, ho, _⟩ := h
  exact ho.lt k hk
/-- Any mover: the row's own block and what is ok stay. -/
theorem Own.step (h : d.Own e W base ok v xs) (hm : ∀ k, (ok k ∨ v.ownBlock = some k) → k < W.heap.size → W1.heap[k]? = W.heap[k]?) : d.Own e W1 base ok v xs := by
  have hb := h.blk
  obtain ⟨inner, ho, hx⟩ := h
  exact ⟨inner, own_move ho (fun k hk => hm k (.inr hk) (hb k hk).2), fun i x hi => (hx i x hi).step (fun k hk hlt => hm k (.inl hk.1) hlt)⟩
theorem Own.below (h : d.Own e W base ok v xs) (hb : Below W.heap.size W W1) : d.Own e W1 base ok v xs := h.step (fun k _ hlt => hb.block k hlt)
theorem Own.bound (h : d.Own e W base ok v xs) : d.Own e W base (fun k => ok k ∧ k < W.heap.size) v xs := by
  obtain ⟨inner, ho, hx⟩ := h
  exact ⟨inner, ho, fun i x hi => (hx i x hi).bound.mono (fun k hk => ⟨⟨hk.1.1, hk.2⟩, hk.1.2⟩)⟩
theorem Own.grown (h : d.Own e W base ok v xs) {row : Option Nat} (hg : W.grownBy W1 row) (h1 : ∀ k, ok k → k < W.heap.size → some k ≠ row) (h2 : ∀ k, v.ownBlock = some k → some k ≠ row) : d.Own e W1 base ok v xs :=
  h.step (fun k hk hlt => hg.block k hlt (hk.elim (fun h => h1 k h hlt) (h2 k)))
theorem Own.far {p : Addr} (h : d.Own e W base ok v xs) (hp : ∀ k, (ok k ∨ v.ownBlock = some k) → k ≠ p.block) (u : Value) : d.Own e (W.setCell p u) base ok v xs :=
  h.step (fun k hk _ => Below.heap_setCell W p u k (hp k hk))
/-- A store into what is elder than the row. -/
theorem Own.set {p : Addr} (h : d.Own e W base ok v xs) (hok : ∀ k, ok k → base ≤ k) (hp : p.block < base) (u : Value) : d.Own e (W.setCell p u) base ok v xs :=
  h.far (fun k hk => by
    rcases hk with hk | hk
    · have := hok k hk; omega
    · have := (h.blk k hk).1; omega) u
theorem Own.alloc (h : d.Own e W base ok v xs) (o : Obj) : d.Own e (W.alloc o) base ok v xs := h.below (Below.alloc (Below.refl _ _) (Nat.le_refl _) o)
theorem Own.drew (h : d.Own e W base ok v xs) : d.Own e W.drew base ok v xs := h.below (Below.drew (Below.refl _ _))
theorem Own.drewN (h : d.Own e W base ok v xs) (n : Nat) : d.Own e (W.drewN n) base ok v xs := h.below (pw_below_drewN (Below.refl _ _) n)
theorem add_plain (g j : Nat) : (⟨g, 0, none⟩ : Addr).add j = ⟨g, j, none⟩ := by unfold Addr.add; split <;> simp_all
theorem elem_cells {inner : List Value} {i sz j : Nat} {u : Value} (h : ((inner.drop (i * sz)).take sz)[j]? = some u) : inner[i * sz + j]? = some u := by
  rw [List.getElem?_take] at h
  split at h
  · rw [List.getElem?_drop] at h
    exact h
  · cases h
theorem Own.shape (h : d.Own e W base ok v xs) : ∃ A c, v = .slice A xs.length c ∧ xs.length ≤ c ∧ c ≤ maxLen := by
  obtain ⟨inner, ho, _⟩ := h
  rcases ho.2 with ⟨rfl, h0⟩ | ⟨g, cap, cur, rfl, _, _, hl, hm, _⟩
  · exact ⟨none, 0, by rw [h0], by omega, by simp [maxLen]⟩
  · exact ⟨_, cap, rfl, hl, hm⟩
theorem Own.V (h : d.Own e W base ok v xs) : d.V W (fun k => ok k ∨ v.ownBlock = some k) v xs := by
  obtain ⟨A, c, hv, hl, hm⟩ := h.shape
  refine ⟨A, c, hv, hl, fun W' hW => ?_⟩
  have h' := h.step (W1 := W') (fun k hk hlt => hW k hk hlt)
  obtain ⟨inner, ho, hx⟩ := h'
  refine ⟨by simp only [maxLen] at hm; omega, fun hp => ?_⟩
  obtain ⟨g, cap, he, _, _⟩ := ho.form hp
  rw [hv] at he
  injection he with he _ _
  subst he
  refine ⟨_, rfl, fun i x hi => ⟨_, (hx i x hi).now, fun j u hu => ?_⟩⟩
  exact ho.cells (g := g) (by rw [hv]; rfl) _ _ (elem_cells hu)
theorem Own.reads (h : d.Own e W base ok v xs) : ∃ A c, v = .slice A xs.length c ∧ xs.length ≤ c ∧ d.C W A xs := h.V.reads
theorem V.C {n c : Nat} (h : d.V W ok (.slice A n c) xs) : d.C W A xs := by
  obtain ⟨A', c', he, _, hr⟩ := h.reads
  injection he with he _ _
  rw [he]
  exact hr
theorem V.n {n c : Nat} (h : d.V W ok (.slice A n c) xs) : xs.length = n ∧ n ≤ c := by
  obtain ⟨A', c', he, hl, _⟩ := h.reads
  injection he with _ hn hc
  rw [hn, hc]
  exact ⟨rfl, hl⟩
theorem Own.C {n c : Nat} (h : d.Own e W base ok (.slice A n c) xs) : d.C W A xs := h.V.C
theorem Own.len (h : d.Own e W base ok v xs) : xs.length ≤ 9223372036854775807 := by
  obtain ⟨A, c, _, hl, hm⟩ := h.shape
  simp only [maxLen] at hm
  omega

theorem ne_new {k g n c : Nat} (hk : k < g) : some k ≠ (Value.slice (some ⟨g, 0, none⟩) n c).ownBlock := by
  intro h
  have h' : some k = some g := h
  injection h' with h'
  omega
theorem ne_nil {k n c : Nat} : some k ≠ (Value.slice none n c).ownBlock := by intro h; cases h

/-- What an append leaves: the row's own block is the old one, or one that is new. -/
theorem Own.appended {ys : List α} {news inner : List Value} {okx : Nat → Prop} (ho : W.ownsRow base e d.sz v xs.length inner)
    (hx : ∀ i x, xs[i]? = some x → Fp (fun W => d.K W x ((inner.drop (i * d.sz)).take d.sz)) W (fun k => ok k ∧ some k ≠ v.ownBlock))
    (hn : W1.ownsRow base e d.sz v1 (xs.length + ys.length) (inner ++ news)) (hg : W.grownBy W1 v.ownBlock) (hat : v1.ownBlock = v.ownBlock ∨ ∃ b, v1.ownBlock = some b ∧ W.heap.size ≤ b)
    (hl : news.length = ys.length * d.sz) (hy : ∀ i y, ys[i]? = some y → Fp (fun W => d.K W y ((news.drop (i * d.sz)).take d.sz)) W okx) (hne : ∀ k, okx k → k < W.heap.size → some k ≠ v.ownBlock) :
    d.Own e W1 base (fun k => ok k ∨ okx k) v1 (xs ++ ys) := by
  have hsep : ∀ k, k < W.heap.size → some k ≠ v.ownBlock → some k ≠ v1.ownBlock := by
    intro k hk hne
    rcases hat with hat | ⟨b, hb, hle⟩
    · rw [hat]; exact hne
    · rw [hb]
      intro he
      injection he with he
      omega
  refine ⟨inner ++ news, by rw [List.length_append]; exact hn, fun i x hi => ?_⟩
  rcases Nat.lt_or_ge i xs.length with h | h
  · rw [List.getElem?_append_left h] at hi
    have h1 : i * d.sz + d.sz ≤ inner.length := by rw [ho.1, ← Nat.succ_mul]; exact Nat.mul_le_mul_right _ h
    rw [List.drop_append_of_le_length (by omega), List.take_append_of_le_length (by rw [List.length_drop]; omega)]
    exact ((hx i x hi).bound.step (fun k hk hlt => hg.block k hlt hk.1.2)).mono (fun k hk => ⟨.inl hk.1.1, hsep k hk.2 hk.1.2⟩)
  · rw [List.getElem?_append_right h] at hi
    have h2 : i * d.sz = inner.length + (i - xs.length) * d.sz := by rw [ho.1, ← Nat.add_mul]; congr 1; omega
    rw [h2, List.drop_append, List.drop_eq_nil_of_le (by omega), List.nil_append, show inner.length + (i - xs.length) * d.sz - inner.length = (i - xs.length) * d.sz by omega]
    exact ((hy _ x hi).bound.step (fun k hk hlt => hg.block k hlt (hne k hk.1 hlt))).mono (fun k hk => ⟨.inr hk.1, hsep k hk.2 (hne k hk.1 hk.2)⟩)

section
variable {P : Program} {ops : Array Oper} {rest : List Oper} {o : Oper} {a : Act} {Q : Exit → Act → World → Prop}
/-- append(v, y): the goal's world is 'W.alloc' of the variadic's box. -/
theorem Own.append1 {w0 : World} {ok okx : Nat → Prop} {y : α} {c : List Value} (hgd : o.guard = none) (s x : Operand) (t : TypeId) (z : Value) (bytes : Nat)
    (ho : o.op = .call { callee := .builtin .append, args := #[s, x], argTypes := #[t, t] })
    (ht : P.underlying t = some (.slice e)) (hinfo : (P.info? e).map (fun i => (i.zero, i.size, i.bytes)) = some (some z, d.sz, bytes)) (hz : z.cells.size = d.sz) (hb0 : 0 < bytes)
    (hs : a.eval s = v) (hx : a.eval x = .slice (some ⟨W.heap.size, 0, none⟩) 1 1)
    (HO : d.Own e W base ok v xs) (HY : Fp (fun W => d.K W y c) W okx) (hne : ∀ k, okx k → k < W.heap.size → some k ≠ v.ownBlock)
    (HB : Below base w0 W) (hbase : base ≤ W.heap.size) (hl : (xs.length + 1) * bytes ≤ 140737488355328)
    (h : ∀ v1 w1, d.Own e w1 base (fun k => ok k ∨ okx k) v1 (xs ++ [y]) → Below base w0 w1 → W.grownBy w1 v.ownBlock → (v1.ownBlock = v.ownBlock ∨ ∃ b, v1.ownBlock = some b ∧ W.heap.size ≤ b) → wpList P ops Q rest (a.put o.dst v1) w1) :
    wpList P ops Q (o :: rest) a (W.alloc (.cells c.toArray e)) := by
  obtain ⟨i0, hi, hzz⟩ := Option.map_eq_some_iff.1 hinfo
  simp only [Prod.mk.injEq] at hzz
  obtain ⟨hz0, hz1, hz2⟩ := hzz
  have hlen : xs.length + 1 ≤ 140737488355328 := Nat.le_trans (Nat.le_mul_of_pos_right _ hb0) hl
  have hb := HO.blk
  obtain ⟨inner, ho', hx'⟩ := HO
  have hcl := d.len HY.now
  refine wpList_append_own_at (W.alloc (.cells c.toArray e)) hgd s x t ho base e i0 z d.sz bytes ht hi hz0 hz1 hz2 hz d.pos v xs.length inner hs (ho'.alloc _) ⟨W.heap.size, 0, none⟩ 1 1 c hx (by rw [hcl]; simp)
    (by simpa using World.news_of_block (cs := c.toArray) (t := e) (fr := (0, 0)) (heap_alloc_new W (.cells c.toArray e))) (d.one HY.now) (by simp only [maxLen]; omega) hl (by simp; omega) ?_
  intro v1 w1 hown hg _ hat
  have hg2 : W.grownBy w1 v.ownBlock := World.grownBy.trans (World.grownBy_alloc W _ _) hg
  have hat2 : v1.ownBlock = v.ownBlock ∨ ∃ b, v1.ownBlock = some b ∧ W.heap.size ≤ b := by
    rcases hat with hat | hat
    · exact .inl hat
    · exact .inr ⟨_, hat, by simp⟩
  refine h v1 w1 (Own.appended (ys := [y]) ho' hx' (by simpa using hown) hg2 hat2 (by simpa using hcl) (fun i y' hy => ?_) hne) ((HB.alloc hbase _).grown hg (by simp; omega) (fun k hk => (hb k hk).1)) hg2 hat2
  rcases i with _ | i
  · have e : y = y' := by simpa using hy
    subst e
    simp only [Nat.zero_mul, List.drop_zero]
    rw [← hcl, List.take_length]
    exact HY
  · simp at hy
end

/-- The cells of a row that is read, one behind the other. -/
theorem cells_of {ad : Addr} {ys : List α} (h : ∀ i y, ys[i]? = some y → d.At w ad i y) : ∃ news : List Value, news.length = ys.length * d.sz ∧ (∀ j u, news[j]? = some u → w.cell? (ad.add j) = some u) ∧
    (∀ i y, ys[i]? = some y → d.K w y ((news.drop (i * d.sz)).take d.sz)) ∧ ∀ u ∈ news, u.oneCell' = true := by
  suffices H : ∀ n, n ≤ ys.length → ∃ news : List Value, news.length = n * d.sz ∧ (∀ j u, news[j]? = some u → w.cell? (ad.add j) = some u) ∧
      (∀ i y, i < n → ys[i]? = some y → d.K w y ((news.drop (i * d.sz)).take d.sz)) ∧ ∀ u ∈ news, u.oneCell' = true by
    obtain ⟨news, h1, h2, h3, h4⟩ := H ys.length (Nat.le_refl _)
    exact ⟨news, h1, h2, fun i y hi => h3 i y (List.getElem?_eq_some_iff.1 hi).1 hi, h4⟩
  intro n
  induction n with
  | zero => intro _; exact ⟨[], by simp, fun j u hu => by simp at hu, fun i y hi => by omega, fun u hu => by simp at hu⟩
  | succ n ih =>
    intro hn
    obtain ⟨news, h1, h2, h3, h4⟩ := ih (by omega)
    obtain ⟨cs, hk, hc⟩ := h n _ (List.getElem?_eq_getElem (show n < ys.length by omega))
    have hl := d.len hk
    refine ⟨news ++ cs, by rw [List.length_append, h1, hl, Nat.succ_mul], fun j u hu => ?_, fun i y hi hy => ?_, fun u hu => ?_⟩
    · rcases Nat.lt_or_ge j news.length with hj | hj
      · rw [List.getElem?_append_left hj] at hu
        exact h2 j u hu
      · rw [List.getElem?_append_right hj] at hu
        have := hc _ u hu
        rwa [← h1, Nat.add_sub_cancel' hj] at this
    · rcases Nat.lt_or_ge i n with h' | h'
      · have h5 : i * d.sz + d.sz ≤ news.length := by rw [h1, ← Nat.succ_mul]; exact Nat.mul_le_mul_right _ h'
        rw [List.drop_append_of_le_length (by omega), List.take_append_of_le_length (by rw [List.length_drop]; omega)]
        exact h3 i y h' hy
      · obtain rfl : i = n := by omega
        rw [List.getElem?_eq_getElem (show i < ys.length by omega)] at hy
        obtain rfl := Option.some.inj hy
        rw [← h1, List.drop_left, ← hl, List.take_length]
        exact hk
    · rcases List.mem_append.1 hu with hu | hu
      · exact h4 u hu
      · exact d.one hk u hu

section
variable {P : Program}
/-- append(v, ys...), the run alone. -/
theorem Own.run_appendRow {ok okx : Nat → Prop} {ys : List α} {m cc : Nat} (t ty : TypeId) (z : Value) (bytes : Nat)
    (ht : P.underlying t = some (.slice e)) (hinfo : (P.info? e).map (fun i => (i.zero, i.size, i.bytes)) = some (some z, d.sz, bytes)) (hz : z.cells.size = d.sz) (hb0 : 0 < bytes)
    (HO : d.Own e W base ok v xs) (HY : Fp (fun W => d.C W A ys) W okx) (hm : ys.length = m) (hne : ∀ k, okx k → k < W.heap.size → some k ≠ v.ownBlock)
    (hbase : base ≤ W.heap.size) (hl : (xs.length + m) * bytes ≤ 140737488355328) :
    ∃ v1 w1, (Builtin.append_ #[t, t] ty #[v, .slice A m cc]).run P W = .ok v1 w1 ∧ d.Own e w1 base (fun k => ok k ∨ okx k) v1 (xs ++ ys) ∧ W.grownBy w1 v.ownBlock ∧ (v1.ownBlock = v.ownBlock ∨ ∃ b, v1.ownBlock = some b ∧ W.heap.size ≤ b) := by
  obtain ⟨i0, hi, hzz⟩ := Option.map_eq_some_iff.1 hinfo
  simp only [Prod.mk.injEq] at hzz
  obtain ⟨hz0, hz1, hz2⟩ := hzz
  subst hm
  have hlen : xs.length + ys.length ≤ 140737488355328 := Nat.le_trans (Nat.le_mul_of_pos_right _ hb0) hl
  rcases A with _ | ad
  · have h0 : ys = [] := by
      rcases Nat.eq_zero_or_pos ys.length with h0 | h0
      · exact List.eq_nil_of_length_eq_zero h0
      · obtain ⟨ad, h, _⟩ := HY.now.2 h0
        cases h
    subst h0
    refine ⟨v, W, ?_, by rw [List.append_nil]; exact HO.mono (fun k hk => .inl hk), World.grownBy.refl W _, .inl rfl⟩
    obtain ⟨inner, ho, _⟩ := HO
    rcases ho.2 with ⟨rfl, hn⟩ | ⟨g, cap, cur, rfl, _, _, hnc, _⟩
    · simp [Builtin.append_, run_underlying ht, sizeOf, typeInfo, hi, Builtin.lenOf, Builtin.firstCells]
    · simp [Builtin.append_, run_underlying ht, sizeOf, typeInfo, hi, Builtin.lenOf, Builtin.firstCells, hnc, storeCells]
  · -- the cells, in every world that has W's blocks of okx
    have hC : ∃ news : List Value, news.length = ys.length * d.sz ∧ (∀ j u, news[j]? = some u → W.cell? (ad.add j) = some u) ∧
        (∀ i y, ys[i]? = some y → Fp (fun W => d.K W y ((news.drop (i * d.sz)).take d.sz)) W okx) ∧ ∀ u ∈ news, u.oneCell' = true := by
      rcases Nat.eq_zero_or_pos ys.length with h0 | h0
      · obtain rfl := List.eq_nil_of_length_eq_zero h0
        exact ⟨[], by simp, fun j u hu => by simp at hu, fun i y hi => by simp at hi, fun u hu => by simp at hu⟩
      · obtain ⟨ad', ha, hx⟩ := HY.now.2 h0
        injection ha with ha
        subst ha
        obtain ⟨news, h1, h2, h3, h4⟩ := cells_of hx
        refine ⟨news, h1, h2, fun i y hi W' hW => ?_, h4⟩
        obtain ⟨ad', ha, hx'⟩ := (HY W' hW).2 h0
        injection ha with ha
        subst ha
        obtain ⟨cs, hk, hc⟩ := hx' i y hi
        have hlt := (List.getElem?_eq_some_iff.1 hi).1
        have h5 : i * d.sz + d.sz ≤ news.length := by rw [h1, ← Nat.succ_mul]; exact Nat.mul_le_mul_right _ hlt
        -- the cells that W' has there are W's
        suffices hs : (news.drop (i * d.sz)).take d.sz = cs by rw [hs]; exact hk
        have hcl := d.len hk
        apply List.ext_getElem?
        intro j
        rcases Nat.lt_or_ge j d.sz with hj | hj
        · have e1 : ((news.drop (i * d.sz)).take d.sz)[j]? = news[i * d.sz + j]? := by rw [List.getElem?_take, if_pos hj, List.getElem?_drop]
          rw [e1]
          obtain ⟨u, hu⟩ : ∃ u, cs[j]? = some u := ⟨cs[j]'(by omega), List.getElem?_eq_getElem (by omega)⟩
          obtain ⟨u', hu'⟩ : ∃ u', news[i * d.sz + j]? = some u' := ⟨news[i * d.sz + j]'(by omega), List.getElem?_eq_getElem (by omega)⟩
          rw [hu, hu']
          have c1 := hc j u hu
          have c2 := h2 _ _ hu'
          -- W'' : W', but for the blocks that W' has otherwise than W: those are not of okx
          by_cases hb : W'.heap[(ad.add (i * d.sz + j)).block]? = W.heap[(ad.add (i * d.sz + j)).block]?
          · rw [cell_of_same hb, c2] at c1
            exact c1
          · exfalso
            -- strike that block from the world: the footprint still reads
            have hbl : (ad.add (i * d.sz + j)).block < W.heap.size := World.block_lt_of_cell? W _ c2
            have hno : ¬ okx (ad.add (i * d.sz + j)).block := fun hok => hb (hW _ hok hbl)
            let W2 : World := { W with heap := W.heap.setIfInBounds (ad.add (i * d.sz + j)).block (.map #[] 0) }
            have h6 := HY W2 (fun k hk hlt => by
              show (W.heap.setIfInBounds (ad.add (i * d.sz + j)).block (.map #[] 0))[k]? = _
              rw [Array.getElem?_setIfInBounds_ne (by intro h; rw [← h] at hk; exact hno hk)])
            obtain ⟨ad2, ha2, hx2⟩ := h6.2 h0
            injection ha2 with ha2
            subst ha2
            obtain ⟨cs2, hk2, hc2⟩ := hx2 i y hi
            have hcl2 := d.len hk2
            have c3 := hc2 j _ (List.getElem?_eq_getElem (show j < cs2.length by omega))
            have c4 : W2.heap[(ad.add (i * d.sz + j)).block]? = some (.map #[] 0) := by
              show (W.heap.setIfInBounds _ _)[_]? = _
              rw [Array.getElem?_setIfInBounds_self_of_lt hbl]
            simp only [World.cell?, c4] at c3
            cases c3
        · rw [List.getElem?_eq_none (by rw [List.length_take]; omega), List.getElem?_eq_none (by omega)]
    obtain ⟨news, h1, h2, h3, h4⟩ := hC
    obtain ⟨inner, ho', hx'⟩ := HO
    obtain ⟨v1, w1, hr, hown, hg, _, hat⟩ := run_append_own_at (P := P) W base t ty e i0 z d.sz bytes ht hi hz0 hz1 hz2 hz d.pos v xs.length inner ho' ad ys.length cc news h1 h2 h4 (by simp only [maxLen]; omega) hl hbase
    have hat2 : v1.ownBlock = v.ownBlock ∨ ∃ b, v1.ownBlock = some b ∧ W.heap.size ≤ b := by
      rcases hat with hat | hat
      · exact .inl hat
      · exact .inr ⟨_, hat, Nat.le_refl _⟩
    exact ⟨v1, w1, hr, Own.appended ho' hx' hown hg hat2 h1 h3 hne, hg, hat2⟩

variable {ops : Array Oper} {rest : List Oper} {o : Oper} {a : Act} {Q : Exit → Act → World → Prop}
/-- append(v, ys...), at the operation. -/
theorem Own.appendRow {w0 : World} {ok okx : Nat → Prop} {ys : List α} {m cc : Nat} (hgd : o.guard = none) (s x : Operand) (t : TypeId) (z : Value) (bytes : Nat)
    (ho : o.op = .call { callee := .builtin .append, args := #[s, x], argTypes := #[t, t] })
    (ht : P.underlying t = some (.slice e)) (hinfo : (P.info? e).map (fun i => (i.zero, i.size, i.bytes)) = some (some z, d.sz, bytes)) (hz : z.cells.size = d.sz) (hb0 : 0 < bytes)
    (hs : a.eval s = v) (hx : a.eval x = .slice A m cc)
    (HO : d.Own e W base ok v xs) (HY : Fp (fun W => d.C W A ys) W okx) (hm : ys.length = m) (hne : ∀ k, okx k → k < W.heap.size → some k ≠ v.ownBlock)
    (HB : Below base w0 W) (hbase : base ≤ W.heap.size) (hl : (xs.length + m) * bytes ≤ 140737488355328)
    (h : ∀ v1 w1, d.Own e w1 base (fun k => ok k ∨ okx k) v1 (xs ++ ys) → Below base w0 w1 → W.grownBy w1 v.ownBlock → (v1.ownBlock = v.ownBlock ∨ ∃ b, v1.ownBlock = some b ∧ W.heap.size ≤ b) → wpList P ops Q rest (a.put o.dst v1) w1) :
    wpList P ops Q (o :: rest) a W := by
  have hb := HO.blk
  obtain ⟨v1, w1, hr, hown, hg, hat⟩ := Own.run_appendRow (P := P) (cc := cc) t o.type z bytes ht hinfo hz hb0 HO HY hm hne hbase hl
  refine wpList_plain hgd fun K hK => ?_
  unfold Oper.wp execOp
  simp only [ho, resolve, invoke, builtin, Sem.run_bind, Sem.run_pure, Result.andThen_ok, List.map_toArray, List.map_cons, List.map_nil, hs, hx, hr]
  exact hK _ _ (h v1 w1 hown (HB.grown hg hbase (fun k hk => (hb k hk).1)) hg hat)
end

/-- A literal, or a make: the row that it leaves. -/
theorem Own.lit {xs : List α} {inner : List Value} (W : World) (e : Nat) (hb : base ≤ W.heap.size) (hm : xs.length ≤ maxLen) (hl : inner.length = xs.length * d.sz)
    (hx : ∀ i x, xs[i]? = some x → Fp (fun W => d.K W x ((inner.drop (i * d.sz)).take d.sz)) W ok) : d.Own e (W.alloc (.cells inner.toArray e)) base ok (.slice (some ⟨W.heap.size, 0, none⟩) xs.length xs.length) xs := by
  have h := World.ownsRow_lit (base := base) (e := e) (size := d.sz) W inner.toArray xs.length hb hm (by simpa using hl)
  refine ⟨inner, by simpa using h, fun i x hi => ?_⟩
  exact ((hx i x hi).old (W1 := W.alloc (.cells inner.toArray e)) (Below.alloc (Below.refl _ _) (Nat.le_refl _) _)).mono (fun k hk => ⟨hk.1, by simp only [Value.ownBlock]; intro h; injection h with h; have := hk.2; omega⟩)

/-- A cell that is there whatever else has changed lies in a block of the footprint. -/
theorem Fp.touch {W : World} {ok : Nat → Prop} {a : Addr} (h : Fp (fun W => ∃ u, W.cell? a = some u) W ok) : ok a.block := by
  by_cases hok : ok a.block
  · exact hok
  · exfalso
    obtain ⟨u, hu⟩ := h.now
    have hlt := World.block_lt_of_cell? W _ hu
    let W2 : World := { W with heap := W.heap.setIfInBounds a.block (.map #[] 0) }
    obtain ⟨u2, h2⟩ := h W2 (fun k hk _ => by
      show (W.heap.setIfInBounds a.block (.map #[] 0))[k]? = _
      rw [Array.getElem?_setIfInBounds_ne (by intro h; rw [← h] at hk; exact hok hk)])
    have c4 : W2.heap[a.block]? = some (.map #[] 0) := by
      show (W.heap.setIfInBounds _ _)[_]? = _
      rw [Array.getElem?_setIfInBounds_self_of_lt hlt]
    simp only [World.cell?, c4] at h2
    cases h2
/-- An element of a row that is read: its cells, and what they lead to. -/
theorem V.elem {ad : Addr} {n c : Nat} (h : d.V W ok (.slice (some ad) n c) xs) (i : Nat) (x : α) (hi : xs[i]? = some x) :
    ∃ cs, (∀ j u, cs[j]? = some u → W.cell? (ad.add (i * d.sz + j)) = some u) ∧ Fp (fun W => d.K W x cs) W ok := by
  obtain ⟨A', c', he, _, hf⟩ := h
  injection he with ha _ _
  subst ha
  have hp : 0 < xs.length := by have := (List.getElem?_eq_some_iff.1 hi).1; omega
  have hat : Fp (fun W => d.At W ad i x) W ok := hf.imp (fun W' hC => by
    obtain ⟨ad', ha, hx⟩ := hC.2 hp
    injection ha with ha
    subst ha
    exact hx i x hi)
  obtain ⟨cs, hk, hcs⟩ := hat.now
  refine ⟨cs, hcs, fun W' hW => ?_⟩
  obtain ⟨cs', hk', hcs'⟩ := hat W' hW
  suffices hs : cs = cs' by rw [hs]; exact hk'
  have hl := d.len hk
  have hl' := d.len hk'
  apply List.ext_getElem?
  intro j
  rcases Nat.lt_or_ge j d.sz with hj | hj
  · obtain ⟨u, hu⟩ : ∃ u, cs[j]? = some u := ⟨cs[j]'(by omega), List.getElem?_eq_getElem (by omega)⟩
    obtain ⟨u', hu'⟩ : ∃ u', cs'[j]? = some u' := ⟨cs'[j]'(by omega), List.getElem?_eq_getElem (by omega)⟩
    have c1 := hcs j u hu
    have c2 := hcs' j u' hu'
    have hok : ok (ad.add (i * d.sz + j)).block := Fp.touch (W := W) (fun W'' hW'' => by
      obtain ⟨cs'', hk'', hcs''⟩ := hat W'' hW''
      have hl'' := d.len hk''
      exact ⟨_, hcs'' j _ (List.getElem?_eq_getElem (by omega))⟩)
    rw [cell_of_same (hW _ hok (World.block_lt_of_cell? W _ c1)), c1] at c2
    rw [hu, hu']
    exact c2
  · rw [List.getElem?_eq_none (by omega), List.getElem?_eq_none (by omega)]
theorem V.drop {n c : Nat} (h : d.V W ok (.slice A n c) xs) (m : Nat) (hm : m ≤ xs.length) : d.V W ok (.slice (if c = m then A else A.map (·.add (m * d.sz))) (n - m) (c - m)) (xs.drop m) := by
  have hn := h.n
  obtain ⟨A', c', he, hl, hf⟩ := h
  injection he with ha hn' hc'
  subst ha; subst hc'
  refine ⟨_, c - m, by rw [List.length_drop, hn'], by rw [List.length_drop]; omega, hf.imp (fun W' hC => hC.drop hl m hm)⟩
theorem V.take {n c : Nat} (h : d.V W ok (.slice A n c) xs) (m : Nat) (hm : m ≤ xs.length) (c' : Nat) (hc : m ≤ c') : d.V W ok (.slice A m c') (xs.take m) := by
  obtain ⟨A', c1, he, hl, hf⟩ := h
  injection he with ha hn' hc'
  subst ha
  have h1 : (xs.take m).length = m := by rw [List.length_take]; omega
  exact ⟨A, c', by rw [h1], by rw [h1]; exact hc, hf.imp (fun W' hC => hC.take m)⟩
end Kd
end Go.Proofs.Ytkgkiencikmhfaa.B
