/- What this text holds: laws on copy, append of zeros and clear at elements of any size; rows in segments. -/
import Derived.Test.YtkgkiencikmhfaaBase
import Derived.Laws.CopyRow
import Derived.Lib.Overlaps
import Derived.Laws.Append
set_option linter.unusedVariables false
set_option linter.unusedSimpArgs false
namespace Go.Proofs.Ytkgkiencikmhfaa.B
open Go.RowKit

theorem add_lit (b o j : Nat) : (⟨b, o, none⟩ : Addr).add j = ⟨b, o + j, none⟩ := by
  unfold Addr.add
  by_cases h : j = 0
  · subst h; rfl
  · rw [if_neg h]
theorem cell_row {w : World} {g i T : Nat} {cur : Array Value} {v : Value} (h : w.heap[g]? = some (.cells cur T (0, 0))) (hv : cur.toList[i]? = some v) : w.cell? ⟨g, i, none⟩ = some v := by
  simp [World.cell?, h]
  simpa using hv

section
variable {P : Program}
/-- copy onto a block of one's own, elements of size cells each. -/
theorem run_copy_cells (w : World) (dT sT ty elem : TypeId) (size g o dLen dCap : Nat) (a : Addr) (sLen sCap n : Nat) (cur : Array Value) (t : TypeId) (cs : List Value)
    (hu : P.underlying dT = some (.slice elem)) (hs : (P.info? elem).map (·.size) = some size)
    (hg : w.heap[g]? = some (.cells cur t (0, 0))) (hn : n = Nat.min sLen dLen) (hl : cs.length = n * size)
    (hsrc : ∀ j v, cs[j]? = some v → w.cell? (a.add j) = some v) (hfit : o + cs.length ≤ cur.size) (h1 : ∀ v ∈ cs, v.oneCell' = true) :
    (Builtin.copy_ #[dT, sT] ty #[.slice (some ⟨g, o, none⟩) dLen dCap, .slice (some a) sLen sCap]).run P w =
      .ok (goInt n) (w.setRow g (cur.toList.take o ++ cs ++ cur.toList.drop (o + cs.length)).toArray) := by
  have hl2 := run_loadCells_list (P := P) w a cs hsrc
  have hst := run_storeCells_at P g o t cs 0 cur w hg (by simpa using hfit) h1
  cases hq : P.info? elem with
  | none => simp [hq] at hs
  | some i =>
    have hi : i.size = size := by simpa [hq] using hs
    simp [Builtin.copy_, run_underlying hu, Builtin.lenOf, Builtin.firstCells, sizeOf, typeInfo, hq, hi, ← hn, ← hl, hl2, hst]

section
variable {ops : Array Oper} {rest : List Oper} {o : Oper} {a : Act} {w : World} {Q : Exit → Act → World → Prop} {K : Act → World → Prop}
/-- A builtin of two arguments whose run is known by an equation. -/
theorem wpList_two_run (b : Builtin) (f : Array TypeId → TypeId → Array Value → Sem Value) (hf : ∀ ats ty cs ags, builtin b ats ty cs ags = (do pure (.value (← f ats ty ags)))) (hgd : o.guard = none) (d s : Operand) (t t' : TypeId)
    (ho : o.op = .call { callee := .builtin b, args := #[d, s], argTypes := #[t, t'] }) (v u : Value) (hd : a.eval d = v) (hs : a.eval s = u) {v' : Value} {w' : World}
    (hr : (f #[t, t'] o.type #[v, u]).run P w = .ok v' w') (h : wpList P ops Q rest (a.put o.dst v') w') : wpList P ops Q (o :: rest) a w := by
  refine wpList_plain hgd fun K hK => ?_
  unfold Oper.wp execOp
  simp only [ho, resolve, invoke, hf, Sem.run_bind, Sem.run_pure, Result.andThen_ok, List.map_toArray, List.map_cons, List.map_nil, hd, hs, hr]
  exact hK _ _ h
theorem wpList_one_run (b : Builtin) (f : Array TypeId → TypeId → Array Value → Sem Value) (hf : ∀ ats ty cs ags, builtin b ats ty cs ags = (do pure (.value (← f ats ty ags)))) (hgd : o.guard = none) (d : Operand) (t : TypeId)
    (ho : o.op = .call { callee := .builtin b, args := #[d], argTypes := #[t] }) (v : Value) (hd : a.eval d = v) {v' : Value} {w' : World}
    (hr : (f #[t] o.type #[v]).run P w = .ok v' w') (h : wpList P ops Q rest (a.put o.dst v') w') : wpList P ops Q (o :: rest) a w := by
  refine wpList_plain hgd fun K hK => ?_
  unfold Oper.wp execOp
  simp only [ho, resolve, invoke, hf, Sem.run_bind, Sem.run_pure, Result.andThen_ok, List.map_toArray, List.map_cons, List.map_nil, hd, hr]
  exact hK _ _ h
/-- The same as one step of a region that draws. -/
theorem step_two_run {E : Prop} (b : Builtin) (f : Array TypeId → TypeId → Array Value → Sem Value) (hf : ∀ ats ty cs ags, builtin b ats ty cs ags = (do pure (.value (← f ats ty ags)))) (hg : o.guard = none) (d x : Operand) (dT sT : TypeId)
    (hop : o.op = Op.call { callee := Callee.builtin b, args := #[d, x], argTypes := #[dT, sT] })
    (v u : Value) (hd : a.eval d = v) (hx : a.eval x = u) {v' : Value} {w' : World} (hr : (f #[dT, sT] o.type #[v, u]).run P w = .ok v' w') (hK : K (a.put o.dst v') w') :
    if Region.wanted o (yielded ops a.tmps) = true then Oper.wp P o a w K Q else E := by
  have hw : Region.wanted o (yielded ops a.tmps) = true := by simp [Region.wanted, hg]
  rw [if_pos hw]
  unfold Oper.wp
  simp [execOp, hop, resolve, invoke, hf, hd, hx, hr, Result.andThen]
  exact hK
end

/-- 's[m:]', without a case on the capacity. -/
theorem cut_from (t e : TypeId) (kl : IntKind) (size : Nat) (ht : P.underlying t = some (.slice e)) (hi : (P.info? e).map (·.size) = some size) (A : Option Addr) (n c m : Nat) (hm : m ≤ n) :
    ∃ A' : Option Addr, (∀ W : World, (Instr.slice t (.slice A n c) (some (.int kl (m : Int))) none none).run P W = .ok (.slice A' (n - m) (c - m)) W) ∧ A' = (if c = m then A else A.map (·.add (m * size))) := by
  refine ⟨_, fun W => ?_, rfl⟩
  obtain ⟨i, hq, hsz⟩ := Option.map_eq_some_iff.1 hi
  have hel : P.elem t = e := by simp [Program.elem, ht]
  have hu : P.underlying t = some (.slice (P.elem t)) := by rw [hel]; exact ht
  rw [run_slice_l W t A n c hu kl (m : Int) (Int.natCast_nonneg _) (by omega), hel]
  simp [sizeOf, typeInfo, hq, hsz, sliced, Result.andThen]

/-- append(s, make([]T, m)...) where there is no room. -/
theorem run_append_zeros_grow (w : World) (t ti ty e : TypeId) (i : TypeInfo) (z : Value) (size bytes : Nat) (ht : P.underlying t = some (.slice e)) {k : IntKind} (hti : P.underlying ti = some (.int k)) (hi : P.info? e = some i) (hz : i.zero = some z)
    (hsize : i.size = size) (hby : i.bytes = bytes) (hzs : z.cells.size = size) (hsz : 0 < size)
    (a : Addr) (n cap : Nat) (olds : List Value) (hlo : olds.length = n * size) (holds : ∀ j u, olds[j]? = some u → w.cell? (a.add j) = some u) (kx : IntKind) (m : Nat) (hm0 : 0 < m)
    (hcap : cap < n + m) (hbytes : (n + m) * bytes ≤ 140737488355328) (hb0 : 0 < bytes) :
    (Builtin.append_ #[t, ti] ty #[.slice (some a) n cap, .int kx m]).run P w =
      .ok (.slice (some ⟨w.heap.size, 0, none⟩) (n + m) (grownCap w (n + m) cap e)) (w.drew.alloc (.cells (olds.toArray ++ Builtin.zeroCells z.cells m ++ Builtin.zeroCells z.cells (grownCap w (n + m) cap e - (n + m))) e)) := by
  subst hsize
  subst hby
  have hle : n + m ≤ 140737488355328 := Nat.le_trans (Nat.le_mul_of_pos_right _ hb0) hbytes
  have hw : IntKind.i64.wrap (m : Int) = m := by rw [IntKind.wrap_i64]; omega
  have hneg : ¬ ((m : Int) < 0) := by omega
  have hmb : m * i.bytes ≤ 140737488355328 := Nat.le_trans (Nat.mul_le_mul_right _ (Nat.le_add_left m n)) hbytes
  have hbig : ¬ (281474976710656 < (m : Int) * (i.bytes : Int)) := by
    rw [← Int.natCast_mul]
    omega
  have hsn : i.size ≠ 0 := by omega
  have hn : ¬ (n + m ≤ cap) := by omega
  have h63' : ¬ (9223372036854775807 < ((n : Int) + (m : Int))) := by omega
  have hfit := growslice_fits hcap hbytes
  have h48' : ¬ (281474976710656 < Builtin.nextslicecap (n + m) cap * i.bytes) := by omega
  have hmz : ¬ (m * i.size = 0) := Nat.mul_ne_zero (by omega) hsn
  have hfo := run_firstCells_some (P := P) w.drew i.size n a n cap olds hlo (by simpa using holds)
  simp [Builtin.append_, run_underlying ht, run_underlying hti, sizeOf, typeInfo, zeroValue, hi, hz, asInt, asIntOf, hw, hneg, hbig, hn, h63', h48', Question.forced, hfo, newRow, grownCap, hmz]

/-- clear of a part of a block of one's own. -/
theorem run_clear_cells (w : World) (t ty elem : TypeId) (i : TypeInfo) (z : Value) (g o n cap : Nat) (cur : Array Value) (tb : TypeId) (ht : P.underlying t = some (.slice elem)) (hi : P.info? elem = some i) (hz : i.zero = some z)
    (hn : 0 < n) (hg : w.heap[g]? = some (.cells cur tb (0, 0))) (hfit : o + n * z.cells.size ≤ cur.size) (h1 : ∀ u ∈ (Builtin.zeroCells z.cells n).toList, u.oneCell' = true) :
    (Builtin.clear_ #[t] ty #[.slice (some ⟨g, o, none⟩) n cap]).run P w =
      .ok (.tuple #[]) (w.setRow g (cur.toList.take o ++ (Builtin.zeroCells z.cells n).toList ++ cur.toList.drop (o + n * z.cells.size)).toArray) := by
  have hl : (Builtin.zeroCells z.cells n).toList.length = n * z.cells.size := by rw [Array.length_toList, size_zeroCells]
  have hst := run_storeCells_at P g o tb (Builtin.zeroCells z.cells n).toList 0 cur w hg (by rw [hl]; simpa using hfit) h1
  rw [hl] at hst
  obtain ⟨m, rfl⟩ : ∃ m, n = m + 1 := ⟨n - 1, by omega⟩
  simp only [Nat.add_zero] at hst
  simp [Builtin.clear_, run_underlying ht, zeroValue, typeInfo, hi, hz, hst]
end

namespace Kd
variable {α : Type} {d : Kd α} {w W W1 : World} {xs ys : List α} {a b : List Value} {ok ok' : Nat → Prop} {v v1 : Value} {base e : Nat}
/-- Cells in segments, an element each. -/
def Segs (d : Kd α) (W : World) (ok : Nat → Prop) (inner : List Value) (xs : List α) : Prop :=
  inner.length = xs.length * d.sz ∧ ∀ i x, xs[i]? = some x → Fp (fun W => d.K W x ((inner.drop (i * d.sz)).take d.sz)) W ok
theorem Segs.mono (h : d.Segs W ok a xs) (hok : ∀ k, ok k → ok' k) : d.Segs W ok' a xs := ⟨h.1, fun i x hi => (h.2 i x hi).mono hok⟩
theorem Segs.bound (h : d.Segs W ok a xs) : d.Segs W (fun k => ok k ∧ k < W.heap.size) a xs := ⟨h.1, fun i x hi => (h.2 i x hi).bound⟩
theorem Segs.step (h : d.Segs W ok a xs) (hm : ∀ k, ok k → k < W.heap.size → W1.heap[k]? = W.heap[k]?) : d.Segs W1 ok a xs := ⟨h.1, fun i x hi => (h.2 i x hi).step hm⟩
theorem Segs.nil : d.Segs W ok [] [] := ⟨by simp, fun i x h => by simp at h⟩
theorem Segs.one {x : α} {c : List Value} (h : Fp (fun W => d.K W x c) W ok) : d.Segs W ok c [x] := by
  have hl := d.len h.now
  refine ⟨by simpa using hl, fun i y hi => ?_⟩
  rcases i with _ | i
  · have e : x = y := by simpa using hi
    subst e
    simp only [Nat.zero_mul, List.drop_zero]
    rw [← hl, List.take_length]
    exact h
  · simp at hi
theorem Segs.append (h : d.Segs W ok a xs) (k : d.Segs W ok b ys) : d.Segs W ok (a ++ b) (xs ++ ys) := by
  refine ⟨by rw [List.length_append, h.1, k.1, List.length_append, Nat.add_mul], fun i x hi => ?_⟩
  rcases Nat.lt_or_ge i xs.length with hlt | hge
  · rw [List.getElem?_append_left hlt] at hi
    have h1 : i * d.sz + d.sz ≤ a.length := by rw [h.1, ← Nat.succ_mul]; exact Nat.mul_le_mul_right _ hlt
    rw [List.drop_append_of_le_length (by omega), List.take_append_of_le_length (by rw [List.length_drop]; omega)]
    exact h.2 i x hi
  · rw [List.getElem?_append_right hge] at hi
    have h2 : i * d.sz = a.length + (i - xs.length) * d.sz := by rw [h.1, ← Nat.add_mul]; congr 1; omega
    rw [h2, List.drop_append, List.drop_eq_nil_of_le (by omega), List.nil_append, show a.length + (i - xs.length) * d.sz - a.length = (i - xs.length) * d.sz by omega]
    exact k.2 _ x hi
theorem Segs.take (h : d.Segs W ok a xs) (m : Nat) : d.Segs W ok (a.take (m * d.sz)) (xs.take m) := by
  refine ⟨by rw [List.length_take, List.length_take, h.1, ← Nat.mul_min_mul_right], fun i x hi => ?_⟩
  rw [List.getElem?_take] at hi
  split at hi
  · rename_i him
    have h1 : i * d.sz + d.sz ≤ m * d.sz := by rw [← Nat.succ_mul]; exact Nat.mul_le_mul_right _ him
    rw [List.drop_take, List.take_take, Nat.min_eq_left (by omega)]
    exact h.2 i x hi
  · cases hi
theorem Segs.drop (h : d.Segs W ok a xs) (m : Nat) : d.Segs W ok (a.drop (m * d.sz)) (xs.drop m) := by
  refine ⟨by rw [List.length_drop, List.length_drop, h.1, Nat.sub_mul], fun i x hi => ?_⟩
  rw [List.getElem?_drop] at hi
  rw [List.drop_drop, ← Nat.add_mul]
  exact h.2 _ x hi
theorem Segs.insert {x : α} {c : List Value} (h : d.Segs W ok a xs) (hx : Fp (fun W => d.K W x c) W ok) (m : Nat) : d.Segs W ok (a.take (m * d.sz) ++ (c ++ a.drop (m * d.sz))) (xs.take m ++ x :: xs.drop m) :=
  (h.take m).append ((Segs.one hx).append (h.drop m))
theorem Own.segs (h : d.Own e W base ok v xs) : ∃ inner, W.ownsRow base e d.sz v xs.length inner ∧ d.Segs W (fun k => ok k ∧ some k ≠ v.ownBlock) inner xs := by
  obtain ⟨inner, ho, hx⟩ := h
  exact ⟨inner, ho, ho.1, hx⟩
theorem Own.of_segs {inner : List Value} (ho : W.ownsRow base e d.sz v xs.length inner) (hs : d.Segs W (fun k => ok k ∧ some k ≠ v.ownBlock) inner xs) : d.Own e W base ok v xs := ⟨inner, ho, hs.2⟩
theorem Segs.one_cells (h : d.Segs W ok a xs) : ∀ u ∈ a, u.oneCell' = true := by
  intro u hu
  obtain ⟨j, hj, rfl⟩ := List.getElem_of_mem hu
  have hp := d.pos
  have hi : j / d.sz < xs.length := by rw [Nat.div_lt_iff_lt_mul hp, ← h.1]; exact hj
  have hk := (h.2 _ _ (List.getElem?_eq_getElem hi)).now
  refine d.one hk _ ?_
  have hmod := Nat.mod_lt j hp
  have hdiv := Nat.div_add_mod j d.sz
  rw [Nat.mul_comm] at hdiv
  rw [List.mem_iff_getElem?]
  refine ⟨j % d.sz, ?_⟩
  rw [List.getElem?_take, if_pos hmod, List.getElem?_drop, hdiv, List.getElem?_eq_getElem hj]
end Kd
end Go.Proofs.Ytkgkiencikmhfaa.B
