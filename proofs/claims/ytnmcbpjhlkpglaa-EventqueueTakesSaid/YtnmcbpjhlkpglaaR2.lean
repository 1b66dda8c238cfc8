/- What this text holds: append of one element as a step of a region that draws; the contract of the reference's without. -/
import Derived.Test.YtnmcbpjhlkpglaaR1
set_option linter.unusedVariables false
set_option linter.unusedSimpArgs false
namespace Go.Proofs.Ytnmcbpjhlkpglaa.B
open Go.RowKit

namespace Kd
section
variable {α : Type} {d : Kd α} {W : World} {v : Value} {xs : List α} {base e : Nat}
variable {P : Program} {ops : Array Oper} {o : Oper} {a : Act} {K : Act → World → Prop} {Q : Exit → Act → World → Prop} {E : Prop}
theorem Own.step_append1 {w0 : World} {ok okx : Nat → Prop} {y : α} {c : List Value} (hgd : o.guard = none) (s x : Operand) (t : TypeId) (z : Value) (bytes : Nat)
    (ho : o.op = .call { callee := .builtin .append, args := #[s, x], argTypes := #[t, t] })
    (ht : P.underlying t = some (.slice e)) (hinfo : (P.info? e).map (fun i => (i.zero, i.size, i.bytes)) = some (some z, d.sz, bytes)) (hz : z.cells.size = d.sz) (hb0 : 0 < bytes)
    (hs : a.eval s = v) (hx : a.eval x = .slice (some ⟨W.heap.size, 0, none⟩) 1 1)
    (HO : d.Own e W base ok v xs) (HY : Fp (fun W => d.K W y c) W okx) (hne : ∀ k, okx k → k < W.heap.size → some k ≠ v.ownBlock)
    (HB : Below base w0 W) (hbase : base ≤ W.heap.size) (hl : (xs.length + 1) * bytes ≤ 140737488355328)
    (h : ∀ v1 w1, d.Own e w1 base (fun k => ok k ∨ okx k) v1 (xs ++ [y]) → Below base w0 w1 → W.grownBy w1 v.ownBlock → (v1.ownBlock = v.ownBlock ∨ ∃ b, v1.ownBlock = some b ∧ W.heap.size ≤ b) → K (a.put o.dst v1) w1) :
    if Region.wanted o (yielded ops a.tmps) = true then Oper.wp P o a (W.alloc (.cells c.toArray e)) K Q else E := by
  have hw : Region.wanted o (yielded ops a.tmps) = true := by simp [Region.wanted, hgd]
  rw [if_pos hw]
  obtain ⟨i0, hi, hzz⟩ := Option.map_eq_some_iff.1 hinfo
  simp only [Prod.mk.injEq] at hzz
  obtain ⟨hz0, hz1, hz2⟩ := hzz
  have hlen : xs.length + 1 ≤ 140737488355328 := Nat.le_trans (Nat.le_mul_of_pos_right _ hb0) hl
  have hb := HO.blk
  obtain ⟨inner, ho', hx'⟩ := HO
  have hcl := d.len HY.now
  obtain ⟨v1, w1, hr, hown, hg, _, hat⟩ := run_append_own_at (P := P) (W.alloc (.cells c.toArray e)) base t o.type e i0 z d.sz bytes ht hi hz0 hz1 hz2 hz d.pos v xs.length inner (ho'.alloc _) ⟨W.heap.size, 0, none⟩ 1 1 c (by rw [hcl]; simp)
    (by simpa using World.news_of_block (cs := c.toArray) (t := e) (fr := (0, 0)) (heap_alloc_new W (.cells c.toArray e))) (d.one HY.now) (by simp only [maxLen]; omega) hl (by simp; omega)
  unfold Oper.wp execOp
  simp only [ho, resolve, invoke, builtin, Sem.run_bind, Sem.run_pure, Result.andThen_ok, List.map_toArray, List.map_cons, List.map_nil, hs, hx, hr]
  have hg2 : W.grownBy w1 v.ownBlock := World.grownBy.trans (World.grownBy_alloc W _ _) hg
  have hat2 : v1.ownBlock = v.ownBlock ∨ ∃ b, v1.ownBlock = some b ∧ W.heap.size ≤ b := by
    rcases hat with hat | hat
    · exact .inl hat
    · exact .inr ⟨_, hat, by simp⟩
  refine h v1 w1 (Own.appended (ys := [y]) ho' hx' (by simpa using hown) hg2 hat2 (by simpa using hcl) (fun i y' hy => ?_) hne) ((HB.alloc hbase _).grown hg (by simp; omega) (fun k hk => (hb k hk).1)) hg2 hat2
  rcases i with _ | i
  · have e : y = y' := by simpa using hy
    subst e
    simp only [Nat.zero_mul, List.drop_zero]
    rw [← hcl, List.take_length]
    exact HY
  · simp at hy
end
end Kd

/-- A row without one place, as far as it is copied. -/
def skipF (l : List Ev) (at_ k : Nat) : List Ev := (l.take k).eraseIdx at_
theorem skipF_at (l : List Ev) (i : Nat) : skipF l i (i + 1) = skipF l i i := by
  unfold skipF
  rw [List.eraseIdx_eq_take_drop_succ, List.eraseIdx_eq_take_drop_succ, List.take_take, List.take_take, List.drop_of_length_le (by rw [List.length_take]; omega), List.drop_of_length_le (by rw [List.length_take]; omega)]
  congr 2
  omega
theorem skipF_ne (l : List Ev) (i k : Nat) (hk : k < l.length) (h : k ≠ i) : skipF l i (k + 1) = skipF l i k ++ [nth ev0 l k] := by
  unfold skipF
  rw [take_nth ev0 l k hk]
  have hl : (l.take k).length = k := by rw [List.length_take]; omega
  rcases Nat.lt_or_ge i k with hik | hik
  · rw [List.eraseIdx_append_of_lt_length (by omega)]
  · rw [List.eraseIdx_of_length_le (by rw [List.length_append, hl]; simp; omega), List.eraseIdx_of_length_le (by omega)]
theorem skipF_len (l : List Ev) (i k : Nat) : (skipF l i k).length ≤ l.length := by
  unfold skipF
  rw [List.length_eraseIdx]
  split <;> (rw [List.length_take]; omega)
theorem skipF_all (l : List Ev) (i : Nat) : skipF l i l.length = l.take i ++ l.drop (i + 1) := by
  unfold skipF
  rw [List.take_length, List.eraseIdx_eq_take_drop_succ]
theorem skipF_zero (l : List Ev) (i : Nat) : skipF l i 0 = [] := by simp [skipF]
end Go.Proofs.Ytnmcbpjhlkpglaa.B
