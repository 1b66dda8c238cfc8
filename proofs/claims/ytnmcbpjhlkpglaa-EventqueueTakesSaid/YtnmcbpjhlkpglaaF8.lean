/- What this text holds: the contract of slices.Delete of one event out of a row of the call's own. -/
import Derived.Test.YtnmcbpjhlkpglaaF7
set_option linter.unusedVariables false
set_option linter.unusedSimpArgs false
namespace Go.Proofs.Ytnmcbpjhlkpglaa.B
open Go.RowKit

theorem zero5 : (Builtin.zeroCells (Value.agg #[(.int .i64 0), (.int .i64 0), (.int .i64 0), (.int .i64 0), (.slice none 0 0)]).cells 1).toList = [.int .i64 0, .int .i64 0, .int .i64 0, .int .i64 0, .slice none 0 0] := by kernel_rfl

theorem delete_row (l : List Ev) (i N g cap : Nat) (inner : List Value) (cur : Array Value) (w : World) (base : Nat) (ok : Nat → Prop)
    (hbg : base ≤ g) (hg : w.heap[g]? = some (.cells cur 32 (0, 0))) (hN : l.length = N + 1) (hnc : N + 1 ≤ cap) (hcm : cap ≤ maxLen) (hcs : cur.size = cap * 5) (hin : cur.toList.take ((N + 1) * 5) = inner)
    (hs : evs.Segs w (fun k => ok k ∧ k ≠ g) inner l) (hi : i < N + 1) (hlen : N + 1 ≤ 4096) :
    Calls Try.prog 41 #[.slice (some ⟨g, 0, none⟩) (N + 1) cap, .int .i64 i, .int .i64 ((i : Int) + 1)] w fun e w' =>
      ∃ v', e = .returned v' ∧ evs.Own 32 w' base ok v' (l.take i ++ l.drop (i + 1)) ∧ Below base w w' := by
  have hglt : g < w.heap.size := (Array.getElem?_eq_some_iff.1 hg).1
  have hil : inner.length = (N + 1) * 5 := by rw [hs.1, hN]; rfl
  have hcl : cur.toList.length = cap * 5 := by rw [Array.length_toList, hcs]
  have hdl : (inner.drop ((i + 1) * 5)).length = (N - i) * 5 := by rw [List.length_drop, hil]; omega
  have htl : (inner.take (i * 5)).length = i * 5 := by rw [List.length_take, hil]; omega
  have hone := hs.one_cells
  obtain ⟨i0, hq, hzz⟩ := Option.map_eq_some_iff.1 info32
  simp only [Prod.mk.injEq] at hzz
  obtain ⟨hz0, hz1, hz2⟩ := hzz
  have hi1 : ((i + 1 : Nat) : Int) = (i : Int) + 1 := by omega
  obtain ⟨A1, hcut, hA1⟩ := cut_from (P := Try.prog) 22 32 .i64 5 Try.underlying22 size32 (some ⟨g, 0, none⟩) (N + 1) cap (i + 1) (by omega)
  rw [hi1, show N + 1 - (i + 1) = N - i by omega] at hcut
  obtain ⟨a1, ha1⟩ : ∃ a1, A1 = some a1 := by rw [hA1]; split <;> exact ⟨_, rfl⟩
  have ha2 : i < N → a1 = ⟨g, (i + 1) * 5, none⟩ := fun h => by
    rw [ha1, if_neg (by omega)] at hA1
    injection hA1 with hA1
    rw [hA1]
    exact Kd.add_plain g _
  subst ha1
  obtain ⟨L, hL⟩ : ∃ L, L = cur.toList := ⟨_, rfl⟩
  have hLl : L.length = cap * 5 := by rw [hL, hcl]
  have hLt : L.take (i * 5) = inner.take (i * 5) := by rw [hL, ← hin, List.take_take, Nat.min_eq_left (by omega)]
  obtain ⟨C1, hC1⟩ : ∃ C1, C1 = L.take (i * 5) ++ inner.drop ((i + 1) * 5) ++ L.drop (i * 5 + (inner.drop ((i + 1) * 5)).length) := ⟨_, rfl⟩
  have hcap5 := Nat.mul_le_mul_right 5 hnc
  have hC1l : C1.length = cap * 5 := by
    rw [hC1]
    simp only [List.length_append, List.length_take, List.length_drop, hLl, hil]
    omega
  obtain ⟨W1, hW1⟩ : ∃ W1, W1 = w.drew.setRow g C1.toArray := ⟨_, rfl⟩
  have hrun : ∀ ty, (Builtin.append_ #[22, 22] ty #[.slice (some ⟨g, 0, none⟩) i cap, .slice (some a1) (N - i) (cap - (i + 1))]).run Try.prog w.drew = .ok (.slice (some ⟨g, 0, none⟩) N cap) W1 := fun ty => by
    have h := run_append_room (P := Try.prog) w.drew 22 ty 32 i0 Try.underlying22 hq g i cap cur hg a1 (N - i) (cap - (i + 1)) (inner.drop ((i + 1) * 5)) (by rw [hdl, hz1])
      (fun j u hu => by
        have hj := (List.getElem?_eq_some_iff.1 hu).1
        rw [ha2 (by omega), add_lit]
        refine cell_row (w := w.drew) hg ?_
        rw [List.getElem?_drop, ← hin, List.getElem?_take] at hu
        split at hu
        · exact hu
        · cases hu)
      (fun v hv => hone v (List.mem_of_mem_drop hv)) (by omega) (by rw [hz1, hdl, hcs]; omega)
    rw [h, hW1, hC1, hL, hz1, show i + (N - i) = N by omega]
  have hg1 : W1.heap[g]? = some (.cells C1.toArray 32 (0, 0)) := by rw [hW1]; exact setRow_heap w.drew g cur C1.toArray 32 (0, 0) hg
  obtain ⟨C2, hC2⟩ : ∃ C2, C2 = C1.take (N * 5) ++ (Builtin.zeroCells (Value.agg #[(.int .i64 0), (.int .i64 0), (.int .i64 0), (.int .i64 0), (.slice none 0 0)]).cells 1).toList ++ C1.drop (N * 5 + 1 * 5) := ⟨_, rfl⟩
  obtain ⟨W2, hW2⟩ : ∃ W2, W2 = W1.setRow g C2.toArray := ⟨_, rfl⟩
  have hclr : ∀ ty, (Builtin.clear_ #[22] ty #[.slice (some ⟨g, N * 5, none⟩) 1 (cap - N)]).run Try.prog W1 = .ok (.tuple #[]) W2 := fun ty => by
    have h := run_clear_cells (P := Try.prog) W1 22 ty 32 i0 _ g (N * 5) 1 (cap - N) C1.toArray 32 Try.underlying22 hq hz0 (by omega) hg1 (by show N * 5 + 1 * 5 ≤ C1.toArray.size; rw [List.size_toArray, hC1l]; omega) (by rw [zero5]; intro u hu; simp only [List.mem_cons, List.not_mem_nil, or_false] at hu; rcases hu with rfl | rfl | rfl | rfl | rfl <;> rfl)
    rw [h, hW2, hC2]
    rfl
  have hzl : (Builtin.zeroCells (Value.agg #[(.int .i64 0), (.int .i64 0), (.int .i64 0), (.int .i64 0), (.slice none 0 0)]).cells 1).toList.length = 5 := by rw [Array.length_toList, size_zeroCells]; rfl
  have hC2l : C2.length = cap * 5 := by
    rw [hC2]
    simp only [List.length_append, List.length_take, List.length_drop, hC1l, hzl]
    omega
  have hg2 : W2.heap[g]? = some (.cells C2.toArray 32 (0, 0)) := by rw [hW2]; exact setRow_heap W1 g C1.toArray C2.toArray 32 (0, 0) hg1
  have hold : ∀ k, k ≠ g → W2.heap[k]? = w.heap[k]? := fun k hk => by rw [hW2, setRow_other W1 g k _ hk, hW1]; exact setRow_other w.drew g k _ hk
  have hll : (l.take i ++ l.drop (i + 1)).length = N := by rw [List.length_append, List.length_take, List.length_drop, hN]; omega
  have HF : Hd (evs.Own 32 W2 base ok (.slice (some ⟨g, 0, none⟩) N cap) (l.take i ++ l.drop (i + 1))) := ⟨by
    have h1 : evs.Segs w (fun k => ok k ∧ k ≠ g) (inner.take (i * 5) ++ inner.drop ((i + 1) * 5)) (l.take i ++ l.drop (i + 1)) := (hs.take i).append (hs.drop (i + 1))
    have h2 := h1.step (W1 := W2) (fun k hk hlt => hold k hk.2)
    refine Kd.Own.of_segs (inner := inner.take (i * 5) ++ inner.drop ((i + 1) * 5)) ⟨by rw [h1.1], .inr ⟨g, cap, C2.toArray, by rw [hll], hbg, hg2, by rw [hll]; omega, hcm, by rw [List.size_toArray, hC2l]; rfl, ?_⟩⟩ (h2.mono (fun k hk => ⟨hk.1, fun h => hk.2 (by injection h)⟩))
    rw [hll]
    show List.take (N * 5) C2 = _
    have h3 : (inner.take (i * 5) ++ inner.drop ((i + 1) * 5)).length = N * 5 := by rw [List.length_append, htl, hdl]; omega
    have h4 : C1.take (N * 5) = inner.take (i * 5) ++ inner.drop ((i + 1) * 5) := by
      rw [hC1, hLt, List.take_append_of_le_length (by rw [h3]; exact Nat.le_refl _), List.take_of_length_le (by rw [h3]; exact Nat.le_refl _)]
    rw [hC2, List.append_assoc, List.take_append_of_le_length (by rw [h4, h3]; exact Nat.le_refl _), h4, List.take_of_length_le (by rw [h3]; exact Nat.le_refl _)]⟩
  have HB : Hd (Below base w W2) := ⟨by
    rw [hW2, hW1]
    exact below_setRow (below_setRow (Below.drew (Below.refl _ _)) hbg _) hbg _⟩
  have hm0 : (0 : Int) ≤ N := by omega
  have hm1 : (i : Int) ≤ N + 1 := by omega
  have hm2 : (i : Int) + 1 ≤ N + 1 := by omega
  have hm3 : (N : Int) + 1 ≤ cap := by omega
  have hm4 : (i : Int) ≤ cap := by omega
  have hm5 : (N : Int) ≤ cap := by omega
  have hm6 : (0 : Int) ≤ (i : Int) + 1 := by omega
  have hm7 : ((i : Int) + 1).toNat = i + 1 := by omega
  have hib : ((i : Int) == (i : Int) + 1) = false := by simp; omega
  have hn1 : ¬ (cap = N) := by omega
  have hn2 : ¬ (cap = i) := by omega
  have hn3 : N + 1 - N = 1 := by omega
  clear hA1 ha2 hL hLl hLt hC1 hcap5 hC1l hW1 hg1 hC2 hW2 hzl hC2l hg2 hold hll hs hin hcs hcm hg hglt hil hcl hdl htl hone hq hz0 hz1 hz2 hN
  go_enter Try.func41, Try.ntmps41
  go_wp2_with fail
  go_region_law (refine step_two_run .append Builtin.append_ (fun _ _ _ _ => rfl) rfl _ _ 22 22 rfl _ _ (by simp [Act.eval, Act.put]) (by simp [Act.eval, Act.put]) (hrun _) ?_)
  go_wp2_with (at_builtin; refine wpList_one_run .clear Builtin.clear_ (fun _ _ _ _ => rfl) rfl _ 22 rfl _ rfl (hclr _) ?_)
  go_ret
  exact ⟨_, rfl, HF.out, HB.out⟩
end Go.Proofs.Ytnmcbpjhlkpglaa.B
