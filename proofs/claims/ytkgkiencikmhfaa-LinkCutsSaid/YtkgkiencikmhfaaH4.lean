/- What this text holds: the contract of the laws' payload. -/
import Derived.Test.YtkgkiencikmhfaaH3
set_option linter.unusedVariables false
set_option linter.unusedSimpArgs false
namespace Go.Proofs.Ytkgkiencikmhfaa.B
open Go.RowKit

theorem u8_in (n : Int) (h0 : 0 ≤ n) (h1 : n ≤ 255) : IntKind.u8.wrap n = n := by
  have hb : (2 : Int) ^ IntKind.u8.bits = 256 := by decide
  have hs : IntKind.u8.signed = false := by decide
  simp only [IntKind.wrap, hb, hs, Bool.false_and, Bool.false_eq_true, if_false]
  exact Int.emod_eq_of_lt h0 (by omega)
def payF (sz num : Int) : List Int := num :: (List.range (sz % 9).toNat).map (fun i : Nat => (i : Int))
def payK (num : Int) (k : Nat) : List Int := num :: (List.range k).map (fun i : Nat => (i : Int))
theorem payK_succ (num : Int) (k : Nat) : payK num (k + 1) = payK num k ++ [(k : Int)] := by
  unfold payK
  rw [List.range_succ, List.map_append]
  rfl

set_option maxRecDepth 100000 in
set_option maxHeartbeats 2000000 in
theorem payload_calls (sz wt num : Int) (w : World) (hs0 : 0 ≤ sz) (hs1 : sz ≤ 255) (hn0 : 0 ≤ num) (hn1 : num ≤ 255) :
    Calls Try.prog 24 #[.agg #[.int .u8 sz, .int .u8 wt], .int .i64 num] w fun e w' => ∃ v, e = .returned v ∧ (ints .u8).Own 5 w' w.heap.size (fun _ => False) v (payF sz num) ∧ Below w.heap.size w w' := by
  have hu58 := Try.underlying58
  obtain ⟨n, hn⟩ : ∃ n : Nat, (n : Int) = sz % 9 := ⟨(sz % 9).toNat, by have := Int.emod_nonneg sz (show (9 : Int) ≠ 0 by decide); omega⟩
  have hn9 : n < 9 := by have := Int.emod_lt_of_pos sz (show (0 : Int) < 9 by decide); omega
  have htm : Int.tmod sz 9 = (n : Int) := by rw [Int.tmod_eq_emod_of_nonneg hs0, hn]
  have w1 : IntKind.u8.wrap num = num := u8_in _ hn0 hn1
  have w2 : IntKind.u8.wrap (n : Int) = n := u8_in _ (by omega) (by omega)
  have w3 : IntKind.i64.wrap (n : Int) = n := IntWalk.i64_in _ (by omega)
  have HP : Hd (payF sz num = payK num n) := ⟨by unfold payF payK; rw [← hn]; simp⟩
  clear hn
  have HO0 : Hd ((ints .u8).Own 5 ((w.alloc (.cells #[.int .u8 sz, .int .u8 wt] 58)).alloc (.cells #[.int .u8 num] 5)) (w.heap.size + 1) (fun _ => False) (.slice (some ⟨w.heap.size + 1, 0, none⟩) 1 1) (payK num 0)) := ⟨by
    have h := Kd.Own.lit (d := ints .u8) (ok := fun _ => False) (base := w.heap.size + 1) (xs := [num]) (inner := [.int .u8 num]) (w.alloc (.cells #[.int .u8 sz, .int .u8 wt] 58)) 5 (by rw [World.size_alloc]; exact Nat.le_refl _) (by simp [maxLen]) rfl (fun i x hi => by
      rcases i with _ | i
      · have e : num = x := by simpa using hi
        subst e
        exact fun _ _ => rfl
      · simp at hi)
    rw [World.size_alloc] at h
    exact h⟩
  have HQ0 := Hd.mk ((Blk.new w 58 #[.int .u8 sz, .int .u8 wt]).alloc (.cells #[.int .u8 num] 5))
  go_enter Try.func24, Try.ntmps24
  go_wp2
  go_loopw [5, 6] (fun v ui wr => ∃ k, k ≤ n ∧ ui = .int .i64 (k : Nat) ∧ Hd ((ints .u8).Own 5 wr (w.heap.size + 1) (fun _ => False) v (payK num k)) ∧ Hd (Blk wr w.heap.size 58 #[.int .u8 sz, .int .u8 wt]) ∧ Hd (Below w.heap.size w wr)) (fun _ ui _ => n - (intOf ui).toNat)
  case atStart => exact ⟨0, Nat.zero_le _, rfl, HO0, HQ0, ⟨by go_grown⟩⟩
  case round =>
    obtain ⟨k, hk, rfl, HO, HQ, HB⟩ := hrel
    obtain ⟨q0, q1, q2, q3⟩ := HQ.out.f2
    have hql := HQ.out.lt
    by_cases hlt : k < n
    · have w4 : IntKind.u8.wrap (k : Int) = k := u8_in _ (by omega) (by omega)
      have hkn : (k : Int) < n := by omega
      have HY : Hd (Fp (fun W => (ints .u8).K W (k : Int) [.int .u8 k]) wr (fun _ => False)) := ⟨fun _ _ => rfl⟩
      have hln : (payK num k).length = k + 1 := by simp [payK]
      have HLN := Hd.mk hln
      clear hln
      go_wp2_with (at_builtin; refine Kd.Own.append1 (w0 := wr) rfl (.tmp 18) (.tmp 21) 37 (.int .u8 0) 1 rfl Try.underlying37 info5 rfl (by decide) rfl rfl HO.out HY.out ?h1 (Below.refl _ _) ?h2 ?h3 ?_; (case h1 => exact fun j hj _ _ => hj); (case h2 => omega); (case h3 => rw [HLN.out]; omega); intro v1 w5 hown hb hg hat; have HO5 := Hd.mk (ints_own hown); have HB5 := Hd.mk hb; clear hown hb hg hat)
      go_roundw
      case rel => exact ⟨k + 1, by omega, by go_num, ⟨by rw [payK_succ]; exact HO5.out⟩, ⟨HQ.out.belowB HB5.out (by omega)⟩, ⟨HB.out.trans (HB5.out.mono (by omega))⟩⟩
      case measure => simp [intOf]; omega
    · have hkn : k = n := by omega
      subst hkn
      have hlt2 : ¬ (k : Int) < k := by omega
      go_wp2
      go_ret
      exact ⟨_, rfl, by rw [HP.out]; exact HO.out.lower (by omega), HB.out⟩
end Go.Proofs.Ytkgkiencikmhfaa.B
