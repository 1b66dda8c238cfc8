/- What this text holds: contracts of link's between, config, New and order, and of cmp's functions. -/
import Derived.Test.YtkgkiencikmhfaaKinds
import Derived.StillTailTactics
set_option linter.unusedVariables false
set_option linter.unusedSimpArgs false
namespace Go.Proofs.Ytkgkiencikmhfaa.B
open Go.RowKit

theorem isNaN_calls (a : Int) (w : World) : Calls Try.prog 50 #[.int .i64 a] w fun e w' => e = .returned (.bool false) ∧ w = w' := by
  go_enter Try.func50, Try.ntmps50
  go_wp2
  go_ret
  exact ⟨by simp, rfl⟩

def cmpI (a b : Int) : Int := if a < b then -1 else if b < a then 1 else 0

theorem compare_calls (a b : Int) (w : World) : Calls Try.prog 48 #[.int .i64 a, .int .i64 b] w fun e w' => e = .returned (.int .i64 (cmpI a b)) ∧ w = w' := by
  rcases Int.lt_trichotomy a b with h | h | h
  · have hc : cmpI a b = -1 := by simp [cmpI, h]
    rw [hc]
    clear hc
    go_enter Try.func48, Try.ntmps48
    go_wp2_with (go_at_call 50; refine (isNaN_calls _ _).mono ?_; rintro e w' ⟨rfl, rfl⟩)
    go_ret
    exact ⟨rfl, rfl⟩
  · subst h
    have hc : cmpI a a = 0 := by simp [cmpI]
    rw [hc]
    clear hc
    go_enter Try.func48, Try.ntmps48
    go_wp2_with (go_at_call 50; refine (isNaN_calls _ _).mono ?_; rintro e w' ⟨rfl, rfl⟩)
    go_ret
    exact ⟨rfl, rfl⟩
  · have hc : cmpI a b = 1 := by simp [cmpI, h]; omega
    rw [hc]
    clear hc
    go_enter Try.func48, Try.ntmps48
    go_wp2_with (go_at_call 50; refine (isNaN_calls _ _).mono ?_; rintro e w' ⟨rfl, rfl⟩)
    go_ret
    exact ⟨rfl, rfl⟩

def orI (a b : Int) : Int := if a = 0 then b else a

theorem or_calls (a b : Int) (g cap : Nat) (w : World) (ha : w.cell? ⟨g, 0, none⟩ = some (.int .i64 a)) (hb : w.cell? ⟨g, 1, none⟩ = some (.int .i64 b)) :
    Calls Try.prog 47 #[.slice (some ⟨g, 0, none⟩) 2 cap] w fun e w' => e = .returned (.int .i64 (orI a b)) ∧ w = w' := by
  obtain ⟨r, hr⟩ : ∃ r, r = orI a b := ⟨_, rfl⟩
  rw [← hr]
  have Hr := Hd.mk hr
  clear hr
  go_enter Try.func47, Try.ntmps47
  go_wp2
  go_loop [8] (fun i => ∃ k : Nat, k ≤ 2 ∧ i = .int .i64 k ∧ Hd ((1 ≤ k → a = 0) ∧ (2 ≤ k → b = 0))) (fun i => 2 - (intOf i).toNat)
  case atStart => exact ⟨0, by omega, rfl, ⟨by omega, by omega⟩⟩
  case round =>
    obtain ⟨k, hk, rfl, Hz⟩ := hrel
    rcases (by omega : k = 0 ∨ k = 1 ∨ k = 2) with rfl | rfl | rfl
    · by_cases h : a = 0
      · have h1 : (a != 0) = false := by simp [h]
        have Ha := Hd.mk h
        clear h
        go_wp2
        go_round
        case rel => exact ⟨1, by omega, by go_num, ⟨fun _ => Ha.out, by omega⟩⟩
        case measure => simp [intOf]
      · have h1 : (a != 0) = true := by simp [h]
        have Ha := Hd.mk h
        clear h
        go_wp2
        go_ret
        exact ⟨by rw [Hr.out, orI, if_neg Ha.out]; rfl, rfl⟩
    · by_cases h : b = 0
      · have h1 : (b != 0) = false := by simp [h]
        have Ha := Hd.mk h
        clear h
        go_wp2
        go_round
        case rel => exact ⟨2, by omega, by go_num, ⟨fun _ => Hz.out.1 (by omega), fun _ => Ha.out⟩⟩
        case measure => simp [intOf]
      · have h1 : (b != 0) = true := by simp [h]
        have Ha := Hd.mk h
        clear h
        go_wp2
        go_ret
        exact ⟨by rw [Hr.out, orI, if_pos (Hz.out.1 (by omega))]; rfl, rfl⟩
    · go_wp2
      go_ret
      exact ⟨by rw [Hr.out, orI, if_pos (Hz.out.1 (by omega)), Hz.out.2 (by omega)]; rfl, rfl⟩

def cmpE (t n t' n' : Int) : Int := orI (cmpI t t') (cmpI n n')


theorem order_calls (t n t' n' : Int) (v v' : Value) (w : World) :
    Calls Try.prog 36 #[.agg #[.int .i64 t, .int .i64 n, v], .agg #[.int .i64 t', .int .i64 n', v']] w
      fun e w' => e = .returned (.int .i64 (cmpE t n t' n')) ∧ Below w.heap.size w w' := by
  have hu69 := Try.underlying69
  go_enter Try.func36, Try.ntmps36
  go_wp2
  go_region_held3 (fun W => W.cell? ⟨w.heap.size, 0, none⟩ = some (.int .i64 t) ∧ W.cell? ⟨w.heap.size, 1, none⟩ = some (.int .i64 n) ∧ W.cell? ⟨w.heap.size + 1, 0, none⟩ = some (.int .i64 t') ∧ W.cell? ⟨w.heap.size + 1, 1, none⟩ = some (.int .i64 n')) (go_keep)
    (first | (go_at_call 48; refine (compare_calls _ _ _).mono ?_; rintro e w' ⟨rfl, rfl⟩) | (go_at_call 47; refine (or_calls (cmpI t t') (cmpI n n') _ _ _ ?ha ?hb).mono ?_; (case ha => go_simp); (case hb => go_simp); rintro e w' ⟨rfl, rfl⟩))

  all_goals go_wp2
  all_goals go_ret
  all_goals exact ⟨rfl, by go_grown⟩

def betw (n lo hi : Int) : Bool := decide (lo ≤ n) && decide (n ≤ hi)
theorem between_calls (n lo hi : Int) (w : World) : Calls Try.prog 35 #[.int .i64 n, .int .i64 lo, .int .i64 hi] w fun e w' => e = .returned (.bool (betw n lo hi)) ∧ w = w' := by
  go_enter Try.func35, Try.ntmps35
  go_wp2
  all_goals go_ret
  all_goals exact ⟨by simp [betw] <;> omega, rfl⟩

def cfgF (mn mx rt : Int) : Int := if 0 ≤ mn ∧ mn ≤ mx ∧ mx ≤ 1073741824 ∧ 0 ≤ rt ∧ rt ≤ 65536 then 0 else 2
theorem config_calls (mn mx rt : Int) (w : World) : Calls Try.prog 33 #[.agg #[.int .i64 mn, .int .i64 mx, .int .i64 rt]] w fun e w' => e = .returned (.int .i64 (cfgF mn mx rt)) ∧ Below w.heap.size w w' := by
  have hu23 := Try.underlying23
  obtain ⟨r, hr⟩ : ∃ r, r = cfgF mn mx rt := ⟨_, rfl⟩
  rw [← hr]
  have Hr := Hd.mk hr
  clear hr
  go_enter Try.func33, Try.ntmps33
  rcases h1 : betw mx 0 1073741824 with _ | _
  all_goals rcases h2 : betw mn 0 mx with _ | _
  all_goals rcases h3 : betw rt 0 65536 with _ | _
  all_goals
    have H1 := Hd.mk h1; have H2 := Hd.mk h2; have H3 := Hd.mk h3
    clear h1 h2 h3
    go_wp2_with (go_at_call 35; refine (between_calls _ _ _ _).mono ?_; rintro e w' ⟨rfl, rfl⟩; (first | rw [H1.out] | rw [H2.out] | rw [H3.out]))
    go_ret
    refine ⟨?_, by go_grown⟩
    rw [Hr.out]
    have h1 := H1.out; have h2 := H2.out; have h3 := H3.out
    simp only [betw, Bool.and_eq_true, Bool.and_eq_false_iff, decide_eq_true_eq, decide_eq_false_iff_not] at h1 h2 h3
    refine congrArg Ending.returned (congrArg (Value.int IntKind.i64) ?_)
    simp only [cfgF]
    split <;> omega
end Go.Proofs.Ytkgkiencikmhfaa.B
