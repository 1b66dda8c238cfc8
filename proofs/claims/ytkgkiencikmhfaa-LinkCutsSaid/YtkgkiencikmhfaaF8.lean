/- What this text holds: the contracts of link's ticks and of the choices' decide. -/
import Derived.Test.YtkgkiencikmhfaaF7
import Derived.RangeFuncBox
set_option linter.unusedVariables false
set_option linter.unusedSimpArgs false
namespace Go.Proofs.Ytkgkiencikmhfaa.B
open Go.RowKit

def ticksF (b r : Int) : Int := if r = 0 then 0 else (b + r - 1) / r
theorem ticks_calls (b r : Int) (w : World) (hb0 : 0 ≤ b) (hb1 : b ≤ 1048576) (hr0 : 0 ≤ r) (hr1 : r ≤ 1048576) :
    Calls Try.prog 39 #[.int .i64 b, .int .i64 r] w fun e w' => e = .returned (.int .i64 (ticksF b r)) ∧ w = w' := by
  obtain ⟨t, ht⟩ : ∃ t, t = ticksF b r := ⟨_, rfl⟩
  rw [← ht]
  by_cases h : r = 0
  · subst h
    have HT : Hd (t = 0) := ⟨by rw [ht, ticksF, if_pos rfl]⟩
    clear ht
    go_enter Try.func39, Try.ntmps39
    go_wp2
    go_ret
    exact ⟨by rw [HT.out]; rfl, rfl⟩
  · have h1 : (r == 0) = false := by simp [h]
    have w1 : IntKind.i64.wrap (b + r) = b + r := IntWalk.i64_in _ (by omega)
    have w2 : IntKind.i64.wrap (b + r - 1) = b + r - 1 := IntWalk.i64_in _ (by omega)
    have hq : Int.tdiv (b + r - 1) r = t := by
      rw [Int.tdiv_eq_ediv_of_nonneg (by omega), ht, ticksF, if_neg h]
    have ht0 : 0 ≤ t := by rw [← hq, Int.tdiv_eq_ediv_of_nonneg (by omega)]; exact Int.ediv_nonneg (by omega) (by omega)
    have ht1 : t ≤ b + r - 1 := by rw [← hq, Int.tdiv_eq_ediv_of_nonneg (by omega)]; exact Int.ediv_le_self _ (by omega)
    have w3 : IntKind.i64.wrap t = t := IntWalk.i64_in _ (by omega)
    clear ht
    go_enter Try.func39, Try.ntmps39
    go_wp2
    go_ret
    exact ⟨rfl, rfl⟩

def decI (l : List Int) (n : Int) : Int := if l.length = 0 then 0 else nth 0 l 0 % n
theorem decI_lt (l : List Int) (n : Int) (h : 0 < n) : 0 ≤ decI l n ∧ decI l n < n := by
  unfold decI
  split
  · omega
  · exact ⟨Int.emod_nonneg _ (by omega), Int.emod_lt_of_pos _ h⟩

theorem tmod_fix (x n : Int) (hn : 0 < n) : (if x.tmod n < 0 then x.tmod n + n else x.tmod n) = x % n ∧ -n < x.tmod n ∧ x.tmod n < n := by
  rw [tmod_eq_if]
  have b1 := Int.emod_nonneg x (show n ≠ 0 by omega)
  have b2 := Int.emod_lt_of_pos x hn
  by_cases hx : 0 ≤ x
  · rw [if_pos hx]
    exact ⟨by rw [if_neg (by omega)], by omega, by omega⟩
  · rw [if_neg hx]
    have c1 := Int.emod_nonneg (-x) (show n ≠ 0 by omega)
    have c2 := Int.emod_lt_of_pos (-x) hn
    have e := Int.emod_add_mul_ediv (-x) n
    refine ⟨?_, by omega, by omega⟩
    by_cases hq : (-x) % n = 0
    · rw [hq, if_neg (by omega)]
      have hd : n ∣ -x := Int.dvd_of_emod_eq_zero hq
      have hd2 : n ∣ x := by simpa using hd
      rw [Int.emod_eq_zero_of_dvd hd2]
      rfl
    · rw [if_pos (by omega)]
      generalize (-x) % n = q at *
      generalize (-x) / n = d at *
      have hx2 : x = (n - q) + n * (-d - 1) := by
        rw [Int.mul_sub, Int.mul_neg, Int.mul_one]
        omega
      have h3 : x % n = (n - q) % n := by
        conv => lhs; rw [hx2]
        exact Int.add_mul_emod_self_left ..
      rw [h3, Int.emod_eq_of_lt (by omega) (by omega)]
      omega

theorem size3 : (Try.prog.info? 3).map (·.size) = some 1 := by kernel_rfl

set_option maxHeartbeats 1000000 in
theorem decide_calls (g : Nat) (l : List Int) (A : Option Addr) (c : Nat) (n : Int) (w : World) (ok : Nat → Prop) (hq : Blk w g 77 #[.slice A l.length c]) (hv : (ints .i64).V w ok (.slice A l.length c) l) (hok : ∀ k, ok k → k ≠ g) (hn : 0 < n) (hn2 : n ≤ 4294967296) :
    Calls Try.prog 40 #[.pointer (some ⟨g, 0, none⟩), .int .i64 n] w fun e w' => e = .returned (.int .i64 (decI l n)) ∧ ∃ A' c', Blk w' g 77 #[.slice A' (l.drop 1).length c'] ∧ (ints .i64).V w' ok (.slice A' (l.drop 1).length c') (l.drop 1) ∧ w.grownBy w' (some g) := by
  have hu77 := Try.underlying77
  obtain ⟨r, hr⟩ : ∃ r, r = decI l n := ⟨_, rfl⟩
  rw [← hr]
  have hb := decI_lt l n hn
  rw [← hr] at hb
  have HQ := Hd.mk hq
  have HV := Hd.mk hv
  have HOK := Hd.mk hok
  obtain ⟨q0, q1⟩ := hq.f1
  have hc : l.length ≤ c := hv.n.2
  have hC := hv.C
  have hm := hC.1
  rcases Nat.eq_zero_or_pos l.length with h0 | h0
  · have h1 : ((l.length : Int) == 0) = true := by simp [h0]
    have HR : Hd (r = 0) := ⟨by rw [hr, decI, if_pos h0]⟩
    have HN := Hd.mk (List.eq_nil_of_length_eq_zero h0)
    clear hr hb h0 hv hC hok
    go_enter Try.func40, Try.ntmps40
    go_wp2
    go_ret
    refine ⟨by rw [HR.out]; rfl, A, c, ?_, ?_, World.grownBy.refl _ _⟩
    · have h2 : (l.drop 1).length = l.length := by rw [HN.out]; rfl
      rw [h2]
      exact HQ.out
    · have h2 : l.drop 1 = l := by rw [HN.out]; rfl
      rw [h2]
      exact HV.out
  · have h1 : ((l.length : Int) == 0) = false := by simp; intro h; simp [h] at h0
    have h2 : (0 : Int) < l.length := by omega
    have h3 : (1 : Int) ≤ l.length := by omega
    obtain ⟨ad, ea, hx⟩ := ints_get hC 0 h0
    subst ea
    rw [Kd.add_zero] at hx
    obtain ⟨x, hxx⟩ : ∃ x, x = nth 0 l 0 := ⟨_, rfl⟩
    rw [← hxx] at hx
    obtain ⟨m, hm0⟩ : ∃ m, m = Int.tmod x n := ⟨_, rfl⟩
    have hf := tmod_fix x n hn
    rw [← hm0] at hf
    have hmr : r = if m < 0 then m + n else m := by rw [hr, decI, if_neg (by omega), ← hxx, hf.1]
    have hmb : -n < m ∧ m < n := hf.2
    have w1 : IntKind.i64.wrap m = m := IntWalk.i64_in _ (by omega)
    have w2 : IntKind.i64.wrap (m + n) = m + n := IntWalk.i64_in _ (by omega)
    have hz : ¬ n = 0 := by omega
    have htm : Int.tmod x n = m := hm0.symm
    obtain ⟨A1, hcut, hA1⟩ := cut_from (P := Try.prog) 77 3 .i64 1 Try.underlying77 size3 (some ad) l.length c 1 (by omega)
    have hcut1 : ∀ W : World, (Instr.slice 77 (.slice (some ad) l.length c) (some (.int .i64 1)) none none).run Try.prog W = .ok (.slice A1 (l.length - 1) (c - 1)) W := fun W => hcut W
    obtain ⟨M, hM⟩ : ∃ M, M = l.drop 1 := ⟨_, rfl⟩
    have hMl : l.length - 1 = M.length := by rw [hM, List.length_drop]
    have hV1 := hv.drop 1 h0
    rw [show (if c = 1 then some ad else (some ad).map (·.add (1 * (ints .i64).sz))) = A1 from hA1.symm, ← hM, hMl] at hV1
    rw [hMl] at hcut1
    rw [← hM]
    have HV1 := Hd.mk hV1
    have HQ1 := Hd.mk (hq.put (cs' := #[.slice A1 M.length (c - 1)]) 0 (.slice A1 M.length (c - 1)) rfl)
    have HG1 := Hd.mk (grownBy_setCell' w g (.slice A1 M.length (c - 1)))
    have HV2 := Hd.mk (hV1.far (p := ⟨g, 0, none⟩) (fun k hk => hok k hk) (.slice A1 M.length (c - 1)))
    have HM := Hd.mk hmr
    clear hcut hA1 hM hMl hV1 hv hC hok hq hf hm0 hmr hr hb hxx HQ HV HOK
    by_cases hneg : m < 0
    · go_enter Try.func40, Try.ntmps40
      go_wp2
      go_ret
      exact ⟨by rw [HM.out, if_pos (by omega)]; rfl, A1, c - 1, HQ1.out, HV2.out, HG1.out⟩
    · go_enter Try.func40, Try.ntmps40
      go_wp2
      go_ret
      exact ⟨by rw [HM.out, if_neg (by omega)]; rfl, A1, c - 1, HQ1.out, HV2.out, HG1.out⟩
end Go.Proofs.Ytkgkiencikmhfaa.B
