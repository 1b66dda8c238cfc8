/- What this text holds: the contract of the reference's Check. -/
import Derived.Test.YtnmcbpjhlkpglaaG4
set_option linter.unusedVariables false
set_option linter.unusedSimpArgs false
namespace Go.Proofs.Ytnmcbpjhlkpglaa.B
open Go.RowKit

theorem wrongF_cases (t n k o : Int) (len : Nat) (next : Int) (h : wrongF t n k o len next ≠ 0) :
    (t < 0 ∧ wrongF t n k o len next = 24) ∨ (0 ≤ t ∧ 1073741824 < t ∧ wrongF t n k o len next = 24) ∨
    (0 ≤ t ∧ t ≤ 1073741824 ∧ k < 0 ∧ wrongF t n k o len next = 2) ∨
    (0 ≤ t ∧ t ≤ 1073741824 ∧ 0 ≤ k ∧ o < 0 ∧ wrongF t n k o len next = 2) ∨
    (0 ≤ t ∧ t ≤ 1073741824 ∧ 0 ≤ k ∧ 0 ≤ o ∧ n < 0 ∧ wrongF t n k o len next = 2) ∨
    (0 ≤ t ∧ t ≤ 1073741824 ∧ 0 ≤ k ∧ 0 ≤ o ∧ 0 ≤ n ∧ next ≤ n ∧ wrongF t n k o len next = 2) ∨
    (0 ≤ t ∧ t ≤ 1073741824 ∧ 0 ≤ k ∧ 0 ≤ o ∧ 0 ≤ n ∧ n < next ∧ 4096 < len ∧ wrongF t n k o len next = 5) := by
  generalize hr : wrongF t n k o len next = r at h ⊢
  unfold wrongF at hr
  split at hr
  · omega
  · split at hr
    · omega
    · split at hr
      · omega
      · omega

theorem mem_take_nth (l : List Ev) (j k : Nat) (hjk : j < k) (hj : j < l.length) : nth ev0 l j ∈ l.take k := by
  rw [nth_eq ev0 l j hj]
  exact List.mem_take_iff_getElem.2 ⟨j, by omega, rfl⟩
theorem nth_of_mem_take (l : List Ev) (k : Nat) (y : Ev) (h : y ∈ l.take k) : ∃ z, z < k ∧ nth ev0 l z = y := by
  obtain ⟨z, hz, he⟩ := List.mem_take_iff_getElem.1 h
  exact ⟨z, by omega, by rw [nth_eq ev0 l z (by omega)]; exact he⟩
theorem cmpE_ge (t n t' n' : Int) : 0 ≤ cmpE t n t' n' ↔ (t' < t ∨ (t' = t ∧ n' ≤ n)) := by
  unfold cmpE orI cmpI
  split <;> split <;> (try split) <;> (try split) <;> omega

set_option maxRecDepth 100000 in
set_option maxHeartbeats 4000000 in
theorem refCheck_calls (A : Option Addr) (c : Nat) (l : List Ev) (next : Int) (w : World) (hr : evs.C w A l) (hc : l.length ≤ c) :
    Calls Try.prog 13 #[.agg #[.slice A l.length c, .int .i64 next]] w fun e w' => e = .returned (.int .i64 (checkF l next)) ∧ Below w.heap.size w w' := by
  have hu24 := Try.underlying24
  have hu32 := Try.underlying32
  have HR := Hd.mk hr
  have HC := Hd.mk hc
  have hm := hr.1
  clear hr hc
  obtain ⟨r, hr⟩ : ∃ r, r = checkF l next := ⟨_, rfl⟩
  rw [← hr]
  have Hr := Hd.mk hr
  clear hr
  by_cases h1 : 4096 < l.length
  · go_enter Try.func13, Try.ntmps13
    go_wp2
    go_ret
    exact ⟨by rw [Hr.out, checkF, if_pos h1]; rfl, by go_grown⟩
  by_cases h2 : next < 0
  · have h2b : ¬ next > 1073741824 := by omega
    go_enter Try.func13, Try.ntmps13
    go_wp2
    go_ret
    exact ⟨by rw [Hr.out, checkF, if_neg h1, if_pos (.inl h2)]; rfl, by go_grown⟩
  by_cases h3 : 1073741824 < next
  · go_enter Try.func13, Try.ntmps13
    go_wp2
    go_ret
    exact ⟨by rw [Hr.out, checkF, if_neg h1, if_pos (.inr h3)]; rfl, by go_grown⟩
  go_enter Try.func13, Try.ntmps13
  go_wp2
  go_loopw [3] (fun i wr => ∃ k : Nat, k ≤ l.length ∧ i = .int .i64 k ∧ Hd (∀ j : Nat, j < k → chkAt l next j = 0) ∧ wr.cell? ⟨w.heap.size, 0, none⟩ = some (.slice A l.length c) ∧ wr.cell? ⟨w.heap.size, 1, none⟩ = some (.int .i64 next) ∧ w.heap.size < wr.heap.size ∧ Hd (Below w.heap.size w wr)) (fun i _ => l.length - (intOf i).toNat)
  case atStart => exact ⟨0, Nat.zero_le _, rfl, ⟨fun j h => by omega⟩, by go_simp, by go_simp, by simp, ⟨by go_grown⟩⟩
  case round =>
    obtain ⟨k, hk, rfl, Hn, hq0, hq1, hsz, HB⟩ := hrel
    by_cases hlt : k < l.length
    · obtain ⟨ad, A4, c4, e0, hx0, hx1, hx2, hx3, hx4, hl4, hi4⟩ := evs_get HR.out k hlt
      subst e0
      replace hx0 := (HB.out.cell (World.block_lt_of_cell? w _ hx0)).trans hx0
      replace hx1 := (HB.out.cell (World.block_lt_of_cell? w _ hx1)).trans hx1
      replace hx2 := (HB.out.cell (World.block_lt_of_cell? w _ hx2)).trans hx2
      replace hx3 := (HB.out.cell (World.block_lt_of_cell? w _ hx3)).trans hx3
      replace hx4 := (HB.out.cell (World.block_lt_of_cell? w _ hx4)).trans hx4
      have hb4 := hi4.1
      clear hl4 hi4
      obtain ⟨xt, et⟩ : ∃ x, x = (nth ev0 l k).t := ⟨_, rfl⟩
      obtain ⟨xn, en⟩ : ∃ x, x = (nth ev0 l k).n := ⟨_, rfl⟩
      obtain ⟨xk, ek⟩ : ∃ x, x = (nth ev0 l k).kd := ⟨_, rfl⟩
      obtain ⟨xo, eo⟩ : ∃ x, x = (nth ev0 l k).dst := ⟨_, rfl⟩
      obtain ⟨xl, el⟩ : ∃ x, x = (nth ev0 l k).body.length := ⟨_, rfl⟩
      rw [← et] at hx0
      rw [← en] at hx1
      rw [← ek] at hx2
      rw [← eo] at hx3
      rw [← el] at hx4 hb4
      have HE : Hd (wrongF (nth ev0 l k).t (nth ev0 l k).n (nth ev0 l k).kd (nth ev0 l k).dst (nth ev0 l k).body.length next = wrongF xt xn xk xo xl next) := ⟨by rw [et, en, ek, eo, el]⟩
      have Het := Hd.mk et
      have Hen := Hd.mk en
      clear et en ek eo el
      by_cases hw : wrongF xt xn xk xo xl next = 0
      · obtain ⟨o1, o2, o3, o4, o5, o6, o7⟩ := wrongF_ok hw
        have Hw : Hd (wrongF (nth ev0 l k).t (nth ev0 l k).n (nth ev0 l k).kd (nth ev0 l k).dst (nth ev0 l k).body.length next = 0) := ⟨by rw [HE.out, hw]⟩
        clear hw HE
        obtain ⟨m, hmk⟩ : ∃ m, m = k - 1 := ⟨_, rfl⟩
        obtain ⟨pt, ept⟩ : ∃ x, x = (nth ev0 l m).t := ⟨_, rfl⟩
        obtain ⟨pn, epn⟩ : ∃ x, x = (nth ev0 l m).n := ⟨_, rfl⟩
        have HG : Hd ((0 < k ∧ 0 ≤ cmpE (nth ev0 l (k - 1)).t (nth ev0 l (k - 1)).n (nth ev0 l k).t (nth ev0 l k).n) ↔ (0 < k ∧ (xt < pt ∨ (xt = pt ∧ xn ≤ pn)))) := ⟨by
          rw [cmpE_ge, ← hmk, ← Het.out, ← Hen.out, ← ept, ← epn]⟩
        have hml : m < l.length := by omega
        obtain ⟨ad', A5, c5, e0', z0, z1, z2, z3, z4, hl5, hi5⟩ := evs_get HR.out m hml
        cases e0'
        replace z0 := (HB.out.cell (World.block_lt_of_cell? w _ z0)).trans z0
        replace z1 := (HB.out.cell (World.block_lt_of_cell? w _ z1)).trans z1
        rw [← ept] at z0
        rw [← epn] at z1
        clear z2 z3 z4 hl5 hi5 ept epn
        have hcases : (k = 0) ∨ (0 < k ∧ xt < pt) ∨ (0 < k ∧ ¬ xt < pt ∧ xt = pt ∧ xn ≤ pn) ∨ (0 < k ∧ ¬ xt < pt ∧ xt = pt ∧ ¬ xn ≤ pn) ∨ (0 < k ∧ ¬ xt < pt ∧ ¬ xt = pt) := by omega
        have hgoal : (0 < k ∧ (xt < pt ∨ (xt = pt ∧ xn ≤ pn)) → r = 3) := fun hg => by
          have hc3 : chkAt l next k = 3 := by rw [chkAt, if_neg (by rw [Hw.out]; decide), if_pos (HG.out.2 hg)]
          rw [Hr.out, checkF_at l next k (by omega) (by omega) (by omega) hlt Hn.out (by rw [hc3]; decide), hc3]
        have HGoal := Hd.mk hgoal
        clear hgoal
        have HMK := Hd.mk hmk
        have hwr : 0 < k → IntKind.i64.wrap ((k : Int) - 1) = (m : Int) := fun h => by rw [show (k : Int) - 1 = m by omega]; exact IntWalk.i64_in _ (by omega)
        have HWR := Hd.mk hwr
        clear hwr hmk
        have hm0 : (0 : Int) ≤ m := by omega
        have hm1 : (m : Int) < l.length := by omega
        rcases hcases with g0 | ⟨g0, g1⟩ | ⟨g0, g1, g2, g3⟩ | ⟨g0, g1, g2, g3⟩ | ⟨g0, g1, g2⟩
        · have HNG : Hd (¬ (0 < k ∧ (xt < pt ∨ (xt = pt ∧ xn ≤ pn)))) := ⟨by omega⟩
          subst g0
          simp only [Nat.zero_mul, Kd.add_zero] at hx0 hx1 hx2 hx3 hx4
          go_wp2_with fail
          go_quiet (fail)
          have SB : Below w.heap.size w (World.drewN (wr.alloc (.cells #[.int .i64 xt, .int .i64 xn, .int .i64 xk, .int .i64 xo, .slice A4 xl c4] 32)) nq) := HB.out.trans (pw_below_drewN (Below.alloc (Below.refl _ _) (by omega) _) _)
          have SQ0 : (World.drewN (wr.alloc (.cells #[.int .i64 xt, .int .i64 xn, .int .i64 xk, .int .i64 xo, .slice A4 xl c4] 32)) nq).cell? ⟨w.heap.size, 0, none⟩ = some (.slice (some ad) l.length c) := keepA hq0 _
          have SQ1 : (World.drewN (wr.alloc (.cells #[.int .i64 xt, .int .i64 xn, .int .i64 xk, .int .i64 xo, .slice A4 xl c4] 32)) nq).cell? ⟨w.heap.size, 1, none⟩ = some (.int .i64 next) := keepA hq1 _
          have SY1 : (World.drewN (wr.alloc (.cells #[.int .i64 xt, .int .i64 xn, .int .i64 xk, .int .i64 xo, .slice A4 xl c4] 32)) nq).cell? ⟨wr.heap.size, 1, none⟩ = some (.int .i64 xn) := (Blk.new wr 32 #[.int .i64 xt, .int .i64 xn, .int .i64 xk, .int .i64 xo, .slice A4 xl c4]).f5.2.1
          have SSZ : w.heap.size < (World.drewN (wr.alloc (.cells #[.int .i64 xt, .int .i64 xn, .int .i64 xk, .int .i64 xo, .slice A4 xl c4] 32)) nq).heap.size := by have := HB.out.size; have := SB.size; show w.heap.size < (wr.alloc _).heap.size; rw [World.size_alloc]; omega
          clear hq0 hq1 hx0 hx1 hx2 hx3 hx4 hm0 hm1
          go_wp2_with fail
          go_loopw [5] (fun i wq => ∃ j : Nat, j ≤ 0 ∧ i = .int .i64 j ∧ Hd (∀ x : Nat, x < j → (nth ev0 l x).n ≠ xn) ∧ wq.cell? ⟨w.heap.size, 0, none⟩ = some (.slice (some ad) l.length c) ∧ wq.cell? ⟨w.heap.size, 1, none⟩ = some (.int .i64 next) ∧ wq.cell? ⟨wr.heap.size, 1, none⟩ = some (.int .i64 xn) ∧ w.heap.size < wq.heap.size ∧ Hd (Below w.heap.size w wq)) (fun i _ => 0)
          case atStart => exact ⟨0, Nat.zero_le _, rfl, ⟨fun j h => by omega⟩, SQ0, SQ1, SY1, SSZ, ⟨SB⟩⟩
          case round =>
            obtain ⟨j, hj, rfl, Hj, s0, s1, s2, s3, HBq⟩ := hrel
            by_cases hlt2 : j < 0
            · exact absurd hlt2 (Nat.not_lt_zero _)
            · go_wp2
              go_roundw
              case rel => exact ⟨1, by omega, by go_num, ⟨fun x hx => by
                rcases Nat.lt_or_ge x 0 with h | h
                · exact Hn.out x h
                · obtain rfl : x = 0 := by omega
                  rw [chkAt, if_neg (by rw [Hw.out]; decide), if_neg (fun h => HNG.out (HG.out.1 h)), if_neg]
                  intro hany
                  rw [List.any_eq_true] at hany
                  obtain ⟨y, hy, he⟩ := hany
                  obtain ⟨z, hz, rfl⟩ := nth_of_mem_take l 0 y hy
                  rw [← Hen.out] at he
                  exact Hj.out z (by omega) (by simpa using he)⟩, s0, s1, s3, HBq⟩
              case measure => simp [intOf] <;> omega
        · have d0 : decide ((k : Int) > 0) = true := by simp; omega
          have d1 : decide (xt < pt) = true := by simp; omega
          have hw1 := HWR.out g0
          go_wp2_with fail
          have q0 : (wr.alloc (.cells #[.int .i64 xt, .int .i64 xn, .int .i64 xk, .int .i64 xo, .slice A4 xl c4] 32)).cell? ⟨w.heap.size, 0, none⟩ = some (.slice (some ad) l.length c) := keepA hq0 _
          have v0 := keepA z0 (.cells #[.int .i64 xt, .int .i64 xn, .int .i64 xk, .int .i64 xo, .slice A4 xl c4] 32)
          have v1 := keepA z1 (.cells #[.int .i64 xt, .int .i64 xn, .int .i64 xk, .int .i64 xo, .slice A4 xl c4] 32)
          obtain ⟨y0, y1, -, -, -, -, -, -, -, -⟩ := (Blk.new wr 32 #[.int .i64 xt, .int .i64 xn, .int .i64 xk, .int .i64 xo, .slice A4 xl c4]).f5
          go_quiet (fail)
          go_wp2
          go_ret
          exact ⟨by rw [HGoal.out ⟨g0, .inl g1⟩]; rfl, HB.out.trans (pw_below_drewN (Below.alloc (Below.refl _ _) (by omega) _) _)⟩
        · have d0 : decide ((k : Int) > 0) = true := by simp; omega
          have d1 : decide (xt < pt) = false := by simp; omega
          subst g2
          have d3 : decide (xn ≤ pn) = true := by simp; omega
          have hw1 := HWR.out g0
          go_wp2_with fail
          have q0 : (wr.alloc (.cells #[.int .i64 xt, .int .i64 xn, .int .i64 xk, .int .i64 xo, .slice A4 xl c4] 32)).cell? ⟨w.heap.size, 0, none⟩ = some (.slice (some ad) l.length c) := keepA hq0 _
          have v0 := keepA z0 (.cells #[.int .i64 xt, .int .i64 xn, .int .i64 xk, .int .i64 xo, .slice A4 xl c4] 32)
          have v1 := keepA z1 (.cells #[.int .i64 xt, .int .i64 xn, .int .i64 xk, .int .i64 xo, .slice A4 xl c4] 32)
          obtain ⟨y0, y1, -, -, -, -, -, -, -, -⟩ := (Blk.new wr 32 #[.int .i64 xt, .int .i64 xn, .int .i64 xk, .int .i64 xo, .slice A4 xl c4]).f5
          go_quiet (fail)
          go_wp2
          go_ret
          exact ⟨by rw [HGoal.out (by first | omega | (simp; omega))]; rfl, HB.out.trans (pw_below_drewN (Below.alloc (Below.refl _ _) (by omega) _) _)⟩
        · have d0 : decide ((k : Int) > 0) = true := by simp; omega
          have d1 : decide (xt < pt) = false := by simp; omega
          have HNG : Hd (¬ (0 < k ∧ (xt < pt ∨ (xt = pt ∧ xn ≤ pn)))) := ⟨by omega⟩
          subst g2
          have d3 : decide (xn ≤ pn) = false := by simp; omega
          have hw1 := HWR.out g0
          go_wp2_with fail
          have q0 : (wr.alloc (.cells #[.int .i64 xt, .int .i64 xn, .int .i64 xk, .int .i64 xo, .slice A4 xl c4] 32)).cell? ⟨w.heap.size, 0, none⟩ = some (.slice (some ad) l.length c) := keepA hq0 _
          have v0 := keepA z0 (.cells #[.int .i64 xt, .int .i64 xn, .int .i64 xk, .int .i64 xo, .slice A4 xl c4] 32)
          have v1 := keepA z1 (.cells #[.int .i64 xt, .int .i64 xn, .int .i64 xk, .int .i64 xo, .slice A4 xl c4] 32)
          obtain ⟨y0, y1, -, -, -, -, -, -, -, -⟩ := (Blk.new wr 32 #[.int .i64 xt, .int .i64 xn, .int .i64 xk, .int .i64 xo, .slice A4 xl c4]).f5
          go_quiet (fail)
          have SB : Below w.heap.size w (World.drewN (wr.alloc (.cells #[.int .i64 xt, .int .i64 xn, .int .i64 xk, .int .i64 xo, .slice A4 xl c4] 32)) nq) := HB.out.trans (pw_below_drewN (Below.alloc (Below.refl _ _) (by omega) _) _)
          have SQ0 : (World.drewN (wr.alloc (.cells #[.int .i64 xt, .int .i64 xn, .int .i64 xk, .int .i64 xo, .slice A4 xl c4] 32)) nq).cell? ⟨w.heap.size, 0, none⟩ = some (.slice (some ad) l.length c) := keepA hq0 _
          have SQ1 : (World.drewN (wr.alloc (.cells #[.int .i64 xt, .int .i64 xn, .int .i64 xk, .int .i64 xo, .slice A4 xl c4] 32)) nq).cell? ⟨w.heap.size, 1, none⟩ = some (.int .i64 next) := keepA hq1 _
          have SY1 : (World.drewN (wr.alloc (.cells #[.int .i64 xt, .int .i64 xn, .int .i64 xk, .int .i64 xo, .slice A4 xl c4] 32)) nq).cell? ⟨wr.heap.size, 1, none⟩ = some (.int .i64 xn) := (Blk.new wr 32 #[.int .i64 xt, .int .i64 xn, .int .i64 xk, .int .i64 xo, .slice A4 xl c4]).f5.2.1
          have SSZ : w.heap.size < (World.drewN (wr.alloc (.cells #[.int .i64 xt, .int .i64 xn, .int .i64 xk, .int .i64 xo, .slice A4 xl c4] 32)) nq).heap.size := by have := HB.out.size; have := SB.size; show w.heap.size < (wr.alloc _).heap.size; rw [World.size_alloc]; omega
          clear hq0 hq1 hx0 hx1 hx2 hx3 hx4 hm0 hm1
          go_wp2_with fail
          go_loopw [5] (fun i wq => ∃ j : Nat, j ≤ k ∧ i = .int .i64 j ∧ Hd (∀ x : Nat, x < j → (nth ev0 l x).n ≠ xn) ∧ wq.cell? ⟨w.heap.size, 0, none⟩ = some (.slice (some ad) l.length c) ∧ wq.cell? ⟨w.heap.size, 1, none⟩ = some (.int .i64 next) ∧ wq.cell? ⟨wr.heap.size, 1, none⟩ = some (.int .i64 xn) ∧ w.heap.size < wq.heap.size ∧ Hd (Below w.heap.size w wq)) (fun i _ => k - (intOf i).toNat)
          case atStart => exact ⟨0, Nat.zero_le _, rfl, ⟨fun j h => by omega⟩, SQ0, SQ1, SY1, SSZ, ⟨SB⟩⟩
          case round =>
            obtain ⟨j, hj, rfl, Hj, s0, s1, s2, s3, HBq⟩ := hrel
            by_cases hlt2 : j < k
            · obtain ⟨ad2, A6, c6, e2, t0, t1, t2, t3, t4, hl6, hi6⟩ := evs_get HR.out j (by omega)
              cases e2
              replace t1 := (HBq.out.cell (World.block_lt_of_cell? w _ t1)).trans t1
              clear t0 t2 t3 t4 hl6 hi6
              have hj0 : (0 : Int) ≤ j := by omega
              have hj1 : (j : Int) < l.length := by omega
              by_cases hsame : (nth ev0 l j).n = xn
              · have hb8 : ((nth ev0 l j).n == xn) = true := by simp [hsame]
                have HSame := Hd.mk hsame
                clear hsame
                go_wp2_with fail
                go_quiet (fail)
                go_wp2
                go_ret
                refine ⟨?_, HBq.out.trans (pw_below_drewN (Below.refl _ _) _)⟩
                have hc8 : chkAt l next k = 8 := by
                  rw [chkAt, if_neg (by rw [Hw.out]; decide), if_neg (fun h => HNG.out (HG.out.1 h)), if_pos]
                  rw [List.any_eq_true]
                  exact ⟨nth ev0 l j, mem_take_nth l j k hlt2 (by omega), by rw [HSame.out, Hen.out]; simp⟩
                rw [Hr.out, checkF_at l next k (by omega) (by omega) (by omega) hlt Hn.out (by rw [hc8]; decide), hc8]
                rfl
              · have hb8 : ((nth ev0 l j).n == xn) = false := by simp [hsame]
                have HSame := Hd.mk hsame
                clear hsame
                go_wp2_with fail
                go_quiet (fail)
                go_wp2
                go_roundw
                case rel => exact ⟨j + 1, by omega, by go_num, ⟨fun x hx => by
                  rcases Nat.lt_or_ge x j with h | h
                  · exact Hj.out x h
                  · obtain rfl : x = j := by omega
                    exact HSame.out⟩, s0, s1, s2, s3, ⟨HBq.out.trans (pw_below_drewN (Below.refl _ _) _)⟩⟩
                case measure => simp [intOf] <;> omega
            · go_wp2
              go_roundw
              case rel => exact ⟨k + 1, by omega, by go_num, ⟨fun x hx => by
                rcases Nat.lt_or_ge x k with h | h
                · exact Hn.out x h
                · obtain rfl : x = k := by omega
                  rw [chkAt, if_neg (by rw [Hw.out]; decide), if_neg (fun h => HNG.out (HG.out.1 h)), if_neg]
                  intro hany
                  rw [List.any_eq_true] at hany
                  obtain ⟨y, hy, he⟩ := hany
                  obtain ⟨z, hz, rfl⟩ := nth_of_mem_take l x y hy
                  rw [← Hen.out] at he
                  exact Hj.out z (by omega) (by simpa using he)⟩, s0, s1, s3, HBq⟩
              case measure => simp [intOf] <;> omega
        · have d0 : decide ((k : Int) > 0) = true := by simp; omega
          have d1 : decide (xt < pt) = false := by simp; omega
          have d2 : (xt == pt) = false := by simp; omega
          have hw1 := HWR.out g0
          have HNG : Hd (¬ (0 < k ∧ (xt < pt ∨ (xt = pt ∧ xn ≤ pn)))) := ⟨by omega⟩
          go_wp2_with fail
          have q0 : (wr.alloc (.cells #[.int .i64 xt, .int .i64 xn, .int .i64 xk, .int .i64 xo, .slice A4 xl c4] 32)).cell? ⟨w.heap.size, 0, none⟩ = some (.slice (some ad) l.length c) := keepA hq0 _
          have v0 := keepA z0 (.cells #[.int .i64 xt, .int .i64 xn, .int .i64 xk, .int .i64 xo, .slice A4 xl c4] 32)
          have v1 := keepA z1 (.cells #[.int .i64 xt, .int .i64 xn, .int .i64 xk, .int .i64 xo, .slice A4 xl c4] 32)
          obtain ⟨y0, y1, -, -, -, -, -, -, -, -⟩ := (Blk.new wr 32 #[.int .i64 xt, .int .i64 xn, .int .i64 xk, .int .i64 xo, .slice A4 xl c4]).f5
          go_quiet (fail)
          have SB : Below w.heap.size w (World.drewN (wr.alloc (.cells #[.int .i64 xt, .int .i64 xn, .int .i64 xk, .int .i64 xo, .slice A4 xl c4] 32)) nq) := HB.out.trans (pw_below_drewN (Below.alloc (Below.refl _ _) (by omega) _) _)
          have SQ0 : (World.drewN (wr.alloc (.cells #[.int .i64 xt, .int .i64 xn, .int .i64 xk, .int .i64 xo, .slice A4 xl c4] 32)) nq).cell? ⟨w.heap.size, 0, none⟩ = some (.slice (some ad) l.length c) := keepA hq0 _
          have SQ1 : (World.drewN (wr.alloc (.cells #[.int .i64 xt, .int .i64 xn, .int .i64 xk, .int .i64 xo, .slice A4 xl c4] 32)) nq).cell? ⟨w.heap.size, 1, none⟩ = some (.int .i64 next) := keepA hq1 _
          have SY1 : (World.drewN (wr.alloc (.cells #[.int .i64 xt, .int .i64 xn, .int .i64 xk, .int .i64 xo, .slice A4 xl c4] 32)) nq).cell? ⟨wr.heap.size, 1, none⟩ = some (.int .i64 xn) := (Blk.new wr 32 #[.int .i64 xt, .int .i64 xn, .int .i64 xk, .int .i64 xo, .slice A4 xl c4]).f5.2.1
          have SSZ : w.heap.size < (World.drewN (wr.alloc (.cells #[.int .i64 xt, .int .i64 xn, .int .i64 xk, .int .i64 xo, .slice A4 xl c4] 32)) nq).heap.size := by have := HB.out.size; have := SB.size; show w.heap.size < (wr.alloc _).heap.size; rw [World.size_alloc]; omega
          clear hq0 hq1 hx0 hx1 hx2 hx3 hx4 hm0 hm1
          go_wp2_with fail
          go_loopw [5] (fun i wq => ∃ j : Nat, j ≤ k ∧ i = .int .i64 j ∧ Hd (∀ x : Nat, x < j → (nth ev0 l x).n ≠ xn) ∧ wq.cell? ⟨w.heap.size, 0, none⟩ = some (.slice (some ad) l.length c) ∧ wq.cell? ⟨w.heap.size, 1, none⟩ = some (.int .i64 next) ∧ wq.cell? ⟨wr.heap.size, 1, none⟩ = some (.int .i64 xn) ∧ w.heap.size < wq.heap.size ∧ Hd (Below w.heap.size w wq)) (fun i _ => k - (intOf i).toNat)
          case atStart => exact ⟨0, Nat.zero_le _, rfl, ⟨fun j h => by omega⟩, SQ0, SQ1, SY1, SSZ, ⟨SB⟩⟩
          case round =>
            obtain ⟨j, hj, rfl, Hj, s0, s1, s2, s3, HBq⟩ := hrel
            by_cases hlt2 : j < k
            · obtain ⟨ad2, A6, c6, e2, t0, t1, t2, t3, t4, hl6, hi6⟩ := evs_get HR.out j (by omega)
              cases e2
              replace t1 := (HBq.out.cell (World.block_lt_of_cell? w _ t1)).trans t1
              clear t0 t2 t3 t4 hl6 hi6
              have hj0 : (0 : Int) ≤ j := by omega
              have hj1 : (j : Int) < l.length := by omega
              by_cases hsame : (nth ev0 l j).n = xn
              · have hb8 : ((nth ev0 l j).n == xn) = true := by simp [hsame]
                have HSame := Hd.mk hsame
                clear hsame
                go_wp2_with fail
                go_quiet (fail)
                go_wp2
                go_ret
                refine ⟨?_, HBq.out.trans (pw_below_drewN (Below.refl _ _) _)⟩
                have hc8 : chkAt l next k = 8 := by
                  rw [chkAt, if_neg (by rw [Hw.out]; decide), if_neg (fun h => HNG.out (HG.out.1 h)), if_pos]
                  rw [List.any_eq_true]
                  exact ⟨nth ev0 l j, mem_take_nth l j k hlt2 (by omega), by rw [HSame.out, Hen.out]; simp⟩
                rw [Hr.out, checkF_at l next k (by omega) (by omega) (by omega) hlt Hn.out (by rw [hc8]; decide), hc8]
                rfl
              · have hb8 : ((nth ev0 l j).n == xn) = false := by simp [hsame]
                have HSame := Hd.mk hsame
                clear hsame
                go_wp2_with fail
                go_quiet (fail)
                go_wp2
                go_roundw
                case rel => exact ⟨j + 1, by omega, by go_num, ⟨fun x hx => by
                  rcases Nat.lt_or_ge x j with h | h
                  · exact Hj.out x h
                  · obtain rfl : x = j := by omega
                    exact HSame.out⟩, s0, s1, s2, s3, ⟨HBq.out.trans (pw_below_drewN (Below.refl _ _) _)⟩⟩
                case measure => simp [intOf] <;> omega
            · go_wp2
              go_roundw
              case rel => exact ⟨k + 1, by omega, by go_num, ⟨fun x hx => by
                rcases Nat.lt_or_ge x k with h | h
                · exact Hn.out x h
                · obtain rfl : x = k := by omega
                  rw [chkAt, if_neg (by rw [Hw.out]; decide), if_neg (fun h => HNG.out (HG.out.1 h)), if_neg]
                  intro hany
                  rw [List.any_eq_true] at hany
                  obtain ⟨y, hy, he⟩ := hany
                  obtain ⟨z, hz, rfl⟩ := nth_of_mem_take l x y hy
                  rw [← Hen.out] at he
                  exact Hj.out z (by omega) (by simpa using he)⟩, s0, s1, s3, HBq⟩
              case measure => simp [intOf] <;> omega
      · have Hfin : Hd (∀ r0, wrongF xt xn xk xo xl next = r0 → r = r0) := ⟨fun r0 h0 => by
          rw [Hr.out, checkF_at l next k (by omega) (by omega) (by omega) hlt Hn.out (by rw [chkAt, if_pos (by rw [HE.out]; exact hw), HE.out]; exact hw), chkAt, if_pos (by rw [HE.out]; exact hw), HE.out, h0]⟩
        have hcs := wrongF_cases _ _ _ _ _ _ hw
        clear hw HE Het Hen Hn Hr
        rcases hcs with ⟨o1, hv⟩ | ⟨o1, o2, hv⟩ | ⟨o1, o2, o3, hv⟩ | ⟨o1, o2, o3, o4, hv⟩ | ⟨o1, o2, o3, o4, o5, hv⟩ | ⟨o1, o2, o3, o4, o5, o6, hv⟩ | ⟨o1, o2, o3, o4, o5, o6, o7, hv⟩
        all_goals
          have Hv := Hd.mk hv
          clear hv
          go_wp2
          go_ret
          refine ⟨by rw [Hfin.out _ Hv.out]; rfl, HB.out.trans ?_⟩
          exact Below.alloc (Below.refl _ _) (by omega) _
    · go_wp2
      go_ret
      exact ⟨by rw [Hr.out, checkF_zero l next (by omega) (by omega) (by omega) (fun j hj => Hn.out j (by omega))]; rfl, HB.out⟩
end Go.Proofs.Ytnmcbpjhlkpglaa.B
