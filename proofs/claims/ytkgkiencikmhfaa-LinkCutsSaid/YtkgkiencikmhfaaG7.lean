/- What this text holds: the contract of the reference's Check. -/
import Derived.Test.YtkgkiencikmhfaaG6
set_option linter.unusedVariables false
set_option linter.unusedSimpArgs false
namespace Go.Proofs.Ytkgkiencikmhfaa.B
open Go.RowKit

theorem wrongL_ok {t n next : Int} {len : Nat} (h : wrongL t n len next = 0) : 0 ≤ t ∧ t ≤ 1073741824 ∧ 0 ≤ n ∧ n < next ∧ len ≤ 65536 := by
  unfold wrongL at h
  split at h
  · cases h
  · rename_i h1
    split at h
    · cases h
    · rename_i h2
      split at h
      · cases h
      · simp [betw] at h1 h2
        omega
theorem wrongL_cases (t n : Int) (len : Nat) (next : Int) (h : wrongL t n len next ≠ 0) :
    (t < 0 ∧ wrongL t n len next = 24) ∨ (0 ≤ t ∧ 1073741824 < t ∧ wrongL t n len next = 24) ∨
    (0 ≤ t ∧ t ≤ 1073741824 ∧ n < 0 ∧ wrongL t n len next = 2) ∨
    (0 ≤ t ∧ t ≤ 1073741824 ∧ 0 ≤ n ∧ next ≤ n ∧ wrongL t n len next = 2) ∨
    (0 ≤ t ∧ t ≤ 1073741824 ∧ (0 ≤ n ∧ n < next) ∧ 65536 < len ∧ 65536 < len ∧ wrongL t n len next = 5) := by
  generalize hr : wrongL t n len next = r at h ⊢
  unfold wrongL at hr
  split at hr
  · rename_i h1
    simp [betw] at h1
    omega
  · rename_i h1
    simp [betw] at h1
    split at hr
    · rename_i h2
      simp [betw] at h2
      omega
    · rename_i h2
      simp [betw] at h2
      split at hr <;> omega
theorem nth_of_mem_take (l : List Fl) (k : Nat) (y : Fl) (h : y ∈ l.take k) : ∃ z, z < k ∧ nth fl0 l z = y := by
  obtain ⟨z, hz, he⟩ := List.mem_take_iff_getElem.1 h
  exact ⟨z, by omega, by rw [nth_eq fl0 l z (by omega)]; exact he⟩
theorem cmpE_ge (t n t' n' : Int) : 0 ≤ cmpE t n t' n' ↔ (t' < t ∨ (t' = t ∧ n' ≤ n)) := by
  unfold cmpE orI cmpI
  split <;> split <;> (try split) <;> (try split) <;> omega

set_option maxRecDepth 100000 in
set_option maxHeartbeats 4000000 in
theorem refCheck_calls (mn mx rt : Int) (dn : Bool) (idle next : Int) (A : Option Addr) (c : Nat) (l : List Fl) (w : World) (hr : fls.C w A l) (hc : l.length ≤ c) :
    Calls Try.prog 17 #[.agg #[.int .i64 mn, .int .i64 mx, .int .i64 rt, .bool dn, .int .i64 idle, .int .i64 next, .slice A l.length c]] w fun e w' => e = .returned (.int .i64 (chkL mn mx rt dn idle next l)) ∧ Below w.heap.size w w' := by
  have hu26 := Try.underlying26
  have hu23 := Try.underlying23
  have hu69 := Try.underlying69
  have HR := Hd.mk hr
  have HC := Hd.mk hc
  have hm := hr.1
  clear hr hc
  obtain ⟨r, hr⟩ : ∃ r, r = chkL mn mx rt dn idle next l := ⟨_, rfl⟩
  rw [← hr]
  have Hr0 := Hd.mk hr
  clear hr
  obtain ⟨cf, hcf⟩ : ∃ cf, cfgF mn mx rt = cf := ⟨_, rfl⟩
  have HCF := Hd.mk hcf
  clear hcf
  have HBW : Hd (Below w.heap.size w (w.alloc (.cells #[.int .i64 mn, .int .i64 mx, .int .i64 rt, .bool dn, .int .i64 idle, .int .i64 next, .slice A l.length c] 26))) := ⟨by go_grown⟩
  have HQ := Hd.mk (Blk.new w 26 #[.int .i64 mn, .int .i64 mx, .int .i64 rt, .bool dn, .int .i64 idle, .int .i64 next, .slice A l.length c])
  go_enter Try.func17, Try.ntmps17
  go_wp2_with fail
  refine (refConfig_calls mn mx rt _).mono ?_
  rw [HCF.out]
  rintro e w1 ⟨rfl, hb⟩
  have HB1 : Hd (Below w.heap.size w w1) := ⟨HBW.out.trans (hb.mono HBW.out.size)⟩
  have HQ1 := Hd.mk (HQ.out.below hb)
  have hplt := HQ1.out.lt
  obtain ⟨b0, b1, b2, b3, b4, b5, b6, -, -, -, -, -, -, -⟩ := HQ1.out.f7
  clear hb HBW HQ
  by_cases h0 : cf = 0
  rotate_left
  · have h0b : (cf != 0) = true := by simp [h0]
    have HE : Hd (r = 2) := ⟨by rw [Hr0.out, chkL, if_pos (by rw [HCF.out]; exact h0)]⟩
    have HE2 : Hd (cf = 2) := ⟨by rw [← HCF.out] at h0 ⊢; exact cfgF_two h0⟩
    clear h0
    go_wp2
    go_ret
    exact ⟨by rw [HE.out, HE2.out]; rfl, HB1.out⟩
  subst h0
  by_cases h1 : idle < 0
  · have HE : Hd (r = 24) := ⟨by rw [Hr0.out, chkL, if_neg (by rw [HCF.out]; decide), if_pos (by simp [betw]; omega)]⟩
    go_wp2
    go_ret
    exact ⟨by rw [HE.out]; rfl, HB1.out⟩
  by_cases h2 : 1073741824 < idle
  · have HE : Hd (r = 24) := ⟨by rw [Hr0.out, chkL, if_neg (by rw [HCF.out]; decide), if_pos (by simp [betw]; omega)]⟩
    go_wp2
    go_ret
    exact ⟨by rw [HE.out]; rfl, HB1.out⟩
  have HI : Hd (¬ betw idle 0 1073741824 = false) := ⟨by simp [betw]; omega⟩
  by_cases h3 : next < 0
  · have HE : Hd (r = 2) := ⟨by rw [Hr0.out, chkL, if_neg (by rw [HCF.out]; decide), if_neg HI.out, if_pos (by simp [betw]; omega)]⟩
    go_wp2
    go_ret
    exact ⟨by rw [HE.out]; rfl, HB1.out⟩
  by_cases h4 : 1073741824 < next
  · have HE : Hd (r = 2) := ⟨by rw [Hr0.out, chkL, if_neg (by rw [HCF.out]; decide), if_neg HI.out, if_pos (by simp [betw]; omega)]⟩
    go_wp2
    go_ret
    exact ⟨by rw [HE.out]; rfl, HB1.out⟩
  have HN : Hd (¬ betw next 0 1073741824 = false) := ⟨by simp [betw]; omega⟩
  by_cases h5 : (4096 : Int) < l.length
  · have HE : Hd (r = 6) := ⟨by rw [Hr0.out, chkL, if_neg (by rw [HCF.out]; decide), if_neg HI.out, if_neg HN.out, if_pos (by omega)]⟩
    have h5b : decide ((4096 : Int) < l.length) = true := decide_eq_true h5
    go_wp2
    go_ret
    exact ⟨by rw [HE.out]; rfl, HB1.out⟩
  have h5b : decide ((4096 : Int) < l.length) = false := decide_eq_false h5
  by_cases h6 : dn = true ∧ 0 < l.length
  · obtain ⟨rfl, h7⟩ := h6
    have HE : Hd (r = 12) := ⟨by rw [Hr0.out, chkL, if_neg (by rw [HCF.out]; decide), if_neg HI.out, if_neg HN.out, if_neg (by omega), if_pos ⟨rfl, h7⟩]⟩
    have h8 : (0 : Int) < l.length := by omega
    go_wp2
    go_ret
    exact ⟨by rw [HE.out]; rfl, HB1.out⟩
  have Hr : Hd (r = firstErr (chkLAt l next) l.length) := ⟨by rw [Hr0.out, chkL, if_neg (by rw [HCF.out]; decide), if_neg HI.out, if_neg HN.out, if_neg (by omega), if_neg h6]⟩
  have hdn : dn = false ∨ (dn = true ∧ ¬ (0 : Int) < l.length) := by
    cases dn
    · exact .inl rfl
    · have h7 : ¬ 0 < l.length := fun h => h6 ⟨rfl, h⟩
      exact .inr ⟨rfl, by omega⟩
  clear h6 Hr0
  rcases hdn with rfl | ⟨rfl, hd2⟩
  rotate_left
  · have hl0 : l.length = 0 := by omega
    have hd3 : decide ((0 : Int) < l.length) = false := decide_eq_false hd2
    have HL0 := Hd.mk hl0
    go_wp2
    go_loopw [4] (fun i wr => i = .int .i64 0 ∧ Hd (Blk wr w.heap.size 26 #[.int .i64 mn, .int .i64 mx, .int .i64 rt, .bool true, .int .i64 idle, .int .i64 next, .slice A l.length c]) ∧ Hd (Below w.heap.size w wr)) (fun i _ => 0)
    case atStart => exact ⟨rfl, HQ1, HB1⟩
    case round =>
      obtain ⟨rfl, HQ, HB⟩ := hrel
      obtain ⟨b0', b1', b2', b3', b4', b5', b6', -, -, -, -, -, -, -⟩ := HQ.out.f7
      go_wp2
      go_ret
      exact ⟨by rw [Hr.out, HL0.out]; rfl, HB.out⟩
  go_wp2
  go_loopw [4] (fun i wr => ∃ k : Nat, k ≤ l.length ∧ i = .int .i64 k ∧ Hd (∀ j : Nat, j < k → chkLAt l next j = 0) ∧ wr.cell? ⟨w.heap.size, 6, none⟩ = some (.slice A l.length c) ∧ wr.cell? ⟨w.heap.size, 5, none⟩ = some (.int .i64 next) ∧ w.heap.size < wr.heap.size ∧ Hd (Below w.heap.size w wr)) (fun i _ => l.length - (intOf i).toNat)
  case atStart => exact ⟨0, Nat.zero_le _, rfl, ⟨fun j h => by omega⟩, b6, b5, hplt, HB1⟩
  case round =>
    obtain ⟨k, hk, rfl, Hn, hq0, hq1, hsz, HB⟩ := hrel
    by_cases hlt : k < l.length
    · obtain ⟨ad, A4, c4, e0, hx0, hx1, hx4, hl4, hi4⟩ := fls_get HR.out k hlt
      subst e0
      replace hx0 := (HB.out.cell (World.block_lt_of_cell? w _ hx0)).trans hx0
      replace hx1 := (HB.out.cell (World.block_lt_of_cell? w _ hx1)).trans hx1
      replace hx4 := (HB.out.cell (World.block_lt_of_cell? w _ hx4)).trans hx4
      have hb4 := hi4.1
      clear hl4 hi4
      obtain ⟨xt, et⟩ : ∃ x, x = (nth fl0 l k).t := ⟨_, rfl⟩
      obtain ⟨xn, en⟩ : ∃ x, x = (nth fl0 l k).n := ⟨_, rfl⟩
      obtain ⟨xl, el⟩ : ∃ x, x = (nth fl0 l k).body.length := ⟨_, rfl⟩
      rw [← et] at hx0
      rw [← en] at hx1
      rw [← el] at hx4 hb4
      have HE : Hd (wrongL (nth fl0 l k).t (nth fl0 l k).n (nth fl0 l k).body.length next = wrongL xt xn xl next) := ⟨by rw [et, en, el]⟩
      have Het := Hd.mk et
      have Hen := Hd.mk en
      clear et en el
      by_cases hw : wrongL xt xn xl next = 0
      · obtain ⟨o1, o2, o5, o6, o7⟩ := wrongL_ok hw
        have Hw : Hd (wrongL (nth fl0 l k).t (nth fl0 l k).n (nth fl0 l k).body.length next = 0) := ⟨by rw [HE.out, hw]⟩
        clear hw HE
        obtain ⟨m, hmk⟩ : ∃ m, m = k - 1 := ⟨_, rfl⟩
        obtain ⟨pt, ept⟩ : ∃ x, x = (nth fl0 l m).t := ⟨_, rfl⟩
        obtain ⟨pn, epn⟩ : ∃ x, x = (nth fl0 l m).n := ⟨_, rfl⟩
        have HG : Hd ((0 < k ∧ 0 ≤ cmpE (nth fl0 l (k - 1)).t (nth fl0 l (k - 1)).n (nth fl0 l k).t (nth fl0 l k).n) ↔ (0 < k ∧ (xt < pt ∨ (xt = pt ∧ xn ≤ pn)))) := ⟨by
          rw [cmpE_ge, ← hmk, ← Het.out, ← Hen.out, ← ept, ← epn]⟩
        have hml : m < l.length := by omega
        obtain ⟨ad', A5, c5, e0', z0, z1, z4, hl5, hi5⟩ := fls_get HR.out m hml
        cases e0'
        replace z0 := (HB.out.cell (World.block_lt_of_cell? w _ z0)).trans z0
        replace z1 := (HB.out.cell (World.block_lt_of_cell? w _ z1)).trans z1
        rw [← ept] at z0
        rw [← epn] at z1
        clear z4 hl5 hi5 ept epn
        have hcases : (k = 0) ∨ (0 < k ∧ xt < pt) ∨ (0 < k ∧ ¬ xt < pt ∧ xt = pt ∧ xn ≤ pn) ∨ (0 < k ∧ ¬ xt < pt ∧ xt = pt ∧ ¬ xn ≤ pn) ∨ (0 < k ∧ ¬ xt < pt ∧ ¬ xt = pt) := by omega
        have hgoal : (0 < k ∧ (xt < pt ∨ (xt = pt ∧ xn ≤ pn)) → r = 3) := fun hg => by
          have hc3 : chkLAt l next k = 3 := by rw [chkLAt, if_neg (by rw [Hw.out]; decide), if_pos (HG.out.2 hg)]
          rw [Hr.out, firstErr_at _ _ k hlt Hn.out (by rw [hc3]; decide), hc3]
        have HGoal := Hd.mk hgoal
        clear hgoal
        have HMK := Hd.mk hmk
        have hwr : 0 < k → IntKind.i64.wrap ((k : Int) - 1) = (m : Int) := fun h => by rw [show (k : Int) - 1 = m by omega]; exact IntWalk.i64_in _ (by omega)
        have HWR := Hd.mk hwr
        clear hwr hmk
        have hm0 : (0 : Int) ≤ m := by omega
        have hm1 : (m : Int) < l.length := by omega
        rcases hcases with g0 | ⟨g0, g1⟩ | ⟨g0, g1, g2, g3⟩ | ⟨g0, g1, g2, g3⟩ | ⟨g0, g1, g2⟩
        · have HNG : Hd (¬ (0 < k ∧ (xt < pt ∨ (xt = pt ∧ xn ≤ pn)))) := ⟨by omega⟩
          subst g0
          simp only [Nat.zero_mul, Kd.add_zero] at hx0 hx1 hx4
          go_wp2_with fail
          go_quiet (fail)
          have SB : Below w.heap.size w (World.drewN (wr.alloc (.cells #[.int .i64 xt, .int .i64 xn, .slice A4 xl c4] 69)) nq) := HB.out.trans (pw_below_drewN (Below.alloc (Below.refl _ _) (by omega) _) _)
          have SQ0 : (World.drewN (wr.alloc (.cells #[.int .i64 xt, .int .i64 xn, .slice A4 xl c4] 69)) nq).cell? ⟨w.heap.size, 6, none⟩ = some (.slice (some ad) l.length c) := keepA hq0 _
          have SQ1 : (World.drewN (wr.alloc (.cells #[.int .i64 xt, .int .i64 xn, .slice A4 xl c4] 69)) nq).cell? ⟨w.heap.size, 5, none⟩ = some (.int .i64 next) := keepA hq1 _
          have SY1 : (World.drewN (wr.alloc (.cells #[.int .i64 xt, .int .i64 xn, .slice A4 xl c4] 69)) nq).cell? ⟨wr.heap.size, 1, none⟩ = some (.int .i64 xn) := (Blk.new wr 69 #[.int .i64 xt, .int .i64 xn, .slice A4 xl c4]).f3.2.1
          have SSZ : w.heap.size < (World.drewN (wr.alloc (.cells #[.int .i64 xt, .int .i64 xn, .slice A4 xl c4] 69)) nq).heap.size := by have := HB.out.size; have := SB.size; show w.heap.size < (wr.alloc _).heap.size; rw [World.size_alloc]; omega
          clear hq0 hq1 hx0 hx1 hx4 hm0 hm1
          go_wp2_with fail
          go_loopw [6] (fun i wq => ∃ j : Nat, j ≤ 0 ∧ i = .int .i64 j ∧ Hd (∀ x : Nat, x < j → (nth fl0 l x).n ≠ xn) ∧ wq.cell? ⟨w.heap.size, 6, none⟩ = some (.slice (some ad) l.length c) ∧ wq.cell? ⟨w.heap.size, 5, none⟩ = some (.int .i64 next) ∧ wq.cell? ⟨wr.heap.size, 1, none⟩ = some (.int .i64 xn) ∧ w.heap.size < wq.heap.size ∧ Hd (Below w.heap.size w wq)) (fun i _ => 0)
          case atStart => exact ⟨0, Nat.zero_le _, rfl, ⟨fun j h => by omega⟩, SQ0, SQ1, SY1, SSZ, ⟨SB⟩⟩
          case round =>
            obtain ⟨j, hj, rfl, Hj, s0, s1, s2, s3, HBq⟩ := hrel
            by_cases hlt2 : j < 0
            · exact absurd hlt2 (Nat.not_lt_zero _)
            · go_wp2
              go_roundw
              case rel => exact ⟨1, by omega, by go_num, ⟨fun x hx => by
                rcases Nat.lt_or_ge x 0 with h | h
                · exact Hn.out x h
                · obtain rfl : x = 0 := by omega
                  rw [chkLAt, if_neg (by rw [Hw.out]; decide), if_neg (fun h => HNG.out (HG.out.1 h)), if_neg]
                  intro hany
                  rw [List.any_eq_true] at hany
                  obtain ⟨y, hy, he⟩ := hany
                  obtain ⟨z, hz, rfl⟩ := nth_of_mem_take l 0 y hy
                  rw [← Hen.out] at he
                  exact Hj.out z (by omega) (by simpa using he)⟩, s0, s1, s3, HBq⟩
              case measure => simp [intOf] <;> omega
        · have d0 : decide ((k : Int) > 0) = true := by simp; omega
          have d1 : decide (xt < pt) = true := by simp; omega
          have hw1 := HWR.out g0
          go_wp2_with fail
          have q0 : (wr.alloc (.cells #[.int .i64 xt, .int .i64 xn, .slice A4 xl c4] 69)).cell? ⟨w.heap.size, 6, none⟩ = some (.slice (some ad) l.length c) := keepA hq0 _
          have v0 := keepA z0 (.cells #[.int .i64 xt, .int .i64 xn, .slice A4 xl c4] 69)
          have v1 := keepA z1 (.cells #[.int .i64 xt, .int .i64 xn, .slice A4 xl c4] 69)
          obtain ⟨y0, y1, -, -, -, -⟩ := (Blk.new wr 69 #[.int .i64 xt, .int .i64 xn, .slice A4 xl c4]).f3
          go_quiet (fail)
          go_wp2
          go_ret
          exact ⟨by rw [HGoal.out ⟨g0, .inl g1⟩]; rfl, HB.out.trans (pw_below_drewN (Below.alloc (Below.refl _ _) (by omega) _) _)⟩
        · have d0 : decide ((k : Int) > 0) = true := by simp; omega
          have d1 : decide (xt < pt) = false := by simp; omega
          subst g2
          have d3 : decide (xn ≤ pn) = true := by simp; omega
          have hw1 := HWR.out g0
          go_wp2_with fail
          have q0 : (wr.alloc (.cells #[.int .i64 xt, .int .i64 xn, .slice A4 xl c4] 69)).cell? ⟨w.heap.size, 6, none⟩ = some (.slice (some ad) l.length c) := keepA hq0 _
          have v0 := keepA z0 (.cells #[.int .i64 xt, .int .i64 xn, .slice A4 xl c4] 69)
          have v1 := keepA z1 (.cells #[.int .i64 xt, .int .i64 xn, .slice A4 xl c4] 69)
          obtain ⟨y0, y1, -, -, -, -⟩ := (Blk.new wr 69 #[.int .i64 xt, .int .i64 xn, .slice A4 xl c4]).f3
          go_quiet (fail)
          go_wp2
          go_ret
          exact ⟨by rw [HGoal.out (by first | omega | (simp; omega))]; rfl, HB.out.trans (pw_below_drewN (Below.alloc (Below.refl _ _) (by omega) _) _)⟩
        · have d0 : decide ((k : Int) > 0) = true := by simp; omega
          have d1 : decide (xt < pt) = false := by simp; omega
          have HNG : Hd (¬ (0 < k ∧ (xt < pt ∨ (xt = pt ∧ xn ≤ pn)))) := ⟨by omega⟩
          subst g2
          have d3 : decide (xn ≤ pn) = false := by simp; omega
          have hw1 := HWR.out g0
          go_wp2_with fail
          have q0 : (wr.alloc (.cells #[.int .i64 xt, .int .i64 xn, .slice A4 xl c4] 69)).cell? ⟨w.heap.size, 6, none⟩ = some (.slice (some ad) l.length c) := keepA hq0 _
          have v0 := keepA z0 (.cells #[.int .i64 xt, .int .i64 xn, .slice A4 xl c4] 69)
          have v1 := keepA z1 (.cells #[.int .i64 xt, .int .i64 xn, .slice A4 xl c4] 69)
          obtain ⟨y0, y1, -, -, -, -⟩ := (Blk.new wr 69 #[.int .i64 xt, .int .i64 xn, .slice A4 xl c4]).f3
          go_quiet (fail)
          have SB : Below w.heap.size w (World.drewN (wr.alloc (.cells #[.int .i64 xt, .int .i64 xn, .slice A4 xl c4] 69)) nq) := HB.out.trans (pw_below_drewN (Below.alloc (Below.refl _ _) (by omega) _) _)
          have SQ0 : (World.drewN (wr.alloc (.cells #[.int .i64 xt, .int .i64 xn, .slice A4 xl c4] 69)) nq).cell? ⟨w.heap.size, 6, none⟩ = some (.slice (some ad) l.length c) := keepA hq0 _
          have SQ1 : (World.drewN (wr.alloc (.cells #[.int .i64 xt, .int .i64 xn, .slice A4 xl c4] 69)) nq).cell? ⟨w.heap.size, 5, none⟩ = some (.int .i64 next) := keepA hq1 _
          have SY1 : (World.drewN (wr.alloc (.cells #[.int .i64 xt, .int .i64 xn, .slice A4 xl c4] 69)) nq).cell? ⟨wr.heap.size, 1, none⟩ = some (.int .i64 xn) := (Blk.new wr 69 #[.int .i64 xt, .int .i64 xn, .slice A4 xl c4]).f3.2.1
          have SSZ : w.heap.size < (World.drewN (wr.alloc (.cells #[.int .i64 xt, .int .i64 xn, .slice A4 xl c4] 69)) nq).heap.size := by have := HB.out.size; have := SB.size; show w.heap.size < (wr.alloc _).heap.size; rw [World.size_alloc]; omega
          clear hq0 hq1 hx0 hx1 hx4 hm0 hm1
          go_wp2_with fail
          go_loopw [6] (fun i wq => ∃ j : Nat, j ≤ k ∧ i = .int .i64 j ∧ Hd (∀ x : Nat, x < j → (nth fl0 l x).n ≠ xn) ∧ wq.cell? ⟨w.heap.size, 6, none⟩ = some (.slice (some ad) l.length c) ∧ wq.cell? ⟨w.heap.size, 5, none⟩ = some (.int .i64 next) ∧ wq.cell? ⟨wr.heap.size, 1, none⟩ = some (.int .i64 xn) ∧ w.heap.size < wq.heap.size ∧ Hd (Below w.heap.size w wq)) (fun i _ => k - (intOf i).toNat)
          case atStart => exact ⟨0, Nat.zero_le _, rfl, ⟨fun j h => by omega⟩, SQ0, SQ1, SY1, SSZ, ⟨SB⟩⟩
          case round =>
            obtain ⟨j, hj, rfl, Hj, s0, s1, s2, s3, HBq⟩ := hrel
            by_cases hlt2 : j < k
            · obtain ⟨ad2, A6, c6, e2, t0, t1, t4, hl6, hi6⟩ := fls_get HR.out j (by omega)
              cases e2
              replace t1 := (HBq.out.cell (World.block_lt_of_cell? w _ t1)).trans t1
              clear t0 t4 hl6 hi6
              have hj0 : (0 : Int) ≤ j := by omega
              have hj1 : (j : Int) < l.length := by omega
              by_cases hsame : (nth fl0 l j).n = xn
              · have hb8 : ((nth fl0 l j).n == xn) = true := by simp [hsame]
                have HSame := Hd.mk hsame
                clear hsame
                go_wp2_with fail
                go_quiet (fail)
                go_wp2
                go_ret
                refine ⟨?_, HBq.out.trans (pw_below_drewN (Below.refl _ _) _)⟩
                have hc8 : chkLAt l next k = 8 := by
                  rw [chkLAt, if_neg (by rw [Hw.out]; decide), if_neg (fun h => HNG.out (HG.out.1 h)), if_pos]
                  rw [List.any_eq_true]
                  exact ⟨nth fl0 l j, mem_take_nth l j k hlt2 (by omega), by rw [HSame.out, Hen.out]; simp⟩
                rw [Hr.out, firstErr_at _ _ k hlt Hn.out (by rw [hc8]; decide), hc8]
                rfl
              · have hb8 : ((nth fl0 l j).n == xn) = false := by simp [hsame]
                have HSame := Hd.mk hsame
                clear hsame
                go_wp2_with fail
                go_quiet (fail)
                go_wp2
                go_roundw
                case rel => exact ⟨j + 1, by omega, by go_num, ⟨fun x hx => by
                  rcases Nat.lt_or_ge x j with h | h
                  · exact Hj.out x h
                  · obtain rfl : x = j := by omega
                    exact HSame.out⟩, s0, s1, s2, s3, ⟨HBq.out.trans (pw_below_drewN (Below.refl _ _) _)⟩⟩
                case measure => simp [intOf] <;> omega
            · go_wp2
              go_roundw
              case rel => exact ⟨k + 1, by omega, by go_num, ⟨fun x hx => by
                rcases Nat.lt_or_ge x k with h | h
                · exact Hn.out x h
                · obtain rfl : x = k := by omega
                  rw [chkLAt, if_neg (by rw [Hw.out]; decide), if_neg (fun h => HNG.out (HG.out.1 h)), if_neg]
                  intro hany
                  rw [List.any_eq_true] at hany
                  obtain ⟨y, hy, he⟩ := hany
                  obtain ⟨z, hz, rfl⟩ := nth_of_mem_take l x y hy
                  rw [← Hen.out] at he
                  exact Hj.out z (by omega) (by simpa using he)⟩, s0, s1, s3, HBq⟩
              case measure => simp [intOf] <;> omega
        · have d0 : decide ((k : Int) > 0) = true := by simp; omega
          have d1 : decide (xt < pt) = false := by simp; omega
          have d2 : (xt == pt) = false := by simp; omega
          have hw1 := HWR.out g0
          have HNG : Hd (¬ (0 < k ∧ (xt < pt ∨ (xt = pt ∧ xn ≤ pn)))) := ⟨by omega⟩
          go_wp2_with fail
          have q0 : (wr.alloc (.cells #[.int .i64 xt, .int .i64 xn, .slice A4 xl c4] 69)).cell? ⟨w.heap.size, 6, none⟩ = some (.slice (some ad) l.length c) := keepA hq0 _
          have v0 := keepA z0 (.cells #[.int .i64 xt, .int .i64 xn, .slice A4 xl c4] 69)
          have v1 := keepA z1 (.cells #[.int .i64 xt, .int .i64 xn, .slice A4 xl c4] 69)
          obtain ⟨y0, y1, -, -, -, -⟩ := (Blk.new wr 69 #[.int .i64 xt, .int .i64 xn, .slice A4 xl c4]).f3
          go_quiet (fail)
          have SB : Below w.heap.size w (World.drewN (wr.alloc (.cells #[.int .i64 xt, .int .i64 xn, .slice A4 xl c4] 69)) nq) := HB.out.trans (pw_below_drewN (Below.alloc (Below.refl _ _) (by omega) _) _)
          have SQ0 : (World.drewN (wr.alloc (.cells #[.int .i64 xt, .int .i64 xn, .slice A4 xl c4] 69)) nq).cell? ⟨w.heap.size, 6, none⟩ = some (.slice (some ad) l.length c) := keepA hq0 _
          have SQ1 : (World.drewN (wr.alloc (.cells #[.int .i64 xt, .int .i64 xn, .slice A4 xl c4] 69)) nq).cell? ⟨w.heap.size, 5, none⟩ = some (.int .i64 next) := keepA hq1 _
          have SY1 : (World.drewN (wr.alloc (.cells #[.int .i64 xt, .int .i64 xn, .slice A4 xl c4] 69)) nq).cell? ⟨wr.heap.size, 1, none⟩ = some (.int .i64 xn) := (Blk.new wr 69 #[.int .i64 xt, .int .i64 xn, .slice A4 xl c4]).f3.2.1
          have SSZ : w.heap.size < (World.drewN (wr.alloc (.cells #[.int .i64 xt, .int .i64 xn, .slice A4 xl c4] 69)) nq).heap.size := by have := HB.out.size; have := SB.size; show w.heap.size < (wr.alloc _).heap.size; rw [World.size_alloc]; omega
          clear hq0 hq1 hx0 hx1 hx4 hm0 hm1
          go_wp2_with fail
          go_loopw [6] (fun i wq => ∃ j : Nat, j ≤ k ∧ i = .int .i64 j ∧ Hd (∀ x : Nat, x < j → (nth fl0 l x).n ≠ xn) ∧ wq.cell? ⟨w.heap.size, 6, none⟩ = some (.slice (some ad) l.length c) ∧ wq.cell? ⟨w.heap.size, 5, none⟩ = some (.int .i64 next) ∧ wq.cell? ⟨wr.heap.size, 1, none⟩ = some (.int .i64 xn) ∧ w.heap.size < wq.heap.size ∧ Hd (Below w.heap.size w wq)) (fun i _ => k - (intOf i).toNat)
          case atStart => exact ⟨0, Nat.zero_le _, rfl, ⟨fun j h => by omega⟩, SQ0, SQ1, SY1, SSZ, ⟨SB⟩⟩
          case round =>
            obtain ⟨j, hj, rfl, Hj, s0, s1, s2, s3, HBq⟩ := hrel
            by_cases hlt2 : j < k
            · obtain ⟨ad2, A6, c6, e2, t0, t1, t4, hl6, hi6⟩ := fls_get HR.out j (by omega)
              cases e2
              replace t1 := (HBq.out.cell (World.block_lt_of_cell? w _ t1)).trans t1
              clear t0 t4 hl6 hi6
              have hj0 : (0 : Int) ≤ j := by omega
              have hj1 : (j : Int) < l.length := by omega
              by_cases hsame : (nth fl0 l j).n = xn
              · have hb8 : ((nth fl0 l j).n == xn) = true := by simp [hsame]
                have HSame := Hd.mk hsame
                clear hsame
                go_wp2_with fail
                go_quiet (fail)
                go_wp2
                go_ret
                refine ⟨?_, HBq.out.trans (pw_below_drewN (Below.refl _ _) _)⟩
                have hc8 : chkLAt l next k = 8 := by
                  rw [chkLAt, if_neg (by rw [Hw.out]; decide), if_neg (fun h => HNG.out (HG.out.1 h)), if_pos]
                  rw [List.any_eq_true]
                  exact ⟨nth fl0 l j, mem_take_nth l j k hlt2 (by omega), by rw [HSame.out, Hen.out]; simp⟩
                rw [Hr.out, firstErr_at _ _ k hlt Hn.out (by rw [hc8]; decide), hc8]
                rfl
              · have hb8 : ((nth fl0 l j).n == xn) = false := by simp [hsame]
                have HSame := Hd.mk hsame
                clear hsame
                go_wp2_with fail
                go_quiet (fail)
                go_wp2
                go_roundw
                case rel => exact ⟨j + 1, by omega, by go_num, ⟨fun x hx => by
                  rcases Nat.lt_or_ge x j with h | h
                  · exact Hj.out x h
                  · obtain rfl : x = j := by omega
                    exact HSame.out⟩, s0, s1, s2, s3, ⟨HBq.out.trans (pw_below_drewN (Below.refl _ _) _)⟩⟩
                case measure => simp [intOf] <;> omega
            · go_wp2
              go_roundw
              case rel => exact ⟨k + 1, by omega, by go_num, ⟨fun x hx => by
                rcases Nat.lt_or_ge x k with h | h
                · exact Hn.out x h
                · obtain rfl : x = k := by omega
                  rw [chkLAt, if_neg (by rw [Hw.out]; decide), if_neg (fun h => HNG.out (HG.out.1 h)), if_neg]
                  intro hany
                  rw [List.any_eq_true] at hany
                  obtain ⟨y, hy, he⟩ := hany
                  obtain ⟨z, hz, rfl⟩ := nth_of_mem_take l x y hy
                  rw [← Hen.out] at he
                  exact Hj.out z (by omega) (by simpa using he)⟩, s0, s1, s3, HBq⟩
              case measure => simp [intOf] <;> omega
      · have Hfin : Hd (∀ r0, wrongL xt xn xl next = r0 → r = r0) := ⟨fun r0 h0 => by
          rw [Hr.out, firstErr_at _ _ k hlt Hn.out (by rw [chkLAt, if_pos (by rw [HE.out]; exact hw), HE.out]; exact hw), chkLAt, if_pos (by rw [HE.out]; exact hw), HE.out, h0]⟩
        have hcs := wrongL_cases _ _ _ _ hw
        clear hw HE Het Hen Hn Hr
        rcases hcs with ⟨o1, hv⟩ | ⟨o1, o2, hv⟩ | ⟨o1, o2, o3, hv⟩ | ⟨o1, o2, o3, o4, hv⟩ | ⟨o1, o2, o3, o4, o5, hv⟩
        all_goals
          have Hv := Hd.mk hv
          clear hv
          go_wp2
          go_ret
          refine ⟨by rw [Hfin.out _ Hv.out]; rfl, HB.out.trans ?_⟩
          exact Below.alloc (Below.refl _ _) (by omega) _
    · go_wp2
      go_ret
      exact ⟨by rw [Hr.out, firstErr_zero _ _ (fun j hj => Hn.out j (by omega))]; rfl, HB.out⟩
end Go.Proofs.Ytkgkiencikmhfaa.B
