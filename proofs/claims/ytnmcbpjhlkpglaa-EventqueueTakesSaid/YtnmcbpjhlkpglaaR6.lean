/- What this text holds: the contract of the reference's Cancel. -/
import Derived.Test.YtnmcbpjhlkpglaaR5
set_option linter.unusedVariables false
set_option linter.unusedSimpArgs false
namespace Go.Proofs.Ytnmcbpjhlkpglaa.B
open Go.RowKit

theorem numAt_at (l : List Ev) (number : Int) (k : Nat) (hk : k < l.length) (h : (nth ev0 l k).n = number) (hn : ∀ j, j < k → (nth ev0 l j).n ≠ number) : numAt l number = some k := by
  rw [numAt, List.findIdx?_eq_some_iff_getElem]
  refine ⟨hk, by rw [nth_eq ev0 l k hk] at h; simp [h], fun j hj => ?_⟩
  have := hn j hj
  rw [nth_eq ev0 l j (by omega)] at this
  simp [this]
theorem numAt_none (l : List Ev) (number : Int) (hn : ∀ j, j < l.length → (nth ev0 l j).n ≠ number) : numAt l number = none := by
  rw [numAt, List.findIdx?_eq_none_iff]
  intro x hx
  obtain ⟨j, hj, rfl⟩ := List.getElem_of_mem hx
  have := hn j hj
  rw [nth_eq ev0 l j hj] at this
  simp [this]

set_option maxRecDepth 100000 in
set_option maxHeartbeats 2000000 in
theorem refCancel_calls (A : Option Addr) (c : Nat) (l : List Ev) (next number : Int) (w : World) (ok : Nat → Prop) (hv0 : evs.V w ok (.slice A l.length c) l) :
    Calls Try.prog 26 #[.agg #[.slice A l.length c, .int .i64 next], .int .i64 number] w (CancelPost w ok (cancelF l next number)) := by
  have hu24 := Try.underlying24
  have hu32 := Try.underlying32
  have hr := hv0.C
  have hc : l.length ≤ c := hv0.n.2
  have HV0 := Hd.mk hv0
  have HR := Hd.mk hr
  clear hv0
  obtain ⟨r, hrr⟩ : ∃ r, r = cancelF l next number := ⟨_, rfl⟩
  rw [← hrr]
  have HF := Hd.mk hrr
  clear hrr
  by_cases h : checkF l next = 0
  · have hb1 : (checkF l next != 0) = false := by simp [h]
    have HS := Hd.mk (checkF_small l next h)
    have hll := (checkF_small l next h).1
    have HF1 : Hd (r = match numAt l number with | none => ((l, next), false) | some i => ((l.take i ++ l.drop (i + 1), next), true)) := ⟨by rw [HF.out, cancelF, if_neg (by rw [h]; decide)]; rfl⟩
    clear hr h HF
    go_enter Try.func26, Try.ntmps26
    go_wp2_with fail
    refine (refCheck_calls A c l next _ (HR.out.below (by go_grown)) hc).mono ?_
    rintro e w1 ⟨rfl, hb⟩
    have hbw : Below w.heap.size w w1 := Below.trans (by go_grown) (hb.mono (by simp; omega))
    have hsz : w.heap.size + 2 ≤ w1.heap.size := by have := hb.size; simpa using this
    have B0 := ((Blk.new w 24 #[.slice A l.length c, .int .i64 next]).alloc (.cells #[.slice none 0 0, .int .i64 0] 24)).below hb
    have B1 := (Blk.new (w.alloc (.cells #[.slice A l.length c, .int .i64 next] 24)) 24 #[.slice none 0 0, .int .i64 0]).below hb
    rw [World.size_alloc] at B1
    have HBW := Hd.mk hbw
    have HB0 := Hd.mk B0
    have HB1 := Hd.mk B1
    have HC1 := Hd.mk (HR.out.below hbw)
    have HV1 := Hd.mk (HV0.out.below hbw)
    obtain ⟨p0, p1, p2, p3⟩ := B0.f2
    obtain ⟨q0, q1, q2, q3⟩ := B1.f2
    clear hb hbw B0 B1
    go_wp2
    go_loopw [6] (fun ui wr => ∃ k, k ≤ l.length ∧ ui = .int .i64 (k : Nat) ∧ wr = w1 ∧ Hd (∀ j, j < k → (nth ev0 l j).n ≠ number)) (fun ui _ => l.length - (intOf ui).toNat)
    case atStart => exact ⟨0, Nat.zero_le _, rfl, rfl, ⟨fun j hj => by omega⟩⟩
    case round =>
      obtain ⟨k, hk, rfl, rfl, HN⟩ := hrel
      by_cases hlt : k < l.length
      · obtain ⟨ad, A4, c4, ea, x0, x1, x2, x3, x4, -, -⟩ := evs_get HC1.out k hlt
        cases ea
        by_cases hn : (nth ev0 l k).n = number
        · have hn1 : ((nth ev0 l k).n == number) = true := by simp [hn]
          have HN1 := Hd.mk hn
          clear hn
          obtain ⟨M, hM⟩ : ∃ M, M = l.take k ++ l.drop (k + 1) := ⟨_, rfl⟩
          have HF2 : Hd (r = ((M, next), true)) := ⟨by rw [HF1.out, numAt_at l number k hlt HN1.out HN.out, hM]⟩
          have K1 : Hd (Calls Try.prog 43 #[.agg #[.slice (some ad) l.length c, .int .i64 next], .int .i64 k] wr fun e w' => ∃ v, e = .returned (.agg #[v, .int .i64 next]) ∧ evs.V w' (fun k => wr.heap.size ≤ k) v M ∧ Below wr.heap.size wr w') := ⟨by
            rw [hM]
            exact refWithout_calls (some ad) c l next k wr HC1.out hc HS.out⟩
          clear hM
          go_wp2_with fail
          refine (K1.out).mono ?_
          rintro e w7 ⟨v7, rfl, hv, hb⟩
          obtain ⟨A7, c7, rfl, -, -⟩ := hv.reads
          have HV7 := Hd.mk hv
          have HB7 := Hd.mk hb
          have hs7 := hb.size
          obtain ⟨d0, d1, d2, d3⟩ := (HB1.out.below hb).f2
          clear hv hb p0 p1 p2 p3 q0 q1 q2 q3 x0 x1 x2 x3 x4
          go_wp2
          refine bodyPost_ret (v := .tuple #[.agg #[.slice A7 M.length c7, .int .i64 next], .bool true]) (by simp [results, Try.results26, go_sem, d0, d1]) rfl ?_
          rw [HF2.out]
          refine ⟨_, rfl, ?_, ?_⟩
          · have hv := HV7.out
            refine Kd.V.mono (ok := fun k => wr.heap.size ≤ k) ?_ (fun j hj => .inr (by have hj' : wr.heap.size ≤ j := hj; omega))
            repeat (first | (with_reducible exact hv) | (with_reducible refine Kd.V.far ?_ (fun j hj => by have hj' : wr.heap.size ≤ j := hj; dsimp only; omega) _))
          · have h2 : Below w.heap.size w w7 := HBW.out.trans (HB7.out.mono (by omega))
            repeat (first | (with_reducible exact h2) | (with_reducible refine Below.setCell ?_ (by dsimp only; omega) _))
        · have hn1 : ((nth ev0 l k).n == number) = false := by simp [hn]
          have HN1 := Hd.mk hn
          clear hn
          go_wp2
          go_roundw
          case rel => exact ⟨k + 1, by omega, by go_num, by trivial, ⟨fun j hj => by
            rcases Nat.lt_or_ge j k with h | h
            · exact HN.out j h
            · obtain rfl : j = k := by omega
              exact HN1.out⟩⟩
          case measure => simp [intOf]; omega
      · have hkl : k = l.length := by omega
        subst hkl
        have HF2 : Hd (r = ((l, next), false)) := ⟨by rw [HF1.out, numAt_none l number HN.out]⟩
        go_wp2
        refine bodyPost_ret (v := .tuple #[.agg #[.slice A l.length c, .int .i64 next], .bool false]) (by simp [results, Try.results26, go_sem, q0, q1]) rfl ?_
        rw [HF2.out]
        have h2 : Below w.heap.size w (((wr.setCell ⟨w.heap.size + 1, 0, none⟩ (.slice A l.length c)).setCell ⟨w.heap.size + 1, 1, none⟩ (.int .i64 next))) := by
          have h2 := HBW.out
          repeat (first | (with_reducible exact h2) | (with_reducible refine Below.setCell ?_ (by dsimp only; omega) _))
        exact ⟨_, rfl, (HV0.out.below h2).mono (fun k hk => .inl hk), h2⟩
  · have hb1 : (checkF l next != 0) = true := by simp [h]
    have HF1 : Hd (r = ((l, next), false)) := ⟨by rw [HF.out, cancelF, if_pos h]⟩
    clear hr h HF
    go_enter Try.func26, Try.ntmps26
    go_wp2_with fail
    refine (refCheck_calls A c l next _ (HR.out.below (by go_grown)) hc).mono ?_
    rintro e w1 ⟨rfl, hb⟩
    have hbw : Below w.heap.size w w1 := Below.trans (by go_grown) (hb.mono (by simp; omega))
    have hsz : w.heap.size + 2 ≤ w1.heap.size := by have := hb.size; simpa using this
    have B0 := ((Blk.new w 24 #[.slice A l.length c, .int .i64 next]).alloc (.cells #[.slice none 0 0, .int .i64 0] 24)).below hb
    have B1 := (Blk.new (w.alloc (.cells #[.slice A l.length c, .int .i64 next] 24)) 24 #[.slice none 0 0, .int .i64 0]).below hb
    rw [World.size_alloc] at B1
    have HBW := Hd.mk hbw
    obtain ⟨p0, p1, p2, p3⟩ := B0.f2
    obtain ⟨q0, q1, q2, q3⟩ := B1.f2
    clear hb hbw B0 B1
    go_wp2
    refine bodyPost_ret (v := .tuple #[.agg #[.slice A l.length c, .int .i64 next], .bool false]) (by simp [results, Try.results26, go_sem, q0, q1]) rfl ?_
    rw [HF1.out]
    have h2 : Below w.heap.size w (((w1.setCell ⟨w.heap.size + 1, 0, none⟩ (.slice A l.length c)).setCell ⟨w.heap.size + 1, 1, none⟩ (.int .i64 next))) := by
      have h2 := HBW.out
      repeat (first | (with_reducible exact h2) | (with_reducible refine Below.setCell ?_ (by dsimp only; omega) _))
    exact ⟨_, rfl, (HV0.out.below h2).mono (fun k hk => .inl hk), h2⟩
end Go.Proofs.Ytnmcbpjhlkpglaa.B
