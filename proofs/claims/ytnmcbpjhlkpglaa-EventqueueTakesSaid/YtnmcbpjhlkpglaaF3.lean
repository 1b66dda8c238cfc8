/- What this text holds: what eventqueue.Check answers, and its contract. -/
import Derived.Test.YtnmcbpjhlkpglaaF2
set_option linter.unusedVariables false
set_option linter.unusedSimpArgs false
namespace Go.Proofs.Ytnmcbpjhlkpglaa.B
open Go.RowKit

/-- The first of f 0, f 1, .. that is not 0, among n. -/
def firstErr (f : Nat → Int) : Nat → Int
  | 0 => 0
  | n + 1 => if firstErr f n = 0 then f n else firstErr f n
theorem firstErr_zero (f : Nat → Int) (n : Nat) (h : ∀ j, j < n → f j = 0) : firstErr f n = 0 := by
  induction n with
  | zero => rfl
  | succ n ih =>
    rw [firstErr, if_pos (ih (fun j hj => h j (by omega)))]
    exact h n (by omega)
theorem firstErr_at (f : Nat → Int) (n k : Nat) (hk : k < n) (h : ∀ j, j < k → f j = 0) (hf : f k ≠ 0) : firstErr f n = f k := by
  induction n with
  | zero => omega
  | succ n ih =>
    rw [firstErr]
    rcases Nat.lt_or_ge k n with hlt | hge
    · rw [ih hlt, if_neg hf]
    · obtain rfl : k = n := by omega
      rw [if_pos (firstErr_zero f k h)]

def chkAt (l : List Ev) (next : Int) (i : Nat) : Int :=
  if wrongF (nth ev0 l i).t (nth ev0 l i).n (nth ev0 l i).kd (nth ev0 l i).dst (nth ev0 l i).body.length next ≠ 0 then wrongF (nth ev0 l i).t (nth ev0 l i).n (nth ev0 l i).kd (nth ev0 l i).dst (nth ev0 l i).body.length next
  else if 0 < i ∧ 0 ≤ cmpE (nth ev0 l (i - 1)).t (nth ev0 l (i - 1)).n (nth ev0 l i).t (nth ev0 l i).n then 3
  else if (l.take i).any (fun x => x.n == (nth ev0 l i).n) then 8 else 0
def checkF (l : List Ev) (next : Int) : Int :=
  if 4096 < l.length then 6 else if next < 0 ∨ 1073741824 < next then 2 else firstErr (chkAt l next) l.length

theorem checkF_at (l : List Ev) (next : Int) (k : Nat) (h1 : l.length ≤ 4096) (h2 : 0 ≤ next) (h3 : next ≤ 1073741824) (hk : k < l.length) (h : ∀ j, j < k → chkAt l next j = 0) (hf : chkAt l next k ≠ 0) : checkF l next = chkAt l next k := by
  rw [checkF, if_neg (by omega), if_neg (by omega), firstErr_at _ _ k hk h hf]
theorem checkF_zero (l : List Ev) (next : Int) (h1 : l.length ≤ 4096) (h2 : 0 ≤ next) (h3 : next ≤ 1073741824) (h : ∀ j, j < l.length → chkAt l next j = 0) : checkF l next = 0 := by
  rw [checkF, if_neg (by omega), if_neg (by omega), firstErr_zero _ _ h]

theorem check_calls (A : Option Addr) (c : Nat) (l : List Ev) (next : Int) (w : World) (hr : evs.C w A l) (hc : l.length ≤ c) :
    Calls Try.prog 12 #[.agg #[.slice A l.length c, .int .i64 next]] w fun e w' => e = .returned (.int .i64 (checkF l next)) ∧ Below w.heap.size w w' := by
  have hu24 := Try.underlying24
  have hu32 := Try.underlying32
  have HR := Hd.mk hr
  have HC := Hd.mk hc
  have hm := hr.1
  clear hr hc
  obtain ⟨r, hr⟩ : ∃ r, r = checkF l next := ⟨_, rfl⟩
  rw [← hr]
  have Hr := Hd.mk hr
  clear hr
  by_cases h1 : 4096 < l.length
  · go_enter Try.func12, Try.ntmps12
    go_wp2
    go_ret
    exact ⟨by rw [Hr.out, checkF, if_pos h1]; rfl, by go_grown⟩
  by_cases h2 : next < 0
  · have h2b : ¬ next > 1073741824 := by omega
    go_enter Try.func12, Try.ntmps12
    go_wp2
    go_ret
    exact ⟨by rw [Hr.out, checkF, if_neg h1, if_pos (.inl h2)]; rfl, by go_grown⟩
  by_cases h3 : 1073741824 < next
  · go_enter Try.func12, Try.ntmps12
    go_wp2
    go_ret
    exact ⟨by rw [Hr.out, checkF, if_neg h1, if_pos (.inr h3)]; rfl, by go_grown⟩
  go_enter Try.func12, Try.ntmps12
  go_wp2
  go_loopw [22] (fun i wr => ∃ k : Nat, k ≤ l.length ∧ i = .int .i64 k ∧ Hd (∀ j : Nat, j < k → chkAt l next j = 0) ∧ wr.cell? ⟨w.heap.size, 0, none⟩ = some (.slice A l.length c) ∧ wr.cell? ⟨w.heap.size, 1, none⟩ = some (.int .i64 next) ∧ w.heap.size < wr.heap.size ∧ Hd (Below w.heap.size w wr)) (fun i _ => l.length - (intOf i).toNat)
  case atStart => exact ⟨0, Nat.zero_le _, rfl, ⟨fun j h => by omega⟩, by go_simp, by go_simp, by simp, ⟨by go_grown⟩⟩
  case round =>
    obtain ⟨k, hk, rfl, Hn, hq0, hq1, hsz, HB⟩ := hrel
    by_cases hlt : k < l.length
    · obtain ⟨ad, A4, c4, e0, hx0, hx1, hx2, hx3, hx4, hl4, hi4⟩ := evs_get HR.out k hlt
      subst e0
      replace hx0 := (HB.out.cell (World.block_lt_of_cell? w _ hx0)).trans hx0
      replace hx1 := (HB.out.cell (World.block_lt_of_cell? w _ hx1)).trans hx1
      replace hx2 := (HB.out.cell (World.block_lt_of_cell? w _ hx2)).trans hx2
      replace hx3 := (HB.out.cell (World.block_lt_of_cell? w _ hx3)).trans hx3
      replace hx4 := (HB.out.cell (World.block_lt_of_cell? w _ hx4)).trans hx4
      have hb4 := hi4.1
      have HC4 := Hd.mk hl4
      have HI4 := Hd.mk hi4
      clear hl4 hi4
      by_cases hw : wrongF (nth ev0 l k).t (nth ev0 l k).n (nth ev0 l k).kd (nth ev0 l k).dst (nth ev0 l k).body.length next = 0
      · have hwb : (wrongF (nth ev0 l k).t (nth ev0 l k).n (nth ev0 l k).kd (nth ev0 l k).dst (nth ev0 l k).body.length next != 0) = false := by simp [hw]
        have Hw := Hd.mk hw
        clear hw
        go_wp2_with fail
        refine (wrong_calls _ _ _ _ _ _ _ _ _ hb4).mono ?_
        rintro e w' ⟨rfl, hb⟩
        have Hb := Hd.mk hb
        clear hb
        have q0 : w'.cell? ⟨w.heap.size, 0, none⟩ = some (.slice (some ad) l.length c) := keep Hb.out (by go_simp)
        have q1 : w'.cell? ⟨w.heap.size, 1, none⟩ = some (.int .i64 next) := keep Hb.out (by go_simp)
        have y0 : w'.cell? ⟨wr.heap.size, 0, none⟩ = some (.int .i64 (nth ev0 l k).t) := keep Hb.out (by go_simp)
        have y1 : w'.cell? ⟨wr.heap.size, 1, none⟩ = some (.int .i64 (nth ev0 l k).n) := keep Hb.out (by go_simp)
        have y2 : w'.cell? ⟨wr.heap.size, 2, none⟩ = some (.int .i64 (nth ev0 l k).kd) := keep Hb.out (by go_simp)
        have y3 : w'.cell? ⟨wr.heap.size, 3, none⟩ = some (.int .i64 (nth ev0 l k).dst) := keep Hb.out (by go_simp)
        have y4 : w'.cell? ⟨wr.heap.size, 4, none⟩ = some (.slice A4 (nth ev0 l k).body.length c4) := keep Hb.out (by go_simp)
        have hs1 : wr.heap.size < w'.heap.size := World.block_lt_of_cell? w' _ y0
        have HB1 : Hd (Below w.heap.size w w') := ⟨HB.out.trans (Below.trans (Below.alloc (Below.refl _ _) (by omega) _) (Hb.out.mono (by simp; omega)))⟩
        clear hx0 hx1 hx2 hx3 hx4 Hb hq0 hq1
        rcases Nat.eq_zero_or_pos k with hk0 | hk0
        · subst hk0
          go_wp2_with fail
          go_quiet (fail)
          go_wp2_with fail
          refine (containsFunc_calls 33 #[.pointer (some ⟨wr.heap.size, 0, none⟩)] (fun x => x.n == (nth ev0 l 0).n) _ 0 c [] _ Kd.C.nil rfl (Nat.zero_le _) (tells33 _ (nth ev0 l 0) _ (by exact y1))).mono ?_
          rintro e w2 ⟨rfl, hb⟩
          have Hb2 := Hd.mk hb
          clear hb
          have q0' : w2.cell? ⟨w.heap.size, 0, none⟩ = some (.slice (some ad) l.length c) := keep Hb2.out (by exact q0)
          have q1' : w2.cell? ⟨w.heap.size, 1, none⟩ = some (.int .i64 next) := keep Hb2.out (by exact q1)
          have hs2 : w.heap.size < w2.heap.size := World.block_lt_of_cell? w2 _ q0'
          have HB2 : Hd (Below w.heap.size w w2) := ⟨HB1.out.trans (Below.trans (pw_below_drewN (Below.refl _ _) _) (Hb2.out.mono (by have := HB1.out.size; exact this)))⟩
          clear Hb2 q0 q1 y0 y1 y2 y3 y4 HB1
          simp only [List.any_nil]
          go_wp2
          go_roundw
          case rel => exact ⟨1, by omega, by go_num, ⟨fun j hj => by
            obtain rfl : j = 0 := by omega
            rw [chkAt, if_neg (by simp [Hw.out]), if_neg (by omega)]
            simp⟩, q0', q1', hs2, HB2⟩
          case measure => simp [intOf]; omega
        · obtain ⟨m, rfl⟩ : ∃ m, k = m + 1 := ⟨k - 1, by omega⟩
          obtain ⟨ad', A5, c5, e0', z0, z1, z2, z3, z4, hl5, hi5⟩ := evs_get HR.out m (by omega)
          cases e0'
          replace z0 := (HB1.out.cell (World.block_lt_of_cell? w _ z0)).trans z0
          replace z1 := (HB1.out.cell (World.block_lt_of_cell? w _ z1)).trans z1
          replace z2 := (HB1.out.cell (World.block_lt_of_cell? w _ z2)).trans z2
          replace z3 := (HB1.out.cell (World.block_lt_of_cell? w _ z3)).trans z3
          replace z4 := (HB1.out.cell (World.block_lt_of_cell? w _ z4)).trans z4
          clear hl5 hi5
          have hwr : IntKind.i64.wrap ((m : Int) + 1 - 1) = (m : Int) := by rw [show (m : Int) + 1 - 1 = m by omega]; exact IntWalk.i64_in _ (by omega)
          have hwr2 : IntKind.i64.wrap (m : Int) = (m : Int) := IntWalk.i64_in _ (by omega)
          have hm0 : (0 : Int) ≤ m := by omega
          have hm1 : (m : Int) < l.length := by omega
          go_wp2_with fail
          go_region_held3 (fun W => W.cell? ⟨w.heap.size, 0, none⟩ = some (.slice (some ad) l.length c) ∧ W.cell? (ad.add (m * 5)) = some (.int .i64 (nth ev0 l m).t) ∧ W.cell? ⟨(ad.add (m * 5)).block, (ad.add (m * 5)).off + 1, none⟩ = some (.int .i64 (nth ev0 l m).n) ∧ W.cell? ⟨(ad.add (m * 5)).block, (ad.add (m * 5)).off + 2, none⟩ = some (.int .i64 (nth ev0 l m).kd) ∧ W.cell? ⟨(ad.add (m * 5)).block, (ad.add (m * 5)).off + 3, none⟩ = some (.int .i64 (nth ev0 l m).dst) ∧ W.cell? ⟨(ad.add (m * 5)).block, (ad.add (m * 5)).off + 4, none⟩ = some (.slice A5 (nth ev0 l m).body.length c5) ∧ W.cell? ⟨wr.heap.size, 0, none⟩ = some (.int .i64 (nth ev0 l (m + 1)).t) ∧ W.cell? ⟨wr.heap.size, 1, none⟩ = some (.int .i64 (nth ev0 l (m + 1)).n) ∧ W.cell? ⟨wr.heap.size, 2, none⟩ = some (.int .i64 (nth ev0 l (m + 1)).kd) ∧ W.cell? ⟨wr.heap.size, 3, none⟩ = some (.int .i64 (nth ev0 l (m + 1)).dst) ∧ W.cell? ⟨wr.heap.size, 4, none⟩ = some (.slice A4 (nth ev0 l (m + 1)).body.length c4)) (first | go_keep | exact ⟨keep Hb2.out (by exact q0), keep Hb2.out (by exact z0), keep Hb2.out (by exact z1), keep Hb2.out (by exact z2), keep Hb2.out (by exact z3), keep Hb2.out (by exact z4), keep Hb2.out (by exact y0), keep Hb2.out (by exact y1), keep Hb2.out (by exact y2), keep Hb2.out (by exact y3), keep Hb2.out (by exact y4)⟩)
            (first | (go_at_call 30; refine (eventCompare_calls _ _ _ _ _ _ _ _ _ _ _).mono ?_; rintro e w2 ⟨rfl, hb⟩; have Hb2 := Hd.mk hb; clear hb))
          have q0' : w2.cell? ⟨w.heap.size, 0, none⟩ = some (.slice (some ad) l.length c) := keep Hb2.out (by exact q0)
          have q1' : w2.cell? ⟨w.heap.size, 1, none⟩ = some (.int .i64 next) := keep Hb2.out (by exact q1)
          have y1' : w2.cell? ⟨wr.heap.size, 1, none⟩ = some (.int .i64 (nth ev0 l (m + 1)).n) := keep Hb2.out (by exact y1)
          have HB2 : Hd (Below w.heap.size w w2) := ⟨HB1.out.trans (Below.trans (Below.drew (Below.refl _ _)) (Hb2.out.mono (by have := HB1.out.size; exact this)))⟩
          clear Hb2 q0 q1 y0 y1 y2 y3 y4 HB1 z0 z1 z2 z3 z4 hwr hwr2
          have hk1 : ((m + 1 : Nat) : Int) = (m : Int) + 1 := by omega
          by_cases hcm : 0 ≤ cmpE (nth ev0 l m).t (nth ev0 l m).n (nth ev0 l (m + 1)).t (nth ev0 l (m + 1)).n
          · go_wp2
            go_ret
            refine ⟨?_, HB2.out⟩
            have hc3 : chkAt l next (m + 1) = 3 := by rw [chkAt, if_neg (by simp [Hw.out]), if_pos ⟨by omega, hcm⟩]
            rw [Hr.out, checkF_at l next (m + 1) (by omega) (by omega) (by omega) hlt Hn.out (by rw [hc3]; decide), hc3]
            rfl
          · have Hcm := Hd.mk hcm
            have hr2 : evs.C w2 (some ad) (l.take (m + 1)) := (HR.out.below HB2.out).take _
            have Hr2 := Hd.mk hr2
            clear hr2
            have hcc : (m : Int) + 1 ≤ c := by have := HC.out; omega
            cases hany : (l.take (m + 1)).any (fun x => x.n == (nth ev0 l (m + 1)).n)
            all_goals
              have Hany := Hd.mk hany
              clear hany
              go_wp2_with fail
              refine (containsFunc_calls 33 #[.pointer (some ⟨wr.heap.size, 0, none⟩)] (fun x => x.n == (nth ev0 l (m + 1)).n) _ (m + 1) c (l.take (m + 1)) _ Hr2.out (by rw [List.length_take]; omega) (by have := HC.out; omega) (tells33 _ (nth ev0 l (m + 1)) _ y1')).mono ?_
              rintro e w3 ⟨rfl, hb⟩
              have Hb3 := Hd.mk hb
              clear hb
              rw [Hany.out]
              have q0'' : w3.cell? ⟨w.heap.size, 0, none⟩ = some (.slice (some ad) l.length c) := keep Hb3.out (by exact q0')
              have q1'' : w3.cell? ⟨w.heap.size, 1, none⟩ = some (.int .i64 next) := keep Hb3.out (by exact q1')
              have hs3 : w.heap.size < w3.heap.size := World.block_lt_of_cell? w3 _ q0''
              have HB3 : Hd (Below w.heap.size w w3) := ⟨HB2.out.trans (Hb3.out.mono HB2.out.size)⟩
              clear Hb3 q0' q1' HB2
              go_wp2
            · go_roundw
              case rel => exact ⟨m + 1 + 1, by omega, by go_num, ⟨fun j hj => by
                rcases Nat.lt_or_ge j (m + 1) with h | h
                · exact Hn.out j h
                · obtain rfl : j = m + 1 := by omega
                  rw [chkAt, if_neg (by simp [Hw.out]), if_neg (by intro h; have := Hcm.out; have h' := h.2; rw [Nat.add_sub_cancel] at h'; omega), if_neg (by rw [Hany.out]; decide)]⟩, q0'', q1'', hs3, HB3⟩
              case measure => simp [intOf]; omega
            · go_ret
              refine ⟨?_, HB3.out⟩
              have hc8 : chkAt l next (m + 1) = 8 := by rw [chkAt, if_neg (by simp [Hw.out]), if_neg (by intro h; have := Hcm.out; have h' := h.2; rw [Nat.add_sub_cancel] at h'; omega), if_pos Hany.out]
              rw [Hr.out, checkF_at l next (m + 1) (by omega) (by omega) (by omega) hlt Hn.out (by rw [hc8]; decide), hc8]
              rfl
      · have hwb : (wrongF (nth ev0 l k).t (nth ev0 l k).n (nth ev0 l k).kd (nth ev0 l k).dst (nth ev0 l k).body.length next != 0) = true := by simp [hw]
        have Hw := Hd.mk hw
        clear hw
        go_wp2_with (go_at_call 31; refine (wrong_calls _ _ _ _ _ _ _ _ _ hb4).mono ?_; rintro e w' ⟨rfl, hb⟩; have Hb := Hd.mk hb; clear hb)
        go_ret
        refine ⟨?_, HB.out.trans ?_⟩
        · rw [Hr.out, checkF_at l next k (by omega) (by omega) (by omega) hlt Hn.out (by rw [chkAt, if_pos Hw.out]; exact Hw.out), chkAt, if_pos Hw.out]
          rfl
        · refine Below.trans (?_ : Below _ _ (wr.alloc _)) (Hb.out.mono ?_)
          · exact Below.alloc (Below.refl _ _) (by omega) _
          · simp
            omega
    · go_wp2
      go_ret
      exact ⟨by rw [Hr.out, checkF_zero l next (by omega) (by omega) (by omega) (fun j hj => Hn.out j (by omega))]; rfl, HB.out⟩
end Go.Proofs.Ytnmcbpjhlkpglaa.B
