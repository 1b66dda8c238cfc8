/- What this text holds: contracts of link's Next, Cut and Restore. -/
import Derived.Test.YtkgkiencikmhfaaG3
set_option linter.unusedVariables false
set_option linter.unusedSimpArgs false
namespace Go.Proofs.Ytkgkiencikmhfaa.B
open Go.RowKit

def nextF (mn mx rt : Int) (dn : Bool) (idle next : Int) (l : List Fl) : Int × Bool := if chkL mn mx rt dn idle next l ≠ 0 ∨ l.length = 0 then (0, false) else ((nth fl0 l 0).t, true)

set_option maxRecDepth 100000 in
set_option maxHeartbeats 2000000 in
theorem next_calls (mn mx rt : Int) (dn : Bool) (idle next : Int) (A : Option Addr) (c : Nat) (l : List Fl) (w : World) (hr : fls.C w A l) (hc : l.length ≤ c) :
    Calls Try.prog 25 #[.agg #[.int .i64 mn, .int .i64 mx, .int .i64 rt, .bool dn, .int .i64 idle, .int .i64 next, .slice A l.length c]] w fun e w' => e = .returned (.tuple #[.int .i64 (nextF mn mx rt dn idle next l).1, .bool (nextF mn mx rt dn idle next l).2]) ∧ Below w.heap.size w w' := by
  have hu26 := Try.underlying26
  have hu69 := Try.underlying69
  have HR := Hd.mk hr
  have HC := Hd.mk hr
  clear hr
  obtain ⟨er, her⟩ : ∃ er, er = chkL mn mx rt dn idle next l := ⟨_, rfl⟩
  have HER := Hd.mk her
  clear her
  obtain ⟨r, hrr⟩ : ∃ r, r = nextF mn mx rt dn idle next l := ⟨_, rfl⟩
  rw [← hrr]
  have HF := Hd.mk hrr
  clear hrr
  have HB : Hd (Below w.heap.size w (w.alloc (.cells #[.int .i64 mn, .int .i64 mx, .int .i64 rt, .bool dn, .int .i64 idle, .int .i64 next, .slice A l.length c] 26))) := ⟨by go_grown⟩
  have HQ := Hd.mk (Blk.new w 26 #[.int .i64 mn, .int .i64 mx, .int .i64 rt, .bool dn, .int .i64 idle, .int .i64 next, .slice A l.length c])
  go_enter Try.func25, Try.ntmps25
  go_wp2_with fail
  refine (check_calls mn mx rt dn idle next A c l _ (HR.out.below HB.out) hc).mono ?_
  rw [← HER.out]
  rintro e w2 ⟨rfl, hb⟩
  replace HB := Hd.mk (bstep HB.out (Nat.le_refl _) hb)
  obtain ⟨q0, q1, q2, q3, q4, q5, q6, q7, q8, q9, q10, q11, q12, q13⟩ := (HQ.out.below hb).f7
  clear hb HQ
  by_cases h : er = 0
  · subst h
    rcases Nat.eq_zero_or_pos l.length with h0 | h0
    · have h1 : ((l.length : Int) == 0) = true := by simp [h0]
      have HE : Hd (r = (0, false)) := ⟨by rw [HF.out, nextF, if_pos (.inr h0)]⟩
      clear h0
      go_wp2
      refine bodyPost_ret (v := .tuple #[.int .i64 0, .bool false]) (by simp [results, Try.results25, go_sem]) rfl ?_
      exact ⟨by rw [HE.out], HB.out⟩
    · have h1 : ((l.length : Int) == 0) = false := by simp; intro h; simp [h] at h0
      have h2 : (0 : Int) < l.length := by omega
      obtain ⟨ad, A4, c4, ea, x0, x1, x2, -, -⟩ := fls_get (HC.out.below HB.out) 0 h0
      cases ea
      simp only [Nat.zero_mul, Kd.add_zero] at x0 x1 x2
      have HE : Hd (r = ((nth fl0 l 0).t, true)) := ⟨by rw [HF.out, nextF, if_neg (by rw [← HER.out]; simp; intro h; simp [h] at h0)]⟩
      go_wp2
      refine bodyPost_ret (v := .tuple #[.int .i64 (nth fl0 l 0).t, .bool true]) (by simp [results, Try.results25, go_sem]) rfl ?_
      exact ⟨by rw [HE.out], HB.out⟩
  · have hb1 : (er != 0) = true := by simp [h]
    have HE : Hd (r = (0, false)) := ⟨by rw [HF.out, nextF, if_pos (.inl (by rw [← HER.out]; exact h))]⟩
    clear h
    go_wp2
    refine bodyPost_ret (v := .tuple #[.int .i64 0, .bool false]) (by simp [results, Try.results25, go_sem]) rfl ?_
    exact ⟨by rw [HE.out], HB.out⟩

/-- What Cut and Restore leave: a link. -/
def LinkPost (w : World) (r : Lk) (e : Ending) (w' : World) : Prop :=
  ∃ v, e = .returned (.agg #[.int .i64 r.mn, .int .i64 r.mx, .int .i64 r.rt, .bool r.down, .int .i64 r.idle, .int .i64 r.next, v]) ∧ fls.V w' (fun k => w.heap.size ≤ k) v r.fl ∧ Below w.heap.size w w'
def cutF (mn mx rt : Int) (dn : Bool) (idle next : Int) (l : List Fl) : Lk := if chkL mn mx rt dn idle next l ≠ 0 then ⟨mn, mx, rt, dn, idle, next, l⟩ else ⟨mn, mx, rt, true, idle, next, []⟩

set_option maxRecDepth 100000 in
set_option maxHeartbeats 2000000 in
theorem cut_calls (mn mx rt : Int) (dn : Bool) (idle next : Int) (A : Option Addr) (c : Nat) (l : List Fl) (w : World) (hr : fls.C w A l) (hc : l.length ≤ c) (hs : Small l) :
    Calls Try.prog 29 #[.agg #[.int .i64 mn, .int .i64 mx, .int .i64 rt, .bool dn, .int .i64 idle, .int .i64 next, .slice A l.length c]] w (LinkPost w (cutF mn mx rt dn idle next l)) := by
  have hu26 := Try.underlying26
  have hu69 := Try.underlying69
  obtain ⟨r, hrr⟩ : ∃ r, r = cutF mn mx rt dn idle next l := ⟨_, rfl⟩
  rw [← hrr]
  have HF := Hd.mk hrr
  clear hrr
  have HR := Hd.mk hr
  have HS := Hd.mk hs
  clear hr hs
  obtain ⟨er, her⟩ : ∃ er, er = chkL mn mx rt dn idle next l := ⟨_, rfl⟩
  have HER := Hd.mk her
  clear her
  have HB : Hd (Below w.heap.size w ((w.alloc (.cells #[.int .i64 mn, .int .i64 mx, .int .i64 rt, .bool dn, .int .i64 idle, .int .i64 next, .slice A l.length c] 26)).alloc (.cells #[.int .i64 0, .int .i64 0, .int .i64 0, .bool false, .int .i64 0, .int .i64 0, .slice none 0 0] 26))) := ⟨by go_grown⟩
  have hq := (Blk.new w 26 #[.int .i64 mn, .int .i64 mx, .int .i64 rt, .bool dn, .int .i64 idle, .int .i64 next, .slice A l.length c]).alloc (.cells #[.int .i64 0, .int .i64 0, .int .i64 0, .bool false, .int .i64 0, .int .i64 0, .slice none 0 0] 26)
  have hp := Blk.new (w.alloc (.cells #[.int .i64 mn, .int .i64 mx, .int .i64 rt, .bool dn, .int .i64 idle, .int .i64 next, .slice A l.length c] 26)) 26 #[.int .i64 0, .int .i64 0, .int .i64 0, .bool false, .int .i64 0, .int .i64 0, .slice none 0 0]
  rw [World.size_alloc] at hp
  have HQ := Hd.mk hq
  have HP := Hd.mk hp
  clear hq hp
  go_enter Try.func29, Try.ntmps29
  go_wp2_with fail
  refine (own_calls mn mx rt dn idle next A c l _ (HR.out.below HB.out) hc HS.out).mono ?_
  rintro e w1 ⟨v, rfl, hown, hb⟩
  obtain ⟨A2, c2, rfl, hc2, -⟩ := hown.shape
  have hs1 : w.heap.size + 2 ≤ w1.heap.size := by have := hb.size; simpa using this
  replace HB := Hd.mk (bstep HB.out (Nat.le_refl _) hb)
  replace HQ := Hd.mk (HQ.out.below hb)
  replace HP := Hd.mk (HP.out.below hb)
  have HV : Hd (fls.V w1 (fun j => w.heap.size + 2 ≤ j ∧ j < w1.heap.size) (.slice A2 l.length c2) l) := ⟨hown.V.bound.mono (fun j hj => ⟨by
    rcases hj.1 with h | h
    · simp at h; omega
    · have := (hown.blk j h).1; simp at this; omega, hj.2⟩)⟩
  have HO := Hd.mk (Blk.new w1 26 #[.int .i64 mn, .int .i64 mx, .int .i64 rt, .bool dn, .int .i64 idle, .int .i64 next, .slice A2 l.length c2])
  clear hb hown
  replace HB := Hd.mk (balloc HB.out (Nat.le_refl _) (.cells #[.int .i64 mn, .int .i64 mx, .int .i64 rt, .bool dn, .int .i64 idle, .int .i64 next, .slice A2 l.length c2] 26))
  replace HQ := Hd.mk (HQ.out.alloc (.cells #[.int .i64 mn, .int .i64 mx, .int .i64 rt, .bool dn, .int .i64 idle, .int .i64 next, .slice A2 l.length c2] 26))
  replace HP := Hd.mk (HP.out.alloc (.cells #[.int .i64 mn, .int .i64 mx, .int .i64 rt, .bool dn, .int .i64 idle, .int .i64 next, .slice A2 l.length c2] 26))
  replace HV := Hd.mk (HV.out.alloc (.cells #[.int .i64 mn, .int .i64 mx, .int .i64 rt, .bool dn, .int .i64 idle, .int .i64 next, .slice A2 l.length c2] 26))
  obtain ⟨q0, q1, q2, q3, q4, q5, q6, q7, q8, q9, q10, q11, q12, q13⟩ := HQ.out.f7
  go_wp2_with fail
  refine (check_calls mn mx rt dn idle next A c l _ (HR.out.below HB.out) hc).mono ?_
  rw [← HER.out]
  rintro e w2 ⟨rfl, hb⟩
  have hs2 : w1.heap.size + 1 ≤ w2.heap.size := by have := hb.size; simpa using this
  replace HB := Hd.mk (bstep HB.out (Nat.le_refl _) hb)
  replace HQ := Hd.mk (HQ.out.below hb)
  replace HO := Hd.mk (HO.out.below hb)
  replace HP := Hd.mk (HP.out.below hb)
  replace HV := Hd.mk (HV.out.below hb)
  clear hb q0 q1 q2 q3 q4 q5 q6 q7 q8 q9 q10 q11 q12 q13
  have hplt := HP.out.lt
  have holt := HO.out.lt
  by_cases h : er = 0
  · subst h
    have HE : Hd (r = ⟨mn, mx, rt, true, idle, next, []⟩) := ⟨by rw [HF.out, cutF, if_neg (by rw [← HER.out]; decide)]⟩
    obtain ⟨o0, o1, o2, o3, o4, o5, o6, o7, o8, o9, o10, o11, o12, o13⟩ := HO.out.f7
    have HO2 := Hd.mk ((HO.out.put (cs' := #[.int .i64 mn, .int .i64 mx, .int .i64 rt, .bool true, .int .i64 idle, .int .i64 next, .slice A2 l.length c2]) 3 (.bool true) rfl).put (cs' := #[.int .i64 mn, .int .i64 mx, .int .i64 rt, .bool true, .int .i64 idle, .int .i64 next, .slice none 0 0]) 6 (.slice none 0 0) rfl)
    have HP2 := Hd.mk ((HP.out.far (p := ⟨w1.heap.size, 3, none⟩) (by dsimp only; omega) (.bool true)).far (p := ⟨w1.heap.size, 6, none⟩) (by dsimp only; omega) (.slice none 0 0))
    obtain ⟨y0, y1, y2, y3, y4, y5, y6, -, -, -, -, -, -, -⟩ := HO2.out.f7
    obtain ⟨q0, q1, q2, q3, q4, q5, q6, q7, q8, q9, q10, q11, q12, q13⟩ := HP2.out.f7
    clear HF HQ hplt holt
    go_wp2
    refine bodyPost_ret (v := .agg #[.int .i64 mn, .int .i64 mx, .int .i64 rt, .bool true, .int .i64 idle, .int .i64 next, .slice none 0 0]) (by simp [results, Try.results29, go_sem, q0, q1, q2, q3, q4, q5, q6]) rfl ?_
    rw [HE.out]
    refine ⟨_, rfl, ?_, ?_⟩
    · exact Kd.V.nil
    · have h2 := HB.out
      repeat (first | (with_reducible exact h2) | (with_reducible refine Below.setCell ?_ (by dsimp only; omega) _))
  · have hb1 : (er == 0) = false := by simp [h]
    have HE : Hd (r = ⟨mn, mx, rt, dn, idle, next, l⟩) := ⟨by rw [HF.out, cutF, if_pos (by rw [← HER.out]; exact h)]⟩
    obtain ⟨o0, o1, o2, o3, o4, o5, o6, o7, o8, o9, o10, o11, o12, o13⟩ := HO.out.f7
    obtain ⟨q0, q1, q2, q3, q4, q5, q6, q7, q8, q9, q10, q11, q12, q13⟩ := HP.out.f7
    clear h HF HQ
    go_wp2
    refine bodyPost_ret (v := .agg #[.int .i64 mn, .int .i64 mx, .int .i64 rt, .bool dn, .int .i64 idle, .int .i64 next, .slice A2 l.length c2]) (by simp [results, Try.results29, go_sem, q0, q1, q2, q3, q4, q5, q6]) rfl ?_
    rw [HE.out]
    refine ⟨_, rfl, ?_, ?_⟩
    · have hv := HV.out
      refine Kd.V.mono (ok := (fun j => w.heap.size + 2 ≤ j ∧ j < w1.heap.size)) ?_ (fun j hj => by have h3 := hj.1; have h5 : w.heap.size + 2 ≤ j := h3; omega)
      repeat (first | (with_reducible exact hv) | (with_reducible refine Kd.V.far ?_ (fun j hj => by have h3 := hj.1; have h4 := hj.2; have h5 : w.heap.size + 2 ≤ j := h3; have h6 : j < w1.heap.size := h4; dsimp only; omega) _))
    · have h2 := HB.out
      repeat (first | (with_reducible exact h2) | (with_reducible refine Below.setCell ?_ (by dsimp only; omega) _))


def restoreF (mn mx rt : Int) (dn : Bool) (idle next : Int) (l : List Fl) (now : Int) : Lk := if chkL mn mx rt dn idle next l = 0 ∧ dn = true ∧ betw now 0 1073741824 = true then ⟨mn, mx, rt, false, now, next, l⟩ else ⟨mn, mx, rt, dn, idle, next, l⟩

set_option maxRecDepth 100000 in
set_option maxHeartbeats 2000000 in
theorem restore_calls (mn mx rt : Int) (dn : Bool) (idle next : Int) (A : Option Addr) (c : Nat) (l : List Fl) (now : Int) (w : World) (hr : fls.C w A l) (hc : l.length ≤ c) (hs : Small l) :
    Calls Try.prog 31 #[.agg #[.int .i64 mn, .int .i64 mx, .int .i64 rt, .bool dn, .int .i64 idle, .int .i64 next, .slice A l.length c], .int .i64 now] w (LinkPost w (restoreF mn mx rt dn idle next l now)) := by
  have hu26 := Try.underlying26
  have hu69 := Try.underlying69
  obtain ⟨r, hrr⟩ : ∃ r, r = restoreF mn mx rt dn idle next l now := ⟨_, rfl⟩
  rw [← hrr]
  have HF := Hd.mk hrr
  clear hrr
  obtain ⟨bn, hbn⟩ : ∃ b, betw now 0 1073741824 = b := ⟨_, rfl⟩
  have HN := Hd.mk hbn
  clear hbn
  have HR := Hd.mk hr
  have HS := Hd.mk hs
  clear hr hs
  obtain ⟨er, her⟩ : ∃ er, er = chkL mn mx rt dn idle next l := ⟨_, rfl⟩
  have HER := Hd.mk her
  clear her
  have HB : Hd (Below w.heap.size w ((w.alloc (.cells #[.int .i64 mn, .int .i64 mx, .int .i64 rt, .bool dn, .int .i64 idle, .int .i64 next, .slice A l.length c] 26)).alloc (.cells #[.int .i64 0, .int .i64 0, .int .i64 0, .bool false, .int .i64 0, .int .i64 0, .slice none 0 0] 26))) := ⟨by go_grown⟩
  have hq := (Blk.new w 26 #[.int .i64 mn, .int .i64 mx, .int .i64 rt, .bool dn, .int .i64 idle, .int .i64 next, .slice A l.length c]).alloc (.cells #[.int .i64 0, .int .i64 0, .int .i64 0, .bool false, .int .i64 0, .int .i64 0, .slice none 0 0] 26)
  have hp := Blk.new (w.alloc (.cells #[.int .i64 mn, .int .i64 mx, .int .i64 rt, .bool dn, .int .i64 idle, .int .i64 next, .slice A l.length c] 26)) 26 #[.int .i64 0, .int .i64 0, .int .i64 0, .bool false, .int .i64 0, .int .i64 0, .slice none 0 0]
  rw [World.size_alloc] at hp
  have HQ := Hd.mk hq
  have HP := Hd.mk hp
  clear hq hp
  go_enter Try.func31, Try.ntmps31
  go_wp2_with fail
  refine (own_calls mn mx rt dn idle next A c l _ (HR.out.below HB.out) hc HS.out).mono ?_
  rintro e w1 ⟨v, rfl, hown, hb⟩
  obtain ⟨A2, c2, rfl, hc2, -⟩ := hown.shape
  have hs1 : w.heap.size + 2 ≤ w1.heap.size := by have := hb.size; simpa using this
  replace HB := Hd.mk (bstep HB.out (Nat.le_refl _) hb)
  replace HQ := Hd.mk (HQ.out.below hb)
  replace HP := Hd.mk (HP.out.below hb)
  have HV : Hd (fls.V w1 (fun j => w.heap.size + 2 ≤ j ∧ j < w1.heap.size) (.slice A2 l.length c2) l) := ⟨hown.V.bound.mono (fun j hj => ⟨by
    rcases hj.1 with h | h
    · simp at h; omega
    · have := (hown.blk j h).1; simp at this; omega, hj.2⟩)⟩
  have HO := Hd.mk (Blk.new w1 26 #[.int .i64 mn, .int .i64 mx, .int .i64 rt, .bool dn, .int .i64 idle, .int .i64 next, .slice A2 l.length c2])
  clear hb hown
  replace HB := Hd.mk (balloc HB.out (Nat.le_refl _) (.cells #[.int .i64 mn, .int .i64 mx, .int .i64 rt, .bool dn, .int .i64 idle, .int .i64 next, .slice A2 l.length c2] 26))
  replace HQ := Hd.mk (HQ.out.alloc (.cells #[.int .i64 mn, .int .i64 mx, .int .i64 rt, .bool dn, .int .i64 idle, .int .i64 next, .slice A2 l.length c2] 26))
  replace HP := Hd.mk (HP.out.alloc (.cells #[.int .i64 mn, .int .i64 mx, .int .i64 rt, .bool dn, .int .i64 idle, .int .i64 next, .slice A2 l.length c2] 26))
  replace HV := Hd.mk (HV.out.alloc (.cells #[.int .i64 mn, .int .i64 mx, .int .i64 rt, .bool dn, .int .i64 idle, .int .i64 next, .slice A2 l.length c2] 26))
  obtain ⟨q0, q1, q2, q3, q4, q5, q6, q7, q8, q9, q10, q11, q12, q13⟩ := HQ.out.f7
  go_wp2_with fail
  refine (check_calls mn mx rt dn idle next A c l _ (HR.out.below HB.out) hc).mono ?_
  rw [← HER.out]
  rintro e w2 ⟨rfl, hb⟩
  have hs2 : w1.heap.size + 1 ≤ w2.heap.size := by have := hb.size; simpa using this
  replace HB := Hd.mk (bstep HB.out (Nat.le_refl _) hb)
  replace HQ := Hd.mk (HQ.out.below hb)
  replace HO := Hd.mk (HO.out.below hb)
  replace HP := Hd.mk (HP.out.below hb)
  replace HV := Hd.mk (HV.out.below hb)
  clear hb q0 q1 q2 q3 q4 q5 q6 q7 q8 q9 q10 q11 q12 q13
  have hplt := HP.out.lt
  have holt := HO.out.lt
  have h3 : er ≠ 0 ∨ (er = 0 ∧ dn = false) ∨ (er = 0 ∧ dn = true ∧ bn = false) ∨ (er = 0 ∧ dn = true ∧ bn = true) := by
    by_cases h : er = 0
    · cases dn <;> cases bn <;> simp [h]
    · exact .inl h
  rcases h3 with h | ⟨h, rfl⟩ | ⟨h, rfl, rfl⟩ | ⟨h, rfl, rfl⟩
  · have hb1 : (er == 0) = false := by simp [h]
    have HE : Hd (r = ⟨mn, mx, rt, dn, idle, next, l⟩) := ⟨by rw [HF.out, restoreF, if_neg (by rw [← HER.out]; exact fun hh => h hh.1)]⟩
    obtain ⟨o0, o1, o2, o3, o4, o5, o6, o7, o8, o9, o10, o11, o12, o13⟩ := HO.out.f7
    obtain ⟨q0, q1, q2, q3, q4, q5, q6, q7, q8, q9, q10, q11, q12, q13⟩ := HP.out.f7
    clear h HF HQ
    go_wp2
    refine bodyPost_ret (v := .agg #[.int .i64 mn, .int .i64 mx, .int .i64 rt, .bool dn, .int .i64 idle, .int .i64 next, .slice A2 l.length c2]) (by simp [results, Try.results31, go_sem, q0, q1, q2, q3, q4, q5, q6]) rfl ?_
    rw [HE.out]
    refine ⟨_, rfl, ?_, ?_⟩
    · have hv := HV.out
      refine Kd.V.mono (ok := (fun j => w.heap.size + 2 ≤ j ∧ j < w1.heap.size)) ?_ (fun j hj => by have h3 := hj.1; have h5 : w.heap.size + 2 ≤ j := h3; omega)
      repeat (first | (with_reducible exact hv) | (with_reducible refine Kd.V.far ?_ (fun j hj => by have h3 := hj.1; have h4 := hj.2; have h5 : w.heap.size + 2 ≤ j := h3; have h6 : j < w1.heap.size := h4; dsimp only; omega) _))
    · have h2 := HB.out
      repeat (first | (with_reducible exact h2) | (with_reducible refine Below.setCell ?_ (by dsimp only; omega) _))
  · subst h
    have HE : Hd (r = ⟨mn, mx, rt, false, idle, next, l⟩) := ⟨by rw [HF.out, restoreF, if_neg (fun hh => by cases hh.2.1)]⟩
    obtain ⟨o0, o1, o2, o3, o4, o5, o6, o7, o8, o9, o10, o11, o12, o13⟩ := HO.out.f7
    obtain ⟨q0, q1, q2, q3, q4, q5, q6, q7, q8, q9, q10, q11, q12, q13⟩ := HP.out.f7
    obtain ⟨z0, z1, z2, z3, z4, z5, z6, -, -, -, -, -, -, -⟩ := HQ.out.f7
    clear HF HQ
    go_wp2
    refine bodyPost_ret (v := .agg #[.int .i64 mn, .int .i64 mx, .int .i64 rt, .bool false, .int .i64 idle, .int .i64 next, .slice A2 l.length c2]) (by simp [results, Try.results31, go_sem, q0, q1, q2, q3, q4, q5, q6]) rfl ?_
    rw [HE.out]
    refine ⟨_, rfl, ?_, ?_⟩
    · have hv := HV.out
      refine Kd.V.mono (ok := (fun j => w.heap.size + 2 ≤ j ∧ j < w1.heap.size)) ?_ (fun j hj => by have h3 := hj.1; have h5 : w.heap.size + 2 ≤ j := h3; omega)
      repeat (first | (with_reducible exact hv) | (with_reducible refine Kd.V.far ?_ (fun j hj => by have h3 := hj.1; have h4 := hj.2; have h5 : w.heap.size + 2 ≤ j := h3; have h6 : j < w1.heap.size := h4; dsimp only; omega) _))
    · have h2 := HB.out
      repeat (first | (with_reducible exact h2) | (with_reducible refine Below.setCell ?_ (by dsimp only; omega) _))
  · subst h
    have HE : Hd (r = ⟨mn, mx, rt, true, idle, next, l⟩) := ⟨by rw [HF.out, restoreF, if_neg (fun hh => by rw [HN.out] at hh; cases hh.2.2)]⟩
    obtain ⟨o0, o1, o2, o3, o4, o5, o6, o7, o8, o9, o10, o11, o12, o13⟩ := HO.out.f7
    obtain ⟨q0, q1, q2, q3, q4, q5, q6, q7, q8, q9, q10, q11, q12, q13⟩ := HP.out.f7
    obtain ⟨z0, z1, z2, z3, z4, z5, z6, -, -, -, -, -, -, -⟩ := HQ.out.f7
    clear HF HQ
    go_wp2_with (go_at_call 35; refine (between_calls _ _ _ _).mono ?_; rintro e w' ⟨rfl, rfl⟩; rw [HN.out])
    refine bodyPost_ret (v := .agg #[.int .i64 mn, .int .i64 mx, .int .i64 rt, .bool true, .int .i64 idle, .int .i64 next, .slice A2 l.length c2]) (by simp [results, Try.results31, go_sem, q0, q1, q2, q3, q4, q5, q6]) rfl ?_
    rw [HE.out]
    refine ⟨_, rfl, ?_, ?_⟩
    · have hv := HV.out
      refine Kd.V.mono (ok := (fun j => w.heap.size + 2 ≤ j ∧ j < w1.heap.size)) ?_ (fun j hj => by have h3 := hj.1; have h5 : w.heap.size + 2 ≤ j := h3; omega)
      repeat (first | (with_reducible exact hv) | (with_reducible refine Kd.V.far ?_ (fun j hj => by have h3 := hj.1; have h4 := hj.2; have h5 : w.heap.size + 2 ≤ j := h3; have h6 : j < w1.heap.size := h4; dsimp only; omega) _))
    · have h2 := HB.out
      repeat (first | (with_reducible exact h2) | (with_reducible refine Below.setCell ?_ (by dsimp only; omega) _))
  · subst h
    have HE : Hd (r = ⟨mn, mx, rt, false, now, next, l⟩) := ⟨by rw [HF.out, restoreF, if_pos ⟨by rw [← HER.out], rfl, HN.out⟩]⟩
    obtain ⟨o0, o1, o2, o3, o4, o5, o6, o7, o8, o9, o10, o11, o12, o13⟩ := HO.out.f7
    have HO2 := Hd.mk ((HO.out.put (cs' := #[.int .i64 mn, .int .i64 mx, .int .i64 rt, .bool false, .int .i64 idle, .int .i64 next, .slice A2 l.length c2]) 3 (.bool false) rfl).put (cs' := #[.int .i64 mn, .int .i64 mx, .int .i64 rt, .bool false, .int .i64 now, .int .i64 next, .slice A2 l.length c2]) 4 (.int .i64 now) rfl)
    have HP2 := Hd.mk ((HP.out.far (p := ⟨w1.heap.size, 3, none⟩) (by dsimp only; omega) (.bool false)).far (p := ⟨w1.heap.size, 4, none⟩) (by dsimp only; omega) (.int .i64 now))
    obtain ⟨y0, y1, y2, y3, y4, y5, y6, -, -, -, -, -, -, -⟩ := HO2.out.f7
    obtain ⟨q0, q1, q2, q3, q4, q5, q6, q7, q8, q9, q10, q11, q12, q13⟩ := HP2.out.f7
    obtain ⟨z0, z1, z2, z3, z4, z5, z6, -, -, -, -, -, -, -⟩ := HQ.out.f7
    clear HF HQ hplt holt
    go_wp2_with (go_at_call 35; refine (between_calls _ _ _ _).mono ?_; rintro e w' ⟨rfl, rfl⟩; rw [HN.out])
    refine bodyPost_ret (v := .agg #[.int .i64 mn, .int .i64 mx, .int .i64 rt, .bool false, .int .i64 now, .int .i64 next, .slice A2 l.length c2]) (by simp [results, Try.results31, go_sem, q0, q1, q2, q3, q4, q5, q6]) rfl ?_
    rw [HE.out]
    refine ⟨_, rfl, ?_, ?_⟩
    · have hv := HV.out
      refine Kd.V.mono (ok := (fun j => w.heap.size + 2 ≤ j ∧ j < w1.heap.size)) ?_ (fun j hj => by have h3 := hj.1; have h5 : w.heap.size + 2 ≤ j := h3; omega)
      repeat (first | (with_reducible exact hv) | (with_reducible refine Kd.V.far ?_ (fun j hj => by have h3 := hj.1; have h4 := hj.2; have h5 : w.heap.size + 2 ≤ j := h3; have h6 : j < w1.heap.size := h4; dsimp only; omega) _))
    · have h2 := HB.out
      repeat (first | (with_reducible exact h2) | (with_reducible refine Below.setCell ?_ (by dsimp only; omega) _))

end Go.Proofs.Ytkgkiencikmhfaa.B
