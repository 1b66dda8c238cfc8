/- What this text holds: what eventqueue.Add answers, and its contract. -/
import Derived.Test.YtnmcbpjhlkpglaaF8
set_option linter.unusedVariables false
set_option linter.unusedSimpArgs false
namespace Go.Proofs.Ytnmcbpjhlkpglaa.B
open Go.RowKit

theorem firstErr_none (f : Nat → Int) (n : Nat) (h : firstErr f n = 0) : ∀ j, j < n → f j = 0 := by
  induction n with
  | zero => intro j hj; omega
  | succ n ih =>
    rw [firstErr] at h
    by_cases h0 : firstErr f n = 0
    · rw [if_pos h0] at h
      intro j hj
      rcases Nat.lt_or_ge j n with hlt | hge
      · exact ih h0 j hlt
      · obtain rfl : j = n := by omega
        exact h
    · rw [if_neg h0] at h
      exact absurd h h0
theorem checkF_ok (l : List Ev) (next : Int) (h : checkF l next = 0) : l.length ≤ 4096 ∧ 0 ≤ next ∧ next ≤ 1073741824 ∧ ∀ i, i < l.length → chkAt l next i = 0 := by
  rw [checkF] at h
  by_cases h1 : 4096 < l.length
  · rw [if_pos h1] at h; cases h
  · rw [if_neg h1] at h
    by_cases h2 : next < 0 ∨ 1073741824 < next
    · rw [if_pos h2] at h; cases h
    · rw [if_neg h2] at h
      exact ⟨by omega, by omega, by omega, firstErr_none _ _ h⟩
theorem wrongF_ok {t n k o next : Int} {len : Nat} (h : wrongF t n k o len next = 0) : 0 ≤ t ∧ t ≤ 1073741824 ∧ 0 ≤ k ∧ 0 ≤ o ∧ 0 ≤ n ∧ n < next ∧ len ≤ 4096 := by
  unfold wrongF at h
  split at h
  · cases h
  · split at h
    · cases h
    · split at h
      · cases h
      · omega
theorem chkAt_wrong {l : List Ev} {next : Int} {i : Nat} (h : chkAt l next i = 0) : wrongF (nth ev0 l i).t (nth ev0 l i).n (nth ev0 l i).kd (nth ev0 l i).dst (nth ev0 l i).body.length next = 0 := by
  unfold chkAt at h
  split at h
  · exact h
  · rename_i h1
    simpa using h1
theorem checkF_small (l : List Ev) (next : Int) (h : checkF l next = 0) : Small l := by
  obtain ⟨h1, _, _, h2⟩ := checkF_ok l next h
  refine ⟨h1, fun x hx => ?_⟩
  obtain ⟨i, hi, rfl⟩ := List.getElem_of_mem hx
  have := wrongF_ok (chkAt_wrong (h2 i hi))
  rw [nth_eq ev0 l i hi] at this
  exact this.2.2.2.2.2.2

/-- Where an event of a time goes. -/
def placeI (l : List Ev) (time : Int) : Nat := match l.findIdx? (fun x => decide (time < x.t)) with | some i => i | none => l.length
theorem placeI_le (l : List Ev) (time : Int) : placeI l time ≤ l.length := by
  unfold placeI
  split
  · rename_i i h
    have := (List.findIdx?_eq_some_iff_getElem.1 h).1
    omega
  · exact Nat.le_refl _
def addF (l : List Ev) (next time kind dst : Int) (body : List Int) : (List Ev × Int) × Int × Int :=
  if checkF l next ≠ 0 then (([], 0), 0, checkF l next)
  else if wrongF time next kind dst body.length (next + 1) ≠ 0 then (([], 0), 0, wrongF time next kind dst body.length (next + 1))
  else if 4096 ≤ l.length ∨ 1073741824 ≤ next then (([], 0), 0, 11)
  else ((l.take (placeI l time) ++ ⟨time, next, kind, dst, body⟩ :: l.drop (placeI l time), next + 1), next, 0)

/-- What Add leaves: a queue of the call's own, a number, an error. -/
def AddPost (w : World) (r : (List Ev × Int) × Int × Int) (e : Ending) (w' : World) : Prop :=
  ∃ v, e = .returned (.tuple #[.agg #[v, .int .i64 r.1.2], .int .i64 r.2.1, .int .i64 r.2.2]) ∧ evs.V w' (fun k => w.heap.size ≤ k) v r.1.1 ∧ Below w.heap.size w w'

set_option maxHeartbeats 1000000 in
theorem add_bad1 (A : Option Addr) (c : Nat) (l : List Ev) (next time kind dst : Int) (A4 : Option Addr) (c4 : Nat) (body : List Int) (w : World) (hr : evs.C w A l) (hc : l.length ≤ c) (h : checkF l next ≠ 0) :
    Calls Try.prog 14 #[.agg #[.slice A l.length c, .int .i64 next], .int .i64 time, .int .i64 kind, .int .i64 dst, .slice A4 body.length c4] w (AddPost w (([], 0), 0, checkF l next)) := by
  have hu24 := Try.underlying24
  have HR := Hd.mk hr
  have hb1 : (checkF l next != 0) = true := by simp [h]
  clear hr h
  go_enter Try.func14, Try.ntmps14
  go_wp2_with fail
  refine (check_calls A c l next _ (HR.out.below (by go_grown)) hc).mono ?_
  rintro e w1 ⟨rfl, hb⟩
  have Hb := Hd.mk hb
  have B2 := (Blk.new ((w.alloc _).alloc _) 24 _).below hb
  simp only [World.size_alloc] at B2
  obtain ⟨d0, d1, d2, d3⟩ := B2.f2
  have HB2 := Hd.mk B2
  clear hb B2
  go_wp2
  refine bodyPost_ret (v := .tuple #[.agg #[.slice none 0 0, .int .i64 0], .int .i64 0, .int .i64 (checkF l next)]) (by simp [results, Try.results14, go_sem, d0, d1]) rfl ⟨_, rfl, Kd.V.nil, ?_⟩
  have h := Hb.out
  simp only [World.size_alloc] at h
  have h2 : Below w.heap.size w w1 := Below.trans (by go_grown) (h.mono (by omega))
  clear h
  repeat (first | (with_reducible exact h2) | (with_reducible refine Below.setCell ?_ (by dsimp only; omega) _))

set_option maxRecDepth 100000 in
set_option maxHeartbeats 4000000 in
theorem add_ok (A : Option Addr) (c : Nat) (l : List Ev) (next time kind dst : Int) (A4 : Option Addr) (c4 : Nat) (body : List Int) (w : World) (hr : evs.C w A l) (hc : l.length ≤ c) (h : checkF l next = 0)
    (hr4 : (ints .u8).C w A4 body) (hc4 : body.length ≤ c4) (hl4 : body.length ≤ 140737488355328) :
    Calls Try.prog 14 #[.agg #[.slice A l.length c, .int .i64 next], .int .i64 time, .int .i64 kind, .int .i64 dst, .slice A4 body.length c4] w (AddPost w (addF l next time kind dst body)) := by
  have hu24 := Try.underlying24
  have hu32 := Try.underlying32
  have HR := Hd.mk hr
  have HR4 := Hd.mk hr4
  have hok := checkF_ok l next h
  have HS := Hd.mk (checkF_small l next h)
  have hl := hok.1
  have hn0 := hok.2.1
  have hn1 := hok.2.2.1
  have hb1 : (checkF l next != 0) = false := by simp [h]
  have hw1 : IntKind.i64.wrap (next + 1) = next + 1 := IntWalk.i64_in _ (by omega)
  have H0 := Hd.mk h
  clear hr h hok hr4
  go_enter Try.func14, Try.ntmps14
  go_wp2_with fail
  refine (check_calls A c l next _ (HR.out.below (by go_grown)) hc).mono ?_
  rintro e w1 ⟨rfl, hb⟩
  have B0 := (Blk.alloc (Blk.alloc (Blk.new w 24 #[.slice A l.length c, .int .i64 next]) _) _).below hb
  have B1 := (Blk.alloc (Blk.new (w.alloc _) 3 #[.int .i64 time]) _).below hb
  have B2 := (Blk.new ((w.alloc _).alloc _) 24 _).below hb
  have hbw := Below.trans (by go_grown : Below w.heap.size w _) (hb.mono (by simp; omega))
  have hsz : w.heap.size + 3 ≤ w1.heap.size := by have := hb.size; simpa using this
  simp only [World.size_alloc] at B1 B2
  have HB0 := Hd.mk B0
  have HB1 := Hd.mk B1
  have HB2 := Hd.mk B2
  have HBW := Hd.mk hbw
  obtain ⟨q0, q1, -, -⟩ := B0.f2
  obtain ⟨p0, -⟩ := B1.f1
  clear hb B0 B1 B2 hbw
  go_wp2_with fail
  refine (copied_calls ⟨time, next, kind, dst, body⟩ A4 c4 _ (HR4.out.below HBW.out) hc4 hl4).mono ?_
  rintro e w2 ⟨v4, rfl, hown, hb⟩
  obtain ⟨A1, c1, rfl, -, -⟩ := hown.shape
  have HO := Hd.mk hown
  have HB0' := Hd.mk (HB0.out.below hb)
  have HB1' := Hd.mk (HB1.out.below hb)
  have HB2' := Hd.mk (HB2.out.below hb)
  have HBW' := Hd.mk (HBW.out.trans (hb.mono HBW.out.size))
  have hsz12 : w1.heap.size ≤ w2.heap.size := hb.size
  have HKB := Hd.mk hown.blk
  have hsz0 : w.heap.size < w2.heap.size := by have := hb.size; omega
  have hsz1 : w.heap.size + 1 < w2.heap.size := by have := hb.size; omega
  have hsz2 : w.heap.size + 1 + 1 < w2.heap.size := by have := hb.size; omega
  clear hb hown q0 q1 p0 HB0 HB1 HB2 HBW
  dsimp only at HO ⊢
  obtain ⟨q0, q1, -, -⟩ := HB0'.out.f2
  go_wp2_with fail
  refine (wrong_calls time next kind dst A1 body.length c1 (next + 1) _ (by omega)).mono ?_
  rintro e w3 ⟨rfl, hb⟩
  have HB3 := Hd.mk ((Blk.new w2 32 #[.int .i64 time, .int .i64 next, .int .i64 kind, .int .i64 dst, .slice A1 body.length c1]).below hb)
  have hbw : Below w2.heap.size w2 w3 := Below.trans (by go_grown) (hb.mono (by simp))
  have hsz3 : w2.heap.size + 1 ≤ w3.heap.size := by have := hb.size; simpa using this
  have HB0 := Hd.mk (HB0'.out.below hbw)
  have HB1 := Hd.mk (HB1'.out.below hbw)
  have HB2 := Hd.mk (HB2'.out.below hbw)
  have HBW := Hd.mk (HBW'.out.trans (hbw.mono HBW'.out.size))
  have HO3 := Hd.mk (HO.out.below hbw)
  clear hb hbw q0 q1 HB0' HB1' HB2' HBW' HO
  obtain ⟨q0, q1, -, -⟩ := HB0.out.f2
  obtain ⟨d0, d1, d2, d3⟩ := HB2.out.f2
  by_cases hw : wrongF time next kind dst body.length (next + 1) = 0
  · have hwb : (wrongF time next kind dst body.length (next + 1) != 0) = false := by simp [hw]
    have Hw := Hd.mk hw
    clear hw
    by_cases hfull : 4096 ≤ l.length
    · go_wp2
      refine bodyPost_ret (v := .tuple #[.agg #[.slice none 0 0, .int .i64 0], .int .i64 0, .int .i64 11]) (by simp [results, Try.results14, go_sem, d0, d1]) rfl ?_
      rw [addF, if_neg (by rw [H0.out]; decide), if_neg (by rw [Hw.out]; decide), if_pos (.inl hfull)]
      refine ⟨_, rfl, Kd.V.nil, ?_⟩
      have h2 := HBW.out
      repeat (first | (with_reducible exact h2) | (with_reducible refine Below.setCell ?_ (by dsimp only; omega) _))
    by_cases hfull2 : 1073741824 ≤ next
    · go_wp2
      refine bodyPost_ret (v := .tuple #[.agg #[.slice none 0 0, .int .i64 0], .int .i64 0, .int .i64 11]) (by simp [results, Try.results14, go_sem, d0, d1]) rfl ?_
      rw [addF, if_neg (by rw [H0.out]; decide), if_neg (by rw [Hw.out]; decide), if_pos (.inr hfull2)]
      refine ⟨_, rfl, Kd.V.nil, ?_⟩
      have h2 := HBW.out
      repeat (first | (with_reducible exact h2) | (with_reducible refine Below.setCell ?_ (by dsimp only; omega) _))
    obtain ⟨p, hpl⟩ : ∃ p, placeI l time = p := ⟨_, rfl⟩
    have hple := placeI_le l time
    rw [hpl] at hple
    obtain ⟨ys, hys⟩ : ∃ ys : List Ev, ys = l.take p ++ ⟨time, next, kind, dst, body⟩ :: l.drop p := ⟨_, rfl⟩
    have HF : Hd (addF l next time kind dst body = ((ys, next + 1), next, 0)) := ⟨by
      rw [addF, if_neg (by rw [H0.out]; decide), if_neg (by rw [Hw.out]; decide), if_neg (by omega), hpl, ← hys]⟩
    have Hpl := Hd.mk hpl
    have Hys := Hd.mk hys
    clear hpl hys
    go_wp2_with fail
    refine (events_calls A c l _ (HR.out.below HBW.out) hc HS.out).mono ?_
    rintro e w4 ⟨v5, rfl, hown, hb⟩
    obtain ⟨A5, c5, rfl, hc5, -⟩ := hown.shape
    have hsz4 := hb.size
    have HB0' := Hd.mk (HB0.out.below hb)
    have HB1' := Hd.mk (HB1.out.below hb)
    have HB2' := Hd.mk (HB2.out.below hb)
    have HB3' := Hd.mk (HB3.out.below hb)
    have HBW' := Hd.mk (HBW.out.trans (hb.mono HBW.out.size))
    have HO3' := Hd.mk (HO3.out.below hb)
    have HO5 := Hd.mk hown
    have hr5 := hown.C
    clear hb hown q0 q1 d0 d1 d2 d3 HB0 HB1 HB2 HB3 HBW HO3
    obtain ⟨p0, -⟩ := HB1'.out.f1
    have HR5 := Hd.mk hr5
    clear hr5
    go_wp2_with fail
    refine (indexFunc_calls 37 #[.pointer (some ⟨w.heap.size + 1, 0, none⟩)] (fun x => decide (time < x.t)) A5 l.length c5 l _ HR5.out rfl hc5 (tells37 _ time _ p0)).mono ?_
    rintro e w5 ⟨rfl, hb⟩
    have hsz5 := hb.size
    have HB0 := Hd.mk (HB0'.out.below hb)
    have HB2 := Hd.mk (HB2'.out.below hb)
    have HB3 := Hd.mk (HB3'.out.below hb)
    have HBW := Hd.mk (HBW'.out.trans (hb.mono HBW'.out.size))
    have HO3 := Hd.mk (HO3'.out.below hb)
    have HO := Hd.mk (HO5.out.below hb)
    have HK := Hd.mk (HO5.out.blk)
    clear hb p0 HB0' HB1' HB2' HB3' HBW' HO3' HO5 HR5
    obtain ⟨q0, q1, -, -⟩ := HB0.out.f2
    obtain ⟨x0, x1, x2, x3, x4, -, -, -, -, -⟩ := HB3.out.f5
    obtain ⟨d0, d1, d2, d3⟩ := HB2.out.f2
    have hz0 : w.heap.size < w5.heap.size := by omega
    have hz1 : w.heap.size + 1 + 1 < w5.heap.size := by omega
    have hz2 : w2.heap.size < w5.heap.size := by omega
    -- the call of Insert, ahead of the region
    have HI : Hd (Calls Try.prog 38 #[.slice A5 l.length c5, .int .i64 p, .slice (some ⟨w5.heap.size, 0, none⟩) 1 1] (w5.drew.alloc (.cells #[.int .i64 time, .int .i64 next, .int .i64 kind, .int .i64 dst, .slice A1 body.length c1] 32)) fun e w' =>
        ∃ v', e = .returned v' ∧ evs.Own 32 w' w3.heap.size (fun k => w1.heap.size ≤ k) v' ys ∧ Below w3.heap.size (w5.drew.alloc (.cells #[.int .i64 time, .int .i64 next, .int .i64 kind, .int .i64 dst, .slice A1 body.length c1] 32)) w') := ⟨by
      have hown : evs.Own 32 (w5.drew.alloc (.cells #[.int .i64 time, .int .i64 next, .int .i64 kind, .int .i64 dst, .slice A1 body.length c1] 32)) w3.heap.size (fun k => w3.heap.size ≤ k) (.slice A5 l.length c5) l := (HO.out.drew).alloc _
      have hbd : ∀ k, (Value.slice A5 l.length c5).ownBlock = some k → w3.heap.size ≤ k ∧ k < w4.heap.size := HK.out
      have hbx : ∀ k, (Value.slice A1 body.length c1).ownBlock = some k → w1.heap.size ≤ k ∧ k < w2.heap.size := HKB.out
      have hfx : Fp (fun W => evs.K W ⟨time, next, kind, dst, body⟩ [.int .i64 time, .int .i64 next, .int .i64 kind, .int .i64 dst, .slice A1 body.length c1]) (w5.drew.alloc (.cells #[.int .i64 time, .int .i64 next, .int .i64 kind, .int .i64 dst, .slice A1 body.length c1] 32)) (fun k => (Value.slice A1 body.length c1).ownBlock = some k) :=
        ev_fp2 (x := ⟨time, next, kind, dst, body⟩) ((HO3.out.drew).alloc _)
      refine (insert_calls _ l ⟨time, next, kind, dst, body⟩ p w5.heap.size [.int .i64 time, .int .i64 next, .int .i64 kind, .int .i64 dst, .slice A1 body.length c1] _ w3.heap.size (fun k => w3.heap.size ≤ k) (fun k => (Value.slice A1 body.length c1).ownBlock = some k) (by simp; omega) hown hple (Blk.new w5.drew 32 _) (fun h => by have := (hbd _ h.symm).2; omega) hfx (fun k hk _ h => by have := (hbd _ h.symm).1; have := (hbx _ hk).2; omega) hl).mono ?_
      rintro e w' ⟨v', he, hO, hB⟩
      rw [← Hys.out] at hO
      exact ⟨v', he, hO.mono (fun k hk => by rcases hk with hk | hk | hk <;> first | omega | exact (hbx _ hk).1), hB⟩⟩
    rcases hfi : l.findIdx? (fun x => decide (time < x.t)) with _ | i
    · have hp : p = l.length := by rw [← Hpl.out, placeI, hfi]
      have hx : idxI (fun x => decide (time < x.t)) l = -1 := by rw [idxI, hfi]
      rw [hx]
      subst hp
      clear hx hfi
      go_wp2_with fail
      go_region_held3 (fun W => W.cell? ⟨w.heap.size, 1, none⟩ = some (.int .i64 next) ∧ W.cell? ⟨w2.heap.size, 0, none⟩ = some (.int .i64 time) ∧ W.cell? ⟨w2.heap.size, 1, none⟩ = some (.int .i64 next) ∧ W.cell? ⟨w2.heap.size, 2, none⟩ = some (.int .i64 kind) ∧ W.cell? ⟨w2.heap.size, 3, none⟩ = some (.int .i64 dst) ∧ W.cell? ⟨w2.heap.size, 4, none⟩ = some (.slice A1 body.length c1)) (first | go_keep | (refine ⟨?_, ?_, ?_, ?_, ?_, ?_⟩ <;> (first | go_keep | (go_simp; done) | omega)) | (exact ⟨keepB HB7.out (by go_simp) (by dsimp only; omega), keepB HB7.out (by go_simp) (by dsimp only; omega), keepB HB7.out (by go_simp) (by dsimp only; omega), keepB HB7.out (by go_simp) (by dsimp only; omega), keepB HB7.out (by go_simp) (by dsimp only; omega), keepB HB7.out (by go_simp) (by dsimp only; omega)⟩))
        (first | (go_at_call 38; refine HI.out.mono ?_; rintro e w7 ⟨v', rfl, hown, hb⟩; obtain ⟨A7, c7, rfl, -, -⟩ := hown.shape; have HO7 := Hd.mk hown; have HB7 := Hd.mk hb; have HB27 := Hd.mk (((HB2.out.drew).alloc (.cells #[.int .i64 time, .int .i64 next, .int .i64 kind, .int .i64 dst, .slice A1 body.length c1] 32)).belowB hb (by omega)); obtain ⟨e0, e1, e2, e3⟩ := HB27.out.f2; clear hown hb))
      go_wp2
      refine bodyPost_ret (v := .tuple #[.agg #[.slice A7 ys.length c7, .int .i64 (next + 1)], .int .i64 next, .int .i64 0]) (by simp [results, Try.results14, go_sem, e0, e1]) rfl ?_
      rw [HF.out]
      refine ⟨_, rfl, ?_, ?_⟩
      · have hv : evs.V w7 (fun k => w1.heap.size ≤ k) _ _ := HO7.out.V.mono (fun k hk => by
          rcases hk with hk | hk
          · exact hk
          · have := (HO7.out.blk k hk).1; omega)
        refine Kd.V.mono (ok := fun k => w1.heap.size ≤ k) ?_ (fun k hk => by have hk' : w1.heap.size ≤ k := hk; omega)
        repeat (first | (with_reducible exact hv) | (with_reducible refine Kd.V.far ?_ (fun k hk => by have hk' : w1.heap.size ≤ k := hk; dsimp only; omega) _))
      · have h2 : Below w.heap.size w w7 := (HBW.out.trans (by go_grown : Below w.heap.size w5 (w5.drew.alloc _))).trans (HB7.out.mono (by omega))
        repeat (first | (with_reducible exact h2) | (with_reducible refine Below.setCell ?_ (by dsimp only; omega) _))
    · have hp : p = i := by rw [← Hpl.out, placeI, hfi]
      have hx : idxI (fun x => decide (time < x.t)) l = i := by rw [idxI, hfi]
      rw [hx]
      subst hp
      clear hx hfi
      go_wp2_with fail
      go_region_held3 (fun W => W.cell? ⟨w.heap.size, 1, none⟩ = some (.int .i64 next) ∧ W.cell? ⟨w2.heap.size, 0, none⟩ = some (.int .i64 time) ∧ W.cell? ⟨w2.heap.size, 1, none⟩ = some (.int .i64 next) ∧ W.cell? ⟨w2.heap.size, 2, none⟩ = some (.int .i64 kind) ∧ W.cell? ⟨w2.heap.size, 3, none⟩ = some (.int .i64 dst) ∧ W.cell? ⟨w2.heap.size, 4, none⟩ = some (.slice A1 body.length c1)) (first | go_keep | (refine ⟨?_, ?_, ?_, ?_, ?_, ?_⟩ <;> (first | go_keep | (go_simp; done) | omega)) | (exact ⟨keepB HB7.out (by go_simp) (by dsimp only; omega), keepB HB7.out (by go_simp) (by dsimp only; omega), keepB HB7.out (by go_simp) (by dsimp only; omega), keepB HB7.out (by go_simp) (by dsimp only; omega), keepB HB7.out (by go_simp) (by dsimp only; omega), keepB HB7.out (by go_simp) (by dsimp only; omega)⟩))
        (first | (go_at_call 38; refine HI.out.mono ?_; rintro e w7 ⟨v', rfl, hown, hb⟩; obtain ⟨A7, c7, rfl, -, -⟩ := hown.shape; have HO7 := Hd.mk hown; have HB7 := Hd.mk hb; have HB27 := Hd.mk (((HB2.out.drew).alloc (.cells #[.int .i64 time, .int .i64 next, .int .i64 kind, .int .i64 dst, .slice A1 body.length c1] 32)).belowB hb (by omega)); obtain ⟨e0, e1, e2, e3⟩ := HB27.out.f2; clear hown hb))
      go_wp2
      refine bodyPost_ret (v := .tuple #[.agg #[.slice A7 ys.length c7, .int .i64 (next + 1)], .int .i64 next, .int .i64 0]) (by simp [results, Try.results14, go_sem, e0, e1]) rfl ?_
      rw [HF.out]
      refine ⟨_, rfl, ?_, ?_⟩
      · have hv : evs.V w7 (fun k => w1.heap.size ≤ k) _ _ := HO7.out.V.mono (fun k hk => by
          rcases hk with hk | hk
          · exact hk
          · have := (HO7.out.blk k hk).1; omega)
        refine Kd.V.mono (ok := fun k => w1.heap.size ≤ k) ?_ (fun k hk => by have hk' : w1.heap.size ≤ k := hk; omega)
        repeat (first | (with_reducible exact hv) | (with_reducible refine Kd.V.far ?_ (fun k hk => by have hk' : w1.heap.size ≤ k := hk; dsimp only; omega) _))
      · have h2 : Below w.heap.size w w7 := (HBW.out.trans (by go_grown : Below w.heap.size w5 (w5.drew.alloc _))).trans (HB7.out.mono (by omega))
        repeat (first | (with_reducible exact h2) | (with_reducible refine Below.setCell ?_ (by dsimp only; omega) _))
  · have hwb : (wrongF time next kind dst body.length (next + 1) != 0) = true := by simp [hw]
    have Hw := Hd.mk hw
    clear hw
    go_wp2
    refine bodyPost_ret (v := .tuple #[.agg #[.slice none 0 0, .int .i64 0], .int .i64 0, .int .i64 (wrongF time next kind dst body.length (next + 1))]) (by simp [results, Try.results14, go_sem, d0, d1]) rfl ?_
    rw [addF, if_neg (by rw [H0.out]; decide), if_pos Hw.out]
    refine ⟨_, rfl, Kd.V.nil, ?_⟩
    have h2 := HBW.out
    repeat (first | (with_reducible exact h2) | (with_reducible refine Below.setCell ?_ (by dsimp only; omega) _))

theorem add_calls (A : Option Addr) (c : Nat) (l : List Ev) (next time kind dst : Int) (A4 : Option Addr) (c4 : Nat) (body : List Int) (w : World) (hr : evs.C w A l) (hc : l.length ≤ c)
    (hr4 : (ints .u8).C w A4 body) (hc4 : body.length ≤ c4) (hl4 : body.length ≤ 140737488355328) :
    Calls Try.prog 14 #[.agg #[.slice A l.length c, .int .i64 next], .int .i64 time, .int .i64 kind, .int .i64 dst, .slice A4 body.length c4] w (AddPost w (addF l next time kind dst body)) := by
  by_cases h : checkF l next = 0
  · exact add_ok A c l next time kind dst A4 c4 body w hr hc h hr4 hc4 hl4
  · rw [addF, if_pos h]
    exact add_bad1 A c l next time kind dst A4 c4 body w hr hc h
end Go.Proofs.Ytnmcbpjhlkpglaa.B
