/- What this text holds: the contract of eventqueue.Cancel. -/
import Derived.Test.YtnmcbpjhlkpglaaG2
set_option linter.unusedVariables false
set_option linter.unusedSimpArgs false
namespace Go.Proofs.Ytnmcbpjhlkpglaa.B
open Go.RowKit

theorem delete_calls (v : Value) (l : List Ev) (i : Nat) (w : World) (base : Nat) (ok : Nat → Prop) (HO : evs.Own 32 w base ok v l) (hi : i < l.length) (hlen : l.length ≤ 4096) :
    Calls Try.prog 41 #[v, .int .i64 i, .int .i64 ((i : Int) + 1)] w fun e w' =>
      ∃ v', e = .returned v' ∧ evs.Own 32 w' base ok v' (l.take i ++ l.drop (i + 1)) ∧ Below base w w' := by
  obtain ⟨inner, ho, hs⟩ := HO.segs
  rcases ho.2 with ⟨rfl, h0⟩ | ⟨g, cap, cur, rfl, hbg, hg, hnc, hcm, hcs, hin⟩
  · omega
  · obtain ⟨N, hN⟩ : ∃ N, l.length = N + 1 := ⟨l.length - 1, by omega⟩
    rw [hN] at hnc hin ⊢
    exact delete_row l i N g cap inner cur w base ok hbg hg hN hnc hcm hcs hin (hs.mono (fun k hk => ⟨hk.1, fun h => hk.2 (by rw [h]; rfl)⟩)) (by omega) (by omega)

def numAt (l : List Ev) (number : Int) : Option Nat := l.findIdx? (fun x => x.n == number)
def cancelF (l : List Ev) (next number : Int) : (List Ev × Int) × Bool :=
  if checkF l next ≠ 0 then ((l, next), false) else match numAt l number with | none => ((l, next), false) | some i => ((l.take i ++ l.drop (i + 1), next), true)
/-- What Cancel leaves: a queue, a bool. -/
def CancelPost (w : World) (ok : Nat → Prop) (r : (List Ev × Int) × Bool) (e : Ending) (w' : World) : Prop :=
  ∃ v, e = .returned (.tuple #[.agg #[v, .int .i64 r.1.2], .bool r.2]) ∧ evs.V w' (fun k => ok k ∨ w.heap.size ≤ k) v r.1.1 ∧ Below w.heap.size w w'

set_option maxHeartbeats 1000000 in
theorem cancel_bad (A : Option Addr) (c : Nat) (l : List Ev) (next number : Int) (w : World) (ok : Nat → Prop) (hv0 : evs.V w ok (.slice A l.length c) l) (h : checkF l next ≠ 0) :
    Calls Try.prog 19 #[.agg #[.slice A l.length c, .int .i64 next], .int .i64 number] w (CancelPost w ok ((l, next), false)) := by
  have hu24 := Try.underlying24
  have hr := hv0.C
  have hc : l.length ≤ c := by obtain ⟨A', c', he, hl, -⟩ := hv0; injection he with _ _ h3; omega
  have HV0 := Hd.mk hv0
  have HR := Hd.mk hr
  clear hv0
  have hb1 : (checkF l next != 0) = true := by simp [h]
  clear hr h
  go_enter Try.func19, Try.ntmps19
  go_wp2_with fail
  refine (check_calls A c l next _ (HR.out.below (by go_grown)) hc).mono ?_
  rintro e w1 ⟨rfl, hb⟩
  have hbw : Below w.heap.size w w1 := Below.trans (by go_grown) (hb.mono (by simp; omega))
  have HBW := Hd.mk hbw
  have hsz : w.heap.size + 3 ≤ w1.heap.size := by have := hb.size; simpa using this
  have B0 := (Blk.alloc (Blk.alloc (Blk.new w 24 #[.slice A l.length c, .int .i64 next]) (.cells #[.int .i64 number] 3)) (.cells #[.slice none 0 0, .int .i64 0] 24)).below hb
  have B2 := (Blk.new ((w.alloc _).alloc _) 24 _).below hb
  simp only [World.size_alloc] at B2
  obtain ⟨p0, p1, p2, p3⟩ := B0.f2
  obtain ⟨q0, q1, q2, q3⟩ := B2.f2
  clear hb hbw B0 B2
  go_wp2
  refine bodyPost_ret (v := .tuple #[.agg #[.slice A l.length c, .int .i64 next], .bool false]) (by simp [results, Try.results19, go_sem, q0, q1]) rfl ?_
  have h2 : Below w.heap.size w (((w1.setCell ⟨w.heap.size + 1 + 1, 0, none⟩ (.slice A l.length c)).setCell ⟨w.heap.size + 1 + 1, 1, none⟩ (.int .i64 next))) := by
    have h2 := HBW.out
    repeat (first | (with_reducible exact h2) | (with_reducible refine Below.setCell ?_ (by dsimp only; omega) _))
  exact ⟨_, rfl, (HV0.out.below h2).mono (fun k hk => .inl hk), h2⟩

set_option maxRecDepth 100000 in
set_option maxHeartbeats 4000000 in
theorem cancel_ok (A : Option Addr) (c : Nat) (l : List Ev) (next number : Int) (w : World) (ok : Nat → Prop) (hv0 : evs.V w ok (.slice A l.length c) l) (h : checkF l next = 0) :
    Calls Try.prog 19 #[.agg #[.slice A l.length c, .int .i64 next], .int .i64 number] w (CancelPost w ok (cancelF l next number)) := by
  have hu24 := Try.underlying24
  have hr := hv0.C
  have hc : l.length ≤ c := by obtain ⟨A', c', he, hl, -⟩ := hv0; injection he with _ _ h3; omega
  have HV0 := Hd.mk hv0
  have HR := Hd.mk hr
  clear hv0
  have hb1 : (checkF l next != 0) = false := by simp [h]
  have hF : cancelF l next number = match numAt l number with | none => ((l, next), false) | some i => ((l.take i ++ l.drop (i + 1), next), true) := by rw [cancelF, if_neg (by simp [h])]
  have HF := Hd.mk hF
  have HS := Hd.mk (checkF_small l next h)
  have hll := (checkF_small l next h).1
  clear hr h hF
  go_enter Try.func19, Try.ntmps19
  go_wp2_with fail
  refine (check_calls A c l next _ (HR.out.below (by go_grown)) hc).mono ?_
  rintro e w1 ⟨rfl, hb⟩
  have hbw : Below w.heap.size w w1 := Below.trans (by go_grown) (hb.mono (by simp; omega))
  have HBW := Hd.mk hbw
  have hsz : w.heap.size + 3 ≤ w1.heap.size := by have := hb.size; simpa using this
  have B0 := (Blk.alloc (Blk.alloc (Blk.new w 24 #[.slice A l.length c, .int .i64 next]) (.cells #[.int .i64 number] 3)) (.cells #[.slice none 0 0, .int .i64 0] 24)).below hb
  have B1 := (Blk.alloc (Blk.new (w.alloc _) 3 #[.int .i64 number]) (.cells #[.slice none 0 0, .int .i64 0] 24)).below hb
  have B2 := (Blk.new ((w.alloc _).alloc _) 24 _).below hb
  simp only [World.size_alloc] at B1 B2
  have HB0 := Hd.mk B0
  have HB2 := Hd.mk B2
  obtain ⟨p0, p1, p2, p3⟩ := B0.f2
  obtain ⟨n0, -⟩ := B1.f1
  clear hb hbw B0 B1 B2
  go_wp2_with fail
  refine (indexFunc_calls 40 #[.pointer (some ⟨w.heap.size + 1, 0, none⟩)] (fun x => x.n == number) A l.length c l _ (HR.out.below HBW.out) rfl hc (tells40 _ number _ n0)).mono ?_
  rintro e w2 ⟨rfl, hb⟩
  have hsz2 := hb.size
  have HBW2 := Hd.mk (HBW.out.trans (hb.mono (by omega)))
  have B0 := HB0.out.below hb
  have B2 := HB2.out.below hb
  clear hb p0 p1 p2 p3 n0 HB0 HB2 HBW
  have HB0 := Hd.mk B0
  have HB2 := Hd.mk B2
  obtain ⟨p0, p1, p2, p3⟩ := B0.f2
  obtain ⟨q0, q1, q2, q3⟩ := B2.f2
  clear B0 B2
  rcases hfi : numAt l number with _ | i
  · have hx : idxI (fun x => x.n == number) l = -1 := by rw [numAt] at hfi; rw [idxI, hfi]
    rw [hx]
    have HF2 : Hd (cancelF l next number = ((l, next), false)) := ⟨by rw [HF.out, hfi]⟩
    clear hx hfi HF
    go_wp2
    refine bodyPost_ret (v := .tuple #[.agg #[.slice A l.length c, .int .i64 next], .bool false]) (by simp [results, Try.results19, go_sem, q0, q1]) rfl ?_
    rw [HF2.out]
    have h2 : Below w.heap.size w (((w2.setCell ⟨w.heap.size + 1 + 1, 0, none⟩ (.slice A l.length c)).setCell ⟨w.heap.size + 1 + 1, 1, none⟩ (.int .i64 next))) := by
      have h2 := HBW2.out
      repeat (first | (with_reducible exact h2) | (with_reducible refine Below.setCell ?_ (by dsimp only; omega) _))
    exact ⟨_, rfl, (HV0.out.below h2).mono (fun k hk => .inl hk), h2⟩
  · have hx : idxI (fun x => x.n == number) l = i := by rw [numAt] at hfi; rw [idxI, hfi]
    have hil : i < l.length := by rw [numAt] at hfi; exact (List.findIdx?_eq_some_iff_getElem.1 hfi).1
    obtain ⟨ys, hys⟩ : ∃ ys : List Ev, ys = l.take i ++ l.drop (i + 1) := ⟨_, rfl⟩
    rw [hx]
    have HF2 : Hd (cancelF l next number = ((ys, next), true)) := ⟨by rw [HF.out, hfi, hys]⟩
    have Hys := Hd.mk hys
    clear hx hfi HF hys
    have hw1 : IntKind.i64.wrap ((i : Int) + 1) = (i : Int) + 1 := IntWalk.i64_in _ (by omega)
    go_wp2_with fail
    refine (events_calls A c l _ (HR.out.below HBW2.out) hc HS.out).mono ?_
    rintro e w3 ⟨v5, rfl, hown, hb⟩
    obtain ⟨A5, c5, rfl, hc5, -⟩ := hown.shape
    have hsz3 := hb.size
    have HBW3 := Hd.mk (HBW2.out.trans (hb.mono (by omega)))
    have B0 := HB0.out.below hb
    have B2 := HB2.out.below hb
    have HO := Hd.mk hown
    clear hb hown p0 p1 p2 p3 q0 q1 q2 q3 HB0 HB2 HBW2
    have HI : Hd (Calls Try.prog 41 #[.slice A5 l.length c5, .int .i64 i, .int .i64 ((i : Int) + 1)] w3.drew fun e w' => ∃ v', e = .returned v' ∧ evs.Own 32 w' w2.heap.size (fun k => w2.heap.size ≤ k) v' ys ∧ Below w2.heap.size w3.drew w') := ⟨by
      rw [Hys.out]
      exact delete_calls _ l i _ _ _ HO.out.drew hil hll⟩
    obtain ⟨p0, p1, p2, p3⟩ := B0.f2
    obtain ⟨q0, q1, q2, q3⟩ := B2.f2
    have HB2 := Hd.mk B2
    clear B0 B2
    go_wp2_with fail
    go_region_held3 (fun W => W.cell? ⟨w.heap.size, 1, none⟩ = some (.int .i64 next))
      (first | go_keep | (exact keepB HB7.out p1 (by dsimp only; omega)) | ((try dsimp only); (repeat (first | with_reducible assumption | with_reducible refine keepD ?_ | with_reducible refine keepS ?_ (by dsimp only; omega))); done))
      (first | (go_at_call 41; refine HI.out.mono ?_; rintro e w7 ⟨v', rfl, hown, hb⟩; obtain ⟨A7, c7, rfl, -, -⟩ := hown.shape; have HO7 := Hd.mk hown; have HB7 := Hd.mk hb; have HB27 := Hd.mk ((HB2.out.drew).belowB hb (by omega)); obtain ⟨e0, e1, e2, e3⟩ := HB27.out.f2; clear hown hb))
    go_wp2
    refine bodyPost_ret (v := .tuple #[.agg #[.slice A7 ys.length c7, .int .i64 next], .bool true]) (by simp [results, Try.results19, go_sem, e0, e1]) rfl ?_
    rw [HF2.out]
    refine ⟨_, rfl, ?_, ?_⟩
    · have hv : evs.V w7 (fun k => w2.heap.size ≤ k) _ _ := HO7.out.V.mono (fun k hk => by
        rcases hk with hk | hk
        · exact hk
        · exact (HO7.out.blk k hk).1)
      refine Kd.V.mono (ok := fun k => w2.heap.size ≤ k) ?_ (fun k hk => .inr (by have hk' : w2.heap.size ≤ k := hk; omega))
      repeat (first | (with_reducible exact hv) | (with_reducible refine Kd.V.drew ?_) | (with_reducible refine Kd.V.far ?_ (fun k hk => by have hk' : w2.heap.size ≤ k := hk; dsimp only; omega) _))
    · have h2 : Below w.heap.size w w7 := (HBW3.out.drew).trans (HB7.out.mono (by omega))
      repeat (first | (with_reducible exact h2) | (with_reducible refine Below.drew ?_) | (with_reducible refine Below.setCell ?_ (by dsimp only; omega) _))

theorem cancel_calls (A : Option Addr) (c : Nat) (l : List Ev) (next number : Int) (w : World) (ok : Nat → Prop) (hv0 : evs.V w ok (.slice A l.length c) l) :
    Calls Try.prog 19 #[.agg #[.slice A l.length c, .int .i64 next], .int .i64 number] w (CancelPost w ok (cancelF l next number)) := by
  by_cases h : checkF l next = 0
  · exact cancel_ok A c l next number w ok hv0 h
  · rw [cancelF, if_pos h]
    exact cancel_bad A c l next number w ok hv0 h
end Go.Proofs.Ytnmcbpjhlkpglaa.B
