/- What this text holds: the contract of eventqueue.First. -/
import Derived.Test.YtnmcbpjhlkpglaaF9
set_option linter.unusedVariables false
set_option linter.unusedSimpArgs false
namespace Go.Proofs.Ytnmcbpjhlkpglaa.B
open Go.RowKit

def firstF (l : List Ev) (next : Int) : Ev × Bool := if checkF l next ≠ 0 ∨ l.length = 0 then (ev0, false) else (nth ev0 l 0, true)
/-- What First leaves: an event, a bool. -/
def FirstPost (w : World) (r : Ev × Bool) (e : Ending) (w' : World) : Prop :=
  ∃ v, e = .returned (.tuple #[.agg #[.int .i64 r.1.t, .int .i64 r.1.n, .int .i64 r.1.kd, .int .i64 r.1.dst, v], .bool r.2]) ∧ (ints .u8).V w' (fun k => w.heap.size ≤ k) v r.1.body ∧ Below w.heap.size w w'

set_option maxHeartbeats 1000000 in
theorem first_none (A : Option Addr) (c : Nat) (l : List Ev) (next : Int) (w : World) (hr : evs.C w A l) (hc : l.length ≤ c) (h : checkF l next ≠ 0 ∨ l.length = 0) :
    Calls Try.prog 23 #[.agg #[.slice A l.length c, .int .i64 next]] w (FirstPost w (ev0, false)) := by
  have hu24 := Try.underlying24
  have hu32 := Try.underlying32
  have HR := Hd.mk hr
  clear hr
  by_cases h1 : checkF l next = 0
  · have hb1 : (checkF l next != 0) = false := by simp [h1]
    have hl0 : l.length = 0 := by rcases h with h | h; exact absurd h1 h; exact h
    have hl1 : ((l.length : Int) == 0) = true := by simp [hl0]
    have H1 := Hd.mk h1
    have HL := Hd.mk hl0
    clear h h1 hl0
    go_enter Try.func23, Try.ntmps23
    go_wp2_with fail
    refine (check_calls A c l next _ (HR.out.below (by go_grown)) hc).mono ?_
    rintro e w1 ⟨rfl, hb⟩
    have Hb := Hd.mk hb
    have B0 := (Blk.alloc (Blk.new w 24 #[.slice A l.length c, .int .i64 next]) _).below hb
    have B1 := (Blk.new (w.alloc _) 32 _).below hb
    simp only [World.size_alloc] at B1
    obtain ⟨q0, q1, -, -⟩ := B0.f2
    obtain ⟨d0, d1, d2, d3, d4, d5, d6, d7, d8, d9⟩ := B1.f5
    clear hb B0 B1
    go_wp2
    refine bodyPost_ret (v := .tuple #[.agg #[.int .i64 0, .int .i64 0, .int .i64 0, .int .i64 0, .slice none 0 0], .bool false]) (by simp [results, Try.results23, go_sem, d0, d1, d2, d3, d4]) rfl ⟨_, rfl, Kd.V.nil, ?_⟩
    have h := Hb.out
    simp only [World.size_alloc] at h
    have h2 : Below w.heap.size w w1 := Below.trans (by go_grown) (h.mono (by omega))
    clear h
    repeat (first | (with_reducible exact h2) | (with_reducible refine Below.setCell ?_ (by dsimp only; omega) _))
  · have hb1 : (checkF l next != 0) = true := by simp [h1]
    clear h h1
    go_enter Try.func23, Try.ntmps23
    go_wp2_with fail
    refine (check_calls A c l next _ (HR.out.below (by go_grown)) hc).mono ?_
    rintro e w1 ⟨rfl, hb⟩
    have Hb := Hd.mk hb
    have B0 := (Blk.alloc (Blk.new w 24 #[.slice A l.length c, .int .i64 next]) _).below hb
    have B1 := (Blk.new (w.alloc _) 32 _).below hb
    simp only [World.size_alloc] at B1
    obtain ⟨q0, q1, -, -⟩ := B0.f2
    obtain ⟨d0, d1, d2, d3, d4, d5, d6, d7, d8, d9⟩ := B1.f5
    clear hb B0 B1
    go_wp2
    refine bodyPost_ret (v := .tuple #[.agg #[.int .i64 0, .int .i64 0, .int .i64 0, .int .i64 0, .slice none 0 0], .bool false]) (by simp [results, Try.results23, go_sem, d0, d1, d2, d3, d4]) rfl ⟨_, rfl, Kd.V.nil, ?_⟩
    have h := Hb.out
    simp only [World.size_alloc] at h
    have h2 : Below w.heap.size w w1 := Below.trans (by go_grown) (h.mono (by omega))
    clear h
    repeat (first | (with_reducible exact h2) | (with_reducible refine Below.setCell ?_ (by dsimp only; omega) _))

set_option maxHeartbeats 1000000 in
theorem first_some (A : Option Addr) (c : Nat) (l : List Ev) (next : Int) (w : World) (hr : evs.C w A l) (hc : l.length ≤ c) (h : checkF l next = 0) (hl : 0 < l.length) :
    Calls Try.prog 23 #[.agg #[.slice A l.length c, .int .i64 next]] w (FirstPost w (nth ev0 l 0, true)) := by
  have hu24 := Try.underlying24
  have hu32 := Try.underlying32
  have HR := Hd.mk hr
  have hb1 : (checkF l next != 0) = false := by simp [h]
  have hl1 : ((l.length : Int) == 0) = false := by simp; intro h; simp [h] at hl
  have hl2 : (0 : Int) < l.length := by omega
  have hb4 : (nth ev0 l 0).body.length ≤ 4096 := (checkF_small l next h).2 _ (nth_mem ev0 l 0 hl)
  clear h
  obtain ⟨ad, A4, c4, e0, hx0, hx1, hx2, hx3, hx4, hl4, hi4⟩ := evs_get hr 0 hl
  subst e0
  clear hr
  simp only [Nat.zero_mul, Kd.add_zero] at hx0 hx1 hx2 hx3 hx4
  have X0 := Hd.mk hx0
  have X1 := Hd.mk hx1
  have X2 := Hd.mk hx2
  have X3 := Hd.mk hx3
  have X4 := Hd.mk hx4
  have HI4 := Hd.mk hi4
  have HL4 := Hd.mk hl4
  clear hx0 hx1 hx2 hx3 hx4 hl4 hi4
  go_enter Try.func23, Try.ntmps23
  go_wp2_with fail
  refine (check_calls (some ad) c l next _ (HR.out.below (by go_grown)) hc).mono ?_
  rintro e w1 ⟨rfl, hb⟩
  have hbw : Below w.heap.size w w1 := Below.trans (by go_grown) (hb.mono (by simp; omega))
  have HBW := Hd.mk hbw
  have B0 := (Blk.alloc (Blk.new w 24 #[.slice (some ad) l.length c, .int .i64 next]) _).below hb
  have B1 := (Blk.new (w.alloc _) 32 _).below hb
  have hsz : w.heap.size + 2 ≤ w1.heap.size := by have := hb.size; simpa using this
  simp only [World.size_alloc] at B1
  obtain ⟨q0, q1, -, -⟩ := B0.f2
  have HB1 := Hd.mk B1
  have hx0 := keep hbw X0.out
  have hx1 := keep hbw X1.out
  have hx2 := keep hbw X2.out
  have hx3 := keep hbw X3.out
  have hx4 := keep hbw X4.out
  clear hb B0 B1 hbw X0 X1 X2 X3 X4
  go_wp2_with fail
  refine (copied_calls (nth ev0 l 0) A4 c4 _ (HI4.out.below HBW.out) HL4.out (by omega)).mono ?_
  rintro e w2 ⟨v4, rfl, hown, hb⟩
  obtain ⟨A1, c1, rfl, -, -⟩ := hown.shape
  have HO := Hd.mk hown
  have HBW2 := Hd.mk (HBW.out.trans (hb.mono (by omega)))
  have B1 := HB1.out.below hb
  obtain ⟨d0, d1, d2, d3, d4, d5, d6, d7, d8, d9⟩ := B1.f5
  clear hb hown B1 q0 q1 hx0 hx1 hx2 hx3 hx4
  go_wp2
  refine bodyPost_ret (v := .tuple #[.agg #[.int .i64 (nth ev0 l 0).t, .int .i64 (nth ev0 l 0).n, .int .i64 (nth ev0 l 0).kd, .int .i64 (nth ev0 l 0).dst, .slice A1 (nth ev0 l 0).body.length c1], .bool true]) (by simp [results, Try.results23, go_sem, d0, d1, d2, d3, d4]) rfl ⟨_, rfl, ?_, ?_⟩
  · have hv : (ints .u8).V w2 (fun k => w1.heap.size ≤ k) _ _ := HO.out.V.mono (fun k hk => by
      rcases hk with hk | hk
      · exact hk.elim
      · exact (HO.out.blk k hk).1)
    refine Kd.V.mono (ok := fun k => w1.heap.size ≤ k) ?_ (fun k hk => by have hk' : w1.heap.size ≤ k := hk; omega)
    repeat (first | (with_reducible exact hv) | (with_reducible refine Kd.V.far ?_ (fun k hk => by have hk' : w1.heap.size ≤ k := hk; dsimp only; omega) _))
  · have h2 := HBW2.out
    repeat (first | (with_reducible exact h2) | (with_reducible refine Below.setCell ?_ (by dsimp only; omega) _))

theorem first_calls (A : Option Addr) (c : Nat) (l : List Ev) (next : Int) (w : World) (hr : evs.C w A l) (hc : l.length ≤ c) :
    Calls Try.prog 23 #[.agg #[.slice A l.length c, .int .i64 next]] w (FirstPost w (firstF l next)) := by
  by_cases h : checkF l next ≠ 0 ∨ l.length = 0
  · rw [firstF, if_pos h]
    exact first_none A c l next w hr hc h
  · rw [firstF, if_neg h]
    exact first_some A c l next w hr hc (by omega) (by omega)
end Go.Proofs.Ytnmcbpjhlkpglaa.B
