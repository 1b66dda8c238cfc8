/- What this text holds: the contract of eventqueue.Pop. -/
import Derived.Test.YtnmcbpjhlkpglaaG1
set_option linter.unusedVariables false
set_option linter.unusedSimpArgs false
namespace Go.Proofs.Ytnmcbpjhlkpglaa.B
open Go.RowKit

def popF (l : List Ev) (next : Int) : (List Ev × Int) × Ev × Int :=
  if checkF l next ≠ 0 then (([], 0), ev0, checkF l next) else if l.length = 0 then (([], 0), ev0, 7) else ((l.drop 1, next), nth ev0 l 0, 0)
/-- What Pop leaves: a queue, an event, an error. -/
def PopPost (w : World) (r : (List Ev × Int) × Ev × Int) (e : Ending) (w' : World) : Prop :=
  ∃ v vb, e = .returned (.tuple #[.agg #[v, .int .i64 r.1.2], .agg #[.int .i64 r.2.1.t, .int .i64 r.2.1.n, .int .i64 r.2.1.kd, .int .i64 r.2.1.dst, vb], .int .i64 r.2.2]) ∧
    evs.V w' (fun k => w.heap.size ≤ k) v r.1.1 ∧ (ints .u8).V w' (fun k => w.heap.size ≤ k) vb r.2.1.body ∧ Below w.heap.size w w'

set_option maxHeartbeats 1000000 in
theorem pop_bad (A : Option Addr) (c : Nat) (l : List Ev) (next : Int) (w : World) (hr : evs.C w A l) (hc : l.length ≤ c) (h : checkF l next ≠ 0) :
    Calls Try.prog 22 #[.agg #[.slice A l.length c, .int .i64 next]] w (PopPost w (([], 0), ev0, checkF l next)) := by
  have hu24 := Try.underlying24
  have hu32 := Try.underlying32
  have HR := Hd.mk hr
  have hb1 : (checkF l next != 0) = true := by simp [h]
  clear hr h
  go_enter Try.func22, Try.ntmps22
  go_wp2_with fail
  refine (check_calls A c l next _ (HR.out.below (by go_grown)) hc).mono ?_
  rintro e w1 ⟨rfl, hb⟩
  have hbw : Below w.heap.size w w1 := Below.trans (by go_grown) (hb.mono (by simp; omega))
  have HBW := Hd.mk hbw
  have B1 := (Blk.alloc (Blk.new (w.alloc _) 24 #[.slice none 0 0, .int .i64 0]) (.cells #[.int .i64 0, .int .i64 0, .int .i64 0, .int .i64 0, .slice none 0 0] 32)).below hb
  have B2 := (Blk.new ((w.alloc _).alloc _) 32 _).below hb
  simp only [World.size_alloc] at B1 B2
  obtain ⟨q0, q1, q2, q3⟩ := B1.f2
  obtain ⟨d0, d1, d2, d3, d4, d5, d6, d7, d8, d9⟩ := B2.f5
  clear hb hbw B1 B2
  go_wp2
  refine bodyPost_ret (v := .tuple #[.agg #[.slice none 0 0, .int .i64 0], .agg #[.int .i64 0, .int .i64 0, .int .i64 0, .int .i64 0, .slice none 0 0], .int .i64 (checkF l next)]) (by simp [results, Try.results22, go_sem, q0, q1, d0, d1, d2, d3, d4]) rfl ⟨_, _, rfl, Kd.V.nil, Kd.V.nil, ?_⟩
  have h2 := HBW.out
  repeat (first | (with_reducible exact h2) | (with_reducible refine Below.setCell ?_ (by dsimp only; omega) _))

set_option maxHeartbeats 1000000 in
theorem pop_none (A : Option Addr) (c : Nat) (l : List Ev) (next : Int) (w : World) (hr : evs.C w A l) (hc : l.length ≤ c) (h : checkF l next = 0) (hl : l.length = 0) :
    Calls Try.prog 22 #[.agg #[.slice A l.length c, .int .i64 next]] w (PopPost w (([], 0), ev0, 7)) := by
  have hu24 := Try.underlying24
  have hu32 := Try.underlying32
  have HR := Hd.mk hr
  have hb1 : (checkF l next != 0) = false := by simp [h]
  have hl1 : ((l.length : Int) == 0) = true := by simp [hl]
  have H := Hd.mk h
  have HL := Hd.mk hl
  clear hr h hl
  go_enter Try.func22, Try.ntmps22
  go_wp2_with fail
  refine (check_calls A c l next _ (HR.out.below (by go_grown)) hc).mono ?_
  rintro e w1 ⟨rfl, hb⟩
  have hbw : Below w.heap.size w w1 := Below.trans (by go_grown) (hb.mono (by simp; omega))
  have HBW := Hd.mk hbw
  have B0 := (Blk.alloc (Blk.alloc (Blk.new w 24 #[.slice A l.length c, .int .i64 next]) (.cells #[.slice none 0 0, .int .i64 0] 24)) (.cells #[.int .i64 0, .int .i64 0, .int .i64 0, .int .i64 0, .slice none 0 0] 32)).below hb
  have B1 := (Blk.alloc (Blk.new (w.alloc _) 24 #[.slice none 0 0, .int .i64 0]) (.cells #[.int .i64 0, .int .i64 0, .int .i64 0, .int .i64 0, .slice none 0 0] 32)).below hb
  have B2 := (Blk.new ((w.alloc _).alloc _) 32 _).below hb
  simp only [World.size_alloc] at B1 B2
  obtain ⟨p0, p1, p2, p3⟩ := B0.f2
  obtain ⟨q0, q1, q2, q3⟩ := B1.f2
  obtain ⟨d0, d1, d2, d3, d4, d5, d6, d7, d8, d9⟩ := B2.f5
  clear hb hbw B0 B1 B2
  go_wp2
  refine bodyPost_ret (v := .tuple #[.agg #[.slice none 0 0, .int .i64 0], .agg #[.int .i64 0, .int .i64 0, .int .i64 0, .int .i64 0, .slice none 0 0], .int .i64 7]) (by simp [results, Try.results22, go_sem, q0, q1, d0, d1, d2, d3, d4]) rfl ⟨_, _, rfl, Kd.V.nil, Kd.V.nil, ?_⟩
  have h2 := HBW.out
  repeat (first | (with_reducible exact h2) | (with_reducible refine Below.setCell ?_ (by dsimp only; omega) _))

set_option maxRecDepth 100000 in
set_option maxHeartbeats 2000000 in
theorem pop_some (A : Option Addr) (c : Nat) (l : List Ev) (next : Int) (w : World) (hr : evs.C w A l) (hc : l.length ≤ c) (h : checkF l next = 0) (hl : 0 < l.length) :
    Calls Try.prog 22 #[.agg #[.slice A l.length c, .int .i64 next]] w (PopPost w ((l.drop 1, next), nth ev0 l 0, 0)) := by
  have hu24 := Try.underlying24
  have hu32 := Try.underlying32
  have HR := Hd.mk hr
  have hb1 : (checkF l next != 0) = false := by simp [h]
  have hl1 : ((l.length : Int) == 0) = false := by simp; intro h; simp [h] at hl
  have hl2 : (0 : Int) < l.length := by omega
  have hl3 : (1 : Int) ≤ l.length := by omega
  have HS := Hd.mk (checkF_small l next h)
  clear hr h
  go_enter Try.func22, Try.ntmps22
  go_wp2_with fail
  refine (check_calls A c l next _ (HR.out.below (by go_grown)) hc).mono ?_
  rintro e w1 ⟨rfl, hb⟩
  have hbw : Below w.heap.size w w1 := Below.trans (by go_grown) (hb.mono (by simp; omega))
  have HBW := Hd.mk hbw
  have hsz : w.heap.size + 3 ≤ w1.heap.size := by have := hb.size; simpa using this
  have B0 := (Blk.alloc (Blk.alloc (Blk.new w 24 #[.slice A l.length c, .int .i64 next]) (.cells #[.slice none 0 0, .int .i64 0] 24)) (.cells #[.int .i64 0, .int .i64 0, .int .i64 0, .int .i64 0, .slice none 0 0] 32)).below hb
  have B1 := (Blk.alloc (Blk.new (w.alloc _) 24 #[.slice none 0 0, .int .i64 0]) (.cells #[.int .i64 0, .int .i64 0, .int .i64 0, .int .i64 0, .slice none 0 0] 32)).below hb
  have B2 := (Blk.new ((w.alloc _).alloc _) 32 _).below hb
  simp only [World.size_alloc] at B1 B2
  have HB0 := Hd.mk B0
  have HB1 := Hd.mk B1
  have HB2 := Hd.mk B2
  obtain ⟨p0, p1, p2, p3⟩ := B0.f2
  clear hb hbw B0 B1 B2
  go_wp2_with fail
  refine (events_calls A c l _ (HR.out.below HBW.out) hc HS.out).mono ?_
  rintro e w2 ⟨v5, rfl, hown, hb⟩
  obtain ⟨A5, c5, rfl, hc5, -⟩ := hown.shape
  have hv : evs.V w2 (fun k => w1.heap.size ≤ k) (.slice A5 l.length c5) l := hown.V.mono (fun k hk => hk.elim id (fun h => (hown.blk k h).1))
  have HV := Hd.mk hv
  have HKB := Hd.mk hown.blk
  have hsz2 := hb.size
  have HBW2 := Hd.mk (HBW.out.trans (hb.mono (by omega)))
  have B0 := HB0.out.below hb
  have B1 := HB1.out.below hb
  have B2 := HB2.out.below hb
  clear hb hown p0 p1 p2 p3 HB0 HB1 HB2 HBW
  obtain ⟨p0, p1, p2, p3⟩ := B0.f2
  obtain ⟨q0, q1, q2, q3⟩ := B1.f2
  obtain ⟨d0, d1, d2, d3, d4, d5, d6, d7, d8, d9⟩ := B2.f5
  obtain ⟨ad, A4, c4, e0, x0, x1, x2, x3, x4, hvb⟩ := evs_elem hv 0 hl
  subst e0
  simp only [Nat.zero_mul, Kd.add_zero] at x0 x1 x2 x3 x4
  have hbd := (HKB.out ad.block rfl).1
  have hne0 : ad.block ≠ w.heap.size := by omega
  have hne1 : ad.block ≠ w.heap.size + 1 := by omega
  have hne2 : ad.block ≠ w.heap.size + 1 + 1 := by omega
  obtain ⟨A6, hcut, hA6⟩ := cut_from (P := Try.prog) 22 32 .i64 5 Try.underlying22 size32 (some ad) l.length c5 1 (by omega)
  have hcut1 : ∀ W : World, (Instr.slice 22 (.slice (some ad) l.length c5) (some (.int .i64 1)) none none).run Try.prog W = .ok (.slice A6 (l.length - 1) (c5 - 1)) W := fun W => hcut W
  clear hcut
  have HVB := Hd.mk hvb
  have HA6 := Hd.mk hA6
  clear hv hvb hA6 B0 B1 B2
  go_wp2_with fail
  go_region_held3 (fun W => W.cell? ⟨w.heap.size, 1, none⟩ = some (.int .i64 next) ∧ W.cell? ad = some (.int .i64 (nth ev0 l 0).t) ∧ W.cell? ⟨ad.block, ad.off + 1, none⟩ = some (.int .i64 (nth ev0 l 0).n) ∧ W.cell? ⟨ad.block, ad.off + 2, none⟩ = some (.int .i64 (nth ev0 l 0).kd) ∧ W.cell? ⟨ad.block, ad.off + 3, none⟩ = some (.int .i64 (nth ev0 l 0).dst) ∧ W.cell? ⟨ad.block, ad.off + 4, none⟩ = some (.slice A4 (nth ev0 l 0).body.length c4))
    (first | (refine ⟨?_, ?_, ?_, ?_, ?_, ?_⟩ <;> (repeat (first | with_reducible assumption | with_reducible refine keepD ?_ | with_reducible refine keepS ?_ (by dsimp only; omega))); done) | go_keep)
    (first | fail)
  go_wp2
  refine bodyPost_ret (v := .tuple #[.agg #[.slice A6 (l.length - 1) (c5 - 1), .int .i64 next], .agg #[.int .i64 (nth ev0 l 0).t, .int .i64 (nth ev0 l 0).n, .int .i64 (nth ev0 l 0).kd, .int .i64 (nth ev0 l 0).dst, .slice A4 (nth ev0 l 0).body.length c4], .int .i64 0]) (by simp [results, Try.results22, go_sem, q0, q1, d0, d1, d2, d3, d4]) rfl ⟨_, _, rfl, ?_, ?_, ?_⟩
  · have hv := HV.out.drop 1 (by omega)
    have hA : A6 = if c5 = 1 then some ad else (some ad).map (·.add (1 * evs.sz)) := HA6.out
    rw [← hA] at hv
    refine Kd.V.mono (ok := fun k => w1.heap.size ≤ k) ?_ (fun k hk => by have hk' : w1.heap.size ≤ k := hk; omega)
    repeat (first | (with_reducible exact hv) | (with_reducible refine Kd.V.drew ?_) | (with_reducible refine Kd.V.far ?_ (fun k hk => by have hk' : w1.heap.size ≤ k := hk; dsimp only; omega) _))
  · have hv := HVB.out
    refine Kd.V.mono (ok := fun k => w1.heap.size ≤ k) ?_ (fun k hk => by have hk' : w1.heap.size ≤ k := hk; omega)
    repeat (first | (with_reducible exact hv) | (with_reducible refine Kd.V.drew ?_) | (with_reducible refine Kd.V.far ?_ (fun k hk => by have hk' : w1.heap.size ≤ k := hk; dsimp only; omega) _))
  · have h2 := HBW2.out
    repeat (first | (with_reducible exact h2) | (with_reducible refine Below.drew ?_) | (with_reducible refine Below.setCell ?_ (by dsimp only; omega) _))

theorem pop_calls (A : Option Addr) (c : Nat) (l : List Ev) (next : Int) (w : World) (hr : evs.C w A l) (hc : l.length ≤ c) :
    Calls Try.prog 22 #[.agg #[.slice A l.length c, .int .i64 next]] w (PopPost w (popF l next)) := by
  by_cases h : checkF l next = 0
  · by_cases hl : l.length = 0
    · rw [popF, if_neg (by simp [h]), if_pos hl]
      exact pop_none A c l next w hr hc h hl
    · rw [popF, if_neg (by simp [h]), if_neg hl]
      exact pop_some A c l next w hr hc h (by omega)
  · rw [popF, if_pos h]
    exact pop_bad A c l next w hr hc h
end Go.Proofs.Ytnmcbpjhlkpglaa.B
