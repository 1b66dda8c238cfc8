/- What this text holds: the contract of the reference's Pop. -/
import Derived.Test.YtnmcbpjhlkpglaaR4
set_option linter.unusedVariables false
set_option linter.unusedSimpArgs false
namespace Go.Proofs.Ytnmcbpjhlkpglaa.B
open Go.RowKit

set_option maxHeartbeats 1000000 in
theorem refPop_bad (A : Option Addr) (c : Nat) (l : List Ev) (next : Int) (w : World) (hr : evs.C w A l) (hc : l.length ≤ c) (h : checkF l next ≠ 0) :
    Calls Try.prog 25 #[.agg #[.slice A l.length c, .int .i64 next]] w (PopPost w (([], 0), ev0, checkF l next)) := by
  have hu24 := Try.underlying24
  have hu32 := Try.underlying32
  have HR := Hd.mk hr
  have hb1 : (checkF l next != 0) = true := by simp [h]
  clear hr h
  go_enter Try.func25, Try.ntmps25
  go_wp2_with fail
  refine (refCheck_calls A c l next _ (HR.out.below (by go_grown)) hc).mono ?_
  rintro e w1 ⟨rfl, hb⟩
  have hbw : Below w.heap.size w w1 := Below.trans (by go_grown) (hb.mono (by simp; omega))
  have HBW := Hd.mk hbw
  have B1 := (Blk.alloc (Blk.new (w.alloc _) 24 #[.slice none 0 0, .int .i64 0]) (.cells #[.int .i64 0, .int .i64 0, .int .i64 0, .int .i64 0, .slice none 0 0] 32)).below hb
  have B2 := (Blk.new ((w.alloc _).alloc _) 32 _).below hb
  simp only [World.size_alloc] at B1 B2
  obtain ⟨q0, q1, q2, q3⟩ := B1.f2
  obtain ⟨d0, d1, d2, d3, d4, d5, d6, d7, d8, d9⟩ := B2.f5
  clear hb hbw B1 B2
  go_wp2
  refine bodyPost_ret (v := .tuple #[.agg #[.slice none 0 0, .int .i64 0], .agg #[.int .i64 0, .int .i64 0, .int .i64 0, .int .i64 0, .slice none 0 0], .int .i64 (checkF l next)]) (by simp [results, Try.results25, go_sem, q0, q1, d0, d1, d2, d3, d4]) rfl ⟨_, _, rfl, Kd.V.nil, Kd.V.nil, ?_⟩
  have h2 := HBW.out
  repeat (first | (with_reducible exact h2) | (with_reducible refine Below.setCell ?_ (by dsimp only; omega) _))

set_option maxHeartbeats 1000000 in
theorem refPop_none (A : Option Addr) (c : Nat) (l : List Ev) (next : Int) (w : World) (hr : evs.C w A l) (hc : l.length ≤ c) (h : checkF l next = 0) (hl : l.length = 0) :
    Calls Try.prog 25 #[.agg #[.slice A l.length c, .int .i64 next]] w (PopPost w (([], 0), ev0, 7)) := by
  have hu24 := Try.underlying24
  have hu32 := Try.underlying32
  have HR := Hd.mk hr
  have hb1 : (checkF l next != 0) = false := by simp [h]
  have hl1 : ((l.length : Int) == 0) = true := by simp [hl]
  have H := Hd.mk h
  have HL := Hd.mk hl
  clear hr h hl
  go_enter Try.func25, Try.ntmps25
  go_wp2_with fail
  refine (refCheck_calls A c l next _ (HR.out.below (by go_grown)) hc).mono ?_
  rintro e w1 ⟨rfl, hb⟩
  have hbw : Below w.heap.size w w1 := Below.trans (by go_grown) (hb.mono (by simp; omega))
  have HBW := Hd.mk hbw
  have B0 := (Blk.alloc (Blk.alloc (Blk.new w 24 #[.slice A l.length c, .int .i64 next]) (.cells #[.slice none 0 0, .int .i64 0] 24)) (.cells #[.int .i64 0, .int .i64 0, .int .i64 0, .int .i64 0, .slice none 0 0] 32)).below hb
  have B1 := (Blk.alloc (Blk.new (w.alloc _) 24 #[.slice none 0 0, .int .i64 0]) (.cells #[.int .i64 0, .int .i64 0, .int .i64 0, .int .i64 0, .slice none 0 0] 32)).below hb
  have B2 := (Blk.new ((w.alloc _).alloc _) 32 _).below hb
  simp only [World.size_alloc] at B1 B2
  obtain ⟨p0, p1, p2, p3⟩ := B0.f2
  obtain ⟨q0, q1, q2, q3⟩ := B1.f2
  obtain ⟨d0, d1, d2, d3, d4, d5, d6, d7, d8, d9⟩ := B2.f5
  clear hb hbw B0 B1 B2
  go_wp2
  refine bodyPost_ret (v := .tuple #[.agg #[.slice none 0 0, .int .i64 0], .agg #[.int .i64 0, .int .i64 0, .int .i64 0, .int .i64 0, .slice none 0 0], .int .i64 7]) (by simp [results, Try.results25, go_sem, q0, q1, d0, d1, d2, d3, d4]) rfl ⟨_, _, rfl, Kd.V.nil, Kd.V.nil, ?_⟩
  have h2 := HBW.out
  repeat (first | (with_reducible exact h2) | (with_reducible refine Below.setCell ?_ (by dsimp only; omega) _))

set_option maxRecDepth 100000 in
set_option maxHeartbeats 2000000 in
theorem refPop_some (A : Option Addr) (c : Nat) (l : List Ev) (next : Int) (w : World) (hr : evs.C w A l) (hc : l.length ≤ c) (h : checkF l next = 0) (hl : 0 < l.length) :
    Calls Try.prog 25 #[.agg #[.slice A l.length c, .int .i64 next]] w (PopPost w ((l.drop 1, next), nth ev0 l 0, 0)) := by
  have hu24 := Try.underlying24
  have hu32 := Try.underlying32
  have HR := Hd.mk hr
  have hb1 : (checkF l next != 0) = false := by simp [h]
  have hl1 : ((l.length : Int) == 0) = false := by simp; intro h; simp [h] at hl
  have hl2 : (0 : Int) < l.length := by omega
  have hl3 : (1 : Int) ≤ l.length := by omega
  have HS := Hd.mk (checkF_small l next h)
  clear hr h
  obtain ⟨M, hM⟩ : ∃ M, M = l.drop 1 := ⟨_, rfl⟩
  obtain ⟨x, hx⟩ : ∃ x, x = nth ev0 l 0 := ⟨_, rfl⟩
  rw [← hM, ← hx]
  have HM := Hd.mk hM; have HX := Hd.mk hx
  clear hM hx
  rcases x with ⟨xt, xn, xk, xd, xb⟩
  go_enter Try.func25, Try.ntmps25
  go_wp2_with fail
  refine (refCheck_calls A c l next _ (HR.out.below (by go_grown)) hc).mono ?_
  rintro e w1 ⟨rfl, hb⟩
  have hbw : Below w.heap.size w w1 := Below.trans (by go_grown) (hb.mono (by simp; omega))
  have HBW := Hd.mk hbw
  have hsz : w.heap.size + 3 ≤ w1.heap.size := by have := hb.size; simpa using this
  have B0 := (Blk.alloc (Blk.alloc (Blk.new w 24 #[.slice A l.length c, .int .i64 next]) (.cells #[.slice none 0 0, .int .i64 0] 24)) (.cells #[.int .i64 0, .int .i64 0, .int .i64 0, .int .i64 0, .slice none 0 0] 32)).below hb
  have B1 := (Blk.alloc (Blk.new (w.alloc _) 24 #[.slice none 0 0, .int .i64 0]) (.cells #[.int .i64 0, .int .i64 0, .int .i64 0, .int .i64 0, .slice none 0 0] 32)).below hb
  have B2 := (Blk.new ((w.alloc _).alloc _) 32 _).below hb
  simp only [World.size_alloc] at B1 B2
  have HB0 := Hd.mk B0
  have HB1 := Hd.mk B1
  have HB2 := Hd.mk B2
  obtain ⟨p0, p1, p2, p3⟩ := B0.f2
  clear hb hbw B0 B1 B2
  obtain ⟨ad, A4, c4, ea, x0, x1, x2, x3, x4, hx5, hx6⟩ := evs_get (HR.out.below HBW.out) 0 hl
  cases ea
  simp only [Nat.zero_mul, Kd.add_zero] at x0 x1 x2 x3 x4
  have hxl : (nth ev0 l 0).body.length ≤ 4096 := HS.out.2 _ (nth_mem ev0 l 0 hl)
  have hbd : ad.block < w.heap.size := by
    obtain ⟨ad', _, _, e, y, _⟩ := evs_get HR.out 0 hl
    cases e
    have := World.block_lt_of_cell? _ _ y
    simpa [Kd.add_zero] using this
  rw [← HX.out] at x0 x1 x2 x3 x4 hx5 hx6 hxl
  dsimp only at x0 x1 x2 x3 x4 hx5 hx6 hxl
  have K1 : Hd (Calls Try.prog 43 #[.agg #[.slice (some ad) l.length c, .int .i64 next], .int .i64 0] w1.drew fun e w' => ∃ v, e = .returned (.agg #[v, .int .i64 next]) ∧ evs.V w' (fun k => w1.drew.heap.size ≤ k) v M ∧ Below w1.drew.heap.size w1.drew w') := ⟨by
    have := refWithout_calls (some ad) c l next 0 w1.drew (HR.out.below HBW.out.drew) hc HS.out
    rw [HM.out]
    exact this⟩
  have K2 : Hd (∀ W, Below w1.heap.size w1 W → Calls Try.prog 39 #[.agg #[.int .i64 xt, .int .i64 xn, .int .i64 xk, .int .i64 xd, .slice A4 xb.length c4]] W fun e w' => ∃ v, e = .returned (.agg #[.int .i64 xt, .int .i64 xn, .int .i64 xk, .int .i64 xd, v]) ∧ (ints .u8).Own 5 w' W.heap.size (fun _ => False) v xb ∧ Below W.heap.size W w') := ⟨fun W hW => refCopy_calls ⟨xt, xn, xk, xd, xb⟩ A4 c4 _ (hx6.below hW) hx5 (Nat.le_trans hxl (by decide))⟩
  have hne0 : ad.block ≠ w.heap.size := by omega
  have hne1 : ad.block ≠ w.heap.size + 1 := by omega
  have hne2 : ad.block ≠ w.heap.size + 1 + 1 := by omega
  clear hx5 hx6 HB0
  go_wp2_with fail
  go_region_held3 (fun W => W.cell? ⟨w.heap.size, 0, none⟩ = some (.slice (some ad) l.length c) ∧ W.cell? ⟨w.heap.size, 1, none⟩ = some (.int .i64 next) ∧ W.cell? ad = some (.int .i64 xt) ∧ W.cell? ⟨ad.block, ad.off + 1, none⟩ = some (.int .i64 xn) ∧ W.cell? ⟨ad.block, ad.off + 2, none⟩ = some (.int .i64 xk) ∧ W.cell? ⟨ad.block, ad.off + 3, none⟩ = some (.int .i64 xd) ∧ W.cell? ⟨ad.block, ad.off + 4, none⟩ = some (.slice A4 xb.length c4))
    (first | with_reducible exact ⟨p0, p1, x0, x1, x2, x3, x4⟩ | with_reducible exact ⟨keepD p0, keepD p1, keepD x0, keepD x1, keepD x2, keepD x3, keepD x4⟩ | with_reducible exact ⟨p0', p1', x0', x1', x2', x3', x4'⟩ | with_reducible exact ⟨p0'', p1'', x0'', x1'', x2'', x3'', x4''⟩ | (refine ⟨?_, ?_, ?_, ?_, ?_, ?_, ?_⟩ <;> (repeat (first | with_reducible assumption | with_reducible refine keepD ?_ | with_reducible refine keepS ?_ (by dsimp only; omega))) <;> done))
    (first
      | (go_at_call 43; refine (K1.out).mono ?_; rintro e w7 ⟨v7, rfl, hv, hb⟩; obtain ⟨A7, c7, rfl, -, -⟩ := hv.reads; have p0' := keep hb (by exact p0); have p1' := keep hb (by exact p1); have x0' := keep hb (by exact x0); have x1' := keep hb (by exact x1); have x2' := keep hb (by exact x2); have x3' := keep hb (by exact x3); have x4' := keep hb (by exact x4); have HV7 := Hd.mk hv; have HB7 : Hd (Below w1.heap.size w1 w7) := ⟨(Below.drew (Below.refl _ _)).trans hb⟩; clear hv hb)
      | (go_at_call 39; refine (K2.out _ HB7.out).mono ?_; rintro e w8 ⟨v8, rfl, hown, hb⟩; obtain ⟨A8, c8, rfl, -, -⟩ := hown.shape; have p0'' := keep hb p0'; have p1'' := keep hb p1'; have x0'' := keep hb x0'; have x1'' := keep hb x1'; have x2'' := keep hb x2'; have x3'' := keep hb x3'; have x4'' := keep hb x4'; have HV8 := Hd.mk (HV7.out.below hb); have HO8 := Hd.mk hown; have HB8 : Hd (Below w1.heap.size w1 w8) := ⟨HB7.out.trans (hb.mono HB7.out.size)⟩; have hs7 := HB7.out.size; have HQ8 := Hd.mk (HB1.out.below HB8.out); have HD8 := Hd.mk (HB2.out.below HB8.out); obtain ⟨q0, q1, q2, q3⟩ := HQ8.out.f2; obtain ⟨d0, d1, d2, d3, d4, d5, d6, d7, d8, d9⟩ := HD8.out.f5; clear hown hb))
  all_goals
    clear x0 x1 x2 x3 x4 p0 p1 x0' x1' x2' x3' x4' p0' p1' x0'' x1'' x2'' x3'' x4'' p0'' p1''
    go_wp2
    refine bodyPost_ret (v := .tuple #[.agg #[.slice A7 M.length c7, .int .i64 next], .agg #[.int .i64 xt, .int .i64 xn, .int .i64 xk, .int .i64 xd, .slice A8 xb.length c8], .int .i64 0]) (by simp [results, Try.results25, go_sem, q0, q1, d0, d1, d2, d3, d4]) rfl ⟨_, _, rfl, ?_, ?_, ?_⟩
    · have hv : evs.V w8 (fun k => w1.heap.size ≤ k) (.slice A7 M.length c7) M := HV8.out
      refine Kd.V.mono (ok := fun k => w1.heap.size ≤ k) ?_ (fun k hk => by have hk' : w1.heap.size ≤ k := hk; omega)
      repeat (first | (with_reducible exact hv) | (with_reducible refine Kd.V.drew ?_) | (with_reducible refine Kd.V.far ?_ (fun k hk => by have hk' : w1.heap.size ≤ k := hk; dsimp only; omega) _))
    · have hv : (ints .u8).V w8 (fun k => w1.heap.size ≤ k) (.slice A8 xb.length c8) xb := HO8.out.V.mono (fun k hk => by
        rcases hk with hk | hk
        · exact hk.elim
        · have := (HO8.out.blk k hk).1; omega)
      refine Kd.V.mono (ok := fun k => w1.heap.size ≤ k) ?_ (fun k hk => by have hk' : w1.heap.size ≤ k := hk; omega)
      repeat (first | (with_reducible exact hv) | (with_reducible refine Kd.V.drew ?_) | (with_reducible refine Kd.V.far ?_ (fun k hk => by have hk' : w1.heap.size ≤ k := hk; dsimp only; omega) _))
    · have h2 : Below w.heap.size w w8 := HBW.out.trans (HB8.out.mono (by omega))
      repeat (first | (with_reducible exact h2) | (with_reducible refine Below.drew ?_) | (with_reducible refine Below.setCell ?_ (by dsimp only; omega) _))

theorem refPop_calls (A : Option Addr) (c : Nat) (l : List Ev) (next : Int) (w : World) (hr : evs.C w A l) (hc : l.length ≤ c) :
    Calls Try.prog 25 #[.agg #[.slice A l.length c, .int .i64 next]] w (PopPost w (popF l next)) := by
  by_cases h : checkF l next = 0
  · by_cases hl : l.length = 0
    · rw [popF, if_neg (by simp [h]), if_pos hl]
      exact refPop_none A c l next w hr hc h hl
    · rw [popF, if_neg (by simp [h]), if_neg hl]
      exact refPop_some A c l next w hr hc h (by omega)
  · rw [popF, if_pos h]
    exact refPop_bad A c l next w hr hc h
end Go.Proofs.Ytnmcbpjhlkpglaa.B
