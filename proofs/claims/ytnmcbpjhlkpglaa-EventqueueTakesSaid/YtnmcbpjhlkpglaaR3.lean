/- What this text holds: the contract of the reference's without. -/
import Derived.Test.YtnmcbpjhlkpglaaR2
import Derived.Test.YtnmcbpjhlkpglaaO1
set_option linter.unusedVariables false
set_option linter.unusedSimpArgs false
namespace Go.Proofs.Ytnmcbpjhlkpglaa.B
open Go.RowKit

set_option maxRecDepth 100000 in
set_option maxHeartbeats 4000000 in
theorem refWithout_calls (A : Option Addr) (c : Nat) (l : List Ev) (next : Int) (i : Nat) (w : World) (hr : evs.C w A l) (hc : l.length ≤ c) (hs : Small l) :
    Calls Try.prog 43 #[.agg #[.slice A l.length c, .int .i64 next], .int .i64 i] w fun e w' => ∃ v, e = .returned (.agg #[v, .int .i64 next]) ∧ evs.V w' (fun k => w.heap.size ≤ k) v (l.take i ++ l.drop (i + 1)) ∧ Below w.heap.size w w' := by
  have hu24 := Try.underlying24
  have hu32 := Try.underlying32
  have HR := Hd.mk hr
  have HS := Hd.mk hs
  have hm := hs.1
  clear hr hs
  go_enter Try.func43, Try.ntmps43
  go_wp2
  go_loopw [6] (fun ui wr => ∃ k v, k ≤ l.length ∧ ui = .int .i64 (k : Nat) ∧ Hd (Blk wr w.heap.size 24 #[.slice A l.length c, .int .i64 next]) ∧ Hd (Blk wr (w.heap.size + 1) 24 #[.slice none 0 0, .int .i64 0]) ∧ Hd (Blk wr (w.heap.size + 1 + 1) 24 #[v, .int .i64 next]) ∧
    Hd (evs.Own 32 wr (w.heap.size + 3) (fun k => w.heap.size + 3 ≤ k) v (skipF l i k)) ∧ Hd (Below w.heap.size w wr)) (fun ui _ => l.length - (intOf ui).toNat)
  case atStart =>
    have b0 := ((Blk.new w 24 #[.slice A l.length c, .int .i64 next]).alloc (.cells #[.slice none 0 0, .int .i64 0] 24)).alloc (.cells #[.slice none 0 0, .int .i64 next] 24)
    have b1 := (Blk.new (w.alloc (.cells #[.slice A l.length c, .int .i64 next] 24)) 24 #[.slice none 0 0, .int .i64 0]).alloc (.cells #[.slice none 0 0, .int .i64 next] 24)
    have b2 := Blk.new ((w.alloc (.cells #[.slice A l.length c, .int .i64 next] 24)).alloc (.cells #[.slice none 0 0, .int .i64 0] 24)) 24 #[.slice none 0 0, .int .i64 next]
    rw [World.size_alloc] at b1
    rw [World.size_alloc, World.size_alloc] at b2
    exact ⟨0, _, Nat.zero_le _, rfl, ⟨b0⟩, ⟨b1⟩, ⟨b2⟩, ⟨by rw [skipF_zero]; exact Kd.Own.nil⟩, ⟨by go_grown⟩⟩
  case round =>
    obtain ⟨k, v, hk, rfl, HB0, HB1, HB2, HO, HB⟩ := hrel
    obtain ⟨M, hM⟩ : ∃ M, M = skipF l i k := ⟨_, rfl⟩
    have HM := Hd.mk hM
    have hMl : M.length ≤ l.length := by rw [hM]; exact skipF_len l i k
    rw [← hM] at HO
    clear hM
    obtain ⟨A3, c3, rfl, -, -⟩ := HO.out.shape
    obtain ⟨b0, b1, b2, b3⟩ := HB0.out.f2
    obtain ⟨o0, o1, o2, o3⟩ := HB2.out.f2
    have hsz : w.heap.size + 1 + 1 < wr.heap.size := HB2.out.lt
    by_cases hlt : k < l.length
    · by_cases hki : k = i
      · subst hki
        go_wp2
        go_roundw
        case rel => exact ⟨k + 1, _, by omega, by go_num, HB0, HB1, HB2, ⟨by rw [skipF_at, ← HM.out]; exact HO.out⟩, HB⟩
        case measure => simp [intOf]; omega
      · obtain ⟨ad, A4, c4, ea, x0, x1, x2, x3, x4, hx5, hx6⟩ := evs_get (HR.out.below HB.out) k hlt
        cases ea
        have hxl : (nth ev0 l k).body.length ≤ 4096 := HS.out.2 _ (nth_mem ev0 l k hlt)
        have hsk := skipF_ne l i k hlt hki
        rw [← HM.out] at hsk
        obtain ⟨x, hx⟩ : ∃ x, x = nth ev0 l k := ⟨_, rfl⟩
        rw [← hx] at x0 x1 x2 x3 x4 hx5 hx6 hxl hsk
        clear hx
        have Hsk := Hd.mk hsk
        clear hsk
        rcases x with ⟨xt, xn, xk, xd, xb⟩
        dsimp only at x0 x1 x2 x3 x4 hx5 hx6 hxl
        have K1 : Hd (Calls Try.prog 39 #[.agg #[.int .i64 xt, .int .i64 xn, .int .i64 xk, .int .i64 xd, .slice A4 xb.length c4]] wr.drew fun e w' => ∃ v, e = .returned (.agg #[.int .i64 xt, .int .i64 xn, .int .i64 xk, .int .i64 xd, v]) ∧ (ints .u8).Own 5 w' wr.drew.heap.size (fun _ => False) v xb ∧ Below wr.drew.heap.size wr.drew w') := ⟨refCopy_calls ⟨xt, xn, xk, xd, xb⟩ A4 c4 _ (by exact hx6) hx5 (by exact Nat.le_trans hxl (by decide))⟩
        clear hx6
        have g1 : ((k : Int) != i) = true := by simp; omega
        have g3 : (k : Int) < l.length := by omega
        go_wp2_with fail
        go_region_law
          (first
            | (go_simp; go_at_call 39; refine (K1.out).mono ?_; rintro e w7 ⟨v4, rfl, hown, hb⟩; obtain ⟨A7, c7, rfl, -, -⟩ := hown.shape; have o0' := keep hb (by exact o0); have b0' := keep hb (by exact b0); have x0' := keep hb (by exact x0); have x1' := keep hb (by exact x1); have x2' := keep hb (by exact x2); have x3' := keep hb (by exact x3); have x4' := keep hb (by exact x4); have HO7 : Hd (evs.Own 32 w7 (w.heap.size + 3) (fun k => w.heap.size + 3 ≤ k) (.slice A3 M.length c3) M) := ⟨HO.out.drew.below hb⟩; have HF7 := Hd.mk (ev_fp (x := ⟨xt, xn, xk, xd, xb⟩) hown); have HB7 : Hd (Below wr.heap.size wr w7) := ⟨(Below.drew (Below.refl _ _)).trans hb⟩; have HQ7 := Hd.mk (HB2.out.drew.below hb); have hsz7 := HB7.out.size; have o0a := keepA o0' (.cells #[.int .i64 xt, .int .i64 xn, .int .i64 xk, .int .i64 xd, .slice A7 xb.length c7] 32); clear hown hb)
            | (refine Kd.Own.step_append1 (w0 := wr) rfl (.tmp 21) (.tmp 28) 22 (.agg #[(.int .i64 0), (.int .i64 0), (.int .i64 0), (.int .i64 0), (.slice none 0 0)]) 56 rfl Try.underlying22 info32 rfl (by decide) rfl rfl HO7.out HF7.out ?h1 (HB7.out.mono (by omega)) ?h2 ?h3 ?_; (case h1 => exact fun j hj _ h => by have := (HO.out.blk j h.symm).2; have h3 := hj.1; have h4 : wr.heap.size ≤ j := h3; omega); (case h2 => omega); (case h3 => omega); intro v1 w8 hown hb2 hg hat; obtain ⟨A8, c8, rfl, -, -⟩ := hown.shape; have HQ8 := Hd.mk (HQ7.out.grown hg (fun h => by have := (HO7.out.blk _ h.symm).1; omega)); obtain ⟨p0, p1, p2, p3⟩ := HQ8.out.f2; have HO8 := Hd.mk hown; have HB8 := Hd.mk hb2; clear hown hb2 hg hat))
        all_goals
          clear x0 x1 x2 x3 x4 x0' x1' x2' x3' x4' o0 o0' o0a b0 b0' K1
          have HP0 := Hd.mk (HB0.out.belowB HB8.out (by omega))
          have HP1 := Hd.mk (HB1.out.belowB HB8.out (by omega))
          have HBx := Hd.mk (HB.out.trans (HB8.out.mono (by omega)))
          go_wp2
          go_roundw
          case rel =>
            refine ⟨k + 1, .slice A8 (M ++ [(⟨xt, xn, xk, xd, xb⟩ : Ev)]).length c8, by omega, by go_num, ⟨HP0.out.far (by dsimp only; omega) _⟩, ⟨HP1.out.far (by dsimp only; omega) _⟩, ⟨HQ8.out.put 0 _ (by simp)⟩, ⟨?_⟩, ⟨?_⟩⟩
            · rw [Hsk.out]
              exact (HO8.out.mono (fun j hj => by
                rcases hj with hj | hj
                · exact hj
                · have h4 : wr.heap.size ≤ j := hj.1
                  omega)).set (fun _ h => h) (by dsimp only; omega) _
            · exact Below.setCell HBx.out (by dsimp only; omega) _
          case measure => simp [intOf]; omega
    · have hkl : k = l.length := by omega
      subst hkl
      obtain ⟨p0, p1, p2, p3⟩ := HB1.out.f2
      go_wp2
      refine bodyPost_ret (v := .agg #[.slice A3 M.length c3, .int .i64 next]) (by simp [results, Try.results43, go_sem, p0, p1, p2, p3]) rfl ⟨_, rfl, ?_, ?_⟩
      · rw [← skipF_all, ← HM.out]
        have hv : evs.V wr (fun k => w.heap.size + 3 ≤ k) _ _ := HO.out.V.mono (fun j hj => by
          rcases hj with hj | hj
          · exact hj
          · exact (HO.out.blk j hj).1)
        refine Kd.V.mono (ok := fun k => w.heap.size + 3 ≤ k) ?_ (fun j hj => by omega)
        repeat (first | (with_reducible exact hv) | (with_reducible refine Kd.V.far ?_ (fun j hj => by have hj' : w.heap.size + 3 ≤ j := hj; dsimp only; omega) _))
      · have h2 := HB.out
        repeat (first | (with_reducible exact h2) | (with_reducible refine Below.setCell ?_ (by dsimp only; omega) _))
end Go.Proofs.Ytnmcbpjhlkpglaa.B
