/- What this text holds: the contract of the reference's Due. -/
import Derived.Test.YtnmcbpjhlkpglaaR6
set_option linter.unusedVariables false
set_option linter.unusedSimpArgs false
namespace Go.Proofs.Ytnmcbpjhlkpglaa.B
open Go.RowKit

namespace Kd
/-- Two rows of one's own, apart from each other: one of them grows. -/
theorem Own.pair {α : Type} {d : Kd α} {W W1 : World} {u u1 v : Value} {xs ys : List α} {y : α} {e base : Nat} {okx : Nat → Prop}
    (HU1 : d.Own e W1 base (fun k => (base ≤ k ∧ some k ≠ v.ownBlock) ∨ okx k) u1 (xs ++ [y])) (HV : d.Own e W base (fun k => base ≤ k ∧ some k ≠ u.ownBlock) v ys)
    (hne : ∀ j, u.ownBlock = some j → v.ownBlock ≠ some j) (hx : ∀ k, okx k → base ≤ k ∧ some k ≠ v.ownBlock) (hg : W.grownBy W1 u.ownBlock) (hat : u1.ownBlock = u.ownBlock ∨ ∃ b, u1.ownBlock = some b ∧ W.heap.size ≤ b) :
    d.Own e W1 base (fun k => base ≤ k ∧ some k ≠ v.ownBlock) u1 (xs ++ [y]) ∧ d.Own e W1 base (fun k => base ≤ k ∧ some k ≠ u1.ownBlock) v ys ∧ ∀ j, u1.ownBlock = some j → v.ownBlock ≠ some j := by
  refine ⟨HU1.mono (fun k hk => hk.elim id (hx k)), ?_, ?_⟩
  · refine (HV.bound.grown hg (fun k hk _ => hk.1.2) (fun k hk h => hne k h.symm hk)).mono (fun k hk => ⟨hk.1.1, ?_⟩)
    rcases hat with hat | ⟨b, hb, hle⟩
    · rw [hat]; exact hk.1.2
    · rw [hb]
      intro h
      injection h with h
      have := hk.2
      omega
  · intro j hj hv
    rcases hat with hat | ⟨b, hb, hle⟩
    · exact hne j (hat ▸ hj) hv
    · have h1 := (HV.blk j hv).2
      rw [hb] at hj
      injection hj with hj
      omega
end Kd

theorem filter_split (l : List Ev) (t : Int) (h1 : ∀ x ∈ l.take (placeI l t), x.t ≤ t) (h2 : ∀ x ∈ l.drop (placeI l t), t < x.t) :
    l.filter (fun x => decide (x.t ≤ t)) = l.take (placeI l t) ∧ l.filter (fun x => decide (t < x.t)) = l.drop (placeI l t) := by
  have e : l = l.take (placeI l t) ++ l.drop (placeI l t) := (List.take_append_drop _ _).symm
  generalize l.take (placeI l t) = a at h1 e ⊢
  generalize l.drop (placeI l t) = b at h2 e ⊢
  subst e
  constructor
  · rw [List.filter_append, List.filter_eq_self.2 (fun x hx => by simpa using h1 x hx), List.filter_eq_nil_iff.2 (fun x hx => by have := h2 x hx; simp; omega), List.append_nil]
  · rw [List.filter_append, List.filter_eq_nil_iff.2 (fun x hx => by have := h1 x hx; simp; omega), List.filter_eq_self.2 (fun x hx => by simpa using h2 x hx), List.nil_append]

set_option maxRecDepth 100000 in
set_option maxHeartbeats 4000000 in
theorem refDue_ok (A : Option Addr) (c : Nat) (l : List Ev) (next t : Int) (w : World) (ok : Nat → Prop) (hv0 : evs.V w ok (.slice A l.length c) l) (h : checkF l next = 0) :
    Calls Try.prog 27 #[.agg #[.slice A l.length c, .int .i64 next], .int .i64 t] w (DuePost w ok ((l.filter (fun x => decide (t < x.t)), next), l.filter (fun x => decide (x.t ≤ t)))) := by
  have hu24 := Try.underlying24
  have hu32 := Try.underlying32
  have hr := hv0.C
  have hc : l.length ≤ c := hv0.n.2
  have HR := Hd.mk hr
  clear hv0
  have hb1 : (checkF l next != 0) = false := by simp [h]
  have HS := Hd.mk (checkF_small l next h)
  have hll := (checkF_small l next h).1
  obtain ⟨R1, hR1⟩ : ∃ R1, R1 = l.filter (fun x => decide (t < x.t)) := ⟨_, rfl⟩
  obtain ⟨R2, hR2⟩ : ∃ R2, R2 = l.filter (fun x => decide (x.t ≤ t)) := ⟨_, rfl⟩
  rw [← hR1, ← hR2]
  have HR1 := Hd.mk hR1; have HR2 := Hd.mk hR2
  clear hr h hR1 hR2
  go_enter Try.func27, Try.ntmps27
  go_wp2_with fail
  refine (refCheck_calls A c l next _ (HR.out.below (by go_grown)) hc).mono ?_
  rintro e w1 ⟨rfl, hb⟩
  have hbw : Below w.heap.size w w1 := Below.trans (by go_grown) (hb.mono (by simp; omega))
  have hsz : w.heap.size + 2 ≤ w1.heap.size := by have := hb.size; simpa using this
  have B0 := ((Blk.new w 24 #[.slice A l.length c, .int .i64 next]).alloc (.cells #[.slice none 0 0, .int .i64 0] 24)).below hb
  have B1 := (Blk.new (w.alloc (.cells #[.slice A l.length c, .int .i64 next] 24)) 24 #[.slice none 0 0, .int .i64 0]).below hb
  rw [World.size_alloc] at B1
  have HBW := Hd.mk hbw
  have HB0 := Hd.mk B0
  have HB1 := Hd.mk B1
  obtain ⟨p0, p1, p2, p3⟩ := B0.f2
  clear hb hbw B0 B1
  go_wp2
  go_loopw [7, 8] (fun u ui wr => ∃ k v, k ≤ l.length ∧ ui = .int .i64 (k : Nat) ∧ Hd (Blk wr w.heap.size 24 #[.slice A l.length c, .int .i64 next]) ∧ Hd (Blk wr (w.heap.size + 1) 24 #[.slice none 0 0, .int .i64 0]) ∧ Hd (Blk wr w1.heap.size 24 #[v, .int .i64 next]) ∧
    Hd (evs.Own 32 wr (w1.heap.size + 1) (fun j => w1.heap.size + 1 ≤ j ∧ some j ≠ v.ownBlock) u ((l.take k).filter (fun x => decide (x.t ≤ t)))) ∧ Hd (evs.Own 32 wr (w1.heap.size + 1) (fun j => w1.heap.size + 1 ≤ j ∧ some j ≠ u.ownBlock) v ((l.take k).filter (fun x => decide (t < x.t)))) ∧ Hd (∀ j, u.ownBlock = some j → v.ownBlock ≠ some j) ∧ Hd (Below w.heap.size w wr)) (fun _ ui _ => l.length - (intOf ui).toNat)
  case atStart =>
    have b2 := Blk.new w1 24 #[.slice none 0 0, .int .i64 next]
    exact ⟨0, _, Nat.zero_le _, rfl, ⟨HB0.out.alloc _⟩, ⟨HB1.out.alloc _⟩, ⟨b2⟩, ⟨Kd.Own.nil⟩, ⟨Kd.Own.nil⟩, ⟨fun j hj => by cases hj⟩, ⟨Below.alloc HBW.out (by omega) _⟩⟩
  case round =>
    obtain ⟨k, v, hk, rfl, HB0, HB1, HB2, HD, HO, HNE, HB⟩ := hrel
    obtain ⟨M, hM⟩ : ∃ M, M = (l.take k).filter (fun x => decide (t < x.t)) := ⟨_, rfl⟩
    obtain ⟨D, hD⟩ : ∃ D, D = (l.take k).filter (fun x => decide (x.t ≤ t)) := ⟨_, rfl⟩
    have HM := Hd.mk hM; have HDd := Hd.mk hD
    have hMl : M.length ≤ l.length := by rw [hM]; exact Nat.le_trans (List.length_filter_le _ _) (by rw [List.length_take]; omega)
    have hDl : D.length ≤ l.length := by rw [hD]; exact Nat.le_trans (List.length_filter_le _ _) (by rw [List.length_take]; omega)
    rw [← hM] at HO
    rw [← hD] at HD
    clear hM hD
    obtain ⟨A3, c3, rfl, -, -⟩ := HO.out.shape
    obtain ⟨A2, c2, rfl, -, -⟩ := HD.out.shape
    obtain ⟨b0, b1, b2, b3⟩ := HB0.out.f2
    obtain ⟨o0, o1, o2, o3⟩ := HB2.out.f2
    have hszr : w1.heap.size < wr.heap.size := HB2.out.lt
    by_cases hlt : k < l.length
    · obtain ⟨ad, A4, c4, ea, x0, x1, x2, x3, x4, hx5, hx6⟩ := evs_get (HR.out.below HB.out) k hlt
      cases ea
      have hxl : (nth ev0 l k).body.length ≤ 4096 := HS.out.2 _ (nth_mem ev0 l k hlt)
      have htk := take_nth ev0 l k hlt
      obtain ⟨x, hx⟩ : ∃ x, x = nth ev0 l k := ⟨_, rfl⟩
      rw [← hx] at x0 x1 x2 x3 x4 hx5 hx6 hxl htk
      clear hx
      rcases x with ⟨xt, xn, xk, xd, xb⟩
      dsimp only at x0 x1 x2 x3 x4 hx5 hx6 hxl
      have HTK := Hd.mk htk
      clear htk
      by_cases hxt : xt ≤ t
      · have g1 : decide (xt ≤ t) = true := by simp [hxt]
        have HX6 := Hd.mk hx6
        have hE1 : (l.take (k + 1)).filter (fun x => decide (x.t ≤ t)) = D ++ [⟨xt, xn, xk, xd, xb⟩] := by rw [HTK.out, List.filter_append, ← HDd.out]; simp [hxt]
        have hE2 : (l.take (k + 1)).filter (fun x => decide (t < x.t)) = M := by rw [HTK.out, List.filter_append, ← HM.out]; simp; omega
        have HE1 := Hd.mk hE1; have HE2 := Hd.mk hE2
        clear hx6 hE1 hE2
        go_wp2_with fail
        refine (refCopy_calls ⟨xt, xn, xk, xd, xb⟩ A4 c4 _ HX6.out hx5 (by exact Nat.le_trans hxl (by decide))).mono ?_
        rintro e w7 ⟨v4, rfl, hown, hb⟩
        obtain ⟨A7, c7, rfl, -, -⟩ := hown.shape
        have HF7 := Hd.mk (ev_fp (x := ⟨xt, xn, xk, xd, xb⟩) hown)
        have HD7 := Hd.mk (HD.out.below hb)
        have HO7 := Hd.mk (HO.out.below hb)
        have HB7 := Hd.mk hb
        have hsz7 := hb.size
        clear hown hb x0 x1 x2 x3 x4 b0 b1 b2 b3 o0 o1 o2 o3
        go_wp2_with (at_builtin; refine Kd.Own.append1 (w0 := wr) rfl (.tmp 31) (.tmp 38) 22 (.agg #[(.int .i64 0), (.int .i64 0), (.int .i64 0), (.int .i64 0), (.slice none 0 0)]) 56 rfl Try.underlying22 info32 rfl (by decide) rfl rfl HD7.out HF7.out ?h1 (HB7.out.mono (by omega)) ?h2 ?h3 ?_; (case h1 => exact fun j hj _ h => by have := (HD.out.blk j h.symm).2; have h3 : wr.heap.size ≤ j := hj.1; omega); (case h2 => omega); (case h3 => omega); intro v1 w8 hown hb2 hg hat; have HU8 := Hd.mk hown; have HB8 := Hd.mk hb2; have HG8 := Hd.mk hg; have HAT8 := Hd.mk hat; clear hown hb2 hg hat)
        have hp := Kd.Own.pair HU8.out HO7.out HNE.out (fun j hj => ⟨by have h3 : wr.heap.size ≤ j := hj.1; omega, fun h => by have := (HO.out.blk j h.symm).2; have h3 : wr.heap.size ≤ j := hj.1; omega⟩) HG8.out HAT8.out
        have HP := Hd.mk hp
        clear hp
        go_roundw
        case rel =>
          exact ⟨k + 1, _, by omega, by go_num, ⟨HB0.out.belowB HB8.out (by omega)⟩, ⟨HB1.out.belowB HB8.out (by omega)⟩, ⟨HB2.out.belowB HB8.out (by omega)⟩, ⟨by rw [HE1.out]; exact HP.out.1⟩, ⟨by rw [HE2.out]; exact HP.out.2.1⟩, ⟨HP.out.2.2⟩, ⟨HB.out.trans (HB8.out.mono (by omega))⟩⟩
        case measure => simp [intOf]; omega
      · have g1 : decide (xt ≤ t) = false := by simp [hxt]
        have hE1 : (l.take (k + 1)).filter (fun x => decide (x.t ≤ t)) = D := by rw [HTK.out, List.filter_append, ← HDd.out]; simp [hxt]
        have hE2 : (l.take (k + 1)).filter (fun x => decide (t < x.t)) = M ++ [⟨xt, xn, xk, xd, xb⟩] := by rw [HTK.out, List.filter_append, ← HM.out]; simp; omega
        have HE1 := Hd.mk hE1; have HE2 := Hd.mk hE2
        have K1 : Hd (Calls Try.prog 39 #[.agg #[.int .i64 xt, .int .i64 xn, .int .i64 xk, .int .i64 xd, .slice A4 xb.length c4]] wr.drew fun e w' => ∃ v, e = .returned (.agg #[.int .i64 xt, .int .i64 xn, .int .i64 xk, .int .i64 xd, v]) ∧ (ints .u8).Own 5 w' wr.drew.heap.size (fun _ => False) v xb ∧ Below wr.drew.heap.size wr.drew w') := ⟨refCopy_calls ⟨xt, xn, xk, xd, xb⟩ A4 c4 _ (by exact hx6) hx5 (by exact Nat.le_trans hxl (by decide))⟩
        clear hx6 hE1 hE2
        have g3 : (k : Int) < l.length := by omega
        go_wp2_with fail
        go_region_law
          (first
            | (refine Kd.Own.step_append1 (w0 := wr) rfl (.tmp 41) (.tmp 48) 22 (.agg #[(.int .i64 0), (.int .i64 0), (.int .i64 0), (.int .i64 0), (.slice none 0 0)]) 56 rfl Try.underlying22 info32 rfl (by decide) rfl rfl HO7.out HF7.out ?h1 (HB7.out.mono (by omega)) ?h2 ?h3 ?_; (case h1 => exact fun j hj _ h => by have := (HO.out.blk j h.symm).2; have h3 : wr.heap.size ≤ j := hj.1; omega); (case h2 => omega); (case h3 => omega); intro v1 w8 hown hb2 hg hat; obtain ⟨A8, c8, rfl, -, -⟩ := hown.shape; have HQ8 := Hd.mk (HQ7.out.grown hg (fun h => by have := (HO7.out.blk _ h.symm).1; omega)); obtain ⟨p0', p1', p2', p3'⟩ := HQ8.out.f2; have HO8 := Hd.mk hown; have HB8 := Hd.mk hb2; have HG8 := Hd.mk hg; have HAT8 := Hd.mk hat; clear hown hb2 hg hat)
            | (go_simp; go_at_call 39; refine (K1.out).mono ?_; rintro e w7 ⟨v4, rfl, hown, hb⟩; obtain ⟨A7, c7, rfl, -, -⟩ := hown.shape; have o0' := keep hb (by exact o0); have b0' := keep hb (by exact b0); have x0' := keep hb (by exact x0); have x1' := keep hb (by exact x1); have x2' := keep hb (by exact x2); have x3' := keep hb (by exact x3); have x4' := keep hb (by exact x4); have HO7 := Hd.mk (HO.out.drew.below hb); have HD7 := Hd.mk (HD.out.drew.below hb); have HF7 := Hd.mk (ev_fp (x := ⟨xt, xn, xk, xd, xb⟩) hown); have HB7 : Hd (Below wr.heap.size wr w7) := ⟨(Below.drew (Below.refl _ _)).trans hb⟩; have HQ7 := Hd.mk (HB2.out.drew.below hb); have hsz7 := HB7.out.size; have o0a := keepA o0' (.cells #[.int .i64 xt, .int .i64 xn, .int .i64 xk, .int .i64 xd, .slice A7 xb.length c7] 32); clear hown hb))
        all_goals
          clear x0 x1 x2 x3 x4 x0' x1' x2' x3' x4' o0 o0' o0a b0 b0' K1
          have hp := Kd.Own.pair HO8.out HD7.out (fun j hj h => HNE.out j h hj) (fun j hj => ⟨by have h3 : wr.heap.size ≤ j := hj.1; omega, fun h => by have := (HD.out.blk j h.symm).2; have h3 : wr.heap.size ≤ j := hj.1; omega⟩) HG8.out HAT8.out
          have HP := Hd.mk hp
          clear hp
          have HP0 := Hd.mk (HB0.out.belowB HB8.out (by omega))
          have HP1 := Hd.mk (HB1.out.belowB HB8.out (by omega))
          have HBx := Hd.mk (HB.out.trans (HB8.out.mono (by omega)))
          go_wp2
          go_roundw
          case rel =>
            refine ⟨k + 1, .slice A8 (M ++ [(⟨xt, xn, xk, xd, xb⟩ : Ev)]).length c8, by omega, by go_num, ⟨HP0.out.far (by dsimp only; omega) _⟩, ⟨HP1.out.far (by dsimp only; omega) _⟩, ⟨HQ8.out.put 0 _ (by simp)⟩, ⟨?_⟩, ⟨?_⟩, ⟨fun j hj h => HP.out.2.2 j h hj⟩, ⟨?_⟩⟩
            · rw [HE1.out]
              exact HP.out.2.1.set (fun _ h => h.1) (by dsimp only; omega) _
            · rw [HE2.out]
              exact HP.out.1.set (fun _ h => h.1) (by dsimp only; omega) _
            · exact Below.setCell HBx.out (by dsimp only; omega) _
          case measure => simp [intOf]; omega
    · have hkl : k = l.length := by omega
      subst hkl
      obtain ⟨q0, q1, q2, q3⟩ := HB1.out.f2
      go_wp2
      refine bodyPost_ret (v := .tuple #[.agg #[.slice A3 M.length c3, .int .i64 next], .slice A2 D.length c2]) (by simp [results, Try.results27, go_sem, q0, q1, q2, q3]) rfl ?_
      have e1 : R1 = M := by rw [HR1.out, HM.out, List.take_length]
      have e2 : R2 = D := by rw [HR2.out, HDd.out, List.take_length]
      rw [e1, e2]
      refine ⟨_, _, rfl, ?_, ?_, ?_⟩
      · have hv : evs.V wr (fun k => w1.heap.size + 1 ≤ k) _ _ := HO.out.V.mono (fun j hj => by
          rcases hj with hj | hj
          · exact hj.1
          · exact (HO.out.blk j hj).1)
        refine Kd.V.mono (ok := fun k => w1.heap.size + 1 ≤ k) ?_ (fun j hj => .inr (by have hj' : w1.heap.size + 1 ≤ j := hj; omega))
        repeat (first | (with_reducible exact hv) | (with_reducible refine Kd.V.far ?_ (fun j hj => by have hj' : w1.heap.size + 1 ≤ j := hj; dsimp only; omega) _))
      · have hv : evs.V wr (fun k => w1.heap.size + 1 ≤ k) _ _ := HD.out.V.mono (fun j hj => by
          rcases hj with hj | hj
          · exact hj.1
          · exact (HD.out.blk j hj).1)
        refine Kd.V.mono (ok := fun k => w1.heap.size + 1 ≤ k) ?_ (fun j hj => by have hj' : w1.heap.size + 1 ≤ j := hj; omega)
        repeat (first | (with_reducible exact hv) | (with_reducible refine Kd.V.far ?_ (fun j hj => by have hj' : w1.heap.size + 1 ≤ j := hj; dsimp only; omega) _))
      · have h2 := HB.out
        repeat (first | (with_reducible exact h2) | (with_reducible refine Below.setCell ?_ (by dsimp only; omega) _))
end Go.Proofs.Ytnmcbpjhlkpglaa.B
