/- What this text holds: the contract of link's own. -/
import Derived.Test.YtkgkiencikmhfaaF4
set_option linter.unusedVariables false
set_option linter.unusedSimpArgs false
namespace Go.Proofs.Ytkgkiencikmhfaa.B
open Go.RowKit

/-- Few flights, with short payloads. -/
def Small (l : List Fl) : Prop := l.length ≤ 4096 ∧ ∀ x ∈ l, x.body.length ≤ 65536

theorem fl_fp {w : World} {x : Fl} {A : Option Addr} {c base : Nat} (h : (ints .u8).Own 5 w base (fun _ => False) (.slice A x.body.length c) x.body) :
    Fp (fun W => fls.K W x [.int .i64 x.t, .int .i64 x.n, .slice A x.body.length c]) w (fun k => base ≤ k ∧ k < w.heap.size) := by
  obtain ⟨A', c', he, hl, hf⟩ := h.V
  injection he with ha _ hc
  subst ha; subst hc
  refine (hf.mono (fun k hk => ?_)).imp (fun W' hC => ⟨_, _, rfl, hl, hC⟩)
  rcases hk with hk | hk
  · exact hk.elim
  · exact h.blk k hk

theorem put2 {w : World} {g T : Nat} {a0 a1 b0 b1 : Value} (h : Blk w g T #[a0, a1]) : Blk ((w.setCell ⟨g, 0, none⟩ b0).setCell ⟨g, 1, none⟩ b1) g T #[b0, b1] := (h.put 0 _ rfl).put 1 _ rfl
theorem put7 {w : World} {g T : Nat} {a0 a1 a2 a3 a4 a5 a6 b0 b1 b2 b3 b4 b5 b6 : Value} (h : Blk w g T #[a0, a1, a2, a3, a4, a5, a6]) :
    Blk (((((((w.setCell ⟨g, 0, none⟩ b0).setCell ⟨g, 1, none⟩ b1).setCell ⟨g, 2, none⟩ b2).setCell ⟨g, 3, none⟩ b3).setCell ⟨g, 4, none⟩ b4).setCell ⟨g, 5, none⟩ b5).setCell ⟨g, 6, none⟩ b6) g T #[b0, b1, b2, b3, b4, b5, b6] := ((((((h.put (cs' := #[b0, a1, a2, a3, a4, a5, a6]) 0 b0 rfl).put (cs' := #[b0, b1, a2, a3, a4, a5, a6]) 1 b1 rfl).put (cs' := #[b0, b1, b2, a3, a4, a5, a6]) 2 b2 rfl).put (cs' := #[b0, b1, b2, b3, a4, a5, a6]) 3 b3 rfl).put (cs' := #[b0, b1, b2, b3, b4, a5, a6]) 4 b4 rfl).put (cs' := #[b0, b1, b2, b3, b4, b5, a6]) 5 b5 rfl).put (cs' := #[b0, b1, b2, b3, b4, b5, b6]) 6 b6 rfl

set_option maxRecDepth 100000 in
set_option maxHeartbeats 2000000 in
theorem own_calls (mn mx rt : Int) (dn : Bool) (idle next : Int) (A : Option Addr) (c : Nat) (l : List Fl) (w : World) (hr : fls.C w A l) (hc : l.length ≤ c) (hs : Small l) :
    Calls Try.prog 37 #[.agg #[.int .i64 mn, .int .i64 mx, .int .i64 rt, .bool dn, .int .i64 idle, .int .i64 next, .slice A l.length c]] w fun e w' =>
      ∃ v, e = .returned (.agg #[.int .i64 mn, .int .i64 mx, .int .i64 rt, .bool dn, .int .i64 idle, .int .i64 next, v]) ∧ fls.Own 69 w' w.heap.size (fun k => w.heap.size ≤ k) v l ∧ Below w.heap.size w w' := by
  have hu26 := Try.underlying26
  have hu69 := Try.underlying69
  have HR := Hd.mk hr
  have HS := Hd.mk hs
  have hm := hs.1
  clear hr hs
  go_enter Try.func37, Try.ntmps37
  go_wp2
  go_loopw [3, 9] (fun v ui wr => ∃ k, k ≤ l.length ∧ ui = .int .i64 (k : Nat) ∧ Hd (Blk wr w.heap.size 26 #[.int .i64 mn, .int .i64 mx, .int .i64 rt, .bool dn, .int .i64 idle, .int .i64 next, .slice A l.length c]) ∧ Hd (Blk wr (w.heap.size + 1) 26 #[.int .i64 0, .int .i64 0, .int .i64 0, .bool false, .int .i64 0, .int .i64 0, .slice none 0 0]) ∧
    Hd (fls.Own 69 wr (w.heap.size + 2) (fun j => w.heap.size + 2 ≤ j) v (l.take k)) ∧ Hd (Below w.heap.size w wr)) (fun _ ui _ => l.length - (intOf ui).toNat)
  case atStart =>
    have b0 := (Blk.new w 26 #[.int .i64 mn, .int .i64 mx, .int .i64 rt, .bool dn, .int .i64 idle, .int .i64 next, .slice A l.length c]).alloc (.cells #[.int .i64 0, .int .i64 0, .int .i64 0, .bool false, .int .i64 0, .int .i64 0, .slice none 0 0] 26)
    have b1 := Blk.new (w.alloc (.cells #[.int .i64 mn, .int .i64 mx, .int .i64 rt, .bool dn, .int .i64 idle, .int .i64 next, .slice A l.length c] 26)) 26 #[.int .i64 0, .int .i64 0, .int .i64 0, .bool false, .int .i64 0, .int .i64 0, .slice none 0 0]
    rw [World.size_alloc] at b1
    exact ⟨0, Nat.zero_le _, rfl, ⟨b0⟩, ⟨b1⟩, ⟨Kd.Own.nil⟩, ⟨by go_grown⟩⟩
  case round =>
    obtain ⟨k, hk, rfl, HQ, HP, HO, HB⟩ := hrel
    have hqlt := HP.out.lt
    by_cases hlt : k < l.length
    · obtain ⟨ad, A4, c4, ea, x0, x1, x2, hx5, hx6⟩ := fls_get (HR.out.below HB.out) k hlt
      cases ea
      have hxl : (nth fl0 l k).body.length ≤ 65536 := HS.out.2 _ (nth_mem fl0 l k hlt)
      obtain ⟨x, hx⟩ : ∃ x, x = nth fl0 l k := ⟨_, rfl⟩
      rw [← hx] at x0 x1 x2 hx5 hx6 hxl
      have HX := Hd.mk hx
      clear hx
      rcases x with ⟨xt, xn, xb⟩
      dsimp only at x0 x1 x2 hx5 hx6 hxl
      have HX6 := Hd.mk (hx6.below (Below.alloc (Below.refl _ _) (Nat.le_refl _) (.cells #[.int .i64 xt, .int .i64 xn, .slice A4 xb.length c4] 69)))
      have HX5 := Hd.mk hx5
      clear hx5 hx6
      go_wp2_with fail
      refine (clone_calls A4 c4 xb _ HX6.out HX5.out (by omega)).mono ?_
      rintro e w1 ⟨v7, rfl, hown, hb⟩
      obtain ⟨A7, c7, rfl, -, -⟩ := hown.shape
      have HF := Hd.mk ((Blk.new wr 69 #[.int .i64 xt, .int .i64 xn, .slice A4 xb.length c4]).below hb)
      have hbw : Below wr.heap.size wr w1 := (Below.alloc (Below.refl _ _) (Nat.le_refl _) _).trans (hb.mono (by rw [World.size_alloc]; omega))
      have hsz1 : wr.heap.size + 1 ≤ w1.heap.size := by have := hb.size; rw [World.size_alloc] at this; exact this
      have HB1 := Hd.mk (HB.out.trans (hbw.mono HB.out.size))
      have HQ1 := Hd.mk (HQ.out.below hbw)
      have HP1 := Hd.mk (HP.out.below hbw)
      have HO1 := Hd.mk (HO.out.bound.below hbw)
      have hoblk := HO.out.blk
      have HOB := Hd.mk hoblk
      have HFP := Hd.mk ((fl_fp (x := ⟨xt, xn, xb⟩) hown).mono (fun j hj => (⟨by have := hj.1; rw [World.size_alloc] at this; exact this, hj.2⟩ : wr.heap.size + 1 ≤ j ∧ j < w1.heap.size)))
      have hwsz := HB.out.size
      have HBr : Hd (Below (w.heap.size + 2) wr (w1.setCell ⟨wr.heap.size, 2, none⟩ (.slice A7 xb.length c7))) := Hd.mk (Below.setCell (hbw.mono (by omega)) (p := ⟨wr.heap.size, 2, none⟩) (by dsimp only; omega) (.slice A7 xb.length c7))
      clear hown hb hbw x0 x1 x2
      obtain ⟨f0, f1, f2, f3, f4, f5⟩ := HF.out.f3
      have HO2 := Hd.mk (HO1.out.far (p := ⟨wr.heap.size, 2, none⟩) (fun j hj => by
        rcases hj with hj | hj
        · have := hj.2; dsimp only; omega
        · have := (HOB.out j hj).2; dsimp only; omega) (.slice A7 xb.length c7))
      have HFP2 := Hd.mk (HFP.out.step (W1 := w1.setCell ⟨wr.heap.size, 2, none⟩ (.slice A7 xb.length c7)) (fun j hj _ => Below.heap_setCell w1 _ _ j (by dsimp only; omega)))
      have HF2 := Hd.mk (HF.out.put (cs' := #[.int .i64 xt, .int .i64 xn, .slice A7 xb.length c7]) 2 (.slice A7 xb.length c7) rfl)
      have HB2 := Hd.mk (Below.setCell HB1.out (p := ⟨wr.heap.size, 2, none⟩) (by dsimp only; omega) (.slice A7 xb.length c7))
      have HQ2 := Hd.mk (HQ1.out.far (p := ⟨wr.heap.size, 2, none⟩) (by dsimp only; omega) (.slice A7 xb.length c7))
      have HP2 := Hd.mk (HP1.out.far (p := ⟨wr.heap.size, 2, none⟩) (by dsimp only; omega) (.slice A7 xb.length c7))
      have hne : ∀ j, wr.heap.size + 1 ≤ j → some j ≠ u3.ownBlock := fun j hj h => by have := (HOB.out j h.symm).2; omega
      have HNE := Hd.mk hne
      clear hoblk hne HO1 HFP HF HB1 HQ1 HP1 HO HQ HP HB
      obtain ⟨F0, F1, F2, -, -, -⟩ := HF2.out.f3
      go_wp2_with (at_builtin; refine Kd.Own.append1 (w0 := wr) rfl (.tmp 17) (.tmp 19) 24 (.agg #[(.int .i64 0), (.int .i64 0), (.slice none 0 0)]) 40 rfl Try.underlying24 info69 rfl (by decide) rfl (by simp [Act.eval]) HO2.out HFP2.out ?h1 HBr.out ?h2 ?h3 ?_; (case h1 => exact fun j hj _ => HNE.out j hj.1); (case h2 => simp; omega); (case h3 => rw [List.length_take]; omega); intro v1 w2 hown hb2 hg2 hat; have HO3 := Hd.mk hown; have HG3 := Hd.mk hg2; have HB3 := Hd.mk hb2; clear hown hb2 hg2 hat)
      have hap : (l.take k ++ [(⟨xt, xn, xb⟩ : Fl)]) = l.take (k + 1) := by rw [take_nth fl0 l k hlt, ← HX.out]
      rw [hap] at HO3
      have HBw := Hd.mk (HB2.out.grown HG3.out (by have := HB2.out.size; exact this) (fun j h => by have := (HOB.out j h).1; omega))
      have HQ3 := Hd.mk (HQ2.out.grown HG3.out (fun h => by have := (HOB.out _ h.symm).1; omega))
      have HP3 := Hd.mk (HP2.out.grown HG3.out (fun h => by have := (HOB.out _ h.symm).1; omega))
      go_roundw
      case rel =>
        exact ⟨k + 1, by omega, by go_num, HQ3, HP3, ⟨HO3.out.mono (fun j hj => by
          rcases hj with hj | hj
          · exact hj.1
          · have h3 := hj.1; omega)⟩, HBw⟩
      case measure => simp [intOf]; omega
    · have hkl : k = l.length := by omega
      subst hkl
      rw [List.take_length] at HO
      obtain ⟨A3, c3, rfl, -, -⟩ := HO.out.shape
      obtain ⟨q0, q1, q2, q3, q4, q5, q6, q7, q8, q9, q10, q11, q12, q13⟩ := HQ.out.f7
      obtain ⟨p0, p1, p2, p3, p4, p5, p6, p7, p8, p9, p10, p11, p12, p13⟩ := HP.out.f7
      go_wp2
      refine bodyPost_ret (v := .agg #[.int .i64 mn, .int .i64 mx, .int .i64 rt, .bool dn, .int .i64 idle, .int .i64 next, .slice A3 l.length c3]) (by simp [results, Try.results37, go_sem, p0, p1, p2, p3, p4, p5, p6]) rfl ⟨_, rfl, ?_, ?_⟩
      · have hv := HO.out
        refine (Kd.Own.lower (base := w.heap.size + 2) ?_ (by omega)).mono (ok := fun j => w.heap.size + 2 ≤ j) (fun j hj => by omega)
        repeat (first | (with_reducible exact hv) | (with_reducible refine Kd.Own.set ?_ (fun _ h => h) (by dsimp only; omega) _))
      · have h2 := HB.out
        repeat (first | (with_reducible exact h2) | (with_reducible refine Below.setCell ?_ (by dsimp only; omega) _))
end Go.Proofs.Ytkgkiencikmhfaa.B
