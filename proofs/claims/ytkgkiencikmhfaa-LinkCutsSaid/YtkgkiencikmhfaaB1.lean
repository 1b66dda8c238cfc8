/- What this text holds: the contract of the laws' run. -/
import Derived.Test.YtkgkiencikmhfaaF9
import Derived.Test.YtkgkiencikmhfaaP1
import Derived.Test.YtkgkiencikmhfaaPut
set_option linter.unusedVariables false
set_option linter.unusedSimpArgs false
namespace Go.Proofs.Ytkgkiencikmhfaa.B
open Go.RowKit

/-- What run leaves: a link, times, ends, copies. -/
def RunPost (w : World) (s : RS) (e : Ending) (w' : World) : Prop :=
  ∃ v u3 u4 u5, e = .returned (.tuple #[.agg #[.int .i64 s.l.mn, .int .i64 s.l.mx, .int .i64 s.l.rt, .bool s.l.down, .int .i64 s.l.idle, .int .i64 s.l.next, v], u3, u4, u5, .bool true]) ∧ fls.V w' (fun k => w.heap.size ≤ k) v s.l.fl ∧
    (ints .i64).Own 3 w' w.heap.size (fun _ => False) u3 s.ts ∧ (ints .i64).Own 3 w' w.heap.size (fun _ => False) u4 s.is ∧ (ints .i64).Own 3 w' w.heap.size (fun _ => False) u5 s.cs ∧ Below w.heap.size w w'
/-- Where a run's flights and choices may lie: in what was there before, or in none of the three rows. -/
def okv (n : Nat) (u3 u4 u5 : Value) (j : Nat) : Prop := j < n ∨ (n + 2 ≤ j ∧ some j ≠ u3.ownBlock ∧ some j ≠ u4.ownBlock ∧ some j ≠ u5.ownBlock)
def okw (n : Nat) (u3 u4 u5 : Value) (j : Nat) : Prop := n + 2 ≤ j ∧ some j ≠ u3.ownBlock ∧ some j ≠ u4.ownBlock ∧ some j ≠ u5.ownBlock
def noff (h : Int) : Int := if h = 1 then 0 else 1
def Dj (u v : Value) : Prop := ∀ j, u.ownBlock = some j → v.ownBlock ≠ some j
theorem Dj.no {u v : Value} (h : Dj u v) : ∀ k, v.ownBlock = some k → some k ≠ u.ownBlock := fun k hk h2 => h k h2.symm hk
theorem dj_mk {a b a' b' : Value} {n m : Nat} (h : Dj a b) (ha : ∀ j, a.ownBlock = some j → j < n) (hb : ∀ j, b.ownBlock = some j → j < n) (h1 : a'.ownBlock = a.ownBlock ∨ ∃ x, a'.ownBlock = some x ∧ n ≤ x) (h1b : ∀ j, a'.ownBlock = some j → j < m)
    (h2 : b'.ownBlock = b.ownBlock ∨ ∃ x, b'.ownBlock = some x ∧ m ≤ x) (hnm : n ≤ m) : Dj a' b' := by
  intro j hj hj2
  have h3 := h1b j hj
  rcases h2 with h2 | ⟨y, h2, hy⟩
  · rw [h2] at hj2
    rcases h1 with h1 | ⟨x, h1, hx⟩
    · rw [h1] at hj
      exact h j hj hj2
    · rw [h1] at hj
      injection hj with hj
      have := hb j hj2
      omega
  · rw [h2] at hj2
    injection hj2 with hj2
    omega
def SmA (w0 : World) (j : Nat) (W : World) : Prop := W.heap[j]? = w0.heap[j]? ∧ j < W.heap.size
theorem SmA.refl {w : World} {j : Nat} (h : j < w.heap.size) : SmA w j w := ⟨rfl, h⟩
theorem SmA.alloc {w0 W : World} {j : Nat} (h : SmA w0 j W) (o : Obj) : SmA w0 j (W.alloc o) := ⟨(Below.heap_alloc W o j h.2).trans h.1, by have := h.2; simp; omega⟩
theorem SmA.drew {w0 W : World} {j : Nat} (h : SmA w0 j W) : SmA w0 j W.drew := h
theorem SmA.grown {w0 W W1 : World} {j : Nat} {row : Option Nat} (h : SmA w0 j W) (hg : W.grownBy W1 row) (hne : some j ≠ row) : SmA w0 j W1 := ⟨(hg.block j h.2 hne).trans h.1, Nat.lt_of_lt_of_le h.2 hg.size⟩
theorem own_ne {u v : Value} {n j : Nat} (h : v.ownBlock = u.ownBlock ∨ ∃ x, v.ownBlock = some x ∧ n ≤ x) (hj : j < n) (hne : some j ≠ u.ownBlock) : some j ≠ v.ownBlock := by
  rcases h with h | ⟨x, h, hx⟩
  · rw [h]; exact hne
  · rw [h]
    intro h
    injection h with h
    omega

theorem SmA.heap {w0 W : World} {j : Nat} (h : SmA w0 j W) : W.heap[j]? = w0.heap[j]? := h.1
theorem own_nd {u v x : Value} {n : Nat} (hT : v.ownBlock = u.ownBlock ∨ ∃ b, v.ownBlock = some b ∧ n ≤ b) (hD : Dj u x) (hx : ∀ j, x.ownBlock = some j → j < n) : ∀ k, v.ownBlock = some k → some k ≠ x.ownBlock := by
  intro k hk h
  rcases hT with hT | ⟨b, hT, hb⟩
  · rw [hT] at hk
    exact hD k hk h.symm
  · rw [hT] at hk
    injection hk with hk
    have := hx k h.symm
    omega

set_option maxRecDepth 100000 in
set_option maxHeartbeats 8000000 in
theorem run_calls (mn mx rt : Int) (A : Option Addr) (c : Nat) (sl : List (Int × Int)) (A1 : Option Addr) (c1 : Nat) (ch : List Int) (w : World) (hS : sts.C w A sl) (hc : sl.length ≤ c) (hr1 : (ints .i64).C w A1 ch) (hc1 : ch.length ≤ c1) (hf : Fit mn mx rt sl ch) :
    Calls Try.prog 22 #[.agg #[.int .i64 mn, .int .i64 mx, .int .i64 rt, .slice A sl.length c, .slice A1 ch.length c1]] w (RunPost w (rsTo mn mx rt ch sl sl.length)) := by
  have hu26 := Try.underlying26
  have hu23 := Try.underlying23
  have hu49 := Try.underlying49
  have hu58 := Try.underlying58
  have HS := Hd.mk hS
  have HVc : Hd ((ints .i64).V w (fun k => k < w.heap.size) (.slice A1 ch.length c1) ch) := ⟨(Kd.V.bound ⟨A1, c1, rfl, hc1, hr1.fp⟩).mono (fun k hk => hk.2)⟩
  have HFIT := Hd.mk hf
  have hsl := hf.hsl
  have hchl := hf.hch
  have hN : newF mn mx rt = (⟨mn, mx, rt, false, 0, 0, []⟩, 0) := by
    have h1 := hf.hmn; have h2 := hf.hmx; have h3 := hf.hrt
    rw [newF, if_pos (by rw [cfgF, if_pos (by omega)])]
  have HN := Hd.mk hN
  have HB0 : Hd (Below w.heap.size w w) := ⟨Below.refl _ _⟩
  obtain ⟨FIN, hFIN⟩ : ∃ s, s = rsTo mn mx rt ch sl sl.length := ⟨_, rfl⟩
  rw [← hFIN]
  have HFIN := Hd.mk hFIN
  clear hS hr1 hf hN hFIN
  go_enter Try.func22, Try.ntmps22
  go_wp2_with fail
  refine calls_abs (fun W1 => Hd (Blk W1 w.heap.size 49 #[.int .i64 mn, .int .i64 mx, .int .i64 rt, .slice A sl.length c, .slice A1 ch.length c1]) ∧ Hd (Blk W1 (w.heap.size + 1) 26 #[.int .i64 0, .int .i64 0, .int .i64 0, .bool false, .int .i64 0, .int .i64 0, .slice none 0 0]) ∧ Hd (Below w.heap.size w W1) ∧ W1.heap.size = w.heap.size + 2) ⟨⟨?_⟩, ⟨?_⟩, ⟨?_⟩, ?_⟩ ?_
  · repeat (first | (with_reducible refine Blk.newE ?_; first | omega | (simp only [World.size_alloc, World.size_setCell, World.size_drew]; omega) | (simp; done)) | with_reducible refine Blk.alloc ?_ _ | with_reducible refine Blk.drew ?_ | with_reducible refine Blk.drewN ?_ _ | with_reducible refine Blk.far ?_ (by dsimp only; omega) _)
  · repeat (first | (with_reducible refine Blk.newE ?_; first | omega | (simp only [World.size_alloc, World.size_setCell, World.size_drew]; omega) | (simp; done)) | with_reducible refine Blk.alloc ?_ _ | with_reducible refine Blk.drew ?_ | with_reducible refine Blk.drewN ?_ _ | with_reducible refine Blk.far ?_ (by dsimp only; omega) _)
  · repeat (first | with_reducible exact HB0.out | with_reducible exact Below.refl _ _ | with_reducible refine Below.alloc ?_ (by first | omega | (simp only [World.size_alloc, World.size_setCell, World.size_drew]; omega) | (simp; done)) _ | with_reducible refine Below.drew ?_ | with_reducible refine pw_below_drewN ?_ _ | with_reducible refine Below.setCell ?_ (by dsimp only; omega) _)
  · first | omega | (simp only [World.size_alloc, World.size_setCell, World.size_drew]; omega) | (simp; done)
  clear HB0
  rintro W1 ⟨HX, HL, HB, hzW1⟩
  refine (new_calls mn mx rt _).mono ?_
  rintro e w1 ⟨he, hb⟩
  rw [HN.out] at he
  dsimp only at he
  subst he
  replace HB := Hd.mk (bel_step HB.out hb (by omega))
  replace HX := Hd.mk (HX.out.below hb)
  replace HL := Hd.mk (HL.out.below hb)
  have hz1 := hb.size
  clear hb
  obtain ⟨x0, x1, x2, x3, x4, x5, x6, x7, x8, x9⟩ := HX.out.f5
  obtain ⟨q0, q1, q2, q3, q4, q5, q6, q7, q8, q9, q10, q11, q12, q13⟩ := HL.out.f7
  have HL2 := Hd.mk (put7 (b0 := .int .i64 mn) (b1 := .int .i64 mx) (b2 := .int .i64 rt) (b3 := .bool false) (b4 := .int .i64 0) (b5 := .int .i64 0) (b6 := .slice none 0 0) HL.out)
  go_wp2_with fail
  go_quiet (fail)
  go_wp2
  go_loopw [3, 4, 5, 8, 9, 10] (fun u3 u4 u5 un ur ui wr => ∃ k v S, k ≤ sl.length ∧ Hd (S = rsTo mn mx rt ch sl k) ∧ ui = .int .i64 (k : Nat) ∧ un = .int .i64 (RS.now S) ∧ Hd (Blk wr w.heap.size 49 #[.int .i64 mn, .int .i64 mx, .int .i64 rt, .slice A sl.length c, .slice A1 ch.length c1]) ∧ Hd (Blk wr (w.heap.size + 1) 26 #[.int .i64 S.l.mn, .int .i64 S.l.mx, .int .i64 S.l.rt, .bool S.l.down, .int .i64 S.l.idle, .int .i64 S.l.next, v]) ∧
    Hd (fls.V wr (okw w.heap.size u3 u4 u5) v S.l.fl) ∧ Hd ((ints .i64).V wr (okv w.heap.size u3 u4 u5) ur S.rest) ∧ Hd ((ints .i64).Own 3 wr (w.heap.size + 2) (fun _ => False) u3 S.ts) ∧ Hd ((ints .i64).Own 3 wr (w.heap.size + 2) (fun _ => False) u4 S.is) ∧ Hd ((ints .i64).Own 3 wr (w.heap.size + 2) (fun _ => False) u5 S.cs) ∧
    Hd (Dj u3 u4 ∧ Dj u3 u5 ∧ Dj u4 u5) ∧ Hd (Below w.heap.size w wr)) (fun _ _ _ _ _ ui _ => sl.length - (intOf ui).toNat)
  case atStart =>
    refine ⟨0, .slice none 0 0, rs0 mn mx rt ch, Nat.zero_le _, ⟨rfl⟩, rfl, rfl, ⟨?_⟩, ⟨?_⟩, ⟨Kd.V.nil⟩, ⟨?_⟩, ⟨Kd.Own.nil⟩, ⟨Kd.Own.nil⟩, ⟨Kd.Own.nil⟩, ⟨⟨fun j hj => (by cases hj), fun j hj => (by cases hj), fun j hj => (by cases hj)⟩⟩, ⟨?_⟩⟩
    · repeat (first | with_reducible exact HX.out | (with_reducible refine Blk.newE ?_; first | omega | (simp only [World.size_alloc, World.size_setCell, World.size_drew]; omega) | (simp; done)) | with_reducible refine Blk.alloc ?_ _ | with_reducible refine Blk.drew ?_ | with_reducible refine Blk.drewN ?_ _ | with_reducible refine Blk.far ?_ (by dsimp only; omega) _)
    · dsimp only [rs0]
      repeat (first | with_reducible exact HL2.out | (with_reducible refine Blk.newE ?_; first | omega | (simp only [World.size_alloc, World.size_setCell, World.size_drew]; omega) | (simp; done)) | with_reducible refine Blk.alloc ?_ _ | with_reducible refine Blk.drew ?_ | with_reducible refine Blk.drewN ?_ _ | with_reducible refine Blk.far ?_ (by dsimp only; omega) _)
    · refine Kd.V.mono (ok := fun k => k < w.heap.size) ?_ (fun j hj => .inl hj)
      dsimp only [rs0]
      repeat (first | with_reducible exact HVc.out | with_reducible exact (HVc.out.below HB.out) | with_reducible refine Kd.V.alloc ?_ _ | with_reducible refine Kd.V.drew ?_ | with_reducible refine Kd.V.drewN ?_ _ | with_reducible refine Kd.V.far ?_ (fun j hj => by dsimp only at hj ⊢; first | omega | (simp only [World.size_alloc, World.size_drew] at hj; omega)) _)
    · repeat (first | with_reducible exact HB.out | with_reducible exact Below.refl _ _ | with_reducible refine Below.alloc ?_ (by first | omega | (simp only [World.size_alloc, World.size_setCell, World.size_drew]; omega) | (simp; done)) _ | with_reducible refine Below.drew ?_ | with_reducible refine pw_below_drewN ?_ _ | with_reducible refine Below.setCell ?_ (by dsimp only; omega) _)
  case round =>
    clear HX HL HL2 HB x0 x1 x2 x3 x4 x5 x6 x7 x8 x9 q0 q1 q2 q3 q4 q5 q6 q7 q8 q9 q10 q11 q12 q13
    obtain ⟨k, v, S, hk, HSk, rfl, rfl, HX, HL, HVf, HVr, H3, H4, H5, HD, HB⟩ := hrel
    have hrb : RB mn mx rt ch k S := by rw [HSk.out]; exact rb_to HFIT.out k hk
    have hbn := hrb.now
    have hbr := hrb.rest
    obtain ⟨hlt3, hlt4, hlt5⟩ := hrb.lens
    have HSD : Hd (S.l.down = false) := ⟨hrb.cfg.2.2.2⟩
    have HSS := Hd.mk hrb
    clear hrb
    by_cases hlt : k < sl.length
    · obtain ⟨ad, ea, y0, y1⟩ := sts_get (HS.out.below HB.out) k hlt
      cases ea
      obtain ⟨R, hR⟩ : ∃ R, R = rsSend S k (nth st0 sl k) := ⟨_, rfl⟩
      have hR0 : R.2.2 = 0 := by rw [hR, HSk.out]; exact rs_sent HFIT.out k hlt
      have hst : rsTo mn mx rt ch sl (k + 1) = rsStep S k (nth st0 sl k) := by rw [rsTo, ← HSk.out]
      have hsb := HFIT.out.hst _ (nth_mem st0 sl k hlt)
      unfold rsStep at hst
      rw [← hR] at hst
      unfold rsSend at hR
      obtain ⟨x, hx⟩ : ∃ x, x = nth st0 sl k := ⟨_, rfl⟩
      rw [← hx] at y0 y1 hR hst hsb
      clear hx
      rcases x with ⟨sz, wt⟩
      rcases S with ⟨⟨l0, l1, l2, l3, l4, l5, lf⟩, ts, is, cs, now, rest⟩
      rcases R with ⟨⟨m0, m1, m2, m3, m4, m5, mf⟩, rc, re⟩
      dsimp only at *
      obtain ⟨n20, hn20⟩ : ∃ n, n = wt % 20 := ⟨_, rfl⟩
      have hn0 : 0 ≤ n20 ∧ n20 < 20 := by have h1 := Int.emod_nonneg wt (show (20 : Int) ≠ 0 by decide); have h2 := Int.emod_lt_of_pos wt (show (0 : Int) < 20 by decide); omega
      have htm : Int.tmod wt 20 = n20 := by rw [Int.tmod_eq_emod_of_nonneg hsb.2.2.1, hn20]
      have wU : IntKind.u8.wrap n20 = n20 := u8_in _ (by omega) (by omega)
      have wI : IntKind.i64.wrap n20 = n20 := IntWalk.i64_in _ (by omega)
      obtain ⟨now1, hnow1⟩ : ∃ n, n = now + n20 := ⟨_, rfl⟩
      have wS : IntKind.i64.wrap (now + n20) = now1 := by rw [hnow1]; exact IntWalk.i64_in _ (by omega)
      obtain ⟨pb, hpb⟩ : ∃ b, b = payF sz k := ⟨_, rfl⟩
      have hpbl : pb.length ≤ 9 := by rw [hpb]; exact (payF_len sz k hsb.1).2
      obtain ⟨hw, hhw⟩ : ∃ h, h = decI rest 3 := ⟨_, rfl⟩
      have hw3 := decI_lt rest 3 (by decide)
      rw [← hhw] at hw3
      rw [← hn20, ← hnow1, ← hpb] at hR
      rw [← hn20, ← hnow1, ← hhw] at hst
      subst hR0
      have HR := Hd.mk hR
      have HST := Hd.mk hst
      have HPB := Hd.mk hpb
      have HHW := Hd.mk hhw
      have hkl : (k : Int) < sl.length := by omega
      obtain ⟨hs0, hs1, hs2, hs3⟩ := hsb
      clear hR hst hpb hhw hn20 hnow1
      obtain ⟨A5, c5, rfl, hc5, -⟩ := HVf.out.reads
      obtain ⟨A7, c7, rfl, hc7, -⟩ := HVr.out.reads
      obtain ⟨x0, x1, x2, x3, x4, x5, x6, x7, x8, x9⟩ := HX.out.f5
      go_wp2_with fail
      refine (refDecide_calls A7 c7 rest 3 _ HVr.out.C hc7 (by omega) (by decide) (by decide)).mono ?_
      rw [← HHW.out]
      rintro e w2 ⟨u, rfl, hown, hb⟩
      have hz2 := hb.size
      have HBr := Hd.mk hb
      replace HX := Hd.mk (HX.out.below hb)
      replace HL := Hd.mk (HL.out.below hb)
      replace HVf := Hd.mk (HVf.out.below hb)
      replace HVr := Hd.mk (HVr.out.below hb)
      replace H3 := Hd.mk (H3.out.below hb)
      replace H4 := Hd.mk (H4.out.below hb)
      replace H5 := Hd.mk (H5.out.below hb)
      have hbz := HB.out.size
      have Y0 := keep hb y0
      have Y1 := keep hb y1
      replace HB := Hd.mk (bel_step HB.out hb (by omega))
      clear hb hown y0 y1 x0 x1 x2 x3 x4 x5 x6 x7 x8 x9 HBr
      obtain ⟨x0, x1, x2, x3, x4, x5, x6, x7, x8, x9⟩ := HX.out.f5
      obtain ⟨q0, q1, q2, q3, q4, q5, q6, q7, q8, q9, q10, q11, q12, q13⟩ := HL.out.f7
      go_wp2_with fail
      have HSof : Hd (∀ W, Below w2.heap.size w2 W → (fun W => (W.cell? ⟨w.heap.size + 1, 0, none⟩ = some (.int .i64 l0) ∧ W.cell? ⟨w.heap.size + 1, 1, none⟩ = some (.int .i64 l1) ∧ W.cell? ⟨w.heap.size + 1, 2, none⟩ = some (.int .i64 l2) ∧ W.cell? ⟨w.heap.size + 1, 3, none⟩ = some (.bool l3) ∧ W.cell? ⟨w.heap.size + 1, 4, none⟩ = some (.int .i64 l4) ∧ W.cell? ⟨w.heap.size + 1, 5, none⟩ = some (.int .i64 l5) ∧ W.cell? ⟨w.heap.size + 1, 6, none⟩ = some (.slice A5 lf.length c5)) ∧ W.cell? ⟨w.heap.size, 3, none⟩ = some (.slice (some ad) sl.length c) ∧ W.cell? (ad.add (k * 2)) = some (.int .u8 sz) ∧ W.cell? ⟨(ad.add (k * 2)).block, (ad.add (k * 2)).off + 1, none⟩ = some (.int .u8 wt)) W) := ⟨fun W hb => ⟨⟨keep hb q0, keep hb q1, keep hb q2, keep hb q3, keep hb q4, keep hb q5, keep hb q6⟩, keep hb x3, keep hb Y0, keep hb Y1⟩⟩
      refine wp_put [51, 52, 53, 54, 55, 56, 57, 58, 59, 60, 61, 50, 62, 63, 64, 13, 14, 15] (fun vs W => ∃ y0 y1 y2 y3 y4 y5 y6 y7 y8 y9 y10 y11 y12 y13 y14 : Value, ∃ (g : Nat) (Am : Option Addr) (cm : Nat) (Al : Option Addr) (cl : Nat), vs = [y0, y1, y2, y3, y4, y5, y6, y7, y8, y9, y10, y11, y12, y13, y14, .pointer (some ⟨g, 0, none⟩), .slice Al rc.length cl, .int .i64 0] ∧ Hd (Blk W g 26 #[.int .i64 m0, .int .i64 m1, .int .i64 m2, .bool m3, .int .i64 m4, .int .i64 m5, .slice Am mf.length cm]) ∧ w2.heap.size ≤ g ∧ Hd (fls.V W (fun j => w2.heap.size ≤ j ∧ j ≠ g) (.slice Am mf.length cm) mf) ∧ Hd ((ints .i64).V W (fun j => w2.heap.size ≤ j ∧ j ≠ g) (.slice Al rc.length cl) rc) ∧ rc.length ≤ cl ∧ Hd (Below w2.heap.size w2 W)) ?_ ?_
      · go_region_held3 (fun W => (W.cell? ⟨w.heap.size + 1, 0, none⟩ = some (.int .i64 l0) ∧ W.cell? ⟨w.heap.size + 1, 1, none⟩ = some (.int .i64 l1) ∧ W.cell? ⟨w.heap.size + 1, 2, none⟩ = some (.int .i64 l2) ∧ W.cell? ⟨w.heap.size + 1, 3, none⟩ = some (.bool l3) ∧ W.cell? ⟨w.heap.size + 1, 4, none⟩ = some (.int .i64 l4) ∧ W.cell? ⟨w.heap.size + 1, 5, none⟩ = some (.int .i64 l5) ∧ W.cell? ⟨w.heap.size + 1, 6, none⟩ = some (.slice A5 lf.length c5)) ∧ W.cell? ⟨w.heap.size, 3, none⟩ = some (.slice (some ad) sl.length c) ∧ W.cell? (ad.add (k * 2)) = some (.int .u8 sz) ∧ W.cell? ⟨(ad.add (k * 2)).block, (ad.add (k * 2)).off + 1, none⟩ = some (.int .u8 wt)) ((refine HSof.out _ ?_; repeat (first | with_reducible exact HB3.out | with_reducible exact HB4.out | with_reducible exact Below.refl _ _ | with_reducible refine Below.alloc ?_ (by first | omega | (simp only [World.size_alloc, World.size_setCell, World.size_drew]; omega) | (simp; done)) _ | with_reducible refine Below.drew ?_ | with_reducible refine pw_below_drewN ?_ _ | with_reducible refine Below.setCell ?_ (by dsimp only; omega) _)))
          (first
            | (go_at_call 24; with_reducible refine (payload_calls sz wt k w2.drew hs0 hs1 (by omega) (by omega)).mono ?_; rw [← HPB.out]; rintro e w3 ⟨vp, rfl, hown, hb⟩; obtain ⟨Ap, cp, rfl, hcp, -⟩ := hown.shape; have hbr3 := Hd.mk hb; have HB3 : Hd (Below w2.heap.size w2 w3) := ⟨bel_step (by repeat (first | with_reducible exact Below.refl _ _ | with_reducible refine Below.alloc ?_ (by first | omega | (simp only [World.size_alloc, World.size_setCell, World.size_drew]; omega) | (simp; done)) _ | with_reducible refine Below.drew ?_ | with_reducible refine pw_below_drewN ?_ _ | with_reducible refine Below.setCell ?_ (by dsimp only; omega) _)) hb (by first | omega | (simp only [World.size_alloc, World.size_setCell, World.size_drew]; omega) | (simp; done))⟩; have hz3 := HB3.out.size; have HPY : Hd ((ints .u8).V w3 (fun j => w2.heap.size ≤ j ∧ j < w3.heap.size) (.slice Ap pb.length cp) pb) := ⟨(hown.Vin (fun _ h => h.elim)).mono (fun j hj => ⟨by have h1 := hj.1; first | omega | (simp only [World.size_alloc, World.size_drew] at h1; omega), hj.2⟩)⟩; clear hown hb)
            | (go_at_call 24; with_reducible refine (payload_calls sz wt k ((w2.alloc (.cells #[.int .i64 0, .int .i64 0, .int .i64 0, .bool false, .int .i64 0, .int .i64 0, .slice none 0 0] 26)).drew) hs0 hs1 (by omega) (by omega)).mono ?_; rw [← HPB.out]; rintro e w3b ⟨vp, rfl, hown, hb⟩; obtain ⟨Ap, cp, rfl, hcp, -⟩ := hown.shape; have hbr3 := Hd.mk hb; have HB3 : Hd (Below w2.heap.size w2 w3b) := ⟨bel_step (by repeat (first | with_reducible exact Below.refl _ _ | with_reducible refine Below.alloc ?_ (by first | omega | (simp only [World.size_alloc, World.size_setCell, World.size_drew]; omega) | (simp; done)) _ | with_reducible refine Below.drew ?_ | with_reducible refine pw_below_drewN ?_ _ | with_reducible refine Below.setCell ?_ (by dsimp only; omega) _)) hb (by first | omega | (simp only [World.size_alloc, World.size_setCell, World.size_drew]; omega) | (simp; done))⟩; have hz3 := HB3.out.size; have HPY : Hd ((ints .u8).V w3b (fun j => w2.heap.size ≤ j ∧ j < w3b.heap.size) (.slice Ap pb.length cp) pb) := ⟨(hown.Vin (fun _ h => h.elim)).mono (fun j hj => ⟨by have h1 := hj.1; first | omega | (simp only [World.size_alloc, World.size_drew] at h1; omega), hj.2⟩)⟩; have HZ3 : Hd (Blk w3b w2.heap.size 26 #[.int .i64 0, .int .i64 0, .int .i64 0, .bool false, .int .i64 0, .int .i64 0, .slice none 0 0]) := ⟨Blk.below (by repeat (first | (with_reducible refine Blk.newE ?_; first | omega | (simp only [World.size_alloc, World.size_setCell, World.size_drew]; omega) | (simp; done)) | with_reducible refine Blk.alloc ?_ _ | with_reducible refine Blk.drew ?_ | with_reducible refine Blk.drewN ?_ _ | with_reducible refine Blk.far ?_ (by dsimp only; omega) _)) hb⟩; have hzl := HZ3.out.lt; clear hown hb)
            | (go_at_call 18; have e1 : fls.C w3 A5 lf := Kd.V.C (ok := okw w.heap.size u3 u4 u5) (by repeat (first | with_reducible exact (HVf.out.below HB3.out) | with_reducible refine Kd.V.alloc ?_ _ | with_reducible refine Kd.V.drew ?_ | with_reducible refine Kd.V.drewN ?_ _ | with_reducible refine Kd.V.far ?_ (fun j hj => by dsimp only at hj ⊢; first | omega | (simp only [World.size_alloc, World.size_drew] at hj; omega)) _)); have e2 : (ints .u8).C w3 Ap pb := Kd.V.C (ok := fun j => w2.heap.size ≤ j ∧ j < w3.heap.size) (by repeat (first | with_reducible exact HPY.out | with_reducible refine Kd.V.alloc ?_ _ | with_reducible refine Kd.V.drew ?_ | with_reducible refine Kd.V.drewN ?_ _ | with_reducible refine Kd.V.far ?_ (fun j hj => by dsimp only at hj ⊢; first | omega | (simp only [World.size_alloc, World.size_drew] at hj; omega)) _)); have e3 : (ints .i64).C w3 A7 rest := Kd.V.C (ok := okv w.heap.size u3 u4 u5) (by repeat (first | with_reducible exact (HVr.out.below HB3.out) | with_reducible refine Kd.V.alloc ?_ _ | with_reducible refine Kd.V.drew ?_ | with_reducible refine Kd.V.drewN ?_ _ | with_reducible refine Kd.V.far ?_ (fun j hj => by dsimp only at hj ⊢; first | omega | (simp only [World.size_alloc, World.size_drew] at hj; omega)) _)); refine (send_calls l0 l1 l2 l3 l4 l5 A5 c5 lf now1 Ap cp pb A7 c7 rest w3 e1 hc5 e2 hcp e3 hc7 (by omega)).mono ?_; clear e1 e2 e3; rw [← HR.out]; rintro e w4 h; obtain ⟨v, u, rfl, hv, hu, hb⟩ := h; dsimp only at hv hu ⊢; obtain ⟨Am, cm, rfl, hcm, -⟩ := hv.reads; obtain ⟨Al, cl, rfl, hcl, -⟩ := hu.reads; have hbr4 := Hd.mk hb; have HB4 : Hd (Below w2.heap.size w2 w4) := ⟨bel_step (by repeat (first | with_reducible exact HB3.out | with_reducible exact Below.refl _ _ | with_reducible refine Below.alloc ?_ (by first | omega | (simp only [World.size_alloc, World.size_setCell, World.size_drew]; omega) | (simp; done)) _ | with_reducible refine Below.drew ?_ | with_reducible refine pw_below_drewN ?_ _ | with_reducible refine Below.setCell ?_ (by dsimp only; omega) _)) hb (by first | omega | (simp only [World.size_alloc, World.size_setCell, World.size_drew]; omega) | (simp; done))⟩; have hz4 := hb.size; obtain ⟨lo, hlo⟩ : ∃ n, n = w3.heap.size := ⟨_, rfl⟩; have HVm : Hd (fls.V w4 (fun j => lo ≤ j ∧ j < w4.heap.size) (.slice Am mf.length cm) mf) := ⟨hv.bound.mono (fun j hj => ⟨Nat.le_trans (by rw [hlo]; first | omega | (simp only [World.size_alloc, World.size_drew]; omega) | (simp; done)) hj.1, hj.2⟩)⟩; have HVl : Hd ((ints .i64).V w4 (fun j => lo ≤ j ∧ j < w4.heap.size) (.slice Al rc.length cl) rc) := ⟨hu.bound.mono (fun j hj => ⟨Nat.le_trans (by rw [hlo]; first | omega | (simp only [World.size_alloc, World.size_drew]; omega) | (simp; done)) hj.1, hj.2⟩)⟩; clear hv hu hb)
            | (go_at_call 18; have e1 : fls.C (w3.alloc (.cells #[.int .i64 0, .int .i64 0, .int .i64 0, .bool false, .int .i64 0, .int .i64 0, .slice none 0 0] 26)) A5 lf := Kd.V.C (ok := okw w.heap.size u3 u4 u5) (by repeat (first | with_reducible exact (HVf.out.below HB3.out) | with_reducible refine Kd.V.alloc ?_ _ | with_reducible refine Kd.V.drew ?_ | with_reducible refine Kd.V.drewN ?_ _ | with_reducible refine Kd.V.far ?_ (fun j hj => by dsimp only at hj ⊢; first | omega | (simp only [World.size_alloc, World.size_drew] at hj; omega)) _)); have e2 : (ints .u8).C (w3.alloc (.cells #[.int .i64 0, .int .i64 0, .int .i64 0, .bool false, .int .i64 0, .int .i64 0, .slice none 0 0] 26)) Ap pb := Kd.V.C (ok := fun j => w2.heap.size ≤ j ∧ j < w3.heap.size) (by repeat (first | with_reducible exact HPY.out | with_reducible refine Kd.V.alloc ?_ _ | with_reducible refine Kd.V.drew ?_ | with_reducible refine Kd.V.drewN ?_ _ | with_reducible refine Kd.V.far ?_ (fun j hj => by dsimp only at hj ⊢; first | omega | (simp only [World.size_alloc, World.size_drew] at hj; omega)) _)); have e3 : (ints .i64).C (w3.alloc (.cells #[.int .i64 0, .int .i64 0, .int .i64 0, .bool false, .int .i64 0, .int .i64 0, .slice none 0 0] 26)) A7 rest := Kd.V.C (ok := okv w.heap.size u3 u4 u5) (by repeat (first | with_reducible exact (HVr.out.below HB3.out) | with_reducible refine Kd.V.alloc ?_ _ | with_reducible refine Kd.V.drew ?_ | with_reducible refine Kd.V.drewN ?_ _ | with_reducible refine Kd.V.far ?_ (fun j hj => by dsimp only at hj ⊢; first | omega | (simp only [World.size_alloc, World.size_drew] at hj; omega)) _)); refine (send_calls l0 l1 l2 l3 l4 l5 A5 c5 lf now1 Ap cp pb A7 c7 rest (w3.alloc (.cells #[.int .i64 0, .int .i64 0, .int .i64 0, .bool false, .int .i64 0, .int .i64 0, .slice none 0 0] 26)) e1 hc5 e2 hcp e3 hc7 (by omega)).mono ?_; clear e1 e2 e3; rw [← HR.out]; rintro e w4 h; obtain ⟨v, u, rfl, hv, hu, hb⟩ := h; dsimp only at hv hu ⊢; obtain ⟨Am, cm, rfl, hcm, -⟩ := hv.reads; obtain ⟨Al, cl, rfl, hcl, -⟩ := hu.reads; have hbr4 := Hd.mk hb; have HB4 : Hd (Below w2.heap.size w2 w4) := ⟨bel_step (by repeat (first | with_reducible exact HB3.out | with_reducible exact Below.refl _ _ | with_reducible refine Below.alloc ?_ (by first | omega | (simp only [World.size_alloc, World.size_setCell, World.size_drew]; omega) | (simp; done)) _ | with_reducible refine Below.drew ?_ | with_reducible refine pw_below_drewN ?_ _ | with_reducible refine Below.setCell ?_ (by dsimp only; omega) _)) hb (by first | omega | (simp only [World.size_alloc, World.size_setCell, World.size_drew]; omega) | (simp; done))⟩; have hz4 := hb.size; obtain ⟨lo, hlo⟩ : ∃ n, n = w3.heap.size + 1 := ⟨_, rfl⟩; have HVm : Hd (fls.V w4 (fun j => lo ≤ j ∧ j < w4.heap.size) (.slice Am mf.length cm) mf) := ⟨hv.bound.mono (fun j hj => ⟨Nat.le_trans (by rw [hlo]; first | omega | (simp only [World.size_alloc, World.size_drew]; omega) | (simp; done)) hj.1, hj.2⟩)⟩; have HVl : Hd ((ints .i64).V w4 (fun j => lo ≤ j ∧ j < w4.heap.size) (.slice Al rc.length cl) rc) := ⟨hu.bound.mono (fun j hj => ⟨Nat.le_trans (by rw [hlo]; first | omega | (simp only [World.size_alloc, World.size_drew]; omega) | (simp; done)) hj.1, hj.2⟩)⟩; have HZ4 : Hd (Blk w4 w3.heap.size 26 #[.int .i64 0, .int .i64 0, .int .i64 0, .bool false, .int .i64 0, .int .i64 0, .slice none 0 0]) := ⟨Blk.below (by repeat (first | (with_reducible refine Blk.newE ?_; first | omega | (simp only [World.size_alloc, World.size_setCell, World.size_drew]; omega) | (simp; done)) | with_reducible refine Blk.alloc ?_ _ | with_reducible refine Blk.drew ?_ | with_reducible refine Blk.drewN ?_ _ | with_reducible refine Blk.far ?_ (by dsimp only; omega) _)) hb⟩; obtain ⟨z0, z1, z2, z3, z4, z5, z6, z7, z8, z9, z10, z11, z12, z13⟩ := HZ4.out.f7; clear hv hu hb)
            | (go_at_call 18; have e1 : fls.C w3b A5 lf := Kd.V.C (ok := okw w.heap.size u3 u4 u5) (by repeat (first | with_reducible exact (HVf.out.below HB3.out) | with_reducible refine Kd.V.alloc ?_ _ | with_reducible refine Kd.V.drew ?_ | with_reducible refine Kd.V.drewN ?_ _ | with_reducible refine Kd.V.far ?_ (fun j hj => by dsimp only at hj ⊢; first | omega | (simp only [World.size_alloc, World.size_drew] at hj; omega)) _)); have e2 : (ints .u8).C w3b Ap pb := Kd.V.C (ok := fun j => w2.heap.size ≤ j ∧ j < w3b.heap.size) (by repeat (first | with_reducible exact HPY.out | with_reducible refine Kd.V.alloc ?_ _ | with_reducible refine Kd.V.drew ?_ | with_reducible refine Kd.V.drewN ?_ _ | with_reducible refine Kd.V.far ?_ (fun j hj => by dsimp only at hj ⊢; first | omega | (simp only [World.size_alloc, World.size_drew] at hj; omega)) _)); have e3 : (ints .i64).C w3b A7 rest := Kd.V.C (ok := okv w.heap.size u3 u4 u5) (by repeat (first | with_reducible exact (HVr.out.below HB3.out) | with_reducible refine Kd.V.alloc ?_ _ | with_reducible refine Kd.V.drew ?_ | with_reducible refine Kd.V.drewN ?_ _ | with_reducible refine Kd.V.far ?_ (fun j hj => by dsimp only at hj ⊢; first | omega | (simp only [World.size_alloc, World.size_drew] at hj; omega)) _)); refine (send_calls l0 l1 l2 l3 l4 l5 A5 c5 lf now1 Ap cp pb A7 c7 rest w3b e1 hc5 e2 hcp e3 hc7 (by omega)).mono ?_; clear e1 e2 e3; rw [← HR.out]; rintro e w4 h; obtain ⟨v, u, rfl, hv, hu, hb⟩ := h; dsimp only at hv hu ⊢; obtain ⟨Am, cm, rfl, hcm, -⟩ := hv.reads; obtain ⟨Al, cl, rfl, hcl, -⟩ := hu.reads; have hbr4 := Hd.mk hb; have HB4 : Hd (Below w2.heap.size w2 w4) := ⟨bel_step (by repeat (first | with_reducible exact HB3.out | with_reducible exact Below.refl _ _ | with_reducible refine Below.alloc ?_ (by first | omega | (simp only [World.size_alloc, World.size_setCell, World.size_drew]; omega) | (simp; done)) _ | with_reducible refine Below.drew ?_ | with_reducible refine pw_below_drewN ?_ _ | with_reducible refine Below.setCell ?_ (by dsimp only; omega) _)) hb (by first | omega | (simp only [World.size_alloc, World.size_setCell, World.size_drew]; omega) | (simp; done))⟩; have hz4 := hb.size; obtain ⟨lo, hlo⟩ : ∃ n, n = w3b.heap.size := ⟨_, rfl⟩; have HVm : Hd (fls.V w4 (fun j => lo ≤ j ∧ j < w4.heap.size) (.slice Am mf.length cm) mf) := ⟨hv.bound.mono (fun j hj => ⟨Nat.le_trans (by rw [hlo]; first | omega | (simp only [World.size_alloc, World.size_drew]; omega) | (simp; done)) hj.1, hj.2⟩)⟩; have HVl : Hd ((ints .i64).V w4 (fun j => lo ≤ j ∧ j < w4.heap.size) (.slice Al rc.length cl) rc) := ⟨hu.bound.mono (fun j hj => ⟨Nat.le_trans (by rw [hlo]; first | omega | (simp only [World.size_alloc, World.size_drew]; omega) | (simp; done)) hj.1, hj.2⟩)⟩; have HZ4 : Hd (Blk w4 w2.heap.size 26 #[.int .i64 0, .int .i64 0, .int .i64 0, .bool false, .int .i64 0, .int .i64 0, .slice none 0 0]) := ⟨Blk.below (by repeat (first | with_reducible exact HZ3.out | (with_reducible refine Blk.newE ?_; first | omega | (simp only [World.size_alloc, World.size_setCell, World.size_drew]; omega) | (simp; done)) | with_reducible refine Blk.alloc ?_ _ | with_reducible refine Blk.drew ?_ | with_reducible refine Blk.drewN ?_ _ | with_reducible refine Blk.far ?_ (by dsimp only; omega) _)) hb⟩; obtain ⟨z0, z1, z2, z3, z4, z5, z6, z7, z8, z9, z10, z11, z12, z13⟩ := HZ4.out.f7; clear hv hu hb)
            | fail)
        all_goals
          refine PutPost.mk [?_, ?_, ?_, ?_, ?_, ?_, ?_, ?_, ?_, ?_, ?_, ?_, ?_, ?_, ?_, ?_, ?_, ?_] ?_ ?_
          rotate_left 18
          · simp only [putL, List.zip_cons_cons, List.zip_nil_left, List.zip_nil_right, Act.put, List.setIfInBounds_toArray, List.set_cons_zero, List.set_cons_succ]
            rfl
          · refine ⟨_, _, _, _, _, _, _, _, _, _, _, _, _, _, _, _, Am, cm, Al, cl, rfl, ⟨?_⟩, ?_, ⟨?_⟩, ⟨?_⟩, hcl, ⟨?_⟩⟩
            · first
                | (with_reducible refine Blk.newE ?_; first | omega | (simp only [World.size_alloc, World.size_setCell, World.size_drew]; omega) | (simp; done))
                | (with_reducible refine put7 (a0 := .int .i64 0) (a1 := .int .i64 0) (a2 := .int .i64 0) (a3 := .bool false) (a4 := .int .i64 0) (a5 := .int .i64 0) (a6 := .slice none 0 0) ?_; first | with_reducible exact HZ4.out | (with_reducible refine Blk.newE ?_; first | omega | (simp only [World.size_alloc, World.size_setCell, World.size_drew]; omega) | (simp; done)))
            · first | omega | (simp only [World.size_alloc, World.size_drew]; omega) | (simp; done)
            · refine Kd.V.mono (ok := fun j => lo ≤ j ∧ j < w4.heap.size) ?_ (fun j hj => by (have h1 : lo ≤ j := hj.1); (have h2 : j < w4.heap.size := hj.2); exact ⟨by omega, by omega⟩)
              repeat (first | with_reducible exact HVm.out | with_reducible refine Kd.V.alloc ?_ _ | with_reducible refine Kd.V.drew ?_ | with_reducible refine Kd.V.drewN ?_ _ | with_reducible refine Kd.V.far ?_ (fun j hj => by dsimp only at hj ⊢; first | omega | (simp only [World.size_alloc, World.size_drew] at hj; omega)) _)
            · refine Kd.V.mono (ok := fun j => lo ≤ j ∧ j < w4.heap.size) ?_ (fun j hj => by (have h1 : lo ≤ j := hj.1); (have h2 : j < w4.heap.size := hj.2); exact ⟨by omega, by omega⟩)
              repeat (first | with_reducible exact HVl.out | with_reducible refine Kd.V.alloc ?_ _ | with_reducible refine Kd.V.drew ?_ | with_reducible refine Kd.V.drewN ?_ _ | with_reducible refine Kd.V.far ?_ (fun j hj => by dsimp only at hj ⊢; first | omega | (simp only [World.size_alloc, World.size_drew] at hj; omega)) _)
            · repeat (first | with_reducible exact HB4.out | with_reducible exact Below.refl _ _ | with_reducible refine Below.alloc ?_ (by first | omega | (simp only [World.size_alloc, World.size_setCell, World.size_drew]; omega) | (simp; done)) _ | with_reducible refine Below.drew ?_ | with_reducible refine pw_below_drewN ?_ _ | with_reducible refine Below.setCell ?_ (by dsimp only; omega) _)
      have H3b := Hd.mk H3.out.blk
      have H4b := Hd.mk H4.out.blk
      have H5b := Hd.mk H5.out.blk
      rintro vs w5 ⟨y0, y1, y2, y3, y4, y5, y6, y7, y8, y9, y10, y11, y12, y13, y14, g, Am, cm, Al, cl, rfl, HM, hg, HVm, HVl, hcl, hb5⟩
      simp only [putL, List.zip_cons_cons, List.zip_nil_left, List.zip_nil_right, Act.put, List.setIfInBounds_toArray, List.set_cons_zero, List.set_cons_succ]
      have hz5 := hb5.out.size
      have hlz := HL.out.lt
      replace H3 := Hd.mk (H3.out.below hb5.out)
      replace H4 := Hd.mk (H4.out.below hb5.out)
      replace H5 := Hd.mk (H5.out.below hb5.out)
      replace HX := Hd.mk (HX.out.below hb5.out)
      replace HL := Hd.mk (HL.out.below hb5.out)
      replace HB := Hd.mk (bel_step HB.out hb5.out (by omega))
      have H3c : Hd (∀ j, u3.ownBlock = some j → j < w5.heap.size) := ⟨fun j h => Nat.lt_of_lt_of_le (H3b.out j h).2 hz5⟩
      have H4c : Hd (∀ j, u4.ownBlock = some j → j < w5.heap.size) := ⟨fun j h => Nat.lt_of_lt_of_le (H4b.out j h).2 hz5⟩
      have H5c : Hd (∀ j, u5.ownBlock = some j → j < w5.heap.size) := ⟨fun j h => Nat.lt_of_lt_of_le (H5b.out j h).2 hz5⟩
      have hglt := HM.out.lt
      clear HSof HVf HVr Y0 Y1 x0 x1 x2 x3 x4 x5 x6 x7 x8 x9 q0 q1 q2 q3 q4 q5 q6 q7 q8 q9 q10 q11 q12 q13 hb5
      iterate 27 (first | go_values | go_skip | go_guarded | go_step | go_upon | go_back)
      refine at_region 14 ?_
      refine wp_put [68, 69, 16] (fun vs W => ∃ (y0 y1 : Value) (n1 : Int), vs = [y0, y1, .int .i64 n1] ∧ W = w5 ∧ Hd (n1 = noff hw)) ?_ ?_
      · by_cases h1 : hw = 1
        · have b1 : (hw == 1) = true := by simp [h1]
          have H1 := Hd.mk h1
          clear h1
          go_wp2
          refine PutPost.mk [?_, ?_, ?_] ?_ ?_
          rotate_left 3
          · simp only [putL, List.zip_cons_cons, List.zip_nil_left, List.zip_nil_right, Act.put, List.setIfInBounds_toArray, List.set_cons_zero, List.set_cons_succ]
            rfl
          · refine ⟨_, _, _, rfl, rfl, ⟨?_⟩⟩
            rw [noff, if_pos H1.out]
        · have b1 : (hw == 1) = false := by simp [h1]
          have H1 := Hd.mk h1
          clear h1
          go_wp2
          refine PutPost.mk [?_, ?_, ?_] ?_ ?_
          rotate_left 3
          · simp only [putL, List.zip_cons_cons, List.zip_nil_left, List.zip_nil_right, Act.put, List.setIfInBounds_toArray, List.set_cons_zero, List.set_cons_succ]
            rfl
          · refine ⟨_, _, _, rfl, rfl, ⟨?_⟩⟩
            rw [noff, if_neg H1.out]
      rintro vs w' ⟨u68, u69, n1, rfl, rfl, HN1⟩
      simp only [putL, List.zip_cons_cons, List.zip_nil_left, List.zip_nil_right, Act.put, List.setIfInBounds_toArray, List.set_cons_zero, List.set_cons_succ]
      iterate 3 (first | go_values | go_skip | go_guarded | go_step | go_upon | go_back)
      refine at_region 16 ?_
      refine wp_put [70, 71, 16] (fun vs W => ∃ (y0 y1 : Value) (n2 : Int), vs = [y0, y1, .int .i64 n2] ∧ W = w' ∧ Hd (n2 = (arrN hw : Int))) ?_ ?_
      · by_cases h1 : hw = 2
        · have b1 : (hw == 2) = true := by simp [h1]
          have H1 := Hd.mk h1
          clear h1
          go_wp2
          refine PutPost.mk [?_, ?_, ?_] ?_ ?_
          rotate_left 3
          · simp only [putL, List.zip_cons_cons, List.zip_nil_left, List.zip_nil_right, Act.put, List.setIfInBounds_toArray, List.set_cons_zero, List.set_cons_succ]
            rfl
          · refine ⟨_, _, _, rfl, rfl, ⟨?_⟩⟩
            rw [H1.out]; rfl
        · have b1 : (hw == 2) = false := by simp [h1]
          have H1 := Hd.mk h1
          clear h1
          go_wp2
          refine PutPost.mk [?_, ?_, ?_] ?_ ?_
          rotate_left 3
          · simp only [putL, List.zip_cons_cons, List.zip_nil_left, List.zip_nil_right, Act.put, List.setIfInBounds_toArray, List.set_cons_zero, List.set_cons_succ]
            rfl
          · refine ⟨_, _, _, rfl, rfl, ⟨?_⟩⟩
            have h2 := H1.out
            rw [HN1.out, noff]
            rcases (by omega : hw = 0 ∨ hw = 1) with h | h <;> rw [h] <;> rfl
      rintro vs w5 ⟨u70, u71, n2, rfl, rfl, HN2⟩
      simp only [putL, List.zip_cons_cons, List.zip_nil_left, List.zip_nil_right, Act.put, List.setIfInBounds_toArray, List.set_cons_zero, List.set_cons_succ]
      obtain ⟨e0, e1, e2, e3, e4, e5, e6, e7, e8, e9, e10, e11, e12, e13⟩ := HM.out.f7
      go_wp2_with fail
      refine wp_put [72, 73, 74, 75, 76, 77, 78, 79, 80, 81, 82, 83, 84, 3, 4, 5] (fun vs W => ∃ o0 o1 o2 o3 o4 o5 o6 o7 o8 o9 o10 o11 o12 v3 v4 v5 : Value, vs = [o0, o1, o2, o3, o4, o5, o6, o7, o8, o9, o10, o11, o12, v3, v4, v5] ∧ Hd ((ints .i64).Own 3 W (w.heap.size + 2) (fun _ => False) v3 (ts ++ [now1])) ∧ Hd ((ints .i64).Own 3 W (w.heap.size + 2) (fun _ => False) v4 (is ++ [m4])) ∧ Hd ((ints .i64).Own 3 W (w.heap.size + 2) (fun _ => False) v5 (cs ++ [n2])) ∧ Hd (Dj v3 v4 ∧ Dj v3 v5 ∧ Dj v4 v5) ∧
        Hd (∀ j, j < w5.heap.size → some j ≠ u3.ownBlock → some j ≠ u4.ownBlock → some j ≠ u5.ownBlock → W.heap[j]? = w5.heap[j]?) ∧ Hd ((v3.ownBlock = u3.ownBlock ∨ ∃ x, v3.ownBlock = some x ∧ w5.heap.size ≤ x) ∧ (v4.ownBlock = u4.ownBlock ∨ ∃ x, v4.ownBlock = some x ∧ w5.heap.size ≤ x) ∧ (v5.ownBlock = u5.ownBlock ∨ ∃ x, v5.ownBlock = some x ∧ w5.heap.size ≤ x)) ∧ Hd (Below w.heap.size w W) ∧ w5.heap.size ≤ W.heap.size) ?_ ?_
      · go_region_held3 (fun W => W.cell? ⟨g, 4, none⟩ = some (.int .i64 m4)) ((refine Blk.cell (T := 26) (cs := #[.int .i64 m0, .int .i64 m1, .int .i64 m2, .bool m3, .int .i64 m4, .int .i64 m5, .slice Am mf.length cm]) ?_ 4 rfl; repeat (first | with_reducible exact HM.out | (with_reducible refine Blk.newE ?_; first | omega | (simp only [World.size_alloc, World.size_setCell, World.size_drew]; omega) | (simp; done)) | with_reducible refine Blk.alloc ?_ _ | with_reducible refine Blk.drew ?_ | with_reducible refine Blk.drewN ?_ _ | with_reducible refine Blk.far ?_ (by dsimp only; omega) _ | with_reducible refine Blk.grown ?_ HG1.out (fun h => by have h1 := (H3b.out _ h.symm).2; first | omega | (simp only [World.size_alloc, World.size_drew] at *; omega)) | with_reducible refine Blk.grown ?_ HG2.out (fun h => by have h1 := (H4b.out _ h.symm).2; first | omega | (simp only [World.size_alloc, World.size_drew] at *; omega)) | with_reducible refine Blk.grown ?_ HG3.out (fun h => by have h1 := (H5b.out _ h.symm).2; first | omega | (simp only [World.size_alloc, World.size_drew] at *; omega)))))
          (first
            | (refine Kd.Own.step_appendRow (d := (ints .i64)) (ok := fun _ => False) (m := 1) (ys := [now1]) (xs := ts) (v := u3) (base := w.heap.size + 2) (by rfl) (.tmp 72) (.tmp 74) 40 (.int .i64 0) 8 (by rfl) Try.underlying40 info3 rfl (by decide) (by rfl) (by rfl) (by repeat (first | with_reducible exact H3.out | with_reducible refine Kd.Own.alloc ?_ _ | with_reducible refine Kd.Own.drew ?_)) (ints_one_fp (T := 3) (by repeat (first | (with_reducible refine Blk.newE ?_; first | omega | (simp only [World.size_alloc, World.size_setCell, World.size_drew]; omega) | (simp; done)) | with_reducible refine Blk.alloc ?_ _ | with_reducible refine Blk.drew ?_ | with_reducible refine Blk.drewN ?_ _ | with_reducible refine Blk.far ?_ (by dsimp only; omega) _))) rfl (fun j hj _ h => Nat.lt_irrefl j (Nat.lt_of_lt_of_le (H3c.out j h.symm) (by (have h2 : j = _ := hj); rw [h2]; first | omega | (simp only [World.size_alloc, World.size_drew]; omega) | (simp; done)))) (by first | omega | (simp only [World.size_alloc, World.size_setCell, World.size_drew]; omega) | (simp; done)) (by omega) ?_; intro v3 w6 hown hg hat; have HG1 := Hd.mk hg; have HN1r := Hd.mk (ints_own hown); have HB1 : Hd (∀ j, v3.ownBlock = some j → j < w6.heap.size) := ⟨fun j h => (hown.blk j h).2⟩; have hzw6 : w5.heap.size ≤ w6.heap.size := Nat.le_trans (by first | omega | (simp only [World.size_alloc, World.size_setCell, World.size_drew]; omega) | (simp; done)) hg.size; have HT1 : Hd (v3.ownBlock = u3.ownBlock ∨ ∃ b, v3.ownBlock = some b ∧ w5.heap.size ≤ b) := ⟨hat.imp id (fun ⟨b, h1, h2⟩ => ⟨b, h1, Nat.le_trans (by first | omega | (simp only [World.size_alloc, World.size_setCell, World.size_drew]; omega) | (simp; done)) h2⟩)⟩; clear hown hg hat)
            | (refine Kd.Own.step_appendRow (d := (ints .i64)) (ok := fun _ => False) (m := 1) (ys := [m4]) (xs := is) (v := u4) (base := w.heap.size + 2) (by rfl) (.tmp 76) (.tmp 79) 40 (.int .i64 0) 8 (by rfl) Try.underlying40 info3 rfl (by decide) (by rfl) (by rfl) (by repeat (first | with_reducible exact H4.out | with_reducible refine Kd.Own.alloc ?_ _ | with_reducible refine Kd.Own.drew ?_ | with_reducible refine Kd.Own.grown ?_ HG1.out (fun k hk _ => hk.elim) (Dj.no HD.out.1))) (ints_one_fp (T := 3) (by repeat (first | (with_reducible refine Blk.newE ?_; first | omega | (simp only [World.size_alloc, World.size_setCell, World.size_drew]; omega) | (simp; done)) | with_reducible refine Blk.alloc ?_ _ | with_reducible refine Blk.drew ?_ | with_reducible refine Blk.drewN ?_ _ | with_reducible refine Blk.far ?_ (by dsimp only; omega) _ | with_reducible refine Blk.grown ?_ HG1.out (fun h => by have h1 := (H3b.out _ h.symm).2; first | omega | (simp only [World.size_alloc, World.size_drew] at *; omega))))) rfl (fun j hj _ h => Nat.lt_irrefl j (Nat.lt_of_lt_of_le (H4c.out j h.symm) (by (have h2 : j = _ := hj); rw [h2]; first | omega | (simp only [World.size_alloc, World.size_drew]; omega) | (simp; done)))) (by first | omega | (simp only [World.size_alloc, World.size_setCell, World.size_drew]; omega) | (simp; done)) (by omega) ?_; intro v4 w7 hown hg hat; have HG2 := Hd.mk hg; have HN2r := Hd.mk (ints_own hown); have HB2 : Hd (∀ j, v4.ownBlock = some j → j < w7.heap.size) := ⟨fun j h => (hown.blk j h).2⟩; have hzw7 : w6.heap.size ≤ w7.heap.size := Nat.le_trans (by first | omega | (simp only [World.size_alloc, World.size_setCell, World.size_drew]; omega) | (simp; done)) hg.size; have HT2 : Hd (v4.ownBlock = u4.ownBlock ∨ ∃ b, v4.ownBlock = some b ∧ w6.heap.size ≤ b) := ⟨hat.imp id (fun ⟨b, h1, h2⟩ => ⟨b, h1, Nat.le_trans (by first | omega | (simp only [World.size_alloc, World.size_setCell, World.size_drew]; omega) | (simp; done)) h2⟩)⟩; have HT2w : Hd (v4.ownBlock = u4.ownBlock ∨ ∃ b, v4.ownBlock = some b ∧ w5.heap.size ≤ b) := ⟨HT2.out.imp id (fun ⟨b, h1, h2⟩ => ⟨b, h1, by omega⟩)⟩; clear hown hg hat)
            | (refine Kd.Own.step_appendRow (d := (ints .i64)) (ok := fun _ => False) (m := 1) (ys := [n2]) (xs := cs) (v := u5) (base := w.heap.size + 2) (by rfl) (.tmp 81) (.tmp 83) 40 (.int .i64 0) 8 (by rfl) Try.underlying40 info3 rfl (by decide) (by rfl) (by rfl) (by repeat (first | with_reducible exact H5.out | with_reducible refine Kd.Own.alloc ?_ _ | with_reducible refine Kd.Own.drew ?_ | with_reducible refine Kd.Own.grown ?_ HG2.out (fun k hk _ => hk.elim) (Dj.no HD.out.2.2) | with_reducible refine Kd.Own.grown ?_ HG1.out (fun k hk _ => hk.elim) (Dj.no HD.out.2.1))) (ints_one_fp (T := 3) (by repeat (first | (with_reducible refine Blk.newE ?_; first | omega | (simp only [World.size_alloc, World.size_setCell, World.size_drew]; omega) | (simp; done)) | with_reducible refine Blk.alloc ?_ _ | with_reducible refine Blk.drew ?_ | with_reducible refine Blk.drewN ?_ _ | with_reducible refine Blk.far ?_ (by dsimp only; omega) _ | with_reducible refine Blk.grown ?_ HG1.out (fun h => by have h1 := (H3b.out _ h.symm).2; first | omega | (simp only [World.size_alloc, World.size_drew] at *; omega)) | with_reducible refine Blk.grown ?_ HG2.out (fun h => by have h1 := (H4b.out _ h.symm).2; first | omega | (simp only [World.size_alloc, World.size_drew] at *; omega))))) rfl (fun j hj _ h => Nat.lt_irrefl j (Nat.lt_of_lt_of_le (H5c.out j h.symm) (by (have h2 : j = _ := hj); rw [h2]; first | omega | (simp only [World.size_alloc, World.size_drew]; omega) | (simp; done)))) (by first | omega | (simp only [World.size_alloc, World.size_setCell, World.size_drew]; omega) | (simp; done)) (by omega) ?_; intro v5 w8 hown hg hat; have HG3 := Hd.mk hg; have HN3r := Hd.mk (ints_own hown); have HB3 : Hd (∀ j, v5.ownBlock = some j → j < w8.heap.size) := ⟨fun j h => (hown.blk j h).2⟩; have hzw8 : w7.heap.size ≤ w8.heap.size := Nat.le_trans (by first | omega | (simp only [World.size_alloc, World.size_setCell, World.size_drew]; omega) | (simp; done)) hg.size; have HT3 : Hd (v5.ownBlock = u5.ownBlock ∨ ∃ b, v5.ownBlock = some b ∧ w7.heap.size ≤ b) := ⟨hat.imp id (fun ⟨b, h1, h2⟩ => ⟨b, h1, Nat.le_trans (by first | omega | (simp only [World.size_alloc, World.size_setCell, World.size_drew]; omega) | (simp; done)) h2⟩)⟩; have HT3w : Hd (v5.ownBlock = u5.ownBlock ∨ ∃ b, v5.ownBlock = some b ∧ w5.heap.size ≤ b) := ⟨HT3.out.imp id (fun ⟨b, h1, h2⟩ => ⟨b, h1, by omega⟩)⟩; clear hown hg hat)
            | fail)
        all_goals
          refine PutPost.mk [?_, ?_, ?_, ?_, ?_, ?_, ?_, ?_, ?_, ?_, ?_, ?_, ?_, ?_, ?_, ?_] ?_ ?_
          rotate_left 16
          · simp only [putL, List.zip_cons_cons, List.zip_nil_left, List.zip_nil_right, Act.put, List.setIfInBounds_toArray, List.set_cons_zero, List.set_cons_succ]
            rfl
          · refine ⟨_, _, _, _, _, _, _, _, _, _, _, _, _, _, _, _, rfl, ⟨?_⟩, ⟨?_⟩, ⟨?_⟩, ⟨⟨?_, ?_, ?_⟩⟩, ⟨fun j hj h3 h4 h5 => ?_⟩, ⟨⟨HT1.out, HT2w.out, HT3w.out⟩⟩, ⟨?_⟩, ?_⟩
            · repeat (first | with_reducible exact HN1r.out | with_reducible refine Kd.Own.alloc ?_ _ | with_reducible refine Kd.Own.drew ?_ | with_reducible refine Kd.Own.grown ?_ HG3.out (fun k hk _ => hk.elim) (own_nd HT1.out HD.out.2.1 H5c.out) | with_reducible refine Kd.Own.grown ?_ HG2.out (fun k hk _ => hk.elim) (own_nd HT1.out HD.out.1 H4c.out))
            · repeat (first | with_reducible exact HN2r.out | with_reducible refine Kd.Own.alloc ?_ _ | with_reducible refine Kd.Own.drew ?_ | with_reducible refine Kd.Own.grown ?_ HG3.out (fun k hk _ => hk.elim) (own_nd HT2w.out HD.out.2.2 H5c.out))
            · exact HN3r.out
            · exact dj_mk HD.out.1 H3c.out H4c.out HT1.out HB1.out HT2.out (by omega)
            · exact dj_mk HD.out.2.1 H3c.out H5c.out HT1.out (fun j hj => Nat.lt_of_lt_of_le (HB1.out j hj) (by omega)) HT3.out (by omega)
            · exact dj_mk HD.out.2.2 H4c.out H5c.out HT2w.out HB2.out HT3.out (by omega)
            · refine SmA.heap ?_
              repeat (first | with_reducible exact SmA.refl hj | with_reducible refine SmA.alloc ?_ _ | with_reducible refine SmA.drew ?_ | with_reducible refine SmA.grown ?_ HG1.out h3 | with_reducible refine SmA.grown ?_ HG2.out h4 | with_reducible refine SmA.grown ?_ HG3.out h5)
            · repeat (first | with_reducible refine Below.grown ?_ HG1.out (by first | omega | (simp only [World.size_alloc, World.size_setCell, World.size_drew]; omega) | (simp; done)) (fun j h => by have := (H3b.out j h).1; omega) | with_reducible refine Below.grown ?_ HG2.out (by first | omega | (simp only [World.size_alloc, World.size_setCell, World.size_drew]; omega) | (simp; done)) (fun j h => by have := (H4b.out j h).1; omega) | with_reducible refine Below.grown ?_ HG3.out (by first | omega | (simp only [World.size_alloc, World.size_setCell, World.size_drew]; omega) | (simp; done)) (fun j h => by have := (H5b.out j h).1; omega) | with_reducible exact HB.out | with_reducible exact Below.refl _ _ | with_reducible refine Below.alloc ?_ (by first | omega | (simp only [World.size_alloc, World.size_setCell, World.size_drew]; omega) | (simp; done)) _ | with_reducible refine Below.drew ?_ | with_reducible refine pw_below_drewN ?_ _ | with_reducible refine Below.setCell ?_ (by dsimp only; omega) _)
            · omega
      rintro vs w8 ⟨o0, o1, o2, o3, o4, o5, o6, o7, o8, o9, o10, o11, o12, v3, v4, v5, rfl, HN3, HN4, HN5, HDn, HSm, HTT, HBn, hz8⟩
      simp only [putL, List.zip_cons_cons, List.zip_nil_left, List.zip_nil_right, Act.put, List.setIfInBounds_toArray, List.set_cons_zero, List.set_cons_succ]
      replace HX : Hd (Blk w8 w.heap.size 49 #[.int .i64 mn, .int .i64 mx, .int .i64 rt, .slice (some ad) sl.length c, .slice A1 ch.length c1]) := ⟨(HSm.out _ (by omega) (fun h => by have := (H3b.out _ h.symm).1; omega) (fun h => by have := (H4b.out _ h.symm).1; omega) (fun h => by have := (H5b.out _ h.symm).1; omega)).trans HX.out⟩
      replace HL : Hd (Blk w8 (w.heap.size + 1) 26 #[.int .i64 l0, .int .i64 l1, .int .i64 l2, .bool l3, .int .i64 l4, .int .i64 l5, .slice A5 lf.length c5]) := ⟨(HSm.out _ (by omega) (fun h => by have := (H3b.out _ h.symm).1; omega) (fun h => by have := (H4b.out _ h.symm).1; omega) (fun h => by have := (H5b.out _ h.symm).1; omega)).trans HL.out⟩
      replace HM : Hd (Blk w8 g 26 #[.int .i64 m0, .int .i64 m1, .int .i64 m2, .bool m3, .int .i64 m4, .int .i64 m5, .slice Am mf.length cm]) := ⟨(HSm.out _ hglt (fun h => by have := (H3b.out _ h.symm).2; omega) (fun h => by have := (H4b.out _ h.symm).2; omega) (fun h => by have := (H5b.out _ h.symm).2; omega)).trans HM.out⟩
      replace HVm := Hd.mk (HVm.out.bound.step (W1 := w8) (fun j hj hjl => HSm.out j hjl (fun h => by have h1 := (H3b.out _ h.symm).2; have h2 := hj.1.1; omega) (fun h => by have h1 := (H4b.out _ h.symm).2; have h2 := hj.1.1; omega) (fun h => by have h1 := (H5b.out _ h.symm).2; have h2 := hj.1.1; omega)))
      replace HVl := Hd.mk (HVl.out.bound.step (W1 := w8) (fun j hj hjl => HSm.out j hjl (fun h => by have h1 := (H3b.out _ h.symm).2; have h2 := hj.1.1; omega) (fun h => by have h1 := (H4b.out _ h.symm).2; have h2 := hj.1.1; omega) (fun h => by have h1 := (H5b.out _ h.symm).2; have h2 := hj.1.1; omega)))
      have HOK : Hd (∀ j, (w2.heap.size ≤ j ∧ j ≠ g) ∧ j < w5.heap.size → okw w.heap.size v3 v4 v5 j) := ⟨fun j hj => ⟨by have := hj.1.1; omega, own_ne HTT.out.1 hj.2 (fun h => by have h1 := (H3b.out _ h.symm).2; have h2 := hj.1.1; omega), own_ne HTT.out.2.1 hj.2 (fun h => by have h1 := (H4b.out _ h.symm).2; have h2 := hj.1.1; omega), own_ne HTT.out.2.2 hj.2 (fun h => by have h1 := (H5b.out _ h.symm).2; have h2 := hj.1.1; omega)⟩⟩
      clear e0 e1 e2 e3 e4 e5 e6 e7 e8 e9 e10 e11 e12 e13 HSm HTT H3 H4 H5 HD HB H3b H4b H5b H3c H4c H5c
      obtain ⟨e0, e1, e2, e3, e4, e5, e6, e7, e8, e9, e10, e11, e12, e13⟩ := HM.out.f7
      obtain ⟨q0, q1, q2, q3, q4, q5, q6, q7, q8, q9, q10, q11, q12, q13⟩ := HL.out.f7
      have HL2 := Hd.mk (put7 (b0 := .int .i64 m0) (b1 := .int .i64 m1) (b2 := .int .i64 m2) (b3 := .bool m3) (b4 := .int .i64 m4) (b5 := .int .i64 m5) (b6 := .slice Am mf.length cm) HL.out)
      have hkw : IntKind.i64.wrap ((k : Int) + 1) = (k : Int) + 1 := IntWalk.i64_in _ (by omega)
      go_wp2
      go_roundw
      case rel =>
        refine ⟨k + 1, .slice Am mf.length cm, ⟨⟨m0, m1, m2, m3, m4, m5, mf⟩, ts ++ [now1], is ++ [m4], cs ++ [n2], now1, rc⟩, by omega, ⟨by rw [HST.out, HN2.out]⟩, by go_num, rfl, ⟨?_⟩, ⟨?_⟩, ⟨?_⟩, ⟨?_⟩, ⟨?_⟩, ⟨?_⟩, ⟨?_⟩, HDn, ⟨?_⟩⟩
        · repeat (first | with_reducible exact HX.out | (with_reducible refine Blk.newE ?_; first | omega | (simp only [World.size_alloc, World.size_setCell, World.size_drew]; omega) | (simp; done)) | with_reducible refine Blk.alloc ?_ _ | with_reducible refine Blk.drew ?_ | with_reducible refine Blk.drewN ?_ _ | with_reducible refine Blk.far ?_ (by dsimp only; omega) _)
        · exact HL2.out
        · refine Kd.V.mono (ok := fun j => (w2.heap.size ≤ j ∧ j ≠ g) ∧ j < w5.heap.size) ?_ (fun j hj => HOK.out j hj)
          repeat (first | with_reducible exact HVm.out | with_reducible refine Kd.V.alloc ?_ _ | with_reducible refine Kd.V.drew ?_ | with_reducible refine Kd.V.drewN ?_ _ | with_reducible refine Kd.V.far ?_ (fun j hj => by dsimp only at hj ⊢; first | omega | (simp only [World.size_alloc, World.size_drew] at hj; omega)) _)
        · refine Kd.V.mono (ok := fun j => (w2.heap.size ≤ j ∧ j ≠ g) ∧ j < w5.heap.size) ?_ (fun j hj => .inr (HOK.out j hj))
          repeat (first | with_reducible exact HVl.out | with_reducible refine Kd.V.alloc ?_ _ | with_reducible refine Kd.V.drew ?_ | with_reducible refine Kd.V.drewN ?_ _ | with_reducible refine Kd.V.far ?_ (fun j hj => by dsimp only at hj ⊢; first | omega | (simp only [World.size_alloc, World.size_drew] at hj; omega)) _)
        · repeat (first | with_reducible exact HN3.out | with_reducible refine Kd.Own.alloc ?_ _ | with_reducible refine Kd.Own.drew ?_ | with_reducible refine Kd.Own.set ?_ (fun _ h => h.elim) (by dsimp only; omega) _)
        · repeat (first | with_reducible exact HN4.out | with_reducible refine Kd.Own.alloc ?_ _ | with_reducible refine Kd.Own.drew ?_ | with_reducible refine Kd.Own.set ?_ (fun _ h => h.elim) (by dsimp only; omega) _)
        · repeat (first | with_reducible exact HN5.out | with_reducible refine Kd.Own.alloc ?_ _ | with_reducible refine Kd.Own.drew ?_ | with_reducible refine Kd.Own.set ?_ (fun _ h => h.elim) (by dsimp only; omega) _)
        · repeat (first | with_reducible exact HBn.out | with_reducible exact Below.refl _ _ | with_reducible refine Below.alloc ?_ (by first | omega | (simp only [World.size_alloc, World.size_setCell, World.size_drew]; omega) | (simp; done)) _ | with_reducible refine Below.drew ?_ | with_reducible refine pw_below_drewN ?_ _ | with_reducible refine Below.setCell ?_ (by dsimp only; omega) _)
      case measure => simp [intOf]; omega
    · have hkl : k = sl.length := by omega
      have hkl2 : ¬ (k : Int) < sl.length := by omega
      have hE : FIN = S := by rw [HFIN.out, HSk.out, hkl]
      have HE := Hd.mk hE
      rcases S with ⟨⟨l0, l1, l2, l3, l4, l5, lf⟩, ts, is, cs, now, rest⟩
      dsimp only at *
      obtain ⟨A5, c5, rfl, hc5, -⟩ := HVf.out.reads
      have hbz := HB.out.size
      clear hE hkl
      obtain ⟨x0, x1, x2, x3, x4, x5, x6, x7, x8, x9⟩ := HX.out.f5
      obtain ⟨q0, q1, q2, q3, q4, q5, q6, q7, q8, q9, q10, q11, q12, q13⟩ := HL.out.f7
      have HL2 := Hd.mk (put7 (b0 := .int .i64 l0) (b1 := .int .i64 l1) (b2 := .int .i64 l2) (b3 := .bool l3) (b4 := .int .i64 l4) (b5 := .int .i64 l5) (b6 := .slice A5 lf.length c5) HL.out)
      obtain ⟨y0, y1, y2, y3, y4, y5, y6, y7, y8, y9, y10, y11, y12, y13⟩ := HL2.out.f7
      go_wp2
      refine bodyPost_ret (v := .tuple #[.agg #[.int .i64 l0, .int .i64 l1, .int .i64 l2, .bool l3, .int .i64 l4, .int .i64 l5, .slice A5 lf.length c5], u3, u4, u5, .bool true]) (by simp [results, Try.results22, go_sem, y0, y1, y2, y3, y4, y5, y6]) rfl ?_
      rw [HE.out]
      refine ⟨_, _, _, _, rfl, ?_, ?_, ?_, ?_, ?_⟩
      · have HVg : Hd (fls.V wr (fun j => w.heap.size + 2 ≤ j) (.slice A5 lf.length c5) lf) := ⟨HVf.out.mono (fun j hj => hj.1)⟩
        refine Kd.V.mono (ok := fun j => w.heap.size + 2 ≤ j) ?_ (fun j hj => by have h5 : w.heap.size + 2 ≤ j := hj; omega)
        dsimp only
        repeat (first | with_reducible exact HVg.out | with_reducible refine Kd.V.alloc ?_ _ | with_reducible refine Kd.V.drew ?_ | with_reducible refine Kd.V.drewN ?_ _ | with_reducible refine Kd.V.far ?_ (fun j hj => by dsimp only at hj ⊢; first | omega | (simp only [World.size_alloc, World.size_drew] at hj; omega)) _)
      · refine Kd.Own.lower (base := w.heap.size + 2) ?_ (by omega)
        repeat (first | with_reducible exact H3.out | with_reducible refine Kd.Own.alloc ?_ _ | with_reducible refine Kd.Own.drew ?_ | with_reducible refine Kd.Own.set ?_ (fun _ h => h.elim) (by dsimp only; omega) _)
      · refine Kd.Own.lower (base := w.heap.size + 2) ?_ (by omega)
        repeat (first | with_reducible exact H4.out | with_reducible refine Kd.Own.alloc ?_ _ | with_reducible refine Kd.Own.drew ?_ | with_reducible refine Kd.Own.set ?_ (fun _ h => h.elim) (by dsimp only; omega) _)
      · refine Kd.Own.lower (base := w.heap.size + 2) ?_ (by omega)
        repeat (first | with_reducible exact H5.out | with_reducible refine Kd.Own.alloc ?_ _ | with_reducible refine Kd.Own.drew ?_ | with_reducible refine Kd.Own.set ?_ (fun _ h => h.elim) (by dsimp only; omega) _)
      · repeat (first | with_reducible exact HB.out | with_reducible exact Below.refl _ _ | with_reducible refine Below.alloc ?_ (by first | omega | (simp only [World.size_alloc, World.size_setCell, World.size_drew]; omega) | (simp; done)) _ | with_reducible refine Below.drew ?_ | with_reducible refine pw_below_drewN ?_ _ | with_reducible refine Below.setCell ?_ (by dsimp only; omega) _)
end Go.Proofs.Ytkgkiencikmhfaa.B
