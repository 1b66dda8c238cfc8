/- What this text holds: the contract of the laws' awake. -/
import Derived.Test.YtkgkiencikmhfaaF9
import Derived.Test.YtkgkiencikmhfaaH7
import Derived.Test.YtkgkiencikmhfaaAbs
set_option linter.unusedVariables false
set_option linter.unusedSimpArgs false
namespace Go.Proofs.Ytkgkiencikmhfaa.B
open Go.RowKit

theorem ints_blk {k : IntKind} {w : World} {g T : Nat} {cs : Array Value} (h : Blk w g T cs) (xs : List Int) (hl : xs.length ≤ 9223372036854775807) (hx : ∀ i : Nat, i < xs.length → cs[i]? = some (.int k (nth 0 xs i))) : (ints k).C w (some ⟨g, 0, none⟩) xs := by
  refine ⟨hl, fun _ => ⟨_, rfl, fun i x hi => ⟨[.int k x], rfl, fun j u hu => ?_⟩⟩⟩
  have hlt : i < xs.length := (List.getElem?_eq_some_iff.1 hi).1
  have hxi : x = nth 0 xs i := by
    have := nth_get? 0 xs i hlt
    rw [hi] at this
    injection this
  rcases j with _ | j
  · injection hu with hu
    subst hu
    rw [Kd.add_plain]
    have h2 := h.cell i (hx i hlt)
    rw [hxi]
    simpa [ints] using h2
  · simp at hu
theorem ints_one {k : IntKind} {w : World} {g T : Nat} {x : Int} (h : Blk w g T #[.int k x]) : (ints k).C w (some ⟨g, 0, none⟩) [x] := ints_blk h _ (by simp) (fun i hi => by
  obtain rfl : i = 0 := (by simp at hi; omega)
  rfl)
theorem ints_two {k : IntKind} {w : World} {g T : Nat} {x y : Int} (h : Blk w g T #[.int k x, .int k y]) : (ints k).C w (some ⟨g, 0, none⟩) [x, y] := ints_blk h _ (by simp) (fun i hi => by
  rcases (by simp at hi; omega : i = 0 ∨ i = 1) with rfl | rfl <;> rfl)
theorem ints_three {k : IntKind} {w : World} {g T : Nat} {x y z : Int} (h : Blk w g T #[.int k x, .int k y, .int k z]) : (ints k).C w (some ⟨g, 0, none⟩) [x, y, z] := ints_blk h _ (by simp) (fun i hi => by
  rcases (by simp at hi; omega : i = 0 ∨ i = 1 ∨ i = 2) with rfl | rfl | rfl <;> rfl)
theorem ints_six {k : IntKind} {w : World} {g T : Nat} {a b c d e f : Int} (h : Blk w g T #[.int k a, .int k b, .int k c, .int k d, .int k e, .int k f]) : (ints k).C w (some ⟨g, 0, none⟩) [a, b, c, d, e, f] := ints_blk h _ (by simp) (fun i hi => by
  rcases (by simp at hi; omega : i = 0 ∨ i = 1 ∨ i = 2 ∨ i = 3 ∨ i = 4 ∨ i = 5) with rfl | rfl | rfl | rfl | rfl | rfl <;> rfl)

def awB : List Int := [1, 2, 3, 4, 5, 6]
def awF1 : List Fl := [⟨15, 0, [1, 2, 3, 4, 5, 6]⟩]
def awF2 : List Fl := [⟨14, 1, [7]⟩, ⟨15, 0, [1, 2, 3, 4, 5, 6]⟩, ⟨15, 2, [7]⟩]
def awP : List (List Int) := [[7], [1, 2, 3, 4, 5, 6], [7]]
theorem aw0 : newF 1 3 4 = (⟨1, 3, 4, false, 0, 0, []⟩, 0) := by kernel_rfl
theorem aw1 : sendF 1 3 4 false 0 0 [] 10 [1, 2, 3, 4, 5, 6] [0, 2] = (⟨1, 3, 4, false, 12, 1, awF1⟩, [], 0) := by kernel_rfl
theorem aw2 : sendF 1 3 4 false 12 1 awF1 10 [7] [2, 0, 1] = (⟨1, 3, 4, false, 13, 3, awF2⟩, [], 0) := by kernel_rfl
theorem aw3 : sendF 1 3 4 false 13 3 awF2 10 [] [1, 7] = (⟨1, 3, 4, false, 13, 3, awF2⟩, [7], 0) := by kernel_rfl
theorem aw4 : deliverF 1 3 4 false 13 3 awF2 15 = (⟨1, 3, 4, false, 13, 3, []⟩, awP) := by kernel_rfl
theorem awS : Small awF2 := ⟨by decide, by decide⟩
/-- Three byte slices, written out. -/
theorem bss_three {w : World} {g0 g1 g2 g T T' : Nat} (h0 : Blk w g0 T #[.int .u8 7]) (h1 : Blk w g1 T #[.int .u8 1, .int .u8 2, .int .u8 3, .int .u8 4, .int .u8 5, .int .u8 6]) (h2 : Blk w g2 T #[.int .u8 7])
    (h : Blk w g T' #[.slice (some ⟨g0, 0, none⟩) 1 1, .slice (some ⟨g1, 0, none⟩) 6 6, .slice (some ⟨g2, 0, none⟩) 1 1]) : bss.C w (some ⟨g, 0, none⟩) awP := by
  refine ⟨by decide, fun _ => ⟨_, rfl, fun i x hi => ?_⟩⟩
  have hlt : i < awP.length := (List.getElem?_eq_some_iff.1 hi).1
  have hlt3 : i < 3 := hlt
  rcases (by omega : i = 0 ∨ i = 1 ∨ i = 2) with rfl | rfl | rfl
  · obtain rfl : x = [7] := by simpa [awP] using hi.symm
    refine ⟨[.slice (some ⟨g0, 0, none⟩) 1 1], ⟨_, _, rfl, Nat.le_refl _, ints_one h0⟩, fun j u hu => ?_⟩
    rcases j with _ | j
    · injection hu with hu; subst hu; exact h.cell 0 rfl
    · simp at hu
  · obtain rfl : x = [1, 2, 3, 4, 5, 6] := by simpa [awP] using hi.symm
    refine ⟨[.slice (some ⟨g1, 0, none⟩) 6 6], ⟨_, _, rfl, Nat.le_refl _, ints_six h1⟩, fun j u hu => ?_⟩
    rcases j with _ | j
    · injection hu with hu; subst hu; rw [Kd.add_plain]; exact h.cell 1 rfl
    · simp at hu
  · obtain rfl : x = [7] := by simpa [awP] using hi.symm
    refine ⟨[.slice (some ⟨g2, 0, none⟩) 1 1], ⟨_, _, rfl, Nat.le_refl _, ints_one h2⟩, fun j u hu => ?_⟩
    rcases j with _ | j
    · injection hu with hu; subst hu; rw [Kd.add_plain]; exact h.cell 2 rfl
    · simp at hu

set_option maxRecDepth 100000 in
set_option maxHeartbeats 4000000 in
theorem awake_calls (w : World) : Calls Try.prog 12 #[] w fun e w' => e = .returned (.bool true) ∧ Below w.heap.size w w' := by
  have hu26 := Try.underlying26
  have hu69 := Try.underlying69
  have hu23 := Try.underlying23
  obtain ⟨F1, hF1⟩ : ∃ L, L = awF1 := ⟨_, rfl⟩
  obtain ⟨F2, hF2⟩ : ∃ L, L = awF2 := ⟨_, rfl⟩
  obtain ⟨PP, hPP⟩ : ∃ L, L = awP := ⟨_, rfl⟩
  have h1 := aw1; have h2 := aw2; have h3 := aw3; have h4 := aw4; have hS := awS
  have n1 : nth fl0 awF1 0 = ⟨15, 0, [1, 2, 3, 4, 5, 6]⟩ := rfl
  have n2 : nth fl0 awF2 0 = ⟨14, 1, [7]⟩ := rfl
  have n3 : nth fl0 awF2 2 = ⟨15, 2, [7]⟩ := rfl
  have l1 : awF1.length = 1 := rfl
  have l2 : awF2.length = 3 := rfl
  rw [← hF1] at h1 h2 n1 l1
  rw [← hF2] at h2 h3 h4 hS n2 n3 l2
  rw [← hPP] at h4
  have N1 := Hd.mk h1; have N2 := Hd.mk h2; have N3 := Hd.mk h3; have N4 := Hd.mk h4; have NS := Hd.mk hS; have NA := Hd.mk n1; have NB := Hd.mk n2; have NC := Hd.mk n3; have L1 := Hd.mk l1; have L2 := Hd.mk l2; have NP := Hd.mk hPP
  clear hF1 hF2 hPP h1 h2 h3 h4 hS n1 n2 n3 l1 l2
  go_enter Try.func12, Try.ntmps12
  go_wp2_with fail
  refine (new_calls 1 3 4 w).mono ?_
  rintro e w1 ⟨he, hb⟩
  rw [aw0] at he
  dsimp only at he
  subst he
  have HB := Hd.mk hb
  have hz1 := hb.size
  clear hb
  go_wp2_with fail
  refine calls_abs (fun W2 => Hd (Blk W2 w1.heap.size 26 #[.int .i64 1, .int .i64 3, .int .i64 4, .bool false, .int .i64 0, .int .i64 0, .slice none 0 0]) ∧ Hd (Blk W2 (w1.heap.size + 1) 5 #[.int .u8 1, .int .u8 2, .int .u8 3, .int .u8 4, .int .u8 5, .int .u8 6]) ∧ Hd (Blk W2 (w1.heap.size + 2) 3 #[.int .i64 0, .int .i64 2]) ∧ Hd (Below w.heap.size w W2) ∧ W2.heap.size = w1.heap.size + 3) ⟨⟨?_⟩, ⟨?_⟩, ⟨?_⟩, ⟨?_⟩, ?_⟩ ?_
  · repeat (first | (with_reducible refine Blk.newE ?_; first | omega | (simp only [World.size_alloc, World.size_setCell, World.size_drew]; omega) | (simp; done)) | with_reducible refine Blk.alloc ?_ _ | with_reducible refine Blk.drew ?_ | with_reducible refine Blk.far ?_ (by dsimp only; omega) _)
  · repeat (first | (with_reducible refine Blk.newE ?_; first | omega | (simp only [World.size_alloc, World.size_setCell, World.size_drew]; omega) | (simp; done)) | with_reducible refine Blk.alloc ?_ _ | with_reducible refine Blk.drew ?_ | with_reducible refine Blk.far ?_ (by dsimp only; omega) _)
  · repeat (first | (with_reducible refine Blk.newE ?_; first | omega | (simp only [World.size_alloc, World.size_setCell, World.size_drew]; omega) | (simp; done)) | with_reducible refine Blk.alloc ?_ _ | with_reducible refine Blk.drew ?_ | with_reducible refine Blk.far ?_ (by dsimp only; omega) _)
  · repeat (first | with_reducible exact HB.out | with_reducible refine Below.alloc ?_ (by first | omega | (simp only [World.size_alloc, World.size_setCell, World.size_drew]; omega) | (simp; done)) _ | with_reducible refine Below.drew ?_ | with_reducible refine Below.setCell ?_ (by dsimp only; omega) _)
  · first | omega | (simp only [World.size_alloc, World.size_setCell, World.size_drew]; omega) | (simp; done)
  clear HB
  rintro W2 ⟨HQ, HN, HM, HB, hzW2⟩
  refine (send_calls 1 3 4 false 0 0 none 0 [] 10 (some ⟨w1.heap.size + 1, 0, none⟩) 6 [1, 2, 3, 4, 5, 6] (some ⟨w1.heap.size + 2, 0, none⟩) 2 [0, 2] W2 Kd.C.nil (Nat.zero_le _) (ints_six HN.out) (by decide) (ints_two HM.out) (by decide) (by decide)).mono ?_
  rintro e w3 h
  rw [N1.out] at h
  obtain ⟨v, u, rfl, hv, hu, hb⟩ := h
  dsimp only at hv hu ⊢
  obtain ⟨A1, c1, rfl, hc1, -⟩ := hv.reads
  obtain ⟨A2, c2, rfl, -, -⟩ := hu.reads
  replace HB := Hd.mk (bel_step HB.out hb (by omega))
  replace HQ := Hd.mk (HQ.out.below hb)
  have HV := Hd.mk hv.bound
  have hz3 := hb.size
  clear hv hu hb HN HM
  obtain ⟨q0, q1, q2, q3, q4, q5, q6, q7, q8, q9, q10, q11, q12, q13⟩ := HQ.out.f7
  have HVs : Hd (fls.V (((((((w3.setCell ⟨w1.heap.size, 0, none⟩ (.int .i64 1)).setCell ⟨w1.heap.size, 1, none⟩ (.int .i64 3)).setCell ⟨w1.heap.size, 2, none⟩ (.int .i64 4)).setCell ⟨w1.heap.size, 3, none⟩ (.bool false)).setCell ⟨w1.heap.size, 4, none⟩ (.int .i64 12)).setCell ⟨w1.heap.size, 5, none⟩ (.int .i64 1)).setCell ⟨w1.heap.size, 6, none⟩ (.slice A1 F1.length c1)) (fun k => W2.heap.size ≤ k ∧ k < w3.heap.size) (.slice A1 F1.length c1) F1) := ⟨by repeat (first | with_reducible exact HV.out | with_reducible refine Kd.V.alloc ?_ _ | with_reducible refine Kd.V.drew ?_ | with_reducible refine Kd.V.far ?_ (fun j hj => by dsimp only at hj ⊢; omega) _)⟩
  obtain ⟨adx, Ax, cx, eax, x0, x1, x2, -⟩ := fls_elem HVs.out 0 (by rw [L1.out]; decide)
  rw [NA.out] at x0 x1 x2
  dsimp only at x0 x1 x2
  cases eax
  simp only [Nat.zero_mul, Kd.add_zero] at x0 x1 x2
  have t1 : ((F1.length : Int) != 1) = false := by rw [L1.out]; rfl
  have t2 : (0 : Int) < F1.length := by rw [L1.out]; decide
  go_wp2_with fail
  refine calls_abs (fun W4 => Hd (Blk W4 w1.heap.size 26 #[.int .i64 1, .int .i64 3, .int .i64 4, .bool false, .int .i64 12, .int .i64 1, .slice (some adx) F1.length c1]) ∧ Hd (fls.V W4 (fun k => W2.heap.size ≤ k ∧ k < w3.heap.size) (.slice (some adx) F1.length c1) F1) ∧ Hd (Blk W4 w3.heap.size 5 #[.int .u8 7]) ∧ Hd (Blk W4 (w3.heap.size + 1) 3 #[.int .i64 2, .int .i64 0, .int .i64 1]) ∧ Hd (Below w.heap.size w W4) ∧ W4.heap.size = w3.heap.size + 2) ⟨⟨?_⟩, ⟨?_⟩, ⟨?_⟩, ⟨?_⟩, ⟨?_⟩, ?_⟩ ?_
  · repeat (first | with_reducible exact put7 HQ.out | (with_reducible refine Blk.newE ?_; first | omega | (simp only [World.size_alloc, World.size_setCell, World.size_drew]; omega) | (simp; done)) | with_reducible refine Blk.alloc ?_ _ | with_reducible refine Blk.drew ?_ | with_reducible refine Blk.far ?_ (by dsimp only; omega) _)
  · repeat (first | with_reducible exact HV.out | with_reducible refine Kd.V.alloc ?_ _ | with_reducible refine Kd.V.drew ?_ | with_reducible refine Kd.V.far ?_ (fun j hj => by dsimp only at hj ⊢; omega) _)
  · repeat (first | with_reducible exact HQ.out | (with_reducible refine Blk.newE ?_; first | omega | (simp only [World.size_alloc, World.size_setCell, World.size_drew]; omega) | (simp; done)) | with_reducible refine Blk.alloc ?_ _ | with_reducible refine Blk.drew ?_ | with_reducible refine Blk.far ?_ (by dsimp only; omega) _)
  · repeat (first | with_reducible exact HQ.out | (with_reducible refine Blk.newE ?_; first | omega | (simp only [World.size_alloc, World.size_setCell, World.size_drew]; omega) | (simp; done)) | with_reducible refine Blk.alloc ?_ _ | with_reducible refine Blk.drew ?_ | with_reducible refine Blk.far ?_ (by dsimp only; omega) _)
  · repeat (first | with_reducible exact HB.out | with_reducible refine Below.alloc ?_ (by first | omega | (simp only [World.size_alloc, World.size_setCell, World.size_drew]; omega) | (simp; done)) _ | with_reducible refine Below.drew ?_ | with_reducible refine Below.setCell ?_ (by dsimp only; omega) _)
  · first | omega | (simp only [World.size_alloc, World.size_setCell, World.size_drew]; omega) | (simp; done)
  clear HQ HB HV HVs t1 t2 x0 x1 x2 q0 q1 q2 q3 q4 q5 q6 q7 q8 q9 q10 q11 q12 q13
  rintro W4 ⟨HQ, HV, HN, HM, HB, hzW4⟩
  refine (send_calls 1 3 4 false 12 1 (some adx) c1 F1 10 (some ⟨w3.heap.size, 0, none⟩) 1 [7] (some ⟨w3.heap.size + 1, 0, none⟩) 3 [2, 0, 1] W4 HV.out.C hc1 (ints_one HN.out) (by decide) (ints_three HM.out) (by decide) (by decide)).mono ?_
  rintro e w5 h
  rw [N2.out] at h
  obtain ⟨v, u, rfl, hv, hu, hb⟩ := h
  dsimp only at hv hu ⊢
  obtain ⟨A3, c3, rfl, hc3, -⟩ := hv.reads
  obtain ⟨A4, c4, rfl, -, -⟩ := hu.reads
  replace HB := Hd.mk (bel_step HB.out hb (by omega))
  replace HQ := Hd.mk (HQ.out.below hb)
  replace HV := Hd.mk hv.bound
  have hz5 := hb.size
  clear hv hu hb HN HM
  obtain ⟨q0, q1, q2, q3, q4, q5, q6, q7, q8, q9, q10, q11, q12, q13⟩ := HQ.out.f7
  have HVs : Hd (fls.V (((((((w5.setCell ⟨w1.heap.size, 0, none⟩ (.int .i64 1)).setCell ⟨w1.heap.size, 1, none⟩ (.int .i64 3)).setCell ⟨w1.heap.size, 2, none⟩ (.int .i64 4)).setCell ⟨w1.heap.size, 3, none⟩ (.bool false)).setCell ⟨w1.heap.size, 4, none⟩ (.int .i64 13)).setCell ⟨w1.heap.size, 5, none⟩ (.int .i64 3)).setCell ⟨w1.heap.size, 6, none⟩ (.slice A3 F2.length c3)) (fun k => W4.heap.size ≤ k ∧ k < w5.heap.size) (.slice A3 F2.length c3) F2) := ⟨by repeat (first | with_reducible exact HV.out | with_reducible refine Kd.V.alloc ?_ _ | with_reducible refine Kd.V.drew ?_ | with_reducible refine Kd.V.far ?_ (fun j hj => by dsimp only at hj ⊢; omega) _)⟩
  obtain ⟨adx, Ax, cx, eax, x0, x1, x2, -⟩ := fls_elem HVs.out 0 (by rw [L2.out]; decide)
  rw [NB.out] at x0 x1 x2
  dsimp only at x0 x1 x2
  obtain ⟨ady, Ay, cy, eay, y0, y1, y2, -⟩ := fls_elem HVs.out 2 (by rw [L2.out]; decide)
  rw [NC.out] at y0 y1 y2
  dsimp only at y0 y1 y2
  cases eax
  cases eay
  simp only [Nat.zero_mul, Kd.add_zero] at x0 x1 x2
  simp only [show (2 * 3 : Nat) = 6 from rfl, show adx.add 6 = (⟨adx.block, adx.off + 6, none⟩ : Addr) from (by simp [Addr.add])] at y0 y1 y2
  have t1 : ((F2.length : Int) != 3) = false := by rw [L2.out]; rfl
  have t2 : (0 : Int) < F2.length := by rw [L2.out]; decide
  have t3 : (2 : Int) < F2.length := by rw [L2.out]; decide
  go_wp2_with fail
  refine calls_abs (fun W6 => Hd (Blk W6 w1.heap.size 26 #[.int .i64 1, .int .i64 3, .int .i64 4, .bool false, .int .i64 13, .int .i64 3, .slice (some adx) F2.length c3]) ∧ Hd (fls.V W6 (fun k => W4.heap.size ≤ k ∧ k < w5.heap.size) (.slice (some adx) F2.length c3) F2) ∧ Hd (Blk W6 w5.heap.size 3 #[.int .i64 1, .int .i64 7]) ∧ Hd (Below w.heap.size w W6) ∧ W6.heap.size = w5.heap.size + 1) ⟨⟨?_⟩, ⟨?_⟩, ⟨?_⟩, ⟨?_⟩, ?_⟩ ?_
  · repeat (first | with_reducible exact put7 HQ.out | (with_reducible refine Blk.newE ?_; first | omega | (simp only [World.size_alloc, World.size_setCell, World.size_drew]; omega) | (simp; done)) | with_reducible refine Blk.alloc ?_ _ | with_reducible refine Blk.drew ?_ | with_reducible refine Blk.far ?_ (by dsimp only; omega) _)
  · repeat (first | with_reducible exact HV.out | with_reducible refine Kd.V.alloc ?_ _ | with_reducible refine Kd.V.drew ?_ | with_reducible refine Kd.V.far ?_ (fun j hj => by dsimp only at hj ⊢; omega) _)
  · repeat (first | with_reducible exact HQ.out | (with_reducible refine Blk.newE ?_; first | omega | (simp only [World.size_alloc, World.size_setCell, World.size_drew]; omega) | (simp; done)) | with_reducible refine Blk.alloc ?_ _ | with_reducible refine Blk.drew ?_ | with_reducible refine Blk.far ?_ (by dsimp only; omega) _)
  · repeat (first | with_reducible exact HB.out | with_reducible refine Below.alloc ?_ (by first | omega | (simp only [World.size_alloc, World.size_setCell, World.size_drew]; omega) | (simp; done)) _ | with_reducible refine Below.drew ?_ | with_reducible refine Below.setCell ?_ (by dsimp only; omega) _)
  · first | omega | (simp only [World.size_alloc, World.size_setCell, World.size_drew]; omega) | (simp; done)
  clear HQ HB HV HVs t1 t2 t3 x0 x1 x2 y0 y1 y2 q0 q1 q2 q3 q4 q5 q6 q7 q8 q9 q10 q11 q12 q13
  rintro W6 ⟨HQ, HV, HM, HB, hzW6⟩
  refine (send_calls 1 3 4 false 13 3 (some adx) c3 F2 10 none 0 [] (some ⟨w5.heap.size, 0, none⟩) 2 [1, 7] W6 HV.out.C hc3 Kd.C.nil (by decide) (ints_two HM.out) (by decide) (by decide)).mono ?_
  rintro e w7 h
  rw [N3.out] at h
  obtain ⟨v, u, rfl, hv, hu, hb⟩ := h
  dsimp only at hv hu ⊢
  obtain ⟨A5, c5, rfl, hc5, -⟩ := hv.reads
  obtain ⟨A6, c6, rfl, hc6, -⟩ := hu.reads
  replace HB := Hd.mk (bel_step HB.out hb (by omega))
  replace HQ := Hd.mk (HQ.out.below hb)
  replace HV := Hd.mk (HV.out.below hb)
  have HU := Hd.mk hu.bound
  have hz7 := hb.size
  clear hv hu hb HM
  obtain ⟨q0, q1, q2, q3, q4, q5, q6, q7, q8, q9, q10, q11, q12, q13⟩ := HQ.out.f7
  go_wp2_with fail
  refine calls_abs (fun W8 => Hd (Blk W8 w1.heap.size 26 #[.int .i64 1, .int .i64 3, .int .i64 4, .bool false, .int .i64 13, .int .i64 3, .slice (some adx) F2.length c3]) ∧ Hd (fls.V W8 (fun k => W4.heap.size ≤ k ∧ k < w5.heap.size) (.slice (some adx) F2.length c3) F2) ∧ Hd ((ints .i64).V W8 (fun k => W6.heap.size ≤ k ∧ k < w7.heap.size) (.slice A6 [(7 : Int)].length c6) [7]) ∧ Hd (Blk W8 w7.heap.size 26 #[.int .i64 1, .int .i64 3, .int .i64 4, .bool false, .int .i64 13, .int .i64 3, .slice A5 F2.length c5]) ∧ Hd (Blk W8 (w7.heap.size + 1) 3 #[.int .i64 7]) ∧ Hd (Below w.heap.size w W8) ∧ W8.heap.size = w7.heap.size + 2) ⟨⟨?_⟩, ⟨?_⟩, ⟨?_⟩, ⟨?_⟩, ⟨?_⟩, ⟨?_⟩, ?_⟩ ?_
  · repeat (first | with_reducible exact HQ.out | (with_reducible refine Blk.newE ?_; first | omega | (simp only [World.size_alloc, World.size_setCell, World.size_drew]; omega) | (simp; done)) | with_reducible refine Blk.alloc ?_ _ | with_reducible refine Blk.drew ?_ | with_reducible refine Blk.far ?_ (by dsimp only; omega) _)
  · repeat (first | with_reducible exact HV.out | with_reducible refine Kd.V.alloc ?_ _ | with_reducible refine Kd.V.drew ?_ | with_reducible refine Kd.V.far ?_ (fun j hj => by dsimp only at hj ⊢; omega) _)
  · repeat (first | with_reducible exact HU.out | with_reducible refine Kd.V.alloc ?_ _ | with_reducible refine Kd.V.drew ?_ | with_reducible refine Kd.V.far ?_ (fun j hj => by dsimp only at hj ⊢; omega) _)
  · repeat (first | with_reducible exact HQ.out | (with_reducible refine Blk.newE ?_; first | omega | (simp only [World.size_alloc, World.size_setCell, World.size_drew]; omega) | (simp; done)) | with_reducible refine Blk.alloc ?_ _ | with_reducible refine Blk.drew ?_ | with_reducible refine Blk.far ?_ (by dsimp only; omega) _)
  · repeat (first | with_reducible exact HQ.out | (with_reducible refine Blk.newE ?_; first | omega | (simp only [World.size_alloc, World.size_setCell, World.size_drew]; omega) | (simp; done)) | with_reducible refine Blk.alloc ?_ _ | with_reducible refine Blk.drew ?_ | with_reducible refine Blk.far ?_ (by dsimp only; omega) _)
  · repeat (first | with_reducible exact HB.out | with_reducible refine Below.alloc ?_ (by first | omega | (simp only [World.size_alloc, World.size_setCell, World.size_drew]; omega) | (simp; done)) _ | with_reducible refine Below.drew ?_ | with_reducible refine Below.setCell ?_ (by dsimp only; omega) _)
  · first | omega | (simp only [World.size_alloc, World.size_setCell, World.size_drew]; omega) | (simp; done)
  clear HQ HB HV HU q0 q1 q2 q3 q4 q5 q6 q7 q8 q9 q10 q11 q12 q13
  rintro W8 ⟨HQ, HV, HU, HX, HM, HB, hzW8⟩
  refine (sameInts_calls [7] A6 (some ⟨w7.heap.size + 1, 0, none⟩) c6 1 W8 HU.out.C (ints_one HM.out)).mono ?_
  rintro e w9 ⟨rfl, hb⟩
  replace HB := Hd.mk (bel_step HB.out hb (by omega))
  replace HQ := Hd.mk (HQ.out.below hb)
  replace HX := Hd.mk (HX.out.below hb)
  replace HV := Hd.mk (HV.out.below hb)
  have hz9 := hb.size
  clear hb HM HU
  obtain ⟨q0, q1, q2, q3, q4, q5, q6, q7, q8, q9, q10, q11, q12, q13⟩ := HQ.out.f7
  obtain ⟨p0, p1, p2, p3, p4, p5, p6, p7, p8, p9, p10, p11, p12, p13⟩ := HX.out.f7
  have t1 : ((F2.length : Int) != 3) = false := by rw [L2.out]; rfl
  go_wp2_with fail
  refine (deliver_calls 1 3 4 false 13 3 (some adx) c3 F2 15 w9 HV.out.C hc3 NS.out).mono ?_
  rintro e w10 h
  rw [N4.out] at h
  obtain ⟨v, u, rfl, hv, hu, hb⟩ := h
  dsimp only at hv hu ⊢
  obtain ⟨A7, c7, rfl, hc7, -⟩ := hv.reads
  obtain ⟨A8, c8, rfl, hc8, -⟩ := hu.reads
  replace HB := Hd.mk (bel_step HB.out hb (by omega))
  replace HQ := Hd.mk (HQ.out.below hb)
  have HU := Hd.mk hu.bound
  have hz10 := hb.size
  clear hv hu hb HV HX t1 q0 q1 q2 q3 q4 q5 q6 q7 q8 q9 q10 q11 q12 q13 p0 p1 p2 p3 p4 p5 p6 p7 p8 p9 p10 p11 p12 p13
  obtain ⟨q0, q1, q2, q3, q4, q5, q6, q7, q8, q9, q10, q11, q12, q13⟩ := HQ.out.f7
  go_wp2_with fail
  refine calls_abs (fun W11 => Hd (Blk W11 w1.heap.size 26 #[.int .i64 1, .int .i64 3, .int .i64 4, .bool false, .int .i64 13, .int .i64 3, .slice A7 0 c7]) ∧ Hd (bss.V W11 (fun k => w9.heap.size ≤ k ∧ k < w10.heap.size) (.slice A8 PP.length c8) PP) ∧ Hd (Blk W11 w10.heap.size 5 #[.int .u8 7]) ∧ Hd (Blk W11 (w10.heap.size + 1) 5 #[.int .u8 1, .int .u8 2, .int .u8 3, .int .u8 4, .int .u8 5, .int .u8 6]) ∧ Hd (Blk W11 (w10.heap.size + 2) 5 #[.int .u8 7]) ∧ Hd (Blk W11 (w10.heap.size + 3) 37 #[.slice (some ⟨w10.heap.size, 0, none⟩) 1 1, .slice (some ⟨w10.heap.size + 1, 0, none⟩) 6 6, .slice (some ⟨w10.heap.size + 2, 0, none⟩) 1 1]) ∧ Hd (Below w.heap.size w W11) ∧ W11.heap.size = w10.heap.size + 4) ⟨⟨?_⟩, ⟨?_⟩, ⟨?_⟩, ⟨?_⟩, ⟨?_⟩, ⟨?_⟩, ⟨?_⟩, ?_⟩ ?_
  · repeat (first | with_reducible exact put7 HQ.out | (with_reducible refine Blk.newE ?_; first | omega | (simp only [World.size_alloc, World.size_setCell, World.size_drew]; omega) | (simp; done)) | with_reducible refine Blk.alloc ?_ _ | with_reducible refine Blk.drew ?_ | with_reducible refine Blk.far ?_ (by dsimp only; omega) _)
  · repeat (first | with_reducible exact HU.out | with_reducible refine Kd.V.alloc ?_ _ | with_reducible refine Kd.V.drew ?_ | with_reducible refine Kd.V.far ?_ (fun j hj => by dsimp only at hj ⊢; omega) _)
  · repeat (first | with_reducible exact HQ.out | (with_reducible refine Blk.newE ?_; first | omega | (simp only [World.size_alloc, World.size_setCell, World.size_drew]; omega) | (simp; done)) | with_reducible refine Blk.alloc ?_ _ | with_reducible refine Blk.drew ?_ | with_reducible refine Blk.far ?_ (by dsimp only; omega) _)
  · repeat (first | with_reducible exact HQ.out | (with_reducible refine Blk.newE ?_; first | omega | (simp only [World.size_alloc, World.size_setCell, World.size_drew]; omega) | (simp; done)) | with_reducible refine Blk.alloc ?_ _ | with_reducible refine Blk.drew ?_ | with_reducible refine Blk.far ?_ (by dsimp only; omega) _)
  · repeat (first | with_reducible exact HQ.out | (with_reducible refine Blk.newE ?_; first | omega | (simp only [World.size_alloc, World.size_setCell, World.size_drew]; omega) | (simp; done)) | with_reducible refine Blk.alloc ?_ _ | with_reducible refine Blk.drew ?_ | with_reducible refine Blk.far ?_ (by dsimp only; omega) _)
  · repeat (first | with_reducible exact HQ.out | (with_reducible refine Blk.newE ?_; first | omega | (simp only [World.size_alloc, World.size_setCell, World.size_drew]; omega) | (simp; done)) | with_reducible refine Blk.alloc ?_ _ | with_reducible refine Blk.drew ?_ | with_reducible refine Blk.far ?_ (by dsimp only; omega) _)
  · repeat (first | with_reducible exact HB.out | with_reducible refine Below.alloc ?_ (by first | omega | (simp only [World.size_alloc, World.size_setCell, World.size_drew]; omega) | (simp; done)) _ | with_reducible refine Below.drew ?_ | with_reducible refine Below.setCell ?_ (by dsimp only; omega) _)
  · first | omega | (simp only [World.size_alloc, World.size_setCell, World.size_drew]; omega) | (simp; done)
  clear HQ HB HU q0 q1 q2 q3 q4 q5 q6 q7 q8 q9 q10 q11 q12 q13
  rintro W11 ⟨HQ, HU, H0, H1, H2, H3, HB, hzW11⟩
  have hbp : bss.C W11 (some ⟨w10.heap.size + 3, 0, none⟩) awP := bss_three H0.out H1.out H2.out H3.out
  have hpp := NP.out
  subst hpp
  refine (samePayloads_calls awP A8 (some ⟨w10.heap.size + 3, 0, none⟩) c8 3 W11 HU.out.C hbp).mono ?_
  rintro e w12 ⟨rfl, hb⟩
  replace HB := Hd.mk (bel_step HB.out hb (by omega))
  replace HQ := Hd.mk (HQ.out.below hb)
  clear hb
  obtain ⟨q0, q1, q2, q3, q4, q5, q6, q7, q8, q9, q10, q11, q12, q13⟩ := HQ.out.f7
  go_wp2
  go_ret
  exact ⟨rfl, HB.out⟩
end Go.Proofs.Ytkgkiencikmhfaa.B
