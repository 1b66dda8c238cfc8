/- What this text holds: the contract of link's insert. -/
import Derived.Test.YtkgkiencikmhfaaF6
set_option linter.unusedVariables false
set_option linter.unusedSimpArgs false
namespace Go.Proofs.Ytkgkiencikmhfaa.B
open Go.RowKit

/-- Where a flight of a time goes. -/
def placeL (l : List Fl) (time : Int) : Nat := match l.findIdx? (fun x => decide (time < x.t)) with | some i => i | none => l.length
theorem placeL_le (l : List Fl) (time : Int) : placeL l time ≤ l.length := by
  unfold placeL
  split
  · rename_i i h
    have := (List.findIdx?_eq_some_iff_getElem.1 h).1
    omega
  · exact Nat.le_refl _
theorem placeL_at (l : List Fl) (time : Int) (k : Nat) (hk : k < l.length) (h : time < (nth fl0 l k).t) (hn : ∀ j, j < k → (nth fl0 l j).t ≤ time) : placeL l time = k := by
  have : l.findIdx? (fun x => decide (time < x.t)) = some k := by
    rw [List.findIdx?_eq_some_iff_getElem]
    refine ⟨hk, by rw [nth_eq fl0 l k hk] at h; simp [h], fun j hj => ?_⟩
    have := hn j hj
    rw [nth_eq fl0 l j (by omega)] at this
    simp
    omega
  rw [placeL, this]
theorem placeL_end (l : List Fl) (time : Int) (hn : ∀ j, j < l.length → (nth fl0 l j).t ≤ time) : placeL l time = l.length := by
  have : l.findIdx? (fun x => decide (time < x.t)) = none := by
    rw [List.findIdx?_eq_none_iff]
    intro x hx
    obtain ⟨j, hj, rfl⟩ := List.getElem_of_mem hx
    have := hn j hj
    rw [nth_eq fl0 l j hj] at this
    simp
    omega
  rw [placeL, this]

set_option maxRecDepth 100000 in
set_option maxHeartbeats 2000000 in
theorem insertL_calls (v : Value) (l : List Fl) (xt xn : Int) (xb : List Int) (A4 : Option Addr) (c4 : Nat) (w : World) (base : Nat) (ok okx : Nat → Prop)
    (hb : base ≤ w.heap.size) (HO : fls.Own 69 w base ok v l) (HX : Fp (fun W => fls.K W ⟨xt, xn, xb⟩ [.int .i64 xt, .int .i64 xn, .slice A4 xb.length c4]) w okx) (hne : ∀ k, okx k → k < w.heap.size → some k ≠ v.ownBlock) (hlen : l.length ≤ 4096) :
    Calls Try.prog 41 #[v, .agg #[.int .i64 xt, .int .i64 xn, .slice A4 xb.length c4]] w fun e w' =>
      ∃ v', e = .returned v' ∧ fls.Own 69 w' base (fun k => ok k ∨ okx k ∨ w.heap.size ≤ k) v' (l.take (placeL l xt) ++ (⟨xt, xn, xb⟩ : Fl) :: l.drop (placeL l xt)) ∧ Below base w w' ∧ (v'.ownBlock = v.ownBlock ∨ ∃ b, v'.ownBlock = some b ∧ w.heap.size ≤ b) ∧ ∀ k, k < w.heap.size → some k ≠ v.ownBlock → w'.heap[k]? = w.heap[k]? := by
  have hu69 := Try.underlying69
  have hC := HO.reads
  obtain ⟨A, c, rfl, hc, hC⟩ := hC
  have HO := Hd.mk HO
  have HX := Hd.mk HX
  have HNE := Hd.mk hne
  have HCC := Hd.mk hC
  have hm := hC.1
  clear hC hne
  have HI : Hd (∀ W (g p : Nat), W.heap.size = g → p ≤ l.length → Below w.heap.size w W → Calls Try.prog 49 #[.slice A l.length c, .int .i64 p, .slice (some ⟨g, 0, none⟩) 1 1] (W.alloc (.cells #[.int .i64 xt, .int .i64 xn, .slice A4 xb.length c4] 69)) fun e w' =>
      ∃ v', e = .returned v' ∧ fls.Own 69 w' base (fun k => ok k ∨ okx k ∨ w.heap.size ≤ k) v' (l.take p ++ (⟨xt, xn, xb⟩ : Fl) :: l.drop p) ∧ Below base w w' ∧ (v'.ownBlock = (Value.slice A l.length c).ownBlock ∨ ∃ b, v'.ownBlock = some b ∧ w.heap.size ≤ b) ∧ ∀ k, k < w.heap.size → some k ≠ (Value.slice A l.length c).ownBlock → w'.heap[k]? = w.heap[k]?) := ⟨fun W g p hg hp hW => by
    subst hg
    have hWs := hW.size
    refine (insert_calls (.slice A l.length c) l ⟨xt, xn, xb⟩ p W.heap.size [.int .i64 xt, .int .i64 xn, .slice A4 xb.length c4] (W.alloc (.cells #[.int .i64 xt, .int .i64 xn, .slice A4 xb.length c4] 69)) base ok okx (by rw [World.size_alloc]; omega) ((HO.out.below hW).alloc _) hp (Blk.new W 69 _) (fun h => by have := (HO.out.blk _ h.symm).2; omega) ((HX.out.below hW).below (Below.alloc (Below.refl _ _) (Nat.le_refl _) _)) (fun k hk _ h => by have := (HO.out.blk _ h.symm).2; exact HNE.out k hk this h) hlen).mono ?_
    rintro e w' ⟨v', he, hO, hB, hA, hK⟩
    exact ⟨v', he, hO.mono (fun k hk => by
      rcases hk with hk | hk | hk
      · exact .inl hk
      · exact .inr (.inl hk)
      · exact .inr (.inr (by omega))), (hW.mono hb).trans ((Below.alloc (Below.refl _ _) (by omega) _).trans hB), hA.imp id (fun ⟨b, h1, h2⟩ => ⟨b, h1, by rw [World.size_alloc] at h2; omega⟩), fun k hk hne => (hK k (by rw [World.size_alloc]; omega) hne).trans ((heap_alloc_old W _ (by omega)).trans (hW.block k hk))⟩⟩
  go_enter Try.func41, Try.ntmps41
  go_wp2
  go_step3
  go_wp2
  go_step3
  go_wp2
  go_loopw [5, 12] (fun ua ui wr => ∃ k, k ≤ l.length ∧ ua = .int .i64 (l.length : Nat) ∧ ui = .int .i64 (k : Nat) ∧ Hd (∀ j, j < k → (nth fl0 l j).t ≤ xt) ∧ Hd (Blk wr w.heap.size 69 #[.int .i64 xt, .int .i64 xn, .slice A4 xb.length c4]) ∧ Hd (Below w.heap.size w wr)) (fun _ ui _ => l.length - (intOf ui).toNat)
  case atStart => exact ⟨0, Nat.zero_le _, rfl, rfl, ⟨fun j hj => by omega⟩, ⟨Blk.new w 69 _⟩, ⟨by go_grown⟩⟩
  case round =>
    obtain ⟨k, hk, rfl, rfl, HZ, HQ, HB⟩ := hrel
    have hqlt := HQ.out.lt
    obtain ⟨q0, q1, q2, q3, q4, q5⟩ := HQ.out.f3
    by_cases hlt : k < l.length
    · obtain ⟨ad, A5, c5, ea, y0, y1, y2, -, -⟩ := fls_get (HCC.out.below HB.out) k hlt
      cases ea
      obtain ⟨y, hy⟩ : ∃ y, y = nth fl0 l k := ⟨_, rfl⟩
      rw [← hy] at y0 y1 y2
      have HY := Hd.mk hy
      clear hy
      rcases y with ⟨yt, yn, yb⟩
      dsimp only at y0 y1 y2
      have HBa := Hd.mk (HB.out.trans (Below.alloc (Below.refl _ _) HB.out.size (.cells #[.int .i64 yt, .int .i64 yn, .slice A5 yb.length c5] 69)))
      have HQa := Hd.mk (HQ.out.alloc (.cells #[.int .i64 yt, .int .i64 yn, .slice A5 yb.length c5] 69))
      by_cases hyt : xt < yt
      · have g1 : decide (yt > xt) = true := by simp [hyt]
        have hp : placeL l xt = k := placeL_at l xt k hlt (by rw [← HY.out]; exact hyt) HZ.out
        have HP := Hd.mk hp
        have HI2 := Hd.mk (HI.out _ (wr.heap.size + 1) k (by rw [World.size_alloc]) (by omega) HBa.out)
        clear hp hyt
        go_wp2_with fail
        refine (HI2.out).mono ?_
        rintro e w7 ⟨v7, rfl, hown, hb7, ha7, hk7⟩
        have HO7 := Hd.mk hown
        have HB7 := Hd.mk hb7; have HK7 := Hd.mk hk7; have HA7 := Hd.mk ha7
        clear hown hb7 hk7 ha7
        go_wp2
        (try rw [Exit.noGoto_ret])
        go_ret
        rw [HP.out]
        exact ⟨_, rfl, HO7.out, HB7.out, HA7.out, HK7.out⟩
      · have g1 : decide (yt > xt) = false := by simp; omega
        have hle : yt ≤ xt := by omega
        have HLE := Hd.mk hle
        clear hyt hle
        go_wp2
        go_roundw
        case rel => exact ⟨k + 1, by omega, rfl, by go_num, ⟨fun j hj => by
          rcases Nat.lt_or_ge j k with h | h
          · exact HZ.out j h
          · obtain rfl : j = k := by omega
            rw [← HY.out]
            exact HLE.out⟩, HQa, HBa⟩
        case measure => simp [intOf]; omega
    · have hkl : k = l.length := by omega
      subst hkl
      have HP := Hd.mk (placeL_end l xt HZ.out)
      have HI2 := Hd.mk (HI.out _ wr.heap.size l.length rfl (Nat.le_refl _) HB.out)
      go_wp2_with fail
      refine (HI2.out).mono ?_
      rintro e w7 ⟨v7, rfl, hown, hb7, ha7, hk7⟩
      have HO7 := Hd.mk hown
      have HB7 := Hd.mk hb7; have HK7 := Hd.mk hk7; have HA7 := Hd.mk ha7
      clear hown hb7 hk7 ha7
      go_wp2
      (try rw [Exit.noGoto_ret])
      go_ret
      rw [HP.out]
      exact ⟨_, rfl, HO7.out, HB7.out, HA7.out, HK7.out⟩
end Go.Proofs.Ytkgkiencikmhfaa.B
