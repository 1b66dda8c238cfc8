/- What this text holds: the contract of eventqueue's events. -/
import Derived.Test.YtnmcbpjhlkpglaaF5
set_option linter.unusedVariables false
set_option linter.unusedSimpArgs false
namespace Go.Proofs.Ytnmcbpjhlkpglaa.B
open Go.RowKit

/-- Few events, with short bodies. -/
def Small (l : List Ev) : Prop := l.length ≤ 4096 ∧ ∀ x ∈ l, x.body.length ≤ 4096

theorem nth_mem {α : Type} (z : α) (l : List α) (k : Nat) (h : k < l.length) : nth z l k ∈ l := by rw [nth_eq z l k h]; exact List.getElem_mem h
theorem take_nth {α : Type} (z : α) (l : List α) (k : Nat) (h : k < l.length) : l.take (k + 1) = l.take k ++ [nth z l k] := by
  rw [List.take_succ_eq_append_getElem h, nth_eq z l k h]

/-- An event that has just been copied. -/
theorem ev_fp {w : World} {x : Ev} {A : Option Addr} {c base : Nat} (h : (ints .u8).Own 5 w base (fun _ => False) (.slice A x.body.length c) x.body) :
    Fp (fun W => evs.K W x [.int .i64 x.t, .int .i64 x.n, .int .i64 x.kd, .int .i64 x.dst, .slice A x.body.length c]) w (fun k => base ≤ k ∧ k < w.heap.size) := by
  obtain ⟨A', c', he, hl, hf⟩ := h.V
  injection he with ha _ hc
  subst ha; subst hc
  refine (hf.mono (fun k hk => ?_)).imp (fun W' hC => ⟨_, _, rfl, hl, hC⟩)
  rcases hk with hk | hk
  · exact hk.elim
  · exact h.blk k hk

theorem ev_fp2 {w : World} {x : Ev} {A : Option Addr} {c base : Nat} (h : (ints .u8).Own 5 w base (fun _ => False) (.slice A x.body.length c) x.body) :
    Fp (fun W => evs.K W x [.int .i64 x.t, .int .i64 x.n, .int .i64 x.kd, .int .i64 x.dst, .slice A x.body.length c]) w (fun k => (Value.slice A x.body.length c).ownBlock = some k) := by
  obtain ⟨A', c', he, hl, hf⟩ := h.V
  injection he with ha _ hc
  subst ha; subst hc
  exact (hf.mono (fun k hk => hk.elim (fun h => h.elim) id)).imp (fun W' hC => ⟨_, _, rfl, hl, hC⟩)

theorem events_calls (A : Option Addr) (c : Nat) (l : List Ev) (w : World) (hr : evs.C w A l) (hc : l.length ≤ c) (hs : Small l) :
    Calls Try.prog 35 #[.slice A l.length c] w fun e w' => ∃ v, e = .returned v ∧ evs.Own 32 w' w.heap.size (fun k => w.heap.size ≤ k) v l ∧ Below w.heap.size w w' := by
  have hu32 := Try.underlying32
  have HR := Hd.mk hr
  have HS := Hd.mk hs
  have hm := hs.1
  clear hr hs
  go_enter Try.func35, Try.ntmps35
  go_wp2
  go_loopw [3, 8] (fun v i wr => ∃ k : Nat, k ≤ l.length ∧ i = .int .i64 k ∧ Hd (evs.Own 32 wr w.heap.size (fun k => w.heap.size ≤ k) v (l.take k)) ∧ Hd (Below w.heap.size w wr)) (fun _ i _ => l.length - (intOf i).toNat)
  case atStart => exact ⟨0, Nat.zero_le _, rfl, ⟨Kd.Own.nil⟩, ⟨Below.refl _ _⟩⟩
  case round =>
    obtain ⟨k, hk, rfl, HO, HB⟩ := hrel
    by_cases hlt : k < l.length
    · obtain ⟨ad, A4, c4, e0, hx0, hx1, hx2, hx3, hx4, hl4, hi4⟩ := evs_get HR.out k hlt
      subst e0
      replace hx0 := (HB.out.cell (World.block_lt_of_cell? w _ hx0)).trans hx0
      replace hx1 := (HB.out.cell (World.block_lt_of_cell? w _ hx1)).trans hx1
      replace hx2 := (HB.out.cell (World.block_lt_of_cell? w _ hx2)).trans hx2
      replace hx3 := (HB.out.cell (World.block_lt_of_cell? w _ hx3)).trans hx3
      replace hx4 := (HB.out.cell (World.block_lt_of_cell? w _ hx4)).trans hx4
      have hb4 : (nth ev0 l k).body.length ≤ 4096 := HS.out.2 _ (nth_mem ev0 l k hlt)
      have HI4 := Hd.mk (hi4.below HB.out)
      have HL4 := Hd.mk hl4
      clear hl4 hi4
      go_wp2_with fail
      refine (copied_calls (nth ev0 l k) A4 c4 _ (HI4.out.below (by go_grown)) HL4.out (by omega)).mono ?_
      rintro e w1 ⟨v4, rfl, hown, hb⟩
      obtain ⟨A1, c1, rfl, -, -⟩ := hown.shape
      have hbw : Below wr.heap.size wr w1 := Below.trans (by go_grown) (hb.mono (by simp))
      have hsz : wr.heap.size + 1 ≤ w1.heap.size := by have := hb.size; simpa using this
      have HB1 : Hd (Below w.heap.size w w1) := ⟨HB.out.trans (hbw.mono HB.out.size)⟩
      have HO1 : Hd (evs.Own 32 w1 w.heap.size (fun k => w.heap.size ≤ k) u3 (l.take k)) := ⟨HO.out.below hbw⟩
      have HF : Hd (Fp (fun W => evs.K W (nth ev0 l k) [.int .i64 (nth ev0 l k).t, .int .i64 (nth ev0 l k).n, .int .i64 (nth ev0 l k).kd, .int .i64 (nth ev0 l k).dst, .slice A1 (nth ev0 l k).body.length c1]) w1 (fun j => wr.heap.size ≤ j ∧ j < w1.heap.size)) := ⟨(ev_fp hown).mono (fun j hj => ⟨by have := hj.1; simp at this; omega, hj.2⟩)⟩
      have Hne : Hd (∀ j, wr.heap.size ≤ j → some j ≠ u3.ownBlock) := ⟨fun j hj h => by have := (HO.out.blk j h.symm).2; omega⟩
      have hwsz := HB.out.size
      clear hown hb hbw hx0 hx1 hx2 hx3 hx4
      go_wp2_with (at_builtin; refine Kd.Own.append1 (w0 := w) rfl (.tmp 12) (.tmp 15) 22 (.agg #[(.int .i64 0), (.int .i64 0), (.int .i64 0), (.int .i64 0), (.slice none 0 0)]) 56 rfl Try.underlying22 info32 rfl (by decide) rfl rfl HO1.out HF.out ?h1 HB1.out ?h2 ?h3 ?_; (case h1 => exact fun j hj _ => Hne.out j hj.1); (case h2 => omega); (case h3 => rw [List.length_take]; omega); intro v1 w2 hown hb2 hg hat; have HO2 := Hd.mk hown; have HB2 := Hd.mk hb2; clear hown hb2 hg hat)
      go_roundw
      case rel => exact ⟨k + 1, by omega, by go_num, ⟨by rw [take_nth ev0 l k hlt]; exact HO2.out.mono (fun j hj => hj.elim id (fun h => by omega))⟩, HB2⟩
      case measure => simp [intOf]; omega
    · go_wp2
      go_ret
      have : k = l.length := by omega
      subst this
      have h := HO.out
      rw [List.take_length] at h
      exact ⟨_, rfl, h, HB.out⟩
end Go.Proofs.Ytnmcbpjhlkpglaa.B
