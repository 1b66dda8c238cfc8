/- What this text holds: contracts of eventqueue's closures, slices.IndexFunc, slices.ContainsFunc and wrong. -/
import Derived.Test.YtnmcbpjhlkpglaaF1
set_option linter.unusedVariables false
set_option linter.unusedSimpArgs false
namespace Go.Proofs.Ytnmcbpjhlkpglaa.B
open Go.RowKit

def wrongF (t n k o : Int) (len : Nat) (next : Int) : Int :=
  if t < 0 ∨ 1073741824 < t then 24 else if k < 0 ∨ o < 0 ∨ n < 0 ∨ next ≤ n then 2 else if 4096 < len then 5 else 0

theorem wrong_calls (t n k o : Int) (A : Option Addr) (len c : Nat) (next : Int) (w : World) (hlen : len ≤ 9223372036854775807) :
    Calls Try.prog 31 #[.agg #[.int .i64 t, .int .i64 n, .int .i64 k, .int .i64 o, .slice A len c], .int .i64 next] w fun e w' => e = .returned (.int .i64 (wrongF t n k o len next)) ∧ Below w.heap.size w w' := by
  have hu32 := Try.underlying32
  obtain ⟨r, hr⟩ : ∃ r, r = wrongF t n k o len next := ⟨_, rfl⟩
  rw [← hr]
  have Hr := Hd.mk hr
  clear hr
  go_enter Try.func31, Try.ntmps31
  go_wp2
  all_goals go_ret
  all_goals refine ⟨?_, by go_grown⟩
  all_goals rw [Hr.out]
  all_goals refine congrArg Ending.returned (congrArg (Value.int IntKind.i64) ?_)
  all_goals simp [wrongF]
  all_goals omega

/-- a closure that answers p of an event's cells, whatever was made since w -/
structure Tells (fn : FuncId) (caps : Array Value) (w : World) (p : Ev → Bool) : Prop where
  run : ∀ (args : Array Value) (W : World), (callFunc fn args).run Try.prog W = .ok (.enter fn args) W
  calls : ∀ (W : World) (x : Ev) (A4 : Option Addr) (c4 : Nat), Below w.heap.size w W →
    Calls Try.prog fn (#[.agg #[.int .i64 x.t, .int .i64 x.n, .int .i64 x.kd, .int .i64 x.dst, .slice A4 x.body.length c4]] ++ caps) W fun e w' => e = .returned (.bool (p x)) ∧ Below W.heap.size W w'

def idxI (p : Ev → Bool) (l : List Ev) : Int := match l.findIdx? p with | some i => (i : Int) | none => -1

theorem idxI_at (p : Ev → Bool) (l : List Ev) (k : Nat) (hk : k < l.length) (hp : p (nth ev0 l k) = true) (hn : ∀ j, j < k → p (nth ev0 l j) = false) : idxI p l = k := by
  unfold idxI
  have h : l.findIdx? p = some k := by
    rw [List.findIdx?_eq_some_iff_getElem]
    refine ⟨hk, ?_, fun j hj => ?_⟩
    · simpa [nth_eq, hk] using hp
    · have := hn j hj
      simpa [nth_eq, show j < l.length by omega] using this
  rw [h]

theorem idxI_none (p : Ev → Bool) (l : List Ev) (hn : ∀ j : Nat, j < l.length → p (nth ev0 l j) = false) : idxI p l = -1 := by
  unfold idxI
  have h : l.findIdx? p = none := by
    rw [List.findIdx?_eq_none_iff]
    intro x hx
    obtain ⟨j, hj, rfl⟩ := List.getElem_of_mem hx
    have := hn j hj
    simpa [nth_eq, hj] using this
  rw [h]

theorem indexFunc_calls (fn : FuncId) (caps : Array Value) (p : Ev → Bool) (A : Option Addr) (n c : Nat) (l : List Ev) (w : World)
    (hr : evs.C w A l) (hn : l.length = n) (hc : n ≤ c) (ht : Tells fn caps w p) :
    Calls Try.prog 36 #[.slice A n c, .func (.func fn) #[] caps] w fun e w' => e = .returned (.int .i64 (idxI p l)) ∧ Below w.heap.size w w' := by
  subst hn
  have hu32 := Try.underlying32
  have HR := Hd.mk hr
  have HC := Hd.mk hc
  have HT := Hd.mk ht.calls
  have hrun := ht.run
  have hm := hr.1
  clear hr hc ht
  go_enter Try.func36, Try.ntmps36
  go_wp2
  go_loopw [8] (fun i wr => ∃ k : Nat, k ≤ l.length ∧ i = .int .i64 k ∧ Hd (∀ j : Nat, j < k → p (nth ev0 l j) = false) ∧ Hd (Below w.heap.size w wr)) (fun i _ => l.length - (intOf i).toNat)
  case atStart => exact ⟨0, Nat.zero_le _, rfl, ⟨fun j h => by omega⟩, ⟨Below.refl _ _⟩⟩
  case round =>
    obtain ⟨k, hk, rfl, Hn, HB⟩ := hrel
    by_cases hlt : k < l.length
    · obtain ⟨ad, A4, c4, e0, hx0, hx1, hx2, hx3, hx4, hl4, hi4⟩ := evs_get HR.out k hlt
      subst e0
      replace hx0 := (HB.out.cell (World.block_lt_of_cell? w _ hx0)).trans hx0
      replace hx1 := (HB.out.cell (World.block_lt_of_cell? w _ hx1)).trans hx1
      replace hx2 := (HB.out.cell (World.block_lt_of_cell? w _ hx2)).trans hx2
      replace hx3 := (HB.out.cell (World.block_lt_of_cell? w _ hx3)).trans hx3
      replace hx4 := (HB.out.cell (World.block_lt_of_cell? w _ hx4)).trans hx4
      clear hl4 hi4
      cases hp : p (nth ev0 l k)
      all_goals
        have Hp := Hd.mk hp
        clear hp
        go_wp2_with (refine (HT.out _ (nth ev0 l k) A4 c4 HB.out).mono ?_; rintro e w' ⟨rfl, hb⟩; (have Hb := Hd.mk (hb.mono HB.out.size)); clear hb; rw [Hp.out])
      · go_roundw
        case rel => exact ⟨k + 1, by omega, by go_num, ⟨fun j hj => by
          rcases Nat.lt_or_ge j k with h | h
          · exact Hn.out j h
          · obtain rfl : j = k := by omega
            exact Hp.out⟩, ⟨HB.out.trans Hb.out⟩⟩
        case measure => simp [intOf]; omega
      · go_ret
        exact ⟨by rw [idxI_at p l k hlt Hp.out Hn.out]; rfl, HB.out.trans Hb.out⟩
    · go_wp2
      go_ret
      exact ⟨by rw [idxI_none p l (fun j hj => Hn.out j (by omega))]; rfl, HB.out⟩

theorem containsFunc_calls (fn : FuncId) (caps : Array Value) (p : Ev → Bool) (A : Option Addr) (n c : Nat) (l : List Ev) (w : World)
    (hr : evs.C w A l) (hn : l.length = n) (hc : n ≤ c) (ht : Tells fn caps w p) :
    Calls Try.prog 32 #[.slice A n c, .func (.func fn) #[] caps] w fun e w' => e = .returned (.bool (l.any p)) ∧ Below w.heap.size w w' := by
  have HI := Hd.mk (indexFunc_calls fn caps p A n c l w hr hn hc ht)
  clear hr hc ht hn
  have hb : decide (idxI p l ≥ 0) = l.any p := by
    unfold idxI
    cases h : l.findIdx? p with
    | none =>
      rw [List.findIdx?_eq_none_iff] at h
      simp
      intro x hx
      simp [h x hx]
    | some i =>
      have := List.findIdx?_eq_some_iff_getElem.1 h
      obtain ⟨hi, hp, _⟩ := this
      simp
      exact ⟨_, List.getElem_mem hi, hp⟩
  have Hb := Hd.mk hb
  clear hb
  go_enter Try.func32, Try.ntmps32
  go_wp2_with (refine HI.out.mono ?_; rintro e w' ⟨rfl, hb⟩; have Hb2 := Hd.mk hb; clear hb)
  go_ret
  exact ⟨by rw [← Hb.out]; rfl, Hb2.out⟩


theorem tells33 (g : Nat) (e : Ev) (w : World) (h1 : w.cell? ⟨g, 1, none⟩ = some (.int .i64 e.n)) :
    Tells 33 #[.pointer (some ⟨g, 0, none⟩)] w (fun x => x.n == e.n) := by
  refine ⟨fun _ _ => rfl, fun W x A4 c4 hb => ?_⟩
  have h1' := (hb.cell (World.block_lt_of_cell? w _ h1)).trans h1
  have hlt := World.block_lt_of_cell? W _ h1'
  have hne : W.heap.size ≠ g := by have : g < W.heap.size := hlt; omega
  clear h1 hb
  show Calls Try.prog 33 #[.agg #[.int .i64 x.t, .int .i64 x.n, .int .i64 x.kd, .int .i64 x.dst, .slice A4 x.body.length c4], .pointer (some ⟨g, 0, none⟩)] W _
  have hu32 := Try.underlying32
  go_enter Try.func33, Try.ntmps33
  go_wp2
  go_ret
  exact ⟨rfl, by go_grown⟩

theorem tells37 (g : Nat) (t : Int) (w : World) (h1 : w.cell? ⟨g, 0, none⟩ = some (.int .i64 t)) :
    Tells 37 #[.pointer (some ⟨g, 0, none⟩)] w (fun x => decide (t < x.t)) := by
  refine ⟨fun _ _ => rfl, fun W x A4 c4 hb => ?_⟩
  have h1' := (hb.cell (World.block_lt_of_cell? w _ h1)).trans h1
  have hlt := World.block_lt_of_cell? W _ h1'
  have hne : W.heap.size ≠ g := by have : g < W.heap.size := hlt; omega
  clear h1 hb
  show Calls Try.prog 37 #[.agg #[.int .i64 x.t, .int .i64 x.n, .int .i64 x.kd, .int .i64 x.dst, .slice A4 x.body.length c4], .pointer (some ⟨g, 0, none⟩)] W _
  have hu32 := Try.underlying32
  go_enter Try.func37, Try.ntmps37
  go_wp2
  go_ret
  exact ⟨rfl, by go_grown⟩

theorem tells40 (g : Nat) (t : Int) (w : World) (h1 : w.cell? ⟨g, 0, none⟩ = some (.int .i64 t)) :
    Tells 40 #[.pointer (some ⟨g, 0, none⟩)] w (fun x => x.n == t) := by
  refine ⟨fun _ _ => rfl, fun W x A4 c4 hb => ?_⟩
  have h1' := (hb.cell (World.block_lt_of_cell? w _ h1)).trans h1
  have hlt := World.block_lt_of_cell? W _ h1'
  have hne : W.heap.size ≠ g := by have : g < W.heap.size := hlt; omega
  clear h1 hb
  show Calls Try.prog 40 #[.agg #[.int .i64 x.t, .int .i64 x.n, .int .i64 x.kd, .int .i64 x.dst, .slice A4 x.body.length c4], .pointer (some ⟨g, 0, none⟩)] W _
  have hu32 := Try.underlying32
  go_enter Try.func40, Try.ntmps40
  go_wp2
  go_ret
  exact ⟨rfl, by go_grown⟩

theorem tells42 (g : Nat) (t : Int) (w : World) (h1 : w.cell? ⟨g, 0, none⟩ = some (.int .i64 t)) :
    Tells 42 #[.pointer (some ⟨g, 0, none⟩)] w (fun x => decide (t < x.t)) := by
  refine ⟨fun _ _ => rfl, fun W x A4 c4 hb => ?_⟩
  have h1' := (hb.cell (World.block_lt_of_cell? w _ h1)).trans h1
  have hlt := World.block_lt_of_cell? W _ h1'
  have hne : W.heap.size ≠ g := by have : g < W.heap.size := hlt; omega
  clear h1 hb
  show Calls Try.prog 42 #[.agg #[.int .i64 x.t, .int .i64 x.n, .int .i64 x.kd, .int .i64 x.dst, .slice A4 x.body.length c4], .pointer (some ⟨g, 0, none⟩)] W _
  have hu32 := Try.underlying32
  go_enter Try.func42, Try.ntmps42
  go_wp2
  go_ret
  exact ⟨rfl, by go_grown⟩

end Go.Proofs.Ytnmcbpjhlkpglaa.B
