/- What this text holds: how a law's arguments, as they are read, lie in memory in this seat's own words. -/
import Derived.Test.YtnmcbpjhlkpglaaKinds
import Derived.WalkKit
import Derived.ProofKit
import Derived.OpenShut
import Derived.ShutString
import Derived.ChangeOld
import Derived.Below
import Derived.SizedLaws
import Derived.Deep.Slices
import Derived.Lib.SmallJoins
set_option linter.unusedVariables false
set_option linter.unusedSimpArgs false
namespace Go.Proofs.Ytnmcbpjhlkpglaa.B
open Go.RowKit Go.ChangeShapes Go.WideShapes Go.ChangeAt Go.Deep Go.Joins

section
variable {H : Type} {enc : TypeId × Value → H} {P : Program} {w : World} {base : Nat} {spare : Nat → Bool} {held : Bool}

theorem rd_ints {t e : TypeId} {k : IntKind} {fuel : Nat} {cs : List Value} {x : DataW H × List MemPlace} (ht : P.underlying t = some (.slice e)) (he : P.underlying e = some (.int k)) (hc : P.cellsOf e = 1)
    (h : DataW.trod enc P w base spare held fuel t cs = some x) : ∃ A l c xs, cs = [.slice A l c] ∧ xs.length = l ∧ l ≤ c ∧ (ints k).C w A xs ∧ ∀ n ∈ xs, (Lit.int k n).wf = true := by
  rcases open_ints ht he hc h with ⟨hcs, _⟩ | ⟨a, len, cap, zs, hcs, _, hl, hm, hz, _, hcell, hw⟩
  · exact ⟨none, 0, 0, [], hcs, rfl, Nat.le_refl _, Kd.C.nil, fun n hn => by cases hn⟩
  · have hle : len ≤ zs.length := by rw [hz]; split <;> omega
    have hlen : (zs.take len).length = len := by rw [List.length_take]; omega
    refine ⟨some a, len, cap, zs.take len, hcs, hlen, hl, ⟨by rw [hlen]; simp only [maxLen] at hm; omega, fun _ => ⟨a, rfl, fun i y hi => ⟨[.int k y], rfl, fun j u hu => ?_⟩⟩⟩, fun n hn => hw n (List.mem_of_mem_take hn)⟩
    have hil : i < len := by have := (List.getElem?_eq_some_iff.1 hi).1; omega
    rcases j with _ | j
    · injection hu with hu
      subst hu
      have h1 := hcell i (by omega)
      rw [List.getElem?_take_of_lt hil] at hi
      have h2 : zs.getD i 0 = y := by simp [List.getD, hi]
      rw [h2] at h1
      simpa [ints] using h1
    · simp at hu
end

section
variable {H : Type} {enc : TypeId × Value → H} {w : World} {base : Nat} {spare : Nat → Bool} {held : Bool}

theorem rd_event {fuel : Nat} {cs : List Value} {x : DataW H × List MemPlace} (h : DataW.trod enc Try.prog w base spare held fuel 32 cs = some x) : ∃ y : Ev, evs.K w y cs := by
  obtain ⟨xs, n, _, _, hl, _, hf⟩ := DataW.trod_struct Try.underlying32 h
  have hcl : Try.prog.cellsOf 32 = 5 := by kernel_rfl
  rw [hcl] at hl
  match cs, hl with
  | [c0, c1, c2, c3, c4], _ =>
    have f0 := hf 0 _ rfl
    have f1 := hf 1 _ rfl
    have f2 := hf 2 _ rfl
    have f3 := hf 3 _ rfl
    have f4 := hf 4 _ rfl
    have k3 : Try.prog.cellsOf 3 = 1 := by kernel_rfl
    have k30 : Try.prog.cellsOf 30 = 1 := by kernel_rfl
    have k5 : Try.prog.cellsOf 5 = 1 := by kernel_rfl
    simp [k3, k30] at f0 f1 f2 f3 f4
    have some_of : ∀ (i : Nat) {o : Option (DataW H × List MemPlace)}, xs.length = 5 → i < 5 → o = xs[i]? → ∃ y, o = some y := fun i o hx hi ho => by
      rw [ho]
      exact ⟨xs[i], List.getElem?_eq_getElem (by omega)⟩
    have hx5 : xs.length = 5 := by assumption
    obtain ⟨y0, e0⟩ := some_of 0 hx5 (by omega) f0
    obtain ⟨y1, e1⟩ := some_of 1 hx5 (by omega) f1
    obtain ⟨y2, e2⟩ := some_of 2 hx5 (by omega) f2
    obtain ⟨y3, e3⟩ := some_of 3 hx5 (by omega) f3
    obtain ⟨y4, e4⟩ := some_of 4 hx5 (by omega) f4
    obtain ⟨t, ht, _, _⟩ := DataW.trod_int Try.underlying3 e0
    obtain ⟨nn, hn, _, _⟩ := DataW.trod_int Try.underlying3 e1
    obtain ⟨kd, hk, _, _⟩ := DataW.trod_int Try.underlying3 e2
    obtain ⟨dst, hd, _, _⟩ := DataW.trod_int Try.underlying3 e3
    obtain ⟨A, l, c, body, hb, hbl, hlc, hC, _⟩ := rd_ints Try.underlying30 Try.underlying5 k5 e4
    injection ht with ht _; injection hn with hn _; injection hk with hk _; injection hd with hd _; injection hb with hb _
    subst ht; subst hn; subst hk; subst hd; subst hb; subst hbl
    exact ⟨⟨t, nn, kd, dst, body⟩, A, c, rfl, hlc, hC⟩

theorem rd_events {fuel : Nat} {cs : List Value} {x : DataW H × List MemPlace} (h : DataW.trod enc Try.prog w base spare held fuel 22 cs = some x) :
    ∃ A c l, cs = [.slice A l.length c] ∧ l.length ≤ c ∧ evs.C w A l := by
  rcases open_slice Try.underlying22 h with ⟨hcs, _⟩ | ⟨a, len, cap, m, n, D, Pl, hcs, _, hl, hm, hmm, _, hel⟩
  · exact ⟨none, 0, [], hcs, Nat.le_refl _, Kd.C.nil⟩
  · have hlm : len ≤ m := by rw [hmm]; split <;> omega
    have hcl : Try.prog.cellsOf 32 = 5 := by kernel_rfl
    rw [hcl] at hel
    have hall : ∀ i, ∃ y : Ev, i < len → evs.At w a i y := fun i => by
      by_cases hi : i < len
      · obtain ⟨cs', hc', ht⟩ := hel i (by omega)
        obtain ⟨y, hy⟩ := rd_event ht
        refine ⟨y, fun _ => ⟨cs', hy, fun j u hu => ?_⟩⟩
        obtain ⟨_, h5, he⟩ := World.cells?_some hc'
        have hj : j < 5 := by have := (List.getElem?_eq_some_iff.1 hu).1; omega
        have := he j hj
        rw [hu, Kd.add_add] at this
        exact this
      · exact ⟨ev0, fun h => absurd h hi⟩
    have hch : ∃ f : Nat → Ev, ∀ i, i < len → evs.At w a i (f i) := ⟨fun i => (hall i).choose, fun i hi => (hall i).choose_spec hi⟩
    obtain ⟨f, hf⟩ := hch
    have hlen : ((List.range len).map f).length = len := by simp
    refine ⟨some a, cap, (List.range len).map f, by rw [hlen]; exact hcs, by rw [hlen]; exact hl, ⟨by rw [hlen]; simp only [maxLen] at hm; omega, fun _ => ⟨a, rfl, fun i y hi => ?_⟩⟩⟩
    have hil : i < len := by have := (List.getElem?_eq_some_iff.1 hi).1; omega
    have hy : f i = y := by simpa [hil] using hi
    rw [← hy]
    exact hf i hil

/-- A queue, as it comes in. -/
theorem rd_queue {r : Reach} {b0 : Nat} {v : Value} {d : DataW H} {p : List MemPlace} (hv : Value.okWide Try.prog w r b0 24 v) (h : DataW.Trod enc Try.prog w base spare held 24 v d p) :
    ∃ A c l next, v = .agg #[.slice A l.length c, .int .i64 next] ∧ l.length ≤ c ∧ evs.C w A l := by
  obtain ⟨v0, v1, y0, y1, n, rfl, _, _, h0, h1⟩ := open_agg2 Try.underlying24 (by kernel_rfl) (by kernel_rfl) hv h
  obtain ⟨A, c, l, hs, hl, hC⟩ := rd_events h0
  obtain ⟨next, hn, _, _⟩ := DataW.trod_int Try.underlying3 h1
  injection hs with hs _; injection hn with hn _
  subst hs; subst hn
  exact ⟨A, c, l, next, rfl, hl, hC⟩
end
end Go.Proofs.Ytnmcbpjhlkpglaa.B
