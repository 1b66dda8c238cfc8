/- What this text holds: how a run, as it comes in, lies in memory. -/
import Derived.Test.YtkgkiencikmhfaaOpen
import Derived.Test.YtkgkiencikmhfaaRun
set_option linter.unusedVariables false
set_option linter.unusedSimpArgs false
namespace Go.Proofs.Ytkgkiencikmhfaa.B
open Go.RowKit Go.ChangeShapes Go.WideShapes Go.ChangeAt Go.Deep Go.Joins

section
variable {H : Type} {enc : TypeId × Value → H} {w : World} {base : Nat} {spare : Nat → Bool} {held : Bool}
theorem k47 : Try.prog.cellsOf 47 = 1 := by kernel_rfl
theorem k49 : Try.prog.cellsOf 49 = 5 := by kernel_rfl
theorem k58 : Try.prog.cellsOf 58 = 2 := by kernel_rfl
theorem rd_step {fuel : Nat} {cs : List Value} {x : DataW H × List MemPlace} (h : DataW.trod enc Try.prog w base spare held fuel 58 cs = some x) : ∃ y : Int × Int, sts.K w y cs ∧ 0 ≤ y.1 ∧ y.1 ≤ 255 ∧ 0 ≤ y.2 ∧ y.2 ≤ 255 := by
  obtain ⟨xs, n, _, _, hl, _, hf⟩ := DataW.trod_struct Try.underlying58 h
  rw [k58] at hl
  match cs, hl with
  | [c0, c1], _ =>
    have f0 := hf 0 _ rfl
    have f1 := hf 1 _ rfl
    simp [k5] at f0 f1
    have hx : xs.length = 2 := by assumption
    obtain ⟨y0, e0⟩ := some_at hx (by omega) f0
    obtain ⟨y1, e1⟩ := some_at hx (by omega) f1
    obtain ⟨a0, h0, _, w0⟩ := DataW.trod_int Try.underlying5 e0
    obtain ⟨a1, h1, _, w1⟩ := DataW.trod_int Try.underlying5 e1
    injection h0 with h0 _; injection h1 with h1 _
    subst h0; subst h1
    have b0 := bounds_u8 w0
    have b1 := bounds_u8 w1
    exact ⟨(a0, a1), rfl, by dsimp only; omega, by dsimp only; omega, by dsimp only; omega, by dsimp only; omega⟩
theorem rd_steps {fuel : Nat} {cs : List Value} {x : DataW H × List MemPlace} (h : DataW.trod enc Try.prog w base spare held fuel 47 cs = some x) :
    ∃ A c l, cs = [.slice A (l : List (Int × Int)).length c] ∧ l.length ≤ c ∧ sts.C w A l ∧ ∀ y ∈ l, 0 ≤ y.1 ∧ y.1 ≤ 255 ∧ 0 ≤ y.2 ∧ y.2 ≤ 255 := by
  rcases open_slice Try.underlying47 h with ⟨hcs, _⟩ | ⟨a, len, cap, m, n, D, Pl, hcs, _, hl, hm, hmm, _, hel⟩
  · exact ⟨none, 0, [], hcs, Nat.le_refl _, Kd.C.nil, fun y hy => by cases hy⟩
  · have hlm : len ≤ m := by rw [hmm]; split <;> omega
    rw [k58] at hel
    have hall : ∀ i, ∃ y : Int × Int, (i < len → sts.At w a i y) ∧ 0 ≤ y.1 ∧ y.1 ≤ 255 ∧ 0 ≤ y.2 ∧ y.2 ≤ 255 := fun i => by
      by_cases hi : i < len
      · obtain ⟨cs', hc', ht⟩ := hel i (by omega)
        obtain ⟨y, hy, hb⟩ := rd_step ht
        refine ⟨y, fun _ => ⟨cs', hy, fun j u hu => ?_⟩, hb⟩
        obtain ⟨_, h5, he⟩ := World.cells?_some hc'
        have hj : j < 2 := by have := (List.getElem?_eq_some_iff.1 hu).1; omega
        have := he j hj
        rw [hu, Kd.add_add] at this
        exact this
      · exact ⟨st0, fun h => absurd h hi, by simp [st0]⟩
    have hch : ∃ f : Nat → Int × Int, ∀ i, (i < len → sts.At w a i (f i)) ∧ 0 ≤ (f i).1 ∧ (f i).1 ≤ 255 ∧ 0 ≤ (f i).2 ∧ (f i).2 ≤ 255 := ⟨fun i => (hall i).choose, fun i => (hall i).choose_spec⟩
    obtain ⟨f, hf⟩ := hch
    have hlen : ((List.range len).map f).length = len := by simp
    refine ⟨some a, cap, (List.range len).map f, by rw [hlen]; exact hcs, by rw [hlen]; exact hl, ⟨by rw [hlen]; simp only [maxLen] at hm; omega, fun _ => ⟨a, rfl, fun i y hi => ?_⟩⟩, fun y hy => ?_⟩
    · have hil : i < len := by have := (List.getElem?_eq_some_iff.1 hi).1; omega
      have hy : f i = y := by simpa [hil] using hi
      rw [← hy]
      exact (hf i).1 hil
    · obtain ⟨i, _, rfl⟩ := List.mem_map.1 hy
      exact (hf i).2
/-- A run, as it comes in. -/
theorem rd_run_arg {r : Reach} {b0 : Nat} {v : Value} {d : DataW H} {p : List MemPlace} (hv : Value.okWide Try.prog w r b0 49 v) (h : DataW.Trod enc Try.prog w base spare held 49 v d p) :
    ∃ mn mx rt A c sl A1 c1 ch, v = .agg #[.int .i64 mn, .int .i64 mx, .int .i64 rt, .slice A (sl : List (Int × Int)).length c, .slice A1 (ch : List Int).length c1] ∧ sl.length ≤ c ∧ sts.C w A sl ∧ (∀ y ∈ sl, 0 ≤ y.1 ∧ y.1 ≤ 255 ∧ 0 ≤ y.2 ∧ y.2 ≤ 255) ∧ ch.length ≤ c1 ∧ (ints .i64).C w A1 ch := by
  obtain ⟨cs, rfl, _⟩ := okWide_struct Try.underlying49 hv
  obtain ⟨fuel, hf0⟩ := h
  obtain ⟨xs, n, _, _, hl, _, hf⟩ := DataW.trod_struct Try.underlying49 hf0
  have hl2 : cs.toList.length = Try.prog.cellsOf 49 := hl
  rw [k49] at hl2
  obtain ⟨c0, c1', c2, c3, c4, hcs⟩ : ∃ c0 c1 c2 c3 c4, cs.toList = [c0, c1, c2, c3, c4] := by
    match h5 : cs.toList, hl2 with
    | [c0, c1, c2, c3, c4], _ => exact ⟨c0, c1, c2, c3, c4, rfl⟩
  have hcs2 : cs = #[c0, c1', c2, c3, c4] := by rw [← Array.toArray_toList (xs := cs), hcs]
  subst hcs2
  have f0 := hf 0 _ rfl
  have f1 := hf 1 _ rfl
  have f2 := hf 2 _ rfl
  simp [k23, k47, k40, Value.cells] at f0 f1 f2
  have hx : xs.length = 3 := by assumption
  obtain ⟨y0, e0⟩ := some_at hx (by omega) f0
  obtain ⟨y1, e1⟩ := some_at hx (by omega) f1
  obtain ⟨y2, e2⟩ := some_at hx (by omega) f2
  obtain ⟨mn, mx, rt, h0, _⟩ := rd_config e0
  obtain ⟨A, c, sl, h1, hsl, hS, hb⟩ := rd_steps e1
  obtain ⟨A1, l, c1, ch, h2, hbl, hlc, hC, _⟩ := rd_ints Try.underlying40 Try.underlying3 k3 e2
  injection h0 with h0 h0'; injection h0' with h0' h0''; injection h0'' with h0'' _
  injection h1 with h1 _; injection h2 with h2 _
  subst h0; subst h0'; subst h0''; subst h1; subst h2; subst hbl
  exact ⟨mn, mx, rt, A, c, sl, A1, c1, ch, rfl, hsl, hS, hb, hlc, hC⟩
end
end Go.Proofs.Ytkgkiencikmhfaa.B
