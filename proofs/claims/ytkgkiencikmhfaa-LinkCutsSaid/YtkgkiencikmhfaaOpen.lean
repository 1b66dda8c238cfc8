/- What this text holds: how a law's arguments, as they are read, lie in memory in this seat's own words. -/
import Derived.Test.YtkgkiencikmhfaaKinds
import Derived.WalkKit
import Derived.ProofKit
import Derived.OpenShut
import Derived.ShutString
import Derived.ChangeOld
import Derived.Below
import Derived.SizedLaws
import Derived.Deep.Slices
import Derived.Lib.SmallJoins
set_option linter.unusedVariables false
set_option linter.unusedSimpArgs false
namespace Go.Proofs.Ytkgkiencikmhfaa.B
open Go.RowKit Go.ChangeShapes Go.WideShapes Go.ChangeAt Go.Deep Go.Joins

section
variable {H : Type} {enc : TypeId × Value → H} {P : Program} {w : World} {base : Nat} {spare : Nat → Bool} {held : Bool}

theorem rd_ints {t e : TypeId} {k : IntKind} {fuel : Nat} {cs : List Value} {x : DataW H × List MemPlace} (ht : P.underlying t = some (.slice e)) (he : P.underlying e = some (.int k)) (hc : P.cellsOf e = 1)
    (h : DataW.trod enc P w base spare held fuel t cs = some x) : ∃ A l c xs, cs = [.slice A l c] ∧ xs.length = l ∧ l ≤ c ∧ (ints k).C w A xs ∧ ∀ n ∈ xs, (Lit.int k n).wf = true := by
  rcases open_ints ht he hc h with ⟨hcs, _⟩ | ⟨a, len, cap, zs, hcs, _, hl, hm, hz, _, hcell, hw⟩
  · exact ⟨none, 0, 0, [], hcs, rfl, Nat.le_refl _, Kd.C.nil, fun n hn => by cases hn⟩
  · have hle : len ≤ zs.length := by rw [hz]; split <;> omega
    have hlen : (zs.take len).length = len := by rw [List.length_take]; omega
    refine ⟨some a, len, cap, zs.take len, hcs, hlen, hl, ⟨by rw [hlen]; simp only [maxLen] at hm; omega, fun _ => ⟨a, rfl, fun i y hi => ⟨[.int k y], rfl, fun j u hu => ?_⟩⟩⟩, fun n hn => hw n (List.mem_of_mem_take hn)⟩
    have hil : i < len := by have := (List.getElem?_eq_some_iff.1 hi).1; omega
    rcases j with _ | j
    · injection hu with hu
      subst hu
      have h1 := hcell i (by omega)
      rw [List.getElem?_take_of_lt hil] at hi
      have h2 : zs.getD i 0 = y := by simp [List.getD, hi]
      rw [h2] at h1
      simpa [ints] using h1
    · simp at hu
end

section
variable {H : Type} {enc : TypeId × Value → H} {w : World} {base : Nat} {spare : Nat → Bool} {held : Bool}

theorem some_at {α : Type} {xs : List α} {m i : Nat} {o : Option α} (hx : xs.length = m) (hi : i < m) (ho : o = xs[i]?) : ∃ y, o = some y := by
  rw [ho]
  exact ⟨xs[i], List.getElem?_eq_getElem (by omega)⟩
theorem k3 : Try.prog.cellsOf 3 = 1 := by kernel_rfl
theorem k4 : Try.prog.cellsOf 4 = 1 := by kernel_rfl
theorem k5 : Try.prog.cellsOf 5 = 1 := by kernel_rfl
theorem k23 : Try.prog.cellsOf 23 = 3 := by kernel_rfl
theorem k24 : Try.prog.cellsOf 24 = 1 := by kernel_rfl
theorem k26 : Try.prog.cellsOf 26 = 7 := by kernel_rfl
theorem k37 : Try.prog.cellsOf 37 = 1 := by kernel_rfl
theorem k39 : Try.prog.cellsOf 39 = 2 := by kernel_rfl
theorem k40 : Try.prog.cellsOf 40 = 1 := by kernel_rfl
theorem k69 : Try.prog.cellsOf 69 = 3 := by kernel_rfl

theorem rd_flight {fuel : Nat} {cs : List Value} {x : DataW H × List MemPlace} (h : DataW.trod enc Try.prog w base spare held fuel 69 cs = some x) : ∃ y : Fl, fls.K w y cs := by
  obtain ⟨xs, n, _, _, hl, _, hf⟩ := DataW.trod_struct Try.underlying69 h
  rw [k69] at hl
  match cs, hl with
  | [c0, c1, c2], _ =>
    have f0 := hf 0 _ rfl
    have f1 := hf 1 _ rfl
    have f2 := hf 2 _ rfl
    simp [k3, k37] at f0 f1 f2
    have hx : xs.length = 3 := by assumption
    obtain ⟨y0, e0⟩ := some_at hx (by omega) f0
    obtain ⟨y1, e1⟩ := some_at hx (by omega) f1
    obtain ⟨y2, e2⟩ := some_at hx (by omega) f2
    obtain ⟨t, ht, _, _⟩ := DataW.trod_int Try.underlying3 e0
    obtain ⟨nn, hn, _, _⟩ := DataW.trod_int Try.underlying3 e1
    obtain ⟨A, l, c, body, hb, hbl, hlc, hC, _⟩ := rd_ints Try.underlying37 Try.underlying5 k5 e2
    injection ht with ht _; injection hn with hn _; injection hb with hb _
    subst ht; subst hn; subst hb; subst hbl
    exact ⟨⟨t, nn, body⟩, A, c, rfl, hlc, hC⟩

theorem rd_flights {fuel : Nat} {cs : List Value} {x : DataW H × List MemPlace} (h : DataW.trod enc Try.prog w base spare held fuel 24 cs = some x) :
    ∃ A c l, cs = [.slice A l.length c] ∧ l.length ≤ c ∧ fls.C w A l := by
  rcases open_slice Try.underlying24 h with ⟨hcs, _⟩ | ⟨a, len, cap, m, n, D, Pl, hcs, _, hl, hm, hmm, _, hel⟩
  · exact ⟨none, 0, [], hcs, Nat.le_refl _, Kd.C.nil⟩
  · have hlm : len ≤ m := by rw [hmm]; split <;> omega
    rw [k69] at hel
    have hall : ∀ i, ∃ y : Fl, i < len → fls.At w a i y := fun i => by
      by_cases hi : i < len
      · obtain ⟨cs', hc', ht⟩ := hel i (by omega)
        obtain ⟨y, hy⟩ := rd_flight ht
        refine ⟨y, fun _ => ⟨cs', hy, fun j u hu => ?_⟩⟩
        obtain ⟨_, h5, he⟩ := World.cells?_some hc'
        have hj : j < 3 := by have := (List.getElem?_eq_some_iff.1 hu).1; omega
        have := he j hj
        rw [hu, Kd.add_add] at this
        exact this
      · exact ⟨fl0, fun h => absurd h hi⟩
    have hch : ∃ f : Nat → Fl, ∀ i, i < len → fls.At w a i (f i) := ⟨fun i => (hall i).choose, fun i hi => (hall i).choose_spec hi⟩
    obtain ⟨f, hf⟩ := hch
    have hlen : ((List.range len).map f).length = len := by simp
    refine ⟨some a, cap, (List.range len).map f, by rw [hlen]; exact hcs, by rw [hlen]; exact hl, ⟨by rw [hlen]; simp only [maxLen] at hm; omega, fun _ => ⟨a, rfl, fun i y hi => ?_⟩⟩⟩
    have hil : i < len := by have := (List.getElem?_eq_some_iff.1 hi).1; omega
    have hy : f i = y := by simpa [hil] using hi
    rw [← hy]
    exact hf i hil

theorem rd_config {fuel : Nat} {cs : List Value} {x : DataW H × List MemPlace} (h : DataW.trod enc Try.prog w base spare held fuel 23 cs = some x) :
    ∃ mn mx rt, cs = [.int .i64 mn, .int .i64 mx, .int .i64 rt] ∧ (Lit.int .i64 mn).wf = true ∧ (Lit.int .i64 mx).wf = true ∧ (Lit.int .i64 rt).wf = true := by
  obtain ⟨xs, n, _, _, hl, _, hf⟩ := DataW.trod_struct Try.underlying23 h
  rw [k23] at hl
  match cs, hl with
  | [c0, c1, c2], _ =>
    have f0 := hf 0 _ rfl
    have f1 := hf 1 _ rfl
    have f2 := hf 2 _ rfl
    simp [k3] at f0 f1 f2
    have hx : xs.length = 3 := by assumption
    obtain ⟨y0, e0⟩ := some_at hx (by omega) f0
    obtain ⟨y1, e1⟩ := some_at hx (by omega) f1
    obtain ⟨y2, e2⟩ := some_at hx (by omega) f2
    obtain ⟨a0, h0, _, w0⟩ := DataW.trod_int Try.underlying3 e0
    obtain ⟨a1, h1, _, w1⟩ := DataW.trod_int Try.underlying3 e1
    obtain ⟨a2, h2, _, w2⟩ := DataW.trod_int Try.underlying3 e2
    injection h0 with h0 _; injection h1 with h1 _; injection h2 with h2 _
    subst h0; subst h1; subst h2
    exact ⟨a0, a1, a2, rfl, w0, w1, w2⟩

theorem rd_link {fuel : Nat} {cs : List Value} {x : DataW H × List MemPlace} (h : DataW.trod enc Try.prog w base spare held fuel 26 cs = some x) :
    ∃ mn mx rt dn idle next A c l, cs = [.int .i64 mn, .int .i64 mx, .int .i64 rt, .bool dn, .int .i64 idle, .int .i64 next, .slice A (l : List Fl).length c] ∧ l.length ≤ c ∧ fls.C w A l := by
  obtain ⟨xs, n, _, _, hl, _, hf⟩ := DataW.trod_struct Try.underlying26 h
  rw [k26] at hl
  match cs, hl with
  | [c0, c1, c2, c3, c4, c5, c6], _ =>
    have f0 := hf 0 _ rfl
    have f1 := hf 1 _ rfl
    have f2 := hf 2 _ rfl
    have f3 := hf 3 _ rfl
    have f4 := hf 4 _ rfl
    simp [k3, k4, k23, k24] at f0 f1 f2 f3 f4
    have hx : xs.length = 5 := by assumption
    obtain ⟨y0, e0⟩ := some_at hx (by omega) f0
    obtain ⟨y1, e1⟩ := some_at hx (by omega) f1
    obtain ⟨y2, e2⟩ := some_at hx (by omega) f2
    obtain ⟨y3, e3⟩ := some_at hx (by omega) f3
    obtain ⟨y4, e4⟩ := some_at hx (by omega) f4
    obtain ⟨mn, mx, rt, h0, _⟩ := rd_config e0
    obtain ⟨dn, h1, _, _⟩ := DataW.trod_bool Try.underlying4 e1
    obtain ⟨idle, h2, _, _⟩ := DataW.trod_int Try.underlying3 e2
    obtain ⟨next, h3, _, _⟩ := DataW.trod_int Try.underlying3 e3
    obtain ⟨A, c, l, h4, hlc, hC⟩ := rd_flights e4
    injection h0 with h0 h0'; injection h0' with h0' h0''; injection h0'' with h0'' _
    injection h1 with h1 _; injection h2 with h2 _; injection h3 with h3 _; injection h4 with h4 _
    subst h0; subst h0'; subst h0''; subst h1; subst h2; subst h3; subst h4
    exact ⟨mn, mx, rt, dn, idle, next, A, c, l, rfl, hlc, hC⟩

/-- A link, as it comes in. -/
theorem rd_link_arg {r : Reach} {b0 : Nat} {v : Value} {d : DataW H} {p : List MemPlace} (hv : Value.okWide Try.prog w r b0 26 v) (h : DataW.Trod enc Try.prog w base spare held 26 v d p) :
    ∃ mn mx rt dn idle next A c l, v = .agg #[.int .i64 mn, .int .i64 mx, .int .i64 rt, .bool dn, .int .i64 idle, .int .i64 next, .slice A (l : List Fl).length c] ∧ l.length ≤ c ∧ fls.C w A l := by
  obtain ⟨cs, rfl, _⟩ := okWide_struct Try.underlying26 hv
  obtain ⟨fuel, hf⟩ := h
  obtain ⟨mn, mx, rt, dn, idle, next, A, c, l, hcs, hl, hC⟩ := rd_link hf
  refine ⟨mn, mx, rt, dn, idle, next, A, c, l, ?_, hl, hC⟩
  have h2 : cs.toList = _ := hcs
  rw [← Array.toArray_toList (xs := cs), h2]

/-- What is sent, as it comes in. -/
theorem rd_sent_arg {r : Reach} {b0 : Nat} {v : Value} {d : DataW H} {p : List MemPlace} (hv : Value.okWide Try.prog w r b0 39 v) (h : DataW.Trod enc Try.prog w base spare held 39 v d p) :
    ∃ now A c body, v = .agg #[.int .i64 now, .slice A (body : List Int).length c] ∧ body.length ≤ c ∧ (ints .u8).C w A body := by
  obtain ⟨v0, v1, y0, y1, n, rfl, _, _, h0, h1⟩ := open_agg2 Try.underlying39 (by kernel_rfl) (by kernel_rfl) hv h
  obtain ⟨now, hn, _, _⟩ := DataW.trod_int Try.underlying3 h0
  obtain ⟨A, l, c, body, hb, hbl, hlc, hC, _⟩ := rd_ints Try.underlying37 Try.underlying5 k5 h1
  injection hn with hn _; injection hb with hb _
  subst hn; subst hb; subst hbl
  exact ⟨now, A, c, body, rfl, hlc, hC⟩
theorem rd_ints_arg {r : Reach} {b0 : Nat} {v : Value} {d : DataW H} {p : List MemPlace} (hv : Value.okWide Try.prog w r b0 40 v) (h : DataW.Trod enc Try.prog w base spare held 40 v d p) : ∃ A c l, v = .slice A (l : List Int).length c ∧ l.length ≤ c ∧ (ints .i64).C w A l := by
  obtain ⟨fuel, hf⟩ := h
  obtain ⟨A, l, c, body, hb, hbl, hlc, hC, _⟩ := rd_ints Try.underlying40 Try.underlying3 k3 hf
  subst hbl
  refine ⟨A, c, body, ?_, hlc, hC⟩
  obtain ⟨a, l, c', rfl⟩ := okWide_slice Try.underlying40 hv
  simpa [Value.cells] using hb
end
end Go.Proofs.Ytkgkiencikmhfaa.B
