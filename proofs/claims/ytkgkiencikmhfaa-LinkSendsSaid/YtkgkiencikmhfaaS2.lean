/- What this text holds: what the reference's Send leaves; flights in the order of time. -/
import Derived.Test.YtkgkiencikmhfaaF9
import Derived.Test.YtkgkiencikmhfaaH7
import Derived.Test.YtkgkiencikmhfaaTail
set_option linter.unusedVariables false
set_option linter.unusedSimpArgs false
namespace Go.Proofs.Ytkgkiencikmhfaa.B
open Go.RowKit

/-- In the order of time. -/
def Srt (l : List Fl) : Prop := l.Pairwise (fun a b => a.t ≤ b.t)
theorem Srt.nth {l : List Fl} (h : Srt l) (i j : Nat) (hij : i < j) (hj : j < l.length) : (B.nth fl0 l i).t ≤ (B.nth fl0 l j).t := by
  rw [nth_eq fl0 l i (by omega), nth_eq fl0 l j hj]
  exact List.pairwise_iff_getElem.1 h i j (by omega) hj hij
theorem Srt.of {l : List Fl} (h : ∀ i j, i < j → j < l.length → (B.nth fl0 l i).t ≤ (B.nth fl0 l j).t) : Srt l := by
  refine List.pairwise_iff_getElem.2 fun i j hi hj hij => ?_
  have := h i j hij hj
  rwa [nth_eq fl0 l i hi, nth_eq fl0 l j hj] at this
theorem place_take {l : List Fl} {time : Int} {x : Fl} (hx : x ∈ l.take (placeL l time)) : x.t ≤ time := by
  have hp := placeL_le l time
  obtain ⟨i, hi, rfl⟩ := List.getElem_of_mem hx
  have h1 : i < placeL l time := by rw [List.length_take] at hi; omega
  have := placeL_lt l time i h1
  rw [nth_eq fl0 l i (by omega)] at this
  rw [List.getElem_take]
  exact this
theorem place_drop {l : List Fl} {time : Int} {x : Fl} (h : Srt l) (hx : x ∈ l.drop (placeL l time)) : time < x.t := by
  obtain ⟨i, hi, rfl⟩ := List.getElem_of_mem hx
  rw [List.length_drop] at hi
  have h1 := placeL_ge l time (by omega)
  rw [List.getElem_drop, ← nth_eq fl0 l (placeL l time + i) (by omega)]
  rcases Nat.eq_zero_or_pos i with h0 | h0
  · rw [h0]; exact h1
  · exact Int.lt_of_lt_of_le h1 (h.nth _ _ (by omega) (by omega))
theorem Srt.insert {l : List Fl} (h : Srt l) (x : Fl) : Srt (l.take (placeL l x.t) ++ x :: l.drop (placeL l x.t)) := by
  have hl : Srt (l.take (placeL l x.t) ++ l.drop (placeL l x.t)) := by rw [List.take_append_drop]; exact h
  have h1 := List.pairwise_append.1 hl
  refine List.pairwise_append.2 ⟨h1.1, List.pairwise_cons.2 ⟨fun b hb => Int.le_of_lt (place_drop h hb), h1.2.1⟩, fun a ha b hb => ?_⟩
  rcases List.mem_cons.1 hb with rfl | hb
  · exact place_take ha
  · exact h1.2.2 a ha b hb
theorem itS_srt (en mn mx : Int) (body : List Int) (k : Nat) (s : SS) (h : Srt s.1) : Srt (itS en mn mx body k s).1 := by
  induction k with
  | zero => exact h
  | succ k ih =>
    rw [itS]
    exact Srt.insert ih ⟨en + (mn + decI (itS en mn mx body k s).2.2 (mx - mn + 1)), (itS en mn mx body k s).2.1, body⟩

/-- What the reference's Send leaves: a link, choices, an error. -/
def SendPost2 (w : World) (okc : Nat → Prop) (r : Lk × List Int × Int) (e : Ending) (w' : World) : Prop :=
  ∃ v u, e = .returned (.tuple #[.agg #[.int .i64 r.1.mn, .int .i64 r.1.mx, .int .i64 r.1.rt, .bool r.1.down, .int .i64 r.1.idle, .int .i64 r.1.next, v], u, .int .i64 r.2.2]) ∧ fls.V w' (fun k => w.heap.size ≤ k) v r.1.fl ∧ (ints .i64).V w' (fun k => okc k ∨ w.heap.size ≤ k) u r.2.1 ∧ Below w.heap.size w w'

end Go.Proofs.Ytkgkiencikmhfaa.B
