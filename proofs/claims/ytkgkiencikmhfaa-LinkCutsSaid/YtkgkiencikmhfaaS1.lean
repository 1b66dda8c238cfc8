/- What this text holds: what link.Send answers, as plain Lean. -/
import Derived.Test.YtkgkiencikmhfaaG2
set_option linter.unusedVariables false
set_option linter.unusedSimpArgs false
namespace Go.Proofs.Ytkgkiencikmhfaa.B
open Go.RowKit

theorem firstErr_none (f : Nat → Int) (n : Nat) (h : firstErr f n = 0) : ∀ j, j < n → f j = 0 := by
  induction n with
  | zero => intro j hj; omega
  | succ n ih =>
    rw [firstErr] at h
    by_cases h0 : firstErr f n = 0
    · rw [if_pos h0] at h
      intro j hj
      rcases Nat.lt_or_ge j n with hlt | hge
      · exact ih h0 j hlt
      · obtain rfl : j = n := by omega
        exact h
    · rw [if_neg h0] at h
      exact absurd h h0
theorem chkL_ok {mn mx rt : Int} {dn : Bool} {idle next : Int} {l : List Fl} (h : chkL mn mx rt dn idle next l = 0) :
    (0 ≤ mn ∧ mn ≤ mx ∧ mx ≤ 1073741824 ∧ 0 ≤ rt ∧ rt ≤ 65536) ∧ (0 ≤ idle ∧ idle ≤ 1073741824) ∧ (0 ≤ next ∧ next ≤ 1073741824) ∧ l.length ≤ 4096 ∧ (dn = true → l = []) ∧ ∀ i, i < l.length → chkLAt l next i = 0 := by
  unfold chkL at h
  split at h
  · cases h
  · rename_i h1
    split at h
    · cases h
    · rename_i h2
      split at h
      · cases h
      · rename_i h3
        split at h
        · cases h
        · rename_i h4
          split at h
          · cases h
          · rename_i h5
            simp only [betw, Bool.and_eq_false_iff, decide_eq_false_iff_not, not_or, Decidable.not_not] at h2 h3
            refine ⟨?_, by omega, by omega, by omega, fun hd => ?_, firstErr_none _ _ h⟩
            · have h1' : cfgF mn mx rt = 0 := by simpa using h1
              unfold cfgF at h1'
              split at h1'
              · assumption
              · cases h1'
            · have : ¬ 0 < l.length := fun hl => h5 ⟨hd, hl⟩
              exact List.eq_nil_of_length_eq_zero (by omega)
theorem chkL_small {mn mx rt : Int} {dn : Bool} {idle next : Int} {l : List Fl} (h : chkL mn mx rt dn idle next l = 0) : Small l := by
  obtain ⟨_, _, _, hl, _, hz⟩ := chkL_ok h
  refine ⟨hl, fun x hx => ?_⟩
  obtain ⟨i, hi, rfl⟩ := List.getElem_of_mem hx
  have h1 := hz i hi
  unfold chkLAt at h1
  split at h1
  · rename_i h2
    exact absurd h1 h2
  · rename_i h2
    have h3 : wrongL (nth fl0 l i).t (nth fl0 l i).n (nth fl0 l i).body.length next = 0 := by simpa using h2
    unfold wrongL at h3
    split at h3
    · cases h3
    · split at h3
      · cases h3
      · split at h3
        · cases h3
        · rw [nth_eq fl0 l i hi] at *
          omega

abbrev SS := List Fl × Int × List Int
def stepS (en mn mx : Int) (body : List Int) (s : SS) : SS :=
  (s.1.take (placeL s.1 (en + (mn + decI s.2.2 (mx - mn + 1)))) ++ (⟨en + (mn + decI s.2.2 (mx - mn + 1)), s.2.1, body⟩ : Fl) :: s.1.drop (placeL s.1 (en + (mn + decI s.2.2 (mx - mn + 1)))), s.2.1 + 1, s.2.2.drop 1)
def itS (en mn mx : Int) (body : List Int) : Nat → SS → SS
  | 0, s => s
  | k + 1, s => stepS en mn mx body (itS en mn mx body k s)
theorem stepS_len (en mn mx : Int) (body : List Int) (s : SS) : (stepS en mn mx body s).1.length = s.1.length + 1 ∧ (stepS en mn mx body s).2.1 = s.2.1 + 1 ∧ (stepS en mn mx body s).2.2.length ≤ s.2.2.length := by
  have := placeL_le s.1 (en + (mn + decI s.2.2 (mx - mn + 1)))
  refine ⟨?_, rfl, ?_⟩
  · unfold stepS
    simp only [List.length_append, List.length_cons, List.length_take, List.length_drop]
    omega
  · unfold stepS
    simp only [List.length_drop]
    omega
theorem itS_len (en mn mx : Int) (body : List Int) (k : Nat) (s : SS) : (itS en mn mx body k s).1.length = s.1.length + k ∧ (itS en mn mx body k s).2.1 = s.2.1 + k ∧ (itS en mn mx body k s).2.2.length ≤ s.2.2.length := by
  induction k with
  | zero => exact ⟨rfl, by simp [itS], Nat.le_refl _⟩
  | succ k ih =>
    have := stepS_len en mn mx body (itS en mn mx body k s)
    rw [itS]
    refine ⟨by omega, by omega, by omega⟩
def arrN (h : Int) : Nat := if h = 0 then 1 else if h = 1 then 0 else 2
def sendF (mn mx rt : Int) (dn : Bool) (idle next : Int) (l : List Fl) (now : Int) (body ch : List Int) : Lk × List Int × Int :=
  if chkL mn mx rt dn idle next l ≠ 0 then (lk0, [], chkL mn mx rt dn idle next l)
  else if betw now 0 1073741824 = false then (lk0, [], 24)
  else if 65536 < body.length then (lk0, [], 5)
  else if dn = true then (⟨mn, mx, rt, dn, idle, next, l⟩, ch, 0)
  else if 1073741824 < max now idle + ticksF body.length rt + mx then (lk0, [], 24)
  else if 4094 < l.length ∨ 1073741822 < next then (lk0, [], 11)
  else (⟨mn, mx, rt, dn, max now idle + ticksF body.length rt, (itS (max now idle + ticksF body.length rt) mn mx body (arrN (decI ch 3)) (l, next, ch.drop 1)).2.1, (itS (max now idle + ticksF body.length rt) mn mx body (arrN (decI ch 3)) (l, next, ch.drop 1)).1⟩,
    (itS (max now idle + ticksF body.length rt) mn mx body (arrN (decI ch 3)) (l, next, ch.drop 1)).2.2, 0)
theorem ticksF_le (b r : Int) (hb : 0 ≤ b) (hr : 0 ≤ r) : 0 ≤ ticksF b r ∧ ticksF b r ≤ b + r := by
  unfold ticksF
  split
  · omega
  · exact ⟨Int.ediv_nonneg (by omega) (by omega), by have := Int.ediv_le_self r (show 0 ≤ b + r - 1 by omega); omega⟩

theorem idx3 (h : Int) (h0 : 0 ≤ h) (h1 : h < 3) : ∀ W : World, (Instr.index 79 (.agg #[.int .i64 1, .int .i64 0, .int .i64 2]) (.int .i64 h)).run Try.prog W = .ok (.int .i64 (arrN h : Nat)) W := by
  intro W
  rcases (by omega : h = 0 ∨ h = 1 ∨ h = 2) with rfl | rfl | rfl <;> kernel_rfl

/-- What Send leaves: a link, choices, an error. -/
def SendPost (w : World) (r : Lk × List Int × Int) (e : Ending) (w' : World) : Prop :=
  ∃ v u, e = .returned (.tuple #[.agg #[.int .i64 r.1.mn, .int .i64 r.1.mx, .int .i64 r.1.rt, .bool r.1.down, .int .i64 r.1.idle, .int .i64 r.1.next, v], u, .int .i64 r.2.2]) ∧ fls.V w' (fun k => w.heap.size ≤ k) v r.1.fl ∧ (ints .i64).V w' (fun k => w.heap.size ≤ k) u r.2.1 ∧ Below w.heap.size w w'

theorem Kd.C.alloc {α : Type} {d : Kd α} {w : World} {A : Option Addr} {xs : List α} (h : d.C w A xs) (o : Obj) : d.C (w.alloc o) A xs := h.below (Below.alloc (Below.refl _ _) (Nat.le_refl _) o)

/-- A region that ends, in whatever order, at one frame and one world. -/
theorem wp_via {P : Program} {c : Code} {Q : Exit → Act → World → Prop} {a : Act} {w : World} (fA : Act) (fW : World) (hreg : c.wp P (fun e a' w' => e = .normal ∧ a' = fA ∧ w' = fW) a w) (hcont : Q .normal fA fW) : c.wp P Q a w :=
  Code.wp_mono (fun e a' w' h => by obtain ⟨rfl, rfl, rfl⟩ := h; exact hcont) hreg
end Go.Proofs.Ytkgkiencikmhfaa.B
