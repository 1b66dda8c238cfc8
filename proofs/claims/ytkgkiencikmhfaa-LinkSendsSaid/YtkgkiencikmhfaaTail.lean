/- What this text holds: a region that draws its order and ends in one operation that waits for all others: that one is walked behind the others. -/
import Derived.Test.YtkgkiencikmhfaaAbs
import Derived.Deep.RegionHeld3
set_option linter.unusedVariables false
set_option linter.unusedSimpArgs false
namespace Go.Proofs.Ytkgkiencikmhfaa.B
open Go.RowKit

section
variable {P : Program} {md : Region.Mode} {Q Q' : Exit → Act → World → Prop} {ops1 : Array Oper} {o : Oper}

theorem upon_post {op : Oper} {a : Act} {K : Act → World → Prop} {r : Result Next} (hp : ∀ c a w, Q (.panic c) a w → Q' (.panic c) a w) (hl : LetsOut Q → LetsOut Q') (h : op.upon P a K Q r) : op.upon P a K Q' r := by
  cases r with
  | ok n w' =>
    cases n
    case enter f args =>
      rw [Oper.upon_enter] at h ⊢
      refine Calls.mono h fun e w'' he => ?_
      cases e with
      | returned v => exact he
      | panicked c => exact hp _ _ _ he
      | outgrown => exact hl he
    all_goals exact h
  | halt x w' =>
    cases x
    case panic v => exact hp _ _ _ h
    all_goals exact h

/-- Behind the first operations: the last one, and then the post. -/
def tailQ (P : Program) (ops : Array Oper) (n : Nat) (Q : Exit → Act → World → Prop) : Exit → Act → World → Prop
  | .normal, a, w => wpOp P ops Q n (Q .normal) a w
  | e, a, w => Q e a w

/-- The last operation waits for all others, and those wait for earlier ones alone. -/
def tailOk (md : Region.Mode) (ops1 : Array Oper) (o : Oper) : Bool :=
  o.guard.isNone && (List.range ops1.size).all (fun j => o.after.any (fun e => Region.binds md e && e.on == j)) && o.after.all (fun e => !Region.binds md e || decide (e.on < ops1.size)) &&
  (List.range ops1.size).all (fun j => match ops1[j]? with
    | some oj => oj.after.all (fun e => !Region.binds md e || decide (e.on < j)) && (match oj.guard with | some (g, _) => decide (g < ops1.size) | none => true)
    | none => true)

theorem tailOk_spec (h : tailOk md ops1 o = true) : o.guard = none ∧ (∀ j, j < ops1.size → ∃ e ∈ o.after, Region.binds md e = true ∧ e.on = j) ∧ (∀ e ∈ o.after, Region.binds md e = true → e.on < ops1.size) ∧
    (∀ j oj, ops1[j]? = some oj → (∀ e ∈ oj.after, Region.binds md e = true → e.on < j) ∧ ∀ g b, oj.guard = some (g, b) → g < ops1.size) := by
  simp only [tailOk, Bool.and_eq_true, List.all_eq_true, List.mem_range, Array.all_eq_true_iff_forall_mem, Bool.or_eq_true, Bool.not_eq_true', decide_eq_true_eq] at h
  obtain ⟨⟨⟨h1, h2⟩, h3⟩, h4⟩ := h
  refine ⟨by simpa using h1, fun j hj => ?_, fun e he hb => ?_, fun j oj hj => ?_⟩
  · obtain ⟨e, he, hb⟩ := Array.any_eq_true'.1 (h2 j hj)
    simp only [Bool.and_eq_true, beq_iff_eq] at hb
    exact ⟨e, he, hb.1, hb.2⟩
  · exact (h3 e he).resolve_left (by simp [hb])
  · have h5 := h4 j (Array.getElem?_eq_some_iff.1 hj).1
    rw [hj] at h5
    simp only [Bool.and_eq_true, Array.all_eq_true_iff_forall_mem, Bool.or_eq_true, Bool.not_eq_true', decide_eq_true_eq] at h5
    refine ⟨fun e he hb => (h5.1 e he).resolve_left (by simp [hb]), fun g b hg => ?_⟩
    have h6 := h5.2
    rw [hg] at h6
    simpa using h6

theorem push_lt {α : Type} {xs : Array α} {x : α} {i : Nat} (h : i < xs.size) : (xs.push x)[i]? = xs[i]? := by
  rw [Array.getElem?_push]
  rw [if_neg (by omega)]

theorem wpOp_push (hok : tailOk md ops1 o = true) {i : Nat} (hi : i < ops1.size) {K : Act → World → Prop} {a : Act} {w : World} (h : wpOp P ops1 (tailQ P (ops1.push o) ops1.size Q) i K a w) : wpOp P (ops1.push o) Q i K a w := by
  obtain ⟨-, -, -, h4⟩ := tailOk_spec hok
  unfold wpOp at h ⊢
  rw [push_lt hi]
  cases hoi : ops1[i]? with
  | none => rw [hoi] at h; exact h
  | some oi =>
    rw [hoi] at h
    dsimp only at h ⊢
    have hw : Region.wanted oi (yielded (ops1.push o) a.tmps) = Region.wanted oi (yielded ops1 a.tmps) := by
      unfold Region.wanted
      cases hg : oi.guard with
      | none => rfl
      | some gb =>
        obtain ⟨g, b⟩ := gb
        dsimp only
        have : yielded (ops1.push o) a.tmps g = yielded ops1 a.tmps g := by unfold yielded; rw [push_lt ((h4 i oi hoi).2 g b hg)]
        rw [this]
    rw [hw]
    split
    · rename_i hw1
      rw [if_pos hw1] at h
      rcases h with h | ⟨h1, a', w', h2⟩
      · exact .inl (upon_post (fun c a w h => h) (fun ⟨a', w', h⟩ => ⟨a', w', h⟩) h)
      · exact .inr ⟨h1, a', w', h2⟩
    · rename_i hw1
      rw [if_neg hw1] at h
      exact h

theorem listed_push_lt {listed : Array Bool} {j : Nat} {d : Bool} (h : j < listed.size) : (listed.push false).getD j d = listed.getD j d := by
  simp [Array.getElem?_push, Nat.ne_of_lt h]

theorem ready_push (hok : tailOk md ops1 o = true) {listed : Array Bool} (hs : listed.size = ops1.size) {j : Nat} (hj : j < ops1.size) : j ∈ Region.ready md (ops1.push o) (listed.push false) ↔ j ∈ Region.ready md ops1 listed := by
  obtain ⟨-, -, -, h4⟩ := tailOk_spec hok
  rw [mem_ready, mem_ready, listed_push_lt (by omega), push_lt hj]
  refine and_congr_right fun _ => exists_congr fun oj => and_congr_right fun hoj => ?_
  refine forall_congr' fun e => ⟨fun h he hb => ?_, fun h he hb => ?_⟩
  · have := h he hb
    rwa [listed_push_lt (by have := (h4 j oj hoj).1 e he hb; omega)] at this
  · rw [listed_push_lt (by have := (h4 j oj hoj).1 e he hb; omega)]
    exact h he hb

theorem all_listed (hok : tailOk md ops1 o = true) {listed : Array Bool} (hr : Region.ready md ops1 listed = []) : ∀ j, j < ops1.size → listed.getD j true = true := by
  obtain ⟨-, -, -, h4⟩ := tailOk_spec hok
  intro j
  induction j using Nat.strongRecOn with
  | ind j ih =>
    intro hj
    by_cases h : listed.getD j true = true
    · exact h
    · exfalso
      have hm : j ∈ Region.ready md ops1 listed := mem_ready.2 ⟨by simpa using h, ops1[j], Array.getElem?_eq_getElem hj, fun e he hb => by
        have hlt := (h4 j _ (Array.getElem?_eq_getElem hj)).1 e he hb
        have h5 := ih e.on hlt (by omega)
        have h6 : j < listed.size := by
          rcases Nat.lt_or_ge j listed.size with h' | h'
          · exact h'
          · exact absurd (by simp [Array.getElem?_eq_none h']) h
        have h7 : e.on < listed.size := by omega
        simp only [Array.getD_eq_getD_getElem?, Array.getElem?_eq_getElem h7, Option.getD_some] at h5 ⊢
        exact h5⟩
      rw [hr] at hm
      cases hm

theorem set_push {listed : Array Bool} {i : Nat} (h : i < listed.size) : (listed.push false).setIfInBounds i true = (listed.setIfInBounds i true).push false := by
  apply Array.ext_getElem?
  intro k
  by_cases hik : i = k
  · subst hik
    rw [Array.getElem?_setIfInBounds_self_of_lt (by simp; omega), push_lt (by simpa using h), Array.getElem?_setIfInBounds_self_of_lt h]
  · rw [Array.getElem?_setIfInBounds_ne hik]
    rcases Nat.lt_or_ge k listed.size with hk | hk
    · rw [push_lt hk, push_lt (by simpa using hk), Array.getElem?_setIfInBounds_ne hik]
    · simp [Array.getElem?_push, Array.getElem?_setIfInBounds_ne hik]

/-- When all others have come up. -/
theorem wpAny_last (hok : tailOk md ops1 o = true) {listed : Array Bool} (hs : listed.size = ops1.size) (hr : Region.ready md ops1 listed = []) {a : Act} {w : World} (h : wpOp P (ops1.push o) Q ops1.size (Q .normal) a w) (fuel : Nat) :
    wpAny P md (ops1.push o) Q (fuel + 1) (listed.push false) a w := by
  obtain ⟨-, h2, h3, h4⟩ := tailOk_spec hok
  have hall := all_listed hok hr
  have hn : ops1.size ∈ Region.ready md (ops1.push o) (listed.push false) := mem_ready.2 ⟨by simp [← hs], o, by simp, fun e he hb => by
    have hlt := h3 e he hb
    rw [listed_push_lt (by omega)]
    have h5 := hall _ hlt
    have h7 : e.on < listed.size := by omega
    simp only [Array.getD_eq_getD_getElem?, Array.getElem?_eq_getElem h7, Option.getD_some] at h5 ⊢
    exact h5⟩
  refine ⟨fun h0 => (by rw [h0] at hn; cases hn), fun i hi => ?_⟩
  have hin : i = ops1.size := by
    rcases Nat.lt_or_ge i ops1.size with hlt | hge
    · rw [ready_push hok hs hlt, hr] at hi
      cases hi
    · obtain ⟨_, oi, hoi, _⟩ := mem_ready.1 hi
      have := (Array.getElem?_eq_some_iff.1 hoi).1
      simp at this
      omega
  subst hin
  refine wpOp_mono (fun a' w' h' => ?_) h
  have hr2 : Region.ready md (ops1.push o) ((listed.push false).setIfInBounds ops1.size true) = [] := by
    refine List.eq_nil_iff_forall_not_mem.2 fun j hj => ?_
    obtain ⟨h0, oj, hoj, _⟩ := mem_ready.1 hj
    have hjlt := (Array.getElem?_eq_some_iff.1 hoj).1
    simp only [Array.size_push] at hjlt
    rcases Nat.lt_or_ge j ops1.size with hlt | hge
    · rw [getD_set_ne true (by omega), listed_push_lt (by omega), hall j hlt] at h0
      cases h0
    · obtain rfl : j = ops1.size := by omega
      simp [← hs] at h0
  cases fuel with
  | zero => exact ⟨hr2, h'⟩
  | succ fuel => exact ⟨fun _ => h', by rw [hr2]; simp⟩

theorem wpAny_push (hok : tailOk md ops1 o = true) : ∀ (fuel : Nat) (listed : Array Bool) (a : Act) (w : World), listed.size = ops1.size →
    wpAny P md ops1 (tailQ P (ops1.push o) ops1.size Q) fuel listed a w → wpAny P md (ops1.push o) Q (fuel + 1) (listed.push false) a w
  | 0, listed, a, w, hs, h => wpAny_last hok hs h.1 h.2 0
  | fuel + 1, listed, a, w, hs, h => by
    by_cases hr : Region.ready md ops1 listed = []
    · exact wpAny_last hok hs hr (h.1 hr) _
    · obtain ⟨j0, hj0⟩ := List.exists_mem_of_ne_nil _ hr
      have lt_of : ∀ j, j ∈ Region.ready md ops1 listed → j < ops1.size := fun j hj => by
        obtain ⟨_, oj, hoj, _⟩ := mem_ready.1 hj
        exact (Array.getElem?_eq_some_iff.1 hoj).1
      refine ⟨fun h0 => ?_, fun i hi => ?_⟩
      · have := (ready_push hok hs (lt_of j0 hj0)).2 hj0
        rw [h0] at this
        cases this
      · have hlt : i < ops1.size := by
          obtain ⟨hi0, oi, hoi, hall⟩ := mem_ready.1 hi
          have hil := (Array.getElem?_eq_some_iff.1 hoi).1
          simp only [Array.size_push] at hil
          rcases Nat.lt_or_ge i ops1.size with h' | h'
          · exact h'
          · exfalso
            obtain rfl : i = ops1.size := by omega
            obtain rfl : o = oi := by simpa using hoi
            obtain ⟨-, h2, -, -⟩ := tailOk_spec hok
            obtain ⟨e, he, hb, hon⟩ := h2 j0 (lt_of j0 hj0)
            have h5 := hall e he hb
            rw [hon, listed_push_lt (by have := lt_of j0 hj0; omega)] at h5
            have h6 := (mem_ready.1 hj0).1
            have h7 : j0 < listed.size := by have := lt_of j0 hj0; omega
            simp only [Array.getD_eq_getD_getElem?, Array.getElem?_eq_getElem h7, Option.getD_some] at h5 h6
            rw [h5] at h6
            cases h6
        rw [ready_push hok hs hlt] at hi
        have h1 := wpOp_push hok hlt (h.2 i hi)
        refine wpOp_mono (fun a' w' h' => ?_) h1
        rw [set_push (by omega)]
        exact wpAny_push hok fuel _ a' w' (by simpa using hs) h'

/-- A region that draws its order: the last operation is walked behind all others. -/
theorem region_tail {id : Nat} {l l1 : List Oper} {o : Oper} {a : Act} {w : World} {S : World → Prop} (hl : l.dropLast = l1) (hlo : l.getLast? = some o) (hm : P.follows .mixedOrders = true) (hok : tailOk .any l1.toArray o = true) (hS : S w.drew)
    (h : S w.drew → wpAnyH P .any l1.toArray (tailQ P l.toArray l1.length Q) S l1.length (Array.replicate l1.length false) a w.drew) : (Code.region id l.toArray true).wp P Q a w := by
  have hll : l = l1 ++ [o] := by
    rw [← hl]
    obtain ⟨l0, h0⟩ := List.getLast?_eq_some_iff.1 hlo
    rw [h0]
    simp
  have hops : l.toArray = l1.toArray.push o := by rw [hll]; simp
  have h1 := wpAny_of_held _ _ _ _ (h hS)
  rw [hops] at h1 ⊢
  have h2 := wpAny_push (Q := Q) hok l1.length (Array.replicate l1.length false) a w.drew (by simp) (by simpa using h1)
  refine wp_region_any hm ?_
  have e1 : (l1.toArray.push o).size = l1.length + 1 := by simp
  have e2 : Array.replicate (l1.length + 1) false = (Array.replicate l1.length false).push false := by rw [Array.replicate_succ]
  rw [e1, e2]
  exact h2
/-- The last operation itself. -/
theorem tailQ_op {ops : Array Oper} {n : Nat} {a : Act} {w : World} {o : Oper} (ho : ops[n]? = some o) (hg : o.guard = none) (h : ∀ K : Act → World → Prop, (∀ a w, Q .normal a w → K a w) → Oper.wp P o a w K Q) : tailQ P ops n Q .normal a w := by
  show wpOp P ops Q n (Q .normal) a w
  unfold wpOp
  rw [ho]
  dsimp only
  rw [if_pos (by simp [Region.wanted, hg])]
  exact .inl (h _ (fun _ _ h => h))
end
end Go.Proofs.Ytkgkiencikmhfaa.B
