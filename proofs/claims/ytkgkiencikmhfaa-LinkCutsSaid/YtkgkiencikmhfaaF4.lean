/- What this text holds: contracts of slices.Clone of bytes and of numbers. -/
import Derived.Test.YtkgkiencikmhfaaF3
import Derived.Lib.SliceRun
set_option linter.unusedVariables false
set_option linter.unusedSimpArgs false
namespace Go.Proofs.Ytkgkiencikmhfaa.B
open Go.RowKit

theorem clone_calls (A : Option Addr) (c : Nat) (l : List Int) (w : World) (hr : (ints .u8).C w A l) (hc : l.length ≤ c) (hl : l.length ≤ 140737488355328) :
    Calls Try.prog 42 #[.slice A l.length c] w fun e w' => ∃ v, e = .returned v ∧ (ints .u8).Own 5 w' w.heap.size (fun _ => False) v l ∧ Below w.heap.size w w' := by
  have q37 : ∀ (w : World) (a : Option Addr) (n c n' c' : Nat), (binOp .eql 37 (.slice a n c) (.slice none n' c')).run Try.prog w = .ok (.bool a.isNone) w := fun w a n c n' c' => Lib.run_eql_slice_nil w _ _ a n c n' c' Try.underlying37
  rcases A with _ | ad
  · have h0 : l = [] := by
      rcases Nat.eq_zero_or_pos l.length with h0 | h0
      · exact List.eq_nil_of_length_eq_zero h0
      · obtain ⟨ad, h, _⟩ := hr.2 h0
        cases h
    subst h0
    go_enter Try.func42, Try.ntmps42
    go_wp2
    go_ret
    exact ⟨_, rfl, Kd.Own.nil, Below.refl _ _⟩
  · have HR := Hd.mk hr
    clear hr
    have HO : Hd ((ints .u8).Own 5 (w.alloc (.cells #[] 5)) w.heap.size (fun _ => False) (.slice (some ⟨w.heap.size, 0, none⟩) 0 0) []) := ⟨Kd.Own.lit (xs := []) (inner := []) w 5 (Nat.le_refl _) (by simp [maxLen]) (by simp) (fun i x hi => by simp at hi)⟩
    have HY : Hd (Fp (fun W => (ints .u8).C W (some ad) l) (w.alloc (.cells #[] 5)) (fun k => k < w.heap.size)) := ⟨(HR.out.fp.old (Below.alloc (Below.refl _ _) (Nat.le_refl _) _)).mono (fun k hk => hk.2)⟩
    go_enter Try.func42, Try.ntmps42
    go_wp2_with (at_builtin; (refine Kd.Own.appendRow (w0 := w) rfl (.tmp 5) (.tmp 6) 37 (.int .u8 0) 1 rfl Try.underlying37 info5 rfl (by decide) rfl rfl HO.out HY.out rfl ?h1 ?h2 ?h3 ?h4 ?_); (case h1 => intro k hk _; exact Kd.ne_new hk); (case h2 => go_grown); (case h3 => simp); (case h4 => simp; omega); intro v1 w1 hown hb hg hat; have HO1 := Hd.mk hown; have HB1 := Hd.mk hb; clear hown hb hg hat)
    go_ret
    exact ⟨v1, rfl, ints_own HO1.out, HB1.out⟩
theorem cloneI_calls (A : Option Addr) (c : Nat) (l : List Int) (w : World) (hr : (ints .i64).C w A l) (hc : l.length ≤ c) (hl : l.length ≤ 1048576) :
    Calls Try.prog 38 #[.slice A l.length c] w fun e w' => ∃ v, e = .returned v ∧ (ints .i64).Own 3 w' w.heap.size (fun _ => False) v l ∧ Below w.heap.size w w' := by
  have q40 : ∀ (w : World) (a : Option Addr) (n c n' c' : Nat), (binOp .eql 40 (.slice a n c) (.slice none n' c')).run Try.prog w = .ok (.bool a.isNone) w := fun w a n c n' c' => Lib.run_eql_slice_nil w _ _ a n c n' c' Try.underlying40
  rcases A with _ | ad
  · have h0 : l = [] := by
      rcases Nat.eq_zero_or_pos l.length with h0 | h0
      · exact List.eq_nil_of_length_eq_zero h0
      · obtain ⟨ad, h, _⟩ := hr.2 h0
        cases h
    subst h0
    go_enter Try.func38, Try.ntmps38
    go_wp2
    go_ret
    exact ⟨_, rfl, Kd.Own.nil, Below.refl _ _⟩
  · have HR := Hd.mk hr
    clear hr
    have HO : Hd ((ints .i64).Own 3 (w.alloc (.cells #[] 3)) w.heap.size (fun _ => False) (.slice (some ⟨w.heap.size, 0, none⟩) 0 0) []) := ⟨Kd.Own.lit (xs := []) (inner := []) w 3 (Nat.le_refl _) (by simp [maxLen]) (by simp) (fun i x hi => by simp at hi)⟩
    have HY : Hd (Fp (fun W => (ints .i64).C W (some ad) l) (w.alloc (.cells #[] 3)) (fun k => k < w.heap.size)) := ⟨(HR.out.fp.old (Below.alloc (Below.refl _ _) (Nat.le_refl _) _)).mono (fun k hk => hk.2)⟩
    go_enter Try.func38, Try.ntmps38
    go_wp2_with (at_builtin; (refine Kd.Own.appendRow (w0 := w) rfl (.tmp 5) (.tmp 6) 40 (.int .i64 0) 8 rfl Try.underlying40 info3 rfl (by decide) rfl rfl HO.out HY.out rfl ?h1 ?h2 ?h3 ?h4 ?_); (case h1 => intro k hk _; exact Kd.ne_new hk); (case h2 => go_grown); (case h3 => simp); (case h4 => simp; omega); intro v1 w1 hown hb hg hat; have HO1 := Hd.mk hown; have HB1 := Hd.mk hb; clear hown hb hg hat)
    go_ret
    exact ⟨v1, rfl, ints_own HO1.out, HB1.out⟩
end Go.Proofs.Ytkgkiencikmhfaa.B
