/- What this text holds: contracts of link's New, of the reference's config, New, SameInts, SamePayloads. -/
import Derived.Test.YtkgkiencikmhfaaG2
import Derived.Laws.BytesString
set_option linter.unusedVariables false
set_option linter.unusedSimpArgs false
namespace Go.Proofs.Ytkgkiencikmhfaa.B
open Go.RowKit

/-- The string of some bytes. -/
def strI (l : List Int) : ByteArray := l.foldl (fun r n => r.push (UInt8.ofNat n.toNat)) ByteArray.empty

theorem run_str {P : Program} (src dst e : TypeId) (hs : P.underlying src = some (.slice e)) (he : P.underlying e = some (.int .u8)) (hd : P.underlying dst = some .string) (w : World) (A : Option Addr) (c : Nat) (l : List Int) (h : (ints .u8).C w A l) :
    (convert src dst (.slice A l.length c)).run P w = .ok (.string (strI l)) w := by
  rw [run_convert_bytes_string w src dst e A l.length c hs he hd]
  rcases A with _ | ad
  · have h0 : l = [] := by
      rcases Nat.eq_zero_or_pos l.length with h0 | h0
      · exact List.eq_nil_of_length_eq_zero h0
      · obtain ⟨ad, h, _⟩ := h.2 h0
        cases h
    subst h0
    simp [Conv.bytesToString, strI]
  · have hl := run_loadCells_list (P := P) w ad (l.map (Value.int .u8)) (fun j v hj => by
      have hjl : j < l.length := by
        have := (List.getElem?_eq_some_iff.1 hj).1
        simpa using this
      obtain ⟨ad', ha, hc⟩ := ints_get h j hjl
      injection ha with ha
      subst ha
      rw [hc]
      simp [List.getElem?_eq_getElem hjl] at hj
      rw [← hj, nth_eq 0 l j hjl])
    simp only [List.length_map] at hl
    rw [run_bytesToString w ad l.length c l hl]
    rfl


theorem refConfig_calls (mn mx rt : Int) (w : World) : Calls Try.prog 34 #[.agg #[.int .i64 mn, .int .i64 mx, .int .i64 rt]] w fun e w' => e = .returned (.int .i64 (cfgF mn mx rt)) ∧ Below w.heap.size w w' := by
  have hu23 := Try.underlying23
  obtain ⟨r, hr⟩ : ∃ r, r = cfgF mn mx rt := ⟨_, rfl⟩
  rw [← hr]
  have Hr := Hd.mk hr
  clear hr
  go_enter Try.func34, Try.ntmps34
  go_wp2
  all_goals go_ret
  all_goals refine ⟨?_, by go_grown⟩
  all_goals rw [Hr.out]
  all_goals refine congrArg Ending.returned (congrArg (Value.int IntKind.i64) ?_)
  all_goals simp only [cfgF]
  all_goals split <;> omega

def newF (mn mx rt : Int) : Lk × Int := if cfgF mn mx rt = 0 then (⟨mn, mx, rt, false, 0, 0, []⟩, 0) else (lk0, cfgF mn mx rt)
/-- What New leaves: a link without flights, an error. -/
def NewPost (w : World) (mn mx rt : Int) (e : Ending) (w' : World) : Prop :=
  e = .returned (.tuple #[.agg #[.int .i64 (newF mn mx rt).1.mn, .int .i64 (newF mn mx rt).1.mx, .int .i64 (newF mn mx rt).1.rt, .bool (newF mn mx rt).1.down, .int .i64 (newF mn mx rt).1.idle, .int .i64 (newF mn mx rt).1.next, .slice none 0 0], .int .i64 (newF mn mx rt).2]) ∧ Below w.heap.size w w'

theorem new_calls (mn mx rt : Int) (w : World) : Calls Try.prog 13 #[.agg #[.int .i64 mn, .int .i64 mx, .int .i64 rt]] w (NewPost w mn mx rt) := by
  have hu23 := Try.underlying23
  have hu26 := Try.underlying26
  obtain ⟨r, hr⟩ : ∃ r, r = cfgF mn mx rt := ⟨_, rfl⟩
  have HR := Hd.mk hr
  clear hr
  go_enter Try.func13, Try.ntmps13
  go_wp2_with fail
  refine (config_calls mn mx rt _).mono ?_
  rw [← HR.out]
  rintro e w1 ⟨rfl, hb⟩
  have HB : Hd (Below w.heap.size w w1) := ⟨Below.trans (by go_grown) (hb.mono (by simp; omega))⟩
  have b1 := ((Blk.new w 23 #[.int .i64 mn, .int .i64 mx, .int .i64 rt]).alloc (.cells #[.int .i64 0, .int .i64 0, .int .i64 0, .bool false, .int .i64 0, .int .i64 0, .slice none 0 0] 26)).below hb
  have b2 := (Blk.new (w.alloc (.cells #[.int .i64 mn, .int .i64 mx, .int .i64 rt] 23)) 26 #[.int .i64 0, .int .i64 0, .int .i64 0, .bool false, .int .i64 0, .int .i64 0, .slice none 0 0]).below hb
  rw [World.size_alloc] at b2
  obtain ⟨p0, p1, p2, p3, p4, p5⟩ := b1.f3
  obtain ⟨q0, q1, q2, q3, q4, q5, q6, q7, q8, q9, q10, q11, q12, q13⟩ := b2.f7
  clear hb b1 b2
  by_cases h : r = 0
  · have h1 : (r != 0) = false := by simp [h]
    have HE : Hd (newF mn mx rt = (⟨mn, mx, rt, false, 0, 0, []⟩, 0)) := ⟨by rw [newF, if_pos (by rw [← HR.out]; exact h)]⟩
    clear h
    go_wp2
    refine bodyPost_ret (v := .tuple #[.agg #[.int .i64 mn, .int .i64 mx, .int .i64 rt, .bool false, .int .i64 0, .int .i64 0, .slice none 0 0], .int .i64 0]) (by simp [results, Try.results13, go_sem, q0, q1, q2, q3, q4, q5, q6]) rfl ?_
    unfold NewPost
    rw [HE.out]
    refine ⟨rfl, ?_⟩
    have h2 := HB.out
    repeat (first | (with_reducible exact h2) | (with_reducible refine Below.setCell ?_ (by dsimp only; omega) _))
  · have h1 : (r != 0) = true := by simp [h]
    have HE : Hd (newF mn mx rt = (lk0, r)) := ⟨by rw [newF, if_neg (by rw [← HR.out]; exact h), HR.out]⟩
    clear h
    go_wp2
    refine bodyPost_ret (v := .tuple #[.agg #[.int .i64 0, .int .i64 0, .int .i64 0, .bool false, .int .i64 0, .int .i64 0, .slice none 0 0], .int .i64 r]) (by simp [results, Try.results13, go_sem, q0, q1, q2, q3, q4, q5, q6]) rfl ?_
    unfold NewPost
    rw [HE.out]
    refine ⟨rfl, ?_⟩
    have h2 := HB.out
    repeat (first | (with_reducible exact h2) | (with_reducible refine Below.setCell ?_ (by dsimp only; omega) _))


theorem refNew_calls (mn mx rt : Int) (w : World) : Calls Try.prog 14 #[.agg #[.int .i64 mn, .int .i64 mx, .int .i64 rt]] w (NewPost w mn mx rt) := by
  have hu23 := Try.underlying23
  have hu26 := Try.underlying26
  obtain ⟨r, hr⟩ : ∃ r, r = cfgF mn mx rt := ⟨_, rfl⟩
  have HR := Hd.mk hr
  clear hr
  go_enter Try.func14, Try.ntmps14
  go_wp2_with fail
  refine (refConfig_calls mn mx rt _).mono ?_
  rw [← HR.out]
  rintro e w1 ⟨rfl, hb⟩
  have HB : Hd (Below w.heap.size w w1) := ⟨Below.trans (by go_grown) (hb.mono (by simp; omega))⟩
  have b1 := ((Blk.new w 23 #[.int .i64 mn, .int .i64 mx, .int .i64 rt]).alloc (.cells #[.int .i64 0, .int .i64 0, .int .i64 0, .bool false, .int .i64 0, .int .i64 0, .slice none 0 0] 26)).below hb
  have b2 := (Blk.new (w.alloc (.cells #[.int .i64 mn, .int .i64 mx, .int .i64 rt] 23)) 26 #[.int .i64 0, .int .i64 0, .int .i64 0, .bool false, .int .i64 0, .int .i64 0, .slice none 0 0]).below hb
  rw [World.size_alloc] at b2
  obtain ⟨p0, p1, p2, p3, p4, p5⟩ := b1.f3
  obtain ⟨q0, q1, q2, q3, q4, q5, q6, q7, q8, q9, q10, q11, q12, q13⟩ := b2.f7
  clear hb b1 b2
  by_cases h : r = 0
  · have h1 : (r != 0) = false := by simp [h]
    have HE : Hd (newF mn mx rt = (⟨mn, mx, rt, false, 0, 0, []⟩, 0)) := ⟨by rw [newF, if_pos (by rw [← HR.out]; exact h)]⟩
    clear h
    go_wp2
    refine bodyPost_ret (v := .tuple #[.agg #[.int .i64 mn, .int .i64 mx, .int .i64 rt, .bool false, .int .i64 0, .int .i64 0, .slice none 0 0], .int .i64 0]) (by simp [results, Try.results14, go_sem, q0, q1, q2, q3, q4, q5, q6]) rfl ?_
    unfold NewPost
    rw [HE.out]
    refine ⟨rfl, ?_⟩
    have h2 := HB.out
    repeat (first | (with_reducible exact h2) | (with_reducible refine Below.setCell ?_ (by dsimp only; omega) _))
  · have h1 : (r != 0) = true := by simp [h]
    have HE : Hd (newF mn mx rt = (lk0, r)) := ⟨by rw [newF, if_neg (by rw [← HR.out]; exact h), HR.out]⟩
    clear h
    go_wp2
    refine bodyPost_ret (v := .tuple #[.agg #[.int .i64 0, .int .i64 0, .int .i64 0, .bool false, .int .i64 0, .int .i64 0, .slice none 0 0], .int .i64 r]) (by simp [results, Try.results14, go_sem, q0, q1, q2, q3, q4, q5, q6]) rfl ?_
    unfold NewPost
    rw [HE.out]
    refine ⟨rfl, ?_⟩
    have h2 := HB.out
    repeat (first | (with_reducible exact h2) | (with_reducible refine Below.setCell ?_ (by dsimp only; omega) _))

theorem sameInts_calls (l : List Int) (A A' : Option Addr) (c c' : Nat) (w : World) (h : (ints .i64).C w A l) (h' : (ints .i64).C w A' l) :
    Calls Try.prog 20 #[.slice A l.length c, .slice A' l.length c'] w fun e w' => e = .returned (.bool true) ∧ Below w.heap.size w w' := by
  have HR := Hd.mk h
  have HR' := Hd.mk h'
  have hm := h.1
  clear h h'
  go_enter Try.func20, Try.ntmps20
  go_wp2
  go_loopw [5] (fun i wr => ∃ k : Nat, k ≤ l.length ∧ i = .int .i64 k ∧ Hd (Below w.heap.size w wr)) (fun i _ => l.length - (intOf i).toNat)
  case atStart => exact ⟨0, Nat.zero_le _, rfl, ⟨Below.refl _ _⟩⟩
  case round =>
    obtain ⟨k, hk, rfl, HB⟩ := hrel
    by_cases hlt : k < l.length
    · obtain ⟨ad, ea, x0⟩ := ints_get (HR.out.below HB.out) k hlt
      cases ea
      obtain ⟨ad', ea, y0⟩ := ints_get (HR'.out.below HB.out) k hlt
      cases ea
      have hkl : (k : Int) < l.length := by omega
      go_wp2
      go_quiet (fail)
      go_wp2
      go_roundw
      case rel => exact ⟨k + 1, by omega, by go_num, ⟨pw_below_drewN HB.out _⟩⟩
      case measure => simp [intOf]; omega
    · go_wp2
      go_ret
      exact ⟨rfl, HB.out⟩

set_option maxHeartbeats 1000000 in
theorem samePayloads_calls (l : List (List Int)) (A A' : Option Addr) (c c' : Nat) (w : World) (h : bss.C w A l) (h' : bss.C w A' l) :
    Calls Try.prog 27 #[.slice A l.length c, .slice A' l.length c'] w fun e w' => e = .returned (.bool true) ∧ Below w.heap.size w w' := by
  have HR := Hd.mk h
  have HR' := Hd.mk h'
  have hm := h.1
  clear h h'
  go_enter Try.func27, Try.ntmps27
  go_wp2
  go_loopw [5] (fun i wr => ∃ k : Nat, k ≤ l.length ∧ i = .int .i64 k ∧ Hd (Below w.heap.size w wr)) (fun i _ => l.length - (intOf i).toNat)
  case atStart => exact ⟨0, Nat.zero_le _, rfl, ⟨Below.refl _ _⟩⟩
  case round =>
    obtain ⟨k, hk, rfl, HB⟩ := hrel
    by_cases hlt : k < l.length
    · obtain ⟨ad, A4, c4, ea, x0, hx1, hx2⟩ := bss_get (HR.out.below HB.out) k hlt
      cases ea
      obtain ⟨ad', A5, c5, ea, y0, hy1, hy2⟩ := bss_get (HR'.out.below HB.out) k hlt
      cases ea
      obtain ⟨x, hx⟩ : ∃ x, x = nth [] l k := ⟨_, rfl⟩
      rw [← hx] at x0 y0 hx1 hy1 hx2 hy2
      clear hx
      have hkl : (k : Int) < l.length := by omega
      have k1 : ∀ m : Nat, (convert 37 9 (.slice A4 x.length c4)).run Try.prog (World.drewN wr m) = .ok (.string (strI x)) (World.drewN wr m) := fun m => run_str 37 9 5 Try.underlying37 Try.underlying5 Try.underlying9 _ A4 c4 x (hx2.below (pw_below_drewN (Below.refl _ _) m))
      have k2 : ∀ m : Nat, (convert 37 9 (.slice A5 x.length c5)).run Try.prog (World.drewN wr m) = .ok (.string (strI x)) (World.drewN wr m) := fun m => run_str 37 9 5 Try.underlying37 Try.underlying5 Try.underlying9 _ A5 c5 x (hy2.below (pw_below_drewN (Below.refl _ _) m))
      have k3 := k1 0; have k4 := k2 0
      clear hx1 hy1 hx2 hy2
      go_wp2
      go_quiet (fail)
      go_wp2
      go_roundw
      case rel => exact ⟨k + 1, by omega, by go_num, ⟨pw_below_drewN HB.out _⟩⟩
      case measure => simp [intOf]; omega
    · go_wp2
      go_ret
      exact ⟨rfl, HB.out⟩
end Go.Proofs.Ytkgkiencikmhfaa.B
