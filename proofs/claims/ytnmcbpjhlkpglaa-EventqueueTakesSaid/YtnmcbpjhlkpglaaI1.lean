/- What this text holds: the reference's SameEvent, SameEvents and Same answer true of equal events, lists and queues. -/
import Derived.Test.YtnmcbpjhlkpglaaG4
import Derived.Laws.BytesString
set_option linter.unusedVariables false
set_option linter.unusedSimpArgs false
namespace Go.Proofs.Ytnmcbpjhlkpglaa.B
open Go.RowKit

/-- The string of some bytes. -/
def strI (l : List Int) : ByteArray := l.foldl (fun r n => r.push (UInt8.ofNat n.toNat)) ByteArray.empty

theorem run_str {P : Program} (src dst e : TypeId) (hs : P.underlying src = some (.slice e)) (he : P.underlying e = some (.int .u8)) (hd : P.underlying dst = some .string) (w : World) (A : Option Addr) (c : Nat) (l : List Int) (h : (ints .u8).C w A l) :
    (convert src dst (.slice A l.length c)).run P w = .ok (.string (strI l)) w := by
  rw [run_convert_bytes_string w src dst e A l.length c hs he hd]
  rcases A with _ | ad
  · have h0 : l = [] := by
      rcases Nat.eq_zero_or_pos l.length with h0 | h0
      · exact List.eq_nil_of_length_eq_zero h0
      · obtain ⟨ad, h, _⟩ := h.2 h0
        cases h
    subst h0
    simp [Conv.bytesToString, strI]
  · have hl := run_loadCells_list (P := P) w ad (l.map (Value.int .u8)) (fun j v hj => by
      have hjl : j < l.length := by
        have := (List.getElem?_eq_some_iff.1 hj).1
        simpa using this
      obtain ⟨ad', ha, hc⟩ := ints_get h j hjl
      injection ha with ha
      subst ha
      rw [hc]
      simp [List.getElem?_eq_getElem hjl] at hj
      rw [← hj, nth_eq 0 l j hjl])
    simp only [List.length_map] at hl
    rw [run_bytesToString w ad l.length c l hl]
    rfl

theorem sameEvent_calls (x : Ev) (A A' : Option Addr) (c c' : Nat) (w : World) (h : (ints .u8).C w A x.body) (h' : (ints .u8).C w A' x.body) :
    Calls Try.prog 21 #[.agg #[.int .i64 x.t, .int .i64 x.n, .int .i64 x.kd, .int .i64 x.dst, .slice A x.body.length c], .agg #[.int .i64 x.t, .int .i64 x.n, .int .i64 x.kd, .int .i64 x.dst, .slice A' x.body.length c']] w
      fun e w' => e = .returned (.bool true) ∧ Below w.heap.size w w' := by
  have hu32 := Try.underlying32
  have hc1 := fun W (hb : Below w.heap.size w W) => run_str (P := Try.prog) 30 9 5 Try.underlying30 Try.underlying5 Try.underlying9 W A c x.body (h.below hb)
  have hc2 := fun W (hb : Below w.heap.size w W) => run_str (P := Try.prog) 30 9 5 Try.underlying30 Try.underlying5 Try.underlying9 W A' c' x.body (h'.below hb)
  have k1 := hc1 ((w.alloc (.cells #[.int .i64 x.t, .int .i64 x.n, .int .i64 x.kd, .int .i64 x.dst, .slice A x.body.length c] 32)).alloc (.cells #[.int .i64 x.t, .int .i64 x.n, .int .i64 x.kd, .int .i64 x.dst, .slice A' x.body.length c'] 32)) (by go_grown)
  have k2 := hc2 ((w.alloc (.cells #[.int .i64 x.t, .int .i64 x.n, .int .i64 x.kd, .int .i64 x.dst, .slice A x.body.length c] 32)).alloc (.cells #[.int .i64 x.t, .int .i64 x.n, .int .i64 x.kd, .int .i64 x.dst, .slice A' x.body.length c'] 32)) (by go_grown)
  clear hc1 hc2 h h'
  go_enter Try.func21, Try.ntmps21
  go_wp2
  go_ret
  exact ⟨by simp, by go_grown⟩
end Go.Proofs.Ytnmcbpjhlkpglaa.B
