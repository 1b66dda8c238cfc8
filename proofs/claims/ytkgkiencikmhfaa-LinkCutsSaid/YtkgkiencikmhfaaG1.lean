/- What this text holds: rows of byte slices; the contract of link.Deliver. -/
import Derived.Test.YtkgkiencikmhfaaF8
set_option linter.unusedVariables false
set_option linter.unusedSimpArgs false
namespace Go.Proofs.Ytkgkiencikmhfaa.B
open Go.RowKit

/-- Byte slices. -/
def bss : Kd (List Int) where
  sz := 1
  pos := by decide
  K := fun w x cs => ∃ A c, cs = [.slice A x.length c] ∧ x.length ≤ c ∧ (ints .u8).C w A x
  len := by rintro w x cs ⟨A, c, rfl, _⟩; rfl
  one := by
    rintro w x cs ⟨A, c, rfl, _⟩ u hu
    rw [List.mem_singleton.1 hu]
    rfl
  mv := by
    rintro w w1 x cs ⟨A, c, rfl, hl, hC⟩ hm
    exact ⟨A, c, rfl, hl, hC.mv hm⟩

theorem bss_get {w : World} {A : Option Addr} {xs : List (List Int)} (h : bss.C w A xs) (i : Nat) (hi : i < xs.length) : ∃ ad A4 c4, A = some ad ∧ w.cell? (ad.add i) = some (.slice A4 (nth [] xs i).length c4) ∧
    (nth [] xs i).length ≤ c4 ∧ (ints .u8).C w A4 (nth [] xs i) := by
  obtain ⟨ad, ha, hx⟩ := h.get [] i hi
  obtain ⟨cs, ⟨A4, c4, rfl, hl, hC⟩, hc⟩ := hx
  refine ⟨ad, A4, c4, ha, ?_, hl, hC⟩
  have := hc 0 _ rfl
  simpa [bss] using this

theorem info37 : (Try.prog.info? 37).map (fun i => (i.zero, i.size, i.bytes)) = some (some (.slice none 0 0), 1, 24) := by kernel_rfl

/-- How many flights, from the first on, have come in time. -/
def dueN (l : List Fl) (now : Int) : Nat := match l.findIdx? (fun x => decide (now < x.t)) with | some i => i | none => l.length
def deliverF (mn mx rt : Int) (dn : Bool) (idle next : Int) (l : List Fl) (now : Int) : Lk × List (List Int) :=
  if chkL mn mx rt dn idle next l ≠ 0 then (⟨mn, mx, rt, dn, idle, next, l⟩, []) else (⟨mn, mx, rt, dn, idle, next, l.drop (placeL l now)⟩, (l.take (placeL l now)).map (·.body))
/-- What Deliver leaves: a link, payloads. -/
def DeliverPost (w : World) (r : Lk × List (List Int)) (e : Ending) (w' : World) : Prop :=
  ∃ v u, e = .returned (.tuple #[.agg #[.int .i64 r.1.mn, .int .i64 r.1.mx, .int .i64 r.1.rt, .bool r.1.down, .int .i64 r.1.idle, .int .i64 r.1.next, v], u]) ∧ fls.V w' (fun k => w.heap.size ≤ k) v r.1.fl ∧ bss.V w' (fun k => w.heap.size ≤ k) u r.2 ∧ Below w.heap.size w w'
end Go.Proofs.Ytkgkiencikmhfaa.B
