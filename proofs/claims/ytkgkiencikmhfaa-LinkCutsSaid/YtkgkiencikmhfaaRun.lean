/- What this text holds: a run of a link, as plain Lean; how a run's steps lie in memory. -/
import Derived.Test.YtkgkiencikmhfaaH5
import Derived.Test.YtkgkiencikmhfaaS1
set_option linter.unusedVariables false
set_option linter.unusedSimpArgs false
namespace Go.Proofs.Ytkgkiencikmhfaa.B
open Go.RowKit

/-- Steps: a size and a wait. -/
def sts : Kd (Int × Int) where
  sz := 2
  pos := by decide
  K := fun _ x cs => cs = [.int .u8 x.1, .int .u8 x.2]
  len := by intro w x cs h; rw [h]; rfl
  one := by
    intro w x cs h u hu
    rw [h] at hu
    simp only [List.mem_cons, List.not_mem_nil, or_false] at hu
    rcases hu with rfl | rfl <;> rfl
  mv := fun h _ => h
def st0 : Int × Int := (0, 0)
theorem sts_get {w : World} {A : Option Addr} {xs : List (Int × Int)} (h : sts.C w A xs) (i : Nat) (hi : i < xs.length) : ∃ ad, A = some ad ∧ w.cell? (ad.add (i * 2)) = some (.int .u8 (nth st0 xs i).1) ∧
    w.cell? ⟨(ad.add (i * 2)).block, (ad.add (i * 2)).off + 1, none⟩ = some (.int .u8 (nth st0 xs i).2) := by
  obtain ⟨ad, ha, hx⟩ := h.get st0 i hi
  obtain ⟨cs, hk, hc0⟩ := hx
  have hk' : cs = [.int .u8 (nth st0 xs i).1, .int .u8 (nth st0 xs i).2] := hk
  subst hk'
  have hc : ∀ j u, [Value.int .u8 (nth st0 xs i).1, .int .u8 (nth st0 xs i).2][j]? = some u → w.cell? (ad.add (i * 2 + j)) = some u := hc0
  exact ⟨ad, ha, hc 0 _ rfl, by rw [← Kd.add_fld _ _ 1 (by omega)]; exact hc 1 _ rfl⟩
theorem size58 : (Try.prog.info? 58).map (·.size) = some 2 := by kernel_rfl

/-- A run's state: the link, the times, the ends, the copies, the time, the choices that are left. -/
structure RS where
  l : Lk
  ts : List Int
  is : List Int
  cs : List Int
  now : Int
  rest : List Int
def rs0 (mn mx rt : Int) (ch : List Int) : RS := ⟨⟨mn, mx, rt, false, 0, 0, []⟩, [], [], [], 0, ch⟩
/-- What is sent next. -/
def rsSend (s : RS) (i : Nat) (x : Int × Int) : Lk × List Int × Int :=
  sendF s.l.mn s.l.mx s.l.rt s.l.down s.l.idle s.l.next s.l.fl (s.now + x.2 % 20) (payF x.1 i) s.rest
def rsStep (s : RS) (i : Nat) (x : Int × Int) : RS :=
  ⟨(rsSend s i x).1, s.ts ++ [s.now + x.2 % 20], s.is ++ [(rsSend s i x).1.idle], s.cs ++ [(arrN (decI s.rest 3) : Int)], s.now + x.2 % 20, (rsSend s i x).2.1⟩
def rsTo (mn mx rt : Int) (ch : List Int) (sl : List (Int × Int)) : Nat → RS
  | 0 => rs0 mn mx rt ch
  | k + 1 => rsStep (rsTo mn mx rt ch sl k) k (nth st0 sl k)
/-- Flights in order. -/
structure LOk (l : List Fl) (next : Int) : Prop where
  el : ∀ x ∈ l, 0 ≤ x.t ∧ x.t ≤ 1073741824 ∧ 0 ≤ x.n ∧ x.n < next ∧ x.body.length ≤ 65536
  srt : l.Pairwise (fun a b => a.t < b.t ∨ (a.t = b.t ∧ a.n < b.n))
  nd : l.Pairwise (fun a b => a.n ≠ b.n)
/-- A run's bounds. -/
structure RB (mn mx rt : Int) (ch : List Int) (k : Nat) (s : RS) : Prop where
  cfg : s.l.mn = mn ∧ s.l.mx = mx ∧ s.l.rt = rt ∧ s.l.down = false
  now : 0 ≤ s.now ∧ s.now ≤ 19 * k
  idle : 0 ≤ s.l.idle ∧ s.l.idle ≤ 28 * k
  next : 0 ≤ s.l.next ∧ s.l.next ≤ 2 * k
  len : s.l.fl.length ≤ 2 * k
  body : ∀ x ∈ s.l.fl, x.body.length ≤ 9
  ok : LOk s.l.fl s.l.next
  rest : s.rest.length ≤ ch.length
  lens : s.ts.length = k ∧ s.is.length = k ∧ s.cs.length = k
end Go.Proofs.Ytkgkiencikmhfaa.B
