/- What this text holds: how whole numbers, flights and links lie in memory. -/
import Derived.Test.YtkgkiencikmhfaaBase
import Derived.Test.YtkgkiencikmhfaaProg
set_option linter.unusedVariables false
set_option linter.unusedSimpArgs false
namespace Go.Proofs.Ytkgkiencikmhfaa.B
open Go.RowKit

/-- Whole numbers. -/
def ints (k : IntKind) : Kd Int where
  sz := 1
  pos := by decide
  K := fun _ x cs => cs = [.int k x]
  len := by intro w x cs h; rw [h]; rfl
  one := by intro w x cs h u hu; rw [h] at hu; rw [List.mem_singleton.1 hu]; rfl
  mv := fun h _ => h

theorem ints_at {k : IntKind} {w : World} {ad : Addr} {i : Nat} {x : Int} (h : (ints k).At w ad i x) : w.cell? (ad.add i) = some (.int k x) := by
  obtain ⟨cs, hk, hc⟩ := h
  have hk' : cs = [.int k x] := hk
  subst hk'
  have := hc 0 _ rfl
  simpa [ints] using this

theorem ints_get {k : IntKind} {w : World} {A : Option Addr} {xs : List Int} (h : (ints k).C w A xs) (i : Nat) (hi : i < xs.length) : ∃ ad, A = some ad ∧ w.cell? (ad.add i) = some (.int k (nth 0 xs i)) := by
  obtain ⟨ad, ha, hx⟩ := h.get 0 i hi
  exact ⟨ad, ha, ints_at hx⟩

/-- Whole numbers lead nowhere. -/
theorem ints_own {k : IntKind} {e base : Nat} {W : World} {ok : Nat → Prop} {v : Value} {xs : List Int} (h : (ints k).Own e W base ok v xs) : (ints k).Own e W base (fun _ => False) v xs := by
  obtain ⟨inner, ho, hx⟩ := h
  exact ⟨inner, ho, fun i x hi W' _ => (hx i x hi).now⟩

structure Fl where
  t : Int
  n : Int
  body : List Int
  deriving DecidableEq
def fl0 : Fl := ⟨0, 0, []⟩
@[simp] theorem fl0_t : fl0.t = 0 := rfl
@[simp] theorem fl0_n : fl0.n = 0 := rfl

/-- Flights. -/
def fls : Kd Fl where
  sz := 3
  pos := by decide
  K := fun w x cs => ∃ A c, cs = [.int .i64 x.t, .int .i64 x.n, .slice A x.body.length c] ∧ x.body.length ≤ c ∧ (ints .u8).C w A x.body
  len := by rintro w x cs ⟨A, c, rfl, _⟩; rfl
  one := by
    rintro w x cs ⟨A, c, rfl, _⟩ u hu
    simp only [List.mem_cons, List.not_mem_nil, or_false] at hu
    rcases hu with rfl | rfl | rfl <;> rfl
  mv := by
    rintro w w1 x cs ⟨A, c, rfl, hl, hC⟩ hm
    exact ⟨A, c, rfl, hl, hC.mv hm⟩

theorem fls_at {w : World} {ad : Addr} {i : Nat} {x : Fl} (h : fls.At w ad i x) : ∃ A c, w.cell? (ad.add (i * 3)) = some (.int .i64 x.t) ∧
    w.cell? ⟨(ad.add (i * 3)).block, (ad.add (i * 3)).off + 1, none⟩ = some (.int .i64 x.n) ∧ w.cell? ⟨(ad.add (i * 3)).block, (ad.add (i * 3)).off + 2, none⟩ = some (.slice A x.body.length c) ∧
    x.body.length ≤ c ∧ (ints .u8).C w A x.body := by
  obtain ⟨cs, ⟨A, c, rfl, hl, hC⟩, hc0⟩ := h
  have hc : ∀ j u, [Value.int .i64 x.t, .int .i64 x.n, .slice A x.body.length c][j]? = some u → w.cell? (ad.add (i * 3 + j)) = some u := hc0
  exact ⟨A, c, hc 0 _ rfl, by rw [← Kd.add_fld _ _ 1 (by omega)]; exact hc 1 _ rfl, by rw [← Kd.add_fld _ _ 2 (by omega)]; exact hc 2 _ rfl, hl, hC⟩

theorem fls_get {w : World} {A : Option Addr} {xs : List Fl} (h : fls.C w A xs) (i : Nat) (hi : i < xs.length) : ∃ ad A4 c4, A = some ad ∧ w.cell? (ad.add (i * 3)) = some (.int .i64 (nth fl0 xs i).t) ∧
    w.cell? ⟨(ad.add (i * 3)).block, (ad.add (i * 3)).off + 1, none⟩ = some (.int .i64 (nth fl0 xs i).n) ∧ w.cell? ⟨(ad.add (i * 3)).block, (ad.add (i * 3)).off + 2, none⟩ = some (.slice A4 (nth fl0 xs i).body.length c4) ∧
    (nth fl0 xs i).body.length ≤ c4 ∧ (ints .u8).C w A4 (nth fl0 xs i).body := by
  obtain ⟨ad, ha, hx⟩ := h.get fl0 i hi
  obtain ⟨A4, c4, hr⟩ := fls_at hx
  exact ⟨ad, A4, c4, ha, hr⟩

theorem fls_body {W : World} {ok : Nat → Prop} {x : Fl} {c0 c1 : Value} {A : Option Addr} {c : Nat} (h : Fp (fun W => fls.K W x [c0, c1, .slice A x.body.length c]) W ok) : (ints .u8).V W ok (.slice A x.body.length c) x.body := by
  obtain ⟨A', c', he, hl, _⟩ := h.now
  have he' : (Value.slice A x.body.length c) = .slice A' x.body.length c' := by
    have := congrArg (fun l => l[2]?) he
    simpa using this
  injection he' with ha _ hc
  subst ha; subst hc
  refine ⟨A, c, rfl, hl, fun W' hW => ?_⟩
  obtain ⟨A2, c2, he2, _, hC⟩ := h W' hW
  have he3 : (Value.slice A x.body.length c) = .slice A2 x.body.length c2 := by
    have := congrArg (fun l => l[2]?) he2
    simpa using this
  injection he3 with ha _ _
  rw [ha]
  exact hC

theorem fls_elem {W : World} {ok : Nat → Prop} {l : List Fl} {A : Option Addr} {n c : Nat} (h : fls.V W ok (.slice A n c) l) (i : Nat) (hi : i < l.length) : ∃ ad A4 c4, A = some ad ∧ W.cell? (ad.add (i * 3)) = some (.int .i64 (nth fl0 l i).t) ∧
    W.cell? ⟨(ad.add (i * 3)).block, (ad.add (i * 3)).off + 1, none⟩ = some (.int .i64 (nth fl0 l i).n) ∧ W.cell? ⟨(ad.add (i * 3)).block, (ad.add (i * 3)).off + 2, none⟩ = some (.slice A4 (nth fl0 l i).body.length c4) ∧
    (ints .u8).V W ok (.slice A4 (nth fl0 l i).body.length c4) (nth fl0 l i).body := by
  obtain ⟨ad, ha, _⟩ := h.C.2 (by omega)
  subst ha
  obtain ⟨cs, hc0, hf⟩ := h.elem i _ (nth_get? fl0 l i hi)
  obtain ⟨A4, c4, rfl, hl, hC⟩ := hf.now
  have hc : ∀ j u, [Value.int .i64 (nth fl0 l i).t, .int .i64 (nth fl0 l i).n, .slice A4 (nth fl0 l i).body.length c4][j]? = some u → W.cell? (ad.add (i * 3 + j)) = some u := hc0
  exact ⟨ad, A4, c4, rfl, hc 0 _ rfl, by rw [← Kd.add_fld _ _ 1 (by omega)]; exact hc 1 _ rfl, by rw [← Kd.add_fld _ _ 2 (by omega)]; exact hc 2 _ rfl, fls_body hf⟩

/-- A link: all but where its flights lie. -/
structure Lk where
  mn : Int
  mx : Int
  rt : Int
  down : Bool
  idle : Int
  next : Int
  fl : List Fl
  deriving DecidableEq
def lk0 : Lk := ⟨0, 0, 0, false, 0, 0, []⟩
/-- A link's cells. -/
abbrev lkc (mn mx rt : Int) (down : Bool) (idle next : Int) (v : Value) : Array Value := #[.int .i64 mn, .int .i64 mx, .int .i64 rt, .bool down, .int .i64 idle, .int .i64 next, v]

theorem info5 : (Try.prog.info? 5).map (fun i => (i.zero, i.size, i.bytes)) = some (some (.int .u8 0), 1, 1) := by kernel_rfl
theorem info3 : (Try.prog.info? 3).map (fun i => (i.zero, i.size, i.bytes)) = some (some (.int .i64 0), 1, 8) := by kernel_rfl
theorem size69 : (Try.prog.info? 69).map (·.size) = some 3 := by kernel_rfl
theorem info69 : (Try.prog.info? 69).map (fun i => (i.zero, i.size, i.bytes)) = some (some (.agg #[(.int .i64 0), (.int .i64 0), (.slice none 0 0)]), 3, 40) := by kernel_rfl
end Go.Proofs.Ytkgkiencikmhfaa.B
