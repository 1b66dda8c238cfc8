/- What this text holds: how whole numbers and events lie in memory. -/
import Derived.Test.YtnmcbpjhlkpglaaBase
import Derived.Test.YtnmcbpjhlkpglaaProg
set_option linter.unusedVariables false
set_option linter.unusedSimpArgs false
namespace Go.Proofs.Ytnmcbpjhlkpglaa.B
open Go.RowKit

/-- Whole numbers. -/
def ints (k : IntKind) : Kd Int where
  sz := 1
  pos := by decide
  K := fun _ x cs => cs = [.int k x]
  len := by intro w x cs h; rw [h]; rfl
  one := by intro w x cs h u hu; rw [h] at hu; rw [List.mem_singleton.1 hu]; rfl
  mv := fun h _ => h

theorem ints_at {k : IntKind} {w : World} {ad : Addr} {i : Nat} {x : Int} (h : (ints k).At w ad i x) : w.cell? (ad.add i) = some (.int k x) := by
  obtain ⟨cs, hk, hc⟩ := h
  have hk' : cs = [.int k x] := hk
  subst hk'
  have := hc 0 _ rfl
  simpa [ints] using this

theorem ints_get {k : IntKind} {w : World} {A : Option Addr} {xs : List Int} (h : (ints k).C w A xs) (i : Nat) (hi : i < xs.length) : ∃ ad, A = some ad ∧ w.cell? (ad.add i) = some (.int k (nth 0 xs i)) := by
  obtain ⟨ad, ha, hx⟩ := h.get 0 i hi
  exact ⟨ad, ha, ints_at hx⟩

/-- Whole numbers lead nowhere. -/
theorem ints_own {k : IntKind} {e base : Nat} {W : World} {ok : Nat → Prop} {v : Value} {xs : List Int} (h : (ints k).Own e W base ok v xs) : (ints k).Own e W base (fun _ => False) v xs := by
  obtain ⟨inner, ho, hx⟩ := h
  exact ⟨inner, ho, fun i x hi W' _ => (hx i x hi).now⟩

structure Ev where
  t : Int
  n : Int
  kd : Int
  dst : Int
  body : List Int
  deriving DecidableEq
def ev0 : Ev := ⟨0, 0, 0, 0, []⟩
@[simp] theorem ev0_t : ev0.t = 0 := rfl
@[simp] theorem ev0_n : ev0.n = 0 := rfl

/-- Events. -/
def evs : Kd Ev where
  sz := 5
  pos := by decide
  K := fun w x cs => ∃ A c, cs = [.int .i64 x.t, .int .i64 x.n, .int .i64 x.kd, .int .i64 x.dst, .slice A x.body.length c] ∧ x.body.length ≤ c ∧ (ints .u8).C w A x.body
  len := by rintro w x cs ⟨A, c, rfl, _⟩; rfl
  one := by
    rintro w x cs ⟨A, c, rfl, _⟩ u hu
    simp only [List.mem_cons, List.not_mem_nil, or_false] at hu
    rcases hu with rfl | rfl | rfl | rfl | rfl <;> rfl
  mv := by
    rintro w w1 x cs ⟨A, c, rfl, hl, hC⟩ hm
    exact ⟨A, c, rfl, hl, hC.mv hm⟩

theorem evs_at {w : World} {ad : Addr} {i : Nat} {x : Ev} (h : evs.At w ad i x) : ∃ A c, w.cell? (ad.add (i * 5)) = some (.int .i64 x.t) ∧
    w.cell? ⟨(ad.add (i * 5)).block, (ad.add (i * 5)).off + 1, none⟩ = some (.int .i64 x.n) ∧ w.cell? ⟨(ad.add (i * 5)).block, (ad.add (i * 5)).off + 2, none⟩ = some (.int .i64 x.kd) ∧
    w.cell? ⟨(ad.add (i * 5)).block, (ad.add (i * 5)).off + 3, none⟩ = some (.int .i64 x.dst) ∧ w.cell? ⟨(ad.add (i * 5)).block, (ad.add (i * 5)).off + 4, none⟩ = some (.slice A x.body.length c) ∧
    x.body.length ≤ c ∧ (ints .u8).C w A x.body := by
  obtain ⟨cs, ⟨A, c, rfl, hl, hC⟩, hc0⟩ := h
  have hc : ∀ j u, [Value.int .i64 x.t, .int .i64 x.n, .int .i64 x.kd, .int .i64 x.dst, .slice A x.body.length c][j]? = some u → w.cell? (ad.add (i * 5 + j)) = some u := hc0
  exact ⟨A, c, hc 0 _ rfl, by rw [← Kd.add_fld _ _ 1 (by omega)]; exact hc 1 _ rfl, by rw [← Kd.add_fld _ _ 2 (by omega)]; exact hc 2 _ rfl,
    by rw [← Kd.add_fld _ _ 3 (by omega)]; exact hc 3 _ rfl, by rw [← Kd.add_fld _ _ 4 (by omega)]; exact hc 4 _ rfl, hl, hC⟩

theorem evs_get {w : World} {A : Option Addr} {xs : List Ev} (h : evs.C w A xs) (i : Nat) (hi : i < xs.length) : ∃ ad A4 c4, A = some ad ∧ w.cell? (ad.add (i * 5)) = some (.int .i64 (nth ev0 xs i).t) ∧
    w.cell? ⟨(ad.add (i * 5)).block, (ad.add (i * 5)).off + 1, none⟩ = some (.int .i64 (nth ev0 xs i).n) ∧ w.cell? ⟨(ad.add (i * 5)).block, (ad.add (i * 5)).off + 2, none⟩ = some (.int .i64 (nth ev0 xs i).kd) ∧
    w.cell? ⟨(ad.add (i * 5)).block, (ad.add (i * 5)).off + 3, none⟩ = some (.int .i64 (nth ev0 xs i).dst) ∧ w.cell? ⟨(ad.add (i * 5)).block, (ad.add (i * 5)).off + 4, none⟩ = some (.slice A4 (nth ev0 xs i).body.length c4) ∧
    (nth ev0 xs i).body.length ≤ c4 ∧ (ints .u8).C w A4 (nth ev0 xs i).body := by
  obtain ⟨ad, ha, hx⟩ := h.get ev0 i hi
  obtain ⟨A4, c4, hr⟩ := evs_at hx
  exact ⟨ad, A4, c4, ha, hr⟩

theorem evs_body {W : World} {ok : Nat → Prop} {x : Ev} {c0 c1 c2 c3 : Value} {A : Option Addr} {c : Nat} (h : Fp (fun W => evs.K W x [c0, c1, c2, c3, .slice A x.body.length c]) W ok) : (ints .u8).V W ok (.slice A x.body.length c) x.body := by
  obtain ⟨A', c', he, hl, _⟩ := h.now
  have he' : (Value.slice A x.body.length c) = .slice A' x.body.length c' := by
    have := congrArg (fun l => l[4]?) he
    simpa using this
  injection he' with ha _ hc
  subst ha; subst hc
  refine ⟨A, c, rfl, hl, fun W' hW => ?_⟩
  obtain ⟨A2, c2, he2, _, hC⟩ := h W' hW
  have he3 : (Value.slice A x.body.length c) = .slice A2 x.body.length c2 := by
    have := congrArg (fun l => l[4]?) he2
    simpa using this
  injection he3 with ha _ _
  rw [ha]
  exact hC

theorem evs_elem {W : World} {ok : Nat → Prop} {l : List Ev} {A : Option Addr} {n c : Nat} (h : evs.V W ok (.slice A n c) l) (i : Nat) (hi : i < l.length) : ∃ ad A4 c4, A = some ad ∧ W.cell? (ad.add (i * 5)) = some (.int .i64 (nth ev0 l i).t) ∧
    W.cell? ⟨(ad.add (i * 5)).block, (ad.add (i * 5)).off + 1, none⟩ = some (.int .i64 (nth ev0 l i).n) ∧ W.cell? ⟨(ad.add (i * 5)).block, (ad.add (i * 5)).off + 2, none⟩ = some (.int .i64 (nth ev0 l i).kd) ∧
    W.cell? ⟨(ad.add (i * 5)).block, (ad.add (i * 5)).off + 3, none⟩ = some (.int .i64 (nth ev0 l i).dst) ∧ W.cell? ⟨(ad.add (i * 5)).block, (ad.add (i * 5)).off + 4, none⟩ = some (.slice A4 (nth ev0 l i).body.length c4) ∧
    (ints .u8).V W ok (.slice A4 (nth ev0 l i).body.length c4) (nth ev0 l i).body := by
  obtain ⟨ad, ha, _⟩ := h.C.2 (by omega)
  subst ha
  obtain ⟨cs, hc0, hf⟩ := h.elem i _ (nth_get? ev0 l i hi)
  obtain ⟨A4, c4, rfl, hl, hC⟩ := hf.now
  have hc : ∀ j u, [Value.int .i64 (nth ev0 l i).t, .int .i64 (nth ev0 l i).n, .int .i64 (nth ev0 l i).kd, .int .i64 (nth ev0 l i).dst, .slice A4 (nth ev0 l i).body.length c4][j]? = some u → W.cell? (ad.add (i * 5 + j)) = some u := hc0
  exact ⟨ad, A4, c4, rfl, hc 0 _ rfl, by rw [← Kd.add_fld _ _ 1 (by omega)]; exact hc 1 _ rfl, by rw [← Kd.add_fld _ _ 2 (by omega)]; exact hc 2 _ rfl,
    by rw [← Kd.add_fld _ _ 3 (by omega)]; exact hc 3 _ rfl, by rw [← Kd.add_fld _ _ 4 (by omega)]; exact hc 4 _ rfl, evs_body hf⟩

theorem info5 : (Try.prog.info? 5).map (fun i => (i.zero, i.size, i.bytes)) = some (some (.int .u8 0), 1, 1) := by kernel_rfl
theorem size32 : (Try.prog.info? 32).map (·.size) = some 5 := by kernel_rfl
theorem info32 : (Try.prog.info? 32).map (fun i => (i.zero, i.size, i.bytes)) = some (some (.agg #[(.int .i64 0), (.int .i64 0), (.int .i64 0), (.int .i64 0), (.slice none 0 0)]), 5, 56) := by kernel_rfl
end Go.Proofs.Ytnmcbpjhlkpglaa.B
