/- What this text holds: the contract of eventqueue.Due. -/
import Derived.Test.YtnmcbpjhlkpglaaG3
set_option linter.unusedVariables false
set_option linter.unusedSimpArgs false
namespace Go.Proofs.Ytnmcbpjhlkpglaa.B
open Go.RowKit

section
variable {P : Program}
/-- 's[:m:m]'. -/
theorem cut_to (t e : TypeId) (kl kl' : IntKind) (size : Nat) (ht : P.underlying t = some (.slice e)) (hi : (P.info? e).map (·.size) = some size) (A : Option Addr) (n c m : Nat) (hm : m ≤ c) :
    ∀ W : World, (Instr.slice t (.slice A n c) none (some (.int kl (m : Int))) (some (.int kl' (m : Int)))).run P W = .ok (.slice A m m) W := by
  intro W
  obtain ⟨i, hq, hsz⟩ := Option.map_eq_some_iff.1 hi
  have hel : P.elem t = e := by simp [Program.elem, ht]
  have hu : P.underlying t = some (.slice (P.elem t)) := by rw [hel]; exact ht
  rw [run_slice_hm W t A n c hu kl kl' (m : Int) (m : Int) (Int.natCast_nonneg _) (Int.le_refl _) (by omega), hel]
  cases A <;> simp [sizeOf, typeInfo, hq, hsz, sliced, Result.andThen, Kd.add_zero]
end

def dueF (l : List Ev) (next t : Int) : (List Ev × Int) × List Ev :=
  if checkF l next ≠ 0 then ((l, next), []) else ((l.drop (placeI l t), next), l.take (placeI l t))
/-- What Due leaves: a queue, events. -/
def DuePost (w : World) (ok : Nat → Prop) (r : (List Ev × Int) × List Ev) (e : Ending) (w' : World) : Prop :=
  ∃ v u, e = .returned (.tuple #[.agg #[v, .int .i64 r.1.2], u]) ∧ evs.V w' (fun k => ok k ∨ w.heap.size ≤ k) v r.1.1 ∧ evs.V w' (fun k => w.heap.size ≤ k) u r.2 ∧ Below w.heap.size w w'

set_option maxHeartbeats 1000000 in
theorem due_bad (A : Option Addr) (c : Nat) (l : List Ev) (next t : Int) (w : World) (ok : Nat → Prop) (hv0 : evs.V w ok (.slice A l.length c) l) (h : checkF l next ≠ 0) :
    Calls Try.prog 20 #[.agg #[.slice A l.length c, .int .i64 next], .int .i64 t] w (DuePost w ok ((l, next), [])) := by
  have hu24 := Try.underlying24
  have hr := hv0.C
  have hc : l.length ≤ c := by obtain ⟨A', c', he, hl, -⟩ := hv0; injection he with _ _ h3; omega
  have HV0 := Hd.mk hv0
  have HR := Hd.mk hr
  clear hv0
  have hb1 : (checkF l next != 0) = true := by simp [h]
  clear hr h
  go_enter Try.func20, Try.ntmps20
  go_wp2_with fail
  refine (check_calls A c l next _ (HR.out.below (by go_grown)) hc).mono ?_
  rintro e w1 ⟨rfl, hb⟩
  have hbw : Below w.heap.size w w1 := Below.trans (by go_grown) (hb.mono (by simp; omega))
  have HBW := Hd.mk hbw
  have hsz : w.heap.size + 3 ≤ w1.heap.size := by have := hb.size; simpa using this
  have B0 := (Blk.alloc (Blk.alloc (Blk.new w 24 #[.slice A l.length c, .int .i64 next]) (.cells #[.int .i64 t] 3)) (.cells #[.slice none 0 0, .int .i64 0] 24)).below hb
  have B2 := (Blk.new ((w.alloc _).alloc _) 24 _).below hb
  simp only [World.size_alloc] at B2
  obtain ⟨p0, p1, p2, p3⟩ := B0.f2
  obtain ⟨q0, q1, q2, q3⟩ := B2.f2
  clear hb hbw B0 B2
  go_wp2
  refine bodyPost_ret (v := .tuple #[.agg #[.slice A l.length c, .int .i64 next], .slice none 0 0]) (by simp [results, Try.results20, go_sem, q0, q1]) rfl ?_
  have h2 : Below w.heap.size w (((w1.setCell ⟨w.heap.size + 1 + 1, 0, none⟩ (.slice A l.length c)).setCell ⟨w.heap.size + 1 + 1, 1, none⟩ (.int .i64 next))) := by
    have h2 := HBW.out
    repeat (first | (with_reducible exact h2) | (with_reducible refine Below.setCell ?_ (by dsimp only; omega) _))
  exact ⟨_, _, rfl, (HV0.out.below h2).mono (fun k hk => .inl hk), Kd.V.nil, h2⟩

set_option maxRecDepth 100000 in
set_option maxHeartbeats 4000000 in
theorem due_ok (A : Option Addr) (c : Nat) (l : List Ev) (next t : Int) (w : World) (ok : Nat → Prop) (hv0 : evs.V w ok (.slice A l.length c) l) (h : checkF l next = 0) :
    Calls Try.prog 20 #[.agg #[.slice A l.length c, .int .i64 next], .int .i64 t] w (DuePost w ok ((l.drop (placeI l t), next), l.take (placeI l t))) := by
  have hu24 := Try.underlying24
  have hr := hv0.C
  have hc : l.length ≤ c := by obtain ⟨A', c', he, hl, -⟩ := hv0; injection he with _ _ h3; omega
  have HR := Hd.mk hr
  clear hv0
  have hb1 : (checkF l next != 0) = false := by simp [h]
  have HS := Hd.mk (checkF_small l next h)
  have hll := (checkF_small l next h).1
  obtain ⟨p, hpl⟩ : ∃ p, placeI l t = p := ⟨_, rfl⟩
  have hple := placeI_le l t
  rw [hpl] at hple ⊢
  obtain ⟨ys, hys⟩ : ∃ ys : List Ev, ys = l.drop p := ⟨_, rfl⟩
  obtain ⟨zs, hzs⟩ : ∃ zs : List Ev, zs = l.take p := ⟨_, rfl⟩
  rw [← hys, ← hzs]
  have Hpl := Hd.mk hpl
  have Hys := Hd.mk hys
  have Hzs := Hd.mk hzs
  clear hr h hpl hys hzs
  go_enter Try.func20, Try.ntmps20
  go_wp2_with fail
  refine (check_calls A c l next _ (HR.out.below (by go_grown)) hc).mono ?_
  rintro e w1 ⟨rfl, hb⟩
  have hbw : Below w.heap.size w w1 := Below.trans (by go_grown) (hb.mono (by simp; omega))
  have HBW := Hd.mk hbw
  have hsz : w.heap.size + 3 ≤ w1.heap.size := by have := hb.size; simpa using this
  have B0 := (Blk.alloc (Blk.alloc (Blk.new w 24 #[.slice A l.length c, .int .i64 next]) (.cells #[.int .i64 t] 3)) (.cells #[.slice none 0 0, .int .i64 0] 24)).below hb
  have B1 := (Blk.alloc (Blk.new (w.alloc _) 3 #[.int .i64 t]) (.cells #[.slice none 0 0, .int .i64 0] 24)).below hb
  have B2 := (Blk.new ((w.alloc _).alloc _) 24 _).below hb
  simp only [World.size_alloc] at B1 B2
  have HB0 := Hd.mk B0
  have HB1 := Hd.mk B1
  have HB2 := Hd.mk B2
  obtain ⟨p0, p1, p2, p3⟩ := B0.f2
  clear hb hbw B0 B1 B2
  go_wp2_with fail
  refine (events_calls A c l _ (HR.out.below HBW.out) hc HS.out).mono ?_
  rintro e w3 ⟨v5, rfl, hown, hb⟩
  obtain ⟨A5, c5, rfl, hc5, -⟩ := hown.shape
  have hsz3 := hb.size
  have HBW3 := Hd.mk (HBW.out.trans (hb.mono (by omega)))
  have HB0' := Hd.mk (HB0.out.below hb)
  have HB1' := Hd.mk (HB1.out.below hb)
  have HB2' := Hd.mk (HB2.out.below hb)
  have hv : evs.V w3 (fun k => w1.heap.size ≤ k) (.slice A5 l.length c5) l := hown.V.mono (fun k hk => hk.elim id (fun h => (hown.blk k h).1))
  have HV := Hd.mk hv
  have HR5 := Hd.mk hown.C
  obtain ⟨n0, -⟩ := HB1'.out.f1
  clear hb hown p0 p1 p2 p3 HB0 HB2 HB1 HBW hv
  go_wp2_with fail
  refine (indexFunc_calls 42 #[.pointer (some ⟨w.heap.size + 1, 0, none⟩)] (fun x => decide (t < x.t)) A5 l.length c5 l _ HR5.out rfl hc5 (tells42 _ t _ n0)).mono ?_
  rintro e w4 ⟨rfl, hb⟩
  have hsz4 := hb.size
  have HBW := Hd.mk (HBW3.out.trans (hb.mono (by omega)))
  obtain ⟨p0, p1, p2, p3⟩ := (HB0'.out.below hb).f2
  obtain ⟨q0, q1, q2, q3⟩ := (HB2'.out.below hb).f2
  have HV4 := Hd.mk (HV.out.below hb)
  clear hb n0 HB0' HB1' HB2' HV HBW3 HR5
  obtain ⟨A6, hcut, hA6⟩ := cut_from (P := Try.prog) 22 32 .i64 5 Try.underlying22 size32 A5 l.length c5 p (by omega)
  have hcut2 := cut_to (P := Try.prog) 22 32 .i64 .i64 5 Try.underlying22 size32 A5 l.length c5 p (by omega)
  have HA6 := Hd.mk hA6
  clear hA6
  have hfin : ∀ W : World, evs.V W (fun k => w1.heap.size ≤ k) (.slice A5 l.length c5) l → evs.V W (fun k => ok k ∨ w.heap.size ≤ k) (.slice A6 (l.length - p) (c5 - p)) ys ∧ evs.V W (fun k => w.heap.size ≤ k) (.slice A5 p p) zs := by
    intro W hv
    have h1 := hv.drop p hple
    have hA : A6 = if c5 = p then A5 else A5.map (·.add (p * evs.sz)) := HA6.out
    rw [← hA] at h1
    rw [Hys.out, Hzs.out]
    exact ⟨h1.mono (fun k hk => .inr (by omega)), (hv.take p hple p (Nat.le_refl _)).mono (fun k hk => by omega)⟩
  have HFin := Hd.mk hfin
  clear hfin
  rcases hfi : l.findIdx? (fun x => decide (t < x.t)) with _ | i
  · have hp : p = l.length := by rw [← Hpl.out, placeI, hfi]
    have hx : idxI (fun x => decide (t < x.t)) l = -1 := by rw [idxI, hfi]
    rw [hx]
    subst hp
    clear hx hfi
    go_wp2_with fail
    go_region_held3 (fun W => W.cell? ⟨w.heap.size, 1, none⟩ = some (.int .i64 next))
      (first | ((try dsimp only); (repeat (first | with_reducible assumption | with_reducible refine keepD ?_ | with_reducible refine keepS ?_ (by dsimp only; omega))); (first | done | assumption)))
      (first | fail)
    go_wp2
    refine bodyPost_ret (v := .tuple #[.agg #[.slice A6 (l.length - l.length) (c5 - l.length), .int .i64 next], .slice A5 l.length l.length]) (by simp [results, Try.results20, go_sem, q0, q1]) rfl ?_
    refine ⟨_, _, rfl, ?_⟩
    refine (fun h1 h2 => ⟨(HFin.out _ h1).1, (HFin.out _ h1).2, h2⟩ : evs.V _ (fun k => w1.heap.size ≤ k) (.slice A5 l.length c5) l → Below w.heap.size w _ → _) ?_ ?_
    · have hv := HV4.out
      repeat (first | (with_reducible exact hv) | (with_reducible refine Kd.V.drew ?_) | (with_reducible refine Kd.V.far ?_ (fun k hk => by have hk' : w1.heap.size ≤ k := hk; dsimp only; omega) _))
    · have h2 := HBW.out
      repeat (first | (with_reducible exact h2) | (with_reducible refine Below.drew ?_) | (with_reducible refine Below.setCell ?_ (by dsimp only; omega) _))
  · have hp : p = i := by rw [← Hpl.out, placeI, hfi]
    have hx : idxI (fun x => decide (t < x.t)) l = i := by rw [idxI, hfi]
    rw [hx]
    subst hp
    clear hx hfi
    go_wp2_with fail
    go_region_held3 (fun W => W.cell? ⟨w.heap.size, 1, none⟩ = some (.int .i64 next))
      (first | ((try dsimp only); (repeat (first | with_reducible assumption | with_reducible refine keepD ?_ | with_reducible refine keepS ?_ (by dsimp only; omega))); (first | done | assumption)))
      (first | fail)
    go_wp2
    refine bodyPost_ret (v := .tuple #[.agg #[.slice A6 (l.length - p) (c5 - p), .int .i64 next], .slice A5 p p]) (by simp [results, Try.results20, go_sem, q0, q1]) rfl ?_
    refine ⟨_, _, rfl, ?_⟩
    refine (fun h1 h2 => ⟨(HFin.out _ h1).1, (HFin.out _ h1).2, h2⟩ : evs.V _ (fun k => w1.heap.size ≤ k) (.slice A5 l.length c5) l → Below w.heap.size w _ → _) ?_ ?_
    · have hv := HV4.out
      repeat (first | (with_reducible exact hv) | (with_reducible refine Kd.V.drew ?_) | (with_reducible refine Kd.V.far ?_ (fun k hk => by have hk' : w1.heap.size ≤ k := hk; dsimp only; omega) _))
    · have h2 := HBW.out
      repeat (first | (with_reducible exact h2) | (with_reducible refine Below.drew ?_) | (with_reducible refine Below.setCell ?_ (by dsimp only; omega) _))

theorem due_calls (A : Option Addr) (c : Nat) (l : List Ev) (next t : Int) (w : World) (ok : Nat → Prop) (hv0 : evs.V w ok (.slice A l.length c) l) :
    Calls Try.prog 20 #[.agg #[.slice A l.length c, .int .i64 next], .int .i64 t] w (DuePost w ok (dueF l next t)) := by
  by_cases h : checkF l next = 0
  · rw [dueF, if_neg (by simp [h])]
    exact due_ok A c l next t w ok hv0 h
  · rw [dueF, if_pos h]
    exact due_bad A c l next t w ok hv0 h
end Go.Proofs.Ytnmcbpjhlkpglaa.B
