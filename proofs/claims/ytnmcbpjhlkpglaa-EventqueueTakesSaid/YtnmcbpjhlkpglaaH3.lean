/- What this text holds: the contract of the laws' added. -/
import Derived.Test.YtnmcbpjhlkpglaaH2
set_option linter.unusedVariables false
set_option linter.unusedSimpArgs false
namespace Go.Proofs.Ytnmcbpjhlkpglaa.B
open Go.RowKit

def addedGo : List Int → Nat → List Ev × Int → (List Ev × Int) × Bool
  | [], _, q => (q, true)
  | t :: ts, i, q => if (addF q.1 q.2 t i 0 []).2.2 ≠ 0 ∨ (addF q.1 q.2 t i 0 []).2.1 ≠ i then (q, false) else addedGo ts (i + 1) (addF q.1 q.2 t i 0 []).1
def addedF (ts : List Int) : (List Ev × Int) × Bool := addedGo ts 0 ([], 0)
/-- What added leaves. -/
def AddedPost (w : World) (r : (List Ev × Int) × Bool) (e : Ending) (w' : World) : Prop :=
  ∃ v, e = .returned (.tuple #[.agg #[v, .int .i64 r.1.2], .bool r.2]) ∧ evs.V w' (fun k => w.heap.size ≤ k) v r.1.1 ∧ Below w.heap.size w w'

theorem drop_nth (l : List Int) (k : Nat) (h : k < l.length) : l.drop k = nth 0 l k :: l.drop (k + 1) := by
  rw [nth_eq 0 l k h]
  exact (List.drop_eq_getElem_cons h)

set_option maxRecDepth 100000 in
set_option maxHeartbeats 4000000 in
theorem added_calls (A : Option Addr) (c : Nat) (ts : List Int) (w : World) (hr : (ints .i64).C w A ts) (hc : ts.length ≤ c) :
    Calls Try.prog 18 #[.slice A ts.length c] w (AddedPost w (addedF ts)) := by
  have hu24 := Try.underlying24
  have HR := Hd.mk hr
  have hm := hr.1
  obtain ⟨r, hr0⟩ : ∃ r, r = addedF ts := ⟨_, rfl⟩
  rw [← hr0]
  have Hr := Hd.mk hr0
  clear hr hr0
  go_enter Try.func18, Try.ntmps18
  go_wp2
  go_loopw [5] (fun i wr => ∃ k l next v, k ≤ ts.length ∧ i = .int .i64 (k : Nat) ∧ Hd (r = addedGo (ts.drop k) k (l, next)) ∧ Hd (evs.V wr (fun k => w.heap.size + 2 ≤ k) v l) ∧
    Hd (Blk wr w.heap.size 24 #[.slice none 0 0, .int .i64 0]) ∧ Hd (Blk wr (w.heap.size + 1) 24 #[v, .int .i64 next]) ∧ w.heap.size + 2 ≤ wr.heap.size ∧ Hd (Below w.heap.size w wr)) (fun i _ => ts.length - (intOf i).toNat)
  case atStart =>
    have b0 := Blk.alloc (Blk.new w 24 #[.slice none 0 0, .int .i64 0]) (.cells #[.slice none 0 0, .int .i64 0] 24)
    have b1 := Blk.new (w.alloc (.cells #[.slice none 0 0, .int .i64 0] 24)) 24 #[.slice none 0 0, .int .i64 0]
    rw [World.size_alloc] at b1
    exact ⟨0, [], 0, .slice none 0 0, Nat.zero_le _, rfl, ⟨by rw [Hr.out]; rfl⟩, ⟨Kd.V.nil⟩, ⟨b0⟩, ⟨b1⟩, by simp, ⟨by go_grown⟩⟩
  case round =>
    obtain ⟨k, l, next, v, hk, rfl, HG, HV, HB0, HB1, hsz, HB⟩ := hrel
    obtain ⟨A1, c1, rfl, hc1, hC1⟩ := HV.out.reads
    have HC1 := Hd.mk hC1
    clear hC1
    obtain ⟨p0, p1, p2, p3⟩ := HB0.out.f2
    obtain ⟨q0, q1, q2, q3⟩ := HB1.out.f2
    by_cases hlt : k < ts.length
    · obtain ⟨ad, e0, hx⟩ := ints_get HR.out k hlt
      subst e0
      replace hx := (HB.out.cell (World.block_lt_of_cell? w _ hx)).trans hx
      have hbd : (ad.add k).block < wr.heap.size := World.block_lt_of_cell? wr _ hx
      obtain ⟨t, et⟩ : ∃ t, t = nth 0 ts k := ⟨_, rfl⟩
      rw [← et] at hx
      rcases hadd : addF l next t k 0 [] with ⟨⟨l', nx⟩, nm, er⟩
      have HA := Hd.mk hadd
      have HG2 : Hd (r = if er ≠ 0 ∨ nm ≠ k then ((l, next), false) else addedGo (ts.drop (k + 1)) (k + 1) (l', nx)) := ⟨by
        rw [HG.out, drop_nth ts k hlt, ← et, addedGo]
        simp only [hadd]⟩
      clear hadd et
      have hk0 : (0 : Int) ≤ k := by omega
      have hk1 : (k : Int) < ts.length := by omega
      have hcases : (er ≠ 0) ∨ (er = 0 ∧ nm ≠ (k : Int)) ∨ (er = 0 ∧ nm = (k : Int)) := by omega
      have hww : wr.drew.heap.size = wr.heap.size := rfl
      go_wp2_with fail
      go_region_held3 (fun W => W.cell? ⟨w.heap.size + 1, 0, none⟩ = some (.slice A1 l.length c1) ∧ W.cell? ⟨w.heap.size + 1, 1, none⟩ = some (.int .i64 next) ∧ W.cell? (ad.add k) = some (.int .i64 t))
        (first | assumption | (refine ⟨?_, ?_, ?_⟩ <;> first | exact q0 | exact q1 | exact hx) | (refine ⟨keepB HB7.out q0 ?_, keepB HB7.out q1 ?_, keepB HB7.out hx ?_⟩ <;> (first | omega | ((try dsimp only); omega))) | (refine ⟨keepB HB7.out (keepD (keepA q0 _)) ?_, keepB HB7.out (keepD (keepA q1 _)) ?_, keepB HB7.out (keepD (keepA hx _)) ?_⟩ <;> ((show _ < (wr.alloc _).heap.size); (rw [World.size_alloc]); (first | omega | ((try dsimp only); omega)))) | (refine ⟨?_, ?_, ?_⟩ <;> (repeat (first | with_reducible assumption | with_reducible refine keepS ?_ (by (try dsimp only); omega) | with_reducible refine keepA ?_ _ | with_reducible refine keepD ?_ | (refine keepB HB7.out ?_ (by first | omega | ((try dsimp only); omega) | (show _ < (wr.alloc _).heap.size; rw [World.size_alloc]; first | omega | ((try dsimp only); omega)))))) <;> done) | (refine ⟨?_, ?_, ?_⟩ <;> (first | go_keep | (go_simp; done))) | go_keep)
        (first | (go_at_call 14; refine (add_calls A1 c1 l next t k 0 none 0 [] _ (HC1.out.below (by go_grown)) hc1 Kd.C.nil (Nat.le_refl _) (by decide)).mono ?_; rw [HA.out]; rintro e w7 ⟨v', rfl, hv, hb⟩; have hsz7 := hb.size; have HB7 := Hd.mk hb; obtain ⟨A7, c7, rfl, hc7, -⟩ := hv.reads; have HV7 := Hd.mk hv; (try (have HBX : Blk _ wr.heap.size 24 #[.slice none 0 0, .int .i64 0] := ((Blk.new wr 24 _).drew).below hb; obtain ⟨x0, x1, x2, x3⟩ := HBX.f2; (have HBXh := Hd.mk HBX); clear HBX)); clear hv hb))
      · have ba := ((HB0.out.drew).below HB7.out).alloc (.cells #[.slice A7 l'.length c7, .int .i64 nx] 24)
        have bb := ((HB1.out.drew).below HB7.out).alloc (.cells #[.slice A7 l'.length c7, .int .i64 nx] 24)
        have bx := Blk.new w7 24 #[.slice A7 l'.length c7, .int .i64 nx]
        have hbw : Below w.heap.size w (w7.alloc (.cells #[.slice A7 l'.length c7, .int .i64 nx] 24)) := Below.alloc (HB.out.drew.trans (HB7.out.mono (by omega))) (by omega) _
        have hvo : evs.V (w7.alloc (.cells #[.slice A7 l'.length c7, .int .i64 nx] 24)) (fun k => w.heap.size + 2 ≤ k) (.slice A1 l.length c1) l := (HV.out.drew.below HB7.out).alloc _
        have hvn : evs.V (w7.alloc (.cells #[.slice A7 l'.length c7, .int .i64 nx] 24)) (fun k => w.heap.size + 2 ≤ k) (.slice A7 l'.length c7) l' := (HV7.out.mono (fun k hk => by omega)).alloc _
        have hsz8 : w.heap.size + 2 ≤ (w7.alloc (.cells #[.slice A7 l'.length c7, .int .i64 nx] 24)).heap.size := by rw [World.size_alloc]; omega
        have hne1 : w.heap.size + 1 < w7.heap.size := by omega
        obtain ⟨w8, hw8⟩ : ∃ w8, w8 = (w7.alloc (.cells #[.slice A7 l'.length c7, .int .i64 nx] 24)) := ⟨_, rfl⟩
        rw [← hw8] at ba bb bx hbw hvo hvn hsz8 ⊢
        clear hw8
        obtain ⟨p0, p1, p2, p3⟩ := ba.f2
        obtain ⟨q0, q1, q2, q3⟩ := bb.f2
        obtain ⟨m0, m1, m2, m3⟩ := bx.f2
        have HBa := Hd.mk ba
        have HBb := Hd.mk bb
        have HBW := Hd.mk hbw
        have HVo := Hd.mk hvo
        have HVn := Hd.mk hvn
        clear ba bb bx hbw hvo hvn hx HB0 HB1 HV HB HC1 HB7 HV7
        rcases hcases with her | ⟨her, hnm⟩ | ⟨her, hnm⟩
        · have hb1 : (er != 0) = true := by simp [her]
          have Her := Hd.mk her
          clear her
          go_wp2
          refine bodyPost_ret (v := .tuple #[.agg #[.slice A1 l.length c1, .int .i64 next], .bool false]) (by simp [results, Try.results18, go_sem, p0, p1]) rfl ?_
          rw [HG2.out, if_pos (.inl Her.out)]
          refine ⟨_, rfl, ?_, ?_⟩
          · refine Kd.V.mono (ok := fun k => w.heap.size + 2 ≤ k) ?_ (fun k hk => by have hk' : w.heap.size + 2 ≤ k := hk; omega)
            have hv := HVo.out
            repeat (first | (with_reducible exact hv) | (with_reducible refine Kd.V.far ?_ (fun k hk => by have hk' : w.heap.size + 2 ≤ k := hk; dsimp only; omega) _))
          · have h2 := HBW.out
            repeat (first | (with_reducible exact h2) | (with_reducible refine Below.setCell ?_ (by dsimp only; omega) _))
        · have hb1 : (er != 0) = false := by simp [her]
          have hb2 : (nm != (k : Int)) = true := by simp [hnm]
          have Hnm := Hd.mk hnm
          clear her hnm
          go_wp2
          refine bodyPost_ret (v := .tuple #[.agg #[.slice A1 l.length c1, .int .i64 next], .bool false]) (by simp [results, Try.results18, go_sem, p0, p1]) rfl ?_
          rw [HG2.out, if_pos (.inr Hnm.out)]
          refine ⟨_, rfl, ?_, ?_⟩
          · refine Kd.V.mono (ok := fun k => w.heap.size + 2 ≤ k) ?_ (fun k hk => by have hk' : w.heap.size + 2 ≤ k := hk; omega)
            have hv := HVo.out
            repeat (first | (with_reducible exact hv) | (with_reducible refine Kd.V.far ?_ (fun k hk => by have hk' : w.heap.size + 2 ≤ k := hk; dsimp only; omega) _))
          · have h2 := HBW.out
            repeat (first | (with_reducible exact h2) | (with_reducible refine Below.setCell ?_ (by dsimp only; omega) _))
        · have HG3 : Hd (r = addedGo (ts.drop (k + 1)) (k + 1) (l', nx)) := ⟨by rw [HG2.out, if_neg (by omega)]⟩
          have hb1 : (er != 0) = false := by simp [her]
          subst hnm
          have hb2 : ((k : Int) != (k : Int)) = false := by simp
          clear her
          go_wp2
          go_roundw
          case rel =>
            refine ⟨k + 1, l', nx, .slice A7 l'.length c7, by omega, by go_num, HG3, ⟨?_⟩, ⟨?_⟩, ⟨?_⟩, ?_, ⟨?_⟩⟩
            rotate_left
            · exact (HBa.out.far (by dsimp only; omega) _).far (by dsimp only; omega) _
            · exact (HBb.out.put 0 _ rfl).put 1 _ rfl
            · simp only [World.size_setCell]; omega
            · have h2 := HBW.out
              repeat (first | (with_reducible exact h2) | (with_reducible refine Below.setCell ?_ (by dsimp only; omega) _))
            · have hv := HVn.out
              repeat (first | (with_reducible exact hv) | (with_reducible refine Kd.V.far ?_ (fun k hk => by have hk' : w.heap.size + 2 ≤ k := hk; dsimp only; omega) _))
          case measure => simp [intOf]; omega
      · have hsz9 : wr.heap.size + 1 ≤ w7.heap.size := by have h := hsz7; rw [show (wr.alloc _).drew.heap.size = (wr.alloc _).heap.size from rfl, World.size_alloc] at h; exact h
        have ba := ((((HB0.out.alloc _).drew).below HB7.out).far (p := ⟨wr.heap.size, 0, none⟩) (by dsimp only; omega) (.slice A7 l'.length c7)).far (p := ⟨wr.heap.size, 1, none⟩) (by dsimp only; omega) (.int .i64 nx)
        have bb := ((((HB1.out.alloc _).drew).below HB7.out).far (p := ⟨wr.heap.size, 0, none⟩) (by dsimp only; omega) (.slice A7 l'.length c7)).far (p := ⟨wr.heap.size, 1, none⟩) (by dsimp only; omega) (.int .i64 nx)
        have bx : Blk ((w7.setCell ⟨wr.heap.size, 0, none⟩ (.slice A7 l'.length c7)).setCell ⟨wr.heap.size, 1, none⟩ (.int .i64 nx)) wr.heap.size 24 #[.slice A7 l'.length c7, .int .i64 nx] := (HBXh.out.put 0 _ rfl).put 1 _ rfl
        have hbw : Below w.heap.size w ((w7.setCell ⟨wr.heap.size, 0, none⟩ (.slice A7 l'.length c7)).setCell ⟨wr.heap.size, 1, none⟩ (.int .i64 nx)) := Below.setCell (Below.setCell ((Below.alloc HB.out (by omega) _).drew.trans (HB7.out.mono (by show _ ≤ (wr.alloc _).heap.size; rw [World.size_alloc]; omega))) (by dsimp only; omega) _) (by dsimp only; omega) _
        have hvo : evs.V ((w7.setCell ⟨wr.heap.size, 0, none⟩ (.slice A7 l'.length c7)).setCell ⟨wr.heap.size, 1, none⟩ (.int .i64 nx)) (fun k => w.heap.size + 2 ≤ k) (.slice A1 l.length c1) l :=
          ((((((HV.out.bound).alloc _).drew).below HB7.out).far (fun k hk => by have := hk.2; dsimp only; omega) _).far (fun k hk => by have := hk.2; dsimp only; omega) _).mono (fun k hk => hk.1)
        have hvn : evs.V ((w7.setCell ⟨wr.heap.size, 0, none⟩ (.slice A7 l'.length c7)).setCell ⟨wr.heap.size, 1, none⟩ (.int .i64 nx)) (fun k => w.heap.size + 2 ≤ k) (.slice A7 l'.length c7) l' :=
          (((HV7.out.mono (fun k hk => by have hk' : (wr.alloc _).heap.size ≤ k := hk; rw [World.size_alloc] at hk'; exact hk' : ∀ k, _ → wr.heap.size + 1 ≤ k)).far (fun k hk => by have hk' : wr.heap.size + 1 ≤ k := hk; dsimp only; omega) _).far (fun k hk => by have hk' : wr.heap.size + 1 ≤ k := hk; dsimp only; omega) _).mono (fun k hk => by have hk' : wr.heap.size + 1 ≤ k := hk; omega)
        have hsz8 : w.heap.size + 2 ≤ ((w7.setCell ⟨wr.heap.size, 0, none⟩ (.slice A7 l'.length c7)).setCell ⟨wr.heap.size, 1, none⟩ (.int .i64 nx)).heap.size := by simp only [World.size_setCell]; omega
        clear x0 x1 x2 x3 HBXh
        have hne1 : w.heap.size + 1 < wr.heap.size := by omega
        obtain ⟨w8, hw8⟩ : ∃ w8, w8 = ((w7.setCell ⟨wr.heap.size, 0, none⟩ (.slice A7 l'.length c7)).setCell ⟨wr.heap.size, 1, none⟩ (.int .i64 nx)) := ⟨_, rfl⟩
        rw [← hw8] at ba bb bx hbw hvo hvn hsz8 ⊢
        clear hw8
        obtain ⟨p0, p1, p2, p3⟩ := ba.f2
        obtain ⟨q0, q1, q2, q3⟩ := bb.f2
        obtain ⟨m0, m1, m2, m3⟩ := bx.f2
        have HBa := Hd.mk ba
        have HBb := Hd.mk bb
        have HBW := Hd.mk hbw
        have HVo := Hd.mk hvo
        have HVn := Hd.mk hvn
        clear ba bb bx hbw hvo hvn hx HB0 HB1 HV HB HC1 HB7 HV7
        rcases hcases with her | ⟨her, hnm⟩ | ⟨her, hnm⟩
        · have hb1 : (er != 0) = true := by simp [her]
          have Her := Hd.mk her
          clear her
          go_wp2
          refine bodyPost_ret (v := .tuple #[.agg #[.slice A1 l.length c1, .int .i64 next], .bool false]) (by simp [results, Try.results18, go_sem, p0, p1]) rfl ?_
          rw [HG2.out, if_pos (.inl Her.out)]
          refine ⟨_, rfl, ?_, ?_⟩
          · refine Kd.V.mono (ok := fun k => w.heap.size + 2 ≤ k) ?_ (fun k hk => by have hk' : w.heap.size + 2 ≤ k := hk; omega)
            have hv := HVo.out
            repeat (first | (with_reducible exact hv) | (with_reducible refine Kd.V.far ?_ (fun k hk => by have hk' : w.heap.size + 2 ≤ k := hk; dsimp only; omega) _))
          · have h2 := HBW.out
            repeat (first | (with_reducible exact h2) | (with_reducible refine Below.setCell ?_ (by dsimp only; omega) _))
        · have hb1 : (er != 0) = false := by simp [her]
          have hb2 : (nm != (k : Int)) = true := by simp [hnm]
          have Hnm := Hd.mk hnm
          clear her hnm
          go_wp2
          refine bodyPost_ret (v := .tuple #[.agg #[.slice A1 l.length c1, .int .i64 next], .bool false]) (by simp [results, Try.results18, go_sem, p0, p1]) rfl ?_
          rw [HG2.out, if_pos (.inr Hnm.out)]
          refine ⟨_, rfl, ?_, ?_⟩
          · refine Kd.V.mono (ok := fun k => w.heap.size + 2 ≤ k) ?_ (fun k hk => by have hk' : w.heap.size + 2 ≤ k := hk; omega)
            have hv := HVo.out
            repeat (first | (with_reducible exact hv) | (with_reducible refine Kd.V.far ?_ (fun k hk => by have hk' : w.heap.size + 2 ≤ k := hk; dsimp only; omega) _))
          · have h2 := HBW.out
            repeat (first | (with_reducible exact h2) | (with_reducible refine Below.setCell ?_ (by dsimp only; omega) _))
        · have HG3 : Hd (r = addedGo (ts.drop (k + 1)) (k + 1) (l', nx)) := ⟨by rw [HG2.out, if_neg (by omega)]⟩
          have hb1 : (er != 0) = false := by simp [her]
          subst hnm
          have hb2 : ((k : Int) != (k : Int)) = false := by simp
          clear her
          go_wp2
          go_roundw
          case rel =>
            refine ⟨k + 1, l', nx, .slice A7 l'.length c7, by omega, by go_num, HG3, ⟨?_⟩, ⟨?_⟩, ⟨?_⟩, ?_, ⟨?_⟩⟩
            rotate_left
            · exact (HBa.out.far (by dsimp only; omega) _).far (by dsimp only; omega) _
            · exact (HBb.out.put 0 _ rfl).put 1 _ rfl
            · simp only [World.size_setCell]; omega
            · have h2 := HBW.out
              repeat (first | (with_reducible exact h2) | (with_reducible refine Below.setCell ?_ (by dsimp only; omega) _))
            · have hv := HVn.out
              repeat (first | (with_reducible exact hv) | (with_reducible refine Kd.V.far ?_ (fun k hk => by have hk' : w.heap.size + 2 ≤ k := hk; dsimp only; omega) _))
          case measure => simp [intOf]; omega
    · have hfin : Hd (r = ((l, next), true)) := ⟨by
        rw [HG.out, List.drop_of_length_le (by omega)]; rfl⟩
      clear hk
      go_wp2
      refine bodyPost_ret (v := .tuple #[.agg #[.slice A1 l.length c1, .int .i64 next], .bool true]) (by simp [results, Try.results18, go_sem, p0, p1]) rfl ?_
      rw [hfin.out]
      refine ⟨_, rfl, ?_, ?_⟩
      · refine Kd.V.mono (ok := fun k => w.heap.size + 2 ≤ k) ?_ (fun k hk => by have hk' : w.heap.size + 2 ≤ k := hk; omega)
        have hv := HV.out
        repeat (first | (with_reducible exact hv) | (with_reducible refine Kd.V.far ?_ (fun k hk => by have hk' : w.heap.size + 2 ≤ k := hk; dsimp only; omega) _))
      · have h2 := HB.out
        repeat (first | (with_reducible exact h2) | (with_reducible refine Below.setCell ?_ (by dsimp only; omega) _))
end Go.Proofs.Ytnmcbpjhlkpglaa.B
