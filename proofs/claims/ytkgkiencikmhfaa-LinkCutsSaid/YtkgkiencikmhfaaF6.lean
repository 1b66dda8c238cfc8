/- What this text holds: the contract of slices.Insert of one flight into a row of the call's own. -/
import Derived.Test.YtkgkiencikmhfaaF5
import Derived.Test.YtkgkiencikmhfaaSegs
import Derived.Deep.RegionLaw
import Derived.Laws.Externs
import Derived.Laws.CopyOwn
set_option linter.unusedVariables false
set_option linter.unusedSimpArgs false
namespace Go.Proofs.Ytkgkiencikmhfaa.B
open Go.RowKit

theorem insert_end (l : List Fl) (x : Fl) (A : Option Addr) (cap gv : Nat) (cx : List Value) (w : World) (base : Nat) (ok okx : Nat → Prop)
    (hb : base ≤ w.heap.size) (hnc : l.length ≤ cap) (HO : fls.Own 69 w base ok (.slice A l.length cap) l)
    (HV : Blk w gv 69 cx.toArray) (hgv : some gv ≠ (Value.slice A l.length cap).ownBlock) (HX : Fp (fun W => fls.K W x cx) w okx) (hne : ∀ k, okx k → k < w.heap.size → some k ≠ (Value.slice A l.length cap).ownBlock) (hlen : l.length ≤ 4096) :
    Calls Try.prog 49 #[.slice A l.length cap, .int .i64 l.length, .slice (some ⟨gv, 0, none⟩) 1 1] w fun e w' =>
      ∃ v', e = .returned v' ∧ fls.Own 69 w' base (fun k => ok k ∨ okx k ∨ k = gv) v' (l ++ [x]) ∧ Below base w w' ∧ (v'.ownBlock = (Value.slice A l.length cap).ownBlock ∨ ∃ b, v'.ownBlock = some b ∧ w.heap.size ≤ b) ∧ ∀ k, k < w.heap.size → some k ≠ (Value.slice A l.length cap).ownBlock → w'.heap[k]? = w.heap[k]? := by
  have hm0 : (0 : Int) ≤ l.length := by omega
  have hcap : (l.length : Int) ≤ cap := by omega
  obtain ⟨A1, hcut, -⟩ := cut_from (P := Try.prog) 24 69 .i64 3 Try.underlying24 size69 A l.length cap l.length (Nat.le_refl _)
  have HO := Hd.mk HO
  have HY : Hd (Fp (fun W => fls.C W (some ⟨gv, 0, none⟩) [x]) w (fun k => okx k ∨ k = gv)) := ⟨fun W' hW => ⟨by simp, fun _ => ⟨_, rfl, fun i y hy => by
    rcases i with _ | i
    · have e : x = y := by simpa using hy
      subst e
      refine ⟨cx, HX W' (fun k hk => hW k (.inl hk)), fun j u hu => ?_⟩
      have h := hW gv (.inr rfl) HV.lt
      have HV' : Blk W' gv 69 cx.toArray := h.trans HV
      rw [Nat.zero_mul, Nat.zero_add, Kd.add_plain]
      exact HV'.cell j (by simpa using hu)
    · simp at hy⟩⟩⟩
  have Hne : Hd (∀ k, okx k ∨ k = gv → k < w.heap.size → some k ≠ (Value.slice A l.length cap).ownBlock) := ⟨fun k hk hlt h => by
    rcases hk with hk | hk
    · exact hne k hk hlt h
    · exact hgv (hk ▸ h)⟩
  clear HV hgv HX hne
  go_enter Try.func49, Try.ntmps49
  go_wp2_with (at_builtin; refine Kd.Own.appendRow (w0 := w) rfl (.tmp 23) (.tmp 24) 24 (.agg #[(.int .i64 0), (.int .i64 0), (.slice none 0 0)]) 40 rfl Try.underlying24 info69 rfl (by decide) rfl rfl HO.out HY.out rfl ?h1 ?h2 ?h3 ?h4 ?_; (case h1 => exact Hne.out); (case h2 => exact Below.refl _ _); (case h3 => exact hb); (case h4 => omega); intro v1 w2 hown hb2 hg2 hat; have HO2 := Hd.mk hown; have HB2 := Hd.mk hb2; have HK2 := Hd.mk hg2.block; have HA2 := Hd.mk hat; clear hown hb2 hg2 hat)
  go_ret
  exact ⟨_, rfl, HO2.out, HB2.out, HA2.out, HK2.out⟩

/-- The row that an insertion leaves. -/
theorem ins_row {w w' : World} {l : List Fl} {x : Fl} {cx inner : List Value} {i g g' cap' : Nat} {cur' : Array Value} {base : Nat} {ok okx : Nat → Prop} (hi : i ≤ l.length)
    (hs : fls.Segs w (fun k => ok k ∧ k ≠ g) inner l) (HX : Fp (fun W => fls.K W x cx) w okx) (hne : ∀ k, okx k → k < w.heap.size → k ≠ g)
    (hm : ∀ k, k < w.heap.size → k ≠ g → w'.heap[k]? = w.heap[k]?) (hg' : g' = g ∨ w.heap.size ≤ g') (hbg : base ≤ g') (hb : w'.heap[g']? = some (.cells cur' 69 (0, 0))) (hc : l.length + 1 ≤ cap') (hcm : cap' ≤ maxLen)
    (hsz : cur'.size = cap' * 3) (hin : cur'.toList.take ((l.length + 1) * 3) = inner.take (i * 3) ++ (cx ++ inner.drop (i * 3))) :
    fls.Own 69 w' base (fun k => ok k ∨ okx k) (.slice (some ⟨g', 0, none⟩) (l.length + 1) cap') (l.take i ++ x :: l.drop i) := by
  have h1 : fls.Segs w (fun k => (ok k ∨ okx k) ∧ k ≠ g ∧ k < w.heap.size) (inner.take (i * 3) ++ (cx ++ inner.drop (i * 3))) (l.take i ++ x :: l.drop i) :=
    Kd.Segs.insert (hs.bound.mono (fun k hk => ⟨.inl hk.1.1, hk.1.2, hk.2⟩)) (HX.bound.mono (fun k hk => ⟨.inr hk.1, hne k hk.1 hk.2, hk.2⟩)) i
  have h2 := h1.step (W1 := w') (fun k hk hlt => hm k hlt hk.2.1)
  have hlen : (l.take i ++ x :: l.drop i).length = l.length + 1 := by simp; omega
  refine Kd.Own.of_segs (inner := inner.take (i * 3) ++ (cx ++ inner.drop (i * 3))) ⟨?_, .inr ⟨g', cap', cur', by rw [hlen], hbg, hb, by rw [hlen]; exact hc, hcm, hsz, by rw [hlen]; exact hin⟩⟩ (h2.mono (fun k hk => ⟨hk.1, ?_⟩))
  · rw [h1.1]
  · intro h
    injection h with h
    have h' : k = g' := h
    rcases hg' with hg' | hg'
    · exact hk.2.1 (by rw [h']; exact hg')
    · have := hk.2.2; omega

set_option maxRecDepth 100000 in
theorem insert_room (l : List Fl) (x : Fl) (i g cap gv : Nat) (cx inner : List Value) (cur : Array Value) (w : World) (base : Nat) (ok okx : Nat → Prop)
    (hbg : base ≤ g) (hb : base ≤ w.heap.size) (hg : w.heap[g]? = some (.cells cur 69 (0, 0))) (hnc : l.length + 1 ≤ cap) (hcm : cap ≤ maxLen) (hcs : cur.size = cap * 3) (hin : cur.toList.take (l.length * 3) = inner)
    (hs : fls.Segs w (fun k => ok k ∧ k ≠ g) inner l) (hi : i < l.length)
    (HV : Blk w gv 69 cx.toArray) (hgv : gv ≠ g) (HX : Fp (fun W => fls.K W x cx) w okx) (hne : ∀ k, okx k → k < w.heap.size → k ≠ g) (hlen : l.length ≤ 4096) :
    Calls Try.prog 49 #[.slice (some ⟨g, 0, none⟩) l.length cap, .int .i64 i, .slice (some ⟨gv, 0, none⟩) 1 1] w fun e w' =>
      ∃ v', e = .returned v' ∧ fls.Own 69 w' base (fun k => ok k ∨ okx k) v' (l.take i ++ x :: l.drop i) ∧ Below base w w' ∧ (v'.ownBlock = some g ∨ ∃ b, v'.ownBlock = some b ∧ w.heap.size ≤ b) ∧ ∀ k, k < w.heap.size → k ≠ g → w'.heap[k]? = w.heap[k]? := by
  have hm0 : (0 : Int) ≤ l.length := by omega
  have hm1 : (i : Int) < l.length := by omega
  have hib : ((i : Int) == l.length) = false := by simp; omega
  have hcap : (l.length : Int) + 1 ≤ cap := by omega
  have hw1 : IntKind.i64.wrap ((l.length : Int) + 1) = (l.length : Int) + 1 := IntWalk.i64_in _ (by omega)
  have hw2 : IntKind.i64.wrap ((i : Int) + 1) = (i : Int) + 1 := IntWalk.i64_in _ (by omega)
  have hmin : (l.length - i) = Nat.min (l.length + 1 - i) (l.length - i) := by simp only [Nat.min_def]; split <;> omega
  have hmin1 : 1 = Nat.min 1 (l.length + 1 - i) := by simp only [Nat.min_def]; split <;> omega
  have hil : inner.length = l.length * 3 := hs.1
  have hcl : cur.toList.length = cap * 3 := by rw [Array.length_toList, hcs]
  have hdl : (inner.drop (i * 3)).length = (l.length - i) * 3 := by rw [List.length_drop, hil]; omega
  have hxl : cx.length = 3 := fls.len HX.now
  have hone := hs.one_cells
  have hsz : ∀ w, (Go.sizeOf 69).run Try.prog w = .ok 3 w := fun w => by
    obtain ⟨i0, hq, h5⟩ := Option.map_eq_some_iff.1 size69
    simp [sizeOf, typeInfo, hq, h5]
  have hov : ∀ lb cb, (callFunc 51 #[.slice (some ⟨gv, 0, none⟩) 1 1, .slice (some ⟨g, (i + 1) * 3, none⟩) lb cb]).run Try.prog w = .ok (.value (.bool false)) w := fun lb cb => by
    rw [run_callFunc_extern Try.func51 (by kernel_rfl) (by kernel_rfl) (by kernel_rfl) (e := Extern.SlicesOverlaps.overlaps #[24, 24] #[4]) (by kernel_rfl),
      Lib.run_overlaps_apart w 24 4 69 Try.underlying24 3 hsz ⟨gv, 0, none⟩ ⟨g, (i + 1) * 3, none⟩ 1 1 lb cb hgv 69 69 cx.toArray.size cur.size (by have h : w.heap[gv]? = some (.cells cx.toArray 69 (0, 0)) := HV; show w.shape? gv = _; simp only [World.shape?, h]) (by show w.shape? g = _; simp only [World.shape?, hg]) (by omega) (HV.frozen 0) (HV.frozen _)]
    rfl
  obtain ⟨L, hL⟩ : ∃ L, L = cur.toList := ⟨_, rfl⟩
  have hcp1 : ∀ ty dc sc, (Builtin.copy_ #[24, 24] ty #[.slice (some ⟨g, (i + 1) * 3, none⟩) (l.length - i) dc, .slice (some ⟨g, i * 3, none⟩) (l.length + 1 - i) sc]).run Try.prog w.drew = .ok (goInt ((l.length - i : Nat) : Int)) (w.drew.setRow g (L.take ((i + 1) * 3) ++ inner.drop (i * 3) ++ L.drop ((i + 1) * 3 + (inner.drop (i * 3)).length)).toArray) := fun ty dc sc => by
    rw [hL]
    exact run_copy_cells w.drew 24 24 ty 69 3 g ((i + 1) * 3) (l.length - i) dc ⟨g, i * 3, none⟩ (l.length + 1 - i) sc (l.length - i) cur 69 (inner.drop (i * 3)) Try.underlying24 size69 hg hmin hdl
      (fun j v hj => by
        rw [List.getElem?_drop] at hj
        have h2 : cur.toList[i * 3 + j]? = some v := by
          rw [← hin, List.getElem?_take] at hj
          split at hj
          · exact hj
          · cases hj
        rw [add_lit]
        exact cell_row (w := w) hg h2)
      (by rw [hdl, hcs]; have := Nat.mul_le_mul_right 3 hnc; omega) (fun v hv => hone v (List.mem_of_mem_drop hv))
  obtain ⟨C1, hC1⟩ : ∃ C1, C1 = L.take ((i + 1) * 3) ++ inner.drop (i * 3) ++ L.drop ((i + 1) * 3 + (inner.drop (i * 3)).length) := ⟨_, rfl⟩
  have hLl : L.length = cap * 3 := by rw [hL, hcl]
  have hC1l : C1.length = cap * 3 := by
    rw [hC1]
    simp only [List.length_append, List.length_take, List.length_drop, hLl, hil]
    have := Nat.mul_le_mul_right 3 hnc
    omega
  rw [← hC1] at hcp1
  have hg1 : (w.drew.setRow g C1.toArray).heap[g]? = some (.cells C1.toArray 69 (0, 0)) := setRow_heap w.drew g cur C1.toArray 69 (0, 0) hg
  have hcp2 : ∀ ty dc, (Builtin.copy_ #[24, 24] ty #[.slice (some ⟨g, i * 3, none⟩) (l.length + 1 - i) dc, .slice (some ⟨gv, 0, none⟩) 1 1]).run Try.prog (w.drew.setRow g C1.toArray) = .ok (goInt ((1 : Nat) : Int)) ((w.drew.setRow g C1.toArray).setRow g (C1.take (i * 3) ++ cx ++ C1.drop (i * 3 + cx.length)).toArray) := fun ty dc => by
    have h := run_copy_cells (P := Try.prog) (w.drew.setRow g C1.toArray) 24 24 ty 69 3 g (i * 3) (l.length + 1 - i) dc ⟨gv, 0, none⟩ 1 1 1 C1.toArray 69 cx Try.underlying24 size69 hg1 hmin1 (by rw [hxl])
      (fun j v hj => by
        have hb : (w.drew.setRow g C1.toArray).heap[gv]? = w.heap[gv]? := setRow_other w.drew g gv _ hgv
        have hV : w.heap[gv]? = some (.cells cx.toArray 69 (0, 0)) := HV
        rw [Kd.add_plain]
        exact cell_row (hb.trans hV) (by simpa using hj))
      (by rw [List.size_toArray, hC1l, hxl]; have := Nat.mul_le_mul_right 3 hnc; omega) (fls.one HX.now)
    simpa using h
  obtain ⟨W1, hW1⟩ : ∃ W1, W1 = w.drew.setRow g C1.toArray := ⟨_, rfl⟩
  obtain ⟨W2, hW2⟩ : ∃ W2, W2 = W1.setRow g (C1.take (i * 3) ++ cx ++ C1.drop (i * 3 + cx.length)).toArray := ⟨_, rfl⟩
  rw [← hW1] at hcp1 hcp2 hg1
  rw [← hW2] at hcp2
  have HF : Hd (fls.Own 69 W2 base (fun k => ok k ∨ okx k) (.slice (some ⟨g, 0, none⟩) (l.length + 1) cap) (l.take i ++ x :: l.drop i)) := ⟨by
    have hg2 : W2.heap[g]? = some (.cells (C1.take (i * 3) ++ cx ++ C1.drop (i * 3 + cx.length)).toArray 69 (0, 0)) := by rw [hW2]; exact setRow_heap W1 g C1.toArray _ 69 (0, 0) hg1
    refine ins_row (g := g) (cur' := (C1.take (i * 3) ++ cx ++ C1.drop (i * 3 + cx.length)).toArray) (by omega) hs HX hne (fun k _ hk => ?_) (.inl rfl) hbg hg2 hnc hcm ?_ ?_
    · rw [hW2, setRow_other W1 g k _ hk, hW1]
      exact setRow_other w.drew g k _ hk
    · simp only [List.size_toArray, List.length_append, List.length_take, List.length_drop, hC1l, hxl]
      have := Nat.mul_le_mul_right 3 hnc
      omega
    · have hLi : L.take (i * 3) = inner.take (i * 3) := by rw [hL, ← hin, List.take_take, Nat.min_eq_left (by omega)]
      have h1 : C1.take (i * 3) = inner.take (i * 3) := by
        rw [hC1, List.append_assoc, List.take_append_of_le_length (by rw [List.length_take, hLl]; have := Nat.mul_le_mul_right 3 hnc; omega), List.take_take, Nat.min_eq_left (by omega), hLi]
      have h2 : (C1.drop (i * 3 + cx.length)).take (inner.drop (i * 3)).length = inner.drop (i * 3) := by
        have h0 : (List.take ((i + 1) * 3) L).length = i * 3 + 3 := by rw [List.length_take, hLl]; have := Nat.mul_le_mul_right 3 hnc; omega
        rw [hC1, hxl, List.append_assoc, ← h0, List.drop_left, List.take_append_of_le_length (Nat.le_refl _), List.take_length]
      show List.take _ (C1.take (i * 3) ++ cx ++ C1.drop (i * 3 + cx.length)) = _
      rw [h1, List.append_assoc, show (l.length + 1) * 3 = (inner.take (i * 3)).length + (cx.length + (inner.drop (i * 3)).length) by rw [List.length_take, hxl, hdl, hil]; omega, List.take_length_add_append, List.take_length_add_append, h2]⟩
  have HB : Hd (Below base w W2) := ⟨by
    rw [hW2, hW1]
    exact below_setRow (below_setRow (Below.drew (Below.refl _ _)) hbg _) hbg _⟩
  have HK : Hd (∀ k, k < w.heap.size → k ≠ g → W2.heap[k]? = w.heap[k]?) := ⟨fun k _ hk => by
    rw [hW2, setRow_other W1 g k _ hk, hW1]
    exact setRow_other w.drew g k _ hk⟩
  clear hW1 hW2 hC1 hC1l hLl hL hin hmin hmin1 hil hcl hdl hxl hone hsz hg1 hg hs HV HX hne hcs
  have hib2 : ¬ (cap = i) := by omega
  have hib3 : ¬ (cap = i + 1) := by omega
  have hib5 : (0 : Int) ≤ (i : Int) + 1 := by omega
  have hib6 : ((i : Int) + 1).toNat = i + 1 := by omega
  have hib7 : (i : Int) + 1 ≤ (l.length : Int) + 1 := by omega
  have hib8 : l.length + 1 - (i + 1) = l.length - i := by omega
  have hib4 : (i : Int) ≤ (l.length : Int) + 1 := by omega
  go_enter Try.func49, Try.ntmps49
  go_wp2_with (simp only [hov])
  go_region_law (refine step_two_run .copy Builtin.copy_ (fun _ _ _ _ => rfl) rfl _ _ 24 24 rfl _ _ (by simp [Act.eval, Act.put]) (by simp [Act.eval, Act.put]) (hcp1 _ _ _) ?_)
  go_wp2_with (at_builtin; refine wpList_two_run .copy Builtin.copy_ (fun _ _ _ _ => rfl) rfl _ _ 24 24 rfl _ _ rfl rfl (hcp2 _ _) ?_)
  go_ret
  exact ⟨_, rfl, HF.out, HB.out, .inl rfl, HK.out⟩

set_option maxRecDepth 100000 in
theorem insert_grow (l : List Fl) (x : Fl) (i g gv : Nat) (cx inner : List Value) (cur : Array Value) (w : World) (base : Nat) (ok okx : Nat → Prop)
    (hbg : base ≤ g) (hb : base ≤ w.heap.size) (hg : w.heap[g]? = some (.cells cur 69 (0, 0))) (hcs : cur.size = l.length * 3) (hin : cur.toList.take (l.length * 3) = inner)
    (hs : fls.Segs w (fun k => ok k ∧ k ≠ g) inner l) (hi : i < l.length)
    (HV : Blk w gv 69 cx.toArray) (hgv : gv ≠ g) (HX : Fp (fun W => fls.K W x cx) w okx) (hne : ∀ k, okx k → k < w.heap.size → k ≠ g) (hlen : l.length ≤ 4096) :
    Calls Try.prog 49 #[.slice (some ⟨g, 0, none⟩) l.length l.length, .int .i64 i, .slice (some ⟨gv, 0, none⟩) 1 1] w fun e w' =>
      ∃ v', e = .returned v' ∧ fls.Own 69 w' base (fun k => ok k ∨ okx k) v' (l.take i ++ x :: l.drop i) ∧ Below base w w' ∧ (v'.ownBlock = some g ∨ ∃ b, v'.ownBlock = some b ∧ w.heap.size ≤ b) ∧ ∀ k, k < w.heap.size → k ≠ g → w'.heap[k]? = w.heap[k]? := by
  have hglt : g < w.heap.size := (Array.getElem?_eq_some_iff.1 hg).1
  have hil : inner.length = l.length * 3 := hs.1
  have hci : cur.toList = inner := by rw [← hin, List.take_of_length_le (by rw [Array.length_toList, hcs]; exact Nat.le_refl _)]
  have hdl : (inner.drop (i * 3)).length = (l.length - i) * 3 := by rw [List.length_drop, hil]; omega
  have htl : (inner.take (i * 3)).length = i * 3 := by rw [List.length_take, hil]; omega
  have hxl : cx.length = 3 := fls.len HX.now
  have hone := hs.one_cells
  obtain ⟨i0, hq, hzz⟩ := Option.map_eq_some_iff.1 info69
  simp only [Prod.mk.injEq] at hzz
  obtain ⟨hz0, hz1, hz2⟩ := hzz
  obtain ⟨cap', hcap'⟩ : ∃ c, c = grownCap w (l.length + 1) l.length 69 := ⟨_, rfl⟩
  have hge : l.length + 1 ≤ cap' := by rw [hcap']; exact grownCap_ge w _ _ _
  have hcm : cap' ≤ maxLen := by rw [hcap']; exact grownCap_le_maxLen w _ _ _ (by simp only [maxLen]; omega)
  obtain ⟨R0, hR0⟩ : ∃ R0 : List Value, R0 = ((inner.take (i * 3)).toArray ++ Builtin.zeroCells (Value.agg #[(.int .i64 0), (.int .i64 0), (.slice none 0 0)]).cells (l.length + 1 - i) ++ Builtin.zeroCells (Value.agg #[(.int .i64 0), (.int .i64 0), (.slice none 0 0)]).cells (cap' - (l.length + 1))).toList := ⟨_, rfl⟩
  have hR0l : R0.length = cap' * 3 := by
    rw [hR0]
    simp only [Array.length_toList, Array.size_append, List.size_toArray, size_zeroCells, htl]
    show i * 3 + (l.length + 1 - i) * 3 + (cap' - (l.length + 1)) * 3 = _
    omega
  have hR0t : R0.take (i * 3) = inner.take (i * 3) := by
    rw [hR0]
    simp only [Array.toList_append, List.append_assoc]
    rw [List.take_append_of_le_length (by simp only [htl]; exact Nat.le_refl _), List.take_of_length_le (by simp only [htl]; exact Nat.le_refl _)]
  obtain ⟨W0, hW0⟩ : ∃ W0, W0 = w.drew.alloc (.cells R0.toArray 69) := ⟨_, rfl⟩
  have hrun : ∀ ty, (Builtin.append_ #[24, 3] ty #[.slice (some ⟨g, 0, none⟩) i l.length, .int .i64 ((l.length : Int) + 1 - i)]).run Try.prog w = .ok (.slice (some ⟨w.heap.size, 0, none⟩) (l.length + 1) cap') W0 := fun ty => by
    have h := run_append_zeros_grow (P := Try.prog) w 24 3 ty 69 i0 _ 3 40 Try.underlying24 Try.underlying3 hq hz0 hz1 hz2 rfl (by decide) ⟨g, 0, none⟩ i l.length (inner.take (i * 3)) htl
      (fun j u hu => by
        rw [Kd.add_plain]
        refine cell_row hg ?_
        rw [hci]
        rw [List.getElem?_take] at hu
        split at hu
        · exact hu
        · cases hu) .i64 (l.length + 1 - i) (by omega) (by omega) (by omega) (by decide)
    rw [show i + (l.length + 1 - i) = l.length + 1 by omega, ← hcap'] at h
    rw [show ((l.length : Int) + 1 - i) = ((l.length + 1 - i : Nat) : Int) by omega, h, hW0, hR0]
  have hg0 : W0.heap[w.heap.size]? = some (.cells R0.toArray 69 (0, 0)) := by rw [hW0]; exact heap_alloc_new w.drew _
  have hold : ∀ k, k < w.heap.size → W0.heap[k]? = w.heap[k]? := fun k hk => by rw [hW0]; exact heap_alloc_old w.drew _ hk
  have hmin1 : 1 = Nat.min 1 (l.length + 1 - i) := by simp only [Nat.min_def]; split <;> omega
  obtain ⟨R1, hR1⟩ : ∃ R1, R1 = R0.take (i * 3) ++ cx ++ R0.drop (i * 3 + cx.length) := ⟨_, rfl⟩
  have hR1l : R1.length = cap' * 3 := by
    rw [hR1]
    simp only [List.length_append, List.length_take, List.length_drop, hR0l, hxl]
    have := Nat.mul_le_mul_right 3 hge
    omega
  have hR1t : R1.take ((i + 1) * 3) = inner.take (i * 3) ++ cx := by
    rw [hR1, hR0t, List.take_append_of_le_length (by rw [List.length_append, htl, hxl]; omega), List.take_of_length_le (by rw [List.length_append, htl, hxl]; omega)]
  obtain ⟨W1, hW1⟩ : ∃ W1, W1 = W0.setRow w.heap.size R1.toArray := ⟨_, rfl⟩
  have hcp1 : ∀ ty dc, (Builtin.copy_ #[24, 24] ty #[.slice (some ⟨w.heap.size, i * 3, none⟩) (l.length + 1 - i) dc, .slice (some ⟨gv, 0, none⟩) 1 1]).run Try.prog W0 = .ok (goInt ((1 : Nat) : Int)) W1 := fun ty dc => by
    have h := run_copy_cells (P := Try.prog) W0 24 24 ty 69 3 w.heap.size (i * 3) (l.length + 1 - i) dc ⟨gv, 0, none⟩ 1 1 1 R0.toArray 69 cx Try.underlying24 size69 hg0 hmin1 (by rw [hxl])
      (fun j v hj => by
        have hV : w.heap[gv]? = some (.cells cx.toArray 69 (0, 0)) := HV
        rw [Kd.add_plain]
        exact cell_row ((hold gv HV.lt).trans hV) (by simpa using hj))
      (by rw [List.size_toArray, hR0l, hxl]; have := Nat.mul_le_mul_right 3 hge; omega) (fls.one HX.now)
    rw [h, hW1, hR1]
  have hg1 : W1.heap[w.heap.size]? = some (.cells R1.toArray 69 (0, 0)) := by rw [hW1]; exact setRow_heap W0 w.heap.size R0.toArray R1.toArray 69 (0, 0) hg0
  have hold1 : ∀ k, k < w.heap.size → W1.heap[k]? = w.heap[k]? := fun k hk => by rw [hW1, setRow_other W0 w.heap.size k _ (by omega)]; exact hold k hk
  obtain ⟨R2, hR2⟩ : ∃ R2, R2 = R1.take ((i + 1) * 3) ++ inner.drop (i * 3) ++ R1.drop ((i + 1) * 3 + (inner.drop (i * 3)).length) := ⟨_, rfl⟩
  obtain ⟨W2, hW2⟩ : ∃ W2, W2 = W1.drew.setRow w.heap.size R2.toArray := ⟨_, rfl⟩
  have hmin2 : (l.length - i) = Nat.min (l.length - i) (l.length - i) := by simp
  have hcp2 : ∀ ty dc sc, (Builtin.copy_ #[24, 24] ty #[.slice (some ⟨w.heap.size, (i + 1) * 3, none⟩) (l.length - i) dc, .slice (some ⟨g, i * 3, none⟩) (l.length - i) sc]).run Try.prog W1.drew = .ok (goInt ((l.length - i : Nat) : Int)) W2 := fun ty dc sc => by
    have h := run_copy_cells (P := Try.prog) W1.drew 24 24 ty 69 3 w.heap.size ((i + 1) * 3) (l.length - i) dc ⟨g, i * 3, none⟩ (l.length - i) sc (l.length - i) R1.toArray 69 (inner.drop (i * 3)) Try.underlying24 size69 hg1 hmin2 hdl
      (fun j v hj => by
        rw [add_lit]
        refine cell_row (w := W1.drew) ((hold1 g hglt).trans hg) ?_
        rw [hci]
        rw [List.getElem?_drop] at hj
        exact hj)
      (by rw [List.size_toArray, hR1l, hdl]; have := Nat.mul_le_mul_right 3 hge; omega) (fun v hv => hone v (List.mem_of_mem_drop hv))
    rw [h, hW2, hR2]
  have hg2 : W2.heap[w.heap.size]? = some (.cells R2.toArray 69 (0, 0)) := by rw [hW2]; exact setRow_heap W1.drew w.heap.size R1.toArray R2.toArray 69 (0, 0) hg1
  have hold2 : ∀ k, k < w.heap.size → W2.heap[k]? = w.heap[k]? := fun k hk => by rw [hW2, setRow_other W1.drew w.heap.size k _ (by omega)]; exact hold1 k hk
  have HF : Hd (fls.Own 69 W2 base (fun k => ok k ∨ okx k) (.slice (some ⟨w.heap.size, 0, none⟩) (l.length + 1) cap') (l.take i ++ x :: l.drop i)) := ⟨by
    refine ins_row (g := g) (cur' := R2.toArray) (by omega) hs HX hne (fun k hk _ => hold2 k hk) (.inr (Nat.le_refl _)) hb hg2 hge hcm ?_ ?_
    · rw [List.size_toArray, hR2]
      simp only [List.length_append, List.length_take, List.length_drop, hR1l, hdl]
      have := Nat.mul_le_mul_right 3 hge
      omega
    · show List.take _ R2 = _
      rw [hR2, hR1t, List.take_append_of_le_length (by rw [List.length_append, List.length_append, htl, hxl, hdl]; omega), List.take_of_length_le (by rw [List.length_append, List.length_append, htl, hxl, hdl]; omega), List.append_assoc]⟩
  have HB : Hd (Below base w W2) := ⟨by
    rw [hW2, hW1, hW0]
    exact below_setRow (Below.drew (below_setRow (Below.alloc (Below.drew (Below.refl _ _)) hb _) hb _)) hb _⟩
  have HK : Hd (∀ k, k < w.heap.size → k ≠ g → W2.heap[k]? = w.heap[k]?) := ⟨fun k hk _ => hold2 k hk⟩
  have hle0 : (i : Int) ≤ (l.length : Int) := by omega
  have hic1 : ¬ (cap' = i) := by omega
  have hic2 : ¬ (cap' = i + 1) := by omega
  clear hold2 hg2 hW2 hR2 hmin2 hold1 hg1 hW1 hR1t hR1l hR1 hmin1 hold hg0 hW0 hR0t hR0l hR0 hge hcm hcap' hq hz0 hz1 hz2 hone hxl htl hdl hci hil HV HX hne hs hin hcs hg hglt
  have hm0 : (0 : Int) ≤ l.length := by omega
  have hm1 : (i : Int) < l.length := by omega
  have hib : ((i : Int) == l.length) = false := by simp; omega
  have hw1 : IntKind.i64.wrap ((l.length : Int) + 1) = (l.length : Int) + 1 := IntWalk.i64_in _ (by omega)
  have hw2 : IntKind.i64.wrap ((i : Int) + 1) = (i : Int) + 1 := IntWalk.i64_in _ (by omega)
  have hw3 : IntKind.i64.wrap ((l.length : Int) + 1 - i) = (l.length : Int) + 1 - i := IntWalk.i64_in _ (by omega)
  have hib2 : ¬ (l.length = i) := by omega
  have hib5 : (0 : Int) ≤ (i : Int) + 1 := by omega
  have hib6 : ((i : Int) + 1).toNat = i + 1 := by omega
  have hib7 : (i : Int) + 1 ≤ (l.length : Int) + 1 := by omega
  have hib8 : l.length + 1 - (i + 1) = l.length - i := by omega
  have hib4 : (i : Int) ≤ (l.length : Int) + 1 := by omega
  go_enter Try.func49, Try.ntmps49
  go_wp2_with (at_builtin; refine wpList_two_run .append Builtin.append_ (fun _ _ _ _ => rfl) rfl _ _ 24 3 rfl _ _ rfl rfl (hrun _) ?_)
  go_region_law (refine step_two_run .copy Builtin.copy_ (fun _ _ _ _ => rfl) rfl _ _ 24 24 rfl _ _ (by simp [Act.eval, Act.put]) (by simp [Act.eval, Act.put]) (hcp2 _ _ _) ?_)
  go_wp2
  go_ret
  exact ⟨_, rfl, HF.out, HB.out, .inr ⟨_, rfl, Nat.le_refl _⟩, HK.out⟩

theorem insert_calls (v : Value) (l : List Fl) (x : Fl) (i gv : Nat) (cx : List Value) (w : World) (base : Nat) (ok okx : Nat → Prop)
    (hb : base ≤ w.heap.size) (HO : fls.Own 69 w base ok v l) (hi : i ≤ l.length)
    (HV : Blk w gv 69 cx.toArray) (hgv : some gv ≠ v.ownBlock) (HX : Fp (fun W => fls.K W x cx) w okx) (hne : ∀ k, okx k → k < w.heap.size → some k ≠ v.ownBlock) (hlen : l.length ≤ 4096) :
    Calls Try.prog 49 #[v, .int .i64 i, .slice (some ⟨gv, 0, none⟩) 1 1] w fun e w' =>
      ∃ v', e = .returned v' ∧ fls.Own 69 w' base (fun k => ok k ∨ okx k ∨ k = gv) v' (l.take i ++ x :: l.drop i) ∧ Below base w w' ∧ (v'.ownBlock = v.ownBlock ∨ ∃ b, v'.ownBlock = some b ∧ w.heap.size ≤ b) ∧ ∀ k, k < w.heap.size → some k ≠ v.ownBlock → w'.heap[k]? = w.heap[k]? := by
  rcases Nat.lt_or_ge i l.length with hlt | hge
  · obtain ⟨inner, ho, hs⟩ := HO.segs
    rcases ho.2 with ⟨rfl, h0⟩ | ⟨g, cap, cur, rfl, hbg, hg, hnc, hcm, hcs, hin⟩
    · omega
    · have hs' : fls.Segs w (fun k => ok k ∧ k ≠ g) inner l := hs.mono (fun k hk => ⟨hk.1, fun h => hk.2 (by rw [h]; rfl)⟩)
      have hgv' : gv ≠ g := fun h => hgv (by rw [h]; rfl)
      have hne' : ∀ k, okx k → k < w.heap.size → k ≠ g := fun k hk hl h => hne k hk hl (by rw [h]; rfl)
      rcases Nat.lt_or_ge l.length cap with hr | hr
      · exact (insert_room l x i g cap gv cx inner cur w base ok okx hbg hb hg hr hcm hcs hin hs' hlt HV hgv' HX hne' hlen).mono (fun e w' ⟨v', he, hO, hB, hA, hK⟩ => ⟨v', he, hO.mono (fun k hk => hk.elim .inl (fun h => .inr (.inl h))), hB, hA, fun k hk h => hK k hk (fun e => h (by rw [e]; rfl))⟩)
      · obtain rfl : cap = l.length := by omega
        exact (insert_grow l x i g gv cx inner cur w base ok okx hbg hb hg hcs hin hs' hlt HV hgv' HX hne' hlen).mono (fun e w' ⟨v', he, hO, hB, hA, hK⟩ => ⟨v', he, hO.mono (fun k hk => hk.elim .inl (fun h => .inr (.inl h))), hB, hA, fun k hk h => hK k hk (fun e => h (by rw [e]; rfl))⟩)
  · obtain rfl : i = l.length := by omega
    obtain ⟨A, c, rfl, hl, -⟩ := HO.shape
    rw [List.take_length, List.drop_length]
    exact insert_end l x A c gv cx w base ok okx hb hl HO HV hgv HX hne hlen
end Go.Proofs.Ytkgkiencikmhfaa.B
