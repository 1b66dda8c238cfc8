/- What this text holds: append of one element as a step of a drawn region; the contract of the reference's Copy. -/
import Derived.Test.YtkgkiencikmhfaaG9
set_option linter.unusedVariables false
set_option linter.unusedSimpArgs false
namespace Go.Proofs.Ytkgkiencikmhfaa.B
open Go.RowKit

namespace Kd
section
variable {α : Type} {d : Kd α} {W : World} {v : Value} {xs : List α} {base e : Nat}
variable {P : Program} {ops : Array Oper} {o : Oper} {a : Act} {K : Act → World → Prop} {Q : Exit → Act → World → Prop} {E : Prop}
theorem Own.step_append1 {w0 : World} {ok okx : Nat → Prop} {y : α} {c : List Value} (hgd : o.guard = none) (s x : Operand) (t : TypeId) (z : Value) (bytes : Nat)
    (ho : o.op = .call { callee := .builtin .append, args := #[s, x], argTypes := #[t, t] })
    (ht : P.underlying t = some (.slice e)) (hinfo : (P.info? e).map (fun i => (i.zero, i.size, i.bytes)) = some (some z, d.sz, bytes)) (hz : z.cells.size = d.sz) (hb0 : 0 < bytes)
    (hs : a.eval s = v) (hx : a.eval x = .slice (some ⟨W.heap.size, 0, none⟩) 1 1)
    (HO : d.Own e W base ok v xs) (HY : Fp (fun W => d.K W y c) W okx) (hne : ∀ k, okx k → k < W.heap.size → some k ≠ v.ownBlock)
    (HB : Below base w0 W) (hbase : base ≤ W.heap.size) (hl : (xs.length + 1) * bytes ≤ 140737488355328)
    (h : ∀ v1 w1, d.Own e w1 base (fun k => ok k ∨ okx k) v1 (xs ++ [y]) → Below base w0 w1 → W.grownBy w1 v.ownBlock → (v1.ownBlock = v.ownBlock ∨ ∃ b, v1.ownBlock = some b ∧ W.heap.size ≤ b) → K (a.put o.dst v1) w1) :
    if Region.wanted o (yielded ops a.tmps) = true then Oper.wp P o a (W.alloc (.cells c.toArray e)) K Q else E := by
  have hw : Region.wanted o (yielded ops a.tmps) = true := by simp [Region.wanted, hgd]
  rw [if_pos hw]
  obtain ⟨i0, hi, hzz⟩ := Option.map_eq_some_iff.1 hinfo
  simp only [Prod.mk.injEq] at hzz
  obtain ⟨hz0, hz1, hz2⟩ := hzz
  have hlen : xs.length + 1 ≤ 140737488355328 := Nat.le_trans (Nat.le_mul_of_pos_right _ hb0) hl
  have hb := HO.blk
  obtain ⟨inner, ho', hx'⟩ := HO
  have hcl := d.len HY.now
  obtain ⟨v1, w1, hr, hown, hg, _, hat⟩ := run_append_own_at (P := P) (W.alloc (.cells c.toArray e)) base t o.type e i0 z d.sz bytes ht hi hz0 hz1 hz2 hz d.pos v xs.length inner (ho'.alloc _) ⟨W.heap.size, 0, none⟩ 1 1 c (by rw [hcl]; simp)
    (by simpa using World.news_of_block (cs := c.toArray) (t := e) (fr := (0, 0)) (heap_alloc_new W (.cells c.toArray e))) (d.one HY.now) (by simp only [maxLen]; omega) hl (by simp; omega)
  unfold Oper.wp execOp
  simp only [ho, resolve, invoke, builtin, Sem.run_bind, Sem.run_pure, Result.andThen_ok, List.map_toArray, List.map_cons, List.map_nil, hs, hx, hr]
  have hg2 : W.grownBy w1 v.ownBlock := World.grownBy.trans (World.grownBy_alloc W _ _) hg
  have hat2 : v1.ownBlock = v.ownBlock ∨ ∃ b, v1.ownBlock = some b ∧ W.heap.size ≤ b := by
    rcases hat with hat | hat
    · exact .inl hat
    · exact .inr ⟨_, hat, by simp⟩
  refine h v1 w1 (Own.appended (ys := [y]) ho' hx' (by simpa using hown) hg2 hat2 (by simpa using hcl) (fun i y' hy => ?_) hne) ((HB.alloc hbase _).grown hg (by simp; omega) (fun k hk => (hb k hk).1)) hg2 hat2
  rcases i with _ | i
  · have e : y = y' := by simpa using hy
    subst e
    simp only [Nat.zero_mul, List.drop_zero]
    rw [← hcl, List.take_length]
    exact HY
  · simp at hy
end
end Kd


set_option maxRecDepth 100000 in
set_option maxHeartbeats 4000000 in
theorem refCopy_calls (mn mx rt : Int) (dn : Bool) (idle next : Int) (A : Option Addr) (c : Nat) (l : List Fl) (w : World) (hr : fls.C w A l) (hc : l.length ≤ c) (hs : Small l) :
    Calls Try.prog 43 #[.agg #[.int .i64 mn, .int .i64 mx, .int .i64 rt, .bool dn, .int .i64 idle, .int .i64 next, .slice A l.length c]] w fun e w' =>
      ∃ v, e = .returned (.agg #[.int .i64 mn, .int .i64 mx, .int .i64 rt, .bool dn, .int .i64 idle, .int .i64 next, v]) ∧ fls.Own 69 w' w.heap.size (fun k => w.heap.size ≤ k) v l ∧ Below w.heap.size w w' := by
  have hu26 := Try.underlying26
  have hu69 := Try.underlying69
  have HR := Hd.mk hr
  have HS := Hd.mk hs
  have hm := hs.1
  clear hr hs
  go_enter Try.func43, Try.ntmps43
  go_wp2
  go_loopw [3, 4] (fun v ui wr => ∃ k, k ≤ l.length ∧ ui = .int .i64 (k : Nat) ∧ Hd (Blk wr w.heap.size 26 #[.int .i64 mn, .int .i64 mx, .int .i64 rt, .bool dn, .int .i64 idle, .int .i64 next, .slice A l.length c]) ∧ Hd (Blk wr (w.heap.size + 1) 26 #[.int .i64 0, .int .i64 0, .int .i64 0, .bool false, .int .i64 0, .int .i64 0, .slice none 0 0]) ∧
    Hd (fls.Own 69 wr (w.heap.size + 2) (fun j => w.heap.size + 2 ≤ j) v (l.take k)) ∧ Hd (Below w.heap.size w wr)) (fun _ ui _ => l.length - (intOf ui).toNat)
  case atStart =>
    have b0 := (Blk.new w 26 #[.int .i64 mn, .int .i64 mx, .int .i64 rt, .bool dn, .int .i64 idle, .int .i64 next, .slice A l.length c]).alloc (.cells #[.int .i64 0, .int .i64 0, .int .i64 0, .bool false, .int .i64 0, .int .i64 0, .slice none 0 0] 26)
    have b1 := Blk.new (w.alloc (.cells #[.int .i64 mn, .int .i64 mx, .int .i64 rt, .bool dn, .int .i64 idle, .int .i64 next, .slice A l.length c] 26)) 26 #[.int .i64 0, .int .i64 0, .int .i64 0, .bool false, .int .i64 0, .int .i64 0, .slice none 0 0]
    rw [World.size_alloc] at b1
    exact ⟨0, Nat.zero_le _, rfl, ⟨b0⟩, ⟨b1⟩, ⟨Kd.Own.nil⟩, ⟨by go_grown⟩⟩
  case round =>
    obtain ⟨k, hk, rfl, HQ, HP, HO, HB⟩ := hrel
    have hplt := HP.out.lt
    by_cases hlt : k < l.length
    · obtain ⟨ad, A4, c4, ea, x0, x1, x2, hx5, hx6⟩ := fls_get (HR.out.below HB.out) k hlt
      obtain ⟨ad', _, _, ea', y0, -, -, -, -⟩ := fls_get HR.out k hlt
      cases ea
      cases ea'
      have hblk0 := World.block_lt_of_cell? _ _ y0
      have hblk : (ad.add (k * 3)).block < w.heap.size := hblk0
      clear y0 hblk0
      have hxl : (nth fl0 l k).body.length ≤ 65536 := HS.out.2 _ (nth_mem fl0 l k hlt)
      have htk := take_nth fl0 l k hlt
      obtain ⟨x, hx⟩ : ∃ x, x = nth fl0 l k := ⟨_, rfl⟩
      rw [← hx] at x0 x1 x2 hx5 hx6 hxl htk
      clear hx
      rcases x with ⟨xt, xn, xb⟩
      dsimp only at x0 x1 x2 hx5 hx6 hxl
      have HTK := Hd.mk htk
      obtain ⟨M, hM⟩ : ∃ M, M = l.take k := ⟨_, rfl⟩
      have hMl : M.length = k := by rw [hM, List.length_take]; omega
      have HM := Hd.mk hM
      rw [← hM] at HO
      clear htk hM
      obtain ⟨A3, c3, rfl, -, -⟩ := HO.out.shape
      obtain ⟨q0, q1, q2, q3, q4, q5, q6, -, -, -, -, -, -, -⟩ := HQ.out.f7
      have K1 : Hd (Calls Try.prog 46 #[.slice A4 xb.length c4] wr.drew fun e w' => ∃ v, e = .returned v ∧ (ints .u8).Own 5 w' wr.drew.heap.size (fun _ => False) v xb ∧ Below wr.drew.heap.size wr.drew w') := ⟨refCopied_calls A4 c4 xb wr.drew (by exact hx6) hx5 (by omega)⟩
      have hkl : (k : Int) < l.length := by omega
      have HML := Hd.mk hMl
      clear hx5 hx6 hMl
      go_wp2_with fail
      go_region_held3 (fun W => W.cell? ⟨w.heap.size, 6, none⟩ = some (.slice (some ad) l.length c) ∧ W.cell? (ad.add (k * 3)) = some (.int .i64 xt) ∧ W.cell? ⟨(ad.add (k * 3)).block, (ad.add (k * 3)).off + 1, none⟩ = some (.int .i64 xn) ∧ W.cell? ⟨(ad.add (k * 3)).block, (ad.add (k * 3)).off + 2, none⟩ = some (.slice A4 xb.length c4))
        (first | with_reducible exact ⟨q6, x0, x1, x2⟩ | with_reducible exact ⟨keepD q6, keepD x0, keepD x1, keepD x2⟩ | with_reducible exact ⟨q6', x0', x1', x2'⟩ | with_reducible exact ⟨keepA q6' _, keepA x0' _, keepA x1' _, keepA x2' _⟩ | with_reducible exact ⟨q6'', x0'', x1'', x2''⟩)
        (first
          | (go_at_call 46; refine (K1.out).mono ?_; rintro e w7 ⟨v7, rfl, hown, hb⟩; obtain ⟨A7, c7, rfl, -, -⟩ := hown.shape; have q6' := keep hb (by exact q6); have x0' := keep hb (by exact x0); have x1' := keep hb (by exact x1); have x2' := keep hb (by exact x2); have HO7 := Hd.mk (HO.out.drew.below hb); have HF7 := Hd.mk (fl_fp (x := ⟨xt, xn, xb⟩) hown); have HB7 : Hd (Below wr.heap.size wr w7) := ⟨(Below.drew (Below.refl _ _)).trans hb⟩; have hs7 := HB7.out.size; clear hown hb)
          | (refine Kd.Own.step_append1 (w0 := wr) rfl (.tmp 12) (.tmp 33) 24 (.agg #[(.int .i64 0), (.int .i64 0), (.slice none 0 0)]) 40 rfl Try.underlying24 info69 rfl (by decide) rfl rfl HO7.out HF7.out ?h1 (HB7.out.mono (by omega)) ?h2 ?h3 ?_; (case h1 => exact fun j hj _ h => by have := (HO.out.blk j h.symm).2; have h3 : wr.heap.size ≤ j := hj.1; omega); (case h2 => omega); (case h3 => rw [HML.out]; omega); intro v1 w8 hown hb2 hg hat; have q6'' := (cell_of_same (hg.block _ (World.block_lt_of_cell? _ _ q6') (fun h => by have h8 := (HO7.out.blk _ h.symm).1; have h9 := hplt; (try dsimp only at h8 h9); omega))).trans q6'; have x0'' := (cell_of_same (hg.block _ (World.block_lt_of_cell? _ _ x0') (fun h => by have h8 := (HO7.out.blk _ h.symm).1; have h9 := hblk; (try dsimp only at h8 h9); omega))).trans x0'; have x1'' := (cell_of_same (hg.block _ (World.block_lt_of_cell? _ _ x1') (fun h => by have h8 := (HO7.out.blk _ h.symm).1; have h9 := hblk; (try dsimp only at h8 h9); omega))).trans x1'; have x2'' := (cell_of_same (hg.block _ (World.block_lt_of_cell? _ _ x2') (fun h => by have h8 := (HO7.out.blk _ h.symm).1; have h9 := hblk; (try dsimp only at h8 h9); omega))).trans x2'; have HO8 := Hd.mk hown; have HB8 := Hd.mk hb2; have HG8 := Hd.mk hg; clear hown hb2 hg hat))
      all_goals
        have HQ8 := Hd.mk (HQ.out.belowB HB8.out (by omega))
        have HP8 := Hd.mk (HP.out.belowB HB8.out (by omega))
        have HBx := Hd.mk (HB.out.trans (HB8.out.mono (by omega)))
        have hap : M ++ [(⟨xt, xn, xb⟩ : Fl)] = l.take (k + 1) := by rw [HM.out, HTK.out]
        rw [hap] at HO8
        clear K1 q0 q1 q2 q3 q4 q5 q6 x0 x1 x2 q6' x0' x1' x2' q6'' x0'' x1'' x2'' HM HTK hap
        go_wp2
        go_roundw
        case rel =>
          exact ⟨k + 1, by omega, by go_num, HQ8, HP8, ⟨HO8.out.mono (fun j hj => by
            rcases hj with hj | hj
            · exact hj
            · have h3 : wr.heap.size ≤ j := hj.1
              omega)⟩, HBx⟩
        case measure => simp [intOf]; omega
    · have hkl : k = l.length := by omega
      subst hkl
      rw [List.take_length] at HO
      obtain ⟨A3, c3, rfl, -, -⟩ := HO.out.shape
      obtain ⟨q0, q1, q2, q3, q4, q5, q6, q7, q8, q9, q10, q11, q12, q13⟩ := HQ.out.f7
      obtain ⟨p0, p1, p2, p3, p4, p5, p6, p7, p8, p9, p10, p11, p12, p13⟩ := HP.out.f7
      clear hplt
      go_wp2
      refine bodyPost_ret (v := .agg #[.int .i64 mn, .int .i64 mx, .int .i64 rt, .bool dn, .int .i64 idle, .int .i64 next, .slice A3 l.length c3]) (by simp [results, Try.results43, go_sem, p0, p1, p2, p3, p4, p5, p6]) rfl ⟨_, rfl, ?_, ?_⟩
      · have hv := HO.out
        refine (Kd.Own.lower (base := w.heap.size + 2) ?_ (by omega)).mono (ok := fun j => w.heap.size + 2 ≤ j) (fun j hj => by omega)
        repeat (first | (with_reducible exact hv) | (with_reducible refine Kd.Own.set ?_ (fun _ h => h) (by dsimp only; omega) _))
      · have h2 := HB.out
        repeat (first | (with_reducible exact h2) | (with_reducible refine Below.setCell ?_ (by dsimp only; omega) _))
end Go.Proofs.Ytkgkiencikmhfaa.B
