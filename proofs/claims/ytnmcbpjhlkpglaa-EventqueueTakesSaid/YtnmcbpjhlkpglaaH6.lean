/- What this text holds: the contract of the laws' times. -/
import Derived.Test.YtnmcbpjhlkpglaaH4
set_option linter.unusedVariables false
set_option linter.unusedSimpArgs false
namespace Go.Proofs.Ytnmcbpjhlkpglaa.B
open Go.RowKit

def timesF (l : List Int) : List Int := (l.take 30).map (fun x => x % 100)
theorem timesF_length (l : List Int) : (timesF l).length = min 30 l.length := by simp [timesF]
theorem timesF_mem (l : List Int) : ∀ t ∈ timesF l, 0 ≤ t ∧ t ≤ 99 := by
  intro t ht
  obtain ⟨x, _, rfl⟩ := List.mem_map.1 ht
  omega

theorem info3 : (Try.prog.info? 3).map (fun i => (i.zero, i.size, i.bytes)) = some (some (.int .i64 0), 1, 8) := by kernel_rfl

theorem ints_fp {k : IntKind} {W : World} {x : Int} {ok : Nat → Prop} : Fp (fun W => (ints k).K W x [.int k x]) W ok := fun _ _ => rfl

set_option maxHeartbeats 2000000 in
theorem times_calls (A : Option Addr) (c : Nat) (l : List Int) (w : World) (hr : (ints .u16).C w A l) (hc : l.length ≤ c) (hw : ∀ x ∈ l, 0 ≤ x ∧ x ≤ 65535) :
    Calls Try.prog 17 #[.slice A l.length c] w fun e w' => ∃ v, e = .returned v ∧ (ints .i64).Own 3 w' w.heap.size (fun _ => False) v (timesF l) ∧ Below w.heap.size w w' := by
  have HR := Hd.mk hr
  have HW := Hd.mk hw
  have hm := hr.1
  clear hr hw
  go_enter Try.func17, Try.ntmps17
  go_wp2
  go_loopw [3, 4] (fun v i wr => ∃ k : Nat, k ≤ l.length ∧ k ≤ 30 ∧ i = .int .i64 k ∧ Hd ((ints .i64).Own 3 wr w.heap.size (fun _ => False) v ((l.take k).map (fun x => x % 100))) ∧ Hd (Below w.heap.size w wr)) (fun _ i _ => l.length - (intOf i).toNat)
  case atStart => exact ⟨0, Nat.zero_le _, Nat.zero_le _, rfl, ⟨Kd.Own.nil⟩, ⟨Below.refl _ _⟩⟩
  case round =>
    obtain ⟨k, hk, hk2, rfl, HO, HB⟩ := hrel
    by_cases hlt : k < l.length ∧ k < 30
    · obtain ⟨hlt1, hlt2⟩ := hlt
      obtain ⟨ad, e0, hx⟩ := ints_get HR.out k hlt1
      subst e0
      replace hx := (HB.out.cell (World.block_lt_of_cell? w _ hx)).trans hx
      obtain ⟨t, et⟩ : ∃ t, t = nth 0 l k := ⟨_, rfl⟩
      have hb := HW.out _ (nth_mem 0 l k hlt1)
      rw [← et] at hx hb
      obtain ⟨hb0, hb1⟩ := hb
      have Het := Hd.mk et
      clear et
      have hm1 : t.tmod 100 = t % 100 := by rw [Int.tmod_eq_emod_of_nonneg hb0]
      have hm2 : IntKind.u16.wrap (t % 100) = t % 100 := by rw [IntKind.wrap_u16]; omega
      have hm3 : IntKind.i64.wrap (t % 100) = t % 100 := IntWalk.i64_in _ (by omega)
      have hwsz := HB.out.size
      have HF : Hd (Fp (fun W => (ints .i64).K W (t % 100) [.int .i64 (t % 100)]) wr (fun _ => False)) := ⟨ints_fp⟩
      go_wp2_with (at_builtin; refine Kd.Own.append1 (w0 := w) rfl (.tmp 15) (.tmp 22) 40 (.int .i64 0) 8 rfl Try.underlying40 info3 rfl (by decide) rfl rfl HO.out HF.out ?h1 HB.out ?h2 ?h3 ?_; (case h1 => exact fun j hj _ => hj.elim); (case h2 => omega); (case h3 => simp; omega); intro v1 w2 hown hb2 hg hat; have HO2 := Hd.mk hown; have HB2 := Hd.mk hb2; clear hown hb2 hg hat)
      go_roundw
      case rel => exact ⟨k + 1, by omega, by omega, by go_num, ⟨by rw [take_nth 0 l k hlt1, List.map_append, List.map_singleton, ← Het.out]; exact HO2.out.mono (fun j hj => hj.elim id id)⟩, HB2⟩
      case measure => simp [intOf]; omega
    · have hfin : Hd ((l.take k).map (fun x => x % 100) = timesF l) := ⟨by
        unfold timesF
        rcases Nat.lt_or_ge k l.length with h | h
        · obtain rfl : k = 30 := by omega
          rfl
        · rw [List.take_of_length_le h]
          rcases Nat.lt_or_ge k 30 with h' | h'
          · rw [List.take_of_length_le (by omega)]
          · rw [List.take_of_length_le (by omega)]⟩
      by_cases hlt1 : k < l.length
      · have hlt2 : ¬ k < 30 := fun h => hlt ⟨hlt1, h⟩
        clear hlt
        go_wp2
        go_ret
        exact ⟨_, rfl, by rw [← hfin.out]; exact HO.out, HB.out⟩
      · clear hlt
        go_wp2
        go_ret
        exact ⟨_, rfl, by rw [← hfin.out]; exact HO.out, HB.out⟩
end Go.Proofs.Ytnmcbpjhlkpglaa.B
