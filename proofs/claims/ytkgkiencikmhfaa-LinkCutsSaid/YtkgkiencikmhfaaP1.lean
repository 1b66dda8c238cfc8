/- What this text holds: a run of a link stays in its bounds, and each payload is sent: plain Lean. -/
import Derived.Test.YtkgkiencikmhfaaRun
set_option linter.unusedVariables false
set_option linter.unusedSimpArgs false
namespace Go.Proofs.Ytkgkiencikmhfaa.B
open Go.RowKit

theorem cmpE_lt {t n t' n' : Int} (h : t < t' ∨ (t = t' ∧ n < n')) : ¬ 0 ≤ cmpE t n t' n' := by
  rw [cmpE_ge]
  omega
theorem LOk.chk {mn mx rt idle next : Int} {l : List Fl} (h : LOk l next) (hc : 0 ≤ mn ∧ mn ≤ mx ∧ mx ≤ 1073741824 ∧ 0 ≤ rt ∧ rt ≤ 65536) (hi : 0 ≤ idle ∧ idle ≤ 1073741824) (hn : 0 ≤ next ∧ next ≤ 1073741824) (hl : l.length ≤ 4096) :
    chkL mn mx rt false idle next l = 0 := by
  unfold chkL
  rw [if_neg (by rw [cfgF, if_pos hc]; decide), if_neg (by simp [betw]; omega), if_neg (by simp [betw]; omega), if_neg (by omega), if_neg (by simp)]
  refine firstErr_zero _ _ fun i hi2 => ?_
  have hx := h.el _ (List.getElem_mem hi2)
  unfold chkLAt
  have hw : wrongL (nth fl0 l i).t (nth fl0 l i).n (nth fl0 l i).body.length next = 0 := by
    rw [nth_eq fl0 l i hi2]
    unfold wrongL
    rw [if_neg (by simp [betw]; omega), if_neg (by simp [betw]; omega), if_neg (by omega)]
  rw [if_neg (by rw [hw]; decide)]
  rw [if_neg, if_neg]
  · intro ha
    rw [List.any_eq_true] at ha
    obtain ⟨y, hy, he⟩ := ha
    obtain ⟨j, hj, rfl⟩ := nth_of_mem_take l i y hy
    have h2 := List.pairwise_iff_getElem.1 h.nd j i (by omega) hi2 hj
    rw [nth_eq fl0 l j (by omega), nth_eq fl0 l i hi2] at he
    simp at he
    exact h2 he
  · rintro ⟨hp, hc2⟩
    have h2 := List.pairwise_iff_getElem.1 h.srt (i - 1) i (by omega) hi2 (by omega)
    rw [nth_eq fl0 l (i - 1) (by omega), nth_eq fl0 l i hi2] at hc2
    exact cmpE_lt h2 hc2
theorem pl_take {l : List Fl} {time : Int} {x : Fl} (hx : x ∈ l.take (placeL l time)) : x.t ≤ time := by
  have hp := placeL_le l time
  obtain ⟨i, hi, rfl⟩ := List.getElem_of_mem hx
  have h1 : i < placeL l time := by rw [List.length_take] at hi; omega
  have := placeL_lt l time i h1
  rw [nth_eq fl0 l i (by omega)] at this
  rw [List.getElem_take]
  exact this
theorem pl_drop {l : List Fl} {time : Int} {x : Fl} (h : l.Pairwise (fun a b => a.t ≤ b.t)) (hx : x ∈ l.drop (placeL l time)) : time < x.t := by
  obtain ⟨i, hi, rfl⟩ := List.getElem_of_mem hx
  rw [List.length_drop] at hi
  have h1 := placeL_ge l time (by omega)
  rw [nth_eq fl0 l _ (by omega)] at h1
  rw [List.getElem_drop]
  rcases Nat.eq_zero_or_pos i with h0 | h0
  · subst h0; exact h1
  · exact Int.lt_of_lt_of_le h1 (List.pairwise_iff_getElem.1 h _ _ (by omega) (by omega) (by omega))
theorem LOk.le {l : List Fl} {next : Int} (h : LOk l next) : l.Pairwise (fun a b => a.t ≤ b.t) := h.srt.imp (fun {a b} h => by omega)
theorem LOk.insert {l : List Fl} {next t : Int} {body : List Int} (h : LOk l next) (ht : 0 ≤ t ∧ t ≤ 1073741824) (hb : body.length ≤ 65536) (hn : 0 ≤ next) :
    LOk (l.take (placeL l t) ++ (⟨t, next, body⟩ : Fl) :: l.drop (placeL l t)) (next + 1) := by
  have hd : ∀ x ∈ l.drop (placeL l t), t < x.t := fun x hx => pl_drop h.le hx
  have htk : ∀ x ∈ l.take (placeL l t), x.t ≤ t := fun x hx => pl_take hx
  have ht2 : ∀ x ∈ l.take (placeL l t), x ∈ l := fun x hx => List.mem_of_mem_take hx
  have hd2 : ∀ x ∈ l.drop (placeL l t), x ∈ l := fun x hx => List.mem_of_mem_drop hx
  have hs : (l.take (placeL l t) ++ l.drop (placeL l t)).Pairwise (fun a b => a.t < b.t ∨ (a.t = b.t ∧ a.n < b.n)) := by rw [List.take_append_drop]; exact h.srt
  have hnd : (l.take (placeL l t) ++ l.drop (placeL l t)).Pairwise (fun a b => a.n ≠ b.n) := by rw [List.take_append_drop]; exact h.nd
  generalize l.take (placeL l t) = a at *
  generalize l.drop (placeL l t) = b at *
  have hs1 := List.pairwise_append.1 hs
  have hn1 := List.pairwise_append.1 hnd
  refine ⟨fun x hx => ?_, List.pairwise_append.2 ⟨hs1.1, List.pairwise_cons.2 ⟨fun y hy => .inl (hd y hy), hs1.2.1⟩, fun x hx y hy => ?_⟩, List.pairwise_append.2 ⟨hn1.1, List.pairwise_cons.2 ⟨fun y hy => ?_, hn1.2.1⟩, fun x hx y hy => ?_⟩⟩
  · rcases List.mem_append.1 hx with hx | hx
    · have := h.el x (ht2 x hx); omega
    · rcases List.mem_cons.1 hx with rfl | hx
      · dsimp only; omega
      · have := h.el x (hd2 x hx); omega
  · rcases List.mem_cons.1 hy with rfl | hy
    · have h1 := htk x hx
      have h2 := h.el x (ht2 x hx)
      dsimp only
      omega
    · exact hs1.2.2 x hx y hy
  · have := h.el y (hd2 y hy)
    dsimp only
    omega
  · rcases List.mem_cons.1 hy with rfl | hy
    · have := h.el x (ht2 x hx)
      dsimp only
      omega
    · exact hn1.2.2 x hx y hy
theorem ticksF_small (b r : Int) (hb : 1 ≤ b) (hr : 0 ≤ r) : 0 ≤ ticksF b r ∧ ticksF b r ≤ b := by
  unfold ticksF
  split
  · omega
  · have h1 : 1 ≤ r := by omega
    refine ⟨Int.ediv_nonneg (by omega) (by omega), ?_⟩
    have h2 : b + r - 1 < (b + 1) * r := by
      have : b * 1 ≤ b * r := Int.mul_le_mul_of_nonneg_left h1 (by omega)
      rw [Int.add_mul]
      omega
    have := Int.ediv_lt_of_lt_mul (by omega) h2
    omega
theorem payF_len (sz num : Int) (h : 0 ≤ sz) : 1 ≤ (payF sz num).length ∧ (payF sz num).length ≤ 9 := by
  have h1 := Int.emod_nonneg sz (show (9 : Int) ≠ 0 by decide)
  have h2 := Int.emod_lt_of_pos sz (show (0 : Int) < 9 by decide)
  unfold payF
  simp
  omega
theorem arrN_le (h : Int) : arrN h ≤ 2 := by unfold arrN; split <;> (try split) <;> omega
/-- What a Send on a link in order adds. -/
theorem itS_ok {en mn mx : Int} {body : List Int} (hm : 0 ≤ mn ∧ mn ≤ mx) (hen : 0 ≤ en ∧ en + mx ≤ 1073741824) (hb : body.length ≤ 65536) : ∀ (k : Nat) (s : SS), LOk s.1 s.2.1 → 0 ≤ s.2.1 → LOk (itS en mn mx body k s).1 (itS en mn mx body k s).2.1
  | 0, s, h, _ => h
  | k + 1, s, h, hn => by
    have ih := itS_ok hm hen hb k s h hn
    have hl := itS_len en mn mx body k s
    have hd := decI_lt (itS en mn mx body k s).2.2 (mx - mn + 1) (by omega)
    rw [itS]
    exact LOk.insert ih (by omega) hb (by omega)
theorem itS_body {en mn mx : Int} {body : List Int} : ∀ (k : Nat) (s : SS) (x : Fl), x ∈ (itS en mn mx body k s).1 → x ∈ s.1 ∨ x.body = body
  | 0, s, x, h => .inl h
  | k + 1, s, x, h => by
    rw [itS, stepS] at h
    dsimp only at h
    rcases List.mem_append.1 h with h | h
    · exact itS_body k s x (List.mem_of_mem_take h)
    · rcases List.mem_cons.1 h with rfl | h
      · exact .inr rfl
      · exact itS_body k s x (List.mem_of_mem_drop h)

structure Fit (mn mx rt : Int) (sl : List (Int × Int)) (ch : List Int) : Prop where
  hmn : 0 ≤ mn ∧ mn ≤ mx
  hmx : mx ≤ 100
  hrt : 0 ≤ rt ∧ rt ≤ 100
  hsl : sl.length ≤ 20
  hch : ch.length ≤ 100
  hst : ∀ x ∈ sl, 0 ≤ x.1 ∧ x.1 ≤ 255 ∧ 0 ≤ x.2 ∧ x.2 ≤ 255

/-- The end of the transmission that comes next. -/
def rsEnd (s : RS) (i : Nat) (x : Int × Int) : Int := max (s.now + x.2 % 20) s.l.idle + ticksF (payF x.1 i).length s.l.rt
theorem rb_send {mn mx rt : Int} {sl : List (Int × Int)} {ch : List Int} {k : Nat} {s : RS} {x : Int × Int} (hf : Fit mn mx rt sl ch) (h : RB mn mx rt ch k s) (hk : k < 20) (hx : 0 ≤ x.1 ∧ 0 ≤ x.2) :
    0 ≤ rsEnd s k x ∧ rsEnd s k x ≤ 28 * (k + 1) ∧ rsSend s k x = (⟨mn, mx, rt, false, rsEnd s k x, (itS (rsEnd s k x) mn mx (payF x.1 k) (arrN (decI s.rest 3)) (s.l.fl, s.l.next, s.rest.drop 1)).2.1, (itS (rsEnd s k x) mn mx (payF x.1 k) (arrN (decI s.rest 3)) (s.l.fl, s.l.next, s.rest.drop 1)).1⟩,
      (itS (rsEnd s k x) mn mx (payF x.1 k) (arrN (decI s.rest 3)) (s.l.fl, s.l.next, s.rest.drop 1)).2.2, 0) := by
  obtain ⟨⟨c1, c2, c3, c4⟩, hnow, hidle, hnext, hlen, hbody, hok, hrest, hlens⟩ := h
  obtain ⟨f1, f2, f3, f4, f5, f6⟩ := hf
  have hp := payF_len x.1 k hx.1
  have ht := ticksF_small (payF x.1 k).length s.l.rt (by omega) (by omega)
  have hw0 := Int.emod_nonneg x.2 (show (20 : Int) ≠ 0 by decide)
  have hw1 := Int.emod_lt_of_pos x.2 (show (0 : Int) < 20 by decide)
  have he : 0 ≤ rsEnd s k x ∧ rsEnd s k x ≤ 28 * (k + 1) := by unfold rsEnd; omega
  refine ⟨he.1, he.2, ?_⟩
  have hchk : chkL s.l.mn s.l.mx s.l.rt s.l.down s.l.idle s.l.next s.l.fl = 0 := by
    rw [c4]
    exact hok.chk (by omega) (by omega) (by omega) (by omega)
  unfold rsSend sendF
  rw [if_neg (by rw [hchk]; decide), if_neg (by simp [betw]; omega), if_neg (by omega), if_neg (by rw [c4]; decide)]
  have hen : max (s.now + x.2 % 20) s.l.idle + ticksF (payF x.1 k).length s.l.rt = rsEnd s k x := rfl
  rw [hen, if_neg (by rw [c2]; omega), if_neg (by omega), c1, c2, c3, c4]
theorem rb_step {mn mx rt : Int} {sl : List (Int × Int)} {ch : List Int} {k : Nat} {s : RS} {x : Int × Int} (hf : Fit mn mx rt sl ch) (h : RB mn mx rt ch k s) (hk : k < 20) (hx : 0 ≤ x.1 ∧ 0 ≤ x.2) :
    RB mn mx rt ch (k + 1) (rsStep s k x) := by
  obtain ⟨he0, he1, hs⟩ := rb_send hf h hk hx
  obtain ⟨⟨c1, c2, c3, c4⟩, hnow, hidle, hnext, hlen, hbody, hok, hrest, hlens⟩ := h
  obtain ⟨f1, f2, f3, f4, f5, f6⟩ := hf
  have hp := payF_len x.1 k hx.1
  have hw0 := Int.emod_nonneg x.2 (show (20 : Int) ≠ 0 by decide)
  have hw1 := Int.emod_lt_of_pos x.2 (show (0 : Int) < 20 by decide)
  have hil := itS_len (rsEnd s k x) mn mx (payF x.1 k) (arrN (decI s.rest 3)) (s.l.fl, s.l.next, s.rest.drop 1)
  have ha := arrN_le (decI s.rest 3)
  have hio := itS_ok (en := rsEnd s k x) (body := payF x.1 k) f1 ⟨he0, by omega⟩ (by omega) (arrN (decI s.rest 3)) (s.l.fl, s.l.next, s.rest.drop 1) hok hnext.1
  have hib := itS_body (en := rsEnd s k x) (mn := mn) (mx := mx) (body := payF x.1 k) (arrN (decI s.rest 3)) (s.l.fl, s.l.next, s.rest.drop 1)
  dsimp only at hil
  rw [List.length_drop] at hil
  constructor
  · simp only [rsStep, hs]; exact ⟨trivial, trivial, trivial, trivial⟩
  · simp only [rsStep]; omega
  · simp only [rsStep, hs]; omega
  · simp only [rsStep, hs]; omega
  · simp only [rsStep, hs]; omega
  · simp only [rsStep, hs]
    intro y hy
    rcases hib y hy with h1 | h1
    · exact hbody y h1
    · rw [h1]; omega
  · simp only [rsStep, hs]; exact hio
  · simp only [rsStep, hs]; omega
  · simp only [rsStep, List.length_append, List.length_cons, List.length_nil]; omega
theorem rb_zero {mn mx rt : Int} {ch : List Int} : RB mn mx rt ch 0 (rs0 mn mx rt ch) := by
  refine ⟨⟨rfl, rfl, rfl, rfl⟩, by simp [rs0], by simp [rs0], by simp [rs0], by simp [rs0], by simp [rs0], ⟨by simp [rs0], by simp [rs0], by simp [rs0]⟩, by simp [rs0], by simp [rs0]⟩
theorem rb_to {mn mx rt : Int} {sl : List (Int × Int)} {ch : List Int} (hf : Fit mn mx rt sl ch) : ∀ k, k ≤ sl.length → RB mn mx rt ch k (rsTo mn mx rt ch sl k)
  | 0, _ => rb_zero
  | k + 1, hk => by
    have hm := hf.hst _ (nth_mem st0 sl k (by omega))
    exact rb_step hf (rb_to hf k (by omega)) (by have := hf.hsl; omega) ⟨hm.1, hm.2.2.1⟩
/-- Each payload is sent. -/
theorem rs_sent {mn mx rt : Int} {sl : List (Int × Int)} {ch : List Int} (hf : Fit mn mx rt sl ch) (k : Nat) (hk : k < sl.length) : (rsSend (rsTo mn mx rt ch sl k) k (nth st0 sl k)).2.2 = 0 := by
  have hm := hf.hst _ (nth_mem st0 sl k hk)
  rw [(rb_send hf (rb_to hf k (by omega)) (by have := hf.hsl; omega) ⟨hm.1, hm.2.2.1⟩).2.2]
end Go.Proofs.Ytkgkiencikmhfaa.B
