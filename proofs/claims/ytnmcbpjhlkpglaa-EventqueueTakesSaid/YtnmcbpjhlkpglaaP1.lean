/- What this text holds: plain facts on queues in order: what Check's answer 0 says, and that taking events away and adding one keeps the order. -/
import Derived.Test.YtnmcbpjhlkpglaaH3
set_option linter.unusedVariables false
set_option linter.unusedSimpArgs false
namespace Go.Proofs.Ytnmcbpjhlkpglaa.B

def ltE (a b : Ev) : Prop := a.t < b.t ∨ (a.t = b.t ∧ a.n < b.n)
/-- A queue in order. -/
structure Good (l : List Ev) (next : Int) : Prop where
  len : l.length ≤ 4096
  lo : 0 ≤ next
  hi : next ≤ 1073741824
  ok : ∀ x ∈ l, wrongF x.t x.n x.kd x.dst x.body.length next = 0
  srt : l.Pairwise ltE
  nod : (l.map (·.n)).Nodup

theorem chkAt_zero {l : List Ev} {next : Int} {i : Nat} (h : chkAt l next i = 0) :
    wrongF (nth ev0 l i).t (nth ev0 l i).n (nth ev0 l i).kd (nth ev0 l i).dst (nth ev0 l i).body.length next = 0 ∧ (0 < i → ltE (nth ev0 l (i - 1)) (nth ev0 l i)) ∧ ∀ y ∈ l.take i, y.n ≠ (nth ev0 l i).n := by
  have hw := chkAt_wrong h
  rw [chkAt, if_neg (by rw [hw]; decide)] at h
  by_cases h2 : 0 < i ∧ 0 ≤ cmpE (nth ev0 l (i - 1)).t (nth ev0 l (i - 1)).n (nth ev0 l i).t (nth ev0 l i).n
  · rw [if_pos h2] at h
    cases h
  · rw [if_neg h2] at h
    refine ⟨hw, fun hi => ?_, fun y hy he => ?_⟩
    · have h3 : ¬ 0 ≤ cmpE (nth ev0 l (i - 1)).t (nth ev0 l (i - 1)).n (nth ev0 l i).t (nth ev0 l i).n := fun h => h2 ⟨hi, h⟩
      rw [cmpE_ge] at h3
      unfold ltE
      omega
    · have ha : (l.take i).any (fun x => x.n == (nth ev0 l i).n) = true := List.any_eq_true.2 ⟨y, hy, by simp [he]⟩
      rw [if_pos ha] at h
      cases h

theorem chkAt_of {l : List Ev} {next : Int} {i : Nat} (h1 : wrongF (nth ev0 l i).t (nth ev0 l i).n (nth ev0 l i).kd (nth ev0 l i).dst (nth ev0 l i).body.length next = 0) (h2 : 0 < i → ltE (nth ev0 l (i - 1)) (nth ev0 l i)) (h3 : ∀ y ∈ l.take i, y.n ≠ (nth ev0 l i).n) : chkAt l next i = 0 := by
  rw [chkAt, if_neg (by rw [h1]; decide), if_neg, if_neg]
  · intro ha
    obtain ⟨y, hy, he⟩ := List.any_eq_true.1 ha
    exact h3 y hy (by simpa using he)
  · rintro ⟨h, hc⟩
    rw [cmpE_ge] at hc
    have := h2 h
    unfold ltE at this
    omega

theorem ltE_trans {a b c : Ev} (h1 : ltE a b) (h2 : ltE b c) : ltE a c := by
  unfold ltE at *
  omega

theorem good_of_check {l : List Ev} {next : Int} (h : checkF l next = 0) : Good l next := by
  obtain ⟨h1, h2, h3, h4⟩ := checkF_ok l next h
  have hz := fun i (hi : i < l.length) => chkAt_zero (h4 i hi)
  have hadj : ∀ d i, i + d + 1 < l.length → ltE (nth ev0 l i) (nth ev0 l (i + d + 1)) := by
    intro d
    induction d with
    | zero => intro i hi; exact (hz (i + 1) (by omega)).2.1 (by omega)
    | succ d ih =>
      intro i hi
      exact ltE_trans (ih i (by omega)) ((hz (i + (d + 1) + 1) hi).2.1 (by omega))
  refine ⟨h1, h2, h3, fun x hx => ?_, ?_, ?_⟩
  · obtain ⟨i, hi, rfl⟩ := List.getElem_of_mem hx
    have := (hz i hi).1
    rw [nth_eq ev0 l i hi] at this
    exact this
  · rw [List.pairwise_iff_getElem]
    intro i j hi hj hij
    have := hadj (j - i - 1) i (by omega)
    rw [show i + (j - i - 1) + 1 = j by omega, nth_eq ev0 l i hi, nth_eq ev0 l j hj] at this
    exact this
  · unfold List.Nodup
    rw [List.pairwise_map, List.pairwise_iff_getElem]
    intro i j hi hj hij
    have := (hz j hj).2.2 (nth ev0 l i) (mem_take_nth l i j hij hi)
    rw [nth_eq ev0 l i hi, nth_eq ev0 l j hj] at this
    exact this

theorem check_of_good {l : List Ev} {next : Int} (g : Good l next) : checkF l next = 0 := by
  refine checkF_zero l next g.len g.lo g.hi (fun i hi => chkAt_of ?_ (fun h => ?_) (fun y hy => ?_))
  · rw [nth_eq ev0 l i hi]
    exact g.ok _ (List.getElem_mem hi)
  · rw [nth_eq ev0 l i hi, nth_eq ev0 l (i - 1) (by omega)]
    exact List.pairwise_iff_getElem.1 g.srt (i - 1) i (by omega) hi (by omega)
  · obtain ⟨z, hz, rfl⟩ := nth_of_mem_take l i y hy
    rw [nth_eq ev0 l i hi, nth_eq ev0 l z (by omega)]
    have := g.nod
    unfold List.Nodup at this
    rw [List.pairwise_map] at this
    exact List.pairwise_iff_getElem.1 this z i (by omega) hi hz

theorem Good.sub {l l' : List Ev} {next : Int} (g : Good l next) (h : l'.Sublist l) : Good l' next :=
  ⟨Nat.le_trans h.length_le g.len, g.lo, g.hi, fun x hx => g.ok x (h.subset hx), g.srt.sublist h, g.nod.sublist (h.map _)⟩

theorem wrongF_next {t n k o next : Int} {len : Nat} (h : wrongF t n k o len next = 0) : wrongF t n k o len (next + 1) = 0 := by
  obtain ⟨h1, h2, h3, h4, h5, h6, h7⟩ := wrongF_ok h
  rw [wrongF, if_neg (by omega), if_neg (by omega), if_neg (by omega)]

theorem place_split {l : List Ev} {next time : Int} (g : Good l next) : (∀ x ∈ l.take (placeI l time), x.t ≤ time) ∧ ∀ x ∈ l.drop (placeI l time), time < x.t := by
  unfold placeI
  split
  · rename_i i h
    rw [List.findIdx?_eq_some_iff_getElem] at h
    obtain ⟨hi, hp, hn⟩ := h
    refine ⟨fun x hx => ?_, fun x hx => ?_⟩
    · obtain ⟨j, hj, rfl⟩ := List.mem_take_iff_getElem.1 hx
      have := hn j (by omega)
      simpa using this
    · obtain ⟨j, hj, rfl⟩ := List.getElem_of_mem hx
      rw [List.getElem_drop]
      have h1 : time < l[i].t := by simpa using hp
      rcases Nat.eq_zero_or_pos j with rfl | hj0
      · simpa using h1
      · have hij : i + j < l.length := by rw [List.length_drop] at hj; omega
        have h2 : ltE l[i] l[i + j] := List.pairwise_iff_getElem.1 g.srt i (i + j) hi hij (by omega)
        unfold ltE at h2
        omega
  · rename_i h
    rw [List.findIdx?_eq_none_iff] at h
    refine ⟨fun x hx => ?_, fun x hx => ?_⟩
    · have := h x (List.mem_of_mem_take hx)
      simpa using this
    · rw [List.drop_length] at hx
      cases hx

theorem Good.add {l : List Ev} {next time kind dst : Int} {body : List Int} (g : Good l next) (hl : l.length < 4096) (hn : next < 1073741824) (hw : wrongF time next kind dst body.length (next + 1) = 0) :
    Good (l.take (placeI l time) ++ ⟨time, next, kind, dst, body⟩ :: l.drop (placeI l time)) (next + 1) := by
  obtain ⟨s1, s2⟩ := place_split (time := time) g
  have hnum : ∀ x ∈ l, x.n < next := fun x hx => (wrongF_ok (g.ok x hx)).2.2.2.2.2.1
  have hsp : l.Pairwise ltE := g.srt
  rw [← List.take_append_drop (placeI l time) l, List.pairwise_append] at hsp
  obtain ⟨p1, p2, p3⟩ := hsp
  have hperm : (l.take (placeI l time) ++ ⟨time, next, kind, dst, body⟩ :: l.drop (placeI l time)).Perm (⟨time, next, kind, dst, body⟩ :: l) := by
    refine List.perm_middle.trans ?_
    rw [List.take_append_drop]
  refine ⟨by rw [hperm.length_eq, List.length_cons]; omega, by have := g.lo; omega, by omega, fun x hx => ?_, ?_, ?_⟩
  · rcases List.mem_cons.1 (hperm.mem_iff.1 hx) with rfl | hx
    · exact hw
    · exact wrongF_next (g.ok x hx)
  · rw [List.pairwise_append]
    refine ⟨p1, List.pairwise_cons.2 ⟨fun y hy => .inl (s2 y hy), p2⟩, fun x hx y hy => ?_⟩
    rcases List.mem_cons.1 hy with rfl | hy
    · have h1 := s1 x hx
      have h2 := hnum x (List.mem_of_mem_take hx)
      unfold ltE
      simp only
      omega
    · exact p3 x hx y hy
  · rw [(hperm.map _).nodup_iff, List.map_cons, List.nodup_cons]
    refine ⟨fun h => ?_, g.nod⟩
    obtain ⟨x, hx, he⟩ := List.mem_map.1 h
    have := hnum x hx
    simp only at he
    omega

theorem addF_good {l : List Ev} {next time kind dst : Int} {body : List Int} (g : Good l next) (hl : l.length < 4096) (hn : next < 1073741824) (hw : wrongF time next kind dst body.length (next + 1) = 0) :
    addF l next time kind dst body = ((l.take (placeI l time) ++ ⟨time, next, kind, dst, body⟩ :: l.drop (placeI l time), next + 1), next, 0) := by
  rw [addF, if_neg (by rw [check_of_good g]; decide), if_neg (by rw [hw]; decide), if_neg (by omega)]

/-- The events that added adds, by their numbers. -/
def evOf (ts : List Int) : List Ev := (List.range ts.length).map (fun i => ⟨nth 0 ts i, i, i, 0, []⟩)

theorem addedGo_good (ts done : List Int) (l : List Ev) (hd : done.length + ts.length ≤ 4096) (ht : ∀ t ∈ ts, 0 ≤ t ∧ t ≤ 1073741824) (g : Good l done.length) (hp : l.Perm (evOf done)) :
    ∃ L, addedGo ts done.length (l, done.length) = ((L, (((done ++ ts).length : Nat) : Int)), true) ∧ Good L (((done ++ ts).length : Nat) : Int) ∧ L.Perm (evOf (done ++ ts)) := by
  induction ts generalizing done l with
  | nil => exact ⟨l, by simp [addedGo], by simpa using g, by simpa using hp⟩
  | cons t ts ih =>
    have htt := ht t (by simp)
    have hll : l.length = done.length := by rw [hp.length_eq]; simp [evOf]
    simp only [List.length_cons] at hd
    have hw : wrongF t done.length done.length 0 ([] : List Int).length ((done.length : Int) + 1) = 0 := by
      rw [wrongF, if_neg (by omega), if_neg (by omega), if_neg (by simp)]
    have he := addF_good (time := t) (kind := done.length) (dst := 0) (body := []) g (by omega) (by omega) hw
    have hg := Good.add (time := t) (kind := done.length) (dst := 0) (body := []) g (by omega) (by omega) hw
    have hpm : (l.take (placeI l t) ++ ⟨t, done.length, done.length, 0, []⟩ :: l.drop (placeI l t)).Perm (evOf (done ++ [t])) := by
      refine (List.perm_middle.trans ?_ : List.Perm _ ((⟨t, done.length, done.length, 0, []⟩ : Ev) :: evOf done)).trans ?_
      · rw [List.take_append_drop]
        exact hp.cons _
      · have hev : evOf (done ++ [t]) = evOf done ++ [⟨t, done.length, done.length, 0, []⟩] := by
          unfold evOf
          rw [List.length_append, List.length_singleton, List.range_succ, List.map_append, List.map_singleton]
          congr 1
          · refine List.map_congr_left fun i hi => ?_
            have hi' : i < done.length := by simpa using hi
            rw [nth_eq 0 done i hi', nth_eq 0 _ i (by simp; omega), List.getElem_append_left hi']
          · rw [nth_eq 0 _ done.length (by simp)]
            simp
        rw [hev]
        exact (List.perm_append_singleton _ _).symm
    have hlen1 : ((done ++ [t]).length : Int) = (done.length : Int) + 1 := by simp
    obtain ⟨L, e, hG, hP⟩ := ih (done ++ [t]) _ (by simp; omega) (fun x hx => ht x (by simp [hx])) (by rw [hlen1]; exact hg) hpm
    refine ⟨L, ?_, by simpa using hG, by simpa using hP⟩
    rw [addedGo, if_neg]
    · simp only [he]
      rw [hlen1] at e
      simpa using e
    · simp only [he]
      simp

theorem addedF_good (ts : List Int) (hd : ts.length ≤ 4096) (ht : ∀ t ∈ ts, 0 ≤ t ∧ t ≤ 1073741824) :
    ∃ L, addedF ts = ((L, (ts.length : Int)), true) ∧ Good L ts.length ∧ L.Perm (evOf ts) := by
  have g0 : Good [] (([] : List Int).length : Nat) := ⟨by simp, by simp, by simp, by simp, by simp, by simp⟩
  have := addedGo_good ts [] [] (by simpa using hd) ht g0 (List.Perm.refl _)
  simpa [addedF] using this
end Go.Proofs.Ytnmcbpjhlkpglaa.B
