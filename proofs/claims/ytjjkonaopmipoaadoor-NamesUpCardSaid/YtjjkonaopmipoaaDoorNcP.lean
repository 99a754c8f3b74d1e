/- Names, in plain Lean: the program's answers are the document's. -/
import Derived.Test.YtjjkonaopmipoaaDoorNmP
namespace Go.Proofs.YtjjkonaopmipoaaDoor
namespace Nam
theorem label_star (t : Str) : labelB (42 :: t) = false := by
  rw [Bool.eq_false_iff]; intro h
  unfold labelB at h
  simp only [Bool.and_eq_true, List.all_eq_true, List.mem_range] at h
  have := h.2 0 (by simp)
  unfold okR at this
  have h1 : edgeR (((42 :: t).getD 0 0).toNat : Int) = false := by simp [edgeR]
  have h2 : innerR (((42 :: t).getD 0 0).toNat : Int) = false := by simp [innerR, edgeR]
  rw [h1, h2] at this
  split at this
  · cases this
  · split at this
    · simp at this
    · cases this
theorem cut_star (t : Str) : ∃ h r, cut (42 :: t) = (42 :: h) :: r := by
  unfold cut
  rw [if_neg (by decide)]
  split
  · exact ⟨_, _, rfl⟩
  · exact ⟨_, _, rfl⟩
theorem isB_star (t : Str) : isB (42 :: t) = false := by
  rw [Bool.eq_false_iff]; intro h
  obtain ⟨x, r, hx⟩ := cut_star t
  have := (isB_iff.1 h).2.2 (42 :: x) (by rw [hx]; simp)
  rw [label_star] at this; cases this
theorem isB_nil : isB [] = false := by decide
theorem prefix_cases (l : Str) : Lib.hasPrefix l [42, 46] = true ↔ ∃ t, l = 42 :: 46 :: t := by
  unfold Lib.hasPrefix
  match l with
  | [] => simp
  | [a] => simp [List.isPrefixOf]
  | a :: b :: t =>
    have e : List.isPrefixOf [42, 46] (a :: b :: t) = (42 == a && 46 == b) := by simp [List.isPrefixOf]
    rw [e, Bool.and_eq_true, beq_iff_eq, beq_iff_eq]
    constructor
    · rintro ⟨h1, h2⟩; exact ⟨t, by rw [h1, h2]⟩
    · rintro ⟨t', h⟩
      injection h with h1 h2; injection h2 with h2 _
      exact ⟨h1.symm, h2.symm⟩
theorem nameB_iff {l : Str} {a b : Nat} : nameB l a b = true ↔ l.length ≤ b ∧ (cut l).length ≤ a ∧ ∀ x ∈ cut l, labelB x = true := by
  unfold nameB
  simp only [Bool.and_eq_true, decide_eq_true_eq, List.all_eq_true]
  exact ⟨fun h => ⟨h.1.1, h.1.2, h.2⟩, fun h => ⟨⟨h.1, h.2.1⟩, h.2.2⟩⟩
theorem starB_iff (l : Str) : starB l = true ↔ ∃ t, l = 42 :: 46 :: t ∧ nameB t 7 62 = true := by
  unfold starB
  simp only [Bool.and_eq_true, decide_eq_true_eq, beq_iff_eq]
  constructor
  · rintro ⟨⟨⟨⟨⟨h1, h2⟩, h3⟩, h4⟩, h5⟩, h6⟩
    match l, h1 with
    | a :: b :: t, _ =>
      simp at h3 h4
      subst h3 h4
      refine ⟨t, rfl, nameB_iff.2 ⟨by simp at h2; omega, h6, (isB_iff.1 h5).2.2⟩⟩
  · rintro ⟨t, rfl, h⟩
    obtain ⟨a, b, c⟩ := nameB_iff.1 h
    have ht : t ≠ [] := by
      rintro rfl
      have := c [] (by simp [cut]); revert this; decide
    have hl : 1 ≤ t.length := by cases t with | nil => exact absurd rfl ht | cons => simp
    exact ⟨⟨⟨⟨⟨by simp; omega, by simp; omega⟩, rfl⟩, rfl⟩, isB_iff.2 ⟨by simp; omega, by simp; omega, c⟩⟩, b⟩
theorem star_not_name {l : Str} (h : starB l = true) : isB l = false := by
  obtain ⟨t, rfl, _⟩ := (starB_iff l).1 h
  exact isB_star _
theorem starOf_eq {l : Str} (h : starB l = true) : starOf l = l.drop 2 := by rw [starOf, if_pos h]
/-- What pattern comes to, told by the document's words. -/
theorem pattern_ok (l : Str) : (pattern l).2.2 = rpatB l := by
  unfold pattern rpatB
  split
  · rename_i h; rw [h]; simp
  · rename_i h
    rw [Bool.eq_false_iff.2 h, Bool.or_false]
    split
    · rename_i hp
      obtain ⟨t, rfl⟩ := (prefix_cases l).1 hp
      rw [Bool.eq_iff_iff, starB_iff]
      constructor
      · intro h; exact ⟨t, rfl, h⟩
      · rintro ⟨t', h1, h2⟩; simp at h1; subst h1; exact h2
    · rename_i hp
      symm; rw [Bool.eq_false_iff]; intro hs
      obtain ⟨t, rfl, _⟩ := (starB_iff l).1 hs
      exact hp ((prefix_cases _).2 ⟨t, rfl⟩)
theorem pattern_star {l : Str} (h : starB l = true) : pattern l = (starOf l, true, true) := by
  have h1 := star_not_name h
  obtain ⟨t, rfl, ht⟩ := (starB_iff l).1 h
  unfold pattern
  rw [h1, if_neg (by simp), if_pos ((prefix_cases _).2 ⟨t, rfl⟩), starOf_eq h]
  simp [ht]
theorem pattern_name {l : Str} (h : isB l = true) : pattern l = (l, false, true) := by unfold pattern; rw [if_pos h]
theorem star_false_of_name {l : Str} (h : isB l = true) : starB l = false := by
  rw [Bool.eq_false_iff]; intro hs; rw [star_not_name hs] at h; cases h
theorem match_eq (p s : Str) : matchB p s = rmatchB p s := by
  unfold matchB rmatchB
  rw [pattern_ok]
  cases hs : isB s
  · simp
  · cases hst : starB p
    · cases hn : isB p
      · have : rpatB p = false := by unfold rpatB; rw [hst, hn]; rfl
        rw [this]
        simp
        intro e; rw [e, hs] at hn; cases hn
      · rw [pattern_name hn]
        have : rpatB p = true := by unfold rpatB; rw [hst, hn]; rfl
        rw [this]; simp
    · rw [pattern_star hst]
      have : rpatB p = true := by unfold rpatB; rw [hst]; rfl
      rw [this]; simp
theorem starOf_name {l : Str} (h : starB l = true) : isB (starOf l) = true ∧ starOf l ≠ [] := by
  rw [starOf_eq h]
  obtain ⟨t, rfl, ht⟩ := (starB_iff l).1 h
  obtain ⟨a, b, c⟩ := nameB_iff.1 ht
  have hB : isB t = true := isB_iff.2 ⟨by omega, by omega, c⟩
  refine ⟨hB, ?_⟩
  rintro h; simp at h; rw [h] at hB; cases hB
theorem under_star {p q : Str} (hp : starB p = true) (hq : starB q = true) : underB (starOf p) (starOf q) = (starOf p == starOf q || belowB (starOf p) (starOf q)) := by
  unfold underB
  rw [(starOf_name hp).1, List.isEmpty_eq_false_iff.2 (starOf_name hq).2]; simp
theorem within_eq (p q : Str) : withinB p q = rwithinB p q := by
  unfold withinB rwithinB
  rw [pattern_ok, pattern_ok]
  cases hp : rpatB p
  · simp
  cases hq : rpatB q
  · simp
  simp only [Bool.not_true, Bool.or_self, Bool.false_eq_true, if_false]
  cases hsp : starB p
  · have hnp : isB p = true := by unfold rpatB at hp; rw [hsp] at hp; simpa using hp
    rw [pattern_name hnp]; simp [match_eq]
  · rw [pattern_star hsp]
    cases hsq : starB q
    · have hnq : isB q = true := by unfold rpatB at hq; rw [hsq] at hq; simpa using hq
      rw [pattern_name hnq]; simp
    · rw [pattern_star hsq]; simp [under_star hsp hsq]
theorem rmatch_no {p s : Str} (hs : isB s = false) : rmatchB p s = false := by unfold rmatchB; rw [hs]; rfl
theorem meets_eq (p q : Str) : meetsB p q = rmeetsB p q := by
  unfold meetsB rmeetsB
  rw [within_eq, within_eq]
  cases hsp : starB p
  · cases hsq : starB q
    · simp only [Bool.and_self, Bool.false_eq_true, if_false]
      unfold rwithinB rpatB
      rw [hsp, hsq]
      cases hnp : isB p
      · rw [rmatch_no (p := q) hnp]
        have : rmatchB p q = false := by
          unfold rmatchB; rw [hsp]
          cases hq : isB q
          · rfl
          · simp; intro e; rw [e, hq] at hnp; cases hnp
        rw [this]; simp
      · cases hnq : isB q
        · rw [rmatch_no (p := p) hnq]
          have : rmatchB q p = false := by
            unfold rmatchB; rw [hsq, hnp]; simp; intro e; rw [e, hnp] at hnq; cases hnq
          rw [this]; simp
        · simp [Bool.or_comm]
    · have hnq := star_not_name hsq
      simp only [Bool.and_true, Bool.false_eq_true, if_false]
      rw [rmatch_no (p := p) hnq]
      unfold rwithinB rpatB
      rw [hsp, hsq]
      cases hnp : isB p
      · rw [rmatch_no (p := q) hnp]; simp
      · simp
  · have hnp := star_not_name hsp
    cases hsq : starB q
    · simp only [Bool.and_false, Bool.false_eq_true, if_false]
      rw [rmatch_no (p := q) hnp]
      unfold rwithinB rpatB
      rw [hsp, hsq]
      cases hnq : isB q
      · rw [rmatch_no (p := p) hnq]; simp
      · simp
    · simp only [Bool.and_self, if_true]
      unfold rwithinB rpatB
      rw [hsp, hsq]
      simp
      have : (starOf q == starOf p) = (starOf p == starOf q) := Bool.beq_comm
      rw [this]
      cases (starOf p == starOf q) <;> simp
end Nam
end Go.Proofs.YtjjkonaopmipoaaDoor
