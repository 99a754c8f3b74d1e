/- Names, in plain Lean: a byte put into a name. -/
import Derived.Test.YtjjkonaopmipoaaDoorNcR
namespace Go.Proofs.YtjjkonaopmipoaaDoor
namespace Nam
theorem cut_byte : ∀ (l : Str) (c : UInt8), c ∈ l → c ≠ 46 → ∃ x ∈ cut l, c ∈ x
  | [], _, h, _ => by cases h
  | e :: t, c, h, hc => by
    by_cases he : e = 46
    · rw [cut, if_pos he]
      have hct : c ∈ t := by
        rcases List.mem_cons.1 h with rfl | h
        · exact absurd he hc
        · exact h
      obtain ⟨x, hx, hcx⟩ := cut_byte t c hct hc
      exact ⟨x, List.mem_cons_of_mem _ hx, hcx⟩
    · rw [cut, if_neg he]
      split
      · rename_i h0; exact absurd h0 (cut_ne t)
      · rename_i hd r h0
        rcases List.mem_cons.1 h with rfl | h
        · exact ⟨c :: hd, by simp, by simp⟩
        · obtain ⟨x, hx, hcx⟩ := cut_byte t c h hc
          rw [h0] at hx
          rcases List.mem_cons.1 hx with rfl | hx
          · exact ⟨e :: x, by simp, by simp [hcx]⟩
          · exact ⟨x, by simp [hx], hcx⟩
/-- A byte that may stand in a label. -/
def mayB (c : UInt8) : Bool := edgeR (c.toNat : Int) || (c.toNat : Int) == 45 || (c.toNat : Int) == 95
theorem label_byte {x : Str} {c : UInt8} (h : labelB x = true) (hc : c ∈ x) : mayB c = true := by
  unfold labelB at h
  simp only [Bool.and_eq_true, List.all_eq_true, List.mem_range] at h
  obtain ⟨k, hk⟩ := List.mem_iff_getElem?.1 hc
  have hlt := (List.getElem?_eq_some_iff.1 hk).1
  have := h.2 k hlt
  rw [List.getD_eq_getElem?_getD, hk] at this
  simp only [Option.getD_some] at this
  unfold mayB
  unfold okR innerR at this
  split at this
  · rw [this]; rfl
  · split at this
    · rcases Bool.or_eq_true _ _ ▸ this with h1 | h1
      · rw [h1]; rfl
      · rw [h1]; simp
    · rcases Bool.or_eq_true _ _ ▸ this with h1 | h1
      · rw [h1]; simp
      · rw [h1]; rfl
theorem bad_byte {l : Str} {c : UInt8} (hc : c ∈ l) (h46 : c ≠ 46) (hm : mayB c = false) : isB l = false := by
  rw [Bool.eq_false_iff]; intro h
  obtain ⟨x, hx, hcx⟩ := cut_byte l c hc h46
  rw [label_byte ((isB_iff.1 h).2.2 x hx) hcx] at hm; cases hm
theorem cut_set : ∀ (l : Str) (i : Nat) (c d : UInt8), l[i]? = some d → d ≠ 46 → c ≠ 46 → ∃ pre x post j, cut l = pre ++ x :: post ∧ cut (l.set i c) = pre ++ x.set j c :: post
  | [], _, _, _, h, _, _ => by simp at h
  | e :: t, 0, c, d, h, hd, hc => by
    simp at h; subst h
    rw [List.set_cons_zero, cut, if_neg hd, cut, if_neg hc]
    cases h0 : cut t with
    | nil => exact absurd h0 (cut_ne t)
    | cons x r => exact ⟨[], e :: x, r, 0, rfl, rfl⟩
  | e :: t, i + 1, c, d, h, hd, hc => by
    rw [List.set_cons_succ]
    obtain ⟨pre, x, post, j, h1, h2⟩ := cut_set t i c d (by simpa using h) hd hc
    by_cases he : e = 46
    · refine ⟨[] :: pre, x, post, j, ?_, ?_⟩
      · rw [cut, if_pos he, h1]; rfl
      · rw [cut, if_pos he, h2]; rfl
    · cases pre with
      | nil =>
        refine ⟨[], e :: x, post, j + 1, ?_, ?_⟩
        · rw [cut, if_neg he, h1]; rfl
        · rw [cut, if_neg he, h2]; rfl
      | cons p ps =>
        refine ⟨(e :: p) :: ps, x, post, j, ?_, ?_⟩
        · rw [cut, if_neg he, h1]; rfl
        · rw [cut, if_neg he, h2]; rfl
theorem label_set {x : Str} {j : Nat} {c : UInt8} (h : labelB x = true) (hc : edgeR (c.toNat : Int) = true) : labelB (x.set j c) = true := by
  unfold labelB at h ⊢
  simp only [Bool.and_eq_true, List.all_eq_true, List.mem_range, List.length_set] at h ⊢
  refine ⟨h.1, fun k hk => ?_⟩
  have := h.2 k hk
  rw [List.getD_eq_getElem?_getD, List.getElem?_set]
  split
  · rename_i hj; subst hj
    rw [if_pos hk, Option.getD_some]
    unfold okR innerR
    rw [hc]; simp
  · rw [← List.getD_eq_getElem?_getD]; exact this
theorem name_set {l : Str} {i : Nat} {c d : UInt8} (h : isB l = true) (hl : l[i]? = some d) (hd : d ≠ 46) (hc : edgeR (c.toNat : Int) = true) : isB (l.set i c) = true := by
  have hc46 : c ≠ 46 := by rintro rfl; revert hc; decide
  obtain ⟨pre, x, post, j, h1, h2⟩ := cut_set l i c d hl hd hc46
  obtain ⟨a, b, e⟩ := isB_iff.1 h
  rw [h1] at b e
  refine isB_iff.2 ⟨by rw [List.length_set]; exact a, by rw [h2]; simpa using b, ?_⟩
  rw [h2]
  intro y hy
  rcases List.mem_append.1 hy with hy | hy
  · exact e y (List.mem_append_left _ hy)
  · rcases List.mem_cons.1 hy with rfl | hy
    · exact label_set (e x (by simp)) hc
    · exact e y (by simp [hy])
end Nam
end Go.Proofs.YtjjkonaopmipoaaDoor
