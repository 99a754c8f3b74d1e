/- Names, in plain Lean: up step by step; a label more; one byte more. -/
import Derived.Test.YtjjkonaopmipoaaDoorNcQ
namespace Go.Proofs.YtjjkonaopmipoaaDoor
namespace Nam
/-- A text is of one label, or a label, a dot and a text. -/
theorem cut_split : ∀ s : Str, ((∀ c ∈ s, c ≠ (46 : UInt8)) ∧ cut s = [s] ∧ afterDot s = []) ∨ ∃ x t, (∀ c ∈ x, c ≠ (46 : UInt8)) ∧ s = x ++ 46 :: t
  | [] => .inl ⟨by simp, rfl, rfl⟩
  | c :: s => by
    by_cases hc : c = 46
    · exact .inr ⟨[], s, by simp, by rw [hc]; rfl⟩
    · rcases cut_split s with ⟨h1, h2, h3⟩ | ⟨x, t, hx, rfl⟩
      · left
        refine ⟨?_, ?_, ?_⟩
        · intro d hd
          rcases List.mem_cons.1 hd with rfl | hd
          · exact hc
          · exact h1 d hd
        · rw [cut, if_neg hc, h2]
        · rw [afterDot, if_neg hc, h3]
      · right
        refine ⟨c :: x, t, ?_, rfl⟩
        intro d hd
        rcases List.mem_cons.1 hd with rfl | hd
        · exact hc
        · exact hx d hd
/-- Above a name there is nothing, or a name of a label less. -/
theorem up_step {s : Str} (h : isB s = true) : (cut s = [s] ∧ up s = []) ∨ (isB (up s) = true ∧ up s ≠ [] ∧ ∃ x, cut s = x :: cut (up s) ∧ s = x ++ 46 :: up s) := by
  have hu : up s = afterDot s := by unfold up; rw [if_pos h]
  rcases cut_split s with ⟨_, h2, h3⟩ | ⟨x, t, hx, rfl⟩
  · left; exact ⟨h2, by rw [hu, h3]⟩
  · right
    have ht := ((isB_cons hx).1 h).2.1
    rw [hu, afterDot_cons hx]
    refine ⟨ht, ?_, x, cut_cons hx, rfl⟩
    rintro rfl; cases ht
/-- What the law's search on the way up finds. -/
def metF (apex : Str) : Nat → Str → Bool → Bool
  | 0, _, m => m
  | n + 1, a, m => if a = [] then m else metF apex n (up a) (m || a == apex)
theorem metF_nil (apex : Str) (n : Nat) (m : Bool) : metF apex n [] m = m := by cases n <;> simp [metF]
theorem metF_eq (apex : Str) : ∀ (n : Nat) (a : Str) (m : Bool), isB a = true → (cut a).length ≤ n → metF apex n a m = (m || a == apex || belowB a apex)
  | 0, a, m, _, hn => by
    have := cut_ne a
    cases hc : cut a with
    | nil => exact absurd hc this
    | cons x r => rw [hc] at hn; simp at hn
  | n + 1, a, m, h, hn => by
    have ha : a ≠ [] := by rintro rfl; cases h
    rw [metF, if_neg ha]
    rcases up_step h with ⟨_, h2⟩ | ⟨h1, h2, x, h3, _⟩
    · rw [h2, metF_nil]
      have : belowB a apex = false := by
        rw [Bool.eq_false_iff]; intro hb; rw [belowB_mem, aboveQ_end h2] at hb; cases hb
      rw [this, Bool.or_false]
    · rw [h3] at hn
      rw [metF_eq apex n (up a) _ h1 (by simpa using hn)]
      have : belowB a apex = (up a == apex || belowB (up a) apex) := by
        rw [Bool.eq_iff_iff, below_up h2, Bool.or_eq_true, beq_iff_eq]
        exact ⟨fun h => h.imp Eq.symm id, fun h => h.imp Eq.symm id⟩
      rw [this]
      simp [Bool.or_assoc]
theorem metF_nine {s apex : Str} (h : isB s = true) : metF apex 9 s false = (s == apex || belowB s apex) := by
  rw [metF_eq apex 9 s false h (by have := (isB_iff.1 h).2.1; omega)]; simp
theorem under_nil {s : Str} (h : isB s = true) : underB s [] = true := by unfold underB; rw [h]; rfl
theorem under_met {s apex : Str} (h : isB s = true) : underB s apex = (metF apex 9 s false || apex.isEmpty) := by
  unfold underB; rw [h, metF_nine h, Bool.true_and]
  cases apex.isEmpty <;> cases s == apex <;> cases belowB s apex <;> rfl
theorem below_self (s : Str) : belowB s s = false := by
  rw [Bool.eq_false_iff]; intro h; have := (below_len h).1; omega
theorem pat_star (a : Str) (s : Str) (hs : isB s = true) (h : rpatB (42 :: 46 :: a) = true) : rmatchB (42 :: 46 :: a) s = (metF a 9 s false && !(s == a)) := by
  have hst : starB (42 :: 46 :: a) = true := by
    rcases rpat_cases h with h | h
    · rw [isB_star] at h; cases h
    · exact h
  obtain ⟨b, hb, hb2⟩ := star_form hst
  simp at hb; subst hb
  rw [rmatch_star hst, hs, hb2, metF_nine hs, Bool.true_and]
  by_cases e : s = a
  · subst e; rw [below_self]; simp
  · rw [show (s == a) = false from by rw [beq_eq_false_iff_ne]; exact e]; simp
/-! ## A label more -/
theorem label_name {x : Str} (hx : ∀ c ∈ x, c ≠ (46 : UInt8)) : isB x = labelB x := by
  have hc : cut x = [x] := by
    rcases cut_split x with ⟨_, h, _⟩ | ⟨y, t, _, rfl⟩
    · exact h
    · exact absurd rfl (hx 46 (by simp))
  rw [Bool.eq_iff_iff, isB_iff, hc]
  constructor
  · rintro ⟨_, _, h⟩; exact h x (by simp)
  · intro h
    refine ⟨?_, by simp, by intro y hy; simp at hy; rw [hy]; exact h⟩
    unfold labelB at h; simp only [Bool.and_eq_true, decide_eq_true_eq] at h; omega
theorem more_name {x s : Str} (hx : ∀ c ∈ x, c ≠ (46 : UInt8)) (hs : isB s = true) :
    isB (x ++ 46 :: s) = (isB x && decide ((x ++ 46 :: s).length ≤ 64) && decide ((cut s).length < 8)) := by
  rw [Bool.eq_iff_iff, isB_cons hx, label_name hx, hs]
  simp only [Bool.and_eq_true, decide_eq_true_eq]
  exact ⟨fun ⟨a, _, b, c⟩ => ⟨⟨a, b⟩, c⟩, fun ⟨⟨a, b⟩, c⟩ => ⟨a, trivial, b, c⟩⟩
theorem up_no {s : Str} (h : isB s = false) : up s = [] := by unfold up; rw [h]; rfl
theorem more_under {x s : Str} (hx : ∀ c ∈ x, c ≠ (46 : UInt8)) (hs : isB s = true) (h : isB (x ++ 46 :: s) = true) : underB (x ++ 46 :: s) s = true := by
  unfold underB
  have hne : s ≠ [] := by rintro rfl; cases hs
  have : belowB (x ++ 46 :: s) s = true := by
    rw [below_up (by rw [up_cons hx h]; exact hne), up_cons hx h]; exact .inl rfl
  rw [h, this]; simp
end Nam
end Go.Proofs.YtjjkonaopmipoaaDoor
