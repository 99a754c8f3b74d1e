/- Names, in plain Lean: the labels joined again; up as often as there are labels. -/
import Derived.Test.YtjjkonaopmipoaaDoorNcR
namespace Go.Proofs.YtjjkonaopmipoaaDoor
namespace Nam
/-- The first k labels, with dots between. -/
def joinTo (L : List Str) : Nat → Str
  | 0 => []
  | 1 => L.getD 0 []
  | k + 2 => joinTo L (k + 1) ++ 46 :: L.getD (k + 1) []
theorem joinTo_cons (x : Str) (L : List Str) : ∀ (k : Nat), 1 ≤ k → joinTo (x :: L) (k + 1) = x ++ 46 :: joinTo L k
  | 0, h => by omega
  | 1, _ => by simp [joinTo]
  | k + 2, _ => by
    rw [joinTo, joinTo_cons x L (k + 1) (by omega), joinTo]
    simp
theorem join_cut : ∀ (n : Nat) (s : Str), s.length < n → joinTo (cut s) (cut s).length = s
  | 0, _, h => by omega
  | n + 1, s, h => by
    rcases cut_split s with ⟨_, h2, _⟩ | ⟨x, t, hx, rfl⟩
    · rw [h2]; rfl
    · rw [cut_cons hx]
      have hne := cut_ne t
      have hl : 1 ≤ (cut t).length := by
        cases hc : cut t with
        | nil => exact absurd hc hne
        | cons => simp
      rw [List.length_cons, joinTo_cons x (cut t) _ hl, join_cut n t (by simp at h; omega)]
theorem join_all (s : Str) : joinTo (cut s) (cut s).length = s := join_cut _ s (Nat.lt_succ_self _)
/-- k times up. -/
def upTimes : Nat → Str → Str
  | 0, s => s
  | k + 1, s => upTimes k (up s)
theorem upTimes_succ : ∀ (k : Nat) (s : Str), upTimes (k + 1) s = up (upTimes k s)
  | 0, _ => rfl
  | k + 1, s => by
    show upTimes (k + 1) (up s) = up (upTimes k (up s))
    exact upTimes_succ k (up s)
theorem upTimes_facts : ∀ (k : Nat) (s : Str), isB s = true → (k < (cut s).length → upTimes k s ≠ []) ∧ (k = (cut s).length → upTimes k s = [])
  | 0, s, h => ⟨fun _ e => (by rw [show upTimes 0 s = s from rfl] at e; rw [e] at h; cases h), fun e => absurd (List.eq_nil_of_length_eq_zero e.symm) (cut_ne s)⟩
  | k + 1, s, h => by
    rcases up_step h with ⟨h1, h2⟩ | ⟨h1, _, x, h3, _⟩
    · rw [h1]
      refine ⟨fun e => by simp at e, fun e => ?_⟩
      simp at e; subst e
      exact h2
    · rw [h3]
      obtain ⟨a, b⟩ := upTimes_facts k (up s) h1
      exact ⟨fun e => a (by simpa using e), fun e => b (by simpa using e)⟩
/-- More than one label: what is above it is a name of all but the first label, and it lies under it, not the other way. -/
theorem up_more {s : Str} (h : isB s = true) (hl : 1 < (cut s).length) : isB (up s) = true ∧ cut (up s) = (cut s).drop 1 ∧ underB s (up s) = true ∧ underB (up s) s = false := by
  rcases up_step h with ⟨h1, _⟩ | ⟨h1, h2, x, h3, _⟩
  · rw [h1] at hl; simp at hl
  · refine ⟨h1, by rw [h3]; rfl, ?_, ?_⟩
    · unfold underB
      rw [h, (below_up h2).2 (.inl rfl)]; simp
    · have hlt := up_lt s h2
      unfold underB
      rw [h1, Bool.true_and]
      have e1 : s.isEmpty = false := by cases s with | nil => cases h | cons => rfl
      have e2 : (up s == s) = false := by rw [beq_eq_false_iff_ne]; intro e; rw [e] at hlt; omega
      have e3 : belowB (up s) s = false := by
        rw [Bool.eq_false_iff]; intro hb; have := (below_len hb).1; omega
      rw [e1, e2, e3]; rfl
end Nam
end Go.Proofs.YtjjkonaopmipoaaDoor
