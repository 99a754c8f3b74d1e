/- Lists from the last element on, with their places: what slices.Backward hands out. -/
import Derived.Test.YtjjkonaopmipoaaDoorRep
namespace Go.Proofs.YtjjkonaopmipoaaDoor
open Go.RowKit
/-- What a walk from the end meets: places and elements. -/
def backL {α : Type} (l : List α) : List (Nat × α) := (l.zipIdx.map fun p => (p.2, p.1)).reverse
theorem backL_length {α : Type} (l : List α) : (backL l).length = l.length := by simp [backL]
theorem backL_get {α : Type} {l : List α} {k j : Nat} {e : α} (hj : j + 1 + k = l.length) (he : l[j]? = some e) : (backL l)[k]? = some (j, e) := by
  unfold backL
  rw [List.getElem?_reverse (by simp; omega)]
  simp only [List.length_map, List.length_zipIdx]
  rw [show l.length - 1 - k = j by omega, List.getElem?_map, List.getElem?_zipIdx, he]
  simp
theorem backL_inv {α : Type} {l : List α} {k : Nat} {p : Nat × α} (h : (backL l)[k]? = some p) : p.1 + 1 + k = l.length ∧ l[p.1]? = some p.2 := by
  have hk : k < l.length := by have := (List.getElem?_eq_some_iff.1 h).1; rwa [backL_length] at this
  obtain ⟨e, he⟩ := get_some (l := l) (n := l.length) rfl (k := l.length - 1 - k) (by omega)
  have := backL_get (k := k) (by omega) he
  rw [this] at h; cases h
  exact ⟨by simp; omega, he⟩
/-- The counter of a walk from the end: m are still to come. -/
def BkI (i : Value) (m : Nat) : Prop := (m = 0 ∧ i = .int .i64 (-1)) ∨ ∃ j : Nat, m = j + 1 ∧ i = .int .i64 j
theorem bkI_pred (m : Nat) : BkI (.int .i64 ((m : Int) - 1)) m := by
  cases m with
  | zero => exact .inl ⟨rfl, rfl⟩
  | succ j => exact .inr ⟨j, rfl, by congr 1; omega⟩
end Go.Proofs.YtjjkonaopmipoaaDoor
