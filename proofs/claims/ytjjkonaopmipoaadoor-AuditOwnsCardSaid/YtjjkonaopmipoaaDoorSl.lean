/- Slices of one-cell elements: what a value reads as, and how an append of one's own grows it. -/
import Derived.Test.YtjjkonaopmipoaaDoorBase
import Derived.Lib.Hide
namespace Go.Proofs.YtjjkonaopmipoaaDoor
open Go.RowKit

/-- From cell off of block b on there lie vs. -/
def Cells (w : World) (b off : Nat) (vs : List Value) : Prop := ∀ i x, vs[i]? = some x → w.cell? ⟨b, off + i, none⟩ = some x
theorem cell_lt' {w : World} {p : Addr} {v : Value} (h : w.cell? p = some v) : p.block < w.heap.size := by
  unfold World.cell? at h
  rcases Nat.lt_or_ge p.block w.heap.size with h1 | h1
  · exact h1
  · rw [Array.getElem?_eq_none h1] at h; cases h
theorem Cells.ext {w w' : World} {b off : Nat} {vs : List Value} (h : Cells w b off vs) (hE : Ext w w') : Cells w' b off vs :=
  fun i x hx => (hE.cell (p := ⟨b, off + i, none⟩) (cell_lt' (h i x hx))).trans (h i x hx)
theorem Cells.fr {S : Nat → Prop} {w w' : World} {b off : Nat} {vs : List Value} (h : Cells w b off vs) (hF : Fr S w w') (hb : ¬ S b) : Cells w' b off vs :=
  fun i x hx => (hF.cell (p := ⟨b, off + i, none⟩) (cell_lt' (h i x hx)) hb).trans (h i x hx)
theorem Cells.drop {w : World} {b off : Nat} {vs : List Value} (h : Cells w b off vs) (k : Nat) : Cells w b (off + k) (vs.drop k) := fun i x hx => by
  rw [List.getElem?_drop] at hx
  have := h (k + i) x hx
  rwa [← Nat.add_assoc] at this
/-- v is a slice that reads as vs. -/
def Sl (w : World) (v : Value) (vs : List Value) : Prop :=
  (vs = [] ∧ v = .slice none 0 0) ∨ ∃ b off cap, v = .slice (some ⟨b, off, none⟩) vs.length cap ∧ vs.length ≤ cap ∧ cap ≤ maxLen ∧ Cells w b off vs
theorem Sl.nil (w : World) : Sl w (.slice none 0 0) [] := .inl ⟨rfl, rfl⟩
theorem Sl.ext {w w' : World} {v : Value} {vs : List Value} (h : Sl w v vs) (hE : Ext w w') : Sl w' v vs := by
  rcases h with h | ⟨b, off, cap, h1, h2, h3, h4⟩
  · exact .inl h
  · exact .inr ⟨b, off, cap, h1, h2, h3, h4.ext hE⟩
theorem Sl.own {w : World} {base : Nat} {e : TypeId} {v : Value} {n : Nat} {xs : List Value} (h : w.ownsRow base e 1 v n xs) : Sl w v xs := by
  obtain ⟨h0, h1⟩ := h
  rcases h1 with ⟨hv, hn⟩ | ⟨g, cap, cur, hv, hg, hh, hc, hm, hcs, hx⟩
  · subst hn; exact .inl ⟨List.eq_nil_of_length_eq_zero (by omega), hv⟩
  · refine .inr ⟨g, 0, cap, by rw [hv]; congr 1; omega, by omega, hm, fun i x hi => ?_⟩
    rw [← hx, List.getElem?_take] at hi
    split at hi
    · simp only [World.cell?, hh]; simpa using hi
    · cases hi
theorem Sl.form {w : World} {v : Value} {vs : List Value} (h : Sl w v vs) : ∃ a cap, v = .slice a vs.length cap := by
  rcases h with ⟨rfl, rfl⟩ | ⟨b, off, cap, rfl, _⟩
  · exact ⟨_, _, rfl⟩
  · exact ⟨_, _, rfl⟩
theorem Ext.grown {A w w' : World} {row : Option Nat} (h : Ext A w) (hg : w.grownBy w' row) (hr : ∀ k, row = some k → A.heap.size ≤ k) : Ext A w' := Below.grown h hg h.size hr
theorem own_ge {w : World} {base : Nat} {e : TypeId} {size : Nat} {v : Value} {n : Nat} {xs : List Value} (h : w.ownsRow base e size v n xs) : ∀ k, v.ownBlock = some k → base ≤ k :=
  fun k hk => (h.lt k hk).1
theorem one_cell_new (w : World) (v : Value) (t : TypeId) : ∀ (j : Nat) (u : Value), [v][j]? = some u → (w.alloc (.cells #[v] t)).cell? ((⟨w.heap.size, 0, none⟩ : Addr).add j) = some u := by
  intro j u h
  cases j with
  | zero => simp at h; subst h; simp [Addr.add, go_sem]
  | succ j => simp at h
end Go.Proofs.YtjjkonaopmipoaaDoor
