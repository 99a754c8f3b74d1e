/- Slices of elements of several cells: how a value reads as a list. -/
import Derived.Test.YtjjkonaopmipoaaDoorSl
namespace Go.Proofs.YtjjkonaopmipoaaDoor
open Go.RowKit

/-- How one element lies in memory: at a block, from an offset on. -/
abbrev ElR (α : Type) := World → Nat → Nat → α → Prop
/-- A reading that no new block and no foreign store turns. -/
class Firm {α : Type} (R : ElR α) : Prop where
  ext : ∀ {w w' : World} {b o : Nat} {x : α}, R w b o x → Ext w w' → R w' b o x
/-- From address a on there lie l, each of n cells. -/
def SlA {α : Type} (n : Nat) (R : ElR α) (w : World) (a : Option Addr) (l : List α) : Prop :=
  ∀ i x, l[i]? = some x → ∃ b off, a = some ⟨b, off, none⟩ ∧ R w b (off + i * n) x
theorem SlA.ext {α : Type} {n : Nat} {R : ElR α} [Firm R] {w w' : World} {a : Option Addr} {l : List α} (h : SlA n R w a l) (hE : Ext w w') : SlA n R w' a l := fun i x hx => by
  obtain ⟨b, off, ha, hR⟩ := h i x hx
  exact ⟨b, off, ha, Firm.ext hR hE⟩
theorem SlA.nil {α : Type} (n : Nat) (R : ElR α) (w : World) (a : Option Addr) : SlA n R w a [] := fun i x hx => by simp at hx
theorem SlA.take {α : Type} {n : Nat} {R : ElR α} {w : World} {a : Option Addr} {l : List α} (h : SlA n R w a l) (k : Nat) : SlA n R w a (l.take k) := fun i x hx => by
  rw [List.getElem?_take] at hx
  split at hx
  · exact h i x hx
  · cases hx
/-- v is a slice that reads as l. -/
def SlV {α : Type} (n : Nat) (R : ElR α) (w : World) (v : Value) (l : List α) : Prop :=
  ∃ a cap, v = .slice a l.length cap ∧ l.length ≤ cap ∧ cap ≤ maxLen ∧ SlA n R w a l
theorem SlV.ext {α : Type} {n : Nat} {R : ElR α} [Firm R] {w w' : World} {v : Value} {l : List α} (h : SlV n R w v l) (hE : Ext w w') : SlV n R w' v l := by
  obtain ⟨a, cap, h1, h2, h3, h4⟩ := h
  exact ⟨a, cap, h1, h2, h3, h4.ext hE⟩
theorem ext_alloc {w w' : World} (h : Ext w w') (o : Obj) : Ext w (w'.alloc o) := h.alloc h.size o
theorem ext_drewN {w w' : World} (h : Ext w w') (n : Nat) : Ext w (w'.drewN n) := Below.drewN' h n
theorem take_snoc {α : Type} {l : List α} {k : Nat} {e : α} (h : l[k]? = some e) : l.take (k + 1) = l.take k ++ [e] := by
  rw [List.take_add_one, h]; rfl
theorem get_some {α : Type} {l : List α} {k n : Nat} (hn : l.length = n) (h : k < n) : ∃ e, l[k]? = some e := ⟨_, List.getElem?_eq_getElem (by rw [hn]; exact h)⟩
end Go.Proofs.YtjjkonaopmipoaaDoor
