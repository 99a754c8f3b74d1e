/- Audit, in plain Lean: who has a name; whether a world is fair. No program in sight. -/
import Derived.Test.YtjjkonaopmipoaaDoorNmP
namespace Go.Proofs.YtjjkonaopmipoaaDoor
namespace Aud
open Nam
/-- An event, as the program holds it. -/
structure Ev where
  kind : Int
  at_ : Int
  who : ByteArray
  name : ByteArray
  n : Int
  m : Int
/-- Does it give the name s to somebody, at now at the latest? -/
def hits (s : ByteArray) (now : Int) (e : Ev) : Bool := e.kind == 1 && e.name.toList == s.toList && decide (e.at_ ≤ now)
/-- The last one that does. -/
def lastHit (s : ByteArray) (now : Int) : List Ev → Option ByteArray
  | [] => none
  | e :: l => match lastHit s now l with
    | some x => some x
    | none => if hits s now e then some e.who else none
theorem lastHit_append (s : ByteArray) (now : Int) : ∀ (l r : List Ev), lastHit s now (l ++ r) = match lastHit s now r with
    | some x => some x
    | none => lastHit s now l
  | [], r => by
    show lastHit s now r = _
    cases lastHit s now r <;> rfl
  | e :: l, r => by
    show (match lastHit s now (l ++ r) with
      | some x => some x
      | none => if hits s now e then some e.who else none) = _
    rw [lastHit_append s now l r]
    cases h : lastHit s now r <;> simp [lastHit]
/-- One more at the end, seen by the reference's search. -/
theorem lastHit_snoc (s : ByteArray) (now : Int) (l : List Ev) (e : Ev) : lastHit s now (l ++ [e]) = if hits s now e then some e.who else lastHit s now l := by
  rw [lastHit_append]
  show (match (if hits s now e then some e.who else none) with
    | some x => some x
    | none => lastHit s now l) = _
  split <;> simp_all
/-- One more at the head, seen by the backward search: nothing behind it was one. -/
theorem lastHit_back (s : ByteArray) (now : Int) (l : List Ev) (e : Ev) (r : List Ev) (h : lastHit s now r = none) : lastHit s now (l ++ e :: r) = if hits s now e then some e.who else lastHit s now l := by
  rw [lastHit_append]
  show (match (match lastHit s now r with
    | some x => some x
    | none => if hits s now e then some e.who else none) with
    | some x => some x
    | none => lastHit s now l) = _
  rw [h]
  split <;> simp_all
/-- Who had a name: itself, or the nearest above it that somebody had. -/
def ownerF (l : List Ev) (now : Int) : Nat → Str → ByteArray
  | 0, _ => ⟨#[]⟩
  | n + 1, s => if s = [] then ⟨#[]⟩ else match lastHit ⟨s.toArray⟩ now l with
    | some x => x
    | none => ownerF l now n (up s)
theorem ownerF_fuel (l : List Ev) (now : Int) : ∀ (n m : Nat) (s : Str), s.length < n → s.length < m → ownerF l now n s = ownerF l now m s
  | 0, _, _, h, _ => absurd h (Nat.not_lt_zero _)
  | _, 0, _, _, h => absurd h (Nat.not_lt_zero _)
  | n + 1, m + 1, s, h1, h2 => by
    unfold ownerF
    split
    · rfl
    · split
      · rfl
      · by_cases hu : up s = []
        · rw [hu]; cases n <;> cases m <;> simp [ownerF]
        · have := up_lt s hu
          exact ownerF_fuel l now n m _ (by omega) (by omega)
def ownerB (l : List Ev) (s : Str) (now : Int) : ByteArray := ownerF l now (s.length + 1) s
theorem ownerB_nil (l : List Ev) (now : Int) : ownerB l [] now = ⟨#[]⟩ := rfl
theorem ownerB_hit {l : List Ev} {s : Str} {now : Int} {x : ByteArray} (hs : s ≠ []) (h : lastHit ⟨s.toArray⟩ now l = some x) : ownerB l s now = x := by
  unfold ownerB ownerF; rw [if_neg hs, h]
theorem ownerB_up {l : List Ev} {s : Str} {now : Int} (hs : s ≠ []) (h : lastHit ⟨s.toArray⟩ now l = none) : ownerB l s now = ownerB l (up s) now := by
  unfold ownerB; rw [ownerF, if_neg hs, h]
  by_cases hu : up s = []
  · rw [hu]; cases s with | nil => exact absurd rfl hs | cons a t => simp [ownerF]
  · have := up_lt s hu
    exact ownerF_fuel l now _ _ _ (by omega) (by omega)
/-- Has one of that kind and number been? -/
def seenB (l : List Ev) (kind n : Int) : Bool := l.any fun e => e.kind == kind && e.n == n
/-- How many different numbers the events of a kind have, behind those that have been ('r'). -/
def diffF (kind : Int) : List Ev → List Ev → Nat
  | _, [] => 0
  | r, e :: l => (if e.kind == kind && !seenB r kind e.n then 1 else 0) + diffF kind (r ++ [e]) l
def diffB (l : List Ev) (kind : Int) : Nat := diffF kind [] l
theorem diffF_snoc (kind : Int) : ∀ (l r : List Ev) (e : Ev), diffF kind r (l ++ [e]) = diffF kind r l + (if e.kind == kind && !seenB (r ++ l) kind e.n then 1 else 0)
  | [], r, e => by simp [diffF]
  | x :: l, r, e => by
    rw [List.cons_append, diffF, diffF, diffF_snoc kind l (r ++ [x]) e]
    simp [Nat.add_assoc]
theorem diffB_snoc (l : List Ev) (kind : Int) (e : Ev) : diffB (l ++ [e]) kind = diffB l kind + (if e.kind == kind && !seenB l kind e.n then 1 else 0) := by
  unfold diffB; rw [diffF_snoc]; rfl
theorem diffB_le : ∀ (l : List Ev) (kind : Int), diffB l kind ≤ l.length := by
  have h : ∀ (l r : List Ev) (kind : Int), diffF kind r l ≤ l.length := by
    intro l
    induction l with
    | nil => intro r kind; exact Nat.le_refl _
    | cons e l ih =>
      intro r kind
      rw [diffF, List.length_cons]
      have := ih (r ++ [e]) kind
      split <;> omega
  exact fun l kind => h l [] kind
/-- Whether there were few enough faults. -/
def fairB (l : List Ev) (need t : Int) : Bool := (l.all fun e => !(e.kind == 3 && decide (need ≤ e.m))) && decide ((diffB l 7 : Int) < t) && decide (diffB l 8 ≤ 1)
end Aud
end Go.Proofs.YtjjkonaopmipoaaDoor
