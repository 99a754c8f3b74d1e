/- Names, in plain Lean: what the program's functions on names compute, and plain facts on them. No program in sight. -/
import Derived.Lib.IndexBytes
import Derived.Lib.SplitLaws
import Derived.Lib.CutLaws
namespace Go.Proofs.YtmdmbdbbpdojnaaGreatDoor
namespace Nam
abbrev Str := List UInt8
def edgeR (r : Int) : Bool := (decide (97 ≤ r) && decide (r ≤ 122)) || (decide (48 ≤ r) && decide (r ≤ 57))
def innerR (r : Int) : Bool := r == 45 || edgeR r
def okR (n k : Nat) (r : Int) : Bool := if k + 1 = n then edgeR r else if k = 0 then edgeR r || r == 95 else innerR r
def labelB (l : Str) : Bool := decide (1 ≤ l.length) && decide (l.length ≤ 16) && (List.range l.length).all fun k => okR l.length k ((l.getD k 0).toNat : Int)
def cut : Str → List Str
  | [] => [[]]
  | c :: t => if c = 46 then [] :: cut t else match cut t with
    | [] => [[c]]
    | h :: r => (c :: h) :: r
def nameB (l : Str) (labels bytes : Nat) : Bool := decide (l.length ≤ bytes) && decide ((cut l).length ≤ labels) && (cut l).all labelB
/-- An Errno that is OK, or e. -/
def okOr (e : Int) (b : Bool) : Int := if b then 0 else e
theorem okOr_true (e : Int) : okOr e true = 0 := rfl
theorem okOr_false (e : Int) : okOr e false = e := rfl
def isB (l : Str) : Bool := nameB l 8 64
def afterDot : Str → Str
  | [] => []
  | c :: t => if c = 46 then t else afterDot t
def up (l : Str) : Str := if isB l then afterDot l else []
/-- What a pattern is of, whether it is a star, whether it is one. -/
def pattern (l : Str) : Str × Bool × Bool :=
  if isB l then (l, false, true) else
  if Lib.hasPrefix l [42, 46] then (l.drop 2, true, nameB (l.drop 2) 7 62) else (l, false, false)
/-- All that is above. -/
def above : Nat → Str → List Str
  | 0, _ => []
  | n + 1, l => if up l = [] then [] else up l :: above n (up l)
def belowB (s o : Str) : Bool := (above (s.length + 1) s).contains o
def underB (s apex : Str) : Bool := isB s && (apex.isEmpty || s == apex || belowB s apex)
def matchB (pat s : Str) : Bool := if !(pattern pat).2.2 || !isB s then false else if (pattern pat).2.1 then belowB s (pattern pat).1 else (pattern pat).1 == s
def withinB (p q : Str) : Bool :=
  if !(pattern p).2.2 || !(pattern q).2.2 then false else if !(pattern p).2.1 then matchB q (pattern p).1 else (pattern q).2.1 && underB (pattern p).1 (pattern q).1
def meetsB (p q : Str) : Bool := withinB p q || withinB q p

/-! What the document's functions compute. -/
def starB (l : Str) : Bool := decide (3 ≤ l.length) && decide (l.length ≤ 64) && l.getD 0 0 == 42 && l.getD 1 0 == 46 && isB (l.drop 2) && decide ((cut (l.drop 2)).length ≤ 7)
def starOf (l : Str) : Str := if starB l then l.drop 2 else []
def rpatB (l : Str) : Bool := starB l || isB l
def rmatchB (pat s : Str) : Bool := if !isB s then false else if starB pat then belowB s (starOf pat) else pat == s
def rwithinB (p q : Str) : Bool := if !rpatB p || !rpatB q then false else if !starB p then rmatchB q p else starB q && (starOf p == starOf q || belowB (starOf p) (starOf q))
def rmeetsB (p q : Str) : Bool := if starB p && starB q then starOf p == starOf q || belowB (starOf p) (starOf q) || belowB (starOf q) (starOf p) else rmatchB p q || rmatchB q p
theorem cut_ne (l : Str) : cut l ≠ [] := by
  cases l with
  | nil => simp [cut]
  | cons c t =>
    unfold cut
    split
    · simp
    · split <;> simp
theorem cut_none : ∀ (l : Str), Lib.indexByte l 46 = -1 → cut l = [l]
  | [], _ => rfl
  | c :: t, h => by
    unfold Lib.indexByte at h
    by_cases hc : c = 46
    · simp [hc] at h
    · have hc' : (c == 46) = false := by simpa using hc
      rw [hc'] at h
      by_cases ht : Lib.indexByte t 46 = -1
      · unfold cut; rw [if_neg hc, cut_none t ht]
      · have := Lib.indexByte_ge t 46
        have ht' : (Lib.indexByte t 46 == -1) = false := by simpa using ht
        rw [ht'] at h; (simp at h <;> omega)
theorem cut_some : ∀ (l : Str) (i : Nat), Lib.indexByte l 46 = i → cut l = l.take i :: cut (l.drop (i + 1))
  | [], i, h => by simp [Lib.indexByte] at h
  | c :: t, i, h => by
    unfold Lib.indexByte at h
    by_cases hc : c = 46
    · simp [hc] at h
      obtain rfl : i = 0 := by omega
      simp [cut, hc]
    · have hc' : (c == 46) = false := by simpa using hc
      rw [hc'] at h
      by_cases ht : Lib.indexByte t 46 = -1
      · rw [ht] at h; (simp at h <;> omega)
      · have hg := Lib.indexByte_ge t 46
        have ht' : (Lib.indexByte t 46 == -1) = false := by simpa using ht
        rw [ht'] at h; simp at h
        obtain ⟨j, rfl⟩ : ∃ j, i = j + 1 := ⟨i - 1, by omega⟩
        have := cut_some t j (by omega)
        rw [cut, if_neg hc, this]
        simp
theorem cut_length : ∀ (l : Str), (cut l).length = Lib.countByte l 46 + 1
  | [] => rfl
  | c :: t => by
    have ih := cut_length t
    unfold cut Lib.countByte
    unfold Lib.countByte at ih
    by_cases hc : c = 46
    · subst hc; simp [ih]
    · rw [if_neg hc, List.count_cons_of_ne (Ne.symm (fun h => hc h.symm))]
      split
      · rename_i h; exact absurd h (cut_ne t)
      · rename_i h; rw [h] at ih; simpa using ih
theorem take_eq (r : ByteArray) (i : Nat) : r.extract 0 i = ⟨(r.data.toList.take i).toArray⟩ := by
  apply ByteArray.ext; apply Array.ext'
  simp [ByteArray.data_extract, Array.toList_extract, List.extract_eq_take_drop]
theorem drop_eq (r : ByteArray) (i : Nat) : r.extract i r.size = ⟨(r.data.toList.drop i).toArray⟩ := by
  apply ByteArray.ext; apply Array.ext'
  have := Lib.extract_to_end r i
  simpa using this
theorem eta (r : ByteArray) : (⟨r.data.toList.toArray⟩ : ByteArray) = r := by cases r; simp
theorem afterDot_none : ∀ (l : Str), Lib.indexByte l 46 = -1 → afterDot l = []
  | [], _ => rfl
  | c :: t, h => by
    have := Lib.indexByte_none h 0
    simp at this
    unfold afterDot; rw [if_neg this]
    refine afterDot_none t ?_
    unfold Lib.indexByte at h
    have hc' : (c == 46) = false := by simpa using this
    rw [hc'] at h
    by_cases ht : Lib.indexByte t 46 = -1
    · exact ht
    · have hg := Lib.indexByte_ge t 46
      have ht' : (Lib.indexByte t 46 == -1) = false := by simpa using ht
      rw [ht'] at h; (simp at h <;> omega)
theorem afterDot_some : ∀ (l : Str) (i : Nat), Lib.indexByte l 46 = i → afterDot l = l.drop (i + 1)
  | [], i, h => by simp [Lib.indexByte] at h
  | c :: t, i, h => by
    unfold Lib.indexByte at h
    by_cases hc : c = 46
    · simp [hc] at h
      obtain rfl : i = 0 := by omega
      simp [afterDot, hc]
    · have hc' : (c == 46) = false := by simpa using hc
      rw [hc'] at h
      by_cases ht : Lib.indexByte t 46 = -1
      · rw [ht] at h; (simp at h <;> omega)
      · have hg := Lib.indexByte_ge t 46
        have ht' : (Lib.indexByte t 46 == -1) = false := by simpa using ht
        rw [ht'] at h; simp at h
        obtain ⟨j, rfl⟩ : ∃ j, i = j + 1 := ⟨i - 1, by omega⟩
        have := afterDot_some t j (by omega)
        rw [afterDot, if_neg hc, this]
        simp
theorem afterDot_lt (l : Str) (h : afterDot l ≠ []) : (afterDot l).length < l.length := by
  induction l with
  | nil => simp [afterDot] at h
  | cons c t ih =>
    unfold afterDot at h ⊢
    split
    · simp
    · rename_i hc; rw [if_neg hc] at h; have := ih h; simp; omega
theorem up_lt (l : Str) (h : up l ≠ []) : (up l).length < l.length := by
  unfold up at h ⊢
  split
  · rename_i hi; rw [if_pos hi] at h; exact afterDot_lt l h
  · rename_i hi; rw [if_neg hi] at h; exact absurd rfl h
theorem above_fuel : ∀ (n m : Nat) (l : Str), l.length < n → l.length < m → above n l = above m l
  | 0, _, _, h, _ => absurd h (Nat.not_lt_zero _)
  | _, 0, _, _, h => absurd h (Nat.not_lt_zero _)
  | n + 1, m + 1, l, h1, h2 => by
    unfold above
    split
    · rfl
    · rename_i hu
      have := up_lt l hu
      rw [above_fuel n m _ (by omega) (by omega)]
theorem above_step (s : Str) (h : up s ≠ []) : above (s.length + 1) s = up s :: above ((up s).length + 1) (up s) := by
  have := up_lt s h
  rw [above, if_neg h, above_fuel _ ((up s).length + 1) _ (by omega) (by omega)]
theorem above_end (s : Str) (h : up s = []) : above (s.length + 1) s = [] := by rw [above, if_pos h]
theorem isB_iff {l : Str} : isB l = true ↔ l.length ≤ 64 ∧ (cut l).length ≤ 8 ∧ ∀ x ∈ cut l, labelB x = true := by
  unfold isB nameB
  simp only [Bool.and_eq_true, decide_eq_true_eq, List.all_eq_true]
  constructor
  · rintro ⟨⟨a, b⟩, c⟩; exact ⟨a, b, c⟩
  · rintro ⟨a, b, c⟩; exact ⟨⟨a, b⟩, c⟩
end Nam
end Go.Proofs.YtmdmbdbbpdojnaaGreatDoor
