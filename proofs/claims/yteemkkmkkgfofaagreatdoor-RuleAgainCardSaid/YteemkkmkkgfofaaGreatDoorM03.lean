/- Names, in plain Lean: what the program's functions on names compute, and plain facts on them. No program in sight. Policies, in plain Lean: rules, what they may be. No program in sight. Rules' texts, in plain Lean: what tokens bytes are, and what reads them. No program in sight. Rules' texts, in plain Lean: what reads tokens. No program in sight. Rules' texts, in plain Lean: what is written is read again. No program in sight. Rules' texts, in plain Lean: tokens of a rule of form are read as that rule; what is read is of form. No program in sight. -/
import Derived.Lib.IndexBytes
import Derived.Lib.SplitLaws
import Derived.Lib.CutLaws
import Derived.Lib.ItoaNum
import Derived.Lib.ParseIntB
namespace Go.Proofs.YteemkkmkkgfofaaGreatDoor
namespace Nam
abbrev Str := List UInt8
def edgeR (r : Int) : Bool := (decide (97 ≤ r) && decide (r ≤ 122)) || (decide (48 ≤ r) && decide (r ≤ 57))
def innerR (r : Int) : Bool := r == 45 || edgeR r
def okR (n k : Nat) (r : Int) : Bool := if k + 1 = n then edgeR r else if k = 0 then edgeR r || r == 95 else innerR r
def labelB (l : Str) : Bool := decide (1 ≤ l.length) && decide (l.length ≤ 16) && (List.range l.length).all fun k => okR l.length k ((l.getD k 0).toNat : Int)
def cut : Str → List Str
  | [] => [[]]
  | c :: t => if c = 46 then [] :: cut t else match cut t with
    | [] => [[c]]
    | h :: r => (c :: h) :: r
def nameB (l : Str) (labels bytes : Nat) : Bool := decide (l.length ≤ bytes) && decide ((cut l).length ≤ labels) && (cut l).all labelB
/-- An Errno that is OK, or e. -/
def okOr (e : Int) (b : Bool) : Int := if b then 0 else e
theorem okOr_true (e : Int) : okOr e true = 0 := rfl
theorem okOr_false (e : Int) : okOr e false = e := rfl
def isB (l : Str) : Bool := nameB l 8 64
def afterDot : Str → Str
  | [] => []
  | c :: t => if c = 46 then t else afterDot t
def up (l : Str) : Str := if isB l then afterDot l else []
/-- What a pattern is of, whether it is a star, whether it is one. -/
def pattern (l : Str) : Str × Bool × Bool :=
  if isB l then (l, false, true) else
  if Lib.hasPrefix l [42, 46] then (l.drop 2, true, nameB (l.drop 2) 7 62) else (l, false, false)
/-- All that is above. -/
def above : Nat → Str → List Str
  | 0, _ => []
  | n + 1, l => if up l = [] then [] else up l :: above n (up l)
def belowB (s o : Str) : Bool := (above (s.length + 1) s).contains o
def underB (s apex : Str) : Bool := isB s && (apex.isEmpty || s == apex || belowB s apex)
def matchB (pat s : Str) : Bool := if !(pattern pat).2.2 || !isB s then false else if (pattern pat).2.1 then belowB s (pattern pat).1 else (pattern pat).1 == s
def withinB (p q : Str) : Bool :=
  if !(pattern p).2.2 || !(pattern q).2.2 then false else if !(pattern p).2.1 then matchB q (pattern p).1 else (pattern q).2.1 && underB (pattern p).1 (pattern q).1
def meetsB (p q : Str) : Bool := withinB p q || withinB q p

/-! What the document's functions compute. -/
def starB (l : Str) : Bool := decide (3 ≤ l.length) && decide (l.length ≤ 64) && l.getD 0 0 == 42 && l.getD 1 0 == 46 && isB (l.drop 2) && decide ((cut (l.drop 2)).length ≤ 7)
def starOf (l : Str) : Str := if starB l then l.drop 2 else []
def rpatB (l : Str) : Bool := starB l || isB l
def rmatchB (pat s : Str) : Bool := if !isB s then false else if starB pat then belowB s (starOf pat) else pat == s
def rwithinB (p q : Str) : Bool := if !rpatB p || !rpatB q then false else if !starB p then rmatchB q p else starB q && (starOf p == starOf q || belowB (starOf p) (starOf q))
def rmeetsB (p q : Str) : Bool := if starB p && starB q then starOf p == starOf q || belowB (starOf p) (starOf q) || belowB (starOf q) (starOf p) else rmatchB p q || rmatchB q p
theorem cut_ne (l : Str) : cut l ≠ [] := by
  cases l with
  | nil => simp [cut]
  | cons c t =>
    unfold cut
    split
    · simp
    · split <;> simp
theorem cut_none : ∀ (l : Str), Lib.indexByte l 46 = -1 → cut l = [l]
  | [], _ => rfl
  | c :: t, h => by
    unfold Lib.indexByte at h
    by_cases hc : c = 46
    · simp [hc] at h
    · have hc' : (c == 46) = false := by simpa using hc
      rw [hc'] at h
      by_cases ht : Lib.indexByte t 46 = -1
      · unfold cut; rw [if_neg hc, cut_none t ht]
      · have := Lib.indexByte_ge t 46
        have ht' : (Lib.indexByte t 46 == -1) = false := by simpa using ht
        rw [ht'] at h; (simp at h <;> omega)
theorem cut_some : ∀ (l : Str) (i : Nat), Lib.indexByte l 46 = i → cut l = l.take i :: cut (l.drop (i + 1))
  | [], i, h => by simp [Lib.indexByte] at h
  | c :: t, i, h => by
    unfold Lib.indexByte at h
    by_cases hc : c = 46
    · simp [hc] at h
      obtain rfl : i = 0 := by omega
      simp [cut, hc]
    · have hc' : (c == 46) = false := by simpa using hc
      rw [hc'] at h
      by_cases ht : Lib.indexByte t 46 = -1
      · rw [ht] at h; (simp at h <;> omega)
      · have hg := Lib.indexByte_ge t 46
        have ht' : (Lib.indexByte t 46 == -1) = false := by simpa using ht
        rw [ht'] at h; simp at h
        obtain ⟨j, rfl⟩ : ∃ j, i = j + 1 := ⟨i - 1, by omega⟩
        have := cut_some t j (by omega)
        rw [cut, if_neg hc, this]
        simp
theorem cut_length : ∀ (l : Str), (cut l).length = Lib.countByte l 46 + 1
  | [] => rfl
  | c :: t => by
    have ih := cut_length t
    unfold cut Lib.countByte
    unfold Lib.countByte at ih
    by_cases hc : c = 46
    · subst hc; simp [ih]
    · rw [if_neg hc, List.count_cons_of_ne (Ne.symm (fun h => hc h.symm))]
      split
      · rename_i h; exact absurd h (cut_ne t)
      · rename_i h; rw [h] at ih; simpa using ih
theorem take_eq (r : ByteArray) (i : Nat) : r.extract 0 i = ⟨(r.data.toList.take i).toArray⟩ := by
  apply ByteArray.ext; apply Array.ext'
  simp [ByteArray.data_extract, Array.toList_extract, List.extract_eq_take_drop]
theorem drop_eq (r : ByteArray) (i : Nat) : r.extract i r.size = ⟨(r.data.toList.drop i).toArray⟩ := by
  apply ByteArray.ext; apply Array.ext'
  have := Lib.extract_to_end r i
  simpa using this
theorem eta (r : ByteArray) : (⟨r.data.toList.toArray⟩ : ByteArray) = r := by cases r; simp
theorem afterDot_none : ∀ (l : Str), Lib.indexByte l 46 = -1 → afterDot l = []
  | [], _ => rfl
  | c :: t, h => by
    have := Lib.indexByte_none h 0
    simp at this
    unfold afterDot; rw [if_neg this]
    refine afterDot_none t ?_
    unfold Lib.indexByte at h
    have hc' : (c == 46) = false := by simpa using this
    rw [hc'] at h
    by_cases ht : Lib.indexByte t 46 = -1
    · exact ht
    · have hg := Lib.indexByte_ge t 46
      have ht' : (Lib.indexByte t 46 == -1) = false := by simpa using ht
      rw [ht'] at h; (simp at h <;> omega)
theorem afterDot_some : ∀ (l : Str) (i : Nat), Lib.indexByte l 46 = i → afterDot l = l.drop (i + 1)
  | [], i, h => by simp [Lib.indexByte] at h
  | c :: t, i, h => by
    unfold Lib.indexByte at h
    by_cases hc : c = 46
    · simp [hc] at h
      obtain rfl : i = 0 := by omega
      simp [afterDot, hc]
    · have hc' : (c == 46) = false := by simpa using hc
      rw [hc'] at h
      by_cases ht : Lib.indexByte t 46 = -1
      · rw [ht] at h; (simp at h <;> omega)
      · have hg := Lib.indexByte_ge t 46
        have ht' : (Lib.indexByte t 46 == -1) = false := by simpa using ht
        rw [ht'] at h; simp at h
        obtain ⟨j, rfl⟩ : ∃ j, i = j + 1 := ⟨i - 1, by omega⟩
        have := afterDot_some t j (by omega)
        rw [afterDot, if_neg hc, this]
        simp
theorem afterDot_lt (l : Str) (h : afterDot l ≠ []) : (afterDot l).length < l.length := by
  induction l with
  | nil => simp [afterDot] at h
  | cons c t ih =>
    unfold afterDot at h ⊢
    split
    · simp
    · rename_i hc; rw [if_neg hc] at h; have := ih h; simp; omega
theorem up_lt (l : Str) (h : up l ≠ []) : (up l).length < l.length := by
  unfold up at h ⊢
  split
  · rename_i hi; rw [if_pos hi] at h; exact afterDot_lt l h
  · rename_i hi; rw [if_neg hi] at h; exact absurd rfl h
theorem above_fuel : ∀ (n m : Nat) (l : Str), l.length < n → l.length < m → above n l = above m l
  | 0, _, _, h, _ => absurd h (Nat.not_lt_zero _)
  | _, 0, _, _, h => absurd h (Nat.not_lt_zero _)
  | n + 1, m + 1, l, h1, h2 => by
    unfold above
    split
    · rfl
    · rename_i hu
      have := up_lt l hu
      rw [above_fuel n m _ (by omega) (by omega)]
theorem above_step (s : Str) (h : up s ≠ []) : above (s.length + 1) s = up s :: above ((up s).length + 1) (up s) := by
  have := up_lt s h
  rw [above, if_neg h, above_fuel _ ((up s).length + 1) _ (by omega) (by omega)]
theorem above_end (s : Str) (h : up s = []) : above (s.length + 1) s = [] := by rw [above, if_pos h]
theorem isB_iff {l : Str} : isB l = true ↔ l.length ≤ 64 ∧ (cut l).length ≤ 8 ∧ ∀ x ∈ cut l, labelB x = true := by
  unfold isB nameB
  simp only [Bool.and_eq_true, decide_eq_true_eq, List.all_eq_true]
  constructor
  · rintro ⟨⟨a, b⟩, c⟩; exact ⟨a, b, c⟩
  · rintro ⟨a, b, c⟩; exact ⟨⟨a, b⟩, c⟩
end Nam
end Go.Proofs.YteemkkmkkgfofaaGreatDoor
namespace Go.Proofs.YteemkkmkkgfofaaGreatDoor
namespace Pol
open Nam
/-- Does a text stand in a list? -/
def memB (l : List ByteArray) (s : ByteArray) : Bool := l.any fun y => y.data.toList == s.data.toList
theorem bytes_eq {a b : ByteArray} (h : a.data.toList = b.data.toList) : a = b := by
  obtain ⟨⟨a⟩⟩ := a; obtain ⟨⟨b⟩⟩ := b
  simp at h; subst h; rfl
theorem memB_iff {l : List ByteArray} {s : ByteArray} : memB l s = true ↔ s ∈ l := by
  unfold memB
  rw [List.any_eq_true]
  constructor
  · rintro ⟨y, hy, h⟩
    rw [beq_iff_eq] at h
    rwa [← bytes_eq h]
  · exact fun h => ⟨s, h, by simp⟩
theorem memB_snoc (l : List ByteArray) (y s : ByteArray) : memB (l ++ [y]) s = (memB l s || (y.data.toList == s.data.toList)) := by simp [memB]
theorem memB_take {l : List ByteArray} {k : Nat} {y : ByteArray} (h : l[k]? = some y) (s : ByteArray) : memB (l.take (k + 1)) s = (memB (l.take k) s || (y.data.toList == s.data.toList)) := by
  rw [List.take_add_one, h, Option.toList_some, memB_snoc]
/-- A rule, as the program holds it. -/
structure Rul where
  name : ByteArray
  allow : Bool
  pats : List ByteArray
  keyMin : Int
  lifeMax : Int
  most : Int
  window : Int
/-- a to z, 0 to 9. -/
def smallR (c : Int) : Bool := (decide (97 ≤ c) && decide (c ≤ 122)) || (decide (48 ≤ c) && decide (c ≤ 57))
def nameCh (c : Int) : Bool := smallR c || c == 45
/-- A rule's name. -/
def ruleName (s : Str) : Bool := decide (1 ≤ s.length) && decide (s.length ≤ 16) && s.all fun c => nameCh (c.toNat : Int)
def patOk (p : ByteArray) : Bool := (pattern p.data.toList).2.2
/-- Patterns, all of them some, none twice. -/
def patsOk : List ByteArray → List ByteArray → Bool
  | _, [] => true
  | ahead, p :: l => patOk p && !memB ahead p && patsOk (ahead ++ [p]) l
def limitsB (r : Rul) : Bool :=
  if r.allow then decide (r.keyMin ≤ 2305843009213691579) && (decide (1 ≤ r.lifeMax) && decide (r.lifeMax ≤ 1000)) && (decide (0 ≤ r.most) && decide (r.most ≤ 1000)) &&
    (if r.most > 0 then decide (1 ≤ r.window) && decide (r.window ≤ 1099511627776) else r.window == 0)
  else r.keyMin == 0 && r.lifeMax == 0 && r.most == 0 && r.window == 0
/-- The limits, as the document's code asks them. -/
theorem limits_ref (r : Rul) (h : r.allow = true) : (decide (r.keyMin ≤ 2305843009213691579) && decide (1 ≤ r.lifeMax) && decide (r.lifeMax ≤ 1000) && decide (0 ≤ r.most) && decide (r.most ≤ 1000) &&
    (decide (0 < r.most) && decide (1 ≤ r.window) && decide (r.window ≤ 1099511627776) || r.most == 0 && r.window == 0)) = limitsB r := by
  unfold limitsB
  rw [if_pos h]
  by_cases hm : 0 < r.most
  · have h0 : (r.most == 0) = false := by rw [beq_eq_false_iff_ne]; omega
    rw [if_pos (show r.most > 0 from hm), h0]
    simp [hm, Bool.and_assoc]
  · rw [if_neg (show ¬ r.most > 0 from hm)]
    by_cases h1 : r.most = 0
    · simp [h1, Bool.and_assoc]
    · have h2 : decide (0 ≤ r.most) = false := by rw [decide_eq_false_iff_not]; omega
      rw [h2]; simp
def formB (r : Rul) : Bool := ruleName r.name.data.toList && (decide (1 ≤ r.pats.length) && decide (r.pats.length ≤ 8)) && patsOk [] r.pats && limitsB r
/-- Rules of form, no name twice. -/
def rulesOk : List ByteArray → List Rul → Bool
  | _, [] => true
  | ahead, r :: l => formB r && !memB ahead r.name && rulesOk (ahead ++ [r.name]) l
/-- What the check of rules tells. -/
def checkE (l : List Rul) : Int := if rulesOk [] l then (if l.length ≤ 32 then 0 else 2) else 1
theorem patsOk_snoc : ∀ (l a : List ByteArray) (p : ByteArray), patsOk a (l ++ [p]) = (patsOk a l && (patOk p && !memB (a ++ l) p))
  | [], a, p => by simp [patsOk]
  | x :: l, a, p => by
    rw [List.cons_append, patsOk, patsOk, patsOk_snoc l (a ++ [x]) p]
    simp [Bool.and_assoc]
theorem rulesOk_snoc : ∀ (l : List Rul) (a : List ByteArray) (r : Rul), rulesOk a (l ++ [r]) = (rulesOk a l && (formB r && !memB (a ++ l.map (·.name)) r.name))
  | [], a, p => by simp [rulesOk]
  | x :: l, a, p => by
    rw [List.cons_append, rulesOk, rulesOk, rulesOk_snoc l (a ++ [x.name]) p]
    simp [Bool.and_assoc]
theorem patsOk_take {l : List ByteArray} {k : Nat} {p : ByteArray} (h : l[k]? = some p) : patsOk [] (l.take (k + 1)) = (patsOk [] (l.take k) && (patOk p && !memB (l.take k) p)) := by
  rw [List.take_add_one, h, Option.toList_some, patsOk_snoc, List.nil_append]
theorem rulesOk_take {l : List Rul} {k : Nat} {r : Rul} (h : l[k]? = some r) : rulesOk [] (l.take (k + 1)) = (rulesOk [] (l.take k) && (formB r && !memB ((l.take k).map (·.name)) r.name)) := by
  rw [List.take_add_one, h, Option.toList_some, rulesOk_snoc, List.nil_append]
theorem patsOk_false {l : List ByteArray} : ∀ {k : Nat}, patsOk [] (l.take k) = false → patsOk [] l = false := fun {k} h => by
  by_cases hk : k < l.length
  · have key : ∀ (m : Nat), patsOk [] (l.take (k + m)) = false := fun m => by
      induction m with
      | zero => exact h
      | succ m ih =>
        by_cases hm : k + m < l.length
        · rw [show k + (m + 1) = k + m + 1 from rfl, patsOk_take (List.getElem?_eq_getElem hm), ih]; rfl
        · rw [List.take_of_length_le (by omega)] at ih ⊢; exact ih
    have := key (l.length - k)
    rwa [show k + (l.length - k) = l.length by omega, List.take_length] at this
  · rwa [List.take_of_length_le (by omega)] at h
theorem rulesOk_false {l : List Rul} : ∀ {k : Nat}, rulesOk [] (l.take k) = false → rulesOk [] l = false := fun {k} h => by
  by_cases hk : k < l.length
  · have key : ∀ (m : Nat), rulesOk [] (l.take (k + m)) = false := fun m => by
      induction m with
      | zero => exact h
      | succ m ih =>
        by_cases hm : k + m < l.length
        · rw [show k + (m + 1) = k + m + 1 from rfl, rulesOk_take (List.getElem?_eq_getElem hm), ih]; rfl
        · rw [List.take_of_length_le (by omega)] at ih ⊢; exact ih
    have := key (l.length - k)
    rwa [show k + (l.length - k) = l.length by omega, List.take_length] at this
  · rwa [List.take_of_length_le (by omega)] at h
/-- Is a rule small? -/
def ruleFew (r : Rul) : Bool := decide (r.pats.length ≤ 12) && decide (r.name.size ≤ 100) && r.pats.all fun p => decide (p.size ≤ 200)
/-- Are rules few and small? -/
def fewB (l : List Rul) : Bool := ((l.take 40).all ruleFew) && decide (l.length ≤ 40)
theorem all_take_snoc {α : Type} {l : List α} {k : Nat} {x : α} (h : l[k]? = some x) (f : α → Bool) : (l.take (k + 1)).all f = ((l.take k).all f && f x) := by
  rw [List.take_add_one, h]; simp
theorem fewB_false {l : List Rul} {k : Nat} {r : Rul} (hr : l[k]? = some r) (hk : k < 40) (h : ruleFew r = false) : fewB l = false := by
  rw [Bool.eq_false_iff]; intro hf
  unfold fewB at hf
  rw [Bool.and_eq_true, List.all_eq_true] at hf
  have hm : r ∈ l.take 40 := List.mem_of_getElem? (i := k) (by rw [List.getElem?_take, if_pos hk]; exact hr)
  rw [hf.1 r hm] at h; cases h
theorem fewB_spec {l : List Rul} (h : fewB l = true) : l.length ≤ 40 ∧ ∀ r ∈ l, r.pats.length ≤ 12 ∧ r.name.size ≤ 100 ∧ ∀ p ∈ r.pats, p.size ≤ 200 := by
  unfold fewB at h
  rw [Bool.and_eq_true, List.all_eq_true, decide_eq_true_eq] at h
  obtain ⟨h1, h2⟩ := h
  refine ⟨h2, fun r hr => ?_⟩
  rw [List.take_of_length_le h2] at h1
  have := h1 r hr
  unfold ruleFew at this
  simp only [Bool.and_eq_true, decide_eq_true_eq, List.all_eq_true] at this
  exact ⟨this.1.1, this.1.2, this.2⟩
end Pol
end Go.Proofs.YteemkkmkkgfofaaGreatDoor
namespace Go.Proofs.YteemkkmkkgfofaaGreatDoor
namespace Pol
open Nam
/-- May a byte stand in a word? -/
def wordyB (c : UInt8) : Bool := smallR (c.toNat : Int) || c == 45 || c == 42 || c == 46 || c == 95
abbrev Tok := ByteArray × Nat
abbrev bA (s : Str) : ByteArray := ⟨s.toArray⟩
/-- The tokens of bytes that begin at a place. -/
inductive Lex : Str → Nat → List Tok → Prop
  | done (i : Nat) : Lex [] i [(bA [], i)]
  | blank {c : UInt8} {t : Str} {i : Nat} {T : List Tok} : (c = 32 ∨ c = 10) → Lex t (i + 1) T → Lex (c :: t) i T
  | note {u t : Str} {i : Nat} {T : List Tok} : (∀ c ∈ u, c ≠ 10) → (t = [] ∨ t.head? = some 10) → Lex t (i + 1 + u.length) T → Lex (35 :: (u ++ t)) i T
  | word {u t : Str} {i : Nat} {T : List Tok} : u ≠ [] → (∀ c ∈ u, wordyB c = true) → (∀ c, t.head? = some c → wordyB c = false) → Lex t (i + u.length) T → Lex (u ++ t) i ((bA u, i) :: T)
  | sign {c : UInt8} {t : Str} {i : Nat} {T : List Tok} : wordyB c = false → c ≠ 32 → c ≠ 10 → c ≠ 35 → Lex t (i + 1) T → Lex (c :: t) i ((bA [c], i) :: T)
theorem wordy_no {c : UInt8} (h : wordyB c = true) : c ≠ 32 ∧ c ≠ 10 ∧ c ≠ 35 ∧ c ≠ 125 := by
  refine ⟨?_, ?_, ?_, ?_⟩ <;> rintro rfl <;> revert h <;> decide
theorem dropW_head {u : Str} : ∀ c, (u.dropWhile wordyB).head? = some c → wordyB c = false := fun c h => by
  induction u with
  | nil => simp at h
  | cons x t ih =>
    rw [List.dropWhile_cons] at h
    split at h
    · exact ih h
    · next hx => simp at h; subst h; simpa using hx
/-- Bytes have tokens. -/
theorem lex_exists : ∀ (n : Nat) (s : Str) (i : Nat), s.length ≤ n → ∃ T, Lex s i T
  | _, [], i, _ => ⟨_, .done i⟩
  | 0, c :: t, _, h => by simp at h
  | n + 1, c :: t, i, h => by
    have hl : t.length ≤ n := by simpa using h
    by_cases hb : c = 32 ∨ c = 10
    · obtain ⟨T, hT⟩ := lex_exists n t (i + 1) hl
      exact ⟨T, .blank hb hT⟩
    by_cases hw : wordyB c = true
    · have hu : (c :: t).takeWhile wordyB ++ (c :: t).dropWhile wordyB = c :: t := List.takeWhile_append_dropWhile
      have hd : ((c :: t).dropWhile wordyB).length ≤ n := by
        rw [List.dropWhile_cons_of_pos hw]
        exact Nat.le_trans (List.dropWhile_sublist _).length_le hl
      obtain ⟨T, hT⟩ := lex_exists n ((c :: t).dropWhile wordyB) (i + ((c :: t).takeWhile wordyB).length) hd
      have := Lex.word (u := (c :: t).takeWhile wordyB) (by rw [List.takeWhile_cons_of_pos hw]; simp) (fun x hx => by simpa using (List.all_eq_true.1 List.all_takeWhile x hx)) dropW_head hT
      rw [hu] at this
      exact ⟨_, this⟩
    by_cases hn : c = 35
    · subst hn
      obtain ⟨T, hT⟩ := lex_exists n (t.dropWhile (· != 10)) (i + 1 + (t.takeWhile (· != 10)).length) (Nat.le_trans (List.dropWhile_sublist _).length_le hl)
      have := Lex.note (u := t.takeWhile (· != 10)) (fun x hx => by simpa using (List.all_eq_true.1 List.all_takeWhile x hx)) ?_ hT
      · rw [List.takeWhile_append_dropWhile] at this
        exact ⟨_, this⟩
      · clear hT hl h
        induction t with
        | nil => exact .inl rfl
        | cons x t ih =>
          rw [List.dropWhile_cons]
          split
          · exact ih
          · next hx => simp at hx; subst hx; exact .inr rfl
    · obtain ⟨T, hT⟩ := lex_exists n t (i + 1) hl
      exact ⟨_, .sign (by simpa using hw) (fun e => hb (.inl e)) (fun e => hb (.inr e)) hn hT⟩
theorem Lex.nil {i : Nat} {T : List Tok} (h : Lex [] i T) : T = [(bA [], i)] := by
  generalize hs : ([] : Str) = s at h
  cases h with
  | done => rfl
  | blank => cases hs
  | note => cases hs
  | sign => cases hs
  | word h1 => exact absurd (List.append_eq_nil_iff.1 hs.symm).1 h1
theorem Lex.skip {c : UInt8} {t : Str} {i : Nat} {T : List Tok} (h : Lex (c :: t) i T) (hc : c = 32 ∨ c = 10) : Lex t (i + 1) T := by
  generalize hs : c :: t = s at h
  cases h with
  | done => cases hs
  | blank _ h => cases hs; exact h
  | note => cases hs; rcases hc with h | h <;> cases h
  | sign _ h1 h2 => cases hs; rcases hc with h | h <;> contradiction
  | @word u t' _ _ h1 h2 =>
    cases u with
    | nil => exact absurd rfl h1
    | cons x u => cases hs; have := wordy_no (h2 c (by simp)); rcases hc with h | h <;> simp_all
theorem Lex.hash {t : Str} {i : Nat} {T : List Tok} (h : Lex (35 :: t) i T) : ∃ u v, t = u ++ v ∧ (∀ c ∈ u, c ≠ 10) ∧ (v = [] ∨ v.head? = some 10) ∧ Lex v (i + 1 + u.length) T := by
  generalize hs : (35 : UInt8) :: t = s at h
  cases h with
  | done => cases hs
  | blank hc => cases hs; rcases hc with h | h <;> cases h
  | note h1 h2 h3 => cases hs; exact ⟨_, _, rfl, h1, h2, h3⟩
  | sign _ _ _ h3 => cases hs; contradiction
  | @word u t' _ _ h1 h2 =>
    cases u with
    | nil => exact absurd rfl h1
    | cons x u => cases hs; have := wordy_no (h2 35 (by simp)); simp_all
/-- The token at a byte that begins one. -/
theorem Lex.tok {c : UInt8} {t : Str} {i : Nat} {T : List Tok} (h : Lex (c :: t) i T) (h1 : c ≠ 32) (h2 : c ≠ 10) (h3 : c ≠ 35) :
    ∃ u v T', c :: t = u ++ v ∧ T = (bA u, i) :: T' ∧ u ≠ [] ∧ Lex v (i + u.length) T' ∧ ((wordyB c = true ∧ u = (c :: t).takeWhile wordyB) ∨ (wordyB c = false ∧ u = [c])) := by
  generalize hs : c :: t = s at h
  cases h with
  | done => cases hs
  | blank hc => cases hs; rcases hc with h | h <;> contradiction
  | note => cases hs; contradiction
  | sign hw _ _ _ h => cases hs; exact ⟨[c], t, _, rfl, rfl, by simp, h, .inr ⟨hw, rfl⟩⟩
  | @word u t' _ _ hu hw hd h =>
    refine ⟨u, t', _, rfl, rfl, hu, h, .inl ⟨?_, ?_⟩⟩
    · cases u with
      | nil => exact absurd rfl hu
      | cons x u => cases hs; exact hw c (by simp)
    · rw [List.takeWhile_append_of_pos hw]
      cases t' with
      | nil => simp
      | cons x t' => rw [List.takeWhile_cons_of_neg (by simp [hd x rfl])]; simp
theorem Lex.range {s : Str} {i : Nat} {T : List Tok} (h : Lex s i T) : ∀ t ∈ T, i ≤ t.2 ∧ t.2 ≤ i + s.length := by
  induction h with
  | done => simp
  | blank _ _ ih => intro t ht; have := ih t ht; simp; omega
  | note _ _ _ ih => intro t ht; have := ih t ht; simp; omega
  | word _ _ _ _ ih =>
    intro t ht
    rcases List.mem_cons.1 ht with rfl | ht
    · simp
    · have := ih t ht; simp; omega
  | sign _ _ _ _ _ ih =>
    intro t ht
    rcases List.mem_cons.1 ht with rfl | ht
    · simp
    · have := ih t ht; simp; omega
/-- A closing sign among the tokens stands among the bytes. -/
theorem Lex.mem {s : Str} {i : Nat} {T : List Tok} (h : Lex s i T) {c : UInt8} : ∀ t ∈ T, c ∈ t.1.data.toList → c ∈ s := by
  induction h with
  | done => simp
  | blank _ _ ih => intro t ht hc; exact List.mem_cons_of_mem _ (ih t ht hc)
  | note _ _ _ ih => intro t ht hc; exact List.mem_cons_of_mem _ (List.mem_append_right _ (ih t ht hc))
  | word _ _ _ _ ih =>
    intro t ht hc
    rcases List.mem_cons.1 ht with rfl | ht
    · exact List.mem_append_left _ (by simpa using hc)
    · exact List.mem_append_right _ (ih t ht hc)
  | sign _ _ _ _ _ ih =>
    intro t ht hc
    rcases List.mem_cons.1 ht with rfl | ht
    · have hx : c ∈ [_] := hc
      rw [List.mem_singleton] at hx
      rw [hx]; exact List.mem_cons_self
    · exact List.mem_cons_of_mem _ (ih t ht hc)
theorem Lex.last {s : Str} {i : Nat} {T : List Tok} (h : Lex s i T) : ∃ Q e, T = Q ++ [(bA [], e)] ∧ ∀ t ∈ Q, t.1 ≠ bA [] := by
  induction h with
  | done i => exact ⟨[], i, rfl, by simp⟩
  | blank _ _ ih => exact ih
  | note _ _ _ ih => exact ih
  | word hu _ _ _ ih =>
    obtain ⟨Q, e, h1, h2⟩ := ih
    refine ⟨_ :: Q, e, by rw [h1]; rfl, fun t ht => ?_⟩
    rcases List.mem_cons.1 ht with rfl | ht
    · intro e; exact hu (by simpa [bA] using e)
    · exact h2 t ht
  | sign _ _ _ _ _ ih =>
    obtain ⟨Q, e, h1, h2⟩ := ih
    refine ⟨_ :: Q, e, by rw [h1]; rfl, fun t ht => ?_⟩
    rcases List.mem_cons.1 ht with ht | ht
    · rw [ht]; intro e; simp [bA] at e
    · exact h2 t ht
end Pol
end Go.Proofs.YteemkkmkkgfofaaGreatDoor
namespace Go.Proofs.YteemkkmkkgfofaaGreatDoor
namespace Pol
open Nam
/-- The token at hand, and where it stands. -/
def hdT (T : List Tok) : ByteArray := (T.headD (bA [], 0)).1
def hdP (T : List Tok) : Nat := (T.headD (bA [], 0)).2
/-- The next token: the last one stays. -/
def tlT : List Tok → List Tok
  | [] => []
  | [t] => [t]
  | _ :: t :: T => t :: T
abbrev PR (α : Type) := Except (Nat × Int) α
/-- What cannot stand there. -/
def wrong {α : Type} (T : List Tok) : PR α := .error (hdP T, 71)
def wantP (s : ByteArray) (T : List Tok) : PR (List Tok) := if hdT T = s then .ok (tlT T) else wrong T
def takeP (f : ByteArray → Bool) (T : List Tok) : PR (ByteArray × List Tok) := if f (hdT T) then .ok (hdT T, tlT T) else wrong T
/-- A number from 1 to a limit. -/
def numOf (most : Nat) (s : ByteArray) : Option Nat := match Lib.parseUintB 64 s.data.toList with
  | .ok n => if s.data.toList.head? ≠ some 48 ∧ s.size < 20 ∧ n ≤ most then some n else none
  | _ => none
def numP (most : Nat) (T : List Tok) : PR (Nat × List Tok) := match numOf most (hdT T) with
  | some n => .ok (n, tlT T)
  | none => wrong T
def tAllow : ByteArray := ⟨#[97, 108, 108, 111, 119]⟩
def tRefuse : ByteArray := ⟨#[114, 101, 102, 117, 115, 101]⟩
def tOpen : ByteArray := ⟨#[123]⟩
def tShut : ByteArray := ⟨#[125]⟩
def tSemi : ByteArray := ⟨#[59]⟩
def tComma : ByteArray := ⟨#[44]⟩
def tKey : ByteArray := ⟨#[107, 101, 121]⟩
def tLife : ByteArray := ⟨#[108, 105, 102, 101]⟩
def tMost : ByteArray := ⟨#[109, 111, 115, 116]⟩
def tPer : ByteArray := ⟨#[112, 101, 114]⟩
/-- Patterns, so many at most, behind those that have been read. -/
def patsP : Nat → List ByteArray → List Tok → PR (List ByteArray × List Tok)
  | 0, _, T => wrong T
  | k + 1, acc, T => if patOk (hdT T) && !memB acc (hdT T) then
      (if hdT (tlT T) = tComma then patsP k (acc ++ [hdT T]) (tlT (tlT T)) else .ok (acc ++ [hdT T], tlT T))
    else wrong T
/-- Is it a name that none ahead has? -/
def nameFits (ahead : List Rul) (s : ByteArray) : Bool := ruleName s.data.toList && !memB (ahead.map (·.name)) s
def keyP (T : List Tok) : PR (Nat × List Tok) := if hdT T = tKey then (do
    let (n, T) ← numP 2305843009213691579 (tlT T)
    let T ← wantP tSemi T
    pure (n, T)) else .ok (0, T)
def lifeP (T : List Tok) : PR (Nat × List Tok) := do
  let T ← wantP tLife T
  let (n, T) ← numP 1000 T
  let T ← wantP tSemi T
  pure (n, T)
def mostP (T : List Tok) : PR ((Nat × Nat) × List Tok) := if hdT T = tMost then (do
    let (n, T) ← numP 1000 (tlT T)
    let T ← wantP tPer T
    let (m, T) ← numP 1099511627776 T
    let T ← wantP tSemi T
    pure ((n, m), T)) else .ok ((0, 0), T)
def limP (allow : Bool) (T : List Tok) : PR ((Nat × Nat × Nat × Nat) × List Tok) := if allow then (do
    let (k, T) ← keyP T
    let (l, T) ← lifeP T
    let ((m, p), T) ← mostP T
    pure ((k, l, m, p), T)) else .ok ((0, 0, 0, 0), T)
/-- One rule behind those. -/
def ruleP (ahead : List Rul) (T : List Tok) : PR (Rul × List Tok) :=
  if hdT T = tAllow ∨ hdT T = tRefuse then
    if ahead.length = 32 then .error (hdP T, 2) else do
      let (nm, T') ← takeP (nameFits ahead) (tlT T)
      let T' ← wantP tOpen T'
      let (ps, T') ← patsP 8 [] T'
      let T' ← wantP tSemi T'
      let ((k, l, m, p), T') ← limP (decide (hdT T = tAllow)) T'
      let T' ← wantP tShut T'
      pure (⟨nm, decide (hdT T = tAllow), ps, k, l, m, p⟩, T')
  else wrong T
/-- Rules to the end. -/
def rulesP : Nat → List Rul → List Tok → PR (List Rul)
  | 0, l, _ => .ok l
  | n + 1, l, T => if hdT T = bA [] then .ok l else do
      let (r, T') ← ruleP l T
      rulesP n (l ++ [r]) T'
/-- Tokens as bytes hand them: the last one is empty, none else. -/
def Toks (T : List Tok) : Prop := ∃ Q e, T = Q ++ [(bA [], e)] ∧ ∀ t ∈ Q, t.1 ≠ bA []
theorem Toks.ne {T : List Tok} (h : Toks T) : T ≠ [] := by obtain ⟨Q, e, rfl, _⟩ := h; simp
theorem Toks.tl {T : List Tok} (h : Toks T) : Toks (tlT T) := by
  obtain ⟨Q, e, rfl, hq⟩ := h
  cases Q with
  | nil => exact ⟨[], e, rfl, by simp⟩
  | cons a Q =>
    refine ⟨Q, e, ?_, fun t ht => hq t (List.mem_cons_of_mem _ ht)⟩
    cases Q <;> rfl
/-- What is behind: the tokens end so, and there are fewer of them. -/
def Behind (T' T : List Tok) : Prop := Toks T' ∧ T'.length < T.length ∧ ∃ Q, T = Q ++ T'
theorem behind_tl {T : List Tok} (h : Toks T) (hn : hdT T ≠ bA []) : Behind (tlT T) T := by
  refine ⟨h.tl, ?_⟩
  obtain ⟨Q, e, rfl, hq⟩ := h
  cases Q with
  | nil => exact absurd rfl hn
  | cons a Q => cases Q <;> exact ⟨by simp [tlT], [a], rfl⟩
theorem Behind.trans {A B C : List Tok} (h : Behind A B) (h' : Behind B C) : Behind A C := by
  obtain ⟨h1, h2, Q, rfl⟩ := h
  obtain ⟨h3, h4, R, rfl⟩ := h'
  exact ⟨h1, Nat.lt_trans h2 h4, R ++ Q, by simp⟩
end Pol
end Go.Proofs.YteemkkmkkgfofaaGreatDoor
namespace Go.Proofs.YteemkkmkkgfofaaGreatDoor
namespace Pol
open Nam
def decS (n : Int) : Str := Lib.decDigits n.toNat
def joinP : List ByteArray → Str
  | [] => []
  | [p] => p.data.toList
  | p :: q :: l => p.data.toList ++ ([44, 32] ++ joinP (q :: l))
/-- A rule's text but for its end. -/
def headR (r : Rul) : Str := (if r.allow then [97, 108, 108, 111, 119, 32] else [114, 101, 102, 117, 115, 101, 32]) ++ (r.name.data.toList ++ ([32, 123, 32] ++ (joinP r.pats ++ [59, 32])))
def keyR (r : Rul) : Str := if r.keyMin > 0 then [107, 101, 121, 32] ++ (decS r.keyMin ++ [59, 32]) else []
def lifeR (r : Rul) : Str := if r.allow then [108, 105, 102, 101, 32] ++ (decS r.lifeMax ++ [59, 32]) else []
def mostR (r : Rul) : Str := if r.most > 0 then [109, 111, 115, 116, 32] ++ (decS r.most ++ ([32, 112, 101, 114, 32] ++ (decS r.window ++ [59, 32]))) else []
def bodyR (r : Rul) : Str := headR r ++ (keyR r ++ (lifeR r ++ mostR r))
def textR (r : Rul) : Str := bodyR r ++ [125, 10]
def textL (l : List Rul) : Str := l.flatMap textR
/-! ### Tokens of what is written -/
def Seg (s : Str) (ts : List ByteArray) : Prop := ∀ (rest : Str) (i : Nat) (T : List Tok), Lex rest (i + s.length) T → ∃ Q : List Tok, Q.map (·.1) = ts ∧ Lex (s ++ rest) i (Q ++ T)
theorem seg_nil : Seg [] [] := fun rest i T h => ⟨[], rfl, by simpa using h⟩
theorem Seg.app {s s' : Str} {ts ts' : List ByteArray} (h : Seg s ts) (h' : Seg s' ts') : Seg (s ++ s') (ts ++ ts') := fun rest i T hL => by
  obtain ⟨Q', hq', hL'⟩ := h' rest (i + s.length) T (by rw [List.length_append] at hL; rwa [Nat.add_assoc])
  obtain ⟨Q, hq, hL⟩ := h (s' ++ rest) i (Q' ++ T) hL'
  exact ⟨Q ++ Q', by simp [hq, hq'], by simpa using hL⟩
def Wordy (u : Str) : Prop := u ≠ [] ∧ ∀ c ∈ u, wordyB c = true
def SignB (c : UInt8) : Prop := wordyB c = false ∧ c ≠ 32 ∧ c ≠ 10 ∧ c ≠ 35
theorem seg_word {u : Str} {c : UInt8} (h : Wordy u) (hc : c = 32 ∨ c = 10) : Seg (u ++ [c]) [bA u] := fun rest i T hL =>
  ⟨[(bA u, i)], rfl, by
    rw [List.append_assoc]
    refine .word h.1 h.2 (fun x hx => ?_) (.blank hc (by simpa [Nat.add_assoc] using hL))
    simp at hx; subst hx
    rcases hc with rfl | rfl <;> decide⟩
theorem seg_sign {x c : UInt8} (h : SignB x) (hc : c = 32 ∨ c = 10) : Seg [x, c] [bA [x]] := fun rest i T hL =>
  ⟨[(bA [x], i)], rfl, .sign h.1 h.2.1 h.2.2.1 h.2.2.2 (.blank hc (by simpa [Nat.add_assoc] using hL))⟩
theorem seg_wsign {u : Str} {x c : UInt8} (h : Wordy u) (hx : SignB x) (hc : c = 32 ∨ c = 10) : Seg (u ++ [x, c]) [bA u, bA [x]] := fun rest i T hL =>
  ⟨[(bA u, i), (bA [x], i + u.length)], rfl, by
    rw [List.append_assoc]
    refine .word h.1 h.2 (fun y hy => ?_) (.sign hx.1 hx.2.1 hx.2.2.1 hx.2.2.2 (.blank hc (by simpa [Nat.add_assoc] using hL)))
    simp at hy; subst hy; exact hx.1⟩
theorem dec_wordy (n : Nat) : Wordy (Lib.decDigits n) := by
  induction n using Nat.strongRecOn with
  | _ n ih =>
    have hd : ∀ k : Nat, k < 10 → wordyB (UInt8.ofNat (48 + k)) = true := by decide
    rw [Lib.decDigits]
    split
    · next h => exact ⟨by simp, fun c hc => by rw [List.mem_singleton] at hc; subst hc; exact hd n h⟩
    · next h =>
      refine ⟨by simp, fun c hc => ?_⟩
      rcases List.mem_append.1 hc with hc | hc
      · exact (ih (n / 10) (by omega)).2 c hc
      · rw [List.mem_singleton] at hc; subst hc; exact hd _ (Nat.mod_lt _ (by decide))
theorem name_wordy {s : ByteArray} (h : ruleName s.data.toList = true) : Wordy s.data.toList := by
  unfold ruleName at h
  simp only [Bool.and_eq_true, decide_eq_true_eq] at h
  refine ⟨fun e => by rw [e] at h; simp at h, fun c hc => ?_⟩
  have h2 := List.all_eq_true.1 h.2 c hc
  unfold nameCh at h2
  unfold wordyB
  rcases Bool.or_eq_true_iff.1 h2 with h2 | h2
  · simp [h2]
  · have : c = 45 := by
      have h3 : (c.toNat : Int) = 45 := by simpa using h2
      apply UInt8.toNat_inj.1; show c.toNat = 45; omega
    simp [this]
/-- The tokens of patterns. -/
def patTok : List ByteArray → List ByteArray
  | [] => []
  | [p] => [p]
  | p :: q :: l => p :: tComma :: patTok (q :: l)
theorem bA_data (p : ByteArray) : bA p.data.toList = p := by
  obtain ⟨⟨l⟩⟩ := p; rfl
theorem seg_pats : ∀ {ps : List ByteArray}, ps ≠ [] → (∀ p ∈ ps, Wordy p.data.toList) → Seg (joinP ps ++ [59, 32]) (patTok ps ++ [tSemi])
  | [], h, _ => absurd rfl h
  | [p], _, h => by
    have := seg_wsign (x := 59) (c := 32) (h p (by simp)) (by unfold SignB; decide) (.inl rfl)
    rw [bA_data] at this; exact this
  | p :: q :: l, _, h => by
    have h1 := seg_wsign (x := 44) (c := 32) (h p (by simp)) (by unfold SignB; decide) (.inl rfl)
    have h2 := seg_pats (ps := q :: l) (by simp) (fun x hx => h x (List.mem_cons_of_mem _ hx))
    rw [bA_data] at h1
    have h3 := h1.app h2
    simpa [joinP, patTok, tComma, bA] using h3
def decT' (n : Int) : ByteArray := bA (decS n)
def headTok (r : Rul) : List ByteArray := [if r.allow then tAllow else tRefuse, r.name, tOpen] ++ (patTok r.pats ++ [tSemi])
def keyTok (r : Rul) : List ByteArray := if r.keyMin > 0 then [tKey, decT' r.keyMin, tSemi] else []
def lifeTok (r : Rul) : List ByteArray := if r.allow then [tLife, decT' r.lifeMax, tSemi] else []
def mostTok (r : Rul) : List ByteArray := if r.most > 0 then [tMost, decT' r.most, tPer, decT' r.window, tSemi] else []
def bodyTok (r : Rul) : List ByteArray := headTok r ++ (keyTok r ++ (lifeTok r ++ mostTok r))
def ruleTok (r : Rul) : List ByteArray := bodyTok r ++ [tShut]
def rulesTok (l : List Rul) : List ByteArray := l.flatMap ruleTok
theorem lit_wordy {u : Str} (h : (u != [] && u.all wordyB) = true) : Wordy u := by
  rw [Bool.and_eq_true] at h
  exact ⟨by simpa using h.1, fun c hc => List.all_eq_true.1 h.2 c hc⟩
theorem cut_mem : ∀ {l : Str} {c : UInt8}, c ∈ l → c = 46 ∨ ∃ x ∈ cut l, c ∈ x
  | [], c, h => by simp at h
  | y :: t, c, h => by
    unfold cut
    split
    · next hy =>
      rcases List.mem_cons.1 h with h | h
      · exact .inl (h.trans hy)
      · rcases cut_mem h with h | ⟨x, hx, hc⟩
        · exact .inl h
        · exact .inr ⟨x, List.mem_cons_of_mem _ hx, hc⟩
    · rcases List.mem_cons.1 h with h | h
      · subst h
        right
        split
        · exact ⟨[c], by simp, by simp⟩
        · exact ⟨_, List.mem_cons_self, List.mem_cons_self⟩
      · rcases cut_mem h with h | ⟨x, hx, hc⟩
        · exact .inl h
        · right
          split
          · next hn => rw [hn] at hx; cases hx
          · next a as hn =>
            rw [hn] at hx
            rcases List.mem_cons.1 hx with rfl | hx
            · exact ⟨_, List.mem_cons_self, List.mem_cons_of_mem _ hc⟩
            · exact ⟨x, List.mem_cons_of_mem _ hx, hc⟩
theorem edge_wordy {c : UInt8} (h : edgeR (c.toNat : Int) = true) : wordyB c = true := by
  have : smallR (c.toNat : Int) = true := h
  unfold wordyB; simp [this]
theorem label_wordy {l : Str} (h : labelB l = true) : ∀ c ∈ l, wordyB c = true := fun c hc => by
  obtain ⟨k, hk, rfl⟩ := List.getElem_of_mem hc
  unfold labelB at h
  rw [Bool.and_eq_true, List.all_eq_true] at h
  have h2 := h.2 k (List.mem_range.2 hk)
  rw [List.getD_eq_getElem?_getD, List.getElem?_eq_getElem hk, Option.getD_some] at h2
  unfold okR at h2
  have hs : ∀ {n : Nat} {x : UInt8}, (x.toNat : Int) = n → n < 256 → x = UInt8.ofNat n := fun {n x} h hn => by
    apply UInt8.toNat_inj.1
    rw [UInt8.toNat_ofNat']; omega
  split at h2
  · exact edge_wordy h2
  · split at h2
    · rcases Bool.or_eq_true_iff.1 h2 with h2 | h2
      · exact edge_wordy h2
      · have e := hs (n := 95) (x := l[k]) (by simpa using h2) (by decide)
        rw [e]; decide
    · unfold innerR at h2
      rcases Bool.or_eq_true_iff.1 h2 with h2 | h2
      · have e := hs (n := 45) (x := l[k]) (by simpa using h2) (by decide)
        rw [e]; decide
      · exact edge_wordy h2
theorem names_wordy {l : Str} {a b : Nat} (h : nameB l a b = true) : Wordy l := by
  have hx : ∀ x ∈ cut l, labelB x = true := by
    unfold nameB at h
    simp only [Bool.and_eq_true, List.all_eq_true] at h
    exact h.2
  refine ⟨fun e => ?_, fun c hc => ?_⟩
  · subst e
    have := hx [] (by simp [cut])
    revert this; decide
  · rcases cut_mem hc with rfl | ⟨x, hm, hc⟩
    · decide
    · exact label_wordy (hx x hm) c hc
theorem pat_wordy {p : ByteArray} (h : patOk p = true) : Wordy p.data.toList := by
  unfold patOk pattern at h
  split at h
  · next hi => exact names_wordy hi
  · split at h
    · next hp =>
      have hw := names_wordy h
      have he : p.data.toList = [42, 46] ++ p.data.toList.drop 2 := by
        unfold Lib.hasPrefix at hp
        have hp := List.isPrefixOf_iff_prefix.1 hp
        obtain ⟨t, ht⟩ := hp
        rw [← ht]; rfl
      rw [he]
      refine ⟨by simp, fun c hc => ?_⟩
      rcases List.mem_append.1 hc with hc | hc
      · have hd : ∀ c ∈ ([42, 46] : Str), wordyB c = true := by decide
        exact hd c hc
      · exact hw.2 c hc
    · cases h
/-! ### The text of a rule of form -/
theorem pats_all : ∀ {a ps : List ByteArray}, patsOk a ps = true → ∀ p ∈ ps, patOk p = true
  | _, [], _, p, hp => by cases hp
  | a, x :: l, h, p, hp => by
    unfold patsOk at h
    rw [Bool.and_eq_true, Bool.and_eq_true] at h
    rcases List.mem_cons.1 hp with rfl | hp
    · exact h.1.1
    · exact pats_all h.2 p hp
theorem form_parts {r : Rul} (h : formB r = true) : ruleName r.name.data.toList = true ∧ r.pats ≠ [] ∧ r.pats.length ≤ 8 ∧ patsOk [] r.pats = true ∧ limitsB r = true := by
  unfold formB at h
  simp only [Bool.and_eq_true, decide_eq_true_eq] at h
  exact ⟨h.1.1.1, fun e => by rw [e] at h; simp at h, h.1.1.2.2, h.1.2, h.2⟩
theorem seg_head {r : Rul} (h : formB r = true) : Seg (headR r) (headTok r) := by
  obtain ⟨h1, h2, _, h4, _⟩ := form_parts h
  have a1 : Seg (if r.allow then [97, 108, 108, 111, 119, 32] else [114, 101, 102, 117, 115, 101, 32]) [if r.allow then tAllow else tRefuse] := by
    cases r.allow
    · exact seg_word (u := [114, 101, 102, 117, 115, 101]) (c := 32) (lit_wordy (by decide)) (.inl rfl)
    · exact seg_word (u := [97, 108, 108, 111, 119]) (c := 32) (lit_wordy (by decide)) (.inl rfl)
  have a2 := seg_word (c := 32) (name_wordy h1) (.inl rfl)
  have a3 : Seg [123, 32] [tOpen] := seg_sign (by unfold SignB; decide) (.inl rfl)
  have a4 := seg_pats h2 (fun p hp => pat_wordy (pats_all h4 p hp))
  rw [bA_data] at a2
  have := a1.app (a2.app (a3.app a4))
  simpa [headR, headTok] using this
theorem seg_num {u : Str} (hu : Wordy u) (n : Int) : Seg (u ++ 32 :: (decS n ++ [59, 32])) [bA u, decT' n, tSemi] := by
  have a1 := seg_word (c := 32) hu (.inl rfl)
  have a2 := seg_wsign (x := 59) (c := 32) (dec_wordy n.toNat) (by unfold SignB; decide) (.inl rfl)
  have := a1.app a2
  simpa [decT', decS, tSemi] using this
theorem seg_key (r : Rul) : Seg (keyR r) (keyTok r) := by
  unfold keyR keyTok
  split
  · exact seg_num (u := [107, 101, 121]) (lit_wordy (by decide)) _
  · exact seg_nil
theorem seg_life (r : Rul) : Seg (lifeR r) (lifeTok r) := by
  unfold lifeR lifeTok
  split
  · exact seg_num (u := [108, 105, 102, 101]) (lit_wordy (by decide)) _
  · exact seg_nil
theorem seg_most (r : Rul) : Seg (mostR r) (mostTok r) := by
  unfold mostR mostTok
  split
  · have a1 := seg_word (u := [109, 111, 115, 116]) (c := 32) (lit_wordy (by decide)) (.inl rfl)
    have a2 := seg_word (c := 32) (dec_wordy r.most.toNat) (.inl rfl)
    have a3 := seg_num (u := [112, 101, 114]) (lit_wordy (by decide)) r.window
    have := a1.app (a2.app a3)
    simpa [decT', decS, tMost, tPer, bA] using this
  · exact seg_nil
theorem seg_body {r : Rul} (h : formB r = true) : Seg (bodyR r) (bodyTok r) := (seg_head h).app ((seg_key r).app ((seg_life r).app (seg_most r)))
theorem seg_rule {r : Rul} (h : formB r = true) : Seg (textR r) (ruleTok r) := (seg_body h).app (seg_sign (by unfold SignB; decide) (.inr rfl))
theorem seg_rules : ∀ {l : List Rul}, (∀ r ∈ l, formB r = true) → Seg (textL l) (rulesTok l)
  | [], _ => seg_nil
  | r :: l, h => by
    have := (seg_rule (h r (by simp))).app (seg_rules (l := l) fun x hx => h x (List.mem_cons_of_mem _ hx))
    simpa [textL, rulesTok] using this
end Pol
end Go.Proofs.YteemkkmkkgfofaaGreatDoor
namespace Go.Proofs.YteemkkmkkgfofaaGreatDoor
namespace Pol
open Nam
/-- The tokens begin with those texts, and T' is behind. -/
def Starts (ts : List ByteArray) (T T' : List Tok) : Prop := T' ≠ [] ∧ ∃ Q, T = Q ++ T' ∧ Q.map (·.1) = ts
theorem Starts.hd {a : ByteArray} {ts : List ByteArray} {T T' : List Tok} (h : Starts (a :: ts) T T') : hdT T = a := by
  obtain ⟨_, Q, rfl, hq⟩ := h
  cases Q with
  | nil => cases hq
  | cons x Q => simp at hq; exact hq.1
theorem Starts.tl {a : ByteArray} {ts : List ByteArray} {T T' : List Tok} (h : Starts (a :: ts) T T') : Starts ts (tlT T) T' := by
  obtain ⟨hn, Q, rfl, hq⟩ := h
  cases Q with
  | nil => cases hq
  | cons x Q =>
    refine ⟨hn, Q, ?_, by simp at hq; exact hq.2⟩
    cases Q with
    | nil =>
      cases T' with
      | nil => exact absurd rfl hn
      | cons y T' => rfl
    | cons y Q => rfl
theorem Starts.nil {T T' : List Tok} (h : Starts [] T T') : T = T' := by
  obtain ⟨_, Q, rfl, hq⟩ := h
  cases Q with
  | nil => rfl
  | cons => cases hq
theorem Starts.split {a b : List ByteArray} {T T' : List Tok} (h : Starts (a ++ b) T T') : ∃ M, Starts a T M ∧ Starts b M T' := by
  obtain ⟨hn, Q, rfl, hq⟩ := h
  obtain ⟨Q1, Q2, rfl, h1, h2⟩ := List.map_eq_append_iff.1 hq
  exact ⟨Q2 ++ T', ⟨by simp [hn], Q1, by simp, h1⟩, hn, Q2, rfl, h2⟩
theorem want_ok {a : ByteArray} {ts : List ByteArray} {T T' : List Tok} (h : Starts (a :: ts) T T') : wantP a T = .ok (tlT T) := by
  unfold wantP; rw [if_pos h.hd]
theorem parse_snoc (M : Nat) (c : UInt8) : ∀ (l : Str) (acc : Nat), Lib.parseUintM M acc (l ++ [c]) = (match Lib.parseUintM M acc l with
    | .ok a => Lib.parseUintM M a [c]
    | e => e)
  | [], acc => rfl
  | x :: l, acc => by
    rw [List.cons_append, Lib.parseUintM, Lib.parseUintM]
    split
    · split
      · rfl
      · split
        · rfl
        · exact parse_snoc M c l _
    · rfl
theorem digits_le : ∀ (k u : Nat), u < 10 ^ (k + 1) → Lib.nDigits u ≤ k + 1
  | 0, u, h => by rw [Lib.nDigits_small (by simpa using h)]; exact Nat.le_refl _
  | k + 1, u, h => by
    by_cases h1 : u < 10
    · rw [Lib.nDigits_small h1]; omega
    · rw [Lib.nDigits_big h1]
      have := digits_le k (u / 10) (by rw [Nat.pow_succ] at h; omega)
      omega
/-- Digits are read as their number. -/
theorem dec_parse (M : Nat) (hM : M ≤ 18446744073709551615) : ∀ (n : Nat), n ≤ M → Lib.parseUintM M 0 (Lib.decDigits n) = .ok n := by
  intro n
  induction n using Nat.strongRecOn with
  | _ n ih =>
    intro hn
    have hd : ∀ k : Nat, k < 10 → (UInt8.ofNat (48 + k)).toNat = 48 + k := by decide
    rw [Lib.decDigits]
    split
    · next h =>
      unfold Lib.parseUintM Lib.parseUintM
      rw [hd n h, if_pos (by omega), if_neg (by omega), if_neg (by omega)]
      simp
    · next h =>
      rw [parse_snoc, ih (n / 10) (by omega) (by omega)]
      show Lib.parseUintM M (n / 10) [UInt8.ofNat (48 + n % 10)] = _
      unfold Lib.parseUintM Lib.parseUintM
      rw [hd (n % 10) (by omega), if_pos (by omega), if_neg (by omega), if_neg (by omega)]
      congr 1; omega
theorem dec_head : ∀ (n : Nat), 0 < n → (Lib.decDigits n).head? ≠ some 48 := by
  intro n
  induction n using Nat.strongRecOn with
  | _ n ih =>
    intro hn
    rw [Lib.decDigits]
    split
    · next h =>
      have hd : ∀ k : Nat, k < 10 → 0 < k → UInt8.ofNat (48 + k) ≠ 48 := by decide
      simpa using hd n h hn
    · next h =>
      have h1 := ih (n / 10) (by omega) (by omega)
      cases he : Lib.decDigits (n / 10) with
      | nil => exact absurd he (dec_wordy _).1
      | cons x t => rw [he] at h1; simpa using h1
theorem dec_num {n : Int} {most : Nat} (h1 : 1 ≤ n) (h2 : n ≤ most) (h3 : most < 10 ^ 19) : numOf most (decT' n) = some n.toNat := by
  have hs : (decS n).length < 20 := by
    unfold decS
    rw [Lib.decDigits_length]
    have := digits_le 18 n.toNat (by omega)
    omega
  unfold numOf decT'
  have hp : Lib.parseUintB 64 (bA (decS n)).data.toList = .ok n.toNat := by
    unfold Lib.parseUintB
    have e : (bA (decS n)).data.toList = Lib.decDigits n.toNat := rfl
    rw [e, if_neg (dec_wordy _).1]
    exact dec_parse _ (by decide) _ (by omega)
  rw [hp]
  have hd := dec_head n.toNat (by omega)
  have h4 : (bA (decS n)).size < 20 := by simpa [bA, ByteArray.size] using hs
  simp only
  rw [if_pos ⟨hd, h4, by omega⟩]
theorem num_ok {n : Int} {most : Nat} {ts : List ByteArray} {T T' : List Tok} (h : Starts (decT' n :: ts) T T') (h1 : 1 ≤ n) (h2 : n ≤ most) (h3 : most < 10 ^ 19) : numP most T = .ok (n.toNat, tlT T) := by
  unfold numP; rw [h.hd, dec_num h1 h2 h3]
theorem pats_ok : ∀ (ps acc : List ByteArray) (more : List ByteArray) (k : Nat) (T T' : List Tok), ps ≠ [] → ps.length ≤ k → patsOk acc ps = true → more.head? ≠ some tComma → (more = [] → hdT T' ≠ tComma) →
    Starts (patTok ps ++ more) T T' → ∃ M, patsP k acc T = .ok (acc ++ ps, M) ∧ Starts more M T'
  | [], _, _, _, _, _, h, _, _, _, _, _ => absurd rfl h
  | [p], acc, more, k + 1, T, T', _, _, hp, hm, hm', hS => by
    unfold patsOk at hp
    rw [Bool.and_eq_true] at hp
    refine ⟨tlT T, ?_, hS.tl⟩
    have hne : hdT (tlT T) ≠ tComma := by
      cases more with
      | nil => rw [Starts.nil hS.tl]; exact hm' rfl
      | cons m ms => rw [Starts.hd hS.tl]; simpa using hm
    unfold patsP
    rw [Starts.hd hS, if_pos hp.1, if_neg hne]
  | p :: q :: l, acc, more, k + 1, T, T', _, hk, hp, hm, hm', hS => by
    have hp' := hp
    unfold patsOk at hp
    rw [Bool.and_eq_true] at hp
    obtain ⟨M, h1, h2⟩ := pats_ok (q :: l) (acc ++ [p]) more k (tlT (tlT T)) T' (by simp) (by simpa using hk) hp.2 hm hm' hS.tl.tl
    refine ⟨M, ?_, h2⟩
    unfold patsP
    rw [Starts.hd hS, if_pos hp.1, if_pos (Starts.hd hS.tl), h1]
    simp
  | _ :: _, _, _, 0, _, _, _, hk, _, _, _, _ => by simp at hk
theorem bind_ok {α β : Type} (a : α) (f : α → PR β) : (Except.ok a >>= f) = f a := rfl
theorem lim_parts {r : Rul} (h : limitsB r = true) (ha : r.allow = true) : r.keyMin ≤ 2305843009213691579 ∧ 1 ≤ r.lifeMax ∧ r.lifeMax ≤ 1000 ∧ 0 ≤ r.most ∧ r.most ≤ 1000 ∧ (0 < r.most → 1 ≤ r.window ∧ r.window ≤ 1099511627776) ∧ (¬ 0 < r.most → r.window = 0) := by
  unfold limitsB at h
  rw [if_pos ha] at h
  simp only [Bool.and_eq_true, decide_eq_true_eq] at h
  obtain ⟨⟨⟨h1, h2, h3⟩, h4, h5⟩, h6⟩ := h
  refine ⟨h1, h2, h3, h4, h5, fun h => ?_, fun h => ?_⟩
  · rw [if_pos h] at h6; simpa using h6
  · rw [if_neg h] at h6; simpa using h6
theorem lim_none {r : Rul} (h : limitsB r = true) (ha : r.allow = false) : r.keyMin = 0 ∧ r.lifeMax = 0 ∧ r.most = 0 ∧ r.window = 0 := by
  unfold limitsB at h
  rw [ha] at h
  simpa [and_assoc] using h
theorem lim_ok {r : Rul} {T T' : List Tok} (hk : 0 ≤ r.keyMin) (h : limitsB r = true) (hS : Starts (keyTok r ++ (lifeTok r ++ (mostTok r ++ [tShut]))) T T') :
    ∃ M, limP r.allow T = .ok ((r.keyMin.toNat, r.lifeMax.toNat, r.most.toNat, r.window.toNat), M) ∧ Starts [tShut] M T' := by
  cases ha : r.allow
  · obtain ⟨h1, h2, h3, h4⟩ := lim_none h ha
    rw [show keyTok r = [] by simp [keyTok, h1], show lifeTok r = [] by simp [lifeTok, ha], show mostTok r = [] by simp [mostTok, h3]] at hS
    exact ⟨T, by rw [h1, h2, h3, h4]; rfl, by simpa using hS⟩
  · obtain ⟨h1, h2, h3, h4, h5, h6, h7⟩ := lim_parts h ha
    obtain ⟨A, a1, a2⟩ := hS.split
    obtain ⟨B, b1, b2⟩ := a2.split
    obtain ⟨C, c1, c2⟩ := b2.split
    have hL : lifeTok r = [tLife, decT' r.lifeMax, tSemi] := by simp [lifeTok, ha]
    rw [hL] at b1
    have hKP : keyP T = .ok (r.keyMin.toNat, A) := by
      unfold keyTok at a1
      unfold keyP
      split at a1
      · next hkp =>
        rw [if_pos a1.hd, num_ok a1.tl (by omega) h1 (by decide), bind_ok]
        simp only
        rw [want_ok a1.tl.tl, bind_ok, a1.tl.tl.tl.nil]; rfl
      · next hkp =>
        have he : r.keyMin = 0 := by omega
        have := a1.nil
        subst this
        rw [if_neg (by rw [b1.hd]; decide), he]; rfl
    have hLP : lifeP A = .ok (r.lifeMax.toNat, B) := by
      unfold lifeP
      rw [want_ok b1, bind_ok, num_ok b1.tl h2 (by omega) (by decide), bind_ok]
      simp only
      rw [want_ok b1.tl.tl, bind_ok, b1.tl.tl.tl.nil]; rfl
    have hMP : mostP B = .ok ((r.most.toNat, r.window.toNat), C) := by
      unfold mostTok at c1
      unfold mostP
      split at c1
      · next hm =>
        obtain ⟨w1, w2⟩ := h6 hm
        rw [if_pos c1.hd, num_ok c1.tl (by omega) (by omega) (by decide), bind_ok]
        simp only
        rw [want_ok c1.tl.tl, bind_ok, num_ok c1.tl.tl.tl w1 (by omega) (by decide), bind_ok]
        simp only
        rw [want_ok c1.tl.tl.tl.tl, bind_ok, c1.tl.tl.tl.tl.tl.nil]; rfl
      · next hm =>
        have he : r.most = 0 := by omega
        have hw := h7 hm
        have := c1.nil
        subst this
        rw [if_neg (by rw [c2.hd]; decide), he, hw]; rfl
    refine ⟨C, ?_, c2⟩
    unfold limP
    rw [if_pos rfl, hKP, bind_ok]
    simp only
    rw [hLP, bind_ok]
    simp only
    rw [hMP, bind_ok]; rfl
/-- A rule of form is read. -/
theorem rule_ok {ahead : List Rul} {r : Rul} {T T' : List Tok} (hk : 0 ≤ r.keyMin) (hf : formB r = true) (hn : memB (ahead.map (·.name)) r.name = false) (hl : ahead.length ≠ 32) (hS : Starts (ruleTok r) T T') : ruleP ahead T = .ok (r, T') := by
  obtain ⟨f1, f2, f3, f4, f5⟩ := form_parts hf
  have hS' : Starts ((if r.allow then tAllow else tRefuse) :: r.name :: tOpen :: (patTok r.pats ++ (tSemi :: (keyTok r ++ (lifeTok r ++ (mostTok r ++ [tShut])))))) T T' := by
    simpa [ruleTok, bodyTok, headTok] using hS
  have hh := hS'.hd
  have hda : decide (hdT T = tAllow) = r.allow := by
    rw [hh]; cases r.allow <;> decide
  have h1 := hS'.tl
  have h2 := h1.tl
  have h3 := h2.tl
  obtain ⟨M, m1, m2⟩ := pats_ok r.pats [] _ 8 _ _ f2 f3 f4 (by simp; decide) (by simp) h3
  obtain ⟨L, l1, l2⟩ := lim_ok hk f5 m2.tl
  have hlim : ∃ k l m p : Nat, (r.keyMin = k ∧ r.lifeMax = l ∧ r.most = m ∧ r.window = p) ∧ (r.keyMin.toNat = k ∧ r.lifeMax.toNat = l ∧ r.most.toNat = m ∧ r.window.toNat = p) := by
    refine ⟨_, _, _, _, ?_, rfl, rfl, rfl, rfl⟩
    cases ha : r.allow
    · obtain ⟨h1, h2, h3, h4⟩ := lim_none f5 ha
      rw [h1, h2, h3, h4]; simp
    · obtain ⟨h1, h2, h3, h4, h5, h6, h7⟩ := lim_parts f5 ha
      by_cases hm : 0 < r.most
      · have := h6 hm; omega
      · have := h7 hm; omega
  obtain ⟨k, l, m, p, ⟨e1, e2, e3, e4⟩, e5, e6, e7, e8⟩ := hlim
  unfold ruleP
  rw [if_pos (by rw [hh]; cases r.allow <;> simp), if_neg hl]
  have ht : takeP (nameFits ahead) (tlT T) = .ok (r.name, tlT (tlT T)) := by
    unfold takeP nameFits; rw [h1.hd, f1, hn]; rfl
  rw [ht, bind_ok]
  simp only
  rw [want_ok h2, bind_ok, m1, bind_ok]
  simp only
  rw [want_ok m2, bind_ok, hda, l1, bind_ok]
  simp only
  rw [want_ok l2, bind_ok, e5, e6, e7, e8, l2.tl.nil, ← e1, ← e2, ← e3, ← e4]
  rfl
end Pol
end Go.Proofs.YteemkkmkkgfofaaGreatDoor
