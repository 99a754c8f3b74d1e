/- Walks: the document's Within, Meets, Same; names.Labels. Walks: the document's Same; names.Labels. Policies, in plain Lean: rules, what they may be. No program in sight. A region that draws its order, each of whose operations yields its value in every world that meets S and leaves one that meets S: walked once, in the order of the text. -/
import Derived.Test.YtmdmbdbbpdojnaaGreatDoorM07
import Derived.Deep.QuietTactic
import Derived.BigQuiet
import Derived.WalkKit
import Derived.Test.YtmdmbdbbpdojnaaGreatDoorM04
import Derived.Test.YtmdmbdbbpdojnaaGreatDoorM01
import Derived.Orders
import Derived.Tactics
namespace Go.Proofs.YtmdmbdbbpdojnaaGreatDoor
open Go.RowKit Nam
attribute [local go_sem] okOr_true okOr_false

theorem starOf_size {p : ByteArray} (hp : p.size ≤ 9223372036854775807) : (⟨(starOf p.data.toList).toArray⟩ : ByteArray).size ≤ 9223372036854775807 := by
  rw [size_bs]; rw [Lib.size_eq] at hp
  unfold starOf
  split
  · rw [List.length_drop]; omega
  · simp
set_option maxHeartbeats 1000000 in
theorem rWithin_any (p q : ByteArray) (w : World) (hp : p.size ≤ 9223372036854775807) (hq : q.size ≤ 9223372036854775807) :
    Calls Tryz.prog 84 #[.string p, .string q] w (Ret (.bool (rwithinB p.data.toList q.data.toList)) w) := by
  have hr : rwithinB p.data.toList q.data.toList = if !rpatB p.data.toList || !rpatB q.data.toList then false else if !starB p.data.toList then rmatchB q.data.toList p.data.toList else starB q.data.toList && (starOf p.data.toList == starOf q.data.toList || belowB (starOf p.data.toList) (starOf q.data.toList)) := rfl
  have HR := Lib.hid hr; clear hr
  cases h1 : rpatB p.data.toList
  · have H1 := Lib.hid h1; clear h1
    go_enter Tryz.func84, Tryz.ntmps84
    go_wp2_with fail
    refine (rPattern_any p _ hp).mono ?_; rintro e w1 ⟨rfl, hE1⟩; rw [H1.out]
    go_wp2
    go_ret
    exact ⟨ret_bool (by rw [HR.out, H1.out]; rfl), hE1⟩
  · have H1 := Lib.hid h1; clear h1
    cases h2 : rpatB q.data.toList
    · have H2 := Lib.hid h2; clear h2
      go_enter Tryz.func84, Tryz.ntmps84
      go_wp2_with fail
      refine (rPattern_any p _ hp).mono ?_; rintro e w1 ⟨rfl, hE1⟩; rw [H1.out]
      go_wp2_with fail
      refine (rPattern_any q _ hq).mono ?_; rintro e w2 ⟨rfl, hE2⟩; rw [H2.out]
      go_wp2
      go_ret
      exact ⟨ret_bool (by rw [HR.out, H1.out, H2.out]; rfl), ext_trans hE1 hE2⟩
    · have H2 := Lib.hid h2; clear h2
      cases h3 : starB p.data.toList
      · have H3 := Lib.hid h3; clear h3
        go_enter Tryz.func84, Tryz.ntmps84
        go_wp2_with fail
        refine (rPattern_any p _ hp).mono ?_; rintro e w1 ⟨rfl, hE1⟩; rw [H1.out]
        go_wp2_with fail
        refine (rPattern_any q _ hq).mono ?_; rintro e w2 ⟨rfl, hE2⟩; rw [H2.out]
        go_wp2_with fail
        refine (rStar_any p _ hp).mono ?_; rintro e w3 ⟨rfl, hE3⟩; rw [H3.out]
        go_wp2_with fail
        refine (rMatch_any q p _ hq hp).mono ?_; rintro e w4 ⟨rfl, hE4⟩
        go_wp2
        go_ret
        exact ⟨ret_bool (by rw [HR.out, H1.out, H2.out, H3.out]; rfl), ext_trans (ext_trans (ext_trans hE1 hE2) hE3) hE4⟩
      · have H3 := Lib.hid h3; clear h3
        cases h4 : starB q.data.toList
        all_goals
          have H4 := Lib.hid h4; clear h4
          cases h5 : (starOf p.data.toList == starOf q.data.toList)
        all_goals
          have H5 := Lib.hid h5
          go_enter Tryz.func84, Tryz.ntmps84
          go_wp2_with fail
          refine (rPattern_any p _ hp).mono ?_; rintro e w1 ⟨rfl, hE1⟩; rw [H1.out]
          go_wp2_with fail
          refine (rPattern_any q _ hq).mono ?_; rintro e w2 ⟨rfl, hE2⟩; rw [H2.out]
          go_wp2_with fail
          refine (rStar_any p _ hp).mono ?_; rintro e w3 ⟨rfl, hE3⟩; rw [H3.out]
          go_wp2_with fail
          refine (rStar_any q _ hq).mono ?_; rintro e w4 ⟨rfl, hE4⟩; rw [H4.out]
          go_wp2_with (go_at_call 117; refine (rbelow_any _ _ _ (starOf_size hp)).mono ?_; rintro e w5 ⟨rfl, hE5⟩)
          go_ret
          refine ⟨ret_bool (by rw [HR.out, H1.out, H2.out, H3.out, H4.out, H5.out]; first | rfl | simp), ?_⟩
          first | exact ext_trans (ext_trans (ext_trans (ext_trans hE1 hE2) hE3) hE4) hE5 | exact ext_trans (ext_trans (ext_trans hE1 hE2) hE3) hE4
end Go.Proofs.YtmdmbdbbpdojnaaGreatDoor
namespace Go.Proofs.YtmdmbdbbpdojnaaGreatDoor
open Go.RowKit Nam

theorem strV_inj {a b : Str} (h : strV a = strV b) : a = b := by
  unfold strV at h
  injection h with h
  injection h with h
  have := congrArg Array.toList h
  simpa using this
theorem Cells.at {w : World} {b off k : Nat} {l : List Str} {x : Str} (h : Cells w b off (l.map strV)) (hx : l[k]? = some x) : w.cell? ⟨b, off + k, none⟩ = some (.string ⟨x.toArray⟩) := h k _ (strV_get hx)
def SameTo (a b : List Str) (k : Nat) : Prop := ∀ j : Nat, j < k → a[j]? = b[j]?
theorem sameTo_all {a b : List Str} {n : Nat} (ha : a.length = n) (hb : b.length = n) (h : SameTo a b n) : (a == b) = true := by
  rw [beq_iff_eq]
  refine List.ext_getElem? fun j => ?_
  by_cases hj : j < n
  · exact h j hj
  · rw [List.getElem?_eq_none (by omega), List.getElem?_eq_none (by omega)]
theorem sameTo_no {a b : List Str} {k : Nat} {x y : Str} (ha : a[k]? = some x) (hb : b[k]? = some y) (h : (x == y) = false) : (a == b) = false := by
  rw [beq_eq_false_iff_ne]; intro e
  rw [e, hb] at ha
  injection ha with ha
  rw [ha] at h; simp at h
theorem sameTo_step {a b : List Str} {k : Nat} {x y : Str} (h0 : SameTo a b k) (ha : a[k]? = some x) (hb : b[k]? = some y) (h : (x == y) = true) : SameTo a b (k + 1) := fun j hj => by
  by_cases e : j = k
  · subst e; rw [ha, hb, beq_iff_eq.1 h]
  · exact h0 j (by omega)
theorem same_len {a b : List Str} (h : a.length ≠ b.length) : (a == b) = false := by
  rw [beq_eq_false_iff_ne]; intro e; exact h (by rw [e])
end Go.Proofs.YtmdmbdbbpdojnaaGreatDoor
namespace Go.Proofs.YtmdmbdbbpdojnaaGreatDoor
namespace Pol
open Nam
/-- Does a text stand in a list? -/
def memB (l : List ByteArray) (s : ByteArray) : Bool := l.any fun y => y.data.toList == s.data.toList
theorem bytes_eq {a b : ByteArray} (h : a.data.toList = b.data.toList) : a = b := by
  obtain ⟨⟨a⟩⟩ := a; obtain ⟨⟨b⟩⟩ := b
  simp at h; subst h; rfl
theorem memB_iff {l : List ByteArray} {s : ByteArray} : memB l s = true ↔ s ∈ l := by
  unfold memB
  rw [List.any_eq_true]
  constructor
  · rintro ⟨y, hy, h⟩
    rw [beq_iff_eq] at h
    rwa [← bytes_eq h]
  · exact fun h => ⟨s, h, by simp⟩
theorem memB_snoc (l : List ByteArray) (y s : ByteArray) : memB (l ++ [y]) s = (memB l s || (y.data.toList == s.data.toList)) := by simp [memB]
theorem memB_take {l : List ByteArray} {k : Nat} {y : ByteArray} (h : l[k]? = some y) (s : ByteArray) : memB (l.take (k + 1)) s = (memB (l.take k) s || (y.data.toList == s.data.toList)) := by
  rw [List.take_add_one, h, Option.toList_some, memB_snoc]
/-- A rule, as the program holds it. -/
structure Rul where
  name : ByteArray
  allow : Bool
  pats : List ByteArray
  keyMin : Int
  lifeMax : Int
  most : Int
  window : Int
/-- a to z, 0 to 9. -/
def smallR (c : Int) : Bool := (decide (97 ≤ c) && decide (c ≤ 122)) || (decide (48 ≤ c) && decide (c ≤ 57))
def nameCh (c : Int) : Bool := smallR c || c == 45
/-- A rule's name. -/
def ruleName (s : Str) : Bool := decide (1 ≤ s.length) && decide (s.length ≤ 16) && s.all fun c => nameCh (c.toNat : Int)
def patOk (p : ByteArray) : Bool := (pattern p.data.toList).2.2
/-- Patterns, all of them some, none twice. -/
def patsOk : List ByteArray → List ByteArray → Bool
  | _, [] => true
  | ahead, p :: l => patOk p && !memB ahead p && patsOk (ahead ++ [p]) l
def limitsB (r : Rul) : Bool :=
  if r.allow then decide (r.keyMin ≤ 2305843009213691579) && (decide (1 ≤ r.lifeMax) && decide (r.lifeMax ≤ 1000)) && (decide (0 ≤ r.most) && decide (r.most ≤ 1000)) &&
    (if r.most > 0 then decide (1 ≤ r.window) && decide (r.window ≤ 1099511627776) else r.window == 0)
  else r.keyMin == 0 && r.lifeMax == 0 && r.most == 0 && r.window == 0
/-- The limits, as the document's code asks them. -/
theorem limits_ref (r : Rul) (h : r.allow = true) : (decide (r.keyMin ≤ 2305843009213691579) && decide (1 ≤ r.lifeMax) && decide (r.lifeMax ≤ 1000) && decide (0 ≤ r.most) && decide (r.most ≤ 1000) &&
    (decide (0 < r.most) && decide (1 ≤ r.window) && decide (r.window ≤ 1099511627776) || r.most == 0 && r.window == 0)) = limitsB r := by
  unfold limitsB
  rw [if_pos h]
  by_cases hm : 0 < r.most
  · have h0 : (r.most == 0) = false := by rw [beq_eq_false_iff_ne]; omega
    rw [if_pos (show r.most > 0 from hm), h0]
    simp [hm, Bool.and_assoc]
  · rw [if_neg (show ¬ r.most > 0 from hm)]
    by_cases h1 : r.most = 0
    · simp [h1, Bool.and_assoc]
    · have h2 : decide (0 ≤ r.most) = false := by rw [decide_eq_false_iff_not]; omega
      rw [h2]; simp
def formB (r : Rul) : Bool := ruleName r.name.data.toList && (decide (1 ≤ r.pats.length) && decide (r.pats.length ≤ 8)) && patsOk [] r.pats && limitsB r
/-- Rules of form, no name twice. -/
def rulesOk : List ByteArray → List Rul → Bool
  | _, [] => true
  | ahead, r :: l => formB r && !memB ahead r.name && rulesOk (ahead ++ [r.name]) l
/-- What the check of rules tells. -/
def checkE (l : List Rul) : Int := if rulesOk [] l then (if l.length ≤ 32 then 0 else 2) else 1
theorem patsOk_snoc : ∀ (l a : List ByteArray) (p : ByteArray), patsOk a (l ++ [p]) = (patsOk a l && (patOk p && !memB (a ++ l) p))
  | [], a, p => by simp [patsOk]
  | x :: l, a, p => by
    rw [List.cons_append, patsOk, patsOk, patsOk_snoc l (a ++ [x]) p]
    simp [Bool.and_assoc]
theorem rulesOk_snoc : ∀ (l : List Rul) (a : List ByteArray) (r : Rul), rulesOk a (l ++ [r]) = (rulesOk a l && (formB r && !memB (a ++ l.map (·.name)) r.name))
  | [], a, p => by simp [rulesOk]
  | x :: l, a, p => by
    rw [List.cons_append, rulesOk, rulesOk, rulesOk_snoc l (a ++ [x.name]) p]
    simp [Bool.and_assoc]
theorem patsOk_take {l : List ByteArray} {k : Nat} {p : ByteArray} (h : l[k]? = some p) : patsOk [] (l.take (k + 1)) = (patsOk [] (l.take k) && (patOk p && !memB (l.take k) p)) := by
  rw [List.take_add_one, h, Option.toList_some, patsOk_snoc, List.nil_append]
theorem rulesOk_take {l : List Rul} {k : Nat} {r : Rul} (h : l[k]? = some r) : rulesOk [] (l.take (k + 1)) = (rulesOk [] (l.take k) && (formB r && !memB ((l.take k).map (·.name)) r.name)) := by
  rw [List.take_add_one, h, Option.toList_some, rulesOk_snoc, List.nil_append]
theorem patsOk_false {l : List ByteArray} : ∀ {k : Nat}, patsOk [] (l.take k) = false → patsOk [] l = false := fun {k} h => by
  by_cases hk : k < l.length
  · have key : ∀ (m : Nat), patsOk [] (l.take (k + m)) = false := fun m => by
      induction m with
      | zero => exact h
      | succ m ih =>
        by_cases hm : k + m < l.length
        · rw [show k + (m + 1) = k + m + 1 from rfl, patsOk_take (List.getElem?_eq_getElem hm), ih]; rfl
        · rw [List.take_of_length_le (by omega)] at ih ⊢; exact ih
    have := key (l.length - k)
    rwa [show k + (l.length - k) = l.length by omega, List.take_length] at this
  · rwa [List.take_of_length_le (by omega)] at h
theorem rulesOk_false {l : List Rul} : ∀ {k : Nat}, rulesOk [] (l.take k) = false → rulesOk [] l = false := fun {k} h => by
  by_cases hk : k < l.length
  · have key : ∀ (m : Nat), rulesOk [] (l.take (k + m)) = false := fun m => by
      induction m with
      | zero => exact h
      | succ m ih =>
        by_cases hm : k + m < l.length
        · rw [show k + (m + 1) = k + m + 1 from rfl, rulesOk_take (List.getElem?_eq_getElem hm), ih]; rfl
        · rw [List.take_of_length_le (by omega)] at ih ⊢; exact ih
    have := key (l.length - k)
    rwa [show k + (l.length - k) = l.length by omega, List.take_length] at this
  · rwa [List.take_of_length_le (by omega)] at h
/-- Is a rule small? -/
def ruleFew (r : Rul) : Bool := decide (r.pats.length ≤ 12) && decide (r.name.size ≤ 100) && r.pats.all fun p => decide (p.size ≤ 200)
/-- Are rules few and small? -/
def fewB (l : List Rul) : Bool := ((l.take 40).all ruleFew) && decide (l.length ≤ 40)
theorem all_take_snoc {α : Type} {l : List α} {k : Nat} {x : α} (h : l[k]? = some x) (f : α → Bool) : (l.take (k + 1)).all f = ((l.take k).all f && f x) := by
  rw [List.take_add_one, h]; simp
theorem fewB_false {l : List Rul} {k : Nat} {r : Rul} (hr : l[k]? = some r) (hk : k < 40) (h : ruleFew r = false) : fewB l = false := by
  rw [Bool.eq_false_iff]; intro hf
  unfold fewB at hf
  rw [Bool.and_eq_true, List.all_eq_true] at hf
  have hm : r ∈ l.take 40 := List.mem_of_getElem? (i := k) (by rw [List.getElem?_take, if_pos hk]; exact hr)
  rw [hf.1 r hm] at h; cases h
theorem fewB_spec {l : List Rul} (h : fewB l = true) : l.length ≤ 40 ∧ ∀ r ∈ l, r.pats.length ≤ 12 ∧ r.name.size ≤ 100 ∧ ∀ p ∈ r.pats, p.size ≤ 200 := by
  unfold fewB at h
  rw [Bool.and_eq_true, List.all_eq_true, decide_eq_true_eq] at h
  obtain ⟨h1, h2⟩ := h
  refine ⟨h2, fun r hr => ?_⟩
  rw [List.take_of_length_le h2] at h1
  have := h1 r hr
  unfold ruleFew at this
  simp only [Bool.and_eq_true, decide_eq_true_eq, List.all_eq_true] at this
  exact ⟨this.1.1, this.1.2, this.2⟩
end Pol
end Go.Proofs.YtmdmbdbbpdojnaaGreatDoor
namespace Go.Proofs.YtmdmbdbbpdojnaaGreatDoor
open Go.RowKit

section
variable {P : Program} {ops : Array Oper} {Q : Exit → Act → World → Prop} {S : World → Prop}
/-- The value is v, the world meets S. -/
def Is (v : Value) (S : World → Prop) (u : Value) (w' : World) : Prop := u = v ∧ S w'
/-- It has returned what G tells of. -/
def GaveR (G : Value → World → Prop) (e : Ending) (w'' : World) : Prop := ∃ v, e = .returned v ∧ G v w''
theorem is_mk {v : Value} {S : World → Prop} {w : World} (h : S w) : Is v S v w := ⟨rfl, h⟩
theorem gave_mk {v : Value} {S : World → Prop} {w : World} (h : S w) : GaveR (Is v S) (.returned v) w := ⟨v, rfl, rfl, h⟩
/-- Op o, run from the frame a in the world w, comes to a value and a world that G tells of. -/
def Gives (P : Program) (o : Oper) (a : Act) (w : World) (G : Value → World → Prop) : Prop :=
  match (execOp a.eval o).run P w with
  | .ok (.value v) w' => G v w'
  | .ok .skip w' => G undef w'
  | .ok (.enter f args) w' => Calls P f args w' (GaveR G)
  | _ => False
/-- One operation of the walk: its value is v. -/
def StepAt (P : Program) (ops : Array Oper) (S : World → Prop) (o : Oper) (a : Act) (v : Value) : Prop :=
  ∀ w, S w → if Region.wanted o (yielded ops a.tmps) = true then Gives P o a w (Is v S) else v = undef
/-- The walk, from the frame a on. -/
def Steps (P : Program) (ops : Array Oper) (S : World → Prop) : List Oper → Act → (Act → Prop) → Prop
  | [], a, F => F a
  | o :: os, a, F => ∃ v, StepAt P ops S o a v ∧ Steps P ops S os (a.put o.dst v) F
theorem steps_run {o : Oper} {os : List Oper} {a : Act} {v : Value} {F : Act → Prop} (hw : Region.wanted o (yielded ops a.tmps) = true) (h : ∀ w, S w → Gives P o a w (Is v S)) (hs : Steps P ops S os (a.put o.dst v) F) : Steps P ops S (o :: os) a F :=
  ⟨v, fun w hS => by rw [if_pos hw]; exact h w hS, hs⟩
theorem steps_skip {o : Oper} {os : List Oper} {a : Act} {F : Act → Prop} (hw : Region.wanted o (yielded ops a.tmps) = false) (hs : Steps P ops S os (a.put o.dst undef) F) : Steps P ops S (o :: os) a F :=
  ⟨undef, fun w _ => by rw [hw]; rfl, hs⟩
/-- What a guarded operation's slot holds: v, or nothing. -/
def gv (b pol : Bool) (v : Value) : Value := if b = pol then v else undef
theorem gv_of {b pol : Bool} (h : b = pol) (v : Value) : gv b pol v = v := if_pos h
theorem wanted_guard {o : Oper} {a : Act} {g : Nat} {pol b : Bool} (hg : o.guard = some (g, pol)) (hy : yielded ops a.tmps g = some b) : Region.wanted o (yielded ops a.tmps) = (b == pol) := by
  unfold Region.wanted; rw [hg]; show (yielded ops a.tmps g == some pol) = _; rw [hy]; cases b <;> cases pol <;> rfl
/-- An operation whose guard is a Bool that is not known. -/
theorem steps_guard {o : Oper} {os : List Oper} {a : Act} {g : Nat} {pol b : Bool} {v : Value} {F : Act → Prop} (hg : o.guard = some (g, pol)) (hy : yielded ops a.tmps g = some b)
    (h : b = pol → ∀ w, S w → Gives P o a w (Is v S)) (hs : Steps P ops S os (a.put o.dst (gv b pol v)) F) : Steps P ops S (o :: os) a F := by
  refine ⟨_, fun w hS => ?_, hs⟩
  rw [wanted_guard hg hy]
  by_cases e : b = pol
  · rw [if_pos (by simp [e]), gv_of e]; exact h e w hS
  · rw [if_neg (by simp [e])]; exact if_neg e
/-- A guard that is itself guarded. -/
theorem steps_guard2 {o : Oper} {os : List Oper} {a : Act} {g : Nat} {d : Tmp} {pol b p1 b1 : Bool} {v : Value} {F : Act → Prop} (hg : o.guard = some (g, pol)) (hd : (ops[g]?).bind (·.dst) = some d) (hy : a.tmps[d]? = some (gv b1 p1 (.bool b)))
    (h : b1 = p1 → b = pol → ∀ w, S w → Gives P o a w (Is v S)) (hs : Steps P ops S os (a.put o.dst (gv b1 p1 (gv b pol v))) F) : Steps P ops S (o :: os) a F := by
  refine ⟨_, fun w hS => ?_, hs⟩
  have hyy : yielded ops a.tmps g = if b1 = p1 then some b else none := by
    unfold yielded; rw [hd]
    show (match a.tmps[d]? with | some (.bool b) => some b | _ => none) = _
    rw [hy]
    by_cases e : b1 = p1
    · rw [gv_of e, if_pos e]
    · rw [if_neg e]; unfold gv; rw [if_neg e]; rfl
  by_cases e1 : b1 = p1
  · rw [if_pos e1] at hyy
    rw [wanted_guard hg hyy, gv_of e1]
    by_cases e : b = pol
    · rw [if_pos (by simp [e]), gv_of e]; exact h e1 e w hS
    · rw [if_neg (by simp [e])]; exact if_neg e
  · rw [if_neg e1] at hyy
    have hw : Region.wanted o (yielded ops a.tmps) = false := by unfold Region.wanted; rw [hg]; show (yielded ops a.tmps g == some pol) = false; rw [hyy]; rfl
    rw [hw]; exact if_neg e1
/-- 'b2 && d', guarded. -/
theorem steps_guard_and {o : Oper} {os : List Oper} {a : Act} {g : Nat} {pol b b2 d : Bool} {c x : Operand} {F : Act → Prop} (hg : o.guard = some (g, pol)) (ho : o.op = .pick c x (.const (.bool false))) (hy : yielded ops a.tmps g = some b)
    (hc : a.eval c = gv b pol (.bool b2)) (hx : a.eval x = gv b pol (gv b2 true (.bool d))) (hs : Steps P ops S os (a.put o.dst (gv b pol (.bool (b2 && d)))) F) : Steps P ops S (o :: os) a F :=
  steps_guard hg hy (fun e w hS => by
    unfold Gives execOp
    simp only [ho, hc, hx, gv_of e]
    cases b2 <;> exact ⟨rfl, hS⟩) hs
/-- 'b && d'. -/
theorem steps_and {o : Oper} {os : List Oper} {a : Act} {c x : Operand} {b d : Bool} {F : Act → Prop} (hg : o.guard = none) (ho : o.op = .pick c x (.const (.bool false))) (hc : a.eval c = .bool b) (hx : a.eval x = gv b true (.bool d))
    (hs : Steps P ops S os (a.put o.dst (.bool (b && d))) F) : Steps P ops S (o :: os) a F := by
  refine steps_run (by unfold Region.wanted; rw [hg]) (fun w hS => ?_) hs
  unfold Gives execOp
  simp only [ho, hc, hx]
  cases b <;> exact ⟨rfl, hS⟩
/-- 'b || d'. -/
theorem steps_or {o : Oper} {os : List Oper} {a : Act} {c x : Operand} {b d : Bool} {F : Act → Prop} (hg : o.guard = none) (ho : o.op = .pick c (.const (.bool true)) x) (hc : a.eval c = .bool b) (hx : a.eval x = gv b false (.bool d))
    (hs : Steps P ops S os (a.put o.dst (.bool (b || d))) F) : Steps P ops S (o :: os) a F := by
  refine steps_run (by unfold Region.wanted; rw [hg]) (fun w hS => ?_) hs
  unfold Gives execOp
  simp only [ho, hc, hx]
  cases b <;> exact ⟨rfl, hS⟩
theorem steps_end {a : Act} {F : Act → Prop} (h : F a) : Steps P ops S [] a F := h
/-- Does j wait for i? -/
def waits (ops : Array Oper) (j i : Nat) : Bool := ((ops[j]?).map fun o => o.after.any fun e => Region.binds .any e && e.on == i).getD false
/-- Whoever looks at a slot waits for its writer, if that stands ahead of it, and is waited for, if it stands behind it; no slot has two writers; nothing is selected. -/
def orderly (ops : Array Oper) : Bool :=
  (List.range ops.size).all fun i => (List.range ops.size).all fun j =>
    match ops[i]?, ops[j]? with
    | some oi, some oj =>
      match oj.dst with
      | none => true
      | some d =>
        (i == j || oi.dst != some d) &&
        (!(oi.looksAt ops).contains d || (if j < i then waits ops i j else if i < j then waits ops j i else true))
    | _, _ => true
theorem orderly_at (h : orderly ops = true) {i j : Nat} {oi oj : Oper} (hi : ops[i]? = some oi) (hj : ops[j]? = some oj) {d : Tmp} (hd : oj.dst = some d) :
    (i = j ∨ oi.dst ≠ some d) ∧ (d ∈ oi.looksAt ops → (j < i → waits ops i j = true) ∧ (i < j → waits ops j i = true)) := by
  have hil := (Array.getElem?_eq_some_iff.1 hi).1
  have hjl := (Array.getElem?_eq_some_iff.1 hj).1
  have h1 := List.all_eq_true.1 h i (by simpa using hil)
  have h2 := List.all_eq_true.1 h1 j (by simpa using hjl)
  simp only [hi, hj, hd, Bool.and_eq_true, Bool.or_eq_true, beq_iff_eq, bne_iff_ne, Bool.not_eq_true'] at h2
  refine ⟨h2.1, fun hm => ?_⟩
  rcases h2.2 with h3 | h3
  · rw [← Bool.not_eq_true, List.contains_iff_mem] at h3; exact absurd hm h3
  · refine ⟨fun hlt => by simpa [hlt] using h3, fun hlt => ?_⟩
    have : ¬ j < i := by omega
    simpa [this, hlt] using h3
/-- The values, op by op. -/
inductive Vals (P : Program) (ops : Array Oper) (S : World → Prop) (a0 : Act) : Nat → List Value → Act → Prop
  | nil : Vals P ops S a0 0 [] a0
  | snoc {i : Nat} {vs : List Value} {a : Act} {o : Oper} {v : Value} : Vals P ops S a0 i vs a → ops[i]? = some o → StepAt P ops S o a v → Vals P ops S a0 (i + 1) (vs ++ [v]) (a.put o.dst v)
theorem vals_of_steps {a0 : Act} {F : Act → Prop} : ∀ (os : List Oper) (i : Nat) (vs : List Value) (a : Act), Vals P ops S a0 i vs a → ops.toList.drop i = os → Steps P ops S os a F → ∃ vs' a', Vals P ops S a0 ops.size vs' a' ∧ F a'
  | [], i, vs, a, hv, hd, hs => by
    have hle : ops.size ≤ i := by have := congrArg List.length hd; simp at this; omega
    have hi : i ≤ ops.size := by
      clear hs hd
      induction hv with
      | nil => omega
      | snoc _ ho _ _ => have := (Array.getElem?_eq_some_iff.1 ho).1; omega
    obtain rfl : i = ops.size := by omega
    exact ⟨vs, a, hv, hs⟩
  | o :: os, i, vs, a, hv, hd, hs => by
    obtain ⟨v, h1, h2⟩ := hs
    have ho : ops[i]? = some o := by
      have := congrArg (fun l => l[0]?) hd
      simpa using this
    refine vals_of_steps os (i + 1) (vs ++ [v]) _ (hv.snoc ho h1) ?_ h2
    rw [← List.drop_drop, hd]; rfl
/-- The frame behind the operations that 'listed' tells. -/
structure Agree (ops : Array Oper) (a0 : Act) (vs : List Value) (L : Nat → Prop) (a : Act) : Prop where
  defers : a.defers = a0.defers
  size : a.tmps.size = a0.tmps.size
  old : ∀ t, (∀ (i : Nat) o, L i → ops[i]? = some o → o.dst ≠ some t) → a.tmps[t]? = a0.tmps[t]?
  new : ∀ (i : Nat) o v t, L i → ops[i]? = some o → o.dst = some t → vs[i]? = some v → t < a0.tmps.size → a.tmps[t]? = some v
theorem Agree.put {a0 : Act} {vs : List Value} {L : Nat → Prop} {a : Act} (h : Agree ops a0 vs L a) (hord : orderly ops = true) {i : Nat} {o : Oper} {v : Value} (ho : ops[i]? = some o) (hv : vs[i]? = some v) :
    Agree ops a0 vs (fun k => L k ∨ k = i) (a.put o.dst v) := by
  cases hd : o.dst with
  | none =>
    refine ⟨h.defers, h.size, fun t ht => h.old t (fun k ok hk => ht k ok (.inl hk)), fun k ok u t hk hok hdk hu ht => ?_⟩
    rcases hk with hk | rfl
    · exact h.new k ok u t hk hok hdk hu ht
    · rw [ho] at hok; cases hok; rw [hd] at hdk; cases hdk
  | some d =>
    refine ⟨h.defers, by simp [Act.put, h.size], fun t ht => ?_, fun k ok u t hk hok hdk hu ht => ?_⟩
    · have hne : d ≠ t := fun e => ht i o (.inr rfl) ho (by rw [hd, e])
      simp only [Act.put, Array.getElem?_setIfInBounds_ne hne]
      exact h.old t (fun k ok hk => ht k ok (.inl hk))
    · by_cases hki : k = i
      · subst hki
        rw [ho] at hok; cases hok
        rw [hd] at hdk; cases hdk
        rw [hv] at hu; cases hu
        simp only [Act.put]
        rw [Array.getElem?_setIfInBounds_self]
        rw [if_pos (by rw [h.size]; exact ht)]
      · have hLk : L k := hk.resolve_right hki
        have hne : d ≠ t := fun e => by
          rcases (orderly_at hord hok ho hd).1 with h1 | h1
          · exact hki h1
          · exact h1 (by rw [hdk, e])
        simp only [Act.put, Array.getElem?_setIfInBounds_ne hne]
        exact h.new k ok u t hLk hok hdk hu ht
theorem vals_length {a0 : Act} {n : Nat} {vs : List Value} {a : Act} (h : Vals P ops S a0 n vs a) : vs.length = n := by
  induction h with
  | nil => rfl
  | snoc _ _ _ ih => simp [ih]
theorem vals_at {a0 : Act} (hord : orderly ops = true) : ∀ {n : Nat} {vs : List Value} {a : Act}, Vals P ops S a0 n vs a →
    Agree ops a0 vs (fun k => k < n) a ∧ ∀ i o, i < n → ops[i]? = some o → ∃ ai v, vs[i]? = some v ∧ StepAt P ops S o ai v ∧ Agree ops a0 vs (fun k => k < i) ai := by
  intro n vs a h
  induction h with
  | nil => exact ⟨⟨rfl, rfl, fun _ _ => rfl, fun i _ _ _ hi => by omega⟩, fun i _ hi => by omega⟩
  | @snoc i vs a o v hv ho hs ih =>
    obtain ⟨ih1, ih2⟩ := ih
    have hl := vals_length hv
    have more : ∀ {L : Nat → Prop} {b : Act}, (∀ k, L k → k < i) → Agree ops a0 vs L b → Agree ops a0 (vs ++ [v]) L b := fun hL hb =>
      ⟨hb.defers, hb.size, hb.old, fun k ok u t hk hok hdk hu ht => hb.new k ok u t hk hok hdk (by rw [List.getElem?_append_left (by rw [hl]; exact hL k hk)] at hu; exact hu) ht⟩
    have hvi : (vs ++ [v])[i]? = some v := by rw [List.getElem?_append_right (by omega), hl]; simp
    refine ⟨?_, fun k ok hk hok => ?_⟩
    · have := (more (fun k hk => hk) ih1).put hord ho hvi
      exact ⟨this.defers, this.size, fun t ht => this.old t (fun k ok hk => ht k ok (by have hk' : k < i ∨ k = i := hk; omega)), fun k ok u t hk => this.new k ok u t (by have hk' : k < i + 1 := hk; show k < i ∨ k = i; omega)⟩
    · by_cases hki : k = i
      · subst hki
        rw [ho] at hok; cases hok
        exact ⟨a, v, hvi, hs, more (fun k hk => hk) ih1⟩
      · obtain ⟨ai, u, h1, h2, h3⟩ := ih2 k ok (by omega) hok
        exact ⟨ai, u, by rw [List.getElem?_append_left (by omega)]; exact h1, h2, more (fun j hj => by omega) h3⟩
/-- Two frames that tell of the same ops tell the same of all slots that an op looks at. -/
theorem same_slots {a0 : Act} {vs : List Value} {L : Nat → Prop} {a b : Act} (hord : orderly ops = true) {i : Nat} {o : Oper} (ho : ops[i]? = some o) (hvs : vs.length = ops.size)
    (ha : Agree ops a0 vs L a) (hb : Agree ops a0 vs (fun k => k < i) b) (hLi : ¬ L i) (hready : ∀ j, waits ops i j = true → L j) (hclosed : ∀ j, L j → waits ops j i = true → L i) :
    ∀ t ∈ o.looksAt ops, a.tmps[t]? = b.tmps[t]? := by
  intro t ht
  by_cases hw : ∃ (j : Nat) (oj : Oper), ops[j]? = some oj ∧ oj.dst = some t
  · obtain ⟨j, oj, hj, hd⟩ := hw
    have hjl := (Array.getElem?_eq_some_iff.1 hj).1
    obtain ⟨_, h2⟩ := orderly_at hord ho hj hd
    obtain ⟨h3, h4⟩ := h2 ht
    have uniq : ∀ (k : Nat) ok, ops[k]? = some ok → ok.dst = some t → k = j := fun k ok hk hdk => by
      rcases (orderly_at hord hk hj hd).1 with e | e
      · exact e
      · exact absurd hdk e
    by_cases hji : j < i
    · have hLj := hready j (h3 hji)
      have hv : vs[j]? = some (vs[j]'(by omega)) := List.getElem?_eq_getElem (by omega)
      by_cases hts : t < a0.tmps.size
      · rw [ha.new j oj _ t hLj hj hd hv hts, hb.new j oj _ t hji hj hd hv hts]
      · have e1 : a.tmps[t]? = none := Array.getElem?_eq_none (by rw [ha.size]; exact Nat.le_of_not_lt hts)
        have e2 : b.tmps[t]? = none := Array.getElem?_eq_none (by rw [hb.size]; exact Nat.le_of_not_lt hts)
        rw [e1, e2]
    · have hLj : ¬ L j := fun hl => by
        by_cases e : i = j
        · subst e; exact hLi hl
        · exact hLi (hclosed j hl (h4 (by omega)))
      rw [ha.old t (fun k ok hk hok hdk => hLj (uniq k ok hok hdk ▸ hk)), hb.old t (fun k ok hk hok hdk => hji (uniq k ok hok hdk ▸ hk))]
  · rw [ha.old t (fun k ok _ hok hdk => hw ⟨k, ok, hok, hdk⟩), hb.old t (fun k ok _ hok hdk => hw ⟨k, ok, hok, hdk⟩)]
theorem eval_same {a b : Act} {t : Tmp} (h : a.tmps[t]? = b.tmps[t]?) : a.eval (.tmp t) = b.eval (.tmp t) := by
  simp [Act.eval, h]
theorem exec_same {a b : Act} {o : Oper} (hsel : ∀ cs c, o.op ≠ .select cs c) (h : ∀ t ∈ o.looksAt ops, a.tmps[t]? = b.tmps[t]?) : execOp a.eval o = execOp b.eval o := by
  refine execOp_congr o hsel fun x hx => ?_
  cases x with
  | tmp t => exact eval_same (h t (List.mem_append_left _ (List.mem_filterMap.2 ⟨.tmp t, by simpa using hx, rfl⟩)))
  | _ => rfl
theorem wanted_same {a b : Act} {o : Oper} (h : ∀ t ∈ o.looksAt ops, a.tmps[t]? = b.tmps[t]?) : Region.wanted o (yielded ops a.tmps) = Region.wanted o (yielded ops b.tmps) := by
  unfold Region.wanted
  cases hg : o.guard with
  | none => rfl
  | some g =>
    obtain ⟨j, want⟩ := g
    have : yielded ops a.tmps j = yielded ops b.tmps j := by
      unfold yielded
      cases hd : (ops[j]?).bind (·.dst) with
      | none => rfl
      | some d =>
        have hm : d ∈ o.looksAt ops := by unfold Oper.looksAt; rw [hg]; simp [hd]
        show (match a.tmps[d]? with | some (.bool b) => some b | _ => none) = (match b.tmps[d]? with | some (.bool b) => some b | _ => none)
        rw [h d hm]
    simp only [this]
theorem wp_of_gives {o : Oper} {a : Act} {w : World} {G : Value → World → Prop} (h : Gives P o a w G) {K : Act → World → Prop} (hK : ∀ v w', G v w' → K (a.put o.dst v) w') : o.wp P a w K Q := by
  unfold Gives at h
  unfold Oper.wp
  split at h
  · rename_i e; rw [e]; exact hK _ _ h
  · rename_i e; rw [e]; exact hK _ _ h
  · rename_i f args w' e
    rw [e]
    refine Calls.mono h ?_
    rintro e w'' ⟨v, rfl, hg⟩
    exact hK _ _ hg
  · exact h.elim
theorem gives_same {o : Oper} {a b : Act} (h : execOp a.eval o = execOp b.eval o) {w : World} {G : Value → World → Prop} (hg : Gives P o b w G) : Gives P o a w G := by
  unfold Gives at *
  rw [h]; exact hg
theorem ready_spec {listed : Array Bool} {i : Nat} (h : i ∈ Region.ready .any ops listed) : (∃ o, ops[i]? = some o) ∧ listed.getD i true = false ∧ ∀ j, waits ops i j = true → listed.getD j false = true := by
  unfold Region.ready at h
  obtain ⟨h1, h2⟩ := List.mem_filter.1 h
  have hi : i < ops.size := by simpa using h1
  have ho : ops[i]? = some ops[i] := Array.getElem?_eq_getElem hi
  rw [Bool.and_eq_true, ho] at h2
  obtain ⟨h3, h4⟩ := h2
  refine ⟨⟨_, ho⟩, by simpa using h3, fun j hj => ?_⟩
  unfold waits at hj
  rw [ho] at hj
  simp only [Option.map_some, Option.getD_some, Array.any_eq_true, Array.all_eq_true] at hj h4
  obtain ⟨x, hx, hx2⟩ := hj
  have := h4 x hx
  rw [Bool.and_eq_true, beq_iff_eq] at hx2
  rw [hx2.1, hx2.2] at this
  simpa using this
/-- Each waits for such alone as stand ahead of it. -/
def forwards (ops : Array Oper) : Bool := (List.range ops.size).all fun i => (List.range ops.size).all fun j => !waits ops i j || decide (j < i)
theorem forwards_at (h : forwards ops = true) {i j : Nat} (hi : i < ops.size) (hj : j < ops.size) (hw : waits ops i j = true) : j < i := by
  have h1 := List.all_eq_true.1 h i (by simpa using hi)
  have h2 := List.all_eq_true.1 h1 j (by simpa using hj)
  simpa [hw] using h2
theorem count_set_true : ∀ (l : List Bool) (i : Nat) (h : i < l.length), l[i] = false → (l.set i true).count false + 1 = l.count false
  | [], i, h, _ => by simp at h
  | b :: l, 0, h, hb => by
    have : b = false := hb
    subst this
    simp
  | b :: l, i + 1, h, hb => by
    have ih := count_set_true l i (by simpa using h) (by simpa using hb)
    simp only [List.set_cons_succ, List.count_cons]
    omega
/-- Where the drawn order stands. -/
structure Inv (ops : Array Oper) (S : World → Prop) (a0 : Act) (vs : List Value) (listed : Array Bool) (a : Act) (w : World) : Prop where
  world : S w
  size : listed.size = ops.size
  agree : Agree ops a0 vs (fun k => listed[k]? = some true) a
  closed : ∀ i j, listed[i]? = some true → waits ops i j = true → listed[j]? = some true
theorem ready_of_unlisted {listed : Array Bool} (hf : forwards ops = true) (hsz : listed.size = ops.size) (hedge : ∀ i j, waits ops i j = true → j < ops.size) (hr : Region.ready .any ops listed = []) :
    ∀ i, i < ops.size → listed[i]? = some true := by
  intro i
  induction i using Nat.strongRecOn with
  | _ i ih =>
    intro hi
    cases hl : listed[i]'(by omega) with
    | true => rw [Array.getElem?_eq_getElem (by omega), hl]
    | false =>
      exfalso
      have ho : ops[i]? = some ops[i] := Array.getElem?_eq_getElem hi
      have : i ∈ Region.ready .any ops listed := by
        unfold Region.ready
        refine List.mem_filter.2 ⟨by simpa using hi, ?_⟩
        rw [Bool.and_eq_true, ho]
        refine ⟨by simp [Array.getD, hsz, hi, hl], ?_⟩
        simp only [Option.map_some, Option.getD_some, Array.all_eq_true]
        intro x hx
        cases hb : Region.binds .any ops[i].after[x] with
        | false => rfl
        | true =>
          have hw : waits ops i ops[i].after[x].on = true := by
            unfold waits; rw [ho]
            simp only [Option.map_some, Option.getD_some, Array.any_eq_true]
            exact ⟨x, hx, by simp [hb]⟩
          have hjl := hedge i _ hw
          have := ih _ (forwards_at hf hi hjl hw) hjl
          simp [Array.getD_eq_getD_getElem?, this]
      rw [hr] at this; cases this
theorem wpAny_of_vals {a0 a' : Act} {vs : List Value} (hord : orderly ops = true) (hf : forwards ops = true) (hedge : ∀ i j, waits ops i j = true → j < ops.size) (hsel : Region.noSelect ops = true)
    (hv : Vals P ops S a0 ops.size vs a') (hfin : ∀ w, S w → Q .normal a' w) :
    ∀ (fuel : Nat) (listed : Array Bool) (a : Act) (w : World), (listed.toList.count false) ≤ fuel → Inv ops S a0 vs listed a w → wpAny P .any ops Q fuel listed a w := by
  obtain ⟨hA', hsteps⟩ := vals_at hord hv
  have hlen := vals_length hv
  have done : ∀ (listed : Array Bool) (a : Act) (w : World), Inv ops S a0 vs listed a w → (∀ i, i < ops.size → listed[i]? = some true) → Q .normal a w := fun listed a w hI hall => by
    have : a = a' := by
      obtain ⟨t1, d1⟩ := a; obtain ⟨t2, d2⟩ := a'
      have hs : t1.size = t2.size := hI.agree.size.trans hA'.size.symm
      have hd : d1 = d2 := hI.agree.defers.trans hA'.defers.symm
      have ht : t1 = t2 := by
        apply Array.ext_getElem?
        intro t
        by_cases hw : ∃ (j : Nat) (oj : Oper), ops[j]? = some oj ∧ oj.dst = some t
        · obtain ⟨j, oj, hj, hdj⟩ := hw
          have hjl := (Array.getElem?_eq_some_iff.1 hj).1
          have hvj : vs[j]? = some (vs[j]'(by omega)) := List.getElem?_eq_getElem (by omega)
          by_cases hts : t < a0.tmps.size
          · exact (hI.agree.new j oj _ t (hall j hjl) hj hdj hvj hts).trans (hA'.new j oj _ t hjl hj hdj hvj hts).symm
          · rw [Array.getElem?_eq_none (by have := hI.agree.size; simp only at this; omega), Array.getElem?_eq_none (by have := hA'.size; simp only at this; omega)]
        · exact (hI.agree.old t (fun k ok _ hok hdk => hw ⟨k, ok, hok, hdk⟩)).trans (hA'.old t (fun k ok _ hok hdk => hw ⟨k, ok, hok, hdk⟩)).symm
      rw [ht, hd]
    rw [this]; exact hfin w hI.world
  intro fuel
  induction fuel with
  | zero =>
    intro listed a w hc hI
    have hall : ∀ i, i < ops.size → listed[i]? = some true := fun i hi => by
      have hil : i < listed.size := by rw [hI.size]; exact hi
      cases hl : listed[i]'hil with
      | true => rw [Array.getElem?_eq_getElem hil, hl]
      | false =>
        have h1 : List.count false listed.toList = 0 := by omega
        have := List.count_eq_zero.1 h1
        exact absurd (by rw [← hl]; simp : false ∈ listed.toList) this
    refine ⟨?_, done listed a w hI hall⟩
    unfold Region.ready
    rw [List.filter_eq_nil_iff]
    intro i hi
    have := hall i (by simpa using hi)
    simp [Array.getD_eq_getD_getElem?, this]
  | succ fuel ih =>
    intro listed a w hc hI
    refine ⟨fun hr => done listed a w hI (ready_of_unlisted hf hI.size hedge hr), fun i hi => ?_⟩
    obtain ⟨⟨o, ho⟩, hl, hr⟩ := ready_spec hi
    have hil := (Array.getElem?_eq_some_iff.1 ho).1
    have hils : i < listed.size := by rw [hI.size]; exact hil
    have hlf : listed[i]'hils = false := by simpa [Array.getD, hils] using hl
    have hLi : ¬ listed[i]? = some true := by rw [Array.getElem?_eq_getElem hils, hlf]; simp
    have hready : ∀ j, waits ops i j = true → listed[j]? = some true := fun j hj => by
      have := hr j hj
      rw [Array.getD_eq_getD_getElem?] at this
      cases h : listed[j]? with
      | none => rw [h] at this; cases this
      | some b => rw [h] at this; simp at this; rw [this]
    obtain ⟨ai, v, hvi, hst, hag⟩ := hsteps i o hil ho
    have hslots := same_slots hord ho hlen hI.agree hag hLi hready (fun j hj hw => hI.closed j i hj hw)
    have hnext : ∀ w', S w' → wpAny P .any ops Q fuel (listed.setIfInBounds i true) (a.put o.dst v) w' := fun w' hw' => by
      have hset : ∀ k, (listed.setIfInBounds i true)[k]? = some true ↔ (listed[k]? = some true ∨ k = i) := fun k => by
        by_cases hki : k = i
        · subst hki; rw [Array.getElem?_setIfInBounds_self, if_pos hils]; simp
        · rw [Array.getElem?_setIfInBounds_ne (fun e => hki e.symm)]; simp [hki]
      refine ih _ _ _ ?_ ⟨hw', by simp [hI.size], ?_, fun k j hk hw => ?_⟩
      · have hcnt : List.count false (listed.setIfInBounds i true).toList + 1 = List.count false listed.toList := by
          rw [Array.toList_setIfInBounds]
          exact count_set_true _ i (by simpa using hils) (by simpa using hlf)
        omega
      · have := hI.agree.put hord ho hvi
        exact ⟨this.defers, this.size, fun t ht => this.old t (fun k ok hk => ht k ok ((hset k).2 hk)), fun k ok u t hk => this.new k ok u t ((hset k).1 hk)⟩
      · rcases (hset k).1 hk with hk | rfl
        · exact (hset j).2 (.inl (hI.closed k j hk hw))
        · exact (hset j).2 (.inl (hready j hw))
    refine wpOp_step ho (fun K' hK' => ?_)
    have hstw := hst w hI.world
    rw [wanted_same hslots]
    split
    · rename_i hw
      rw [if_pos hw] at hstw
      refine wp_of_gives (gives_same (exec_same (fun cs b => Region.noSelect_spec hsel i o cs b ho) hslots) hstw) ?_
      rintro u w' ⟨rfl, hw'⟩
      exact hK' _ _ (hnext w' hw')
    · rename_i hw
      rw [if_neg hw] at hstw
      subst hstw
      exact hK' _ _ (hnext w hI.world)
/-- THE LAW: a region that draws its order, walked once. -/
theorem wp_region_S {id : Nat} {a : Act} {w : World} (hm : P.follows .mixedOrders = true) (hord : orderly ops = true) (hf : forwards ops = true) (hedge : ((List.range ops.size).all fun i => ((ops[i]?).map fun o => o.after.all fun e => decide (e.on < ops.size)).getD true) = true)
    (hsel : Region.noSelect ops = true) (S : World → Prop) (h0 : S w.drew) (hs : Steps P ops S ops.toList a fun a' => ∀ w', S w' → Q .normal a' w') : (Code.region id ops true).wp P Q a w := by
  refine wp_region_any hm ?_
  obtain ⟨vs, a', hv, hfin⟩ := vals_of_steps ops.toList 0 [] a .nil rfl hs
  have hedge' : ∀ i j, waits ops i j = true → j < ops.size := fun i j hw => by
    unfold waits at hw
    cases ho : ops[i]? with
    | none => rw [ho] at hw; cases hw
    | some o =>
      rw [ho] at hw
      simp only [Option.map_some, Option.getD_some, Array.any_eq_true] at hw
      obtain ⟨x, hx, h2⟩ := hw
      rw [Bool.and_eq_true, beq_iff_eq] at h2
      have h1 := List.all_eq_true.1 hedge i (by simpa using (Array.getElem?_eq_some_iff.1 ho).1)
      rw [ho] at h1
      simp only [Option.map_some, Option.getD_some, Array.all_eq_true] at h1
      have := h1 x hx
      rw [← h2.2]; simpa using this
  refine wpAny_of_vals hord hf hedge' hsel hv hfin ops.size _ a _ (by simp) ⟨h0, by simp, ⟨rfl, rfl, fun _ _ => rfl, fun i _ _ _ hi => ?_⟩, fun i j hi => ?_⟩
  · rw [Array.getElem?_replicate] at hi; split at hi <;> cases hi
  · rw [Array.getElem?_replicate] at hi; split at hi <;> cases hi
/-- The same for a region that does not draw. -/
theorem wpList_of_steps : ∀ (os : List Oper) (a : Act) (w : World), S w → Steps P ops S os a (fun a' => ∀ w', S w' → Q .normal a' w') → wpList P ops Q os a w
  | [], _, w, h0, hs => hs w h0
  | o :: os, a, w, h0, ⟨v, h1, h2⟩ => by
    refine wpList_step fun K hK => ?_
    have hst := h1 w h0
    split
    · rename_i hw
      rw [if_pos hw] at hst
      refine wp_of_gives hst ?_
      rintro u w' ⟨rfl, hw'⟩
      exact hK _ _ (wpList_of_steps os _ w' hw' h2)
    · rename_i hw
      rw [if_neg hw] at hst
      subst hst
      exact hK _ _ (wpList_of_steps os _ w h0 h2)
theorem wp_region_P {id : Nat} {a : Act} {w : World} (S : World → Prop) (h0 : S w) (hs : Steps P ops S ops.toList a fun a' => ∀ w', S w' → Q .normal a' w') : (Code.region id ops false).wp P Q a w :=
  wp_region_list (wpList_of_steps _ _ _ h0 hs)
end
end Go.Proofs.YtmdmbdbbpdojnaaGreatDoor
