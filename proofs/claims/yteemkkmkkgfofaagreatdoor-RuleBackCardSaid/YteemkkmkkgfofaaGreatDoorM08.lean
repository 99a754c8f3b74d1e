/- A region that draws its order, each of whose operations yields its value in every world that meets S and leaves one that meets S: walked once, in the order of the text. Names, in plain Lean: the program's answers are the document's. Rules as they lie in memory; walks of the document's functions on rules (greatsealref15): small, Name, stands, named. -/
import Derived.Test.YteemkkmkkgfofaaGreatDoorM01
import Derived.Orders
import Derived.Tactics
import Derived.Test.YteemkkmkkgfofaaGreatDoorM03
import Derived.Test.YteemkkmkkgfofaaGreatDoorM07
namespace Go.Proofs.YteemkkmkkgfofaaGreatDoor
open Go.RowKit

section
variable {P : Program} {ops : Array Oper} {Q : Exit → Act → World → Prop} {S : World → Prop}
/-- The value is v, the world meets S. -/
def Is (v : Value) (S : World → Prop) (u : Value) (w' : World) : Prop := u = v ∧ S w'
/-- It has returned what G tells of. -/
def GaveR (G : Value → World → Prop) (e : Ending) (w'' : World) : Prop := ∃ v, e = .returned v ∧ G v w''
theorem is_mk {v : Value} {S : World → Prop} {w : World} (h : S w) : Is v S v w := ⟨rfl, h⟩
theorem gave_mk {v : Value} {S : World → Prop} {w : World} (h : S w) : GaveR (Is v S) (.returned v) w := ⟨v, rfl, rfl, h⟩
/-- Op o, run from the frame a in the world w, comes to a value and a world that G tells of. -/
def Gives (P : Program) (o : Oper) (a : Act) (w : World) (G : Value → World → Prop) : Prop :=
  match (execOp a.eval o).run P w with
  | .ok (.value v) w' => G v w'
  | .ok .skip w' => G undef w'
  | .ok (.enter f args) w' => Calls P f args w' (GaveR G)
  | _ => False
/-- One operation of the walk: its value is v. -/
def StepAt (P : Program) (ops : Array Oper) (S : World → Prop) (o : Oper) (a : Act) (v : Value) : Prop :=
  ∀ w, S w → if Region.wanted o (yielded ops a.tmps) = true then Gives P o a w (Is v S) else v = undef
/-- The walk, from the frame a on. -/
def Steps (P : Program) (ops : Array Oper) (S : World → Prop) : List Oper → Act → (Act → Prop) → Prop
  | [], a, F => F a
  | o :: os, a, F => ∃ v, StepAt P ops S o a v ∧ Steps P ops S os (a.put o.dst v) F
theorem steps_run {o : Oper} {os : List Oper} {a : Act} {v : Value} {F : Act → Prop} (hw : Region.wanted o (yielded ops a.tmps) = true) (h : ∀ w, S w → Gives P o a w (Is v S)) (hs : Steps P ops S os (a.put o.dst v) F) : Steps P ops S (o :: os) a F :=
  ⟨v, fun w hS => by rw [if_pos hw]; exact h w hS, hs⟩
theorem steps_skip {o : Oper} {os : List Oper} {a : Act} {F : Act → Prop} (hw : Region.wanted o (yielded ops a.tmps) = false) (hs : Steps P ops S os (a.put o.dst undef) F) : Steps P ops S (o :: os) a F :=
  ⟨undef, fun w _ => by rw [hw]; rfl, hs⟩
/-- What a guarded operation's slot holds: v, or nothing. -/
def gv (b pol : Bool) (v : Value) : Value := if b = pol then v else undef
theorem gv_of {b pol : Bool} (h : b = pol) (v : Value) : gv b pol v = v := if_pos h
theorem wanted_guard {o : Oper} {a : Act} {g : Nat} {pol b : Bool} (hg : o.guard = some (g, pol)) (hy : yielded ops a.tmps g = some b) : Region.wanted o (yielded ops a.tmps) = (b == pol) := by
  unfold Region.wanted; rw [hg]; show (yielded ops a.tmps g == some pol) = _; rw [hy]; cases b <;> cases pol <;> rfl
/-- An operation whose guard is a Bool that is not known. -/
theorem steps_guard {o : Oper} {os : List Oper} {a : Act} {g : Nat} {pol b : Bool} {v : Value} {F : Act → Prop} (hg : o.guard = some (g, pol)) (hy : yielded ops a.tmps g = some b)
    (h : b = pol → ∀ w, S w → Gives P o a w (Is v S)) (hs : Steps P ops S os (a.put o.dst (gv b pol v)) F) : Steps P ops S (o :: os) a F := by
  refine ⟨_, fun w hS => ?_, hs⟩
  rw [wanted_guard hg hy]
  by_cases e : b = pol
  · rw [if_pos (by simp [e]), gv_of e]; exact h e w hS
  · rw [if_neg (by simp [e])]; exact if_neg e
/-- A guard that is itself guarded. -/
theorem steps_guard2 {o : Oper} {os : List Oper} {a : Act} {g : Nat} {d : Tmp} {pol b p1 b1 : Bool} {v : Value} {F : Act → Prop} (hg : o.guard = some (g, pol)) (hd : (ops[g]?).bind (·.dst) = some d) (hy : a.tmps[d]? = some (gv b1 p1 (.bool b)))
    (h : b1 = p1 → b = pol → ∀ w, S w → Gives P o a w (Is v S)) (hs : Steps P ops S os (a.put o.dst (gv b1 p1 (gv b pol v))) F) : Steps P ops S (o :: os) a F := by
  refine ⟨_, fun w hS => ?_, hs⟩
  have hyy : yielded ops a.tmps g = if b1 = p1 then some b else none := by
    unfold yielded; rw [hd]
    show (match a.tmps[d]? with | some (.bool b) => some b | _ => none) = _
    rw [hy]
    by_cases e : b1 = p1
    · rw [gv_of e, if_pos e]
    · rw [if_neg e]; unfold gv; rw [if_neg e]; rfl
  by_cases e1 : b1 = p1
  · rw [if_pos e1] at hyy
    rw [wanted_guard hg hyy, gv_of e1]
    by_cases e : b = pol
    · rw [if_pos (by simp [e]), gv_of e]; exact h e1 e w hS
    · rw [if_neg (by simp [e])]; exact if_neg e
  · rw [if_neg e1] at hyy
    have hw : Region.wanted o (yielded ops a.tmps) = false := by unfold Region.wanted; rw [hg]; show (yielded ops a.tmps g == some pol) = false; rw [hyy]; rfl
    rw [hw]; exact if_neg e1
/-- 'b2 && d', guarded. -/
theorem steps_guard_and {o : Oper} {os : List Oper} {a : Act} {g : Nat} {pol b b2 d : Bool} {c x : Operand} {F : Act → Prop} (hg : o.guard = some (g, pol)) (ho : o.op = .pick c x (.const (.bool false))) (hy : yielded ops a.tmps g = some b)
    (hc : a.eval c = gv b pol (.bool b2)) (hx : a.eval x = gv b pol (gv b2 true (.bool d))) (hs : Steps P ops S os (a.put o.dst (gv b pol (.bool (b2 && d)))) F) : Steps P ops S (o :: os) a F :=
  steps_guard hg hy (fun e w hS => by
    unfold Gives execOp
    simp only [ho, hc, hx, gv_of e]
    cases b2 <;> exact ⟨rfl, hS⟩) hs
/-- 'b && d'. -/
theorem steps_and {o : Oper} {os : List Oper} {a : Act} {c x : Operand} {b d : Bool} {F : Act → Prop} (hg : o.guard = none) (ho : o.op = .pick c x (.const (.bool false))) (hc : a.eval c = .bool b) (hx : a.eval x = gv b true (.bool d))
    (hs : Steps P ops S os (a.put o.dst (.bool (b && d))) F) : Steps P ops S (o :: os) a F := by
  refine steps_run (by unfold Region.wanted; rw [hg]) (fun w hS => ?_) hs
  unfold Gives execOp
  simp only [ho, hc, hx]
  cases b <;> exact ⟨rfl, hS⟩
/-- 'b || d'. -/
theorem steps_or {o : Oper} {os : List Oper} {a : Act} {c x : Operand} {b d : Bool} {F : Act → Prop} (hg : o.guard = none) (ho : o.op = .pick c (.const (.bool true)) x) (hc : a.eval c = .bool b) (hx : a.eval x = gv b false (.bool d))
    (hs : Steps P ops S os (a.put o.dst (.bool (b || d))) F) : Steps P ops S (o :: os) a F := by
  refine steps_run (by unfold Region.wanted; rw [hg]) (fun w hS => ?_) hs
  unfold Gives execOp
  simp only [ho, hc, hx]
  cases b <;> exact ⟨rfl, hS⟩
theorem steps_end {a : Act} {F : Act → Prop} (h : F a) : Steps P ops S [] a F := h
/-- Does j wait for i? -/
def waits (ops : Array Oper) (j i : Nat) : Bool := ((ops[j]?).map fun o => o.after.any fun e => Region.binds .any e && e.on == i).getD false
/-- Whoever looks at a slot waits for its writer, if that stands ahead of it, and is waited for, if it stands behind it; no slot has two writers; nothing is selected. -/
def orderly (ops : Array Oper) : Bool :=
  (List.range ops.size).all fun i => (List.range ops.size).all fun j =>
    match ops[i]?, ops[j]? with
    | some oi, some oj =>
      match oj.dst with
      | none => true
      | some d =>
        (i == j || oi.dst != some d) &&
        (!(oi.looksAt ops).contains d || (if j < i then waits ops i j else if i < j then waits ops j i else true))
    | _, _ => true
theorem orderly_at (h : orderly ops = true) {i j : Nat} {oi oj : Oper} (hi : ops[i]? = some oi) (hj : ops[j]? = some oj) {d : Tmp} (hd : oj.dst = some d) :
    (i = j ∨ oi.dst ≠ some d) ∧ (d ∈ oi.looksAt ops → (j < i → waits ops i j = true) ∧ (i < j → waits ops j i = true)) := by
  have hil := (Array.getElem?_eq_some_iff.1 hi).1
  have hjl := (Array.getElem?_eq_some_iff.1 hj).1
  have h1 := List.all_eq_true.1 h i (by simpa using hil)
  have h2 := List.all_eq_true.1 h1 j (by simpa using hjl)
  simp only [hi, hj, hd, Bool.and_eq_true, Bool.or_eq_true, beq_iff_eq, bne_iff_ne, Bool.not_eq_true'] at h2
  refine ⟨h2.1, fun hm => ?_⟩
  rcases h2.2 with h3 | h3
  · rw [← Bool.not_eq_true, List.contains_iff_mem] at h3; exact absurd hm h3
  · refine ⟨fun hlt => by simpa [hlt] using h3, fun hlt => ?_⟩
    have : ¬ j < i := by omega
    simpa [this, hlt] using h3
/-- The values, op by op. -/
inductive Vals (P : Program) (ops : Array Oper) (S : World → Prop) (a0 : Act) : Nat → List Value → Act → Prop
  | nil : Vals P ops S a0 0 [] a0
  | snoc {i : Nat} {vs : List Value} {a : Act} {o : Oper} {v : Value} : Vals P ops S a0 i vs a → ops[i]? = some o → StepAt P ops S o a v → Vals P ops S a0 (i + 1) (vs ++ [v]) (a.put o.dst v)
theorem vals_of_steps {a0 : Act} {F : Act → Prop} : ∀ (os : List Oper) (i : Nat) (vs : List Value) (a : Act), Vals P ops S a0 i vs a → ops.toList.drop i = os → Steps P ops S os a F → ∃ vs' a', Vals P ops S a0 ops.size vs' a' ∧ F a'
  | [], i, vs, a, hv, hd, hs => by
    have hle : ops.size ≤ i := by have := congrArg List.length hd; simp at this; omega
    have hi : i ≤ ops.size := by
      clear hs hd
      induction hv with
      | nil => omega
      | snoc _ ho _ _ => have := (Array.getElem?_eq_some_iff.1 ho).1; omega
    obtain rfl : i = ops.size := by omega
    exact ⟨vs, a, hv, hs⟩
  | o :: os, i, vs, a, hv, hd, hs => by
    obtain ⟨v, h1, h2⟩ := hs
    have ho : ops[i]? = some o := by
      have := congrArg (fun l => l[0]?) hd
      simpa using this
    refine vals_of_steps os (i + 1) (vs ++ [v]) _ (hv.snoc ho h1) ?_ h2
    rw [← List.drop_drop, hd]; rfl
/-- The frame behind the operations that 'listed' tells. -/
structure Agree (ops : Array Oper) (a0 : Act) (vs : List Value) (L : Nat → Prop) (a : Act) : Prop where
  defers : a.defers = a0.defers
  size : a.tmps.size = a0.tmps.size
  old : ∀ t, (∀ (i : Nat) o, L i → ops[i]? = some o → o.dst ≠ some t) → a.tmps[t]? = a0.tmps[t]?
  new : ∀ (i : Nat) o v t, L i → ops[i]? = some o → o.dst = some t → vs[i]? = some v → t < a0.tmps.size → a.tmps[t]? = some v
theorem Agree.put {a0 : Act} {vs : List Value} {L : Nat → Prop} {a : Act} (h : Agree ops a0 vs L a) (hord : orderly ops = true) {i : Nat} {o : Oper} {v : Value} (ho : ops[i]? = some o) (hv : vs[i]? = some v) :
    Agree ops a0 vs (fun k => L k ∨ k = i) (a.put o.dst v) := by
  cases hd : o.dst with
  | none =>
    refine ⟨h.defers, h.size, fun t ht => h.old t (fun k ok hk => ht k ok (.inl hk)), fun k ok u t hk hok hdk hu ht => ?_⟩
    rcases hk with hk | rfl
    · exact h.new k ok u t hk hok hdk hu ht
    · rw [ho] at hok; cases hok; rw [hd] at hdk; cases hdk
  | some d =>
    refine ⟨h.defers, by simp [Act.put, h.size], fun t ht => ?_, fun k ok u t hk hok hdk hu ht => ?_⟩
    · have hne : d ≠ t := fun e => ht i o (.inr rfl) ho (by rw [hd, e])
      simp only [Act.put, Array.getElem?_setIfInBounds_ne hne]
      exact h.old t (fun k ok hk => ht k ok (.inl hk))
    · by_cases hki : k = i
      · subst hki
        rw [ho] at hok; cases hok
        rw [hd] at hdk; cases hdk
        rw [hv] at hu; cases hu
        simp only [Act.put]
        rw [Array.getElem?_setIfInBounds_self]
        rw [if_pos (by rw [h.size]; exact ht)]
      · have hLk : L k := hk.resolve_right hki
        have hne : d ≠ t := fun e => by
          rcases (orderly_at hord hok ho hd).1 with h1 | h1
          · exact hki h1
          · exact h1 (by rw [hdk, e])
        simp only [Act.put, Array.getElem?_setIfInBounds_ne hne]
        exact h.new k ok u t hLk hok hdk hu ht
theorem vals_length {a0 : Act} {n : Nat} {vs : List Value} {a : Act} (h : Vals P ops S a0 n vs a) : vs.length = n := by
  induction h with
  | nil => rfl
  | snoc _ _ _ ih => simp [ih]
theorem vals_at {a0 : Act} (hord : orderly ops = true) : ∀ {n : Nat} {vs : List Value} {a : Act}, Vals P ops S a0 n vs a →
    Agree ops a0 vs (fun k => k < n) a ∧ ∀ i o, i < n → ops[i]? = some o → ∃ ai v, vs[i]? = some v ∧ StepAt P ops S o ai v ∧ Agree ops a0 vs (fun k => k < i) ai := by
  intro n vs a h
  induction h with
  | nil => exact ⟨⟨rfl, rfl, fun _ _ => rfl, fun i _ _ _ hi => by omega⟩, fun i _ hi => by omega⟩
  | @snoc i vs a o v hv ho hs ih =>
    obtain ⟨ih1, ih2⟩ := ih
    have hl := vals_length hv
    have more : ∀ {L : Nat → Prop} {b : Act}, (∀ k, L k → k < i) → Agree ops a0 vs L b → Agree ops a0 (vs ++ [v]) L b := fun hL hb =>
      ⟨hb.defers, hb.size, hb.old, fun k ok u t hk hok hdk hu ht => hb.new k ok u t hk hok hdk (by rw [List.getElem?_append_left (by rw [hl]; exact hL k hk)] at hu; exact hu) ht⟩
    have hvi : (vs ++ [v])[i]? = some v := by rw [List.getElem?_append_right (by omega), hl]; simp
    refine ⟨?_, fun k ok hk hok => ?_⟩
    · have := (more (fun k hk => hk) ih1).put hord ho hvi
      exact ⟨this.defers, this.size, fun t ht => this.old t (fun k ok hk => ht k ok (by have hk' : k < i ∨ k = i := hk; omega)), fun k ok u t hk => this.new k ok u t (by have hk' : k < i + 1 := hk; show k < i ∨ k = i; omega)⟩
    · by_cases hki : k = i
      · subst hki
        rw [ho] at hok; cases hok
        exact ⟨a, v, hvi, hs, more (fun k hk => hk) ih1⟩
      · obtain ⟨ai, u, h1, h2, h3⟩ := ih2 k ok (by omega) hok
        exact ⟨ai, u, by rw [List.getElem?_append_left (by omega)]; exact h1, h2, more (fun j hj => by omega) h3⟩
/-- Two frames that tell of the same ops tell the same of all slots that an op looks at. -/
theorem same_slots {a0 : Act} {vs : List Value} {L : Nat → Prop} {a b : Act} (hord : orderly ops = true) {i : Nat} {o : Oper} (ho : ops[i]? = some o) (hvs : vs.length = ops.size)
    (ha : Agree ops a0 vs L a) (hb : Agree ops a0 vs (fun k => k < i) b) (hLi : ¬ L i) (hready : ∀ j, waits ops i j = true → L j) (hclosed : ∀ j, L j → waits ops j i = true → L i) :
    ∀ t ∈ o.looksAt ops, a.tmps[t]? = b.tmps[t]? := by
  intro t ht
  by_cases hw : ∃ (j : Nat) (oj : Oper), ops[j]? = some oj ∧ oj.dst = some t
  · obtain ⟨j, oj, hj, hd⟩ := hw
    have hjl := (Array.getElem?_eq_some_iff.1 hj).1
    obtain ⟨_, h2⟩ := orderly_at hord ho hj hd
    obtain ⟨h3, h4⟩ := h2 ht
    have uniq : ∀ (k : Nat) ok, ops[k]? = some ok → ok.dst = some t → k = j := fun k ok hk hdk => by
      rcases (orderly_at hord hk hj hd).1 with e | e
      · exact e
      · exact absurd hdk e
    by_cases hji : j < i
    · have hLj := hready j (h3 hji)
      have hv : vs[j]? = some (vs[j]'(by omega)) := List.getElem?_eq_getElem (by omega)
      by_cases hts : t < a0.tmps.size
      · rw [ha.new j oj _ t hLj hj hd hv hts, hb.new j oj _ t hji hj hd hv hts]
      · have e1 : a.tmps[t]? = none := Array.getElem?_eq_none (by rw [ha.size]; exact Nat.le_of_not_lt hts)
        have e2 : b.tmps[t]? = none := Array.getElem?_eq_none (by rw [hb.size]; exact Nat.le_of_not_lt hts)
        rw [e1, e2]
    · have hLj : ¬ L j := fun hl => by
        by_cases e : i = j
        · subst e; exact hLi hl
        · exact hLi (hclosed j hl (h4 (by omega)))
      rw [ha.old t (fun k ok hk hok hdk => hLj (uniq k ok hok hdk ▸ hk)), hb.old t (fun k ok hk hok hdk => hji (uniq k ok hok hdk ▸ hk))]
  · rw [ha.old t (fun k ok _ hok hdk => hw ⟨k, ok, hok, hdk⟩), hb.old t (fun k ok _ hok hdk => hw ⟨k, ok, hok, hdk⟩)]
theorem eval_same {a b : Act} {t : Tmp} (h : a.tmps[t]? = b.tmps[t]?) : a.eval (.tmp t) = b.eval (.tmp t) := by
  simp [Act.eval, h]
theorem exec_same {a b : Act} {o : Oper} (hsel : ∀ cs c, o.op ≠ .select cs c) (h : ∀ t ∈ o.looksAt ops, a.tmps[t]? = b.tmps[t]?) : execOp a.eval o = execOp b.eval o := by
  refine execOp_congr o hsel fun x hx => ?_
  cases x with
  | tmp t => exact eval_same (h t (List.mem_append_left _ (List.mem_filterMap.2 ⟨.tmp t, by simpa using hx, rfl⟩)))
  | _ => rfl
theorem wanted_same {a b : Act} {o : Oper} (h : ∀ t ∈ o.looksAt ops, a.tmps[t]? = b.tmps[t]?) : Region.wanted o (yielded ops a.tmps) = Region.wanted o (yielded ops b.tmps) := by
  unfold Region.wanted
  cases hg : o.guard with
  | none => rfl
  | some g =>
    obtain ⟨j, want⟩ := g
    have : yielded ops a.tmps j = yielded ops b.tmps j := by
      unfold yielded
      cases hd : (ops[j]?).bind (·.dst) with
      | none => rfl
      | some d =>
        have hm : d ∈ o.looksAt ops := by unfold Oper.looksAt; rw [hg]; simp [hd]
        show (match a.tmps[d]? with | some (.bool b) => some b | _ => none) = (match b.tmps[d]? with | some (.bool b) => some b | _ => none)
        rw [h d hm]
    simp only [this]
theorem wp_of_gives {o : Oper} {a : Act} {w : World} {G : Value → World → Prop} (h : Gives P o a w G) {K : Act → World → Prop} (hK : ∀ v w', G v w' → K (a.put o.dst v) w') : o.wp P a w K Q := by
  unfold Gives at h
  unfold Oper.wp
  split at h
  · rename_i e; rw [e]; exact hK _ _ h
  · rename_i e; rw [e]; exact hK _ _ h
  · rename_i f args w' e
    rw [e]
    refine Calls.mono h ?_
    rintro e w'' ⟨v, rfl, hg⟩
    exact hK _ _ hg
  · exact h.elim
theorem gives_same {o : Oper} {a b : Act} (h : execOp a.eval o = execOp b.eval o) {w : World} {G : Value → World → Prop} (hg : Gives P o b w G) : Gives P o a w G := by
  unfold Gives at *
  rw [h]; exact hg
theorem ready_spec {listed : Array Bool} {i : Nat} (h : i ∈ Region.ready .any ops listed) : (∃ o, ops[i]? = some o) ∧ listed.getD i true = false ∧ ∀ j, waits ops i j = true → listed.getD j false = true := by
  unfold Region.ready at h
  obtain ⟨h1, h2⟩ := List.mem_filter.1 h
  have hi : i < ops.size := by simpa using h1
  have ho : ops[i]? = some ops[i] := Array.getElem?_eq_getElem hi
  rw [Bool.and_eq_true, ho] at h2
  obtain ⟨h3, h4⟩ := h2
  refine ⟨⟨_, ho⟩, by simpa using h3, fun j hj => ?_⟩
  unfold waits at hj
  rw [ho] at hj
  simp only [Option.map_some, Option.getD_some, Array.any_eq_true, Array.all_eq_true] at hj h4
  obtain ⟨x, hx, hx2⟩ := hj
  have := h4 x hx
  rw [Bool.and_eq_true, beq_iff_eq] at hx2
  rw [hx2.1, hx2.2] at this
  simpa using this
/-- Each waits for such alone as stand ahead of it. -/
def forwards (ops : Array Oper) : Bool := (List.range ops.size).all fun i => (List.range ops.size).all fun j => !waits ops i j || decide (j < i)
theorem forwards_at (h : forwards ops = true) {i j : Nat} (hi : i < ops.size) (hj : j < ops.size) (hw : waits ops i j = true) : j < i := by
  have h1 := List.all_eq_true.1 h i (by simpa using hi)
  have h2 := List.all_eq_true.1 h1 j (by simpa using hj)
  simpa [hw] using h2
theorem count_set_true : ∀ (l : List Bool) (i : Nat) (h : i < l.length), l[i] = false → (l.set i true).count false + 1 = l.count false
  | [], i, h, _ => by simp at h
  | b :: l, 0, h, hb => by
    have : b = false := hb
    subst this
    simp
  | b :: l, i + 1, h, hb => by
    have ih := count_set_true l i (by simpa using h) (by simpa using hb)
    simp only [List.set_cons_succ, List.count_cons]
    omega
/-- Where the drawn order stands. -/
structure Inv (ops : Array Oper) (S : World → Prop) (a0 : Act) (vs : List Value) (listed : Array Bool) (a : Act) (w : World) : Prop where
  world : S w
  size : listed.size = ops.size
  agree : Agree ops a0 vs (fun k => listed[k]? = some true) a
  closed : ∀ i j, listed[i]? = some true → waits ops i j = true → listed[j]? = some true
theorem ready_of_unlisted {listed : Array Bool} (hf : forwards ops = true) (hsz : listed.size = ops.size) (hedge : ∀ i j, waits ops i j = true → j < ops.size) (hr : Region.ready .any ops listed = []) :
    ∀ i, i < ops.size → listed[i]? = some true := by
  intro i
  induction i using Nat.strongRecOn with
  | _ i ih =>
    intro hi
    cases hl : listed[i]'(by omega) with
    | true => rw [Array.getElem?_eq_getElem (by omega), hl]
    | false =>
      exfalso
      have ho : ops[i]? = some ops[i] := Array.getElem?_eq_getElem hi
      have : i ∈ Region.ready .any ops listed := by
        unfold Region.ready
        refine List.mem_filter.2 ⟨by simpa using hi, ?_⟩
        rw [Bool.and_eq_true, ho]
        refine ⟨by simp [Array.getD, hsz, hi, hl], ?_⟩
        simp only [Option.map_some, Option.getD_some, Array.all_eq_true]
        intro x hx
        cases hb : Region.binds .any ops[i].after[x] with
        | false => rfl
        | true =>
          have hw : waits ops i ops[i].after[x].on = true := by
            unfold waits; rw [ho]
            simp only [Option.map_some, Option.getD_some, Array.any_eq_true]
            exact ⟨x, hx, by simp [hb]⟩
          have hjl := hedge i _ hw
          have := ih _ (forwards_at hf hi hjl hw) hjl
          simp [Array.getD_eq_getD_getElem?, this]
      rw [hr] at this; cases this
theorem wpAny_of_vals {a0 a' : Act} {vs : List Value} (hord : orderly ops = true) (hf : forwards ops = true) (hedge : ∀ i j, waits ops i j = true → j < ops.size) (hsel : Region.noSelect ops = true)
    (hv : Vals P ops S a0 ops.size vs a') (hfin : ∀ w, S w → Q .normal a' w) :
    ∀ (fuel : Nat) (listed : Array Bool) (a : Act) (w : World), (listed.toList.count false) ≤ fuel → Inv ops S a0 vs listed a w → wpAny P .any ops Q fuel listed a w := by
  obtain ⟨hA', hsteps⟩ := vals_at hord hv
  have hlen := vals_length hv
  have done : ∀ (listed : Array Bool) (a : Act) (w : World), Inv ops S a0 vs listed a w → (∀ i, i < ops.size → listed[i]? = some true) → Q .normal a w := fun listed a w hI hall => by
    have : a = a' := by
      obtain ⟨t1, d1⟩ := a; obtain ⟨t2, d2⟩ := a'
      have hs : t1.size = t2.size := hI.agree.size.trans hA'.size.symm
      have hd : d1 = d2 := hI.agree.defers.trans hA'.defers.symm
      have ht : t1 = t2 := by
        apply Array.ext_getElem?
        intro t
        by_cases hw : ∃ (j : Nat) (oj : Oper), ops[j]? = some oj ∧ oj.dst = some t
        · obtain ⟨j, oj, hj, hdj⟩ := hw
          have hjl := (Array.getElem?_eq_some_iff.1 hj).1
          have hvj : vs[j]? = some (vs[j]'(by omega)) := List.getElem?_eq_getElem (by omega)
          by_cases hts : t < a0.tmps.size
          · exact (hI.agree.new j oj _ t (hall j hjl) hj hdj hvj hts).trans (hA'.new j oj _ t hjl hj hdj hvj hts).symm
          · rw [Array.getElem?_eq_none (by have := hI.agree.size; simp only at this; omega), Array.getElem?_eq_none (by have := hA'.size; simp only at this; omega)]
        · exact (hI.agree.old t (fun k ok _ hok hdk => hw ⟨k, ok, hok, hdk⟩)).trans (hA'.old t (fun k ok _ hok hdk => hw ⟨k, ok, hok, hdk⟩)).symm
      rw [ht, hd]
    rw [this]; exact hfin w hI.world
  intro fuel
  induction fuel with
  | zero =>
    intro listed a w hc hI
    have hall : ∀ i, i < ops.size → listed[i]? = some true := fun i hi => by
      have hil : i < listed.size := by rw [hI.size]; exact hi
      cases hl : listed[i]'hil with
      | true => rw [Array.getElem?_eq_getElem hil, hl]
      | false =>
        have h1 : List.count false listed.toList = 0 := by omega
        have := List.count_eq_zero.1 h1
        exact absurd (by rw [← hl]; simp : false ∈ listed.toList) this
    refine ⟨?_, done listed a w hI hall⟩
    unfold Region.ready
    rw [List.filter_eq_nil_iff]
    intro i hi
    have := hall i (by simpa using hi)
    simp [Array.getD_eq_getD_getElem?, this]
  | succ fuel ih =>
    intro listed a w hc hI
    refine ⟨fun hr => done listed a w hI (ready_of_unlisted hf hI.size hedge hr), fun i hi => ?_⟩
    obtain ⟨⟨o, ho⟩, hl, hr⟩ := ready_spec hi
    have hil := (Array.getElem?_eq_some_iff.1 ho).1
    have hils : i < listed.size := by rw [hI.size]; exact hil
    have hlf : listed[i]'hils = false := by simpa [Array.getD, hils] using hl
    have hLi : ¬ listed[i]? = some true := by rw [Array.getElem?_eq_getElem hils, hlf]; simp
    have hready : ∀ j, waits ops i j = true → listed[j]? = some true := fun j hj => by
      have := hr j hj
      rw [Array.getD_eq_getD_getElem?] at this
      cases h : listed[j]? with
      | none => rw [h] at this; cases this
      | some b => rw [h] at this; simp at this; rw [this]
    obtain ⟨ai, v, hvi, hst, hag⟩ := hsteps i o hil ho
    have hslots := same_slots hord ho hlen hI.agree hag hLi hready (fun j hj hw => hI.closed j i hj hw)
    have hnext : ∀ w', S w' → wpAny P .any ops Q fuel (listed.setIfInBounds i true) (a.put o.dst v) w' := fun w' hw' => by
      have hset : ∀ k, (listed.setIfInBounds i true)[k]? = some true ↔ (listed[k]? = some true ∨ k = i) := fun k => by
        by_cases hki : k = i
        · subst hki; rw [Array.getElem?_setIfInBounds_self, if_pos hils]; simp
        · rw [Array.getElem?_setIfInBounds_ne (fun e => hki e.symm)]; simp [hki]
      refine ih _ _ _ ?_ ⟨hw', by simp [hI.size], ?_, fun k j hk hw => ?_⟩
      · have hcnt : List.count false (listed.setIfInBounds i true).toList + 1 = List.count false listed.toList := by
          rw [Array.toList_setIfInBounds]
          exact count_set_true _ i (by simpa using hils) (by simpa using hlf)
        omega
      · have := hI.agree.put hord ho hvi
        exact ⟨this.defers, this.size, fun t ht => this.old t (fun k ok hk => ht k ok ((hset k).2 hk)), fun k ok u t hk => this.new k ok u t ((hset k).1 hk)⟩
      · rcases (hset k).1 hk with hk | rfl
        · exact (hset j).2 (.inl (hI.closed k j hk hw))
        · exact (hset j).2 (.inl (hready j hw))
    refine wpOp_step ho (fun K' hK' => ?_)
    have hstw := hst w hI.world
    rw [wanted_same hslots]
    split
    · rename_i hw
      rw [if_pos hw] at hstw
      refine wp_of_gives (gives_same (exec_same (fun cs b => Region.noSelect_spec hsel i o cs b ho) hslots) hstw) ?_
      rintro u w' ⟨rfl, hw'⟩
      exact hK' _ _ (hnext w' hw')
    · rename_i hw
      rw [if_neg hw] at hstw
      subst hstw
      exact hK' _ _ (hnext w hI.world)
/-- THE LAW: a region that draws its order, walked once. -/
theorem wp_region_S {id : Nat} {a : Act} {w : World} (hm : P.follows .mixedOrders = true) (hord : orderly ops = true) (hf : forwards ops = true) (hedge : ((List.range ops.size).all fun i => ((ops[i]?).map fun o => o.after.all fun e => decide (e.on < ops.size)).getD true) = true)
    (hsel : Region.noSelect ops = true) (S : World → Prop) (h0 : S w.drew) (hs : Steps P ops S ops.toList a fun a' => ∀ w', S w' → Q .normal a' w') : (Code.region id ops true).wp P Q a w := by
  refine wp_region_any hm ?_
  obtain ⟨vs, a', hv, hfin⟩ := vals_of_steps ops.toList 0 [] a .nil rfl hs
  have hedge' : ∀ i j, waits ops i j = true → j < ops.size := fun i j hw => by
    unfold waits at hw
    cases ho : ops[i]? with
    | none => rw [ho] at hw; cases hw
    | some o =>
      rw [ho] at hw
      simp only [Option.map_some, Option.getD_some, Array.any_eq_true] at hw
      obtain ⟨x, hx, h2⟩ := hw
      rw [Bool.and_eq_true, beq_iff_eq] at h2
      have h1 := List.all_eq_true.1 hedge i (by simpa using (Array.getElem?_eq_some_iff.1 ho).1)
      rw [ho] at h1
      simp only [Option.map_some, Option.getD_some, Array.all_eq_true] at h1
      have := h1 x hx
      rw [← h2.2]; simpa using this
  refine wpAny_of_vals hord hf hedge' hsel hv hfin ops.size _ a _ (by simp) ⟨h0, by simp, ⟨rfl, rfl, fun _ _ => rfl, fun i _ _ _ hi => ?_⟩, fun i j hi => ?_⟩
  · rw [Array.getElem?_replicate] at hi; split at hi <;> cases hi
  · rw [Array.getElem?_replicate] at hi; split at hi <;> cases hi
/-- The same for a region that does not draw. -/
theorem wpList_of_steps : ∀ (os : List Oper) (a : Act) (w : World), S w → Steps P ops S os a (fun a' => ∀ w', S w' → Q .normal a' w') → wpList P ops Q os a w
  | [], _, w, h0, hs => hs w h0
  | o :: os, a, w, h0, ⟨v, h1, h2⟩ => by
    refine wpList_step fun K hK => ?_
    have hst := h1 w h0
    split
    · rename_i hw
      rw [if_pos hw] at hst
      refine wp_of_gives hst ?_
      rintro u w' ⟨rfl, hw'⟩
      exact hK _ _ (wpList_of_steps os _ w' hw' h2)
    · rename_i hw
      rw [if_neg hw] at hst
      subst hst
      exact hK _ _ (wpList_of_steps os _ w h0 h2)
theorem wp_region_P {id : Nat} {a : Act} {w : World} (S : World → Prop) (h0 : S w) (hs : Steps P ops S ops.toList a fun a' => ∀ w', S w' → Q .normal a' w') : (Code.region id ops false).wp P Q a w :=
  wp_region_list (wpList_of_steps _ _ _ h0 hs)
end
end Go.Proofs.YteemkkmkkgfofaaGreatDoor
namespace Go.Proofs.YteemkkmkkgfofaaGreatDoor
namespace Nam
theorem label_star (t : Str) : labelB (42 :: t) = false := by
  rw [Bool.eq_false_iff]; intro h
  unfold labelB at h
  simp only [Bool.and_eq_true, List.all_eq_true, List.mem_range] at h
  have := h.2 0 (by simp)
  unfold okR at this
  have h1 : edgeR (((42 :: t).getD 0 0).toNat : Int) = false := by simp [edgeR]
  have h2 : innerR (((42 :: t).getD 0 0).toNat : Int) = false := by simp [innerR, edgeR]
  rw [h1, h2] at this
  split at this
  · cases this
  · split at this
    · simp at this
    · cases this
theorem cut_star (t : Str) : ∃ h r, cut (42 :: t) = (42 :: h) :: r := by
  unfold cut
  rw [if_neg (by decide)]
  split
  · exact ⟨_, _, rfl⟩
  · exact ⟨_, _, rfl⟩
theorem isB_star (t : Str) : isB (42 :: t) = false := by
  rw [Bool.eq_false_iff]; intro h
  obtain ⟨x, r, hx⟩ := cut_star t
  have := (isB_iff.1 h).2.2 (42 :: x) (by rw [hx]; simp)
  rw [label_star] at this; cases this
theorem isB_nil : isB [] = false := by decide
theorem prefix_cases (l : Str) : Lib.hasPrefix l [42, 46] = true ↔ ∃ t, l = 42 :: 46 :: t := by
  unfold Lib.hasPrefix
  match l with
  | [] => simp
  | [a] => simp [List.isPrefixOf]
  | a :: b :: t =>
    have e : List.isPrefixOf [42, 46] (a :: b :: t) = (42 == a && 46 == b) := by simp [List.isPrefixOf]
    rw [e, Bool.and_eq_true, beq_iff_eq, beq_iff_eq]
    constructor
    · rintro ⟨h1, h2⟩; exact ⟨t, by rw [h1, h2]⟩
    · rintro ⟨t', h⟩
      injection h with h1 h2; injection h2 with h2 _
      exact ⟨h1.symm, h2.symm⟩
theorem nameB_iff {l : Str} {a b : Nat} : nameB l a b = true ↔ l.length ≤ b ∧ (cut l).length ≤ a ∧ ∀ x ∈ cut l, labelB x = true := by
  unfold nameB
  simp only [Bool.and_eq_true, decide_eq_true_eq, List.all_eq_true]
  exact ⟨fun h => ⟨h.1.1, h.1.2, h.2⟩, fun h => ⟨⟨h.1, h.2.1⟩, h.2.2⟩⟩
theorem starB_iff (l : Str) : starB l = true ↔ ∃ t, l = 42 :: 46 :: t ∧ nameB t 7 62 = true := by
  unfold starB
  simp only [Bool.and_eq_true, decide_eq_true_eq, beq_iff_eq]
  constructor
  · rintro ⟨⟨⟨⟨⟨h1, h2⟩, h3⟩, h4⟩, h5⟩, h6⟩
    match l, h1 with
    | a :: b :: t, _ =>
      simp at h3 h4
      subst h3 h4
      refine ⟨t, rfl, nameB_iff.2 ⟨by simp at h2; omega, h6, (isB_iff.1 h5).2.2⟩⟩
  · rintro ⟨t, rfl, h⟩
    obtain ⟨a, b, c⟩ := nameB_iff.1 h
    have ht : t ≠ [] := by
      rintro rfl
      have := c [] (by simp [cut]); revert this; decide
    have hl : 1 ≤ t.length := by cases t with | nil => exact absurd rfl ht | cons => simp
    exact ⟨⟨⟨⟨⟨by simp; omega, by simp; omega⟩, rfl⟩, rfl⟩, isB_iff.2 ⟨by simp; omega, by simp; omega, c⟩⟩, b⟩
theorem star_not_name {l : Str} (h : starB l = true) : isB l = false := by
  obtain ⟨t, rfl, _⟩ := (starB_iff l).1 h
  exact isB_star _
theorem starOf_eq {l : Str} (h : starB l = true) : starOf l = l.drop 2 := by rw [starOf, if_pos h]
/-- What pattern comes to, told by the document's words. -/
theorem pattern_ok (l : Str) : (pattern l).2.2 = rpatB l := by
  unfold pattern rpatB
  split
  · rename_i h; rw [h]; simp
  · rename_i h
    rw [Bool.eq_false_iff.2 h, Bool.or_false]
    split
    · rename_i hp
      obtain ⟨t, rfl⟩ := (prefix_cases l).1 hp
      rw [Bool.eq_iff_iff, starB_iff]
      constructor
      · intro h; exact ⟨t, rfl, h⟩
      · rintro ⟨t', h1, h2⟩; simp at h1; subst h1; exact h2
    · rename_i hp
      symm; rw [Bool.eq_false_iff]; intro hs
      obtain ⟨t, rfl, _⟩ := (starB_iff l).1 hs
      exact hp ((prefix_cases _).2 ⟨t, rfl⟩)
theorem pattern_star {l : Str} (h : starB l = true) : pattern l = (starOf l, true, true) := by
  have h1 := star_not_name h
  obtain ⟨t, rfl, ht⟩ := (starB_iff l).1 h
  unfold pattern
  rw [h1, if_neg (by simp), if_pos ((prefix_cases _).2 ⟨t, rfl⟩), starOf_eq h]
  simp [ht]
theorem pattern_name {l : Str} (h : isB l = true) : pattern l = (l, false, true) := by unfold pattern; rw [if_pos h]
theorem star_false_of_name {l : Str} (h : isB l = true) : starB l = false := by
  rw [Bool.eq_false_iff]; intro hs; rw [star_not_name hs] at h; cases h
theorem match_eq (p s : Str) : matchB p s = rmatchB p s := by
  unfold matchB rmatchB
  rw [pattern_ok]
  cases hs : isB s
  · simp
  · cases hst : starB p
    · cases hn : isB p
      · have : rpatB p = false := by unfold rpatB; rw [hst, hn]; rfl
        rw [this]
        simp
        intro e; rw [e, hs] at hn; cases hn
      · rw [pattern_name hn]
        have : rpatB p = true := by unfold rpatB; rw [hst, hn]; rfl
        rw [this]; simp
    · rw [pattern_star hst]
      have : rpatB p = true := by unfold rpatB; rw [hst]; rfl
      rw [this]; simp
theorem starOf_name {l : Str} (h : starB l = true) : isB (starOf l) = true ∧ starOf l ≠ [] := by
  rw [starOf_eq h]
  obtain ⟨t, rfl, ht⟩ := (starB_iff l).1 h
  obtain ⟨a, b, c⟩ := nameB_iff.1 ht
  have hB : isB t = true := isB_iff.2 ⟨by omega, by omega, c⟩
  refine ⟨hB, ?_⟩
  rintro h; simp at h; rw [h] at hB; cases hB
theorem under_star {p q : Str} (hp : starB p = true) (hq : starB q = true) : underB (starOf p) (starOf q) = (starOf p == starOf q || belowB (starOf p) (starOf q)) := by
  unfold underB
  rw [(starOf_name hp).1, List.isEmpty_eq_false_iff.2 (starOf_name hq).2]; simp
theorem within_eq (p q : Str) : withinB p q = rwithinB p q := by
  unfold withinB rwithinB
  rw [pattern_ok, pattern_ok]
  cases hp : rpatB p
  · simp
  cases hq : rpatB q
  · simp
  simp only [Bool.not_true, Bool.or_self, Bool.false_eq_true, if_false]
  cases hsp : starB p
  · have hnp : isB p = true := by unfold rpatB at hp; rw [hsp] at hp; simpa using hp
    rw [pattern_name hnp]; simp [match_eq]
  · rw [pattern_star hsp]
    cases hsq : starB q
    · have hnq : isB q = true := by unfold rpatB at hq; rw [hsq] at hq; simpa using hq
      rw [pattern_name hnq]; simp
    · rw [pattern_star hsq]; simp [under_star hsp hsq]
theorem rmatch_no {p s : Str} (hs : isB s = false) : rmatchB p s = false := by unfold rmatchB; rw [hs]; rfl
theorem meets_eq (p q : Str) : meetsB p q = rmeetsB p q := by
  unfold meetsB rmeetsB
  rw [within_eq, within_eq]
  cases hsp : starB p
  · cases hsq : starB q
    · simp only [Bool.and_self, Bool.false_eq_true, if_false]
      unfold rwithinB rpatB
      rw [hsp, hsq]
      cases hnp : isB p
      · rw [rmatch_no (p := q) hnp]
        have : rmatchB p q = false := by
          unfold rmatchB; rw [hsp]
          cases hq : isB q
          · rfl
          · simp; intro e; rw [e, hq] at hnp; cases hnp
        rw [this]; simp
      · cases hnq : isB q
        · rw [rmatch_no (p := p) hnq]
          have : rmatchB q p = false := by
            unfold rmatchB; rw [hsq, hnp]; simp; intro e; rw [e, hnp] at hnq; cases hnq
          rw [this]; simp
        · simp [Bool.or_comm]
    · have hnq := star_not_name hsq
      simp only [Bool.and_true, Bool.false_eq_true, if_false]
      rw [rmatch_no (p := p) hnq]
      unfold rwithinB rpatB
      rw [hsp, hsq]
      cases hnp : isB p
      · rw [rmatch_no (p := q) hnp]; simp
      · simp
  · have hnp := star_not_name hsp
    cases hsq : starB q
    · simp only [Bool.and_false, Bool.false_eq_true, if_false]
      rw [rmatch_no (p := q) hnp]
      unfold rwithinB rpatB
      rw [hsp, hsq]
      cases hnq : isB q
      · rw [rmatch_no (p := p) hnq]; simp
      · simp
    · simp only [Bool.and_self, if_true]
      unfold rwithinB rpatB
      rw [hsp, hsq]
      simp
      have : (starOf q == starOf p) = (starOf p == starOf q) := Bool.beq_comm
      rw [this]
      cases (starOf p == starOf q) <;> simp
end Nam
end Go.Proofs.YteemkkmkkgfofaaGreatDoor
namespace Go.Proofs.YteemkkmkkgfofaaGreatDoor
open Go.RowKit Nam Pol

theorem ext_cell {w w' : World} {b o : Nat} {v : Value} (h : w.cell? ⟨b, o, none⟩ = some v) (hE : Ext w w') : w'.cell? ⟨b, o, none⟩ = some v := (hE.cell (p := ⟨b, o, none⟩) (cell_lt h)).trans h
/-- A text in one cell. -/
def StrAt : ElR ByteArray := fun w b o s => w.cell? ⟨b, o, none⟩ = some (.string s) ∧ s.size ≤ maxLen
instance : Firm StrAt where
  ext := fun h hE => ⟨ext_cell h.1 hE, h.2⟩
/-- From address a on there lie those texts. -/
abbrev Strs (w : World) (a : Option Addr) (l : List ByteArray) : Prop := SlA 1 StrAt w a l
/-- A rule's seven cells. -/
def RulAt : ElR Rul := fun w b o r =>
  w.cell? ⟨b, o, none⟩ = some (.string r.name) ∧ w.cell? ⟨b, o + 1, none⟩ = some (.bool r.allow) ∧
  (∃ a c, w.cell? ⟨b, o + 2, none⟩ = some (.slice a r.pats.length c) ∧ r.pats.length ≤ c ∧ c ≤ maxLen ∧ Strs w a r.pats) ∧
  w.cell? ⟨b, o + 3, none⟩ = some (.int .u64 r.keyMin) ∧ w.cell? ⟨b, o + 4, none⟩ = some (.int .i64 r.lifeMax) ∧ w.cell? ⟨b, o + 5, none⟩ = some (.int .i64 r.most) ∧ w.cell? ⟨b, o + 6, none⟩ = some (.int .i64 r.window) ∧
  r.name.size ≤ maxLen ∧ 0 ≤ r.keyMin
instance : Firm RulAt where
  ext := fun {w w' b o r} h hE => by
    obtain ⟨h0, h1, ⟨a, c, h2, l1, l2, h2'⟩, h3, h4, h5, h6, h7, h8⟩ := h
    exact ⟨ext_cell h0 hE, ext_cell h1 hE, ⟨a, c, ext_cell h2 hE, l1, l2, h2'.ext hE⟩, ext_cell h3 hE, ext_cell h4 hE, ext_cell h5 hE, ext_cell h6 hE, h7, h8⟩
/-- A rule as a value: its patterns' slice at a, of capacity c. -/
def rulV (r : Rul) (a : Option Addr) (c : Nat) : Value := .agg #[.string r.name, .bool r.allow, .slice a r.pats.length c, .int .u64 r.keyMin, .int .i64 r.lifeMax, .int .i64 r.most, .int .i64 r.window]
abbrev Ruls (w : World) (a : Option Addr) (l : List Rul) : Prop := SlA 7 RulAt w a l
set_option maxHeartbeats 400000 in
theorem small_any (c : Int) (w : World) :
    Calls Tryz.prog 64 #[.int .u8 c] w fun e w' => e = .returned (.bool (smallR c)) ∧ w = w' := by
  go_enter Tryz.func64, Tryz.ntmps64
  go_wp2
  all_goals (go_ret; refine ⟨ret_bool ?_, rfl⟩; rw [Bool.eq_iff_iff]; simp [smallR]; try omega)
def NameTo (s : ByteArray) (k : Nat) : Prop := ∀ j, j < k → nameCh (((s.data.toList.getD j 0).toNat : Nat) : Int) = true
theorem ruleName_iff {s : ByteArray} (g1 : 1 ≤ s.size) (g2 : s.size ≤ 16) : ruleName s.data.toList = true ↔ NameTo s s.size := by
  unfold ruleName NameTo
  rw [← Lib.size_eq]
  simp only [Bool.and_eq_true, decide_eq_true_eq, List.all_eq_true]
  constructor
  · rintro ⟨_, h⟩ j hj
    rw [Lib.size_eq] at hj
    rw [List.getD_eq_getElem?_getD, List.getElem?_eq_getElem hj]
    exact h _ (List.getElem_mem hj)
  · refine fun h => ⟨⟨g1, g2⟩, fun c hc => ?_⟩
    obtain ⟨j, hj, rfl⟩ := List.getElem_of_mem hc
    have := h j (by rw [Lib.size_eq]; exact hj)
    rwa [List.getD_eq_getElem?_getD, List.getElem?_eq_getElem hj] at this
theorem ruleName_short {s : ByteArray} (h : s.size < 1 ∨ 16 < s.size) : ruleName s.data.toList = false := by
  unfold ruleName
  rw [← Lib.size_eq]
  rcases h with h | h
  · rw [show decide (1 ≤ s.size) = false by simpa using h]; rfl
  · rw [show decide (s.size ≤ 16) = false by simpa using h]; simp
theorem nameTo_step {s : ByteArray} {k : Nat} (hk : k < s.size) (h : NameTo s k) (hi : nameCh (((s[k].toNat : Nat)) : Int) = true) : NameTo s (k + 1) := by
  intro j h2
  by_cases e : j = k
  · subst e; rw [good_get hk]; exact hi
  · exact h j (by omega)
theorem name_not {s : ByteArray} (g1 : 1 ≤ s.size) (g2 : s.size ≤ 16) {k : Nat} (hk : k < s.size) (hi : nameCh (((s[k].toNat : Nat)) : Int) = false) : ruleName s.data.toList = false := by
  rw [Bool.eq_false_iff]; intro h
  have := (ruleName_iff g1 g2).1 h k hk
  rw [good_get hk, hi] at this; cases this
set_option maxHeartbeats 1000000 in
theorem r15Name_any (s : ByteArray) (w : World) (hs : s.size ≤ maxLen) :
    Calls Tryz.prog 39 #[.string s] w fun e w' => e = .returned (.bool (ruleName s.data.toList)) ∧ w = w' := by
  unfold maxLen at hs
  by_cases h0 : s.size < 1 ∨ 16 < s.size
  · have h := ruleName_short (s := s) h0
    have H := Lib.hid h; clear h
    rcases h0 with h0 | h0
    all_goals
      go_enter Tryz.func39, Tryz.ntmps39
      go_wp2
      go_ret
      exact ⟨ret_bool H.out.symm, rfl⟩
  · have g1 : 1 ≤ s.size := by omega
    have g2 : s.size ≤ 16 := by omega
    clear h0
    have HI := Lib.hid (ruleName_iff g1 g2)
    have t1 : decide ((s.size : Int) < 1) = false := by simp; omega
    have t2 : decide ((16 : Int) < s.size) = false := by simp; omega
    go_enter Tryz.func39, Tryz.ntmps39
    go_wp2
    go_loop [3] (fun i => ∃ k : Nat, k ≤ s.size ∧ i = .int .i64 k ∧ NameTo s k) (fun i => s.size - (intOf i).toNat)
    case atStart => exact ⟨0, Nat.zero_le _, rfl, fun j h => by omega⟩
    case round =>
      obtain ⟨k, hk, rfl, hn⟩ := hrel
      have HN := Lib.hid hn; clear hn
      by_cases hlt : k < s.size
      · cases h1 : smallR (s[k].toNat : Int)
        · cases h2 : ((s[k].toNat : Int) != 45)
          · have hc : nameCh (s[k].toNat : Int) = true := by unfold nameCh; rw [h1]; simpa using h2
            have HC := Lib.hid (nameTo_step hlt HN.out hc); clear hc
            go_wp2_with (go_at_call 64; refine (small_any _ _).mono ?_; rintro e w' ⟨rfl, rfl⟩)
            go_round
            case rel => exact ⟨k + 1, by omega, by go_num, HC.out⟩
            case measure => simp [intOf]; omega
          · have hc : nameCh (s[k].toNat : Int) = false := by unfold nameCh; rw [h1]; simpa using h2
            have HC := Lib.hid (name_not g1 g2 hlt hc); clear hc
            go_wp2_with (go_at_call 64; refine (small_any _ _).mono ?_; rintro e w' ⟨rfl, rfl⟩)
            go_ret
            exact ⟨ret_bool HC.out.symm, rfl⟩
        · have hc : nameCh (s[k].toNat : Int) = true := by unfold nameCh; rw [h1]; rfl
          have HC := Lib.hid (nameTo_step hlt HN.out hc); clear hc
          go_wp2_with (go_at_call 64; refine (small_any _ _).mono ?_; rintro e w' ⟨rfl, rfl⟩)
          go_round
          case rel => exact ⟨k + 1, by omega, by go_num, HC.out⟩
          case measure => simp [intOf]; omega
      · obtain rfl : k = s.size := by omega
        have hf := HI.out.2 HN.out
        have HT := Lib.hid hf; clear hf
        go_wp2
        go_ret
        exact ⟨ret_bool HT.out.symm, rfl⟩
set_option maxHeartbeats 1000000 in
theorem stands_any (l : List ByteArray) (s : ByteArray) (a : Option Addr) (cap n : Nat) (w : World) (hn : l.length = n) (hnm : n ≤ maxLen) (hl : Strs w a l) :
    Calls Tryz.prog 41 #[.slice a n cap, .string s] w fun e w' => e = .returned (.bool (memB l s)) ∧ w = w' := by
  unfold maxLen at hnm
  have HN := Lib.hid hn; have HL := Lib.hid hl; clear hn hl
  go_enter Tryz.func41, Tryz.ntmps41
  go_wp2
  go_loop [5] (fun i => ∃ k : Nat, k ≤ n ∧ i = .int .i64 k ∧ memB (l.take k) s = false) (fun i => n - (intOf i).toNat)
  case atStart => exact ⟨0, Nat.zero_le _, rfl, rfl⟩
  case round =>
    obtain ⟨k, hk, rfl, hc⟩ := hrel
    have HC := Lib.hid hc; clear hc
    by_cases hlt : k < n
    · obtain ⟨y, hy⟩ := get_some HN.out hlt
      obtain ⟨b, off, rfl, c0, _⟩ := HL.out k y hy
      rw [Nat.mul_one] at c0
      have HT := Lib.hid (memB_take hy s)
      have HM := Lib.hid (List.mem_of_getElem? hy)
      have HB := Lib.hid (show (y.toList == s.toList) = (y.data.toList == s.data.toList) by rw [Lib.toList_data, Lib.toList_data])
      clear hy
      cases h1 : (y.toList == s.toList)
      · go_wp2
        go_round
        case rel => exact ⟨k + 1, by omega, by go_num, by rw [HT.out, HC.out, ← HB.out, h1]; rfl⟩
        case measure => simp [intOf]; omega
      · have HE := Lib.hid (show memB l s = true by
          have := beq_iff_eq.1 (HB.out.symm.trans h1)
          rw [memB_iff, ← bytes_eq this]; exact HM.out)
        go_wp2
        go_ret
        exact ⟨ret_bool HE.out.symm, rfl⟩
    · obtain rfl : k = n := by omega
      have HF := Lib.hid (show memB l s = false by have := HC.out; rwa [← HN.out, List.take_length] at this)
      go_wp2
      go_ret
      exact ⟨ret_bool HF.out.symm, rfl⟩
end Go.Proofs.YteemkkmkkgfofaaGreatDoor
