/- Policies, in plain Lean: the tree decides as the rules mean. No program in sight. Policies, in plain Lean: wishes, verdicts; what is told of a wish, of a table. No program in sight. Wishes; walks of the program's functions on them: may. Walks of the document's functions on policies: among, SameInts, FewWish. Walks of the document's functions on policies: may. Walks of the document's functions on policies: both. -/
import Derived.Test.YteemkkmkkgfofaaGreatDoorM17
namespace Go.Proofs.YteemkkmkkgfofaaGreatDoor
namespace Pol
open Nam
def joinD : List Str → Str
  | [] => []
  | [x] => x
  | x :: y :: l => x ++ 46 :: joinD (y :: l)
theorem joinD_cut (s : Str) : joinD (cut s) = s := by
  induction s with
  | nil => rfl
  | cons c t ih =>
    unfold cut
    split
    · rename_i hc
      cases h : cut t with
      | nil => exact absurd h (cut_ne t)
      | cons a b => rw [h] at ih; rw [joinD, ih, hc]; rfl
    · split
      · rename_i h; exact absurd h (cut_ne t)
      · rename_i h r hr
        rw [hr] at ih
        cases r with
        | nil => rw [joinD] at ih ⊢; rw [ih]
        | cons a b => rw [joinD] at ih ⊢; rw [← ih]; rfl
theorem cut_inj {s t : Str} (h : cut s = cut t) : s = t := by rw [← joinD_cut s, ← joinD_cut t, h]
theorem map_bytes_inj : ∀ {a b : List Str}, a.map (fun x => (⟨x.toArray⟩ : ByteArray)) = b.map (fun x => (⟨x.toArray⟩ : ByteArray)) → a = b
  | [], [], _ => rfl
  | [], _ :: _, h => by simp at h
  | _ :: _, [], h => by simp at h
  | x :: a, y :: b, h => by
    simp only [List.map_cons, List.cons.injEq] at h
    have e : x = y := by
      have := congrArg (fun z : ByteArray => z.data.toList) h.1
      simpa using this
    rw [e, map_bytes_inj h.2]
theorem revL_inj {s t : Str} (h : revL s = revL t) : s = t := by
  unfold revL at h
  exact cut_inj (by have := congrArg List.reverse (map_bytes_inj h); simpa using this)
theorem revL_ne (s : Str) : revL s ≠ [] := by
  unfold revL
  simp [cut_ne]
theorem dot_split (s : Str) : (∀ c ∈ s, c ≠ (46 : UInt8)) ∨ ∃ x t, s = x ++ 46 :: t ∧ ∀ c ∈ x, c ≠ (46 : UInt8) := by
  induction s with
  | nil => exact .inl (by simp)
  | cons c t ih =>
    by_cases hc : c = 46
    · subst hc; exact .inr ⟨[], t, rfl, by simp⟩
    · rcases ih with h | ⟨x, u, rfl, h⟩
      · exact .inl fun d hd => (List.mem_cons.1 hd).elim (fun e => e ▸ hc) (h d)
      · exact .inr ⟨c :: x, u, rfl, fun d hd => (List.mem_cons.1 hd).elim (fun e => e ▸ hc) (h d)⟩
theorem cut_nodot {s : Str} (h : ∀ c ∈ s, c ≠ (46 : UInt8)) : cut s = [s] ∧ afterDot s = [] := by
  induction s with
  | nil => exact ⟨rfl, rfl⟩
  | cons c t ih =>
    have hc : c ≠ 46 := h c (by simp)
    obtain ⟨h1, h2⟩ := ih fun d hd => h d (by simp [hd])
    refine ⟨?_, ?_⟩
    · rw [cut, if_neg hc, h1]
    · rw [afterDot, if_neg hc, h2]
/-- A name is one label, or one ahead of what is above it. -/
theorem name_up {s : Str} (h : isB s = true) : (up s = [] ∧ ∃ x, revL s = [x]) ∨ (up s ≠ [] ∧ isB (up s) = true ∧ ∃ x, revL s = revL (up s) ++ [x]) := by
  rcases dot_split s with hd | ⟨x, t, rfl, hx⟩
  · obtain ⟨h1, h2⟩ := cut_nodot hd
    refine .inl ⟨by unfold up; rw [h, if_pos rfl, h2], ⟨s.toArray⟩, ?_⟩
    unfold revL; rw [h1]; rfl
  · have h2 := up_cons hx h
    obtain ⟨_, h3, _, _⟩ := (isB_cons hx).1 h
    rw [h2]
    refine .inr ⟨?_, h3, ⟨x.toArray⟩, ?_⟩
    · rintro rfl; rw [isB_nil] at h3; cases h3
    · unfold revL; rw [cut_cons hx]; simp
theorem above_path : ∀ (n : Nat) {s u : Str}, s.length < n → isB s = true → (u ∈ aboveQ s ↔ ∃ t, t ≠ [] ∧ revL s = revL u ++ t)
  | 0, _, _, h, _ => absurd h (Nat.not_lt_zero _)
  | n + 1, s, u, h, hs => by
    rcases name_up hs with ⟨hu, x, hx⟩ | ⟨hu, hb, x, hx⟩
    · rw [aboveQ_end hu]
      constructor
      · intro h; cases h
      · rintro ⟨t, ht, e⟩
        rw [hx] at e
        have := congrArg List.length e
        have h1 := List.length_pos_iff.2 ht
        have h2 := List.length_pos_iff.2 (revL_ne u)
        simp at this; omega
    · rw [aboveQ_step hu, List.mem_cons, above_path n (by have := up_lt s hu; omega) hb]
      constructor
      · rintro (rfl | ⟨t, ht, e⟩)
        · exact ⟨[x], by simp, hx⟩
        · exact ⟨t ++ [x], by simp, by rw [hx, e, List.append_assoc]⟩
      · rintro ⟨t, ht, e⟩
        rw [hx] at e
        have hl : t = t.dropLast ++ [t.getLast ht] := (List.dropLast_concat_getLast ht).symm
        rw [hl, ← List.append_assoc] at e
        have e1 := (List.append_inj' e rfl).1
        by_cases hd : t.dropLast = []
        · rw [hd, List.append_nil] at e1
          exact .inl (revL_inj e1).symm
        · exact .inr ⟨_, hd, e1⟩
theorem mem_above {s u : Str} (hs : isB s = true) : u ∈ aboveQ s ↔ ∃ t, t ≠ [] ∧ revL s = revL u ++ t := above_path _ (Nat.lt_succ_self _) hs
/-- A pattern is known by its path and whether it is a star. -/
theorem pathP_inj {p q : ByteArray} (h : pathP p = pathP q) (hs : starB p.data.toList = starB q.data.toList) : p = q := by
  have e : ofP p = ofP q := revL_inj h
  unfold ofP at e
  cases hq : starB q.data.toList
  · rw [hs, hq] at e
    exact bytes_eq (by simpa using e)
  · rw [hs, hq] at e
    have hp := hs.trans hq
    obtain ⟨a, ha, _⟩ := star_form hp
    obtain ⟨b, hb, _⟩ := star_form hq
    rw [ha, hb] at e
    refine bytes_eq ?_
    rw [ha, hb]
    simp at e
    rw [e]
theorem pathP_star {p : ByteArray} (h : starB p.data.toList = true) : pathP p = revL (starOf p.data.toList) := by
  unfold pathP ofP; rw [if_pos h, starOf_eq h]
theorem pathP_name {p : ByteArray} (h : starB p.data.toList = false) : pathP p = revL p.data.toList := by
  unfold pathP ofP; rw [h]; rfl

/-- A rule's number at a path: as a name; as a star. -/
def HereAt (ns : List Nod) (ps : List (List ByteArray)) (Q : List ByteArray) (v : Int) : Prop := ∃ (j : Nat) (x : Nod), ps[j]? = some Q ∧ ns[j]? = some x ∧ x.here' = v ∧ v ≠ -1
def BelowAt (ns : List Nod) (ps : List (List ByteArray)) (Q : List ByteArray) (v : Int) : Prop := ∃ (j : Nat) (x : Nod), ps[j]? = some Q ∧ ns[j]? = some x ∧ x.below = v ∧ v ≠ -1
/-- What the nodes tell: D p i: rule i has pattern p. -/
structure TreeV (ns : List Nod) (ps : List (List ByteArray)) (D : ByteArray → Nat → Prop) : Prop where
  here_of : ∀ p i, D p i → starB p.data.toList = false → HereAt ns ps (pathP p) i
  below_of : ∀ p i, D p i → starB p.data.toList = true → BelowAt ns ps (pathP p) i
  of_here : ∀ Q v, HereAt ns ps Q v → ∃ p i, D p i ∧ starB p.data.toList = false ∧ pathP p = Q ∧ v = (i : Nat)
  of_below : ∀ Q v, BelowAt ns ps Q v → ∃ p i, D p i ∧ starB p.data.toList = true ∧ pathP p = Q ∧ v = (i : Nat)
theorem TreeV.start : TreeV [blankN ⟨#[]⟩] [[]] (fun _ _ => False) where
  here_of := fun _ _ h => h.elim
  below_of := fun _ _ h => h.elim
  of_here := by
    rintro Q v ⟨j, x, _, h2, h3, h4⟩
    cases j with
    | zero => simp at h2; subst h2; exact absurd h3.symm h4
    | succ j => simp at h2
  of_below := by
    rintro Q v ⟨j, x, _, h2, h3, h4⟩
    cases j with
    | zero => simp at h2; subst h2; exact absurd h3.symm h4
    | succ j => simp at h2
theorem TreeV.put {ns : List Nod} {ps : List (List ByteArray)} {D : ByteArray → Nat → Prop} (hT : Tree ns ps) (h : TreeV ns ps D) (p : ByteArray) (i : Nat) (hnew : ∀ q j, D q j → q ≠ p) :
    ∃ ps', Tree (putT ns p i) ps' ∧ TreeV (putT ns p i) ps' fun q j => D q j ∨ q = p ∧ j = i := by
  obtain ⟨qs, t1, t2, t3, t4⟩ := hT.down (pathP p) hT.root
  rw [List.nil_append] at t2
  unfold putT downT
  generalize hst : (pathP p).foldl stepT (ns, 0) = st at *
  obtain ⟨ms, n⟩ := st
  simp only at t1 t2 t3 t4 ⊢
  refine ⟨ps ++ qs, t1.set n _ _, ?_⟩
  have hn : n < ms.length := by rw [← t1.len]; exact (List.getElem?_eq_some_iff.1 t2).1
  have old : ∀ m Q, ps[m]? = some Q → (ps ++ qs)[m]? = some Q := fun m Q hm => by
    rw [List.getElem?_append_left (List.getElem?_eq_some_iff.1 hm).1]; exact hm
  -- what stood there, stands there
  have keep : ∀ (j : Nat) (Q : List ByteArray) (x : Nod), (ps ++ qs)[j]? = some Q → ms[j]? = some x → ∃ y, (setT ms n (starB p.data.toList) i)[j]? = some y ∧ (j = n ∨ y = x) := fun j Q x _ hx => by
    refine ⟨_, by rw [setT_get, hx]; rfl, ?_⟩
    by_cases e : n = j
    · exact .inl e.symm
    · exact .inr (if_neg e)
  -- a reading of the new tree is one of the old tree, or the new one
  have oldread : ∀ (j : Nat) (Q : List ByteArray) (x : Nod), (ps ++ qs)[j]? = some Q → ms[j]? = some x → (x.here' ≠ -1 ∨ x.below ≠ -1) → ∃ y, ps[j]? = some Q ∧ ns[j]? = some y ∧ x.here' = y.here' ∧ x.below = y.below := fun j Q x hQ hx hne => by
    by_cases hj : j < ns.length
    · obtain ⟨y', a1, a2, a3⟩ := t3 j _ (List.getElem?_eq_getElem hj)
      rw [hx] at a1; cases a1
      rw [List.getElem?_append_left (by rw [hT.len]; exact hj)] at hQ
      exact ⟨_, hQ, List.getElem?_eq_getElem hj, a2, a3⟩
    · obtain ⟨a1, a2⟩ := t4 j x hx (by omega)
      rcases hne with h | h
      · exact absurd a1 h
      · exact absurd a2 h
  -- the node that is set
  have hxn : ms[n]? = some ms[n] := List.getElem?_eq_getElem hn
  cases hs : starB p.data.toList
  · rw [hs] at keep
    have hset : (setT ms n false i)[n]? = some { ms[n] with here' := (i : Int) } := by rw [setT_get, hxn]; simp
    refine ⟨?_, ?_, ?_, ?_⟩
    · rintro q j (hD | ⟨rfl, rfl⟩) hq
      · obtain ⟨m, x, h1, h2, h3, h4⟩ := h.here_of q j hD hq
        obtain ⟨y, b1, b2, _⟩ := t3 m x h2
        obtain ⟨z, c1, c2⟩ := keep m _ y (old _ _ h1) b1
        rcases c2 with rfl | rfl
        · exfalso
          have := old _ _ h1
          rw [t2] at this
          exact hnew q j hD (pathP_inj (by simpa using this.symm) (hq.trans hs.symm))
        · exact ⟨m, z, old _ _ h1, c1, b2.trans h3, h4⟩
      · exact ⟨n, _, t2, hset, rfl, by omega⟩
    · rintro q j (hD | ⟨rfl, rfl⟩) hq
      · obtain ⟨m, x, h1, h2, h3, h4⟩ := h.below_of q j hD hq
        obtain ⟨y, b1, _, b2⟩ := t3 m x h2
        obtain ⟨z, c1, c2⟩ := keep m _ y (old _ _ h1) b1
        rcases c2 with rfl | rfl
        · refine ⟨m, _, old _ _ h1, hset, ?_, h4⟩
          have e : ms[m] = y := by rw [hxn] at b1; simpa using b1
          simp only [e]
          exact b2.trans h3
        · exact ⟨m, z, old _ _ h1, c1, b2.trans h3, h4⟩
      · rw [hs] at hq; cases hq
    · rintro Q v ⟨j, x, h1, h2, h3, h4⟩
      by_cases e : j = n
      · subst e
        rw [t2] at h1; cases h1
        rw [hset] at h2; cases h2
        exact ⟨p, i, .inr ⟨rfl, rfl⟩, hs, rfl, h3.symm⟩
      · rw [setT_get] at h2
        cases hx : ms[j]? with
        | none => rw [hx] at h2; cases h2
        | some y =>
          rw [hx] at h2
          simp only [Option.map_some, Option.some.injEq] at h2
          rw [if_neg (fun e' => e e'.symm)] at h2
          subst h2
          obtain ⟨z, a1, a2, a3, _⟩ := oldread j Q y h1 hx (.inl (by rw [h3]; exact h4))
          obtain ⟨q, k, hD, g1, g2, g3⟩ := h.of_here Q v ⟨j, z, a1, a2, by rw [← a3]; exact h3, h4⟩
          exact ⟨q, k, .inl hD, g1, g2, g3⟩
    · rintro Q v ⟨j, x, h1, h2, h3, h4⟩
      rw [setT_get] at h2
      cases hx : ms[j]? with
      | none => rw [hx] at h2; cases h2
      | some y =>
        rw [hx] at h2
        simp only [Option.map_some, Option.some.injEq] at h2
        have hb : y.below = v := by
          rw [← h2] at h3
          split at h3 <;> exact h3
        obtain ⟨z, a1, a2, _, a3⟩ := oldread j Q y h1 hx (.inr (by rw [hb]; exact h4))
        obtain ⟨q, k, hD, g1, g2, g3⟩ := h.of_below Q v ⟨j, z, a1, a2, by rw [← a3]; exact hb, h4⟩
        exact ⟨q, k, .inl hD, g1, g2, g3⟩
  · rw [hs] at keep
    have hset : (setT ms n true i)[n]? = some { ms[n] with below := (i : Int) } := by rw [setT_get, hxn]; simp
    refine ⟨?_, ?_, ?_, ?_⟩
    · rintro q j (hD | ⟨rfl, rfl⟩) hq
      · obtain ⟨m, x, h1, h2, h3, h4⟩ := h.here_of q j hD hq
        obtain ⟨y, b1, b2, _⟩ := t3 m x h2
        obtain ⟨z, c1, c2⟩ := keep m _ y (old _ _ h1) b1
        rcases c2 with rfl | rfl
        · refine ⟨m, _, old _ _ h1, hset, ?_, h4⟩
          have e : ms[m] = y := by rw [hxn] at b1; simpa using b1
          simp only [e]
          exact b2.trans h3
        · exact ⟨m, z, old _ _ h1, c1, b2.trans h3, h4⟩
      · rw [hs] at hq; cases hq
    · rintro q j (hD | ⟨rfl, rfl⟩) hq
      · obtain ⟨m, x, h1, h2, h3, h4⟩ := h.below_of q j hD hq
        obtain ⟨y, b1, _, b2⟩ := t3 m x h2
        obtain ⟨z, c1, c2⟩ := keep m _ y (old _ _ h1) b1
        rcases c2 with rfl | rfl
        · exfalso
          have := old _ _ h1
          rw [t2] at this
          exact hnew q j hD (pathP_inj (by simpa using this.symm) (hq.trans hs.symm))
        · exact ⟨m, z, old _ _ h1, c1, b2.trans h3, h4⟩
      · exact ⟨n, _, t2, hset, rfl, by omega⟩
    · rintro Q v ⟨j, x, h1, h2, h3, h4⟩
      rw [setT_get] at h2
      cases hx : ms[j]? with
      | none => rw [hx] at h2; cases h2
      | some y =>
        rw [hx] at h2
        simp only [Option.map_some, Option.some.injEq] at h2
        have hb : y.here' = v := by
          rw [← h2] at h3
          split at h3 <;> exact h3
        obtain ⟨z, a1, a2, a3, _⟩ := oldread j Q y h1 hx (.inl (by rw [hb]; exact h4))
        obtain ⟨q, k, hD, g1, g2, g3⟩ := h.of_here Q v ⟨j, z, a1, a2, by rw [← a3]; exact hb, h4⟩
        exact ⟨q, k, .inl hD, g1, g2, g3⟩
    · rintro Q v ⟨j, x, h1, h2, h3, h4⟩
      by_cases e : j = n
      · subst e
        rw [t2] at h1; cases h1
        rw [hset] at h2; cases h2
        exact ⟨p, i, .inr ⟨rfl, rfl⟩, hs, rfl, h3.symm⟩
      · rw [setT_get] at h2
        cases hx : ms[j]? with
        | none => rw [hx] at h2; cases h2
        | some y =>
          rw [hx] at h2
          simp only [Option.map_some, Option.some.injEq] at h2
          rw [if_neg (fun e' => e e'.symm)] at h2
          subst h2
          obtain ⟨z, a1, a2, _, a3⟩ := oldread j Q y h1 hx (.inr (by rw [h3]; exact h4))
          obtain ⟨q, k, hD, g1, g2, g3⟩ := h.of_below Q v ⟨j, z, a1, a2, by rw [← a3]; exact h3, h4⟩
          exact ⟨q, k, .inl hD, g1, g2, g3⟩
theorem TreeV.congr {ns : List Nod} {ps : List (List ByteArray)} {D E : ByteArray → Nat → Prop} (h : TreeV ns ps D) (e : ∀ p i, D p i ↔ E p i) : TreeV ns ps E where
  here_of := fun p i hE => h.here_of p i ((e p i).2 hE)
  below_of := fun p i hE => h.below_of p i ((e p i).2 hE)
  of_here := fun Q v hh => by obtain ⟨p, i, hD, r⟩ := h.of_here Q v hh; exact ⟨p, i, (e p i).1 hD, r⟩
  of_below := fun Q v hh => by obtain ⟨p, i, hD, r⟩ := h.of_below Q v hh; exact ⟨p, i, (e p i).1 hD, r⟩
theorem TreeV.putAll {i : Nat} : ∀ (qs : List ByteArray) {ns : List Nod} {ps : List (List ByteArray)} {D : ByteArray → Nat → Prop} (_ : Tree ns ps) (_ : TreeV ns ps D) (_ : qs.Nodup) (_ : ∀ q j, D q j → q ∉ qs),
    ∃ ps', Tree (Pol.putAll ns qs i) ps' ∧ TreeV (Pol.putAll ns qs i) ps' fun q j => D q j ∨ q ∈ qs ∧ j = i
  | [], ns, ps, D, hT, h, _, _ => ⟨ps, hT, h.congr fun p j => by simp⟩
  | p :: qs, ns, ps, D, hT, h, hnd, hnew => by
    obtain ⟨n1, n2⟩ := List.nodup_cons.1 hnd
    obtain ⟨ps1, t1, v1⟩ := TreeV.put hT h p i fun q j hD e => hnew q j hD (by rw [e]; simp)
    obtain ⟨ps2, t2, v2⟩ := TreeV.putAll qs t1 v1 n2 fun q j hD hq => by
      rcases hD with hD | ⟨rfl, _⟩
      · exact hnew q j hD (List.mem_cons_of_mem _ hq)
      · exact n1 hq
    refine ⟨ps2, t2, v2.congr fun q j => ?_⟩
    rw [List.mem_cons]
    constructor
    · rintro ((hD | ⟨a, b⟩) | ⟨a, b⟩)
      · exact .inl hD
      · exact .inr ⟨.inl a, b⟩
      · exact .inr ⟨.inr a, b⟩
    · rintro (hD | ⟨a | a, b⟩)
      · exact .inl (.inl hD)
      · exact .inl (.inr ⟨a, b⟩)
      · exact .inr ⟨a, b⟩
theorem patsOk_spec : ∀ {l ah : List ByteArray}, patsOk ah l = true → l.Nodup ∧ ∀ p ∈ l, patOk p = true ∧ p ∉ ah
  | [], _, _ => by simp
  | p :: l, ah, h => by
    rw [patsOk, Bool.and_eq_true, Bool.and_eq_true, Bool.not_eq_true'] at h
    obtain ⟨⟨h1, h2⟩, h3⟩ := h
    obtain ⟨g1, g2⟩ := patsOk_spec h3
    have hna : p ∉ ah := fun hm => by rw [memB_iff.2 hm] at h2; cases h2
    refine ⟨List.nodup_cons.2 ⟨fun hm => (g2 p hm).2 (by simp), g1⟩, fun q hq => ?_⟩
    rcases List.mem_cons.1 hq with rfl | hq
    · exact ⟨h1, hna⟩
    · exact ⟨(g2 q hq).1, fun hm => (g2 q hq).2 (List.mem_append_left _ hm)⟩
theorem rulesOk_spec : ∀ {l : List Rul} {ah : List ByteArray}, rulesOk ah l = true → (l.map (·.name)).Nodup ∧ ∀ r ∈ l, formB r = true ∧ r.name ∉ ah
  | [], _, _ => by simp
  | r :: l, ah, h => by
    rw [rulesOk, Bool.and_eq_true, Bool.and_eq_true, Bool.not_eq_true'] at h
    obtain ⟨⟨h1, h2⟩, h3⟩ := h
    obtain ⟨g1, g2⟩ := rulesOk_spec h3
    have hna : r.name ∉ ah := fun hm => by rw [memB_iff.2 hm] at h2; cases h2
    refine ⟨?_, fun q hq => ?_⟩
    · rw [List.map_cons]
      refine List.nodup_cons.2 ⟨fun hm => ?_, g1⟩
      obtain ⟨q, hq, e⟩ := List.mem_map.1 hm
      exact (g2 q hq).2 (by rw [e]; simp)
    · rcases List.mem_cons.1 hq with rfl | hq
      · exact ⟨h1, hna⟩
      · exact ⟨(g2 q hq).1, fun hm => (g2 q hq).2 (List.mem_append_left _ hm)⟩
theorem rulesOk_of : ∀ {l : List Rul} {ah : List ByteArray}, (l.map (·.name)).Nodup → (∀ r ∈ l, formB r = true ∧ r.name ∉ ah) → rulesOk ah l = true
  | [], _, _, _ => rfl
  | r :: l, ah, hn, h => by
    rw [List.map_cons] at hn
    obtain ⟨n1, n2⟩ := List.nodup_cons.1 hn
    obtain ⟨h1, h2⟩ := h r (by simp)
    rw [rulesOk, h1, show memB ah r.name = false by rw [Bool.eq_false_iff]; exact fun e => h2 (memB_iff.1 e), rulesOk_of n2 fun q hq => ?_]
    · rfl
    · obtain ⟨g1, g2⟩ := h q (List.mem_cons_of_mem _ hq)
      refine ⟨g1, fun hm => ?_⟩
      rcases List.mem_append.1 hm with hm | hm
      · exact g2 hm
      · rw [List.mem_singleton] at hm
        exact n1 (List.mem_map.2 ⟨q, hq, hm⟩)
theorem formB_pats {r : Rul} (h : formB r = true) : r.pats.Nodup ∧ ∀ p ∈ r.pats, rpatB p.data.toList = true := by
  unfold formB at h
  simp only [Bool.and_eq_true] at h
  obtain ⟨h1, h2⟩ := patsOk_spec h.1.2
  exact ⟨h1, fun p hp => by have := (h2 p hp).1; unfold patOk at this; rwa [pattern_ok] at this⟩
theorem checkE_ok {l : List Rul} (h : checkE l = 0) : rulesOk [] l = true ∧ l.length ≤ 32 := by
  unfold checkE at h
  split at h
  · rename_i hr
    split at h
    · rename_i hl; exact ⟨hr, hl⟩
    · cases h
  · cases h
/-- Rules that may be compiled. -/
structure Right (l : List Rul) : Prop where
  ok : checkE l = 0
  free : clashL l = []
theorem rightE_iff {l : List Rul} : rightE l = 0 ↔ Right l := by
  unfold rightE
  constructor
  · intro h
    split at h
    · rename_i hc
      split at h
      · rename_i he; exact ⟨hc, he⟩
      · cases h
    · rename_i hc; exact absurd h hc
  · rintro ⟨h1, h2⟩; rw [if_pos h1, if_pos h2]
theorem Right.pats {l : List Rul} (h : Right l) {r : Rul} (hr : r ∈ l) : r.pats.Nodup ∧ ∀ p ∈ r.pats, rpatB p.data.toList = true :=
  formB_pats ((rulesOk_spec (checkE_ok h.ok).1).2 r hr).1
/-- Rule i has pattern p. -/
def Has (l : List Rul) (k : Nat) (p : ByteArray) (i : Nat) : Prop := ∃ r, i < k ∧ l[i]? = some r ∧ p ∈ r.pats
theorem tree_ok {l : List Rul} (h : Right l) : ∀ (k : Nat), k ≤ l.length → ∃ ps, Tree (treeTo l k) ps ∧ TreeV (treeTo l k) ps (Has l k)
  | 0, _ => ⟨_, Tree.start, TreeV.start.congr fun p i => ⟨fun h => h.elim, fun ⟨_, h, _⟩ => absurd h (Nat.not_lt_zero _)⟩⟩
  | k + 1, hk => by
    obtain ⟨ps, t, v⟩ := tree_ok h k (by omega)
    have hr : l[k]? = some (l[k]'(by omega)) := List.getElem?_eq_getElem (by omega)
    rw [treeTo, hr]
    simp only
    obtain ⟨ps', t', v'⟩ := TreeV.putAll (i := k) (l[k]'(by omega)).pats t v (h.pats (List.mem_of_getElem? hr)).1 fun q j ⟨r, hj, hrj, hq⟩ hq' => by
      have := no_clash h.free hrj hr hq hq'
      omega
    refine ⟨ps', t', v'.congr fun p i => ?_⟩
    constructor
    · rintro (⟨r, h1, h2, h3⟩ | ⟨h1, rfl⟩)
      · exact ⟨r, by omega, h2, h3⟩
      · exact ⟨_, by omega, hr, h1⟩
    · rintro ⟨r, h1, h2, h3⟩
      by_cases e : i = k
      · subst e
        rw [hr] at h2; cases h2
        exact .inr ⟨h3, rfl⟩
      · exact .inl ⟨r, by omega, h2, h3⟩

/-! The way down. -/
theorem Tree.closed {ns : List Nod} {ps : List (List ByteArray)} (h : Tree ns ps) : ∀ (b : List ByteArray) {Q : List ByteArray}, Q ++ b ∈ ps → Q ∈ ps := by
  have one : ∀ (Q : List ByteArray) (x : ByteArray), Q ++ [x] ∈ ps → Q ∈ ps := fun Q x hm => by
    obtain ⟨m, hm'⟩ := List.getElem?_of_mem hm
    have hlt : m < ns.length := by rw [← h.len]; exact (List.getElem?_eq_some_iff.1 hm').1
    have h0 : 0 < m := by
      rcases Nat.eq_zero_or_pos m with rfl | h0
      · rw [h.root] at hm'; simp at hm'
      · exact h0
    obtain ⟨j', x', hx', hk⟩ := h.up m _ h0 (List.getElem?_eq_getElem hlt)
    obtain ⟨m', y', P', e, h4, h5, h6, h7⟩ := h.kid j' x' hx' _ hk
    obtain rfl : m = m' := by omega
    rw [hm'] at h7
    simp only [Option.some.injEq] at h7
    rw [(List.append_inj' h7 rfl).1]
    exact List.mem_of_getElem? h6
  intro b
  induction b with
  | nil => intro Q hQ; simpa using hQ
  | cons x b ih =>
    intro Q hQ
    exact one Q x (ih (by simpa using hQ))
theorem goT_spec {ns : List Nod} {ps : List (List ByteArray)} (h : Tree ns ps) : ∀ (ls : List ByteArray) {n : Nat} {P : List ByteArray} (last : Int), ps[n]? = some P →
    (∃ v, HereAt ns ps (P ++ ls) v ∧ goT ns ls n last = v) ∨ ((∀ v, ¬ HereAt ns ps (P ++ ls) v) ∧
      ((∃ a c v, ls = a ++ c ∧ c ≠ [] ∧ BelowAt ns ps (P ++ a) v ∧ goT ns ls n last = v ∧ ∀ a' c' v', ls = a' ++ c' → c' ≠ [] → BelowAt ns ps (P ++ a') v' → a'.length ≤ a.length) ∨
        (goT ns ls n last = last ∧ ∀ a c v, ls = a ++ c → c ≠ [] → ¬ BelowAt ns ps (P ++ a) v)))
  | [], n, P, last, hP => by
    have hn : n < ns.length := by rw [← h.len]; exact (List.getElem?_eq_some_iff.1 hP).1
    have hx : ns[n]? = some ns[n] := List.getElem?_eq_getElem hn
    rw [goT, hx, List.append_nil]
    simp only
    by_cases e : (ns[n]).here' = -1
    · rw [if_pos e]
      refine .inr ⟨?_, .inr ⟨rfl, fun a c v h1 h2 => ?_⟩⟩
      · rintro v ⟨j, x, g1, g2, g3, g4⟩
        have := nodup_get h.nodup hP g1
        subst this
        rw [hx] at g2; cases g2
        exact g4 (g3.symm.trans e)
      · exact absurd (List.append_eq_nil_iff.1 h1.symm).2 h2
    · rw [if_neg e]
      exact .inl ⟨_, ⟨n, _, hP, hx, rfl, e⟩, rfl⟩
  | lab :: ls, n, P, last, hP => by
    have hn : n < ns.length := by rw [← h.len]; exact (List.getElem?_eq_some_iff.1 hP).1
    have hx : ns[n]? = some ns[n] := List.getElem?_eq_getElem hn
    rw [goT, hx]
    simp only
    -- what is told at this very node
    have here0 : ∀ v, BelowAt ns ps (P ++ []) v ↔ ((ns[n]).below = v ∧ v ≠ -1) := fun v => by
      rw [List.append_nil]
      constructor
      · rintro ⟨j, x, g1, g2, g3, g4⟩
        have := nodup_get h.nodup hP g1
        subst this
        rw [hx] at g2; cases g2
        exact ⟨g3, g4⟩
      · rintro ⟨g1, g2⟩; exact ⟨n, _, hP, hx, g1, g2⟩
    cases hq : kidIn ns lab (ns[n]).kids with
    | none =>
      simp only
      have hno := h.kid_none hx hP hq
      have far : ∀ b, P ++ lab :: b ∉ ps := fun b hb => hno (h.closed b (by simpa using hb))
      refine .inr ⟨?_, ?_⟩
      · rintro v ⟨j, x, g1, _⟩
        exact far ls (List.mem_of_getElem? g1)
      · by_cases e : (ns[n]).below = -1
        · rw [if_pos e]
          refine .inr ⟨rfl, fun a c v h1 h2 hB => ?_⟩
          cases a with
          | nil => obtain ⟨g1, g2⟩ := (here0 v).1 hB; exact g2 (g1.symm.trans e)
          | cons z a =>
            injection h1 with e1 e2
            subst e1
            obtain ⟨j, x, g1, _⟩ := hB
            exact far a (List.mem_of_getElem? g1)
        · rw [if_neg e]
          refine .inl ⟨[], lab :: ls, _, rfl, by simp, (here0 _).2 ⟨rfl, e⟩, rfl, fun a' c' v' h1 h2 hB => ?_⟩
          cases a' with
          | nil => simp
          | cons z a =>
            injection h1 with e1 e2
            subst e1
            obtain ⟨j, x, g1, _⟩ := hB
            exact absurd (List.mem_of_getElem? g1) (far a)
    | some q =>
      simp only
      obtain ⟨m, rfl, _, hm⟩ := h.kid_some hx hP hq
      rw [Int.toNat_natCast]
      have ih := goT_spec h ls (if (ns[n]).below = -1 then last else (ns[n]).below) hm
      rw [show P ++ [lab] ++ ls = P ++ lab :: ls by simp] at ih
      rcases ih with ih | ⟨i1, ih⟩
      · exact .inl ih
      · refine .inr ⟨i1, ?_⟩
        rcases ih with ⟨a, c, v, e1, e2, e3, e4, e5⟩ | ⟨e1, e2⟩
        · refine .inl ⟨lab :: a, c, v, by rw [e1]; rfl, e2, by rwa [show P ++ [lab] ++ a = P ++ lab :: a by simp] at e3, e4, fun a' c' v' h1 h2 hB => ?_⟩
          cases a' with
          | nil => simp
          | cons z a' =>
            injection h1 with f1 f2
            subst f1
            have := e5 a' c' v' f2 h2 (by rw [show P ++ [lab] ++ a' = P ++ lab :: a' by simp]; exact hB)
            simp only [List.length_cons]; omega
        · rw [e1]
          have none' : ∀ z a' c' v', lab :: ls = (z :: a') ++ c' → c' ≠ [] → ¬ BelowAt ns ps (P ++ z :: a') v' := fun z a' c' v' h1 h2 hB => by
            injection h1 with f1 f2
            subst f1
            exact e2 a' c' v' f2 h2 (by rw [show P ++ [lab] ++ a' = P ++ lab :: a' by simp]; exact hB)
          by_cases e : (ns[n]).below = -1
          · rw [if_pos e]
            refine .inr ⟨rfl, fun a c v h1 h2 hB => ?_⟩
            cases a with
            | nil => obtain ⟨g1, g2⟩ := (here0 v).1 hB; exact g2 (g1.symm.trans e)
            | cons z a => exact none' z a c v h1 h2 hB
          · rw [if_neg e]
            refine .inl ⟨[], lab :: ls, _, rfl, by simp, (here0 _).2 ⟨rfl, e⟩, rfl, fun a' c' v' h1 h2 hB => ?_⟩
            cases a' with
            | nil => simp
            | cons z a' => exact absurd hB (none' z a' c' v' h1 h2)
/-- THE TREE DECIDES AS THE RULES MEAN. -/
theorem decT_spec {l : List Rul} (h : Right l) {nm : ByteArray} (hs : isB nm.data.toList = true) : DecSpec l nm (decT (treeOf l) nm) := by
  obtain ⟨ps, t, v⟩ := tree_ok h l.length (Nat.le_refl _)
  have only : ∀ {i : Nat} {r : Rul} {p : ByteArray}, l[i]? = some r → p ∈ r.pats → ∀ (j : Nat) (r' : Rul), j < i → l[j]? = some r' → p ∉ r'.pats := fun hr hp j r' hj hr' hp' => by
    have := no_clash h.free hr hr' hp hp'
    omega
  have hasOf : ∀ {r : Rul} {q : ByteArray}, r ∈ l → q ∈ r.pats → ∃ i, Has l l.length q i := fun hr hq => by
    obtain ⟨i, hi⟩ := List.getElem?_of_mem hr
    exact ⟨i, _, (List.getElem?_eq_some_iff.1 hi).1, hi, hq⟩
  -- a star that matches has a path that the name's goes through
  have through : ∀ {q : ByteArray}, starB q.data.toList = true → rmatchB q.data.toList nm.data.toList = true → ∃ c, c ≠ [] ∧ revL nm.data.toList = pathP q ++ c := fun hq hm => by
    rw [rmatch_star hq, Bool.and_eq_true] at hm
    rw [pathP_star hq]
    exact (mem_above hs).1 (belowB_mem.1 hm.2)
  have sp := goT_spec t (revL nm.data.toList) (n := 0) (P := []) (-1) t.root
  simp only [List.nil_append] at sp
  unfold decT
  -- a name that matches is there
  have nameHere : (∀ w, ¬ HereAt (treeOf l) ps (revL nm.data.toList) w) → ∀ r ∈ l, ∀ q ∈ r.pats, rmatchB q.data.toList nm.data.toList = true → starB q.data.toList = true := fun hno r hr q hq hm => by
    cases hst : starB q.data.toList
    · exfalso
      obtain ⟨i, hi⟩ := hasOf hr hq
      have hh := v.here_of q i hi hst
      rw [pathP_name hst] at hh
      have hnq : isB q.data.toList = true := by
        rcases rpat_cases ((h.pats hr).2 q hq) with e | e
        · exact e
        · rw [hst] at e; cases e
      rw [rmatch_name hnq, Bool.and_eq_true, beq_iff_eq] at hm
      rw [hm.2] at hh
      exact hno _ hh
    · rfl
  rcases sp with ⟨w, hH, e⟩ | ⟨hno, ⟨a, c, w, e1, e2, hB, e, hfar⟩ | ⟨e, hnone⟩⟩
  · obtain ⟨p, i, ⟨r, _, hr, hp⟩, g1, g2, g3⟩ := v.of_here _ _ hH
    have hpn : p = nm := bytes_eq (revL_inj (by rw [← g2, pathP_name g1]))
    subst hpn
    refine .inr ⟨i, r, p, e.trans g3, hr, hp, by rw [rmatch_name hs, hs]; simp, fun r' hr' q hq hm => ?_, only hr hp⟩
    rw [rwithin_name hs ((h.pats hr').2 q hq)]; exact hm
  · obtain ⟨p, i, ⟨r, _, hr, hp⟩, g1, g2, g3⟩ := v.of_below _ _ hB
    have hpm : rmatchB p.data.toList nm.data.toList = true := by
      rw [rmatch_star g1, hs, Bool.true_and, belowB_mem, mem_above hs]
      exact ⟨c, e2, by rw [← pathP_star g1, g2]; exact e1⟩
    refine .inr ⟨i, r, p, e.trans g3, hr, hp, hpm, fun r' hr' q hq hm => ?_, only hr hp⟩
    have hst := nameHere hno r' hr' q hq hm
    obtain ⟨c', hc', hpath⟩ := through hst hm
    obtain ⟨j, hj⟩ := hasOf hr' hq
    have hlen := hfar (pathP q) c' j hpath hc' (v.below_of q j hj hst)
    rw [rwithin_star g1 (by unfold rpatB; rw [hst]; rfl), hst, Bool.true_and, Bool.or_eq_true, beq_iff_eq, belowB_mem, mem_above (starOf_name g1).1]
    have hpre : pathP q ++ c' = a ++ c := by rw [← hpath, ← e1]
    obtain ⟨d, hd⟩ : ∃ d, a = pathP q ++ d := by
      have h1 : pathP q <+: a ++ c := ⟨c', hpre⟩
      have h2 : a <+: a ++ c := ⟨c, rfl⟩
      obtain ⟨d, hd⟩ := List.prefix_of_prefix_length_le h1 h2 hlen
      exact ⟨d, hd.symm⟩
    rw [← g2] at hd
    rw [pathP_star g1, pathP_star hst] at hd
    by_cases hdn : d = []
    · rw [hdn, List.append_nil] at hd
      exact .inl (revL_inj hd)
    · exact .inr ⟨d, hdn, hd⟩
  · refine .inl ⟨e, fun r hr q hq => ?_⟩
    rw [Bool.eq_false_iff]; intro hm
    have hst := nameHere hno r hr q hq hm
    obtain ⟨c', hc', hpath⟩ := through hst hm
    obtain ⟨j, hj⟩ := hasOf hr hq
    exact hnone (pathP q) c' j hpath hc' (v.below_of q j hj hst)
theorem decT_eq {l : List Rul} (h : Right l) {nm : ByteArray} (hs : isB nm.data.toList = true) : decT (treeOf l) nm = decP l nm := (decT_spec h hs).unique (decP_spec hs)
end Pol
end Go.Proofs.YteemkkmkkgfofaaGreatDoor
namespace Go.Proofs.YteemkkmkkgfofaaGreatDoor
open Pol Nam
namespace Pol
/-- A wish, as the program holds it. -/
structure Wsh where
  account : Int
  names : List ByteArray
  key : Int
  life : Int
/-- Texts, all of them some, none twice. -/
def listOk (f : ByteArray → Bool) : List ByteArray → List ByteArray → Bool
  | _, [] => true
  | ahead, p :: l => f p && !memB ahead p && listOk f (ahead ++ [p]) l
theorem listOk_snoc (f : ByteArray → Bool) : ∀ (l a : List ByteArray) (p : ByteArray), listOk f a (l ++ [p]) = (listOk f a l && (f p && !memB (a ++ l) p))
  | [], a, p => by simp [listOk]
  | x :: l, a, p => by
    rw [List.cons_append, listOk, listOk, listOk_snoc f l (a ++ [x]) p]
    simp [Bool.and_assoc]
theorem listOk_take {f : ByteArray → Bool} {l : List ByteArray} {k : Nat} {p : ByteArray} (h : l[k]? = some p) : listOk f [] (l.take (k + 1)) = (listOk f [] (l.take k) && (f p && !memB (l.take k) p)) := by
  rw [List.take_add_one, h, Option.toList_some, listOk_snoc, List.nil_append]
theorem listOk_false {f : ByteArray → Bool} {l : List ByteArray} : ∀ {k : Nat}, listOk f [] (l.take k) = false → listOk f [] l = false := fun {k} h => by
  by_cases hk : k < l.length
  · have key : ∀ (m : Nat), listOk f [] (l.take (k + m)) = false := fun m => by
      induction m with
      | zero => exact h
      | succ m ih =>
        by_cases hm : k + m < l.length
        · rw [show k + (m + 1) = k + m + 1 from rfl, listOk_take (List.getElem?_eq_getElem hm), ih]; rfl
        · rw [List.take_of_length_le (by omega)] at ih ⊢; exact ih
    have := key (l.length - k)
    rwa [show k + (l.length - k) = l.length by omega, List.take_length] at this
  · rwa [List.take_of_length_le (by omega)] at h
def nmB (s : ByteArray) : Bool := isB s.data.toList
/-- May a wish be? -/
def mayB (v : Wsh) : Bool := listOk nmB [] v.names && ((decide (0 ≤ v.account) && decide (v.account ≤ 1099511627776)) && (decide (0 ≤ v.life) && decide (v.life ≤ 1099511627776)) && decide (1 ≤ v.names.length) && decide (v.names.length ≤ 8))
end Pol
/-- A verdict, as the program holds it. -/
structure Pol.Ver where
  allow : Bool
  at' : Int
  by' : List Int
theorem ver_eq {x y : Ver} : x = y ↔ (x.allow = y.allow ∧ x.at' = y.at' ∧ x.by' = y.by') := by
  cases x; cases y; simp
instance : DecidableEq Ver := fun _ _ => decidable_of_iff _ ver_eq.symm
theorem ver_dec (x y : Ver) : decide (x = y) = (x.allow == y.allow && x.at' == y.at' && decide (x.by' = y.by')) := by
  rw [Bool.eq_iff_iff]
  simp only [decide_eq_true_eq, Bool.and_eq_true, beq_iff_eq, ver_eq, and_assoc]
namespace Pol
/-- Does a rule allow a wish? k: the rule's number; -1: none. -/
def okOf (l : List Rul) (v : Wsh) (k : Int) : Bool := match l[k.toNat]? with
  | some r => decide (0 ≤ k) && r.allow && decide (r.keyMin ≤ v.key) && decide (1 ≤ v.life) && decide (v.life ≤ r.lifeMax)
  | none => false
def vStep (l : List Rul) (v : Wsh) (d : ByteArray → Int) (st : Ver) (s : ByteArray) : Ver :=
  { allow := st.allow && okOf l v (d s), at' := if st.allow && !okOf l v (d s) then (st.by'.length : Int) else st.at', by' := st.by' ++ [d s] }
/-- What rules say of a wish, by who decides of each name. -/
def verdictOf (l : List Rul) (v : Wsh) (d : ByteArray → Int) : Ver := v.names.foldl (vStep l v d) ⟨true, 0, []⟩
def zeroV : Ver := ⟨false, 0, []⟩
def meansOf (l : List Rul) (v : Wsh) (d : ByteArray → Int) : Ver × Int := if rightE l = 0 then (if mayB v then (verdictOf l v d, 0) else (zeroV, 1)) else (zeroV, rightE l)
/-- A table that is made, and what is told. -/
def compR (l : List Rul) : List Rul := if rightE l = 0 then l else []
def compN (l : List Rul) : List Nod := if rightE l = 0 then treeOf l else []
def checkT (rs : List Rul) (ns : List Nod) : Int := if rightE rs = 0 then (if treeOf rs = ns then 0 else 1) else rightE rs
def decideOf (rs : List Rul) (ns : List Nod) (v : Wsh) : Ver × Int := if checkT rs ns = 0 then (if mayB v then (verdictOf rs v (decT ns), 0) else (zeroV, 1)) else (zeroV, checkT rs ns)
theorem listOk_spec {f : ByteArray → Bool} : ∀ {l ah : List ByteArray}, listOk f ah l = true → l.Nodup ∧ ∀ p ∈ l, f p = true ∧ p ∉ ah
  | [], _, _ => by simp
  | p :: l, ah, h => by
    rw [listOk, Bool.and_eq_true, Bool.and_eq_true, Bool.not_eq_true'] at h
    obtain ⟨⟨h1, h2⟩, h3⟩ := h
    obtain ⟨g1, g2⟩ := listOk_spec h3
    have hna : p ∉ ah := fun hm => by rw [memB_iff.2 hm] at h2; cases h2
    refine ⟨List.nodup_cons.2 ⟨fun hm => (g2 p hm).2 (by simp), g1⟩, fun q hq => ?_⟩
    rcases List.mem_cons.1 hq with rfl | hq
    · exact ⟨h1, hna⟩
    · exact ⟨(g2 q hq).1, fun hm => (g2 q hq).2 (List.mem_append_left _ hm)⟩
theorem may_names {v : Wsh} (h : mayB v = true) : ∀ s ∈ v.names, isB s.data.toList = true := fun s hs => by
  unfold mayB at h
  rw [Bool.and_eq_true] at h
  exact ((listOk_spec h.1).2 s hs).1
theorem verdict_congr {l : List Rul} {v : Wsh} {d e : ByteArray → Int} : ∀ (ns : List ByteArray) (st : Ver), (∀ s ∈ ns, d s = e s) → ns.foldl (vStep l v d) st = ns.foldl (vStep l v e) st
  | [], _, _ => rfl
  | s :: ns, st, h => by
    have hs : vStep l v d st s = vStep l v e st s := by unfold vStep; rw [h s (by simp)]
    rw [List.foldl_cons, List.foldl_cons, hs]
    exact verdict_congr ns _ fun x hx => h x (List.mem_cons_of_mem _ hx)
/-- THE PROGRAM's ANSWER IS THE DOCUMENT's. -/
theorem means_eq (l : List Rul) (v : Wsh) : meansOf l v (decP l) = meansOf l v (decidesB l) := by
  unfold meansOf
  split
  · split
    · rename_i hm
      rw [verdictOf, verdictOf, verdict_congr _ _ fun s hs => decP_eq (may_names hm s hs)]
    · rfl
  · rfl
theorem checkT_ok {rs : List Rul} {ns : List Nod} (h : checkT rs ns = 0) : Right rs ∧ ns = treeOf rs := by
  unfold checkT at h
  split at h
  · rename_i hr
    split at h
    · rename_i he; exact ⟨rightE_iff.1 hr, he.symm⟩
    · cases h
  · rename_i hr; exact absurd h hr
theorem verdict_tree {l : List Rul} {v : Wsh} (h : Right l) (hm : mayB v = true) : verdictOf l v (decT (treeOf l)) = verdictOf l v (decP l) := by
  rw [verdictOf, verdictOf, verdict_congr _ _ fun s hs => decT_eq h (may_names hm s hs)]
/-- What a table decides is what its rules mean. -/
theorem decide_means (rs : List Rul) (ns : List Nod) (v : Wsh) : decideOf rs ns v = if checkT rs ns = 0 then meansOf rs v (decP rs) else (zeroV, checkT rs ns) := by
  unfold decideOf
  split
  · rename_i hc
    obtain ⟨hr, rfl⟩ := checkT_ok hc
    unfold meansOf
    rw [if_pos (rightE_iff.2 hr)]
    split
    · rename_i hm; rw [verdict_tree hr hm]
    · rfl
  · rfl
theorem check_comp {l : List Rul} (h : rightE l = 0) : checkT l (treeOf l) = 0 := by unfold checkT; rw [if_pos h, if_pos rfl]
theorem bare_eq (l : List Rul) (s : ByteArray) : (isB s.data.toList && decide (decP l s = -1)) = (isB s.data.toList && decide (decidesB l s < 0)) := by
  cases hs : isB s.data.toList
  · rfl
  · rw [decP_eq hs]
    rcases decidesB_spec l s with ⟨h, _⟩ | ⟨k, _, _, h, _⟩
    · rw [h]; rfl
    · rw [h]
      have h1 : decide ((k : Int) = -1) = false := by simp
      have h2 : decide ((k : Int) < 0) = false := by simp
      rw [h1, h2]
end Pol
end Go.Proofs.YteemkkmkkgfofaaGreatDoor
namespace Go.Proofs.YteemkkmkkgfofaaGreatDoor
open Go.RowKit Nam Pol Go.Maps
attribute [local go_sem] gv_of

/-- A wish as a value: its names' slice at a, of capacity c. -/
def wshV (v : Wsh) (a : Option Addr) (c : Nat) : Value := .agg #[.int .i64 v.account, .slice a v.names.length c, .int .u64 v.key, .int .i64 v.life]
end Go.Proofs.YteemkkmkkgfofaaGreatDoor
namespace Go.Proofs.YteemkkmkkgfofaaGreatDoor
open Go.RowKit Nam Pol
attribute [local go_sem] gv_of

/-- An integer in one cell. -/
def IntAt : ElR Int := fun w b o n => w.cell? ⟨b, o, none⟩ = some (.int .i64 n)
instance : Firm IntAt where
  ext := fun h hE => ext_cell h hE
/-- From address a on there lie those integers. -/
abbrev Ints (w : World) (a : Option Addr) (l : List Int) : Prop := SlA 1 IntAt w a l
/-- Is a wish small? -/
def fewNames (l : List ByteArray) : Bool := ((l.take 20).all fun p => decide (p.size ≤ 200)) && decide (l.length ≤ 16)
theorem fewNames_false {l : List ByteArray} {k : Nat} {p : ByteArray} (hp : l[k]? = some p) (hk : k < 20) (h : 200 < p.size) : fewNames l = false := by
  rw [Bool.eq_false_iff]; intro hf
  unfold fewNames at hf
  rw [Bool.and_eq_true, List.all_eq_true] at hf
  have hm : p ∈ l.take 20 := List.mem_of_getElem? (i := k) (by rw [List.getElem?_take, if_pos hk]; exact hp)
  have := of_decide_eq_true (hf.1 p hm)
  omega
end Go.Proofs.YteemkkmkkgfofaaGreatDoor
namespace Go.Proofs.YteemkkmkkgfofaaGreatDoor
open Go.RowKit Nam Pol
attribute [local go_sem] gv_of

end Go.Proofs.YteemkkmkkgfofaaGreatDoor
namespace Go.Proofs.YteemkkmkkgfofaaGreatDoor
open Go.RowKit Nam Pol
attribute [local go_sem] gv_of

theorem any_take_snoc {α : Type} {l : List α} {k : Nat} {x : α} (h : l[k]? = some x) (f : α → Bool) : (l.take (k + 1)).any f = ((l.take k).any f || f x) := by
  rw [List.take_add_one, h]; simp
end Go.Proofs.YteemkkmkkgfofaaGreatDoor
