/- Policies, in plain Lean: a table is its rules': how often each node is a kid; a node another way. No program in sight. Literal blocks as lists; walks: the law's example of a policy. -/
import Derived.Test.YtmdmbdbbpdojnaaGreatDoorM25
namespace Go.Proofs.YtmdmbdbbpdojnaaGreatDoor
open Pol Nam
namespace Pol
/-- How often j stands there. -/
def cnt (ks : List Int) (j : Nat) : Int := ((ks.count (j : Int) : Nat) : Int)
theorem cnt_nil (j : Nat) : cnt [] j = 0 := rfl
theorem cnt_snoc (ks : List Int) (m j : Nat) : cnt (ks ++ [(m : Int)]) j = if m = j then cnt ks j + 1 else cnt ks j := by
  unfold cnt
  rw [List.count_append, List.count_singleton]
  by_cases h : m = j
  · subst h; simp
  · rw [if_neg h]
    have : ((m : Int) == (j : Int)) = false := by simp; omega
    simp [this]
theorem cnt_append_nil (ks : List Int) : ks ++ [] = ks := List.append_nil ks
theorem cnt_le (ks : List Int) (j : Nat) : 0 ≤ cnt ks j ∧ cnt ks j ≤ ks.length := by
  unfold cnt
  have := List.count_le_length (a := (j : Int)) (l := ks)
  omega
theorem count_range : ∀ (n j : Nat), 1 ≤ j → j ≤ n → (((List.range n).map fun i => ((i + 1 : Nat) : Int)).count (j : Int)) = 1
  | 0, j, h1, h2 => by omega
  | n + 1, j, h1, h2 => by
    rw [List.range_succ, List.map_append, List.count_append, List.map_singleton, List.count_singleton]
    by_cases h : j = n + 1
    · subst h
      have : ((List.range n).map fun i => ((i + 1 : Nat) : Int)).count ((n + 1 : Nat) : Int) = 0 := by
        rw [List.count_eq_zero]
        intro hm
        obtain ⟨i, hi, he⟩ := List.mem_map.1 hm
        rw [List.mem_range] at hi
        omega
      rw [this]; simp
    · rw [count_range n j h1 (by omega)]
      have : (((n + 1 : Nat) : Int) == (j : Int)) = false := by simp; omega
      rw [this]; rfl
theorem Tree.cnt_one {ns : List Nod} {ps : List (List ByteArray)} (h : Tree ns ps) {j : Nat} (h1 : 1 ≤ j) (h2 : j < ns.length) : cnt (ns.flatMap (·.kids)) j = 1 := by
  unfold cnt
  rw [h.perm.count_eq, count_range _ j h1 (by omega)]; rfl
theorem Tree.kid_above {ns : List Nod} {ps : List (List ByteArray)} (h : Tree ns ps) {i : Nat} {x : Nod} {q : Int} (hx : ns[i]? = some x) (hq : q ∈ x.kids) : ∃ m : Nat, q = (m : Int) ∧ i < m ∧ m < ns.length := by
  obtain ⟨m, y, P, h1, h2, h3, _⟩ := h.kid i x hx q hq
  exact ⟨m, h1, h2, (List.getElem?_eq_some_iff.1 h3).1⟩
theorem Tree.kids_len {ns : List Nod} {ps : List (List ByteArray)} (h : Tree ns ps) : (ns.flatMap (·.kids)).length = ns.length - 1 := by
  rw [h.perm.length_eq]; simp
/-- The kids of the first i nodes, and of the next one's first k. -/
def kidsTo (ns : List Nod) (i : Nat) : List Int := (ns.take i).flatMap (·.kids)
theorem kidsTo_next {ns : List Nod} {i : Nat} {x : Nod} (hx : ns[i]? = some x) : kidsTo ns (i + 1) = kidsTo ns i ++ x.kids := by
  unfold kidsTo
  rw [List.take_add_one, hx, List.flatMap_append]; simp
theorem kidsTo_le (ns : List Nod) (i : Nat) {x : Nod} (hx : ns[i]? = some x) : (kidsTo ns i).length + x.kids.length ≤ (ns.flatMap (·.kids)).length := by
  have h : ns.flatMap (·.kids) = kidsTo ns (i + 1) ++ (ns.drop (i + 1)).flatMap (·.kids) := by
    unfold kidsTo; rw [← List.flatMap_append, List.take_append_drop]
  rw [h, kidsTo_next hx]; simp only [List.length_append]; omega
theorem kidsTo_all {ns : List Nod} {i : Nat} (h : ns.length ≤ i) : kidsTo ns i = ns.flatMap (·.kids) := by
  unfold kidsTo; rw [List.take_of_length_le h]
theorem right_tree {l : List Rul} (h : rightE l = 0) : ∃ ps, Tree (treeOf l) ps := by
  obtain ⟨ps, t, _⟩ := tree_ok (rightE_iff.1 h) l.length (Nat.le_refl _)
  exact ⟨ps, t⟩
theorem tree_pos (l : List Rul) (h : rightE l = 0) : 0 < (treeOf l).length := by
  obtain ⟨ps, t⟩ := right_tree h
  have h1 := t.root; have h2 := t.len
  have := (List.getElem?_eq_some_iff.1 h1).1
  omega
theorem check_right {l : List Rul} {ns : List Nod} (h : rightE l = 0) : checkT l ns = if treeOf l = ns then 0 else 1 := by unfold checkT; rw [if_pos h]
theorem set_eq {α : Type} {l : List α} {k : Nat} {x y : α} (hx : l[k]? = some x) : l = l.set k y ↔ y = x := by
  constructor
  · intro h
    have h2 : (l.set k y)[k]? = some x := by rw [← h]; exact hx
    rw [List.getElem?_set_self (List.getElem?_eq_some_iff.1 hx).1] at h2
    exact Option.some.inj h2
  · rintro rfl
    obtain ⟨hk, rfl⟩ := List.getElem?_eq_some_iff.1 hx
    simp
theorem check_here {l : List Rul} {k : Nat} {x : Nod} {v : Int} (h : rightE l = 0) (hx : (treeOf l)[k]? = some x) : (checkT l ((treeOf l).set k { x with here' := v }) == 0) = (v == x.here') := by
  rw [check_right h]
  by_cases e : v = x.here'
  · subst e
    rw [if_pos ((set_eq hx).2 rfl)]; simp
  · rw [if_neg fun he => e (congrArg Nod.here' ((set_eq hx).1 he))]
    simp [e]
theorem check_label {l : List Rul} {k : Nat} {x : Nod} {v : ByteArray} (h : rightE l = 0) (hx : (treeOf l)[k]? = some x) : (checkT l ((treeOf l).set k { x with label := v }) == 0) = (v.toList == x.label.toList) := by
  rw [check_right h]
  by_cases e : v = x.label
  · subst e
    rw [if_pos ((set_eq hx).2 rfl)]; simp
  · rw [if_neg fun he => e (congrArg Nod.label ((set_eq hx).1 he))]
    rw [show (v.toList == x.label.toList) = false by
      rw [beq_eq_false_iff_ne, Lib.toList_data, Lib.toList_data]; exact fun hh => e (bytes_eq hh)]
    rfl
theorem check_tail {l : List Rul} (h : rightE l = 0) : checkT l ((treeOf l).drop 1) = 1 := by
  rw [check_right h, if_neg]
  intro e
  have := congrArg List.length e
  have := tree_pos l h
  simp at *
  omega
end Pol
end Go.Proofs.YtmdmbdbbpdojnaaGreatDoor
namespace Go.Proofs.YtmdmbdbbpdojnaaGreatDoor
open Go.RowKit Nam Pol Go.Maps

/-- A block's cells, in a world in which it was made. -/
theorem new_cell (w : World) (cs : Array Value) (T : TypeId) (j : Nat) : (w.alloc (.cells cs T)).cell? ⟨w.heap.size, j, none⟩ = cs[j]? := cell_of_row _ _ j cs T _ (World.alloc_heap_new w _)
theorem strs_lit (w : World) (l : List ByteArray) (T : TypeId) (hs : ∀ s ∈ l, s.size ≤ maxLen) : Strs (w.alloc (.cells (l.map Value.string).toArray T)) (some ⟨w.heap.size, 0, none⟩) l := fun i s h =>
  ⟨_, _, rfl, by rw [new_cell]; simp [h], hs s (List.mem_of_getElem? h)⟩
theorem ints_lit (w : World) (l : List Int) (T : TypeId) : Ints (w.alloc (.cells (l.map (Value.int .i64)).toArray T)) (some ⟨w.heap.size, 0, none⟩) l := fun i s h =>
  ⟨_, _, rfl, by unfold IntAt; rw [new_cell]; simp [h]⟩
/-- A rule's cells, as values. -/
def litC (q : Rul × Option Addr × Nat) : List Value := [.string q.1.name, .bool q.1.allow, .slice q.2.1 q.1.pats.length q.2.2, .int .u64 q.1.keyMin, .int .i64 q.1.lifeMax, .int .i64 q.1.most, .int .i64 q.1.window]
def rulOk (w : World) (q : Rul × Option Addr × Nat) : Prop := q.1.pats.length ≤ q.2.2 ∧ q.2.2 ≤ maxLen ∧ Strs w q.2.1 q.1.pats ∧ q.1.name.size ≤ maxLen ∧ 0 ≤ q.1.keyMin
theorem get_flat {α β : Type} {f : α → List β} {n : Nat} : ∀ {l : List α} {i : Nat} {x : α}, (∀ y ∈ l, (f y).length = n) → l[i]? = some x → ∀ j, j < n → (l.flatMap f)[i * n + j]? = (f x)[j]?
  | [], i, x, _, h, _, _ => by simp at h
  | y :: l, 0, x, hl, h, j, hj => by
    simp at h; subst h
    rw [List.flatMap_cons, Nat.zero_mul, Nat.zero_add, List.getElem?_append_left (by rw [hl y (by simp)]; exact hj)]
  | y :: l, i + 1, x, hl, h, j, hj => by
    rw [List.getElem?_cons_succ] at h
    have := hl y (by simp)
    rw [List.flatMap_cons, List.getElem?_append_right (by rw [this, Nat.add_mul]; omega), this, show (i + 1) * n + j - n = i * n + j by rw [Nat.add_mul]; omega]
    exact get_flat (fun z hz => hl z (List.mem_cons_of_mem _ hz)) h j hj
theorem ruls_lit (w : World) (qs : List (Rul × Option Addr × Nat)) (T : TypeId) (hq : ∀ q ∈ qs, rulOk w q) : Ruls (w.alloc (.cells (qs.flatMap litC).toArray T)) (some ⟨w.heap.size, 0, none⟩) (qs.map (·.1)) := fun i r h => by
  rw [List.getElem?_map, Option.map_eq_some_iff] at h
  obtain ⟨q, hqi, rfl⟩ := h
  obtain ⟨h1, h2, h3, h4, h5⟩ := hq q (List.mem_of_getElem? hqi)
  have hE : Ext w (w.alloc (.cells (qs.flatMap litC).toArray T)) := ext_alloc (Below.refl _ _) _
  have hg := fun j hj => get_flat (f := litC) (n := 7) (fun _ _ => rfl) hqi j hj
  refine ⟨_, _, rfl, ?_, ?_, ⟨q.2.1, q.2.2, ?_, h1, h2, h3.ext hE⟩, ?_, ?_, ?_, ?_, h4, h5⟩
  · rw [new_cell, Nat.zero_add, List.getElem?_toArray]; exact hg 0 (by decide)
  · rw [new_cell, Nat.zero_add, List.getElem?_toArray]; exact hg 1 (by decide)
  · rw [new_cell, Nat.zero_add, List.getElem?_toArray]; exact hg 2 (by decide)
  · rw [new_cell, Nat.zero_add, List.getElem?_toArray]; exact hg 3 (by decide)
  · rw [new_cell, Nat.zero_add, List.getElem?_toArray]; exact hg 4 (by decide)
  · rw [new_cell, Nat.zero_add, List.getElem?_toArray]; exact hg 5 (by decide)
  · rw [new_cell, Nat.zero_add, List.getElem?_toArray]; exact hg 6 (by decide)
theorem rul_ok {w : World} {r : Rul} {a : Option Addr} {c : Nat} (h1 : r.pats.length ≤ c) (h2 : c ≤ maxLen) (h3 : Strs w a r.pats) (h4 : r.name.size ≤ maxLen) (h5 : 0 ≤ r.keyMin) : rulOk w (r, a, c) := ⟨h1, h2, h3, h4, h5⟩
set_option maxRecDepth 100000 in
set_option maxHeartbeats 2000000 in
theorem example_any (w : World) :
    Calls Tryz.prog 38 #[] w fun e w' => ∃ a, e = .returned (.slice a 3 3) ∧ Ruls w' a exL ∧ Ext w w' := by
  go_enter Tryz.func38, Tryz.ntmps38
  go_wp2
  go_ret
  have e1 := strs_lit w exAll.pats 9 (by decide)
  have e2 := strs_lit (w.alloc (.cells (exAll.pats.map Value.string).toArray 9)) exNot.pats 9 (by decide)
  have e3 := strs_lit ((w.alloc (.cells (exAll.pats.map Value.string).toArray 9)).alloc (.cells (exNot.pats.map Value.string).toArray 9)) exOne.pats 9 (by decide)
  have hr := ruls_lit (((w.alloc (.cells (exAll.pats.map Value.string).toArray 9)).alloc (.cells (exNot.pats.map Value.string).toArray 9)).alloc (.cells (exOne.pats.map Value.string).toArray 9))
    [(exAll, some ⟨w.heap.size, 0, none⟩, 1), (exNot, some ⟨w.heap.size + 1, 0, none⟩, 1), (exOne, some ⟨w.heap.size + 2, 0, none⟩, 1)] 54 (by
      intro q hq
      simp only [List.mem_cons, List.not_mem_nil, or_false] at hq
      rw [World.size_alloc] at e2
      rw [World.size_alloc, World.size_alloc] at e3
      rcases hq with rfl | rfl | rfl
      · exact rul_ok (by decide) (by decide) ((e1.ext (ext_alloc (Below.refl _ _) _)).ext (ext_alloc (Below.refl _ _) _)) (by decide) (by decide)
      · exact rul_ok (by decide) (by decide) (e2.ext (ext_alloc (Below.refl _ _) _)) (by decide) (by decide)
      · exact rul_ok (by decide) (by decide) e3 (by decide) (by decide))
  rw [World.size_alloc, World.size_alloc, World.size_alloc] at hr
  exact ⟨_, rfl, hr, ext_alloc (ext_alloc (ext_alloc (ext_alloc (Below.refl _ _) _) _) _) _⟩
end Go.Proofs.YtmdmbdbbpdojnaaGreatDoor
