/- Nodes in memory of the call's own: a row of nodes, each with a row of kids. Walks of the program's functions on nodes: kid. Walk: names.Labels. Walks: the labels of a name, in a row of the call's own. -/
import Derived.Test.YtmdmbdbbpdojnaaGreatDoorM15
import Derived.Test.YtmdmbdbbpdojnaaGreatDoorM16
import Derived.Test.YtmdmbdbbpdojnaaGreatDoorM08
namespace Go.Proofs.YtmdmbdbbpdojnaaGreatDoor
open Go.RowKit Nam Pol Go.Maps

theorem modify_set {α : Type} {f : α → α} : ∀ {l : List α} {j : Nat} {x : α}, l[j]? = some x → l.modify j f = l.set j (f x)
  | [], j, x, h => by simp at h
  | y :: l, 0, x, h => by simp at h; subst h; rfl
  | y :: l, j + 1, x, h => by
    have h' : l[j]? = some x := by simpa using h
    rw [List.modify_succ_cons, List.set_cons_succ, modify_set h']
theorem zip_set {α β : Type} : ∀ (l : List α) (m : List β) (j : Nat) (a : α) (b : β), (l.set j a).zip (m.set j b) = (l.zip m).set j (a, b)
  | [], _, _, _, _ => by simp
  | _ :: _, [], _, _, _ => by simp
  | _ :: l, _ :: m, 0, a, b => by simp
  | _ :: l, _ :: m, j + 1, a, b => by simp [zip_set l m j a b]
theorem zip_set_left {α β : Type} : ∀ (l : List α) (m : List β) (j : Nat) (a : α) (b : β), m[j]? = some b → (l.set j a).zip m = (l.zip m).set j (a, b)
  | [], _, _, _, _, _ => by simp
  | _ :: _, [], _, _, _, h => by simp at h
  | _ :: l, _ :: m, 0, a, b, h => by simp at h; simp [h]
  | _ :: l, _ :: m, j + 1, a, b, h => by
    have h' : m[j]? = some b := by simpa using h
    simp [zip_set_left l m j a b h']
theorem flat_set {α β : Type} {m : Nat} {f : α → List β} (hm : ∀ x, (f x).length = m) : ∀ {l : List α} {j c : Nat} {x y : α} {u : β}, l[j]? = some x → c < m → f y = (f x).set c u → (l.flatMap f).set (j * m + c) u = (l.set j y).flatMap f
  | [], j, c, x, y, u, h, _, _ => by simp at h
  | z :: l, 0, c, x, y, u, h, hc, hy => by
    simp at h; subst h
    rw [List.flatMap_cons, List.set_cons_zero, List.flatMap_cons, Nat.zero_mul, Nat.zero_add, List.set_append_left _ _ (by rw [hm]; exact hc), hy]
  | z :: l, j + 1, c, x, y, u, h, hc, hy => by
    have h' : l[j]? = some x := by simpa using h
    rw [List.flatMap_cons, List.set_cons_succ, List.flatMap_cons, List.set_append_right _ _ (by rw [hm, Nat.add_mul]; omega), hm, show (j + 1) * m + c - m = j * m + c by rw [Nat.add_mul]; omega, flat_set hm h' hc hy]
/-- A node's four cells; its kids' slice. -/
def nodC (q : Nod × Value) : List Value := [.string q.1.label, .int .i64 q.1.here', .int .i64 q.1.below, q.2]
structure NodesOwn (w : World) (base : Nat) (v : Value) (ns : List Nod) (kvs : List Value) : Prop where
  len : kvs.length = ns.length
  row : w.ownsRow base 62 4 v ns.length ((ns.zip kvs).flatMap nodC)
  kids : ∀ (j : Nat) (x : Nod) (kv : Value), ns[j]? = some x → kvs[j]? = some kv → w.ownsRow base 3 1 kv x.kids.length (x.kids.map intV)
  apart : ∀ (i j : Nat) (ki kj : Value), kvs[i]? = some ki → kvs[j]? = some kj → i ≠ j → ki.ownBlock = none ∨ ki.ownBlock ≠ kj.ownBlock
  sizes : ∀ x ∈ ns, x.label.size ≤ maxLen
variable {w : World} {base : Nat} {v : Value} {ns : List Nod} {kvs : List Value}
theorem NodesOwn.kv (h : NodesOwn w base v ns kvs) {j : Nat} {x : Nod} (hx : ns[j]? = some x) : ∃ kv, kvs[j]? = some kv ∧ (ns.zip kvs)[j]? = some (x, kv) := by
  have hj : j < kvs.length := by rw [h.len]; exact (List.getElem?_eq_some_iff.1 hx).1
  exact ⟨kvs[j], List.getElem?_eq_getElem hj, List.getElem?_zip_eq_some.2 ⟨hx, List.getElem?_eq_getElem hj⟩⟩
theorem NodesOwn.cells (h : NodesOwn w base v ns kvs) {g cap j : Nat} {x : Nod} {kv : Value} (hv : v = .slice (some ⟨g, 0, none⟩) ns.length cap) (hx : ns[j]? = some x) (hk : kvs[j]? = some kv) :
    w.cell? ⟨g, j * 4, none⟩ = some (.string x.label) ∧ w.cell? ⟨g, j * 4 + 1, none⟩ = some (.int .i64 x.here') ∧ w.cell? ⟨g, j * 4 + 2, none⟩ = some (.int .i64 x.below) ∧ w.cell? ⟨g, j * 4 + 3, none⟩ = some kv := by
  have hz : (ns.zip kvs)[j]? = some (x, kv) := List.getElem?_zip_eq_some.2 ⟨hx, hk⟩
  have c : ∀ (i : Nat) (u : Value), i < 4 → (nodC (x, kv))[i]? = some u → w.cell? ⟨g, j * 4 + i, none⟩ = some u := fun i u hi hu =>
    own_cell h.row (by rw [hv]; rfl) (by rw [flat_get (f := nodC) (fun _ => rfl) i hz hi]; exact hu)
  exact ⟨c 0 _ (by decide) rfl, c 1 _ (by decide) rfl, c 2 _ (by decide) rfl, c 3 _ (by decide) rfl⟩
theorem NodesOwn.form (h : NodesOwn w base v ns kvs) (hn : ns ≠ []) : ∃ g cap, v = .slice (some ⟨g, 0, none⟩) ns.length cap ∧ base ≤ g ∧ g < w.heap.size ∧ ns.length ≤ cap ∧ cap ≤ maxLen := by
  rcases own_form h.row with ⟨_, h0, _⟩ | ⟨g, cap, hv, _, h1, h2, h3, h4⟩
  · exact absurd (List.eq_nil_of_length_eq_zero h0) hn
  · exact ⟨g, cap, hv, h1, h2, h3, h4⟩
/-- They read as nodes. -/
theorem NodesOwn.nods (h : NodesOwn w base v ns kvs) : SlV 4 NodAt w v ns := by
  rcases own_form h.row with ⟨rfl, h0, _⟩ | ⟨g, cap, hv, hg, _, _, hc, hcm⟩
  · have hl : ns = [] := List.eq_nil_of_length_eq_zero h0
    subst hl
    exact ⟨none, 0, rfl, Nat.le_refl _, Nat.zero_le _, SlA.nil _ _ _ _⟩
  · refine ⟨some ⟨g, 0, none⟩, cap, hv, hc, hcm, fun j x hx => ⟨g, 0, rfl, ?_⟩⟩
    obtain ⟨kv, hk, _⟩ := h.kv hx
    obtain ⟨c0, c1, c2, c3⟩ := h.cells hv hx hk
    obtain ⟨a, c, e, k1, k2, k3⟩ := int_slv rfl (h.kids j x kv hx hk)
    rw [Nat.zero_add]
    exact ⟨c0, c1, c2, ⟨a, c, by rw [c3, e], k1, k2, k3⟩, h.sizes x (List.mem_of_getElem? hx)⟩
theorem NodesOwn.keep {w' : World} (h : NodesOwn w base v ns kvs) (hv : ∀ g, v.ownBlock = some g → w'.heap[g]? = w.heap[g]?) (hk : ∀ (j : Nat) (kv : Value) (g : Nat), kvs[j]? = some kv → kv.ownBlock = some g → w'.heap[g]? = w.heap[g]?) : NodesOwn w' base v ns kvs where
  len := h.len
  row := own_keep h.row hv
  kids := fun j x kv h1 h2 => own_keep (h.kids j x kv h1 h2) fun g hg => hk j kv g h2 hg
  apart := h.apart
  sizes := h.sizes
theorem NodesOwn.get (h : NodesOwn w base v ns kvs) {j : Nat} {kv : Value} (hk : kvs[j]? = some kv) : ∃ x, ns[j]? = some x := by
  have hj : j < ns.length := by rw [← h.len]; exact (List.getElem?_eq_some_iff.1 hk).1
  exact ⟨_, List.getElem?_eq_getElem hj⟩
theorem NodesOwn.fr {S : Nat → Prop} {w' : World} (h : NodesOwn w base v ns kvs) (hF : Fr S w w') (hs : ∀ g, base ≤ g → (∃ c t f, w.heap[g]? = some (.cells c t f) ∧ (t = 62 ∨ t = 3)) → ¬ S g) : NodesOwn w' base v ns kvs := by
  have key : ∀ {e : TypeId} {m n : Nat} {u : Value} {xs : List Value}, w.ownsRow base e m u n xs → (e = 62 ∨ e = 3) → ∀ g, u.ownBlock = some g → w'.heap[g]? = w.heap[g]? := fun {e m n u xs} hu he g hg => by
    rcases hu.2 with ⟨rfl, _⟩ | ⟨g', cap, cur, rfl, hb, hh, _⟩
    · simp [Value.ownBlock] at hg
    · simp only [Value.ownBlock, Option.some.injEq] at hg
      subst hg
      exact hF.block _ (Array.getElem?_eq_some_iff.1 hh).1 (hs _ hb ⟨_, _, _, hh, he⟩)
  exact h.keep (key h.row (.inl rfl)) fun j kv g hk hg => by
    obtain ⟨x, hx⟩ := h.get hk
    exact key (h.kids j x kv hx hk) (.inr rfl) g hg
theorem NodesOwn.ext {w' : World} (h : NodesOwn w base v ns kvs) (hE : Ext w w') : NodesOwn w' base v ns kvs :=
  h.keep (fun g hg => hE.block g (h.row.lt g hg).2) fun j kv g hk hg => by
    obtain ⟨x, hx⟩ := h.get hk
    exact hE.block g ((h.kids j x kv hx hk).lt g hg).2
/-- A node more, without kids. -/
theorem NodesOwn.push {w1 : World} {v' : Value} {lab : ByteArray} (h : NodesOwn w base v ns kvs) (hl : lab.size ≤ maxLen) (hown : w1.ownsRow base 62 4 v' (ns.length + 1) ((ns.zip kvs).flatMap nodC ++ [.string lab, .int .i64 (-1), .int .i64 (-1), .slice none 0 0])) (hg : w.grownBy w1 v.ownBlock) :
    NodesOwn w1 base v' (ns ++ [blankN lab]) (kvs ++ [.slice none 0 0]) where
  len := by simp [h.len]
  row := by
    rw [List.zip_append h.len.symm, List.flatMap_append, List.length_append]
    exact hown
  kids := fun j x kv h1 h2 => by
    by_cases hj : j < ns.length
    · rw [List.getElem?_append_left hj] at h1
      rw [List.getElem?_append_left (by rw [h.len]; exact hj)] at h2
      have hk := h.kids j x kv h1 h2
      exact hk.kept hg (own_apart hk h.row (by decide))
    · have hlt := (List.getElem?_eq_some_iff.1 h1).1
      simp only [List.length_append, List.length_singleton] at hlt
      obtain rfl : j = ns.length := by omega
      rw [List.getElem?_append_right (Nat.le_refl _)] at h1
      rw [List.getElem?_append_right (by rw [h.len]; exact Nat.le_refl _), h.len] at h2
      simp at h1 h2
      subst h1 h2
      exact World.ownsRow_nil _ _ _ _
  apart := fun i j ki kj h1 h2 hne => by
    have one : ∀ (i : Nat) (k : Value), (kvs ++ [Value.slice none 0 0])[i]? = some k → kvs[i]? = some k ∨ (i = kvs.length ∧ k = .slice none 0 0) := fun i k hi => by
      by_cases hlt : i < kvs.length
      · rw [List.getElem?_append_left hlt] at hi; exact .inl hi
      · have := (List.getElem?_eq_some_iff.1 hi).1
        simp only [List.length_append, List.length_singleton] at this
        obtain rfl : i = kvs.length := by omega
        rw [List.getElem?_append_right (Nat.le_refl _)] at hi
        simp at hi
        exact .inr ⟨rfl, hi.symm⟩
    rcases one i ki h1 with h1 | ⟨rfl, rfl⟩
    · rcases one j kj h2 with h2 | ⟨rfl, rfl⟩
      · exact h.apart i j ki kj h1 h2 hne
      · cases ki.ownBlock <;> simp [Value.ownBlock]
    · exact .inl rfl
  sizes := fun x hx => by
    rcases List.mem_append.1 hx with hx | hx
    · exact h.sizes x hx
    · rw [List.mem_singleton] at hx; subst hx; exact hl
/-- A node's number is written. -/
theorem NodesOwn.set {g cap j : Nat} {x : Nod} (h : NodesOwn w base v ns kvs) (hv : v = .slice (some ⟨g, 0, none⟩) ns.length cap) (hx : ns[j]? = some x) (wide : Bool) (i : Int) :
    NodesOwn (w.setCell ⟨g, j * 4 + (if wide then 2 else 1), none⟩ (.int .i64 i)) base v (setT ns j wide i) kvs := by
  obtain ⟨kv, hk, hz⟩ := h.kv hx
  subst hv
  have hst := h.row.stored (j * 4 + (if wide then 2 else 1)) (.int .i64 i)
  have hset : setT ns j wide i = ns.set j (if wide then { x with below := i } else { x with here' := i }) := modify_set hx
  have hF : Fr (fun b => b = g) w (w.setCell ⟨g, j * 4 + (if wide then 2 else 1), none⟩ (.int .i64 i)) := Fr.setCell _ _ _ rfl
  rw [hset]
  refine ⟨by simp [h.len], ?_, fun q y ky h1 h2 => ?_, h.apart, fun y hy => ?_⟩
  · rw [List.length_set, zip_set_left _ _ _ _ _ hk]
    rw [← flat_set (f := nodC) (m := 4) (c := if wide then 2 else 1) (u := .int .i64 i) (fun _ => rfl) hz (by split <;> decide) (by cases wide <;> rfl)]
    exact hst.1
  · have hky : ∃ z, ns[q]? = some z ∧ z.kids = y.kids := by
      by_cases e : q = j
      · subst e
        rw [List.getElem?_set_self (List.getElem?_eq_some_iff.1 hx).1] at h1
        simp only [Option.some.injEq] at h1
        exact ⟨x, hx, by rw [← h1]; split <;> rfl⟩
      · rw [List.getElem?_set_ne (fun e' => e e'.symm)] at h1
        exact ⟨y, h1, rfl⟩
    obtain ⟨z, hz1, hz2⟩ := hky
    have hkz := h.kids q z ky hz1 h2
    rw [hz2] at hkz
    refine own_fr hkz hF fun b hb e => ?_
    rcases own_apart hkz h.row (by decide) with e1 | e1
    · rw [e1] at hb; cases hb
    · rw [hb, e] at e1; exact e1 rfl
  · rcases List.mem_or_eq_of_mem_set hy with hy | rfl
    · exact h.sizes y hy
    · have := h.sizes x (List.mem_of_getElem? hx)
      split <;> exact this
/-- A node has a kid more. -/
theorem NodesOwn.kid {w1 : World} {kv kv' : Value} {g cap j : Nat} {x : Nod} {k : Int} (h : NodesOwn w base v ns kvs) (hv : v = .slice (some ⟨g, 0, none⟩) ns.length cap) (hx : ns[j]? = some x) (hk : kvs[j]? = some kv)
    (hown : w1.ownsRow base 3 1 kv' (x.kids.length + 1) (x.kids.map intV ++ [intV k])) (hg : w.grownBy w1 kv.ownBlock) (hat : kv'.ownBlock = kv.ownBlock ∨ kv'.ownBlock = some w.heap.size) :
    NodesOwn (w1.setCell ⟨g, j * 4 + 3, none⟩ kv') base v (ns.modify j fun x => { x with kids := x.kids ++ [k] }) (kvs.set j kv') := by
  subst hv
  have hz : (ns.zip kvs)[j]? = some (x, kv) := List.getElem?_zip_eq_some.2 ⟨hx, hk⟩
  have hkx := h.kids j x kv hx hk
  have hrow1 := h.row.kept hg (own_apart h.row hkx (by decide))
  have hst := hrow1.stored (j * 4 + 3) kv'
  have hF : Fr (fun b => b = g) w1 (w1.setCell ⟨g, j * 4 + 3, none⟩ kv') := Fr.setCell _ _ _ rfl
  have off : ∀ {n : Nat} {u : Value} {xs : List Value}, w1.ownsRow base 3 1 u n xs → (w1.setCell ⟨g, j * 4 + 3, none⟩ kv').ownsRow base 3 1 u n xs := fun {n u xs} hu => own_fr hu hF fun b hb e => by
    rcases own_apart hu hrow1 (by decide) with e1 | e1
    · rw [e1] at hb; cases hb
    · rw [hb, e] at e1; exact e1 rfl
  have hset : (ns.modify j fun x => { x with kids := x.kids ++ [k] }) = ns.set j { x with kids := x.kids ++ [k] } := modify_set hx
  rw [hset]
  have hjl := (List.getElem?_eq_some_iff.1 hk).1
  have hjn := (List.getElem?_eq_some_iff.1 hx).1
  have fresh : ∀ (i : Nat) (ki : Value), kvs[i]? = some ki → i ≠ j → ki.ownBlock = none ∨ ki.ownBlock ≠ kv'.ownBlock := fun i ki hi hne => by
    rcases hat with e | e
    · rw [e]; exact h.apart i j ki kv hi hk hne
    · rw [e]
      cases hb : ki.ownBlock with
      | none => exact .inl rfl
      | some b =>
        right
        obtain ⟨y, hy⟩ := h.get hi
        have := (h.kids i y ki hy hi).lt b hb
        simp only [ne_eq, Option.some.injEq]; omega
  refine ⟨by simp [h.len], ?_, fun q y ky h1 h2 => ?_, fun i i' ki ki' h1 h2 hne => ?_, fun y hy => ?_⟩
  · rw [List.length_set, zip_set, ← flat_set (f := nodC) (m := 4) (c := 3) (u := kv') (fun _ => rfl) hz (by decide) rfl]
    exact hst.1
  · by_cases e : q = j
    · subst e
      rw [List.getElem?_set_self hjn] at h1
      rw [List.getElem?_set_self hjl] at h2
      simp only [Option.some.injEq] at h1 h2
      subst h1 h2
      rw [List.length_append, List.map_append]
      exact off hown
    · rw [List.getElem?_set_ne (fun e' => e e'.symm)] at h1 h2
      have hq := h.kids q y ky h1 h2
      exact off (hq.kept hg (h.apart q j ky kv h2 hk e))
  · by_cases e : i = j
    · subst e
      rw [List.getElem?_set_self hjl] at h1
      rw [List.getElem?_set_ne hne] at h2
      simp only [Option.some.injEq] at h1
      subst h1
      rcases fresh i' ki' h2 (fun e' => hne e'.symm) with e1 | e1
      · rw [e1]; cases kv'.ownBlock <;> simp
      · exact .inr (fun e2 => e1 e2.symm)
    · rw [List.getElem?_set_ne (fun e' => e e'.symm)] at h1
      by_cases e' : i' = j
      · subst e'
        rw [List.getElem?_set_self hjl] at h2
        simp only [Option.some.injEq] at h2
        subst h2
        exact fresh i ki h1 hne
      · rw [List.getElem?_set_ne (fun e2 => e' e2.symm)] at h2
        exact h.apart i i' ki ki' h1 h2 hne
  · rcases List.mem_or_eq_of_mem_set hy with hy | rfl
    · exact h.sizes y hy
    · exact h.sizes x (List.mem_of_getElem? hx)
end Go.Proofs.YtmdmbdbbpdojnaaGreatDoor
namespace Go.Proofs.YtmdmbdbbpdojnaaGreatDoor
open Go.RowKit Nam Pol
attribute [local go_sem] gv_of

set_option maxRecDepth 100000 in
set_option maxHeartbeats 2000000 in
theorem IndexFuncI_any (l : List Int) (p : Int → Bool) (g : Nat) (cb : Array Value) (a : Option Addr) (cap n : Nat) (w : World) (hn : l.length = n) (hnc : n ≤ cap) (hcm : cap ≤ maxLen) (hl : Ints w a l)
    (eg : ∀ args w, (callFunc g args).run Tryz.prog w = .ok (.enter g args) w) (hp : ∀ s ∈ l, ∀ w', Ext w w' → Calls Tryz.prog g (#[.int .i64 s] ++ cb) w' (Ret (.bool (p s)) w')) :
    Calls Tryz.prog 89 #[.slice a n cap, .func (.func g) #[] cb] w (Ret (.int .i64 (findI p l)) w) := by
  unfold maxLen at hcm
  have HN := Lib.hid hn; have HL := Lib.hid hl; have HP := Lib.hid hp
  clear hn hl hp
  go_enter Tryz.func89, Tryz.ntmps89
  go_wp2_with fail
  go_loopw [8] (fun i wr => ∃ k : Nat, k ≤ n ∧ i = .int .i64 k ∧ (∀ s ∈ l.take k, p s = false) ∧ Ext w wr) (fun i _ => n - (intOf i).toNat)
  case atStart => exact ⟨0, Nat.zero_le _, rfl, fun s h => (by simp at h), Below.refl _ _⟩
  case round =>
    obtain ⟨k, hk, rfl, hno, hE⟩ := hrel
    have HNO := Lib.hid hno; have HE := Lib.hid hE
    clear hno hE
    by_cases hlt : k < n
    · obtain ⟨s, hs⟩ := get_some HN.out hlt
      obtain ⟨b, off, rfl, d0⟩ := (HL.out.ext HE.out) k s hs
      unfold IntAt at d0
      rw [Nat.mul_one] at d0
      have HS := Lib.hid hs
      have HC := Lib.hid (HP.out s (List.mem_of_getElem? hs))
      have hkc : k ≤ cap := by omega
      clear hs
      cases hq : p s
      · have HQ := Lib.hid hq
        clear hq
        go_wp2_with (go_at_fn g; refine (HC.out _ HE.out).mono ?_; rintro e w1 ⟨rfl, hE1⟩; rw [HQ.out]; have HE1 := Lib.hid hE1; clear hE1)
        go_roundw
        case rel => exact ⟨k + 1, by omega, by go_num, fun s' hs' => by
          rw [take_snoc HS.out, List.mem_append, List.mem_singleton] at hs'
          rcases hs' with h | rfl
          · exact HNO.out s' h
          · exact HQ.out, ext_trans HE.out HE1.out⟩
        case measure => simp [intOf]; omega
      · have HQ := Lib.hid hq
        have HF := Lib.hid (findI_some HS.out hq HNO.out)
        clear hq
        go_wp2_with (go_at_fn g; refine (HC.out _ HE.out).mono ?_; rintro e w1 ⟨rfl, hE1⟩; rw [HQ.out]; have HE1 := Lib.hid hE1; clear hE1)
        go_ret
        exact ⟨ret_int HF.out.symm, ext_trans HE.out HE1.out⟩
    · obtain rfl : k = n := by omega
      have HF := Lib.hid (findI_none (p := p) (l := l) (by have := HNO.out; rwa [List.take_of_length_le (by rw [HN.out]; exact Nat.le_refl _)] at this))
      go_wp2_with fail
      go_ret
      exact ⟨ret_int HF.out.symm, HE.out⟩
/-- Is that kid the one with the label? -/
def Pol.kidP (ns : List Nod) (lab : ByteArray) (k : Int) : Bool := ((ns[k.toNat]?).map fun x => x.label.toList == lab.toList) == some true
theorem kidIn_find (ns : List Nod) (lab : ByteArray) : ∀ (ks : List Int), (kidIn ns lab ks = none ∧ findI (kidP ns lab) ks = -1) ∨ ∃ (j : Nat) (q : Int), kidIn ns lab ks = some q ∧ findI (kidP ns lab) ks = j ∧ ks[j]? = some q
  | [] => .inl ⟨rfl, rfl⟩
  | k :: ks => by
    cases hk : kidP ns lab k
    · have hki : kidIn ns lab (k :: ks) = kidIn ns lab ks := by
        unfold kidP at hk
        conv => lhs; unfold kidIn
        rw [hk]; rfl
      have hfi : findI (kidP ns lab) (k :: ks) = if findI (kidP ns lab) ks = -1 then -1 else findI (kidP ns lab) ks + 1 := by
        unfold findI
        rw [List.findIdx?_cons, hk]
        cases List.findIdx? (kidP ns lab) ks with
        | none => rfl
        | some i =>
          simp only [Bool.false_eq_true, if_false, Option.map_some]
          rw [if_neg (by omega)]; omega
      rcases kidIn_find ns lab ks with ⟨h1, h2⟩ | ⟨j, q, h1, h2, h3⟩
      · exact .inl ⟨by rw [hki, h1], by rw [hfi, h2]; rfl⟩
      · refine .inr ⟨j + 1, q, by rw [hki, h1], ?_, by simpa using h3⟩
        rw [hfi, h2, if_neg (by omega)]; omega
    · refine .inr ⟨0, k, ?_, ?_, rfl⟩
      · unfold kidP at hk
        conv => lhs; unfold kidIn
        rw [hk]; rfl
      · unfold findI
        rw [List.findIdx?_cons, hk]; rfl
set_option maxRecDepth 100000 in
set_option maxHeartbeats 2000000 in
theorem kid1_any (ns : List Nod) (lab : ByteArray) (a : Option Addr) (cap n bn bl k : Nat) (y : Nod) (w : World) (hn : ns.length = n) (hnc : n ≤ cap) (_hcm : cap ≤ maxLen) (hl : Nods w a ns) (hy : ns[k]? = some y) (h1 : Boxed w bn 43 (.slice a n cap)) (h2 : Boxed w bl 9 (.string lab)) :
    Calls Tryz.prog 90 #[.int .i64 (k : Int), .pointer (some ⟨bn, 0, none⟩), .pointer (some ⟨bl, 0, none⟩)] w (Ret (.bool (y.label.toList == lab.toList)) w) := by
  have hlt : k < n := by rw [← hn]; exact (List.getElem?_eq_some_iff.1 hy).1
  obtain ⟨b, off, rfl, d0, _⟩ := hl k y hy
  have c1 := h1.cell
  have c2 := h2.cell
  have hkc : k ≤ cap := by omega
  clear hn hl hy h1 h2
  go_enter Tryz.func90, Tryz.ntmps90
  go_wp2_with fail
  refine wp_region_S (by kernel_rfl) (by kernel_rfl) (by kernel_rfl) (by kernel_rfl) (by kernel_rfl) (fun w' => Ext w w') ((Fr.drew (fun _ => False) _).ext (fun _ _ h => h)) ?_
  repeat
    first
    | (refine steps_and rfl rfl rfl rfl ?_; simp only [Act.put, List.setIfInBounds_toArray, List.set_cons_succ, List.set_cons_zero])
    | (refine steps_or rfl rfl rfl rfl ?_; simp only [Act.put, List.setIfInBounds_toArray, List.set_cons_succ, List.set_cons_zero])
    | (refine steps_skip rfl ?_; simp only [Act.put, List.setIfInBounds_toArray, List.set_cons_succ, List.set_cons_zero])
    | (refine steps_guard_and rfl rfl rfl rfl rfl ?_; simp only [Act.put, List.setIfInBounds_toArray, List.set_cons_succ, List.set_cons_zero])
    | (refine steps_guard (v := ?_) rfl rfl (fun hb w' hS => ?_) ?_; rotate_left; (focus (have e0 := ext_cell d0 hS; have e1 := ext_cell c1 hS; have e2 := ext_cell c2 hS; unfold Gives; go_simp; first | exact is_mk hS)); simp only [Act.put, List.setIfInBounds_toArray, List.set_cons_succ, List.set_cons_zero])
    | (refine steps_guard2 (v := ?_) rfl rfl rfl (fun hb1 hb w' hS => ?_) ?_; rotate_left; (focus (have e0 := ext_cell d0 hS; have e1 := ext_cell c1 hS; have e2 := ext_cell c2 hS; unfold Gives; go_simp; first | exact is_mk hS)); simp only [Act.put, List.setIfInBounds_toArray, List.set_cons_succ, List.set_cons_zero])
    | (refine steps_run (v := ?_) rfl (fun w' hS => ?_) ?_; rotate_left; (focus (have e0 := ext_cell d0 hS; have e1 := ext_cell c1 hS; have e2 := ext_cell c2 hS; unfold Gives; go_simp; first | exact is_mk hS)); simp only [Act.put, List.setIfInBounds_toArray, List.set_cons_succ, List.set_cons_zero])
  refine steps_end fun w' hE' => ?_
  go_wp2_with fail
  go_ret
  exact ⟨rfl, hE'⟩
set_option maxRecDepth 100000 in
set_option maxHeartbeats 2000000 in
theorem kid_any (ns : List Nod) (lab : ByteArray) (a : Option Addr) (cap n i : Nat) (x : Nod) (w : World) (hn : ns.length = n) (hnc : n ≤ cap) (hcm : cap ≤ maxLen) (hl : Nods w a ns) (hx : ns[i]? = some x) (hk : kidsIn ns x.kids) :
    Calls Tryz.prog 57 #[.slice a n cap, .int .i64 (i : Int), .string lab] w (Ret (.tuple #[.int .i64 ((kidIn ns lab x.kids).getD 0), .bool (kidIn ns lab x.kids).isSome]) w) := by
  have hlt : i < n := by rw [← hn]; exact (List.getElem?_eq_some_iff.1 hx).1
  have HN := Lib.hid hn; have HNC := Lib.hid hnc; have HCM := Lib.hid hcm; have HL := Lib.hid hl; have HK := Lib.hid hk
  obtain ⟨b, off, rfl, _, _, _, ⟨pa, pc, d3, l1, l2, hps⟩, _⟩ := hl i x hx
  have HPS := Lib.hid hps
  have L1 := Lib.hid l1; have L2 := Lib.hid l2
  obtain ⟨m, hm⟩ : ∃ m, x.kids.length = m := ⟨_, rfl⟩
  have HM := Lib.hid hm
  rw [hm] at d3
  have hic : i ≤ cap := by omega
  unfold maxLen at hcm
  clear hn hnc hl hx hk hps hm l1 l2
  have HF := Lib.hid (kidIn_find ns lab x.kids)
  obtain ⟨W0, hW0⟩ : ∃ W0, (w.alloc (Obj.cells #[.slice (some ⟨b, off, none⟩) n cap] 43)).alloc (Obj.cells #[.string lab] 9) = W0 := ⟨_, rfl⟩
  have hE0 : Ext w W0 := by rw [← hW0]; exact ext_alloc (ext_alloc (Below.refl _ _) _) _
  have b1 : Boxed W0 w.heap.size 43 (.slice (some ⟨b, off, none⟩) n cap) := by rw [← hW0]; exact (Boxed.new _ _ _).alloc _
  have b2 : Boxed W0 (w.heap.size + 1) 9 (.string lab) := by rw [← hW0]; have := Boxed.new (w.alloc (Obj.cells #[.slice (some ⟨b, off, none⟩) n cap] 43)) 9 (.string lab); rwa [World.size_alloc] at this
  have HIF := Lib.hid (IndexFuncI_any x.kids (kidP ns lab) 90 #[.pointer (some ⟨w.heap.size, 0, none⟩), .pointer (some ⟨w.heap.size + 1, 0, none⟩)] pa pc m W0 HM.out (by rw [← HM.out]; exact L1.out) L2.out (HPS.out.ext hE0)
    (enters_of Tryz.func90 (by kernel_rfl) rfl) (fun q hq w' hE => by
      obtain ⟨h0, h1⟩ := HK.out q hq
      obtain ⟨y, hy⟩ := get_some (l := ns) rfl h1
      have e : kidP ns lab q = (y.label.toList == lab.toList) := by
        unfold kidP
        rw [hy, Option.map_some]
        generalize (y.label.toList == lab.toList) = t
        cases t <;> rfl
      rw [e, show q = ((q.toNat : Nat) : Int) by omega]
      exact kid1_any ns lab _ cap n _ _ q.toNat y w' HN.out HNC.out HCM.out (HL.out.ext (ext_trans hE0 hE)) hy (ext_boxed hE b1) (ext_boxed hE b2)))
  have HB1 := Lib.hid b1; have HE0 := Lib.hid hE0; have HW := Lib.hid hW0
  replace d3 := ext_cell d3 hE0
  have k1 := b1.cell
  clear hW0 hE0 b1 b2
  rcases HF.out with ⟨h1, h2⟩ | ⟨j, q, h1, h2, h3⟩
  · have H1 := Lib.hid h1; have H2 := Lib.hid h2
    clear h1 h2
    go_enter Tryz.func57, Tryz.ntmps57
    go_upto_region 1 with (fail)
    rw [HW.out]
    go_wp2_with (go_at_call 89; refine HIF.out.mono ?_; rintro e w1 ⟨rfl, hE1⟩; rw [H2.out]; have HE1 := Lib.hid hE1; clear hE1)
    go_ret2
    exact ⟨by rw [H1.out]; rfl, ext_trans HE0.out HE1.out⟩
  · have hj : j < m := by rw [← HM.out]; exact (List.getElem?_eq_some_iff.1 h3).1
    have hjc : j ≤ pc := by have := L1.out; rw [HM.out] at this; omega
    obtain ⟨b3, off3, rfl, e3⟩ := (HPS.out.ext HE0.out) j q h3
    unfold IntAt at e3
    rw [Nat.mul_one] at e3
    have H1 := Lib.hid h1; have H2 := Lib.hid h2
    clear h1 h2 h3
    go_enter Tryz.func57, Tryz.ntmps57
    go_upto_region 1 with (fail)
    rw [HW.out]
    go_wp2_with (go_at_call 89; refine HIF.out.mono ?_; rintro e w1 ⟨rfl, hE1⟩; rw [H2.out]; have k2 := ext_cell k1 hE1; have d4 := ext_cell d3 hE1; have e4 := ext_cell e3 hE1; have HE1 := Lib.hid hE1; clear hE1)
    go_ret2
    exact ⟨by rw [H1.out]; rfl, ext_trans HE0.out HE1.out⟩
end Go.Proofs.YtmdmbdbbpdojnaaGreatDoor
namespace Go.Proofs.YtmdmbdbbpdojnaaGreatDoor
open Go.RowKit Nam

theorem indexB_dot (s : ByteArray) : Lib.indexB s ⟨#[46]⟩ = Lib.indexByte s.data.toList 46 := Lib.index_one s.data.toList 46
theorem splitB_cut : ∀ (n : Nat) (s : ByteArray), Lib.countByte s.data.toList 46 = n → Lib.splitB ⟨#[46]⟩ 0 n s = (cut s.data.toList).map fun x => ⟨x.toArray⟩
  | 0, s, h => by
    have hc := cut_length s.data.toList
    rw [h] at hc
    have hi : Lib.indexByte s.data.toList 46 = -1 := by
      by_cases hp : 0 ≤ Lib.indexByte s.data.toList 46
      · obtain ⟨i, hi⟩ := Int.eq_ofNat_of_zero_le hp
        rw [cut_some _ i hi] at hc
        have := cut_ne (s.data.toList.drop (i + 1))
        simp at hc; exact absurd hc this
      · have := Lib.indexByte_ge s.data.toList 46; omega
    rw [Lib.splitB_zero, cut_none _ hi]
    simp
  | n + 1, s, h => by
    have hc := cut_length s.data.toList
    rw [h] at hc
    by_cases hp : 0 ≤ Lib.indexByte s.data.toList 46
    · obtain ⟨i, hi⟩ := Int.eq_ofNat_of_zero_le hp
      have hcut := cut_some _ i hi
      rw [hcut] at hc
      have hd : (s.extract (i + 1) s.size).data.toList = s.data.toList.drop (i + 1) := by rw [drop_eq]
      have hcnt : Lib.countByte (s.extract (i + 1) s.size).data.toList 46 = n := by
        have := cut_length (s.data.toList.drop (i + 1))
        rw [hd]; simp at hc; omega
      unfold Lib.splitB
      rw [indexB_dot, hi, if_neg (by simp), hcut, List.map_cons]
      have ih := splitB_cut n _ hcnt
      rw [hd] at ih
      rw [← ih, ← take_eq]
      rfl
    · have hi : Lib.indexByte s.data.toList 46 = -1 := by have := Lib.indexByte_ge s.data.toList 46; omega
      rw [cut_none _ hi] at hc
      simp at hc
theorem countB_dot (s : ByteArray) : Lib.countB s ⟨#[46]⟩ = Lib.countByte s.data.toList 46 := Lib.count_one 46 s.data.toList
theorem Split_dot (s : ByteArray) (w : World) (hw : Env w) (hs : s.size ≤ 1000) :
    Calls Tryz.prog 121 #[.string s, .string ⟨#[46]⟩] w (RetSl ((cut s.data.toList).map strV) w) := by
  obtain ⟨m, hm⟩ := hw
  refine (Tryz.strings_Split s ⟨#[46]⟩ m w (by omega) hm (by decide)).mono fun e w' ⟨h1, h2⟩ => ?_
  have hv : (Lib.splitB ⟨#[46]⟩ 0 (Lib.countB s ⟨#[46]⟩) s).map Value.string = (cut s.data.toList).map strV := by
    rw [countB_dot, splitB_cut _ s rfl, List.map_map]; rfl
  rw [hv] at h2
  have hl : ((cut s.data.toList).map strV).length = Lib.countB s ⟨#[46]⟩ + 1 := by rw [List.length_map, cut_length, countB_dot]
  refine ⟨_, h1, .inr ⟨w.heap.size, 0, _, by rw [hl], by rw [hl]; exact Nat.le_refl _, ?_, ?_⟩, ?_⟩
  · have := Lib.countB_le ⟨#[46]⟩ (by decide) _ s (Nat.le_refl _)
    unfold maxLen; omega
  · rw [h2]; intro i x hx
    simp [go_sem]; simpa using hx
  · rw [h2]; exact (Below.refl _ _).alloc (Nat.le_refl _) _
set_option maxHeartbeats 400000 in
theorem Labels_any (s : ByteArray) (w : World) (hs : s.size ≤ 9223372036854775807) (hw : Env w) :
    Calls Tryz.prog 88 #[.string s] w (RetSl ((if isB s.data.toList then cut s.data.toList else []).map strV) w) := by
  have HW := Lib.hid hw; clear hw
  cases hb : isB s.data.toList
  · have HB := Lib.hid hb; clear hb
    go_enter Tryz.func88, Tryz.ntmps88
    go_wp2_with (go_at_call 67; refine (is_any s _ hs).mono ?_; rintro e w' ⟨rfl, hE⟩; rw [HB.out])
    go_ret
    exact ⟨_, rfl, Sl.nil _, hE⟩
  · have h64 : s.size ≤ 1000 := by have := (isB_iff.1 hb).1; rw [Lib.size_eq]; omega
    have HB := Lib.hid hb; clear hb
    go_enter Tryz.func88, Tryz.ntmps88
    go_wp2_with (first | (go_at_call 67; refine (is_any s _ hs).mono ?_; rintro e w' ⟨rfl, hE⟩; rw [HB.out]) | (go_at_call 121; refine (Split_dot s _ (HW.out.ext hE) h64).mono ?_; rintro e w2 ⟨v, rfl, hv, hE2⟩; have HV := Lib.hid hv; clear hv))
    go_ret
    exact ⟨v, rfl, HV.out, ext_trans hE hE2⟩
end Go.Proofs.YtmdmbdbbpdojnaaGreatDoor
namespace Go.Proofs.YtmdmbdbbpdojnaaGreatDoor
open Go.RowKit Nam Pol

/-- A row of texts of the call's own is handed back. -/
def RetOwnS (l : List Value) (w : World) (e : Ending) (w' : World) : Prop := ∃ v, e = .returned v ∧ w'.ownsRow w.heap.size 9 1 v l.length l ∧ Ext w w'
theorem own_base {w : World} {base base' : Nat} {e : TypeId} {m n : Nat} {v : Value} {xs : List Value} (h : w.ownsRow base e m v n xs) (hb : base' ≤ base) : w.ownsRow base' e m v n xs := by
  obtain ⟨h1, h2⟩ := h
  refine ⟨h1, ?_⟩
  rcases h2 with h2 | ⟨g, cap, cur, h2, h3, h4⟩
  · exact .inl h2
  · exact .inr ⟨g, cap, cur, h2, Nat.le_trans hb h3, h4⟩
set_option maxHeartbeats 1000000 in
theorem rcut_own (s : ByteArray) (w : World) (hs : s.size ≤ 1000) :
    Calls Tryz.prog 81 #[.string s] w (RetOwnS ((cut s.data.toList).map strV) w) := by
  obtain ⟨i0, hi, hz0, hz1, hz2⟩ := info_parts Tryz.infoStr
  go_enter Tryz.func81, Tryz.ntmps81
  go_wp2
  go_loopw [3, 4, 5] (fun o fr i wr => CutRel s w.heap.size w o fr i wr) (fun _ _ i _ => s.size - (intOf i).toNat)
  case atStart => exact ⟨0, 0, [], Nat.zero_le _, rfl, rfl, CutAt.start _, Nat.le_refl _, World.ownsRow_nil _ _ _ _, Below.refl _ _⟩
  case round =>
    obtain ⟨k, f, outs, hk, rfl, rfl, hcut, hol, hown, hE⟩ := hrel
    have hf := hcut.le
    have HC := Lib.hid hcut; clear hcut
    have hsz := hE.size
    by_cases hlt : k < s.size
    · by_cases hdot : s[k] = 46
      · have hb : ((s[k].toNat : Int) == 46) = true := by rw [hdot]; rfl
        have hnext := HC.out.hit (by rw [Lib.data_getElem? s k hlt, hdot])
        have HN := Lib.hid hnext; clear hnext
        have HD := Lib.hid hdot; clear hdot
        go_wp2_with (at_builtin; refine wpList_append_own _ rfl _ _ 23 rfl w.heap.size 9 i0 (.string ⟨#[]⟩) 1 16 Tryz.underlying23 hi hz0 hz1 hz2 rfl (by decide) u3 _ _ rfl (hown.alloc _) ⟨wr.heap.size, 0, none⟩ 1 1 [.string (s.extract f k)] rfl rfl (one_cell_new _ _ _) (by simp [Value.oneCell']) (by unfold maxLen; omega) (by omega) (by simp; omega) ?_; intro v' w1 hown1 hgrow1 _)
        go_roundw
        case rel =>
          refine ⟨k + 1, k + 1, _, by omega, by go_num, by go_num, HN.out, by simp; omega, ?_, (hE.alloc hsz _).grown hgrow1 (by simp; omega) (own_ge hown)⟩
          rw [List.map_append, List.length_append]
          simp only [List.map_cons, List.map_nil, strV, List.length_singleton]
          rw [← piece_eq]; exact hown1
        case measure => simp [intOf]; omega
      · have hb : ((s[k].toNat : Int) == 46) = false := by
          rw [beq_eq_false_iff_ne]; intro h; exact hdot (Lib.byte_eq_of_toNat (by rw [h]; rfl))
        have hnext := HC.out.next (by rw [Lib.data_getElem? s k hlt]; simpa using hdot)
        have HN := Lib.hid hnext; clear hnext
        have HD := Lib.hid hdot; clear hdot
        go_wp2
        go_roundw
        case rel => exact ⟨k + 1, f, outs, by omega, by go_num, rfl, HN.out, by omega, hown, hE⟩
        case measure => simp [intOf]; omega
    · have hfin := HC.out.stop (by rw [← Lib.size_eq]; omega)
      have HFin := Lib.hid hfin; clear hfin
      go_wp2_with (at_builtin; refine wpList_append_own _ rfl _ _ 23 rfl w.heap.size 9 i0 (.string ⟨#[]⟩) 1 16 Tryz.underlying23 hi hz0 hz1 hz2 rfl (by decide) u3 _ _ rfl (hown.alloc _) ⟨wr.heap.size, 0, none⟩ 1 1 [.string (s.extract f s.size)] rfl rfl (one_cell_new _ _ _) (by simp [Value.oneCell']) (by unfold maxLen; omega) (by omega) (by simp; omega) ?_; intro v' w1 hown1 hgrow1 _)
      go_ret
      refine ⟨v', rfl, ?_, (hE.alloc hsz _).grown hgrow1 (by simp; omega) (own_ge hown)⟩
      rw [HFin.out, List.map_append, List.length_append, List.length_map]
      simp only [List.map_cons, List.map_nil, strV, List.length_singleton]
      rw [← drop_eq]; exact hown1
set_option maxHeartbeats 400000 in
theorem rLabels_own (s : ByteArray) (w : World) (hs : s.size ≤ 9223372036854775807) :
    Calls Tryz.prog 92 #[.string s] w (RetOwnS ((if isB s.data.toList then cut s.data.toList else []).map strV) w) := by
  cases hb : isB s.data.toList
  · have HB := Lib.hid hb; clear hb
    go_enter Tryz.func92, Tryz.ntmps92
    go_wp2_with (go_at_call 53; refine (rName_any s _ hs).mono ?_; rintro e w' ⟨rfl, hE⟩; rw [HB.out])
    go_ret
    exact ⟨_, rfl, World.ownsRow_nil _ _ _ _, hE⟩
  · have h64 : s.size ≤ 1000 := by have := (isB_iff.1 hb).1; rw [Lib.size_eq]; omega
    have HB := Lib.hid hb; clear hb
    go_enter Tryz.func92, Tryz.ntmps92
    go_wp2_with (first | (go_at_call 53; refine (rName_any s _ hs).mono ?_; rintro e w' ⟨rfl, hE⟩; rw [HB.out]) | (go_at_call 81; refine (rcut_own s _ h64).mono ?_; rintro e w2 ⟨v, rfl, hv, hE2⟩; have HV := Lib.hid hv; clear hv))
    go_ret
    exact ⟨v, rfl, own_base HV.out hE.size, ext_trans hE hE2⟩
theorem Split_own (s : ByteArray) (w : World) (hw : Env w) (hs : s.size ≤ 1000) :
    Calls Tryz.prog 121 #[.string s, .string ⟨#[46]⟩] w (RetOwnS ((cut s.data.toList).map strV) w) := by
  obtain ⟨m, hm⟩ := hw
  refine (Tryz.strings_Split s ⟨#[46]⟩ m w (by omega) hm (by decide)).mono fun e w' ⟨h1, h2⟩ => ?_
  have hv : (Lib.splitB ⟨#[46]⟩ 0 (Lib.countB s ⟨#[46]⟩) s).map Value.string = (cut s.data.toList).map strV := by
    rw [countB_dot, splitB_cut _ s rfl, List.map_map]; rfl
  rw [hv] at h2
  have hl : ((cut s.data.toList).map strV).length = Lib.countB s ⟨#[46]⟩ + 1 := by rw [List.length_map, cut_length, countB_dot]
  refine ⟨_, h1, ?_, by rw [h2]; exact (Below.refl _ _).alloc (Nat.le_refl _) _⟩
  have hm : Lib.countB s ⟨#[46]⟩ + 1 ≤ maxLen := by
    have := Lib.countB_le ⟨#[46]⟩ (by decide) _ s (Nat.le_refl _)
    unfold maxLen; omega
  rw [h2, hl]
  have := World.ownsRow_lit (base := w.heap.size) (e := 9) (size := 1) w ((cut s.data.toList).map strV).toArray (Lib.countB s ⟨#[46]⟩ + 1) (Nat.le_refl _) hm (by rw [List.size_toArray, hl, Nat.mul_one])
  simpa using this
set_option maxHeartbeats 400000 in
theorem Labels_own (s : ByteArray) (w : World) (hs : s.size ≤ 9223372036854775807) (hw : Env w) :
    Calls Tryz.prog 88 #[.string s] w (RetOwnS ((if isB s.data.toList then cut s.data.toList else []).map strV) w) := by
  have HW := Lib.hid hw; clear hw
  cases hb : isB s.data.toList
  · have HB := Lib.hid hb; clear hb
    go_enter Tryz.func88, Tryz.ntmps88
    go_wp2_with (go_at_call 67; refine (is_any s _ hs).mono ?_; rintro e w' ⟨rfl, hE⟩; rw [HB.out])
    go_ret
    exact ⟨_, rfl, World.ownsRow_nil _ _ _ _, hE⟩
  · have h64 : s.size ≤ 1000 := by have := (isB_iff.1 hb).1; rw [Lib.size_eq]; omega
    have HB := Lib.hid hb; clear hb
    go_enter Tryz.func88, Tryz.ntmps88
    go_wp2_with (first | (go_at_call 67; refine (is_any s _ hs).mono ?_; rintro e w' ⟨rfl, hE⟩; rw [HB.out]) | (go_at_call 121; refine (Split_own s _ (HW.out.ext hE) h64).mono ?_; rintro e w2 ⟨v, rfl, hv, hE2⟩; have HV := Lib.hid hv; clear hv))
    go_ret
    exact ⟨v, rfl, own_base HV.out hE.size, ext_trans hE hE2⟩
end Go.Proofs.YtmdmbdbbpdojnaaGreatDoor
