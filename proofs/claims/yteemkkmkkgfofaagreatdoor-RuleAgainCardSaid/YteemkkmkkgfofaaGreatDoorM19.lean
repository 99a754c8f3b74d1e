/- Walks of the document's functions on policies: Decides. Verdicts; walks of SameVerdict and of the statements' few. Walks of the document's functions on policies: Bare. Rows of the call's own whose elements stand for typed ones: the cells of an element stand for it wherever they are put, in any later world. No program of its own. For the walk of Parse: the rules that have been read, as they lie in memory. -/
import Derived.Test.YteemkkmkkgfofaaGreatDoorM18
import Derived.Test.YteemkkmkkgfofaaGreatDoorM17
import Derived.Test.YteemkkmkkgfofaaGreatDoorM14
import Derived.Test.YteemkkmkkgfofaaGreatDoorM16
namespace Go.Proofs.YteemkkmkkgfofaaGreatDoor
open Go.RowKit Nam Pol
attribute [local go_sem] gv_of

theorem foldl_take_snoc {α β : Type} {l : List α} {k : Nat} {x : α} (h : l[k]? = some x) (f : β → α → β) (s : β) : (l.take (k + 1)).foldl f s = f ((l.take k).foldl f s) x := by
  rw [List.take_add_one, h]; simp
theorem dUpTo_succ {nm : ByteArray} {l : List Rul} {k : Nat} {r : Rul} (h : l[k]? = some r) : dUpTo nm l (k + 1) = r.pats.foldl (dStep nm k) (dUpTo nm l k) := by
  rw [dUpTo, h]
end Go.Proofs.YteemkkmkkgfofaaGreatDoor
namespace Go.Proofs.YteemkkmkkgfofaaGreatDoor
open Go.RowKit Nam Pol
attribute [local go_sem] gv_of

def verV (v : Ver) (a : Option Addr) (c : Nat) : Value := .agg #[.bool v.allow, .int .i64 v.at', .slice a v.by'.length c]
end Go.Proofs.YteemkkmkkgfofaaGreatDoor
namespace Go.Proofs.YteemkkmkkgfofaaGreatDoor
open Go.RowKit Nam Pol
attribute [local go_sem] gv_of

theorem own_ext {w w' : World} {base : Nat} {e : TypeId} {size : Nat} {v : Value} {n : Nat} {xs : List Value} (h : w.ownsRow base e size v n xs) (hE : Ext w w') : w'.ownsRow base e size v n xs := by
  obtain ⟨h1, h2⟩ := h
  refine ⟨h1, ?_⟩
  rcases h2 with h2 | ⟨g, cap, cur, h2, h3, h4, h5⟩
  · exact .inl h2
  · exact .inr ⟨g, cap, cur, h2, h3, (hE.block g (Array.getElem?_eq_some_iff.1 h4).1).trans h4, h5⟩
/-- Is a name bare? -/
def Pol.bareB (l : List Rul) (s : ByteArray) : Bool := nmB s && decide (decidesB l s < 0)
theorem filter_take_snoc {α : Type} {l : List α} {k : Nat} {x : α} (h : l[k]? = some x) (f : α → Bool) : (l.take (k + 1)).filter f = (l.take k).filter f ++ (if f x then [x] else []) := by
  rw [List.take_add_one, h]; simp [List.filter_cons]
theorem filter_take_le {α : Type} (l : List α) (k : Nat) (f : α → Bool) : ((l.take k).filter f).length ≤ k := Nat.le_trans (List.length_filter_le _ _) (by rw [List.length_take]; omega)
end Go.Proofs.YteemkkmkkgfofaaGreatDoor
namespace Go.Proofs.YteemkkmkkgfofaaGreatDoor
open Go.RowKit Nam Pol Go.Maps
/-- The cells cs stand for x, wherever they are put in a world that is later than W. -/
def ElC {α : Type} (m : Nat) (R : ElR α) (W : World) (cs : List Value) (x : α) : Prop :=
  cs.length = m ∧ (∀ c ∈ cs, c.oneCell' = true) ∧ ∀ (w' : World) (b o : Nat), Ext W w' → (∀ (j : Nat) (u : Value), cs[j]? = some u → w'.cell? ⟨b, o + j, none⟩ = some u) → R w' b o x
theorem ElC.ext {α : Type} {m : Nat} {R : ElR α} {W W' : World} {cs : List Value} {x : α} (h : ElC m R W cs x) (hE : Ext W W') : ElC m R W' cs x :=
  ⟨h.1, h.2.1, fun w' b o hE' hc => h.2.2 w' b o (ext_trans hE hE') hc⟩
/-- Slice value v is a row of the call's own (from block base on) that stands for the list l. -/
def OwnL {α : Type} (W : World) (base : Nat) (T : TypeId) (m : Nat) (R : ElR α) (w : World) (v : Value) (l : List α) : Prop :=
  ∃ css : List (List Value), css.length = l.length ∧ (∀ (i : Nat) (cs : List Value) (x : α), css[i]? = some cs → l[i]? = some x → ElC m R W cs x) ∧ w.ownsRow base T m v l.length css.flatten
theorem OwnL.nil {α : Type} {W w : World} {base : Nat} {T : TypeId} {m : Nat} {R : ElR α} : OwnL W base T m R w (.slice none 0 0) ([] : List α) :=
  ⟨[], rfl, fun i cs x h => by simp at h, World.ownsRow_nil _ _ _ _⟩
theorem OwnL.ext {α : Type} {W w w' : World} {base : Nat} {T : TypeId} {m : Nat} {R : ElR α} {v : Value} {l : List α} (h : OwnL W base T m R w v l) (hE : Ext w w') : OwnL W base T m R w' v l := by
  obtain ⟨css, h1, h2, h3⟩ := h
  exact ⟨css, h1, h2, own_ext h3 hE⟩
theorem flatten_snoc {β : Type} (css : List (List β)) (cs : List β) : (css ++ [cs]).flatten = css.flatten ++ cs := by simp
theorem own_snoc {α : Type} {W w1 : World} {base : Nat} {T : TypeId} {m : Nat} {R : ElR α} {v' : Value} {l : List α} {css : List (List Value)} {cs : List Value} {x : α}
    (h1 : css.length = l.length) (h2 : ∀ (i : Nat) (cs : List Value) (x : α), css[i]? = some cs → l[i]? = some x → ElC m R W cs x) (hx : ElC m R W cs x) (hown : w1.ownsRow base T m v' (l.length + 1) (css.flatten ++ cs)) : OwnL W base T m R w1 v' (l ++ [x]) := by
  refine ⟨css ++ [cs], by simp [h1], fun i c y hc hy => ?_, by rw [flatten_snoc, List.length_append]; exact hown⟩
  by_cases hi : i < l.length
  · rw [List.getElem?_append_left (by omega)] at hc
    rw [List.getElem?_append_left hi] at hy
    exact h2 i c y hc hy
  · rw [List.getElem?_append_right (by omega)] at hc
    rw [List.getElem?_append_right (by omega)] at hy
    obtain ⟨hi', rfl⟩ := List.getElem?_eq_some_iff.1 hc
    obtain ⟨_, rfl⟩ := List.getElem?_eq_some_iff.1 hy
    simpa using hx
theorem flatten_get {β : Type} {m : Nat} : ∀ {css : List (List β)} {i j : Nat} {cs : List β}, (∀ c ∈ css, c.length = m) → css[i]? = some cs → j < m → css.flatten[i * m + j]? = cs[j]?
  | [], i, j, cs, _, h, _ => by simp at h
  | c :: css, 0, j, cs, hm, h, hj => by
    simp at h
    subst h
    rw [List.flatten_cons, Nat.zero_mul, Nat.zero_add, List.getElem?_append_left (by rw [hm _ (List.mem_cons_self ..)]; exact hj)]
  | c :: css, i + 1, j, cs, hm, h, hj => by
    have h' : css[i]? = some cs := by simpa using h
    have hc := hm c (List.mem_cons_self ..)
    rw [List.flatten_cons, List.getElem?_append_right (by rw [hc, Nat.succ_mul]; omega), show (i + 1) * m + j - c.length = i * m + j by rw [hc, Nat.succ_mul]; omega]
    exact flatten_get (fun c hc => hm c (List.mem_cons_of_mem _ hc)) h' hj
theorem OwnL.slv {α : Type} {W w : World} {base : Nat} {T : TypeId} {m : Nat} {R : ElR α} {v : Value} {l : List α} (h : OwnL W base T m R w v l) (hE : Ext W w) : SlV m R w v l := by
  obtain ⟨css, h1, h2, hown⟩ := h
  rcases own_form hown with ⟨rfl, h0, _⟩ | ⟨g, cap, hv, hg, _, _, hc, hcm⟩
  · have hl : l = [] := List.eq_nil_of_length_eq_zero h0
    subst hl
    exact ⟨none, 0, rfl, Nat.le_refl _, Nat.zero_le _, SlA.nil _ _ _ _⟩
  · refine ⟨some ⟨g, 0, none⟩, cap, hv, hc, hcm, fun i x hx => ⟨g, 0, rfl, ?_⟩⟩
    obtain ⟨cs, hcs⟩ := get_some h1 (List.getElem?_eq_some_iff.1 hx).1
    have hm : ∀ c ∈ css, c.length = m := fun c hc => by
      obtain ⟨k, hk⟩ := List.getElem?_of_mem hc
      obtain ⟨y, hy⟩ := get_some h1.symm (List.getElem?_eq_some_iff.1 hk).1
      exact (h2 k c y hk hy).1
    refine (h2 i cs x hcs hx).2.2 w _ _ hE fun j u hu => ?_
    have hj : j < m := by rw [← hm cs (List.mem_of_getElem? hcs)]; exact (List.getElem?_eq_some_iff.1 hu).1
    rw [Nat.zero_add]
    exact own_cell hown hg (by rw [flatten_get hm hcs hj]; exact hu)
/-- The same, by any word E on an element's cells (which may tell their form). -/
def OwnP {α : Type} (base : Nat) (T : TypeId) (m : Nat) (E : List Value → α → Prop) (w : World) (v : Value) (l : List α) : Prop :=
  ∃ css : List (List Value), css.length = l.length ∧ (∀ (i : Nat) (cs : List Value) (x : α), css[i]? = some cs → l[i]? = some x → cs.length = m ∧ E cs x) ∧ w.ownsRow base T m v l.length css.flatten
theorem OwnP.ext {α : Type} {w w' : World} {base : Nat} {T : TypeId} {m : Nat} {E : List Value → α → Prop} {v : Value} {l : List α} (h : OwnP base T m E w v l) (hE : Ext w w') : OwnP base T m E w' v l := by
  obtain ⟨css, h1, h2, h3⟩ := h
  exact ⟨css, h1, h2, own_ext h3 hE⟩
theorem OwnP.toL {α : Type} {W w : World} {base : Nat} {T : TypeId} {m : Nat} {R : ElR α} {E : List Value → α → Prop} {v : Value} {l : List α} (h : OwnP base T m E w v l) (hE : ∀ cs x, cs.length = m → E cs x → ElC m R W cs x) : OwnL W base T m R w v l := by
  obtain ⟨css, h1, h2, h3⟩ := h
  exact ⟨css, h1, fun i cs x hc hx => hE cs x (h2 i cs x hc hx).1 (h2 i cs x hc hx).2, h3⟩
theorem flatten_set {β : Type} {m : Nat} {u : β} : ∀ {css : List (List β)} {i j : Nat} {cs : List β}, (∀ c ∈ css, c.length = m) → css[i]? = some cs → j < m → css.flatten.set (i * m + j) u = (css.set i (cs.set j u)).flatten
  | [], i, j, cs, _, h, _ => by simp at h
  | c :: css, 0, j, cs, hm, h, hj => by
    simp at h
    subst h
    rw [List.flatten_cons, Nat.zero_mul, Nat.zero_add, List.set_append_left _ _ (by rw [hm _ (List.mem_cons_self ..)]; exact hj), List.set_cons_zero, List.flatten_cons]
  | c :: css, i + 1, j, cs, hm, h, hj => by
    have h' : css[i]? = some cs := by simpa using h
    have hc := hm c (List.mem_cons_self ..)
    rw [List.flatten_cons, List.set_append_right _ _ (by rw [hc, Nat.succ_mul]; omega), List.set_cons_succ, List.flatten_cons, show (i + 1) * m + j - c.length = i * m + j by rw [hc, Nat.succ_mul]; omega]
    rw [flatten_set (fun c hc => hm c (List.mem_cons_of_mem _ hc)) h' hj]
theorem OwnP.set {α : Type} {w : World} {base : Nat} {T : TypeId} {m g cap k : Nat} {E : List Value → α → Prop} {v : Value} {l : List α} {x : α} (h : OwnP base T m E w v l) (hv : v = .slice (some ⟨g, 0, none⟩) l.length cap) (hx : l[k]? = some x)
    (j : Nat) (u : Value) (y : α) (hj : j < m) (hy : ∀ cs, E cs x → E (cs.set j u) y) : OwnP base T m E (w.setCell ⟨g, k * m + j, none⟩ u) v (l.set k y) := by
  obtain ⟨css, h1, h2, hown⟩ := h
  obtain ⟨cs, hcs⟩ := get_some h1 (List.getElem?_eq_some_iff.1 hx).1
  have hm : ∀ c ∈ css, c.length = m := fun c hc => by
    obtain ⟨i, hi⟩ := List.getElem?_of_mem hc
    obtain ⟨z, hz⟩ := get_some h1.symm (List.getElem?_eq_some_iff.1 hi).1
    exact (h2 i c z hi hz).1
  subst hv
  have hst := (hown.stored (k * m + j) u).1
  refine ⟨css.set k (cs.set j u), by simp [h1], fun i c z hc hz => ?_, by rw [List.length_set, ← flatten_set hm hcs hj]; exact hst⟩
  by_cases hi : i = k
  · subst hi
    rw [List.getElem?_set_self (List.getElem?_eq_some_iff.1 hcs).1] at hc
    rw [List.getElem?_set_self (List.getElem?_eq_some_iff.1 hx).1] at hz
    cases hc; cases hz
    exact ⟨by rw [List.length_set]; exact (h2 _ _ _ hcs hx).1, hy cs (h2 _ _ _ hcs hx).2⟩
  · rw [List.getElem?_set_ne (fun e => hi e.symm)] at hc hz
    exact h2 i c z hc hz
theorem OwnP.cell {α : Type} {w : World} {base : Nat} {T : TypeId} {m g cap k : Nat} {E : List Value → α → Prop} {v : Value} {l : List α} {x : α} (h : OwnP base T m E w v l) (hv : v = .slice (some ⟨g, 0, none⟩) l.length cap) (hx : l[k]? = some x) :
    ∃ cs, cs.length = m ∧ E cs x ∧ ∀ (j : Nat) (u : Value), j < m → cs[j]? = some u → w.cell? ⟨g, k * m + j, none⟩ = some u := by
  obtain ⟨css, h1, h2, hown⟩ := h
  obtain ⟨cs, hcs⟩ := get_some h1 (List.getElem?_eq_some_iff.1 hx).1
  have hm : ∀ c ∈ css, c.length = m := fun c hc => by
    obtain ⟨i, hi⟩ := List.getElem?_of_mem hc
    obtain ⟨z, hz⟩ := get_some h1.symm (List.getElem?_eq_some_iff.1 hi).1
    exact (h2 i c z hi hz).1
  exact ⟨cs, (h2 _ _ _ hcs hx).1, (h2 _ _ _ hcs hx).2, fun j u hj hu => own_cell hown (by rw [hv]; rfl) (by rw [flatten_get hm hcs hj]; exact hu)⟩
/-- The elements of a typed slice, as cells. -/
theorem sl_css {α : Type} {m : Nat} {R : ElR α} {W : World} (hcs : ∀ b o x, R W b o x → ∃ cs, ElC m R W cs x ∧ ∀ (j : Nat) (u : Value), cs[j]? = some u → W.cell? ⟨b, o + j, none⟩ = some u) {a : Option Addr} : ∀ {l : List α}, SlA m R W a l →
    ∃ css : List (List Value), css.length = l.length ∧ (∀ (i : Nat) (cs : List Value) (x : α), css[i]? = some cs → l[i]? = some x → ElC m R W cs x) ∧ css.flatten.length = l.length * m ∧ (∀ u ∈ css.flatten, u.oneCell' = true) ∧
      ∀ p, a = some p → ∀ (j : Nat) (u : Value), css.flatten[j]? = some u → W.cell? (p.add j) = some u := by
  intro l hl
  have key : ∀ k, k ≤ l.length → ∃ css : List (List Value), css.length = k ∧ ∀ (i : Nat) (cs : List Value) (x : α), css[i]? = some cs → l[i]? = some x → ElC m R W cs x ∧ ∀ b o, a = some ⟨b, o, none⟩ → ∀ (j : Nat) (u : Value), cs[j]? = some u → W.cell? ⟨b, o + i * m + j, none⟩ = some u := fun k => by
    induction k with
    | zero => exact fun _ => ⟨[], rfl, fun i cs x h => by simp at h⟩
    | succ k ih =>
      intro hk
      obtain ⟨css, h1, h2⟩ := ih (by omega)
      obtain ⟨x, hx⟩ := get_some (l := l) rfl (show k < l.length by omega)
      obtain ⟨b, off, ha, hR⟩ := hl k x hx
      obtain ⟨cs, hc1, hc2⟩ := hcs _ _ x hR
      refine ⟨css ++ [cs], by simp [h1], fun i c y hc hy => ?_⟩
      by_cases hi : i < k
      · rw [List.getElem?_append_left (by omega)] at hc
        exact h2 i c y hc hy
      · rw [List.getElem?_append_right (by omega)] at hc
        have hi2 := (List.getElem?_eq_some_iff.1 hc).1
        simp only [List.length_cons, List.length_nil] at hi2
        obtain rfl : i = k := by omega
        rw [h1, Nat.sub_self] at hc
        rw [hx] at hy
        obtain rfl : cs = c := by simpa using hc
        cases hy
        refine ⟨hc1, fun b' o' hb j u hu => ?_⟩
        rw [ha] at hb
        cases hb
        exact hc2 j u hu
  obtain ⟨css, h1, h2⟩ := key l.length (Nat.le_refl _)
  have hm : ∀ c ∈ css, c.length = m := fun c hc => by
    obtain ⟨k, hk⟩ := List.getElem?_of_mem hc
    obtain ⟨y, hy⟩ := get_some h1.symm (List.getElem?_eq_some_iff.1 hk).1
    exact (h2 k c y hk hy).1.1
  have hlen : ∀ (cs : List (List Value)), (∀ c ∈ cs, c.length = m) → cs.flatten.length = cs.length * m := fun cs => by
    induction cs with
    | nil => intro _; simp
    | cons c cs ih => intro h; rw [List.flatten_cons, List.length_append, ih (fun c hc => h c (List.mem_cons_of_mem _ hc)), h c (List.mem_cons_self ..), List.length_cons, Nat.succ_mul]; omega
  refine ⟨css, h1, fun i cs x hc hx => (h2 i cs x hc hx).1, by rw [hlen css hm, h1], fun u hu => ?_, fun p hp j u hu => ?_⟩
  · obtain ⟨c, hc, hu⟩ := List.mem_flatten.1 hu
    obtain ⟨k, hk⟩ := List.getElem?_of_mem hc
    obtain ⟨y, hy⟩ := get_some h1.symm (List.getElem?_eq_some_iff.1 hk).1
    exact (h2 k c y hk hy).1.2.1 u hu
  · have hj : j < l.length * m := by rw [← h1, ← hlen css hm]; exact (List.getElem?_eq_some_iff.1 hu).1
    have hm0 : 0 < m := by cases m with | zero => omega | succ _ => omega
    obtain ⟨q, i, rfl, hi⟩ : ∃ q i, j = q * m + i ∧ i < m := ⟨j / m, j % m, by rw [Nat.mul_comm]; exact (Nat.div_add_mod j m).symm, Nat.mod_lt _ hm0⟩
    have hq : q < l.length := Nat.lt_of_mul_lt_mul_right (Nat.lt_of_le_of_lt (Nat.le_add_right _ i) hj)
    obtain ⟨x, hx⟩ := get_some (l := l) rfl hq
    obtain ⟨cs, hcs'⟩ := get_some h1 hq
    obtain ⟨b, off, ha, _⟩ := hl q x hx
    rw [flatten_get hm hcs' hi] at hu
    have := (h2 q cs x hcs' hx).2 b off ha i u hu
    rw [hp] at ha
    cases ha
    rw [show ((⟨b, off, none⟩ : Addr).add (q * m + i)) = ⟨b, off + (q * m + i), none⟩ from by simp [Addr.add], ← Nat.add_assoc]
    exact this
theorem run_append_own_none {P : Program} {w : World} (base : Nat) (t ty e : TypeId) (i : TypeInfo) (size : Nat) (ht : P.underlying t = some (.slice e)) (hi : P.info? e = some i)
    (v : Value) (n c : Nat) (xs : List Value) (hown : w.ownsRow base e size v n xs) :
    (Builtin.append_ #[t, t] ty #[v, .slice none 0 c]).run P w = .ok v w := by
  rcases hown.2 with ⟨rfl, rfl⟩ | ⟨g, cap, cur, rfl, _, _, hnc, _⟩
  · simp [Builtin.append_, run_underlying ht, sizeOf, typeInfo, hi, Builtin.lenOf, Builtin.firstCells]
  · simp [Builtin.append_, run_underlying ht, sizeOf, typeInfo, hi, Builtin.lenOf, Builtin.firstCells, hnc, storeCells]
/-- append of a slice, nil or not, to a row of the call's own. -/
theorem wpList_append_own_any {P : Program} {w : World} {ops : Array Oper} {rest : List Oper} {o : Oper} {a : Act} {Q : Exit → Act → World → Prop} (hgd : o.guard = none) (s x : Operand) (t : TypeId)
    (ho : o.op = .call { callee := .builtin .append, args := #[s, x], argTypes := #[t, t] })
    (base : Nat) (e : TypeId) (i : TypeInfo) (z : Value) (size bytes : Nat) (ht : P.underlying t = some (.slice e)) (hi : P.info? e = some i) (hz : i.zero = some z)
    (hsize : i.size = size) (hby : i.bytes = bytes) (hzs : z.cells.size = size) (hsz : 0 < size)
    (v : Value) (n : Nat) (xs : List Value) (hs : a.eval s = v) (hown : w.ownsRow base e size v n xs)
    (oa : Option Addr) (m c : Nat) (news : List Value) (hx : a.eval x = .slice oa m c) (hl : news.length = m * size) (hnews : ∀ ad, oa = some ad → ∀ (j : Nat) (u : Value), news[j]? = some u → w.cell? (ad.add j) = some u) (h0 : oa = none → m = 0) (h1 : ∀ u ∈ news, u.oneCell' = true)
    (h63 : n + m ≤ maxLen) (hbytes : (n + m) * bytes ≤ 140737488355328) (hbase : base ≤ w.heap.size)
    (h : ∀ v' w', w'.ownsRow base e size v' (n + m) (xs ++ news) → w.grownBy w' v.ownBlock → wpList P ops Q rest (a.put o.dst v') w') : wpList P ops Q (o :: rest) a w := by
  cases oa with
  | some ad => exact wpList_append_own w hgd s x t ho base e i z size bytes ht hi hz hsize hby hzs hsz v n xs hs hown ad m c news hx hl (hnews ad rfl) h1 h63 hbytes hbase fun v' w' a b _ => h v' w' a b
  | none =>
    obtain rfl := h0 rfl
    obtain rfl : news = [] := List.eq_nil_of_length_eq_zero (by rw [hl, Nat.zero_mul])
    refine wpList_plain hgd fun K hK => ?_
    have hrun := run_append_own_none (P := P) (w := w) base t o.type e i size ht hi v n c xs hown
    unfold Oper.wp
    simp [execOp, ho, resolve, invoke, builtin, hs, hx, hrun, Result.andThen]
    exact hK _ _ (h _ _ (by simpa using hown) ⟨rfl, rfl, rfl, Nat.le_refl _, fun _ _ _ => rfl⟩)
/-- The cells of a rule. -/
theorem rul_cs (W : World) (b o : Nat) (r : Rul) (h : RulAt W b o r) : ∃ cs, ElC 7 RulAt W cs r ∧ ∀ (j : Nat) (u : Value), cs[j]? = some u → W.cell? ⟨b, o + j, none⟩ = some u := by
  obtain ⟨q0, q1, ⟨a, c, q2, l1, l2, hs⟩, q3, q4, q5, q6, q7, q8⟩ := h
  refine ⟨[.string r.name, .bool r.allow, .slice a r.pats.length c, .int .u64 r.keyMin, .int .i64 r.lifeMax, .int .i64 r.most, .int .i64 r.window],
    ⟨rfl, by simp [Value.oneCell'], fun w' b' o' hE hc => ⟨hc 0 _ rfl, hc 1 _ rfl, ⟨a, c, hc 2 _ rfl, l1, l2, hs.ext hE⟩, hc 3 _ rfl, hc 4 _ rfl, hc 5 _ rfl, hc 6 _ rfl, q7, q8⟩⟩, fun j u hj => ?_⟩
  match j, hj with
  | 0, h => simp at h; subst h; exact q0
  | 1, h => simp at h; subst h; exact q1
  | 2, h => simp at h; subst h; exact q2
  | 3, h => simp at h; subst h; exact q3
  | 4, h => simp at h; subst h; exact q4
  | 5, h => simp at h; subst h; exact q5
  | 6, h => simp at h; subst h; exact q6
  | j + 7, h => simp at h
/-- The cells of a rule, written out. -/
theorem rul_elc {W : World} {b o : Nat} {r : Rul} (h : RulAt W b o r) : ∃ a c, W.cell? ⟨b, o + 2, none⟩ = some (.slice a r.pats.length c) ∧
    ElC 7 RulAt W [.string r.name, .bool r.allow, .slice a r.pats.length c, .int .u64 r.keyMin, .int .i64 r.lifeMax, .int .i64 r.most, .int .i64 r.window] r := by
  obtain ⟨_, _, ⟨a, c, q2, l1, l2, hs⟩, _, _, _, _, q7, q8⟩ := h
  refine ⟨a, c, q2, rfl, by simp [Value.oneCell'], fun w' b' o' hE hc => ⟨hc 0 _ rfl, hc 1 _ rfl, ⟨a, c, hc 2 _ rfl, l1, l2, hs.ext hE⟩, hc 3 _ rfl, hc 4 _ rfl, hc 5 _ rfl, hc 6 _ rfl, q7, q8⟩⟩
end Go.Proofs.YteemkkmkkgfofaaGreatDoor
namespace Go.Proofs.YteemkkmkkgfofaaGreatDoor
open Go.RowKit Nam Pol Go.Maps

/-- The rows of texts from block B on stand. -/
def KpT (B : Nat) (W W' : World) : Prop := ∀ (g : Nat) (c : Array Value) (f : Nat × Nat), B ≤ g → W.heap[g]? = some (.cells c 9 f) → W'.heap[g]? = W.heap[g]?
theorem KpT.trans {B : Nat} {A W C : World} (h : KpT B A W) (k : KpT B W C) : KpT B A C := fun g c f hg hc => by
  have h1 := h g c f hg hc
  exact (k g c f hg (h1.trans hc)).trans h1
theorem KpT.fr {B : Nat} {S : Nat → Prop} {A W : World} (h : Fr S A W) (hS : ∀ b, S b → b < B) : KpT B A W := fun g c f hg hc =>
  h.block g (Array.getElem?_eq_some_iff.1 hc).1 (fun hs => by have := hS g hs; omega)
/-- The cells cs stand for the rule r, as long as the rows of texts stand. -/
def RulC (B : Nat) (W : World) (cs : List Value) (r : Rul) : Prop :=
  ∃ a c, cs = [.string r.name, .bool r.allow, .slice a r.pats.length c, .int .u64 r.keyMin, .int .i64 r.lifeMax, .int .i64 r.most, .int .i64 r.window] ∧ r.pats.length ≤ c ∧ c ≤ maxLen ∧ (∀ W', KpT B W W' → Strs W' a r.pats) ∧ r.name.size ≤ maxLen ∧ 0 ≤ r.keyMin
theorem RulC.kp {B : Nat} {W W' : World} {cs : List Value} {r : Rul} (h : RulC B W cs r) (hK : KpT B W W') : RulC B W' cs r := by
  obtain ⟨a, c, h1, h2, h3, h4, h5⟩ := h
  exact ⟨a, c, h1, h2, h3, fun V hV => h4 V (hK.trans hV), h5⟩
/-- The rule that has been read. -/
theorem RulC.read {B : Nat} {W : World} {r : Rul} {a : Option Addr} {c : Nat} (hown : W.ownsRow B 9 1 (.slice a r.pats.length c) r.pats.length (r.pats.map Value.string)) (hsz : ∀ q ∈ r.pats, q.size ≤ maxLen) (h1 : r.pats.length ≤ c) (h2 : c ≤ maxLen) (h3 : r.name.size ≤ maxLen) (h4 : 0 ≤ r.keyMin) :
    RulC B W [.string r.name, .bool r.allow, .slice a r.pats.length c, .int .u64 r.keyMin, .int .i64 r.lifeMax, .int .i64 r.most, .int .i64 r.window] r := by
  refine ⟨a, c, rfl, h1, h2, fun V hV => ?_, h3, h4⟩
  have hown' : V.ownsRow B 9 1 (.slice a r.pats.length c) r.pats.length (r.pats.map Value.string) := own_keep hown fun g hg => by
    rcases hown.2 with ⟨hv, _⟩ | ⟨g', cap, cur, hv, hb, hh, _⟩
    · rw [hv] at hg; simp [Value.ownBlock] at hg
    · rw [hv] at hg
      simp only [Value.ownBlock, Option.some.injEq] at hg
      subst hg
      exact hV _ cur _ hb hh
  have := own_slv (cells := fun x => [Value.string x]) (R := StrAt) (l := r.pats) (fun x => rfl) (fun b o x hx hc => ⟨hc 0 _ rfl, hsz x hx⟩) rfl (by rw [flat_str]; exact hown')
  obtain ⟨a', c', hv, _, _, hl⟩ := this
  cases hv
  exact hl
/-- The rules that have been read: a row of the call's own. -/
abbrev OwnR (B : Nat) (w : World) (v : Value) (l : List Rul) : Prop := OwnP B 40 7 (RulC B w) w v l
theorem OwnR.keep {B : Nat} {w w' : World} {v : Value} {l : List Rul} (h : OwnR B w v l) (hK : KpT B w w') (hg : ∀ g, v.ownBlock = some g → w'.heap[g]? = w.heap[g]?) : OwnR B w' v l := by
  obtain ⟨css, h1, h2, h3⟩ := h
  exact ⟨css, h1, fun i cs x hc hx => ⟨(h2 i cs x hc hx).1, (h2 i cs x hc hx).2.kp hK⟩, own_keep h3 hg⟩
theorem OwnR.ge {B : Nat} {w : World} {v : Value} {l : List Rul} (h : OwnR B w v l) : ∀ g, v.ownBlock = some g → B ≤ g ∧ g < w.heap.size := fun g hg => by
  obtain ⟨css, h1, h2, h3⟩ := h
  exact h3.lt g hg
theorem OwnR.fr {B : Nat} {S : Nat → Prop} {w w' : World} {v : Value} {l : List Rul} (h : OwnR B w v l) (hF : Fr S w w') (hS : ∀ b, S b → b < B) : OwnR B w' v l :=
  h.keep (KpT.fr hF hS) fun g hg => hF.block g (h.ge g hg).2 fun hs => by have := (h.ge g hg).1; have := hS g hs; omega
theorem OwnR.ruls {B : Nat} {w : World} {v : Value} {l : List Rul} (h : OwnR B w v l) : ∃ a c, v = .slice a l.length c ∧ l.length ≤ c ∧ c ≤ maxLen ∧ Ruls w a l := by
  have hL : OwnL w B 40 7 RulAt w v l := OwnP.toL h fun cs r _ hr => by
    obtain ⟨a, c, rfl, h1, h2, h3, h4, h5⟩ := hr
    exact ⟨rfl, by simp [Value.oneCell'], fun w' b o hE hc => ⟨hc 0 _ rfl, hc 1 _ rfl, ⟨a, c, hc 2 _ rfl, h1, h2, h3 w' (KpT.fr (S := fun _ => False) (Fr.of_ext hE) (fun _ h => h.elim))⟩, hc 3 _ rfl, hc 4 _ rfl, hc 5 _ rfl, hc 6 _ rfl, h4, h5⟩⟩
  obtain ⟨a, c, h1, h2, h3, h4⟩ := hL.slv (Below.refl _ _)
  exact ⟨a, c, h1, h2, h3, h4⟩
theorem OwnR.snoc {B : Nat} {w w1 : World} {v : Value} {l : List Rul} {r : Rul} {cs : List Value} {g cap : Nat} {o : Obj} {css : List (List Value)}
    (h1 : css.length = l.length) (h2 : ∀ (i : Nat) (cs : List Value) (x : Rul), css[i]? = some cs → l[i]? = some x → cs.length = 7 ∧ RulC B w cs x) (h3 : w.ownsRow B 40 7 v l.length css.flatten) (hr : RulC B w cs r) (hcs : cs.length = 7)
    (hown : w1.ownsRow B 40 7 (.slice (some ⟨g, 0, none⟩) (l.length + 1) cap) (l.length + 1) (css.flatten ++ cs)) (hg : (w.alloc o).grownBy w1 v.ownBlock) : OwnR B w1 (.slice (some ⟨g, 0, none⟩) (l ++ [r]).length cap) (l ++ [r]) := by
  have hK : KpT B w w1 := fun k c f hk hc => by
    have hlt := (Array.getElem?_eq_some_iff.1 hc).1
    refine (hg.block k (by rw [World.size_alloc]; omega) fun e => ?_).trans (Below.heap_alloc _ _ _ hlt)
    rcases h3.2 with ⟨hv, _⟩ | ⟨g', cap', cur, hv, _, hh, _⟩
    · rw [hv] at e; simp [Value.ownBlock] at e
    · rw [hv] at e
      simp only [Value.ownBlock, Option.some.injEq] at e
      subst e
      rw [hh] at hc
      simp at hc
  refine ⟨css ++ [cs], by simp [h1], fun i c y hc hy => ?_, by rw [flatten_snoc, List.length_append]; exact hown⟩
  by_cases hi : i < l.length
  · rw [List.getElem?_append_left (by omega)] at hc
    rw [List.getElem?_append_left hi] at hy
    exact ⟨(h2 i c y hc hy).1, (h2 i c y hc hy).2.kp hK⟩
  · rw [List.getElem?_append_right (by omega)] at hc
    rw [List.getElem?_append_right (by omega)] at hy
    obtain ⟨hi', rfl⟩ := List.getElem?_eq_some_iff.1 hc
    obtain ⟨_, rfl⟩ := List.getElem?_eq_some_iff.1 hy
    simp
    exact ⟨hcs, hr.kp hK⟩
end Go.Proofs.YteemkkmkkgfofaaGreatDoor
