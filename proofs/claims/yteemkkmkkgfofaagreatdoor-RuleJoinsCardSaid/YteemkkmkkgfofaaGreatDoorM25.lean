/- What is read of an argument: fields, elements, down to the cells; whatever the type. -/
import Derived.Test.YteemkkmkkgfofaaGreatDoorM07
import Derived.Deep.Slices
import Derived.ChangeSame
namespace Go.Proofs.YteemkkmkkgfofaaGreatDoor
open Go.RowKit Go.ChangeShapes Go.WideShapes Go.Deep

/-- A value of type t is read there. -/
def Rds {H : Type} (enc : TypeId × Value → H) (P : Program) (w : World) (t : TypeId) (cs : List Value) : Prop :=
  ∃ fuel x, DataW.trod enc P w 0 (fun _ => true) true fuel t cs = some x
section
variable {H : Type} {enc : TypeId × Value → H} {P : Program} {w : World} {t e : TypeId} {cs : List Value}
theorem Rds.of_trod {v : Value} {d : DataW H} {p : List MemPlace} (h : DataW.Trod enc P w 0 (fun _ => true) true t v d p) : Rds enc P w t v.cells.toList := by
  obtain ⟨f, h⟩ := h; exact ⟨f, _, h⟩
theorem Rds.len {fs : Array Field} (h : Rds enc P w t cs) (ht : P.underlying t = some (.struct fs)) : cs.length = P.cellsOf t := by
  obtain ⟨f, x, h⟩ := h
  obtain ⟨_, _, _, _, hl, _⟩ := DataW.trod_struct ht h
  exact hl
theorem Rds.at {fs : Array Field} (h : Rds enc P w t cs) (ht : P.underlying t = some (.struct fs)) (i : Nat) (T : TypeId) (o m : Nat) (hf : (fs[i]?).map (fun f => (f.type, f.offset)) = some (T, o)) (hc : P.cellsOf T = m) :
    Rds enc P w T ((cs.drop o).take m) := by
  obtain ⟨f, x, h⟩ := h
  obtain ⟨xs, n, _, _, hl, hx, hg⟩ := DataW.trod_struct ht h
  cases hfi : fs[i]? with
  | none => rw [hfi] at hf; cases hf
  | some g =>
    rw [hfi] at hf
    have hh := hg i g hfi
    have h1 := Option.some.inj hf
    simp only [Prod.mk.injEq] at h1
    obtain ⟨h2, h3⟩ := h1
    rw [h2, h3, hc] at hh
    have hi : i < xs.length := by rw [hx]; exact (Array.getElem?_eq_some_iff.1 hfi).1
    rw [List.getElem?_eq_getElem hi] at hh
    exact ⟨n, _, hh⟩
theorem Rds.string (h : Rds enc P w t cs) (ht : P.underlying t = some .string) : ∃ s, cs = [.string s] ∧ s.size ≤ maxLen := by
  obtain ⟨f, x, h⟩ := h
  cases f with
  | zero => simp [DataW.trod] at h
  | succ n =>
    unfold DataW.trod at h
    rw [ht] at h
    split at h <;> simp_all
theorem Rds.int {k : IntKind} (h : Rds enc P w t cs) (ht : P.underlying t = some (.int k)) : ∃ n, cs = [.int k n] ∧ (Lit.int k n).wf = true := by
  obtain ⟨f, x, h⟩ := h
  cases f with
  | zero => simp [DataW.trod] at h
  | succ n =>
    unfold DataW.trod at h
    rw [ht] at h
    split at h <;> simp_all
theorem Rds.bool (h : Rds enc P w t cs) (ht : P.underlying t = some .bool) : ∃ b, cs = [.bool b] := by
  obtain ⟨f, x, h⟩ := h
  cases f with
  | zero => simp [DataW.trod] at h
  | succ n =>
    unfold DataW.trod at h
    rw [ht] at h
    split at h <;> simp_all
theorem list_of {α : Type} {p : Nat → α → Prop} : ∀ (n : Nat), (∀ i, i < n → ∃ x, p i x) → ∃ l : List α, l.length = n ∧ ∀ i x, l[i]? = some x → p i x
  | 0, _ => ⟨[], rfl, fun i x h => by simp at h⟩
  | n + 1, h => by
    obtain ⟨l, hl, hp⟩ := list_of n (fun i hi => h i (by omega))
    obtain ⟨x, hx⟩ := h n (by omega)
    refine ⟨l ++ [x], by simp [hl], fun i y hy => ?_⟩
    rw [List.getElem?_append] at hy
    split at hy
    · exact hp i y hy
    · have : i - l.length = 0 := by
        rcases Nat.eq_zero_or_pos (i - l.length) with h0 | h0
        · exact h0
        · rw [List.getElem?_eq_none (by simp; omega)] at hy; cases hy
      rw [this] at hy
      simp at hy; subst hy
      rwa [show i = n by omega]
/-- A slice, its elements each met by R, and of a kind Q. -/
theorem Rds.list {α : Type} {R : ElR α} {Q : α → Prop} {C : Nat} (h : Rds enc P w t cs) (ht : P.underlying t = some (.slice e)) (hC : P.cellsOf e = C) (hpos : 0 < C)
    (hel : ∀ b o es, es.length = C → (∀ j v, es[j]? = some v → w.cell? ⟨b, o + j, none⟩ = some v) → Rds enc P w e es → ∃ x, R w b o x ∧ Q x) :
    ∃ (a : Option Addr) (l : List α) (cap : Nat), cs = [.slice a l.length cap] ∧ l.length ≤ cap ∧ cap ≤ maxLen ∧ SlA C R w a l ∧ ∀ x ∈ l, Q x := by
  obtain ⟨f, x, h⟩ := h
  rcases open_slice ht h with ⟨rfl, _⟩ | ⟨a, len, cap, m, n, D, Pl, rfl, hb, hl, hm, hmm, _, hx⟩
  · exact ⟨none, [], 0, rfl, Nat.le_refl _, Nat.zero_le _, SlA.nil _ _ _ _, fun x hx => by simp at hx⟩
  · have key : ∀ i, i < len → ∃ x, (∃ b off, some a = some ⟨b, off, none⟩ ∧ R w b (off + i * C) x) ∧ Q x := fun i hi => by
      obtain ⟨es, h1, h2⟩ := hx i (by rw [hmm]; simp; omega)
      obtain ⟨_, hlen, hat⟩ := World.cells?_some h1
      rw [hC] at hlen hat
      have hsp : a.spot = none := by
        obtain ⟨es0, g1, g2⟩ := hx 0 (by rw [hmm]; simp; omega)
        obtain ⟨_, glen, gat⟩ := World.cells?_some g1
        rw [hC] at glen gat
        have g0 := gat 0 hpos
        rw [List.getElem?_eq_getElem (show 0 < es0.length by omega)] at g0
        simpa [Addr.add] using World.cell?_spot g0
      obtain ⟨b, off, spot⟩ := a
      simp only at hsp
      subst hsp
      obtain ⟨x, hR, hQ⟩ := hel b (off + i * C) es hlen (fun j v hj => by
        have := hat j (by have := (List.getElem?_eq_some_iff.1 hj).1; omega)
        rw [add_plain, add_plain, hj] at this
        exact this) ⟨n, _, h2⟩
      exact ⟨x, ⟨b, off, rfl, hR⟩, hQ⟩
    obtain ⟨l, hlen, hp⟩ := list_of len key
    refine ⟨some a, l, cap, by rw [hlen], by omega, hm, fun i x hx => (hp i x hx).1, fun x hx => ?_⟩
    obtain ⟨i, hi, rfl⟩ := List.getElem_of_mem hx
    exact (hp i _ (List.getElem?_eq_getElem hi)).2
/-- A slice of whatever elements. -/
theorem Rds.slice (h : Rds enc P w t cs) (ht : P.underlying t = some (.slice e)) : ∃ a n cap, cs = [.slice a n cap] ∧ n ≤ cap ∧ cap ≤ maxLen := by
  obtain ⟨f, x, h⟩ := h
  rcases open_slice ht h with ⟨rfl, _⟩ | ⟨a, len, cap, m, n, D, Pl, rfl, hb, hl, hm, hmm, _, hx⟩
  · exact ⟨none, 0, 0, rfl, Nat.le_refl _, Nat.zero_le _⟩
  · exact ⟨_, _, _, rfl, hl, hm⟩
end
theorem cut_get {cs : List Value} {o : Nat} {v : Value} (h : (cs.drop o).take 1 = [v]) : cs[o]? = some v := cell_of_cut h
theorem cut_get2 {cs : List Value} {o m o' : Nat} {v : Value} (h : (((cs.drop o).take m).drop o').take 1 = [v]) : cs[o + o']? = some v := by
  have := cell_of_cut h
  rw [List.getElem?_take] at this
  split at this
  · rwa [List.getElem?_drop] at this
  · cases this
end Go.Proofs.YteemkkmkkgfofaaGreatDoor
