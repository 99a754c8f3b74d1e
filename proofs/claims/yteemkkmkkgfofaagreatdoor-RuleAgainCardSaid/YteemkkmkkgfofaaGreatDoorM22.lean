/- A region that draws its order, whose last operation alone turns the memory that is told of: the others are walked as in XAny, the last one behind them all. -/
import Derived.Test.YteemkkmkkgfofaaGreatDoorM21
import Derived.ControlIn
namespace Go.Proofs.YteemkkmkkgfofaaGreatDoor
open Go.RowKit

/-- Does k wait for m, at last? -/
def reachT (ops : Array Oper) : Nat → Nat → Nat → Bool
  | 0, k, m => waits ops k m
  | f + 1, k, m => waits ops k m || (List.range ops.size).any fun x => waits ops k x && reachT ops f x m
theorem reachT_L {ops : Array Oper} {L : Nat → Prop} (hc : ∀ j k, L j → waits ops j k = true → L k) {m : Nat} : ∀ (f k : Nat), reachT ops f k m = true → L k → L m
  | 0, k, h, hk => hc k m hk h
  | f + 1, k, h, hk => by
    unfold reachT at h
    rcases Bool.or_eq_true _ _ ▸ h with h | h
    · exact hc k m hk h
    · obtain ⟨x, -, hx⟩ := List.any_eq_true.1 h
      rw [Bool.and_eq_true] at hx
      exact reachT_L hc f x hx.2 (hc k x hk hx.1)
section
variable {P : Program} {ops : Array Oper} {Q : Exit → Act → World → Prop} {S S2 : World → Prop}
theorem Gives.mono {o : Oper} {a : Act} {w : World} {G G' : Value → World → Prop} (h : Gives P o a w G) (hG : ∀ v w', G v w' → G' v w') : Gives P o a w G' := by
  unfold Gives at h ⊢
  split at h
  · exact hG _ _ h
  · exact hG _ _ h
  · refine Calls.mono h ?_
    rintro e w'' ⟨v, rfl, hg⟩
    exact ⟨v, rfl, hG _ _ hg⟩
  · exact h.elim
/-- What holds of the world: S as long as operation m has not run, S2 behind it. -/
def Two (m : Nat) (S S2 : World → Prop) (L : Nat → Prop) (w : World) : Prop := (¬ L m ∧ S w) ∨ (L m ∧ S2 w)
theorem stepsT_aux {m f : Nat} {om : Oper} {F F1 : Act → Prop} (hreach : ∀ k, k < m → reachT ops f m k = true) : ∀ (os : List Oper) (i : Nat) (a : Act), i + os.length = m → (∀ o ∈ os, o.guard = none) → Steps P ops S os a F1 →
    (∀ a1, F1 a1 → StepsL P ops (Two m S S2) m [om] a1 F) → StepsL P ops (Two m S S2) i (os ++ [om]) a F
  | [], i, a, hi, _, hs, hk => by
    obtain rfl : i = m := by simpa using hi
    exact hk a hs
  | o :: os, i, a, hi, hg, ⟨v, h1, h2⟩, hk => by
    have him : i < m := by simp only [List.length_cons] at hi; omega
    have hw : Region.wanted o (yielded ops a.tmps) = true := by unfold Region.wanted; rw [hg o (by simp)]
    refine ⟨v, ⟨hw, fun L w hS hLi _ hc => ?_⟩, stepsT_aux hreach os (i + 1) _ (by simp only [List.length_cons] at hi; omega) (fun o ho => hg o (List.mem_cons_of_mem _ ho)) h2 hk⟩
    rcases hS with ⟨hLm, hS⟩ | ⟨hLm, _⟩
    · have h3 := h1 w hS
      rw [if_pos hw] at h3
      refine h3.mono ?_
      rintro u w' ⟨rfl, hS'⟩
      exact ⟨rfl, .inl ⟨fun h => h.elim hLm (fun e => by omega), hS'⟩⟩
    · exact absurd (reachT_L hc f m (hreach i him) hLm) hLi
/-- The last operation, behind all others. -/
def LastOp (P : Program) (ops : Array Oper) (Q : Exit → Act → World → Prop) (S S2 : World → Prop) (m : Nat) (a : Act) : Prop :=
  ∃ o v, ops[m]? = some o ∧ o.guard = none ∧ (∀ w', S w' → Gives P o a w' (Is v S2)) ∧ ∀ w', S2 w' → Q .normal (a.put o.dst v) w'
theorem last_mk {m : Nat} {o : Oper} {a : Act} {v : Value} (d : Option Tmp) (h1 : ops[m]? = some o) (h2 : o.guard = none) (hd : o.dst = d) (h3 : ∀ w', S w' → Gives P o a w' (Is v S2)) (h4 : ∀ w', S2 w' → Q .normal (a.put d v) w') : LastOp P ops Q S S2 m a := ⟨o, v, h1, h2, h3, by rw [hd]; exact h4⟩
/-- THE LAW. -/
theorem wp_region_T {id : Nat} {a : Act} {w : World} (m f : Nat) (hm : P.follows .mixedOrders = true) (hord : orderly ops = true) (hf : forwards ops = true) (hedge : ((List.range ops.size).all fun i => ((ops[i]?).map fun o => o.after.all fun e => decide (e.on < ops.size)).getD true) = true)
    (hsel : Region.noSelect ops = true) (hdef : noDefer ops = true) (hgd : (ops.all fun o => o.guard.isNone) = true) (hlast : ops.size = m + 1) (hreach : ((List.range m).all fun k => reachT ops f m k) = true) (S S2 : World → Prop) (h0 : S w.drew)
    (hs : Steps P ops S (ops.toList.take m) a (LastOp P ops Q S S2 m)) : (Code.region id ops true).wp P Q a w := by
  have hml : m < ops.size := by omega
  have htl : ops.toList = ops.toList.take m ++ [ops[m]] := by
    have h1 := List.take_append_drop m ops.toList
    have h2 : ops.toList.drop m = [ops[m]] := by
      rw [List.drop_eq_getElem_cons (by simpa using hml)]
      rw [List.drop_eq_nil_of_le (by simp; omega)]
      simp
    rw [h2] at h1; exact h1.symm
  have hg : ∀ o ∈ ops.toList, o.guard = none := fun o ho => by
    obtain ⟨i, hi, rfl⟩ := Array.getElem_of_mem (Array.mem_toList_iff.1 ho)
    have := Array.all_eq_true.1 hgd i hi
    simpa using this
  refine wpIn_wide (n := 0).1 (wpIn_region_L (r := none) hm hord hf hedge hsel hdef (Two m S S2) (.inl ⟨fun h => h, h0⟩) ?_)
  rw [htl]
  refine stepsT_aux (f := f) (F1 := LastOp P ops Q S S2 m) (fun k hk => List.all_eq_true.1 hreach k (by simpa using hk)) _ 0 a (by simp; omega) (fun o ho => hg o (List.mem_of_mem_take ho)) hs ?_
  rintro a1 ⟨o, v, ho, hgo, h3, h4⟩
  have hom : ops[m] = o := by rw [Array.getElem?_eq_getElem hml] at ho; exact Option.some.inj ho
  rw [hom]
  refine stepsL_run (v := v) hgo (fun L w hS hLi _ _ => ?_) (stepsL_end fun L w' hall hS => ?_)
  · rcases hS with ⟨_, hS⟩ | ⟨h, _⟩
    · refine (h3 w hS).mono ?_
      rintro u w' ⟨rfl, h⟩
      exact ⟨rfl, .inr ⟨.inr rfl, h⟩⟩
    · exact absurd h hLi
  · rcases hS with ⟨h, _⟩ | ⟨_, h⟩
    · exact absurd (hall m hml) h
    · exact h4 w' h
end
end Go.Proofs.YteemkkmkkgfofaaGreatDoor
