/- The base of this seat's walks: worlds that agree but at named blocks; iterators that write their own boxes; one law for a range over such an iterator. -/
import Derived.Test.YteemkkmkkgfofaaGreatDoorProg
import Derived.RangeFuncNested
import Derived.RangeFuncBound
import Derived.RangeFuncCalls
import Derived.RangeFuncLeaves
import Derived.WalkKit
import Derived.OwnWalkIn
import Derived.TacticsInMore
import Derived.LoopNIn
import Derived.LoopIn
import Derived.WalkSpells
import Derived.WalkLawsBesides
namespace Go.Proofs.YteemkkmkkgfofaaGreatDoor
open Go.RowKit

theorem wide_fn (k : FuncId) : Fence.wide.fn k = True := rfl
theorem wide_depth : (Fence.wide.depth = none) = True := by simp [Fence.wide]
theorem wide_some : Fence.wide.depth.isSome = false := rfl
theorem ret_bool {a b : Bool} (h : a = b) : Ending.returned (.bool a) = .returned (.bool b) := by rw [h]
theorem ret_int {k : IntKind} {a b : Int} (h : a = b) : Ending.returned (.int k a) = .returned (.int k b) := by rw [h]
theorem ret_str {a b : ByteArray} (h : a = b) : Ending.returned (.string a) = .returned (.string b) := by rw [h]

/-- B is A, but for new blocks and the blocks of S. -/
structure Fr (S : Nat → Prop) (A B : World) : Prop where
  os : B.os = A.os
  tape : B.tape = A.tape
  output : B.output = A.output
  size : A.heap.size ≤ B.heap.size
  block : ∀ k, k < A.heap.size → ¬ S k → B.heap[k]? = A.heap[k]?
/-- B is A, but for new blocks. -/
abbrev Ext (A B : World) : Prop := Below A.heap.size A B
theorem Fr.refl (S : Nat → Prop) (A : World) : Fr S A A := ⟨rfl, rfl, rfl, Nat.le_refl _, fun _ _ _ => rfl⟩
theorem Fr.trans {S : Nat → Prop} {A B C : World} (h : Fr S A B) (k : Fr S B C) : Fr S A C :=
  ⟨k.os.trans h.os, k.tape.trans h.tape, k.output.trans h.output, Nat.le_trans h.size k.size,
   fun i hi hs => (k.block i (Nat.lt_of_lt_of_le hi h.size) hs).trans (h.block i hi hs)⟩
theorem Fr.mono {S T : Nat → Prop} {A B : World} (h : Fr S A B) (hs : ∀ k, k < A.heap.size → S k → T k) : Fr T A B :=
  ⟨h.os, h.tape, h.output, h.size, fun i hi ht => h.block i hi (fun x => ht (hs i hi x))⟩
theorem Fr.of_ext {S : Nat → Prop} {A B : World} (h : Ext A B) : Fr S A B := ⟨h.os, h.tape, h.output, h.size, fun i hi _ => h.block i hi⟩
theorem Fr.ext {S : Nat → Prop} {A B : World} (h : Fr S A B) (hs : ∀ k, k < A.heap.size → ¬ S k) : Ext A B :=
  ⟨h.os, h.tape, h.output, h.size, fun i hi => h.block i hi (hs i hi)⟩
theorem Fr.below {S : Nat → Prop} {A B : World} {n : Nat} (h : Fr S A B) (hn : n ≤ A.heap.size) (hs : ∀ k, S k → n ≤ k) : Below n A B :=
  ⟨h.os, h.tape, h.output, h.size, fun i hi => h.block i (by omega) (fun x => by have := hs i x; omega)⟩
theorem Fr.alloc (S : Nat → Prop) (A : World) (o : Obj) : Fr S A (A.alloc o) := Fr.of_ext ((Below.refl _ A).alloc (Nat.le_refl _) o)
theorem Fr.setCell {S : Nat → Prop} (A : World) (p : Addr) (v : Value) (hp : S p.block) : Fr S A (A.setCell p v) :=
  ⟨rfl, rfl, rfl, by simp [World.setCell], fun k _ hs => Below.heap_setCell _ _ _ _ (fun e => hs (e ▸ hp))⟩
theorem Fr.putObj {S : Nat → Prop} (A : World) (l : Nat) (o : Obj) (hl : S l) : Fr S A (A.putObj l o) :=
  ⟨rfl, rfl, rfl, by simp, fun k _ hs => World.putObj_heap_other (fun e => hs (e ▸ hl))⟩
theorem Fr.drew (S : Nat → Prop) (A : World) : Fr S A A.drew := ⟨rfl, rfl, rfl, Nat.le_refl _, fun _ _ _ => rfl⟩
theorem Fr.drewN (S : Nat → Prop) (A : World) (n : Nat) : Fr S A (A.drewN n) := ⟨rfl, rfl, rfl, Nat.le_refl _, fun _ _ _ => rfl⟩
theorem Fr.boxed {S : Nat → Prop} {A B : World} (h : Fr S A B) {b : Nat} {t : TypeId} {v : Value} (hb : Boxed A b t v) (hs : ¬ S b) : Boxed B b t v :=
  (h.block b hb.lt hs).trans hb
theorem Fr.cell {S : Nat → Prop} {A B : World} (h : Fr S A B) {p : Addr} (hp : p.block < A.heap.size) (hs : ¬ S p.block) : B.cell? p = A.cell? p :=
  World.cell?_of_block (h.block _ hp hs)
theorem Below.drewN' {n : Nat} {A B : World} (h : Below n A B) (k : Nat) : Below n A (B.drewN k) := ⟨h.os, h.tape, h.output, h.size, h.block⟩
theorem ext_trans {A B C : World} (h : Ext A B) (k : Ext B C) : Ext A C := h.trans (k.mono h.size)
theorem ext_boxed {A B : World} (h : Ext A B) {b : Nat} {t : TypeId} {v : Value} (hb : Boxed A b t v) : Boxed B b t v := (h.block b hb.lt).trans hb

/-- The iterator's word: called at any yield, it lets come what xs lists, one behind the other, and stops where a round says no; it writes the blocks of 'own' alone, and each round leaves the blocks of 'dep' as they were. -/
def Iter {α : Type} (P : Program) (g : Nat) (lb : Array Value) (enc : α → Array Value) (xs : List α) (Ok : World → Prop) (own dep : Nat → Prop) : Prop :=
  ∀ (l : Nat) (J Jx : Nat → World → Prop) (W : World), Ok W →
    (∀ k A B, J k A → Fr own A B → J k B) → (∀ k A B, Jx k A → Fr own A B → Jx k B) →
    (∀ k x W1, xs[k]? = some x → J k W1 → YieldAt Fence.wide 0 P l (enc x) W1 fun e W' =>
      (e = .returned (.bool true) ∧ J (k + 1) W' ∧ Fr (fun b => ¬ dep b) W1 W') ∨ (e = .returned (.bool false) ∧ Jx (k + 1) W')) →
    J 0 W →
    CallsIn Fence.wide 0 P g (#[.func (.yield l) #[] #[]] ++ lb) W fun e W' => (∃ v, e = .returned v) ∧ (J xs.length W' ∨ ∃ k, k ≤ xs.length ∧ Jx k W')

/-- HOW A ROUND's BODY MAY BE LEFT. -/
def roundEnd (S : Nat → Prop) (I : Nat → World → Prop) (Ix : Code → Nat → World → Prop) (k : Nat) (W : World) : Exit → Act → World → Prop
  | .normal, _, W' => Fr S W W' ∧ I k W'
  | .ret, _, W' => Fr S W W' ∧ Ix .ret k W'
  | .exit id, _, W' => Fr S W W' ∧ Ix (.exit id) k W'
  | .goto t, _, W' => Fr S W W' ∧ Ix (.goto t) k W'
  | .panic _, _, _ => False
  | .outgrown, _, _ => False

/-- WHAT THE ASSIGNMENTS AT A ROUND's HEAD MUST COME TO: what a round may write is all that they have written; the caller's word stands; the body, from there. -/
def BodyAt (P : Program) (S : Nat → Prop) (I : Nat → World → Prop) (Ix : Code → Nat → World → Prop) (l k : Nat) (body : Code) (W : World) (a₁ : Act) (W₁ : World) : Prop :=
  Fr S W W₁ ∧ I k W₁ ∧ ∀ Wb, I k Wb → Fr (fun b => b = l) W₁ Wb → Wb.heap.size = W₁.heap.size → body.wpIn (Fence.wide.inRound l) 0 P (roundEnd S I Ix (k + 1) Wb) a₁ Wb

variable {P : Program}
/-- THE LAW: a range over an iterator, in a plain frame. S: what a round may write. -/
theorem range_law {α : Type} {g : Operand} {ps : Array Tmp} {assign body : Code} {Q : Exit → Act → World → Prop} {a : Act} {w : World}
    {gf : Nat} {lb : Array Value} (hg : a.eval g = .func (.func gf) #[] lb) (eg : ∀ args w, (callFunc gf args).run P w = .ok (.enter gf args) w)
    {enc : α → Array Value} {xs : List α} {Ok : World → Prop} {own dep : Nat → Prop} (hit : Iter P gf lb enc xs Ok own dep)
    (hOk : ∀ o1 o2, Ok ((w.alloc o1).alloc o2)) (hown : ∀ b, own b → b < w.heap.size) (hdep : ∀ b, dep b → b < w.heap.size)
    (hps : ∀ x, (enc x).size = ps.size) (S : Nat → Prop) (hSd : ∀ b, S b → ¬ dep b) (hS : ∀ b, S b → b < w.heap.size)
    (I : Nat → World → Prop) (Ix : Code → Nat → World → Prop)
    (hI : ∀ k A B, I k A → Fr (fun b => own b ∨ b = w.heap.size ∨ b = w.heap.size + 1) A B → I k B)
    (hIx : ∀ c k A B, Ix c k A → Fr (fun b => own b ∨ b = w.heap.size ∨ b = w.heap.size + 1) A B → Ix c k B)
    (h0 : I 0 w)
    (hround : ∀ (l k : Nat) (x : α) (W : World), xs[k]? = some x → l = w.heap.size + 1 → w.heap.size + 2 ≤ W.heap.size → I k W →
      assign.wpIn (Fence.wide.inRound l) 0 P (Exit.then (BodyAt P S I Ix l k body W) (fun _ _ _ => False)) { tmps := (ps.zip (enc x)).foldl (fun t (p, v) => t.setIfInBounds p v) a.tmps, defers := [] } W)
    (hdone : ∀ (W : World), I xs.length W → W.heap[w.heap.size]? = some (.deferred (some [])) → Q .normal { a with defers := { target := .collected w.heap.size, args := #[] } :: a.defers } W)
    (hstop : ∀ (c : Code) (k : Nat) (W : World), k ≤ xs.length → Ix c k W → W.heap[w.heap.size]? = some (.deferred (some [])) →
      c.wpIn Fence.wide 0 P Q { a with defers := { target := .collected w.heap.size, args := #[] } :: a.defers } W) :
    (Code.rangeFunc g ps assign body).wpIn Fence.wide 0 P Q a w := by
  refine wpIn_rangeFunc ?_
  intro fn hfn
  obtain ⟨rec, hrec⟩ : ∃ rec : LoopState → Option Code → Loop, rec = fun st pe => { state := st, pending := pe, fn, tmps := a.tmps, params := ps, assign, body, defers := w.heap.size } := ⟨_, rfl⟩
  obtain ⟨W1, hW1⟩ : ∃ W1, (w.alloc (.deferred (some []))).alloc (.loop (rec .ready none)) = W1 := ⟨_, rfl⟩
  have hL1 : W1.heap[w.heap.size + 1]? = some (.loop (rec .ready none)) := by
    rw [← hW1]; have := World.alloc_heap_new (w.alloc (.deferred (some []))) (.loop (rec .ready none)); rwa [World.size_alloc] at this
  have hK1 : W1.heap[w.heap.size]? = some (.deferred (some [])) := by
    rw [← hW1]; exact (Below.heap_alloc _ _ _ (by simp)).trans (World.alloc_heap_new w _)
  have hI1 : I 0 W1 := by rw [← hW1]; exact hI _ _ _ (hI _ _ _ h0 (Fr.alloc _ _ _)) (Fr.alloc _ _ _)
  have hO1 : Ok W1 := by rw [← hW1]; exact hOk _ _
  refine ⟨w.heap.size + 1, [{ target := .collected w.heap.size, args := #[] }], W1, { target := .fn (.func gf) lb, args := #[.func (.yield (w.heap.size + 1)) #[] #[]] }, W1, gf,
    #[.func (.yield (w.heap.size + 1)) #[] #[]] ++ lb, W1, ?_, ?_, fun _ _ => trivial, ?_, fun h => by simp [Fence.wide] at h, ?_⟩
  · rw [← hW1, hrec]; exact run_enterLoop_outer _ _ _ _ _
  · simp only [resolve, hg]
    simp [go_sem]
  · simp [invoke, go_sem, eg]
  · have hno : ∀ {A B : World} {j : Nat} {o : Obj}, Fr own A B → j < A.heap.size → w.heap.size ≤ j → A.heap[j]? = some o → B.heap[j]? = some o :=
      fun hf hlt hj ho => (hf.block _ hlt (fun x => by have := hown _ x; omega)).trans ho
    refine (hit (w.heap.size + 1)
      (fun k W => I k W ∧ W.heap[w.heap.size + 1]? = some (.loop (rec .ready none)) ∧ W.heap[w.heap.size]? = some (.deferred (some [])))
      (fun k W => ∃ c, Ix c k W ∧ W.heap[w.heap.size + 1]? = some (.loop (rec .done (some c))) ∧ W.heap[w.heap.size]? = some (.deferred (some [])))
      W1 hO1
      (fun k A B hs hf => ⟨hI k A B hs.1 (hf.mono fun _ _ h => .inl h), hno hf (Array.getElem?_eq_some_iff.1 hs.2.1).1 (by omega) hs.2.1, hno hf (Array.getElem?_eq_some_iff.1 hs.2.2).1 (by omega) hs.2.2⟩)
      (fun k A B hs hf => by
        obtain ⟨c, hc, hl, hk⟩ := hs
        exact ⟨c, hIx c k A B hc (hf.mono fun _ _ h => .inl h), hno hf (Array.getElem?_eq_some_iff.1 hl).1 (by omega) hl, hno hf (Array.getElem?_eq_some_iff.1 hk).1 (by omega) hk⟩)
      ?_ ⟨hI1, hL1, hK1⟩).mono ?_
    · rintro k x W hx ⟨hi, hl, hk⟩
      have hlt : w.heap.size + 1 < W.heap.size := (Array.getElem?_eq_some_iff.1 hl).1
      have hy := run_yield (P := P) (args := enc x) hl (by rw [hrec]; exact hps x)
      rw [hrec] at hy
      refine ⟨fn, _, assign, body, hy, roundIn_of_wpIn hfn (wpIn_mono (hround _ k x W hx rfl (by omega) hi) ?_)⟩
      clear hy
      rintro e a1 Wa hp
      cases e with
      | exit id => exact hp.elim
      | goto t => exact hp.elim
      | ret => exact hp.elim
      | panic ch => exact hp.elim
      | outgrown => exact hp.elim
      | normal =>
      obtain ⟨hkfa, hia, hba⟩ := hp
      have hdis : ∀ j, w.heap.size ≤ j → ¬ S j := fun j hj x => by have := hS _ x; omega
      replace hl := (hkfa.block _ (by omega) (hdis _ (by omega))).trans hl
      replace hk := (hkfa.block _ (by omega) (hdis _ (by omega))).trans hk
      replace hlt : w.heap.size + 1 < Wa.heap.size := (Array.getElem?_eq_some_iff.1 hl).1
      replace hi := hia
      clear hia
      revert hba hkfa
      generalize W = Wb
      intro hkfa hba
      obtain ⟨W, rfl⟩ : ∃ W, W = Wa := ⟨_, rfl⟩
      refine ⟨_, run_beginRound hl (by rw [hrec]), ?_⟩
      have hl2 : (W.putObj (w.heap.size + 1) (.loop { rec .ready none with state := .busy })).heap[w.heap.size + 1]? = some (.loop { rec .ready none with state := .busy }) := World.putObj_heap_same hlt
      have hk2 : (W.putObj (w.heap.size + 1) (.loop { rec .ready none with state := .busy })).heap[w.heap.size]? = some (.deferred (some [])) := (World.putObj_heap_other (by omega)).trans hk
      have hf2 : ∀ {S' : Nat → Prop} (A : World) (o : Obj), S' (w.heap.size + 1) → Fr S' A (A.putObj (w.heap.size + 1) o) := fun A o h => Fr.putObj A _ o h
      refine wpIn_mono (hba _ (hI _ _ _ hi (hf2 _ _ (.inr (.inr rfl)))) (hf2 _ _ rfl) (by simp)) ?_
      have fin : ∀ (jump : Option Code) (W3 : World), Fr S (W.putObj (w.heap.size + 1) (.loop { rec .ready none with state := .busy })) W3 →
          (Instr.endRound (w.heap.size + 1) jump).run P W3 = .ok (.bool jump.isNone) (W3.putObj (w.heap.size + 1) (.loop (rec (if jump.isNone then .ready else .done) jump))) ∧
          (W3.putObj (w.heap.size + 1) (.loop (rec (if jump.isNone then .ready else .done) jump))).heap[w.heap.size + 1]? = some (.loop (rec (if jump.isNone then .ready else .done) jump)) ∧
          (W3.putObj (w.heap.size + 1) (.loop (rec (if jump.isNone then .ready else .done) jump))).heap[w.heap.size]? = some (.deferred (some [])) := fun jump W3 hk3 => by
        have hl3 := (hk3.block _ (Array.getElem?_eq_some_iff.1 hl2).1 (fun x => by have := hS _ x; omega)).trans hl2
        have hd3 := (hk3.block _ (Array.getElem?_eq_some_iff.1 hk2).1 (fun x => by have := hS _ x; omega)).trans hk2
        have := run_endRound (P := P) jump hl3
        rw [hrec] at this ⊢
        exact ⟨this, World.putObj_heap_same (Array.getElem?_eq_some_iff.1 hl3).1, (World.putObj_heap_other (by omega)).trans hd3⟩
      have keep : ∀ (W3 : World) (o : Obj), Fr S (W.putObj (w.heap.size + 1) (.loop { rec .ready none with state := .busy })) W3 → Fr (fun b => ¬ dep b) Wb (W3.putObj (w.heap.size + 1) o) := fun W3 o hk3 => by
        have hnd : ¬ dep (w.heap.size + 1) := fun x => by have := hdep _ x; omega
        exact (hkfa.mono (fun b _ hb => hSd b hb)).trans <| ((hf2 W _ hnd).trans (hk3.mono (fun b _ hb => hSd b hb))).trans (hf2 W3 _ hnd)
      rintro e a3 W3 hp
      cases e with
      | normal =>
        obtain ⟨hk3, hi3⟩ := hp
        obtain ⟨hr, hl4, hk4⟩ := fin none W3 hk3
        exact ⟨_, _, hr, .inl ⟨rfl, ⟨hI _ _ _ hi3 (hf2 _ _ (.inr (.inr rfl))), hl4, hk4⟩, keep _ _ hk3⟩⟩
      | ret =>
        obtain ⟨hk3, hi3⟩ := hp
        obtain ⟨hr, hl4, hk4⟩ := fin (some .ret) W3 hk3
        exact ⟨_, _, hr, .inr ⟨rfl, .ret, hIx _ _ _ _ hi3 (hf2 _ _ (.inr (.inr rfl))), hl4, hk4⟩⟩
      | exit id =>
        obtain ⟨hk3, hi3⟩ := hp
        obtain ⟨hr, hl4, hk4⟩ := fin (some (.exit id)) W3 hk3
        exact ⟨_, _, hr, .inr ⟨rfl, .exit id, hIx _ _ _ _ hi3 (hf2 _ _ (.inr (.inr rfl))), hl4, hk4⟩⟩
      | goto t =>
        obtain ⟨hk3, hi3⟩ := hp
        obtain ⟨hr, hl4, hk4⟩ := fin (some (.goto t)) W3 hk3
        exact ⟨_, _, hr, .inr ⟨rfl, .goto t, hIx _ _ _ _ hi3 (hf2 _ _ (.inr (.inr rfl))), hl4, hk4⟩⟩
      | panic ch => exact hp.elim
      | outgrown => exact hp.elim
    · rintro e W2 ⟨⟨v, rfl⟩, (⟨hi, hl, hk⟩ | ⟨k, hkl, c, hi, hl, hk⟩)⟩
      · exact ⟨none, _, by have := run_endLoop (P := P) hl (by rw [hrec]; simp); rw [hrec] at this; exact this, hdone _ (hI _ _ _ hi (Fr.putObj _ _ _ (.inr (.inr rfl)))) ((World.putObj_heap_other (by omega)).trans hk)⟩
      · exact ⟨some c, _, by have := run_endLoop (P := P) hl (by rw [hrec]; simp); rw [hrec] at this; exact this, hstop c k _ hkl (hIx c _ _ _ hi (Fr.putObj _ _ _ (.inr (.inr rfl)))) ((World.putObj_heap_other (by omega)).trans hk)⟩

theorem boxed_putObj {W : World} {b D : Nat} {t : TypeId} {v : Value} (h : Boxed W b t v) (hne : b ≠ D) (o : Obj) : Boxed (W.putObj D o) b t v :=
  (World.putObj_heap_other hne).trans h
/-- A function that held one range over an iterator returns. -/
theorem leave_mark {fn : Func} {tmps : Array Value} {R : Ending → World → Prop} {D : Nat} {W : World} {v : Value}
    (hK : W.heap[D]? = some (.deferred (some []))) (hr : (results fn tmps).run P (W.putObj D (.deferred none)) = .ok v (W.putObj D (.deferred none)))
    (hR : R (.returned v) (W.putObj D (.deferred none))) : LeavesInM Fence.wide 0 P fn tmps R [{ target := .collected D, args := #[] }] .returning W :=
  ⟨by simp, .inl ⟨_, _, rfl, run_takeDeferred hK, ⟨v, hr, hR⟩⟩⟩
theorem below_putObj {n D : Nat} {A W : World} (h : Below n A W) (hD : n ≤ D) (hn : n ≤ W.heap.size) (o : Obj) : Below n A (W.putObj D o) :=
  h.trans ((Fr.putObj (S := fun b => b = D) W D o rfl).below hn (fun k hk => by omega))

/-- It returns v; what lay, lies. -/
def Ret (v : Value) (w : World) (e : Ending) (w' : World) : Prop := e = .returned v ∧ Ext w w'

end Go.Proofs.YteemkkmkkgfofaaGreatDoor
