/- Ranges over iterators whose blocks are told apart by the type of their cells: C names the types that the caller's rounds may write, and that the iterator never writes. Slices of one-cell elements: what a value reads as, and how an append of one's own grows it. Slices of elements of several cells: how a value reads as a list. Lists from the last element on, with their places: what slices.Backward hands out. -/
import Derived.Test.YtmdmbdbbpdojnaaGreatDoorM01
import Derived.Lib.Hide
namespace Go.Proofs.YtmdmbdbbpdojnaaGreatDoor
open Go.RowKit
/-- A block of cells of one of the types C. -/
def CC (C : TypeId → Prop) (A : World) (k : Nat) : Prop := ∃ c t f, A.heap[k]? = some (.cells c t f) ∧ C t
/-- What a round may do: new blocks, and writes to blocks of the types C, or of S. -/
structure KpS (S : Nat → Prop) (C : TypeId → Prop) (A B : World) : Prop where
  os : B.os = A.os
  tape : B.tape = A.tape
  output : B.output = A.output
  size : A.heap.size ≤ B.heap.size
  block : ∀ k, k < A.heap.size → ¬ CC C A k → ¬ S k → B.heap[k]? = A.heap[k]?
abbrev Kp (C : TypeId → Prop) (A B : World) : Prop := KpS (fun _ => False) C A B
/-- What the iterator may do: new blocks, and writes to blocks from n0 on that are not of the types C. -/
structure St (n0 : Nat) (C : TypeId → Prop) (A B : World) : Prop where
  os : B.os = A.os
  tape : B.tape = A.tape
  output : B.output = A.output
  size : A.heap.size ≤ B.heap.size
  block : ∀ k, k < A.heap.size → (k < n0 ∨ CC C A k) → B.heap[k]? = A.heap[k]?
variable {C : TypeId → Prop} {n0 : Nat}
theorem CC.of_eq {A B : World} {k : Nat} (h : B.heap[k]? = A.heap[k]?) : CC C B k ↔ CC C A k := by simp only [CC, h]
theorem not_cc {A : World} {k : Nat} {o : Obj} (h : A.heap[k]? = some o) (ho : ∀ c t f, o = .cells c t f → ¬ C t) : ¬ CC C A k := by
  rintro ⟨c, t, f, h1, h2⟩
  rw [h] at h1
  exact ho _ _ _ (Option.some.inj h1) h2
variable {S : Nat → Prop}
theorem KpS.refl (A : World) : KpS S C A A := ⟨rfl, rfl, rfl, Nat.le_refl _, fun _ _ _ _ => rfl⟩
theorem KpS.trans {A B D : World} (h : KpS S C A B) (k : KpS S C B D) : KpS S C A D :=
  ⟨k.os.trans h.os, k.tape.trans h.tape, k.output.trans h.output, Nat.le_trans h.size k.size,
   fun i hi hs hn => (k.block i (Nat.lt_of_lt_of_le hi h.size) (fun x => hs ((CC.of_eq (h.block i hi hs hn)).1 x)) hn).trans (h.block i hi hs hn)⟩
theorem KpS.mono {T : Nat → Prop} {A B : World} (h : KpS S C A B) (hs : ∀ k, S k → T k) : KpS T C A B :=
  ⟨h.os, h.tape, h.output, h.size, fun i hi hc ht => h.block i hi hc (fun x => ht (hs i x))⟩
theorem KpS.of_ext {A B : World} (h : Ext A B) : KpS S C A B := ⟨h.os, h.tape, h.output, h.size, fun i hi _ _ => h.block i hi⟩
theorem KpS.setCell (A : World) (p : Addr) (v : Value) (hp : CC C A p.block) : KpS S C A (A.setCell p v) :=
  ⟨rfl, rfl, rfl, by simp [World.setCell], fun k _ hs _ => Below.heap_setCell _ _ _ _ (fun e => hs (e ▸ hp))⟩
theorem KpS.obj {A B : World} (h : KpS S C A B) {k : Nat} {o : Obj} (hk : A.heap[k]? = some o) (ho : ∀ c t f, o = .cells c t f → ¬ C t) (hs : ¬ S k) : B.heap[k]? = some o :=
  (h.block k (Array.getElem?_eq_some_iff.1 hk).1 (not_cc hk ho) hs).trans hk
theorem KpS.boxed {A B : World} (h : KpS S C A B) {b : Nat} {t : TypeId} {v : Value} (hb : Boxed A b t v) (ht : ¬ C t) (hs : ¬ S b) : Boxed B b t v :=
  h.obj hb (fun _ _ _ e => by cases e; exact ht) hs
theorem St.refl (n0 : Nat) (A : World) : St n0 C A A := ⟨rfl, rfl, rfl, Nat.le_refl _, fun _ _ _ => rfl⟩
theorem St.trans {A B D : World} (h : St n0 C A B) (k : St n0 C B D) : St n0 C A D :=
  ⟨k.os.trans h.os, k.tape.trans h.tape, k.output.trans h.output, Nat.le_trans h.size k.size,
   fun i hi hs => (k.block i (Nat.lt_of_lt_of_le hi h.size) (hs.imp_right fun x => (CC.of_eq (h.block i hi hs)).2 x)).trans (h.block i hi hs)⟩
theorem St.of_ext {A B : World} (h : Ext A B) : St n0 C A B := ⟨h.os, h.tape, h.output, h.size, fun i hi _ => h.block i hi⟩
theorem St.mono {n1 : Nat} {A B : World} (h : St n1 C A B) (hn : n0 ≤ n1) : St n0 C A B :=
  ⟨h.os, h.tape, h.output, h.size, fun i hi hs => h.block i hi (hs.imp_left fun x => Nat.lt_of_lt_of_le x hn)⟩
theorem St.below {A B : World} (h : St n0 C A B) (hn : n0 ≤ A.heap.size) : Below n0 A B :=
  ⟨h.os, h.tape, h.output, h.size, fun i hi => h.block i (by omega) (.inl hi)⟩
theorem St.putObj {A : World} {l : Nat} {o o' : Obj} (hl : A.heap[l]? = some o) (hn : n0 ≤ l) (ho : ∀ c t f, o ≠ .cells c t f) : St n0 C A (A.putObj l o') := by
  refine ⟨rfl, rfl, rfl, by simp, fun k _ hs => World.putObj_heap_other (fun e => ?_)⟩
  subst e
  rcases hs with hs | ⟨c, t, f, h1, -⟩
  · omega
  · rw [hl] at h1; exact ho c t f (Option.some.inj h1)
theorem St.boxed {A B : World} (h : St n0 C A B) {b : Nat} {t : TypeId} {v : Value} (hb : Boxed A b t v) (ht : C t ∨ b < n0) : Boxed B b t v :=
  (h.block b hb.lt (ht.symm.imp_right fun ht => ⟨_, _, _, hb, ht⟩)).trans hb
/-- The iterator's word. -/
def Iter2 {α : Type} (P : Program) (g : Nat) (lb : Array Value) (enc : α → Array Value) (xs : List α) (C : TypeId → Prop) (Ok : World → Prop) : Prop :=
  ∀ (l : Nat) (S : Nat → Prop) (J Jx : Nat → World → Prop) (W : World), Ok W → l < W.heap.size → (∀ b, S b → b < W.heap.size) →
    (∀ k A B, J k A → St W.heap.size C A B → J k B) → (∀ k A B, Jx k A → St W.heap.size C A B → Jx k B) →
    (∀ k x W1, xs[k]? = some x → J k W1 → W.heap.size ≤ W1.heap.size → YieldAt Fence.wide 0 P l (enc x) W1 fun e W' =>
      (e = .returned (.bool true) ∧ J (k + 1) W' ∧ Kp C W1 W') ∨ (e = .returned (.bool false) ∧ Jx (k + 1) W' ∧ KpS (fun b => b = l ∨ S b) C W1 W')) →
    J 0 W →
    CallsIn Fence.wide 0 P g (#[.func (.yield l) #[] #[]] ++ lb) W fun e W' => (∃ v, e = .returned v) ∧ (J xs.length W' ∨ ∃ k, k ≤ xs.length ∧ Jx k W')
/-- How a round's body may be left. -/
def roundEnd2 (S : Nat → Prop) (C : TypeId → Prop) (I : Nat → World → Prop) (Ix : Code → Nat → World → Prop) (k : Nat) (W : World) : Exit → Act → World → Prop
  | .normal, _, W' => Kp C W W' ∧ I k W'
  | .ret, _, W' => KpS S C W W' ∧ Ix .ret k W'
  | .exit id, _, W' => KpS S C W W' ∧ Ix (.exit id) k W'
  | .goto t, _, W' => KpS S C W W' ∧ Ix (.goto t) k W'
  | .panic _, _, _ => False
  | .outgrown, _, _ => False
/-- What the assignments at a round's head must come to. -/
def BodyAt2 (P : Program) (S : Nat → Prop) (C : TypeId → Prop) (I : Nat → World → Prop) (Ix : Code → Nat → World → Prop) (l k : Nat) (body : Code) (W : World) (a₁ : Act) (W₁ : World) : Prop :=
  Kp C W W₁ ∧ I k W₁ ∧ ∀ Wb, I k Wb → Fr (fun b => b = l) W₁ Wb → Wb.heap.size = W₁.heap.size → body.wpIn (Fence.wide.inRound l) 0 P (roundEnd2 S C I Ix (k + 1) Wb) a₁ Wb
variable {P : Program}
/-- THE LAW: a range over an iterator, in a plain frame. -/
theorem range_law2 {α : Type} {g : Operand} {ps : Array Tmp} {assign body : Code} {Q : Exit → Act → World → Prop} {a : Act} {w : World}
    {gf : Nat} {lb : Array Value} (hg : a.eval g = .func (.func gf) #[] lb) (eg : ∀ args w, (callFunc gf args).run P w = .ok (.enter gf args) w)
    {enc : α → Array Value} {xs : List α} {Ok : World → Prop} (hit : Iter2 P gf lb enc xs C Ok)
    (hOk : ∀ o1 o2, Ok ((w.alloc o1).alloc o2))
    (hps : ∀ x, (enc x).size = ps.size) (S : Nat → Prop) (hS : ∀ b, S b → b < w.heap.size)
    (I : Nat → World → Prop) (Ix : Code → Nat → World → Prop)
    (hI : ∀ k A B, I k A → St w.heap.size C A B → I k B)
    (hIx : ∀ c k A B, Ix c k A → St w.heap.size C A B → Ix c k B)
    (h0 : I 0 w)
    (hround : ∀ (l k : Nat) (x : α) (W : World), xs[k]? = some x → l = w.heap.size + 1 → w.heap.size + 2 ≤ W.heap.size → I k W →
      assign.wpIn (Fence.wide.inRound l) 0 P (Exit.then (BodyAt2 P S C I Ix l k body W) (fun _ _ _ => False)) { tmps := (ps.zip (enc x)).foldl (fun t (p, v) => t.setIfInBounds p v) a.tmps, defers := [] } W)
    (hdone : ∀ (W : World), I xs.length W → W.heap[w.heap.size]? = some (.deferred (some [])) → Q .normal { a with defers := { target := .collected w.heap.size, args := #[] } :: a.defers } W)
    (hstop : ∀ (c : Code) (k : Nat) (W : World), k ≤ xs.length → Ix c k W → W.heap[w.heap.size]? = some (.deferred (some [])) →
      c.wpIn Fence.wide 0 P Q { a with defers := { target := .collected w.heap.size, args := #[] } :: a.defers } W) :
    (Code.rangeFunc g ps assign body).wpIn Fence.wide 0 P Q a w := by
  refine wpIn_rangeFunc ?_
  intro fn hfn
  obtain ⟨rec, hrec⟩ : ∃ rec : LoopState → Option Code → Loop, rec = fun st pe => { state := st, pending := pe, fn, tmps := a.tmps, params := ps, assign, body, defers := w.heap.size } := ⟨_, rfl⟩
  obtain ⟨W1, hW1⟩ : ∃ W1, (w.alloc (.deferred (some []))).alloc (.loop (rec .ready none)) = W1 := ⟨_, rfl⟩
  have hZ1 : W1.heap.size = w.heap.size + 2 := by rw [← hW1]; simp
  have hL1 : W1.heap[w.heap.size + 1]? = some (.loop (rec .ready none)) := by
    rw [← hW1]; have := World.alloc_heap_new (w.alloc (.deferred (some []))) (.loop (rec .ready none)); rwa [World.size_alloc] at this
  have hK1 : W1.heap[w.heap.size]? = some (.deferred (some [])) := by
    rw [← hW1]; exact (Below.heap_alloc _ _ _ (by simp)).trans (World.alloc_heap_new w _)
  have hI1 : I 0 W1 := by rw [← hW1]; exact hI _ _ _ h0 (St.of_ext (ext_trans ((Below.refl _ w).alloc (Nat.le_refl _) _) ((Below.refl _ _).alloc (Nat.le_refl _) _)))
  have hO1 : Ok W1 := by rw [← hW1]; exact hOk _ _
  have nl : ∀ (L : Loop), ∀ c t f, Obj.loop L ≠ .cells c t f := fun _ _ _ _ h => by cases h
  have nc : ∀ (L : Loop), ∀ c t f, Obj.loop L = .cells c t f → ¬ C t := fun _ _ _ _ h => by cases h
  have ncd : ∀ c t f, Obj.deferred (some []) = .cells c t f → ¬ C t := fun _ _ _ h => by cases h
  have hput : ∀ {A : World} {L : Loop} {o : Obj}, A.heap[w.heap.size + 1]? = some (.loop L) → St w.heap.size C A (A.putObj (w.heap.size + 1) o) := fun h => St.putObj h (by omega) (nl _)
  refine ⟨w.heap.size + 1, [{ target := .collected w.heap.size, args := #[] }], W1, { target := .fn (.func gf) lb, args := #[.func (.yield (w.heap.size + 1)) #[] #[]] }, W1, gf,
    #[.func (.yield (w.heap.size + 1)) #[] #[]] ++ lb, W1, ?_, ?_, fun _ _ => trivial, ?_, fun h => by simp [Fence.wide] at h, ?_⟩
  · rw [← hW1, hrec]; exact run_enterLoop_outer _ _ _ _ _
  · simp only [resolve, hg]
    simp [go_sem]
  · simp [invoke, go_sem, eg]
  · have hno : ∀ {A B : World} {j : Nat} {o : Obj}, St W1.heap.size C A B → j < w.heap.size + 2 → A.heap[j]? = some o → B.heap[j]? = some o :=
      fun hf hj ho => (hf.block _ (Array.getElem?_eq_some_iff.1 ho).1 (.inl (by omega))).trans ho
    refine (hit (w.heap.size + 1) S
      (fun k W => I k W ∧ W.heap[w.heap.size + 1]? = some (.loop (rec .ready none)) ∧ W.heap[w.heap.size]? = some (.deferred (some [])))
      (fun k W => ∃ c, Ix c k W ∧ W.heap[w.heap.size + 1]? = some (.loop (rec .done (some c))) ∧ W.heap[w.heap.size]? = some (.deferred (some [])))
      W1 hO1 (by omega) (fun b hb => by have := hS b hb; omega)
      (fun k A B hs hf => ⟨hI k A B hs.1 (hf.mono (by omega)), hno hf (by omega) hs.2.1, hno hf (by omega) hs.2.2⟩)
      (fun k A B hs hf => by
        obtain ⟨c, hc, hl, hk⟩ := hs
        exact ⟨c, hIx c k A B hc (hf.mono (by omega)), hno hf (by omega) hl, hno hf (by omega) hk⟩)
      ?_ ⟨hI1, hL1, hK1⟩).mono ?_
    · rintro k x W hx ⟨hi, hl, hk⟩ -
      have hlt : w.heap.size + 1 < W.heap.size := (Array.getElem?_eq_some_iff.1 hl).1
      have hy := run_yield (P := P) (args := enc x) hl (by rw [hrec]; exact hps x)
      rw [hrec] at hy
      refine ⟨fn, _, assign, body, hy, roundIn_of_wpIn hfn (wpIn_mono (hround _ k x W hx rfl (by omega) hi) ?_)⟩
      clear hy
      rintro e a1 Wa hp
      cases e with
      | exit id => exact hp.elim
      | goto t => exact hp.elim
      | ret => exact hp.elim
      | panic ch => exact hp.elim
      | outgrown => exact hp.elim
      | normal =>
      obtain ⟨hkfa, hia, hba⟩ := hp
      have hlb := hl
      replace hl := hkfa.obj hl (nc _) (fun x => x)
      replace hk := hkfa.obj hk ncd (fun x => x)
      replace hlt : w.heap.size + 1 < Wa.heap.size := (Array.getElem?_eq_some_iff.1 hl).1
      replace hi := hia
      clear hia
      revert hlb hba hkfa
      generalize W = Wb
      intro hkfa hba hlb
      obtain ⟨W, rfl⟩ : ∃ W, W = Wa := ⟨_, rfl⟩
      refine ⟨_, run_beginRound hl (by rw [hrec]), ?_⟩
      have hl2 : (W.putObj (w.heap.size + 1) (.loop { rec .ready none with state := .busy })).heap[w.heap.size + 1]? = some (.loop { rec .ready none with state := .busy }) := World.putObj_heap_same hlt
      have hk2 : (W.putObj (w.heap.size + 1) (.loop { rec .ready none with state := .busy })).heap[w.heap.size]? = some (.deferred (some [])) := (World.putObj_heap_other (by omega)).trans hk
      refine wpIn_mono (hba _ (hI _ _ _ hi (hput hl)) (Fr.putObj W _ _ rfl) (by simp)) ?_
      have hns : ∀ j, w.heap.size ≤ j → ¬ S j := fun j hj x => by have := hS _ x; omega
      have fin : ∀ (jump : Option Code) (W3 : World), KpS S C (W.putObj (w.heap.size + 1) (.loop { rec .ready none with state := .busy })) W3 →
          (Instr.endRound (w.heap.size + 1) jump).run P W3 = .ok (.bool jump.isNone) (W3.putObj (w.heap.size + 1) (.loop (rec (if jump.isNone then .ready else .done) jump))) ∧
          (W3.putObj (w.heap.size + 1) (.loop (rec (if jump.isNone then .ready else .done) jump))).heap[w.heap.size + 1]? = some (.loop (rec (if jump.isNone then .ready else .done) jump)) ∧
          (W3.putObj (w.heap.size + 1) (.loop (rec (if jump.isNone then .ready else .done) jump))).heap[w.heap.size]? = some (.deferred (some [])) ∧
          (∃ L, W3.heap[w.heap.size + 1]? = some (.loop L)) := fun jump W3 hk3 => by
        have hl3 := hk3.obj hl2 (nc _) (hns _ (by omega))
        have hd3 := hk3.obj hk2 ncd (hns _ (by omega))
        have := run_endRound (P := P) jump hl3
        rw [hrec] at this ⊢
        exact ⟨this, World.putObj_heap_same (Array.getElem?_eq_some_iff.1 hl3).1, (World.putObj_heap_other (by omega)).trans hd3, _, hl3⟩
      have keep : ∀ (W3 : World) (o : Obj) (T : Nat → Prop), KpS T C (W.putObj (w.heap.size + 1) (.loop { rec .ready none with state := .busy })) W3 →
          KpS (fun b => b = w.heap.size + 1 ∨ T b) C Wb (W3.putObj (w.heap.size + 1) o) := fun W3 o T hk3 => by
        refine ⟨hk3.os.trans hkfa.os, hk3.tape.trans hkfa.tape, hk3.output.trans hkfa.output, by have := hk3.size; have := hkfa.size; simp at *; omega, fun k hk hs hne => ?_⟩
        have e1 := hkfa.block k hk hs (fun x => x)
        have e2 : (W.putObj (w.heap.size + 1) (.loop { rec .ready none with state := .busy })).heap[k]? = W.heap[k]? := World.putObj_heap_other (fun x => hne (.inl x))
        have e3 := hk3.block k (by have := hkfa.size; simp; omega) (fun x => hs ((CC.of_eq (e2.trans e1)).1 x)) (fun x => hne (.inr x))
        exact (World.putObj_heap_other (fun x => hne (.inl x))).trans (e3.trans (e2.trans e1))
      rintro e a3 W3 hp
      cases e with
      | normal =>
        obtain ⟨hk3, hi3⟩ := hp
        obtain ⟨hr, hl4, hk4, L, hL⟩ := fin none W3 (hk3.mono (fun _ h => h.elim))
        refine ⟨_, _, hr, .inl ⟨rfl, ⟨hI _ _ _ hi3 (hput hL), hl4, hk4⟩, ?_⟩⟩
        have hkk := keep W3 (.loop (rec (if (none : Option Code).isNone then .ready else .done) none)) _ hk3
        refine ⟨hkk.os, hkk.tape, hkk.output, hkk.size, fun k hk hs _ => ?_⟩
        by_cases hkl : k = w.heap.size + 1
        · subst hkl; exact hl4.trans hlb.symm
        · exact hkk.block k hk hs (fun h => h.elim hkl (fun h => h))
      | ret =>
        obtain ⟨hk3, hi3⟩ := hp
        obtain ⟨hr, hl4, hk4, L, hL⟩ := fin (some .ret) W3 hk3
        exact ⟨_, _, hr, .inr ⟨rfl, ⟨.ret, hIx _ _ _ _ hi3 (hput hL), hl4, hk4⟩, keep _ _ _ hk3⟩⟩
      | exit id =>
        obtain ⟨hk3, hi3⟩ := hp
        obtain ⟨hr, hl4, hk4, L, hL⟩ := fin (some (.exit id)) W3 hk3
        exact ⟨_, _, hr, .inr ⟨rfl, ⟨.exit id, hIx _ _ _ _ hi3 (hput hL), hl4, hk4⟩, keep _ _ _ hk3⟩⟩
      | goto t =>
        obtain ⟨hk3, hi3⟩ := hp
        obtain ⟨hr, hl4, hk4, L, hL⟩ := fin (some (.goto t)) W3 hk3
        exact ⟨_, _, hr, .inr ⟨rfl, ⟨.goto t, hIx _ _ _ _ hi3 (hput hL), hl4, hk4⟩, keep _ _ _ hk3⟩⟩
      | panic ch => exact hp.elim
      | outgrown => exact hp.elim
    · rintro e W2 ⟨⟨v, rfl⟩, (⟨hi, hl, hk⟩ | ⟨k, hkl, c, hi, hl, hk⟩)⟩
      · exact ⟨none, _, by have := run_endLoop (P := P) hl (by rw [hrec]; simp); rw [hrec] at this; exact this, hdone _ (hI _ _ _ hi (hput hl)) ((World.putObj_heap_other (by omega)).trans hk)⟩
      · exact ⟨some c, _, by have := run_endLoop (P := P) hl (by rw [hrec]; simp); rw [hrec] at this; exact this, hstop c k _ hkl (hIx c _ _ _ hi (hput hl)) ((World.putObj_heap_other (by omega)).trans hk)⟩

/-- The marks that a frame has gathered, the newest first. -/
def Marks (n0 : Nat) (W : World) : Nat → List Deferred → Prop
  | _, [] => True
  | hi, d :: ds => ∃ D, d = { target := .collected D, args := #[] } ∧ D < hi ∧ n0 ≤ D ∧ W.heap[D]? = some (.deferred (some [])) ∧ Marks n0 W D ds
theorem Marks.le {n0 : Nat} {W : World} {hi hi' : Nat} {ds : List Deferred} (h : Marks n0 W hi ds) (hh : hi ≤ hi') : Marks n0 W hi' ds := by
  cases ds with
  | nil => trivial
  | cons d ds => obtain ⟨D, h1, h2, h3⟩ := h; exact ⟨D, h1, by omega, h3⟩
theorem Marks.of_eq {n0 : Nat} {A B : World} : ∀ {ds : List Deferred} {hi : Nat}, Marks n0 A hi ds → (∀ k, k < hi → A.heap[k]? = some (.deferred (some [])) → B.heap[k]? = some (.deferred (some []))) → Marks n0 B hi ds := by
  intro ds
  induction ds with
  | nil => intro hi _ _; trivial
  | cons d ds ih =>
    intro hi h hab
    obtain ⟨D, h1, h2, h3, h4, h5⟩ := h
    exact ⟨D, h1, h2, h3, hab D h2 h4, ih h5 (fun k hk => hab k (by omega))⟩
theorem Marks.kp {n0 : Nat} {A B : World} {ds : List Deferred} {hi : Nat} (h : Marks n0 A hi ds) (k : Kp C A B) : Marks n0 B hi ds :=
  h.of_eq fun _ _ hd => k.obj hd (fun _ _ _ e => by cases e) (fun x => x)
theorem Marks.st {n0 : Nat} {A B : World} {ds : List Deferred} {hi : Nat} (h : Marks n0 A hi ds) (hh : hi ≤ A.heap.size) {n1 : Nat} (hn : hi ≤ n1) (k : St n1 C A B) : Marks n0 B hi ds :=
  h.of_eq fun i hi' hd => (k.block i (by omega) (.inl (by omega))).trans hd
theorem Marks.ext {n0 : Nat} {A B : World} {ds : List Deferred} {hi : Nat} (h : Marks n0 A hi ds) (k : Ext A B) : Marks n0 B hi ds :=
  h.of_eq fun i _ hd => (k.block i (Array.getElem?_eq_some_iff.1 hd).1).trans hd
/-- A function that held ranges over iterators returns. -/
theorem leave_marks {fn : Func} {tmps : Array Value} {R : Ending → World → Prop} {n0 : Nat} {v : Value} : ∀ (ds : List Deferred) (hi : Nat) (W : World), Marks n0 W hi ds →
    (∀ W', W'.heap.size = W.heap.size → W'.os = W.os → W'.tape = W.tape → W'.output = W.output → (∀ k, k < n0 → W'.heap[k]? = W.heap[k]?) →
      (∀ (k : Nat) (c : Array Value) (t : TypeId) (f : Nat × Nat), W.heap[k]? = some (.cells c t f) → W'.heap[k]? = some (.cells c t f)) → (results fn tmps).run P W' = .ok v W' ∧ R (.returned v) W') →
    LeavesInM Fence.wide 0 P fn tmps R ds .returning W := by
  intro ds
  induction ds with
  | nil =>
    intro hi W _ h
    obtain ⟨h1, h2⟩ := h W rfl rfl rfl rfl (fun _ _ => rfl) (fun _ _ _ _ h => h)
    exact ⟨v, h1, h2⟩
  | cons d ds ih =>
    intro hi W hm h
    obtain ⟨D, rfl, h2, h3, h4, h5⟩ := hm
    refine ⟨by simp, .inl ⟨D, _, rfl, run_takeDeferred h4, ih D _ (h5.of_eq fun k hk hd => (World.putObj_heap_other (by omega)).trans hd) ?_⟩⟩
    intro W' s1 s2 s3 s4 s5 s6
    refine h W' (by rw [s1]; simp) s2 s3 s4 (fun k hk => (s5 k hk).trans (World.putObj_heap_other (by omega))) (fun k c t f hk => s6 k c t f ((World.putObj_heap_other (fun e => ?_)).trans hk))
    subst e; rw [h4] at hk; cases hk

end Go.Proofs.YtmdmbdbbpdojnaaGreatDoor
namespace Go.Proofs.YtmdmbdbbpdojnaaGreatDoor
open Go.RowKit

/-- From cell off of block b on there lie vs. -/
def Cells (w : World) (b off : Nat) (vs : List Value) : Prop := ∀ i x, vs[i]? = some x → w.cell? ⟨b, off + i, none⟩ = some x
theorem cell_lt' {w : World} {p : Addr} {v : Value} (h : w.cell? p = some v) : p.block < w.heap.size := by
  unfold World.cell? at h
  rcases Nat.lt_or_ge p.block w.heap.size with h1 | h1
  · exact h1
  · rw [Array.getElem?_eq_none h1] at h; cases h
theorem Cells.ext {w w' : World} {b off : Nat} {vs : List Value} (h : Cells w b off vs) (hE : Ext w w') : Cells w' b off vs :=
  fun i x hx => (hE.cell (p := ⟨b, off + i, none⟩) (cell_lt' (h i x hx))).trans (h i x hx)
theorem Cells.fr {S : Nat → Prop} {w w' : World} {b off : Nat} {vs : List Value} (h : Cells w b off vs) (hF : Fr S w w') (hb : ¬ S b) : Cells w' b off vs :=
  fun i x hx => (hF.cell (p := ⟨b, off + i, none⟩) (cell_lt' (h i x hx)) hb).trans (h i x hx)
theorem Cells.drop {w : World} {b off : Nat} {vs : List Value} (h : Cells w b off vs) (k : Nat) : Cells w b (off + k) (vs.drop k) := fun i x hx => by
  rw [List.getElem?_drop] at hx
  have := h (k + i) x hx
  rwa [← Nat.add_assoc] at this
/-- v is a slice that reads as vs. -/
def Sl (w : World) (v : Value) (vs : List Value) : Prop :=
  (vs = [] ∧ v = .slice none 0 0) ∨ ∃ b off cap, v = .slice (some ⟨b, off, none⟩) vs.length cap ∧ vs.length ≤ cap ∧ cap ≤ maxLen ∧ Cells w b off vs
theorem Sl.nil (w : World) : Sl w (.slice none 0 0) [] := .inl ⟨rfl, rfl⟩
theorem Sl.ext {w w' : World} {v : Value} {vs : List Value} (h : Sl w v vs) (hE : Ext w w') : Sl w' v vs := by
  rcases h with h | ⟨b, off, cap, h1, h2, h3, h4⟩
  · exact .inl h
  · exact .inr ⟨b, off, cap, h1, h2, h3, h4.ext hE⟩
theorem Sl.own {w : World} {base : Nat} {e : TypeId} {v : Value} {n : Nat} {xs : List Value} (h : w.ownsRow base e 1 v n xs) : Sl w v xs := by
  obtain ⟨h0, h1⟩ := h
  rcases h1 with ⟨hv, hn⟩ | ⟨g, cap, cur, hv, hg, hh, hc, hm, hcs, hx⟩
  · subst hn; exact .inl ⟨List.eq_nil_of_length_eq_zero (by omega), hv⟩
  · refine .inr ⟨g, 0, cap, by rw [hv]; congr 1; omega, by omega, hm, fun i x hi => ?_⟩
    rw [← hx, List.getElem?_take] at hi
    split at hi
    · simp only [World.cell?, hh]; simpa using hi
    · cases hi
theorem Sl.form {w : World} {v : Value} {vs : List Value} (h : Sl w v vs) : ∃ a cap, v = .slice a vs.length cap := by
  rcases h with ⟨rfl, rfl⟩ | ⟨b, off, cap, rfl, _⟩
  · exact ⟨_, _, rfl⟩
  · exact ⟨_, _, rfl⟩
theorem Ext.grown {A w w' : World} {row : Option Nat} (h : Ext A w) (hg : w.grownBy w' row) (hr : ∀ k, row = some k → A.heap.size ≤ k) : Ext A w' := Below.grown h hg h.size hr
theorem own_ge {w : World} {base : Nat} {e : TypeId} {size : Nat} {v : Value} {n : Nat} {xs : List Value} (h : w.ownsRow base e size v n xs) : ∀ k, v.ownBlock = some k → base ≤ k :=
  fun k hk => (h.lt k hk).1
theorem one_cell_new (w : World) (v : Value) (t : TypeId) : ∀ (j : Nat) (u : Value), [v][j]? = some u → (w.alloc (.cells #[v] t)).cell? ((⟨w.heap.size, 0, none⟩ : Addr).add j) = some u := by
  intro j u h
  cases j with
  | zero => simp at h; subst h; simp [Addr.add, go_sem]
  | succ j => simp at h
end Go.Proofs.YtmdmbdbbpdojnaaGreatDoor
namespace Go.Proofs.YtmdmbdbbpdojnaaGreatDoor
open Go.RowKit

/-- How one element lies in memory: at a block, from an offset on. -/
abbrev ElR (α : Type) := World → Nat → Nat → α → Prop
/-- A reading that no new block and no foreign store turns. -/
class Firm {α : Type} (R : ElR α) : Prop where
  ext : ∀ {w w' : World} {b o : Nat} {x : α}, R w b o x → Ext w w' → R w' b o x
/-- From address a on there lie l, each of n cells. -/
def SlA {α : Type} (n : Nat) (R : ElR α) (w : World) (a : Option Addr) (l : List α) : Prop :=
  ∀ i x, l[i]? = some x → ∃ b off, a = some ⟨b, off, none⟩ ∧ R w b (off + i * n) x
theorem SlA.ext {α : Type} {n : Nat} {R : ElR α} [Firm R] {w w' : World} {a : Option Addr} {l : List α} (h : SlA n R w a l) (hE : Ext w w') : SlA n R w' a l := fun i x hx => by
  obtain ⟨b, off, ha, hR⟩ := h i x hx
  exact ⟨b, off, ha, Firm.ext hR hE⟩
theorem SlA.nil {α : Type} (n : Nat) (R : ElR α) (w : World) (a : Option Addr) : SlA n R w a [] := fun i x hx => by simp at hx
theorem SlA.take {α : Type} {n : Nat} {R : ElR α} {w : World} {a : Option Addr} {l : List α} (h : SlA n R w a l) (k : Nat) : SlA n R w a (l.take k) := fun i x hx => by
  rw [List.getElem?_take] at hx
  split at hx
  · exact h i x hx
  · cases hx
/-- v is a slice that reads as l. -/
def SlV {α : Type} (n : Nat) (R : ElR α) (w : World) (v : Value) (l : List α) : Prop :=
  ∃ a cap, v = .slice a l.length cap ∧ l.length ≤ cap ∧ cap ≤ maxLen ∧ SlA n R w a l
theorem SlV.ext {α : Type} {n : Nat} {R : ElR α} [Firm R] {w w' : World} {v : Value} {l : List α} (h : SlV n R w v l) (hE : Ext w w') : SlV n R w' v l := by
  obtain ⟨a, cap, h1, h2, h3, h4⟩ := h
  exact ⟨a, cap, h1, h2, h3, h4.ext hE⟩
theorem ext_alloc {w w' : World} (h : Ext w w') (o : Obj) : Ext w (w'.alloc o) := h.alloc h.size o
theorem ext_drewN {w w' : World} (h : Ext w w') (n : Nat) : Ext w (w'.drewN n) := Below.drewN' h n
theorem take_snoc {α : Type} {l : List α} {k : Nat} {e : α} (h : l[k]? = some e) : l.take (k + 1) = l.take k ++ [e] := by
  rw [List.take_add_one, h]; rfl
theorem get_some {α : Type} {l : List α} {k n : Nat} (hn : l.length = n) (h : k < n) : ∃ e, l[k]? = some e := ⟨_, List.getElem?_eq_getElem (by rw [hn]; exact h)⟩
end Go.Proofs.YtmdmbdbbpdojnaaGreatDoor
namespace Go.Proofs.YtmdmbdbbpdojnaaGreatDoor
open Go.RowKit
/-- What a walk from the end meets: places and elements. -/
def backL {α : Type} (l : List α) : List (Nat × α) := (l.zipIdx.map fun p => (p.2, p.1)).reverse
theorem backL_length {α : Type} (l : List α) : (backL l).length = l.length := by simp [backL]
theorem backL_get {α : Type} {l : List α} {k j : Nat} {e : α} (hj : j + 1 + k = l.length) (he : l[j]? = some e) : (backL l)[k]? = some (j, e) := by
  unfold backL
  rw [List.getElem?_reverse (by simp; omega)]
  simp only [List.length_map, List.length_zipIdx]
  rw [show l.length - 1 - k = j by omega, List.getElem?_map, List.getElem?_zipIdx, he]
  simp
theorem backL_inv {α : Type} {l : List α} {k : Nat} {p : Nat × α} (h : (backL l)[k]? = some p) : p.1 + 1 + k = l.length ∧ l[p.1]? = some p.2 := by
  have hk : k < l.length := by have := (List.getElem?_eq_some_iff.1 h).1; rwa [backL_length] at this
  obtain ⟨e, he⟩ := get_some (l := l) (n := l.length) rfl (k := l.length - 1 - k) (by omega)
  have := backL_get (k := k) (by omega) he
  rw [this] at h; cases h
  exact ⟨by simp; omega, he⟩
/-- The counter of a walk from the end: m are still to come. -/
def BkI (i : Value) (m : Nat) : Prop := (m = 0 ∧ i = .int .i64 (-1)) ∨ ∃ j : Nat, m = j + 1 ∧ i = .int .i64 j
theorem bkI_pred (m : Nat) : BkI (.int .i64 ((m : Int) - 1)) m := by
  cases m with
  | zero => exact .inl ⟨rfl, rfl⟩
  | succ j => exact .inr ⟨j, rfl, by congr 1; omega⟩
end Go.Proofs.YtmdmbdbbpdojnaaGreatDoor
