/- Ranges over iterators, one within another's round: the law for a loop whose body is told of its own record, and the law within a round. -/
import Derived.Test.YtjjkonaopmipoaaDoorBase
namespace Go.Proofs.YtjjkonaopmipoaaDoor
open Go.RowKit
/-- What the assignments at a round's head must come to, the loop's record being told of. -/
def BodyAtL (P : Program) (S : Nat → Prop) (I : Nat → World → Prop) (Ix : Code → Nat → World → Prop) (l k : Nat) (body : Code) (W : World) (a₁ : Act) (W₁ : World) : Prop :=
  Fr S W W₁ ∧ I k W₁ ∧ ∀ Wb, (∃ r, Wb.heap[l]? = some (.loop r)) → I k Wb → Fr (fun b => b = l) W₁ Wb → Wb.heap.size = W₁.heap.size → body.wpIn (Fence.wide.inRound l) 0 P (roundEnd S I Ix (k + 1) Wb) a₁ Wb
variable {P : Program}
/-- THE LAW: a range over an iterator, in a plain frame. S: what a round may write. -/
theorem range_lawL {α : Type} {g : Operand} {ps : Array Tmp} {assign body : Code} {Q : Exit → Act → World → Prop} {a : Act} {w : World}
    {gf : Nat} {lb : Array Value} (hg : a.eval g = .func (.func gf) #[] lb) (eg : ∀ args w, (callFunc gf args).run P w = .ok (.enter gf args) w)
    {enc : α → Array Value} {xs : List α} {Ok : World → Prop} {own dep : Nat → Prop} (hit : Iter P gf lb enc xs Ok own dep)
    (hOk : ∀ o1 o2, Ok ((w.alloc o1).alloc o2)) (hown : ∀ b, own b → b < w.heap.size) (hdep : ∀ b, dep b → b < w.heap.size)
    (hps : ∀ x, (enc x).size = ps.size) (S : Nat → Prop) (hSd : ∀ b, S b → ¬ dep b) (hS : ∀ b, S b → b < w.heap.size)
    (I : Nat → World → Prop) (Ix : Code → Nat → World → Prop)
    (hI : ∀ k A B, I k A → Fr (fun b => own b ∨ b = w.heap.size ∨ b = w.heap.size + 1) A B → I k B)
    (hIx : ∀ c k A B, Ix c k A → Fr (fun b => own b ∨ b = w.heap.size ∨ b = w.heap.size + 1) A B → Ix c k B)
    (h0 : I 0 w)
    (hround : ∀ (l k : Nat) (x : α) (W : World), xs[k]? = some x → l = w.heap.size + 1 → w.heap.size + 2 ≤ W.heap.size → I k W →
      assign.wpIn (Fence.wide.inRound l) 0 P (Exit.then (BodyAtL P S I Ix l k body W) (fun _ _ _ => False)) { tmps := (ps.zip (enc x)).foldl (fun t (p, v) => t.setIfInBounds p v) a.tmps, defers := [] } W)
    (hdone : ∀ (W : World), I xs.length W → W.heap[w.heap.size]? = some (.deferred (some [])) → Q .normal { a with defers := { target := .collected w.heap.size, args := #[] } :: a.defers } W)
    (hstop : ∀ (c : Code) (k : Nat) (W : World), k ≤ xs.length → Ix c k W → W.heap[w.heap.size]? = some (.deferred (some [])) →
      c.wpIn Fence.wide 0 P Q { a with defers := { target := .collected w.heap.size, args := #[] } :: a.defers } W) :
    (Code.rangeFunc g ps assign body).wpIn Fence.wide 0 P Q a w := by
  refine wpIn_rangeFunc ?_
  intro fn hfn
  obtain ⟨rec, hrec⟩ : ∃ rec : LoopState → Option Code → Loop, rec = fun st pe => { state := st, pending := pe, fn, tmps := a.tmps, params := ps, assign, body, defers := w.heap.size } := ⟨_, rfl⟩
  obtain ⟨W1, hW1⟩ : ∃ W1, (w.alloc (.deferred (some []))).alloc (.loop (rec .ready none)) = W1 := ⟨_, rfl⟩
  have hL1 : W1.heap[w.heap.size + 1]? = some (.loop (rec .ready none)) := by
    rw [← hW1]; have := World.alloc_heap_new (w.alloc (.deferred (some []))) (.loop (rec .ready none)); rwa [World.size_alloc] at this
  have hK1 : W1.heap[w.heap.size]? = some (.deferred (some [])) := by
    rw [← hW1]; exact (Below.heap_alloc _ _ _ (by simp)).trans (World.alloc_heap_new w _)
  have hI1 : I 0 W1 := by rw [← hW1]; exact hI _ _ _ (hI _ _ _ h0 (Fr.alloc _ _ _)) (Fr.alloc _ _ _)
  have hO1 : Ok W1 := by rw [← hW1]; exact hOk _ _
  refine ⟨w.heap.size + 1, [{ target := .collected w.heap.size, args := #[] }], W1, { target := .fn (.func gf) lb, args := #[.func (.yield (w.heap.size + 1)) #[] #[]] }, W1, gf,
    #[.func (.yield (w.heap.size + 1)) #[] #[]] ++ lb, W1, ?_, ?_, fun _ _ => trivial, ?_, fun h => by simp [Fence.wide] at h, ?_⟩
  · rw [← hW1, hrec]; exact run_enterLoop_outer _ _ _ _ _
  · simp only [resolve, hg]
    simp [go_sem]
  · simp [invoke, go_sem, eg]
  · have hno : ∀ {A B : World} {j : Nat} {o : Obj}, Fr own A B → j < A.heap.size → w.heap.size ≤ j → A.heap[j]? = some o → B.heap[j]? = some o :=
      fun hf hlt hj ho => (hf.block _ hlt (fun x => by have := hown _ x; omega)).trans ho
    refine (hit (w.heap.size + 1)
      (fun k W => I k W ∧ W.heap[w.heap.size + 1]? = some (.loop (rec .ready none)) ∧ W.heap[w.heap.size]? = some (.deferred (some [])))
      (fun k W => ∃ c, Ix c k W ∧ W.heap[w.heap.size + 1]? = some (.loop (rec .done (some c))) ∧ W.heap[w.heap.size]? = some (.deferred (some [])))
      W1 hO1
      (fun k A B hs hf => ⟨hI k A B hs.1 (hf.mono fun _ _ h => .inl h), hno hf (Array.getElem?_eq_some_iff.1 hs.2.1).1 (by omega) hs.2.1, hno hf (Array.getElem?_eq_some_iff.1 hs.2.2).1 (by omega) hs.2.2⟩)
      (fun k A B hs hf => by
        obtain ⟨c, hc, hl, hk⟩ := hs
        exact ⟨c, hIx c k A B hc (hf.mono fun _ _ h => .inl h), hno hf (Array.getElem?_eq_some_iff.1 hl).1 (by omega) hl, hno hf (Array.getElem?_eq_some_iff.1 hk).1 (by omega) hk⟩)
      ?_ ⟨hI1, hL1, hK1⟩).mono ?_
    · rintro k x W hx ⟨hi, hl, hk⟩
      have hlt := (Array.getElem?_eq_some_iff.1 hl).1
      have hy := run_yield (P := P) (args := enc x) hl (by rw [hrec]; exact hps x)
      rw [hrec] at hy
      refine ⟨fn, _, assign, body, hy, roundIn_of_wpIn hfn (wpIn_mono (hround _ k x W hx rfl (by omega) hi) ?_)⟩
      clear hy
      rintro e a1 Wa hp
      cases e with
      | exit id => exact hp.elim
      | goto t => exact hp.elim
      | ret => exact hp.elim
      | panic ch => exact hp.elim
      | outgrown => exact hp.elim
      | normal =>
      obtain ⟨hkfa, hia, hba⟩ := hp
      have hdis : ∀ j, w.heap.size ≤ j → ¬ S j := fun j hj x => by have := hS _ x; omega
      replace hl := (hkfa.block _ (by omega) (hdis _ (by omega))).trans hl
      replace hk := (hkfa.block _ (by omega) (hdis _ (by omega))).trans hk
      replace hlt := (Array.getElem?_eq_some_iff.1 hl).1
      replace hi := hia
      clear hia
      revert hba hkfa
      generalize W = Wb
      intro hkfa hba
      obtain ⟨W, rfl⟩ : ∃ W, W = Wa := ⟨_, rfl⟩
      refine ⟨_, run_beginRound hl (by rw [hrec]), ?_⟩
      have hl2 : (W.putObj (w.heap.size + 1) (.loop { rec .ready none with state := .busy })).heap[w.heap.size + 1]? = some (.loop { rec .ready none with state := .busy }) := World.putObj_heap_same hlt
      have hk2 : (W.putObj (w.heap.size + 1) (.loop { rec .ready none with state := .busy })).heap[w.heap.size]? = some (.deferred (some [])) := (World.putObj_heap_other (by omega)).trans hk
      have hf2 : ∀ {S' : Nat → Prop} (A : World) (o : Obj), S' (w.heap.size + 1) → Fr S' A (A.putObj (w.heap.size + 1) o) := fun A o h => Fr.putObj A _ o h
      refine wpIn_mono (hba _ ⟨_, hl2⟩ (hI _ _ _ hi (hf2 _ _ (.inr (.inr rfl)))) (hf2 _ _ rfl) (by simp)) ?_
      have fin : ∀ (jump : Option Code) (W3 : World), Fr S (W.putObj (w.heap.size + 1) (.loop { rec .ready none with state := .busy })) W3 →
          (Instr.endRound (w.heap.size + 1) jump).run P W3 = .ok (.bool jump.isNone) (W3.putObj (w.heap.size + 1) (.loop (rec (if jump.isNone then .ready else .done) jump))) ∧
          (W3.putObj (w.heap.size + 1) (.loop (rec (if jump.isNone then .ready else .done) jump))).heap[w.heap.size + 1]? = some (.loop (rec (if jump.isNone then .ready else .done) jump)) ∧
          (W3.putObj (w.heap.size + 1) (.loop (rec (if jump.isNone then .ready else .done) jump))).heap[w.heap.size]? = some (.deferred (some [])) := fun jump W3 hk3 => by
        have hl3 := (hk3.block _ (Array.getElem?_eq_some_iff.1 hl2).1 (fun x => by have := hS _ x; omega)).trans hl2
        have hd3 := (hk3.block _ (Array.getElem?_eq_some_iff.1 hk2).1 (fun x => by have := hS _ x; omega)).trans hk2
        have := run_endRound (P := P) jump hl3
        rw [hrec] at this ⊢
        exact ⟨this, World.putObj_heap_same (Array.getElem?_eq_some_iff.1 hl3).1, (World.putObj_heap_other (by omega)).trans hd3⟩
      have keep : ∀ (W3 : World) (o : Obj), Fr S (W.putObj (w.heap.size + 1) (.loop { rec .ready none with state := .busy })) W3 → Fr (fun b => ¬ dep b) Wb (W3.putObj (w.heap.size + 1) o) := fun W3 o hk3 => by
        have hnd : ¬ dep (w.heap.size + 1) := fun x => by have := hdep _ x; omega
        exact (hkfa.mono (fun b _ hb => hSd b hb)).trans <| ((hf2 W _ hnd).trans (hk3.mono (fun b _ hb => hSd b hb))).trans (hf2 W3 _ hnd)
      rintro e a3 W3 hp
      cases e with
      | normal =>
        obtain ⟨hk3, hi3⟩ := hp
        obtain ⟨hr, hl4, hk4⟩ := fin none W3 hk3
        exact ⟨_, _, hr, .inl ⟨rfl, ⟨hI _ _ _ hi3 (hf2 _ _ (.inr (.inr rfl))), hl4, hk4⟩, keep _ _ hk3⟩⟩
      | ret =>
        obtain ⟨hk3, hi3⟩ := hp
        obtain ⟨hr, hl4, hk4⟩ := fin (some .ret) W3 hk3
        exact ⟨_, _, hr, .inr ⟨rfl, .ret, hIx _ _ _ _ hi3 (hf2 _ _ (.inr (.inr rfl))), hl4, hk4⟩⟩
      | exit id =>
        obtain ⟨hk3, hi3⟩ := hp
        obtain ⟨hr, hl4, hk4⟩ := fin (some (.exit id)) W3 hk3
        exact ⟨_, _, hr, .inr ⟨rfl, .exit id, hIx _ _ _ _ hi3 (hf2 _ _ (.inr (.inr rfl))), hl4, hk4⟩⟩
      | goto t =>
        obtain ⟨hk3, hi3⟩ := hp
        obtain ⟨hr, hl4, hk4⟩ := fin (some (.goto t)) W3 hk3
        exact ⟨_, _, hr, .inr ⟨rfl, .goto t, hIx _ _ _ _ hi3 (hf2 _ _ (.inr (.inr rfl))), hl4, hk4⟩⟩
      | panic ch => exact hp.elim
      | outgrown => exact hp.elim
    · rintro e W2 ⟨⟨v, rfl⟩, (⟨hi, hl, hk⟩ | ⟨k, hkl, c, hi, hl, hk⟩)⟩
      · exact ⟨none, _, by have := run_endLoop (P := P) hl (by rw [hrec]; simp); rw [hrec] at this; exact this, hdone _ (hI _ _ _ hi (Fr.putObj _ _ _ (.inr (.inr rfl)))) ((World.putObj_heap_other (by omega)).trans hk)⟩
      · exact ⟨some c, _, by have := run_endLoop (P := P) hl (by rw [hrec]; simp); rw [hrec] at this; exact this, hstop c k _ hkl (hIx c _ _ _ hi (Fr.putObj _ _ _ (.inr (.inr rfl)))) ((World.putObj_heap_other (by omega)).trans hk)⟩

/-- THE LAW within a round of loop l₀. S: what a round may write. -/
theorem range_law_in {α : Type} {l₀ : Nat} {r₀ : Loop} {g : Operand} {ps : Array Tmp} {assign body : Code} {Q : Exit → Act → World → Prop} {a : Act} {w : World}
    (hl₀ : w.heap[l₀]? = some (.loop r₀)) {gf : Nat} {lb : Array Value} (hg : a.eval g = .func (.func gf) #[] lb) (eg : ∀ args w, (callFunc gf args).run P w = .ok (.enter gf args) w)
    {enc : α → Array Value} {xs : List α} {Ok : World → Prop} {own dep : Nat → Prop} (hit : Iter P gf lb enc xs Ok own dep)
    (hOk : ∀ o1, Ok (w.alloc o1)) (hown : ∀ b, own b → b < w.heap.size) (hdep : ∀ b, dep b → b < w.heap.size)
    (hps : ∀ x, (enc x).size = ps.size) (S : Nat → Prop) (hSd : ∀ b, S b → ¬ dep b) (hS : ∀ b, S b → b < w.heap.size)
    (I : Nat → World → Prop) (Ix : Code → Nat → World → Prop)
    (hI : ∀ k A B, I k A → Fr (fun b => own b ∨ b = w.heap.size) A B → I k B)
    (hIx : ∀ c k A B, Ix c k A → Fr (fun b => own b ∨ b = w.heap.size) A B → Ix c k B)
    (h0 : I 0 w)
    (hround : ∀ (l k : Nat) (x : α) (W : World), xs[k]? = some x → l = w.heap.size → w.heap.size + 1 ≤ W.heap.size → I k W →
      assign.wpIn (Fence.wide.inRound l) 0 P (Exit.then (BodyAtL P S I Ix l k body W) (fun _ _ _ => False)) { tmps := (ps.zip (enc x)).foldl (fun t (p, v) => t.setIfInBounds p v) a.tmps, defers := [] } W)
    (hdone : ∀ (W : World), I xs.length W → Q .normal a W)
    (hstop : ∀ (c : Code) (k : Nat) (W : World), k ≤ xs.length → Ix c k W → c.wpIn (Fence.wide.inRound l₀) 0 P Q a W) :
    (Code.rangeFunc g ps assign body).wpIn (Fence.wide.inRound l₀) 0 P Q a w := by
  refine wpIn_rangeFunc ?_
  intro fn hfn
  obtain ⟨rec, hrec⟩ : ∃ rec : LoopState → Option Code → Loop, rec = fun st pe => { state := st, pending := pe, fn, tmps := a.tmps, params := ps, assign, body, defers := r₀.defers } := ⟨_, rfl⟩
  obtain ⟨W1, hW1⟩ : ∃ W1, w.alloc (.loop (rec .ready none)) = W1 := ⟨_, rfl⟩
  have hL1 : W1.heap[w.heap.size]? = some (.loop (rec .ready none)) := by
    rw [← hW1]; exact World.alloc_heap_new w _
  have hI1 : I 0 W1 := by rw [← hW1]; exact hI _ _ _ h0 (Fr.alloc _ _ _)
  have hO1 : Ok W1 := by rw [← hW1]; exact hOk _
  refine ⟨w.heap.size, [], W1, { target := .fn (.func gf) lb, args := #[.func (.yield w.heap.size) #[] #[]] }, W1, gf,
    #[.func (.yield w.heap.size) #[] #[]] ++ lb, W1, ?_, ?_, fun _ _ => trivial, ?_, fun h => by simp [Fence.wide, Fence.inRound] at h, ?_⟩
  · rw [← hW1, hrec]; exact run_enterLoop_inner hl₀ _ _ _ _ _
  · simp only [resolve, hg]
    simp [go_sem]
  · simp [invoke, go_sem, eg]
  · have hno : ∀ {A B : World} {j : Nat} {o : Obj}, Fr own A B → j < A.heap.size → w.heap.size ≤ j → A.heap[j]? = some o → B.heap[j]? = some o :=
      fun hf hlt hj ho => (hf.block _ hlt (fun x => by have := hown _ x; omega)).trans ho
    refine (hit (w.heap.size)
      (fun k W => I k W ∧ W.heap[w.heap.size]? = some (.loop (rec .ready none)))
      (fun k W => ∃ c, Ix c k W ∧ W.heap[w.heap.size]? = some (.loop (rec .done (some c))))
      W1 hO1
      (fun k A B hs hf => ⟨hI k A B hs.1 (hf.mono fun _ _ h => .inl h), hno hf (Array.getElem?_eq_some_iff.1 hs.2).1 (by omega) hs.2⟩)
      (fun k A B hs hf => by
        obtain ⟨c, hc, hl⟩ := hs
        exact ⟨c, hIx c k A B hc (hf.mono fun _ _ h => .inl h), hno hf (Array.getElem?_eq_some_iff.1 hl).1 (by omega) hl⟩)
      ?_ ⟨hI1, hL1⟩).mono ?_
    · rintro k x W hx ⟨hi, hl⟩
      have hlt := (Array.getElem?_eq_some_iff.1 hl).1
      have hy := run_yield (P := P) (args := enc x) hl (by rw [hrec]; exact hps x)
      rw [hrec] at hy
      refine ⟨fn, _, assign, body, hy, roundIn_of_wpIn hfn (wpIn_mono (hround _ k x W hx rfl (by omega) hi) ?_)⟩
      clear hy
      rintro e a1 Wa hp
      cases e with
      | exit id => exact hp.elim
      | goto t => exact hp.elim
      | ret => exact hp.elim
      | panic ch => exact hp.elim
      | outgrown => exact hp.elim
      | normal =>
      obtain ⟨hkfa, hia, hba⟩ := hp
      have hdis : ∀ j, w.heap.size ≤ j → ¬ S j := fun j hj x => by have := hS _ x; omega
      replace hl := (hkfa.block _ (by omega) (hdis _ (by omega))).trans hl
      replace hlt := (Array.getElem?_eq_some_iff.1 hl).1
      replace hi := hia
      clear hia
      revert hba hkfa
      generalize W = Wb
      intro hkfa hba
      obtain ⟨W, rfl⟩ : ∃ W, W = Wa := ⟨_, rfl⟩
      refine ⟨_, run_beginRound hl (by rw [hrec]), ?_⟩
      have hl2 : (W.putObj (w.heap.size) (.loop { rec .ready none with state := .busy })).heap[w.heap.size]? = some (.loop { rec .ready none with state := .busy }) := World.putObj_heap_same hlt
      have hf2 : ∀ {S' : Nat → Prop} (A : World) (o : Obj), S' (w.heap.size) → Fr S' A (A.putObj (w.heap.size) o) := fun A o h => Fr.putObj A _ o h
      refine wpIn_mono (hba _ ⟨_, hl2⟩ (hI _ _ _ hi (hf2 _ _ (.inr rfl))) (hf2 _ _ rfl) (by simp)) ?_
      have fin : ∀ (jump : Option Code) (W3 : World), Fr S (W.putObj (w.heap.size) (.loop { rec .ready none with state := .busy })) W3 →
          (Instr.endRound (w.heap.size) jump).run P W3 = .ok (.bool jump.isNone) (W3.putObj (w.heap.size) (.loop (rec (if jump.isNone then .ready else .done) jump))) ∧
          (W3.putObj (w.heap.size) (.loop (rec (if jump.isNone then .ready else .done) jump))).heap[w.heap.size]? = some (.loop (rec (if jump.isNone then .ready else .done) jump)) := fun jump W3 hk3 => by
        have hl3 := (hk3.block _ (Array.getElem?_eq_some_iff.1 hl2).1 (fun x => by have := hS _ x; omega)).trans hl2
        have := run_endRound (P := P) jump hl3
        rw [hrec] at this ⊢
        exact ⟨this, World.putObj_heap_same (Array.getElem?_eq_some_iff.1 hl3).1⟩
      have keep : ∀ (W3 : World) (o : Obj), Fr S (W.putObj (w.heap.size) (.loop { rec .ready none with state := .busy })) W3 → Fr (fun b => ¬ dep b) Wb (W3.putObj (w.heap.size) o) := fun W3 o hk3 => by
        have hnd : ¬ dep (w.heap.size) := fun x => by have := hdep _ x; omega
        exact (hkfa.mono (fun b _ hb => hSd b hb)).trans <| ((hf2 W _ hnd).trans (hk3.mono (fun b _ hb => hSd b hb))).trans (hf2 W3 _ hnd)
      rintro e a3 W3 hp
      cases e with
      | normal =>
        obtain ⟨hk3, hi3⟩ := hp
        obtain ⟨hr, hl4⟩ := fin none W3 hk3
        exact ⟨_, _, hr, .inl ⟨rfl, ⟨hI _ _ _ hi3 (hf2 _ _ (.inr rfl)), hl4⟩, keep _ _ hk3⟩⟩
      | ret =>
        obtain ⟨hk3, hi3⟩ := hp
        obtain ⟨hr, hl4⟩ := fin (some .ret) W3 hk3
        exact ⟨_, _, hr, .inr ⟨rfl, .ret, hIx _ _ _ _ hi3 (hf2 _ _ (.inr rfl)), hl4⟩⟩
      | exit id =>
        obtain ⟨hk3, hi3⟩ := hp
        obtain ⟨hr, hl4⟩ := fin (some (.exit id)) W3 hk3
        exact ⟨_, _, hr, .inr ⟨rfl, .exit id, hIx _ _ _ _ hi3 (hf2 _ _ (.inr rfl)), hl4⟩⟩
      | goto t =>
        obtain ⟨hk3, hi3⟩ := hp
        obtain ⟨hr, hl4⟩ := fin (some (.goto t)) W3 hk3
        exact ⟨_, _, hr, .inr ⟨rfl, .goto t, hIx _ _ _ _ hi3 (hf2 _ _ (.inr rfl)), hl4⟩⟩
      | panic ch => exact hp.elim
      | outgrown => exact hp.elim
    · rintro e W2 ⟨⟨v, rfl⟩, (⟨hi, hl⟩ | ⟨k, hkl, c, hi, hl⟩)⟩
      · exact ⟨none, _, by have := run_endLoop (P := P) hl (by rw [hrec]; simp); rw [hrec] at this; exact this, hdone _ (hI _ _ _ hi (Fr.putObj _ _ _ (.inr rfl)))⟩
      · exact ⟨some c, _, by have := run_endLoop (P := P) hl (by rw [hrec]; simp); rw [hrec] at this; exact this, hstop c k _ hkl (hIx c _ _ _ hi (Fr.putObj _ _ _ (.inr rfl)))⟩

end Go.Proofs.YtjjkonaopmipoaaDoor
