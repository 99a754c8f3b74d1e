/- Walks: slices.SortFunc at pairs, by policy.Clash's own comparison. What policy.Clash keeps in memory: a map of slices, a set of pairs, the pairs that clash. Walks of the program's functions on policies: deciders and what it hands back. Walks of the program's functions on policies: verdict. -/
import Derived.Test.YtmdmbdbbpdojnaaGreatDoorM15
import Derived.Shelf.SlSortCmp.WholeK
import Derived.WideKeyPair
import Derived.Test.YtmdmbdbbpdojnaaGreatDoorM14
namespace Go.Proofs.YtmdmbdbbpdojnaaGreatDoor
open Go.RowKit Nam Pol
attribute [local go_sem] gv_of

def cmpI (x y : Int) : Int := if x < y then -1 else if y < x then 1 else 0
/-- How two pairs compare. -/
def cmpPair (x y : Nat × Nat) : Int := if cmpI x.1 y.1 = 0 then cmpI x.2 y.2 else cmpI x.1 y.1
theorem cmpPair_lt (x y : Nat × Nat) : ltOf cmpPair x y = true ↔ lexlt x y := by
  unfold ltOf cmpPair cmpI lexlt
  rw [decide_eq_true_eq]
  repeat' split
  all_goals omega
theorem cmpPair_swo : Sort.SWO (ltOf cmpPair) where
  irrefl := fun x => by rw [Bool.eq_false_iff, ne_eq, cmpPair_lt]; unfold lexlt; omega
  trans := fun x y z h1 h2 => by rw [cmpPair_lt] at *; unfold lexlt at *; omega
  ntrans := fun x y z h1 h2 => by
    rw [Bool.eq_false_iff, ne_eq, cmpPair_lt] at *
    unfold lexlt at *; omega
theorem isNaN_any (x : Int) (w : World) : Calls Tryz.prog 115 #[.int .i64 x] w fun e w' => e = .returned (.bool false) ∧ w = w' := by
  go_enter Tryz.func115, Tryz.ntmps115
  go_wp2
  go_ret
  exact ⟨rfl, rfl⟩
theorem cmpI_any (x y : Int) (w : World) : Calls Tryz.prog 79 #[.int .i64 x, .int .i64 y] w fun e w' => e = .returned (.int .i64 (cmpI x y)) ∧ w = w' := by
  have HC := Lib.hid (show cmpI x y = if x < y then -1 else if y < x then 1 else 0 from rfl)
  by_cases h1 : x < y
  · have t1 : decide (x < y) = true := by simpa using h1
    go_enter Tryz.func79, Tryz.ntmps79
    go_wp2_with (go_at_call 115; refine (isNaN_any _ _).mono ?_; rintro e w' ⟨rfl, rfl⟩)
    go_ret
    exact ⟨ret_int (by rw [HC.out, if_pos h1]), rfl⟩
  · have t1 : decide (x < y) = false := by simpa using h1
    by_cases h2 : y < x
    · have t2 : decide (y < x) = true := by simpa using h2
      go_enter Tryz.func79, Tryz.ntmps79
      go_wp2_with (go_at_call 115; refine (isNaN_any _ _).mono ?_; rintro e w' ⟨rfl, rfl⟩)
      go_ret
      exact ⟨ret_int (by rw [HC.out, if_neg (by omega), if_pos h2]), rfl⟩
    · have t2 : decide (y < x) = false := by simpa using h2
      go_enter Tryz.func79, Tryz.ntmps79
      go_wp2_with (go_at_call 115; refine (isNaN_any _ _).mono ?_; rintro e w' ⟨rfl, rfl⟩)
      go_ret
      exact ⟨ret_int (by rw [HC.out, if_neg (by omega), if_neg (by omega)]), rfl⟩
set_option maxHeartbeats 1000000 in
theorem Compare_pair (x y : Nat × Nat) (b1 b2 : Nat) (w : World) (c0 : w.cell? ⟨b1, 0, none⟩ = some (.int .i64 (x.1 : Int))) (c1 : w.cell? ⟨b1, 1, none⟩ = some (.int .i64 (x.2 : Int))) (d0 : w.cell? ⟨b2, 0, none⟩ = some (.int .i64 (y.1 : Int))) (d1 : w.cell? ⟨b2, 1, none⟩ = some (.int .i64 (y.2 : Int))) :
    Calls Tryz.prog 48 #[.slice (some ⟨b1, 0, none⟩) 2 2, .slice (some ⟨b2, 0, none⟩) 2 2] w fun e w' => e = .returned (.int .i64 (cmpPair x y)) ∧ w = w' := by
  obtain ⟨r1, h1⟩ : ∃ r, cmpI x.1 y.1 = r := ⟨_, rfl⟩
  obtain ⟨r2, h2⟩ : ∃ r, cmpI x.2 y.2 = r := ⟨_, rfl⟩
  have HP := Lib.hid (show cmpPair x y = if r1 = 0 then r2 else r1 by unfold cmpPair; rw [h1, h2])
  have H1 := Lib.hid h1; have H2 := Lib.hid h2
  clear h1 h2
  by_cases e1 : r1 = 0
  · have t1 : (r1 != 0) = false := by simpa using e1
    by_cases e2 : r2 = 0
    · have t2 : (r2 != 0) = false := by simpa using e2
      have HR := Lib.hid (show cmpPair x y = 0 by rw [HP.out, if_pos e1, e2])
      clear e1 e2
      go_enter Tryz.func48, Tryz.ntmps48
      go_wp2
      refine wp_loop_rounds 3 ?_; rw [rounds_succ]
      go_wp2_with (go_at_call 79; refine (cmpI_any _ _ _).mono ?_; rintro e w' ⟨rfl, rfl⟩; rw [H1.out])
      rw [rounds_succ]
      go_wp2_with (go_at_call 79; refine (cmpI_any _ _ _).mono ?_; rintro e w' ⟨rfl, rfl⟩; rw [H2.out])
      rw [rounds_succ]
      go_wp2
      go_ret
      exact ⟨ret_int HR.out.symm, rfl⟩
    · have t2 : (r2 != 0) = true := by simpa using e2
      have HR := Lib.hid (show cmpPair x y = r2 by rw [HP.out, if_pos e1])
      clear e1 e2
      go_enter Tryz.func48, Tryz.ntmps48
      go_wp2
      refine wp_loop_rounds 3 ?_; rw [rounds_succ]
      go_wp2_with (go_at_call 79; refine (cmpI_any _ _ _).mono ?_; rintro e w' ⟨rfl, rfl⟩; rw [H1.out])
      rw [rounds_succ]
      go_wp2_with (go_at_call 79; refine (cmpI_any _ _ _).mono ?_; rintro e w' ⟨rfl, rfl⟩; rw [H2.out])
      go_ret
      exact ⟨ret_int HR.out.symm, rfl⟩
  · have t1 : (r1 != 0) = true := by simpa using e1
    have HR := Lib.hid (show cmpPair x y = r1 by rw [HP.out, if_neg e1])
    clear e1
    go_enter Tryz.func48, Tryz.ntmps48
    go_wp2
    refine wp_loop_rounds 3 ?_; rw [rounds_succ]
    go_wp2_with (go_at_call 79; refine (cmpI_any _ _ _).mono ?_; rintro e w' ⟨rfl, rfl⟩; rw [H1.out])
    go_ret
    exact ⟨ret_int HR.out.symm, rfl⟩
open Go.Sort (grow)
/-- It is W0, some draws on. -/
def DrewOf (W0 w' : World) : Prop := ∃ q, w' = W0.drewN q
set_option maxHeartbeats 1000000 in
/-- policy.Clash's comparison: in whatever world: two blocks are laid. -/
theorem Clash1_any (x y : Nat × Nat) (w : World) :
    Calls Tryz.prog 47 #[.agg #[.int .i64 (x.1 : Int), .int .i64 (x.2 : Int)], .agg #[.int .i64 (y.1 : Int), .int .i64 (y.2 : Int)]] w fun e w' => e = .returned (.int .i64 (cmpPair x y)) ∧ ∃ q os', w' = grow (w.drewN q) os' := by
  go_enter Tryz.func47, Tryz.ntmps47
  go_wp2_with fail
  obtain ⟨W0, hW0⟩ : ∃ W0, (w.alloc (Obj.cells #[.int .i64 (x.1 : Int), .int .i64 (x.2 : Int)] 38)).alloc (Obj.cells #[.int .i64 (y.1 : Int), .int .i64 (y.2 : Int)] 38) = W0 := ⟨_, rfl⟩
  have c0 : W0.cell? ⟨w.heap.size, 0, none⟩ = some (.int .i64 (x.1 : Int)) := by rw [← hW0]; simp [go_sem]
  have c1 : W0.cell? ⟨w.heap.size, 1, none⟩ = some (.int .i64 (x.2 : Int)) := by rw [← hW0]; simp [go_sem]
  have d0 : W0.cell? ⟨w.heap.size + 1, 0, none⟩ = some (.int .i64 (y.1 : Int)) := by rw [← hW0]; simp [go_sem]
  have d1 : W0.cell? ⟨w.heap.size + 1, 1, none⟩ = some (.int .i64 (y.2 : Int)) := by rw [← hW0]; simp [go_sem]
  have HW := Lib.hid hW0
  rw [hW0]
  clear hW0
  refine wp_region_S (by kernel_rfl) (by kernel_rfl) (by kernel_rfl) (by kernel_rfl) (by kernel_rfl) (fun w' => DrewOf W0 w') ⟨1, rfl⟩ ?_
  repeat
    first
    | (refine steps_and rfl rfl rfl rfl ?_; simp only [Act.put, List.setIfInBounds_toArray, List.set_cons_succ, List.set_cons_zero])
    | (refine steps_or rfl rfl rfl rfl ?_; simp only [Act.put, List.setIfInBounds_toArray, List.set_cons_succ, List.set_cons_zero])
    | (refine steps_skip rfl ?_; simp only [Act.put, List.setIfInBounds_toArray, List.set_cons_succ, List.set_cons_zero])
    | (refine steps_guard_and rfl rfl rfl rfl rfl ?_; simp only [Act.put, List.setIfInBounds_toArray, List.set_cons_succ, List.set_cons_zero])
    | (refine steps_guard (v := ?_) rfl rfl (fun hb w' hS => ?_) ?_; rotate_left; (focus (have k0 : w'.cell? ⟨w.heap.size, 0, none⟩ = some (.int .i64 (x.1 : Int)) := (by obtain ⟨q, rfl⟩ := hS; exact c0); have k1 : w'.cell? ⟨w.heap.size, 1, none⟩ = some (.int .i64 (x.2 : Int)) := (by obtain ⟨q, rfl⟩ := hS; exact c1); have m0 : w'.cell? ⟨w.heap.size + 1, 0, none⟩ = some (.int .i64 (y.1 : Int)) := (by obtain ⟨q, rfl⟩ := hS; exact d0); have m1 : w'.cell? ⟨w.heap.size + 1, 1, none⟩ = some (.int .i64 (y.2 : Int)) := (by obtain ⟨q, rfl⟩ := hS; exact d1); unfold Gives; go_simp; first | exact is_mk hS | (refine (Compare_pair x y _ _ _ k0 k1 m0 m1).mono ?_; rintro e w'' ⟨rfl, rfl⟩; exact gave_mk hS))); simp only [Act.put, List.setIfInBounds_toArray, List.set_cons_succ, List.set_cons_zero])
    | (refine steps_guard2 (v := ?_) rfl rfl rfl (fun hb1 hb w' hS => ?_) ?_; rotate_left; (focus (have k0 : w'.cell? ⟨w.heap.size, 0, none⟩ = some (.int .i64 (x.1 : Int)) := (by obtain ⟨q, rfl⟩ := hS; exact c0); have k1 : w'.cell? ⟨w.heap.size, 1, none⟩ = some (.int .i64 (x.2 : Int)) := (by obtain ⟨q, rfl⟩ := hS; exact c1); have m0 : w'.cell? ⟨w.heap.size + 1, 0, none⟩ = some (.int .i64 (y.1 : Int)) := (by obtain ⟨q, rfl⟩ := hS; exact d0); have m1 : w'.cell? ⟨w.heap.size + 1, 1, none⟩ = some (.int .i64 (y.2 : Int)) := (by obtain ⟨q, rfl⟩ := hS; exact d1); unfold Gives; go_simp; first | exact is_mk hS | (refine (Compare_pair x y _ _ _ k0 k1 m0 m1).mono ?_; rintro e w'' ⟨rfl, rfl⟩; exact gave_mk hS))); simp only [Act.put, List.setIfInBounds_toArray, List.set_cons_succ, List.set_cons_zero])
    | (refine steps_run (v := ?_) rfl (fun w' hS => ?_) ?_; rotate_left; (focus (have k0 : w'.cell? ⟨w.heap.size, 0, none⟩ = some (.int .i64 (x.1 : Int)) := (by obtain ⟨q, rfl⟩ := hS; exact c0); have k1 : w'.cell? ⟨w.heap.size, 1, none⟩ = some (.int .i64 (x.2 : Int)) := (by obtain ⟨q, rfl⟩ := hS; exact c1); have m0 : w'.cell? ⟨w.heap.size + 1, 0, none⟩ = some (.int .i64 (y.1 : Int)) := (by obtain ⟨q, rfl⟩ := hS; exact d0); have m1 : w'.cell? ⟨w.heap.size + 1, 1, none⟩ = some (.int .i64 (y.2 : Int)) := (by obtain ⟨q, rfl⟩ := hS; exact d1); unfold Gives; go_simp; first | exact is_mk hS | (refine (Compare_pair x y _ _ _ k0 k1 m0 m1).mono ?_; rintro e w'' ⟨rfl, rfl⟩; exact gave_mk hS))); simp only [Act.put, List.setIfInBounds_toArray, List.set_cons_succ, List.set_cons_zero])
  refine steps_end fun w' hE => ?_
  obtain ⟨q, rfl⟩ := hE
  go_wp2_with fail
  go_ret
  exact ⟨rfl, q, #[_, _], by rw [← HW.out, Sort.alloc_eq_grow, Sort.alloc_eq_grow, Sort.grow_grow]; rfl⟩
theorem holds_own {w : World} {base : Nat} {e : TypeId} {n g cap : Nat} {o : List (Nat × Nat)} (hn : o.length = n) (h : w.ownsRow base e 2 (.slice (some ⟨g, 0, none⟩) n cap) n (o.flatMap pairC)) : Sort.HoldsK pairC 2 w g 0 o.toArray := by
  intro j hj
  rw [Sort.size_flatK] at hj
  have hjn : j < n * 2 := by rw [← hn]; simpa using hj
  rw [Sort.get_flatK _ _ _ _ hj, Nat.zero_add]
  refine ⟨?_, h.frozenAt j⟩
  have hlt : j / 2 < o.length := by rw [hn]; omega
  have hm : j % 2 < 2 := Nat.mod_lt _ (by decide)
  have hx := List.getElem?_eq_getElem hlt
  have hf := flat_get (f := pairC) (m := 2) (fun _ => rfl) (j % 2) hx hm
  rw [show j / 2 * 2 + j % 2 = j by omega] at hf
  rw [h.cellAt j hjn, hf]
  have e1 : o.toArray[j / 2]! = o[j / 2] := by simp [hlt]
  rw [e1]
  generalize o[j / 2] = q
  unfold pairC
  rcases (show j % 2 = 0 ∨ j % 2 = 1 by omega) with h0 | h0 <;> rw [h0] <;> rfl
theorem fr_sortWorldK (w : World) (blk m : Nat) (d : Array (Nat × Nat)) (os : Array Obj) : Fr (fun b => b = blk) w (sortWorldK pairC 2 w blk 0 m d os) := by
  refine ⟨rfl, rfl, rfl, ?_, fun k hk hs => ?_⟩
  · show w.heap.size ≤ ((w.heap.modify blk _) ++ os).size
    simp
  · show ((w.heap.modify blk _) ++ os)[k]? = _
    rw [Array.getElem?_append_left (by simpa using hk), Array.getElem?_modify, if_neg (fun e => hs e.symm)]
theorem insertion_nil (c : Value) (w : World) : Calls Tryz.prog 105 #[.slice none 0 0, .int .i64 0, .int .i64 0, c] w fun e w' => e = .returned (.tuple #[]) ∧ w = w' := by
  go_enter Tryz.func105, Tryz.ntmps105
  go_wp2
  refine wp_loop_rounds 1 ?_; rw [rounds_succ]
  go_wp2
  go_end0
  exact ⟨rfl, rfl⟩
theorem pdq_nil (lim : Int) (c : Value) (w : World) : Calls Tryz.prog 77 #[.slice none 0 0, .int .i64 0, .int .i64 0, .int .i64 lim, c] w fun e w' => e = .returned (.tuple #[]) ∧ w = w' := by
  go_enter Tryz.func77, Tryz.ntmps77
  go_wp2
  refine wp_loop_rounds 1 ?_; rw [rounds_succ]
  go_wp2_with (go_at_call 105; refine (insertion_nil _ _).mono ?_; rintro e w' ⟨rfl, rfl⟩)
  refine bodyPost_ret (results_none rfl _ _ _) rfl ?_
  exact ⟨rfl, rfl⟩
theorem SortFunc_nil (c : Value) (w : World) : Calls Tryz.prog 46 #[.slice none 0 0, c] w fun e w' => e = .returned (.tuple #[]) ∧ w = w' := by
  have hl : ∀ w, Calls Tryz.prog 78 #[.int .u64 0] w fun e w' => e = .returned (.int .i64 (Lib.bitLen 0 : Nat)) ∧ w' = w := fun w => by
    have h := Tryz.bits_Len 0 w (by omega) (by omega)
    exact h
  have HL := Lib.hid hl
  clear hl
  go_enter Tryz.func46, Tryz.ntmps46
  go_wp2_with (first | (go_at_call 78; refine (HL.out _).mono ?_; rintro e w' ⟨rfl, rfl⟩) | (go_at_call 77; refine (pdq_nil _ _ _).mono ?_; rintro e w' ⟨rfl, rfl⟩))
  go_end0
  exact ⟨rfl, rfl⟩
/-- The pairs are put in order. -/
theorem sortPairs_any (o : List (Nat × Nat)) (ov : Value) (base n : Nat) (w : World) (hn : o.length = n) (hb : n ≤ 4000000) (hown : w.ownsRow base 38 2 ov n (o.flatMap pairC)) :
    Calls Tryz.prog 46 #[ov, .func (.func 47) #[] #[]] w fun e w' =>
      e = .returned (.tuple #[]) ∧ ∃ o', o'.Perm o ∧ o'.Pairwise (fun a b => ¬ lexlt b a) ∧ SlV 2 PairAt w' ov o' ∧ Fr (fun b => ov.ownBlock = some b) w w' := by
  rcases own_form hown with ⟨rfl, rfl, _⟩ | ⟨g, cap, rfl, hg, _, hlt, hc, hcm⟩
  · have : o = [] := List.eq_nil_of_length_eq_zero hn
    subst this
    refine (SortFunc_nil _ w).mono ?_
    rintro e w' ⟨rfl, rfl⟩
    exact ⟨rfl, [], List.Perm.refl _, List.Pairwise.nil, ⟨none, 0, rfl, Nat.le_refl _, Nat.zero_le _, SlA.nil _ _ _ _⟩, Fr.refl _ _⟩
  · have hsz : o.toArray.size = n := by simpa using hn
    have hH := holds_own hn hown
    have key := Tryz.slices_SortFunc (α := Nat × Nat) 2 (fun w => by kernel_rfl) (fun w => by kernel_rfl) pairC (fun _ => rfl) (fun x v hv => by
      unfold pairC at hv
      simp only [List.mem_cons, List.not_mem_nil, or_false] at hv
      rcases hv with rfl | rfl <;> rfl) cmpPair cmpPair_swo 47 #[] g 0 cap o.toArray w (enters_of Tryz.func47 (by kernel_rfl) rfl)
      (fun m os dk _ x y => (Clash1_any x y _).mono fun _ _ h => h) hH hlt (by rw [hsz]; omega)
    rw [hsz] at key
    refine key.mono ?_
    rintro e w' ⟨rfl, d', m, os, ⟨hp1, _, hp3⟩, hs, rfl⟩
    rw [hsz] at hp1
    refine ⟨rfl, d'.toList, ?_, ?_, ?_, (fr_sortWorldK w g m d' os).mono fun b _ hb => by rw [hb]; exact hg⟩
    · have e1 : d'.extract 0 n = d' := by rw [← hp1]; simp
      have e2 : o.toArray.extract 0 n = o.toArray := by rw [← hsz]; simp
      rw [e1, e2] at hp3
      exact hp3
    · rw [List.pairwise_iff_getElem]
      intro i j hi hj hij
      have hi' : i < d'.size := by simpa using hi
      have hj' : j < d'.size := by simpa using hj
      have := hs i j (Nat.zero_le _) hij (by rw [← hp1]; exact hj')
      rw [getElem!_pos d' j hj', getElem!_pos d' i hi'] at this
      rw [← cmpPair_lt, Array.getElem_toList, Array.getElem_toList, this]
      simp
    · have hH' := holdsK_sortWorldK_c pairC 2 w g 0 o.toArray d' m os hH hlt (by rw [hp1, hsz])
      refine ⟨some ⟨g, 0, none⟩, cap, by simp [hp1], by simp [hp1, hc], hcm, fun i x hx => ⟨g, 0, rfl, ?_⟩⟩
      have hi : i < d'.size := by have := (List.getElem?_eq_some_iff.1 hx).1; simpa using this
      have hxe : d'[i]! = x := by
        rw [getElem!_pos d' i hi]
        rw [Array.getElem?_toList, Array.getElem?_eq_getElem hi] at hx
        simpa using hx
      have k0 := (hH'.cell hi (show 0 < 2 by decide)).1
      have k1 := (hH'.cell hi (show 1 < 2 by decide)).1
      rw [hxe] at k0 k1
      exact ⟨by simpa [pairC] using k0, by simpa [pairC] using k1⟩
end Go.Proofs.YtmdmbdbbpdojnaaGreatDoor
namespace Go.Proofs.YtmdmbdbbpdojnaaGreatDoor
open Go.RowKit Nam Pol Go.Maps
attribute [local go_sem] gv_of

def natV (i : Nat) : Value := .int .i64 (i : Int)
/-- A map of slices of the call's own: what stands at each text. -/
structure ByIs (w : World) (base : Nat) (mb : List (ByteArray × Value)) (f : ByteArray → List Nat) : Prop where
  none' : ∀ s, look mb s = none → f s = []
  row : ∀ s v, look mb s = some v → w.ownsRow base 3 1 v (f s).length ((f s).map natV) ∧ f s ≠ []
  apart : ∀ s s' v v', look mb s = some v → look mb s' = some v' → s ≠ s' → v.ownBlock ≠ v'.ownBlock
/-- What a look-up gives. -/
def atB (mb : List (ByteArray × Value)) (s : ByteArray) : Value := (look mb s).getD (.slice none 0 0)
theorem ByIs.at {w : World} {base : Nat} {mb : List (ByteArray × Value)} {f : ByteArray → List Nat} (h : ByIs w base mb f) (s : ByteArray) : w.ownsRow base 3 1 (atB mb s) (f s).length ((f s).map natV) := by
  unfold atB
  cases hl : look mb s with
  | none => rw [h.none' s hl]; exact World.ownsRow_nil _ _ _ _
  | some v => exact (h.row s v hl).1
theorem ByIs.start (w : World) (base : Nat) : ByIs w base [] fun _ => [] := ⟨fun _ _ => rfl, fun _ _ h => (by simp [look] at h), fun _ _ _ _ h => (by simp [look] at h)⟩
theorem ByIs.block {w : World} {base : Nat} {mb : List (ByteArray × Value)} {f : ByteArray → List Nat} (h : ByIs w base mb f) {s : ByteArray} {v : Value} (hl : look mb s = some v) : ∃ g, v.ownBlock = some g ∧ base ≤ g ∧ g < w.heap.size := by
  obtain ⟨h1, h2⟩ := h.row s v hl
  rcases own_form h1 with ⟨_, h3, _⟩ | ⟨g, cap, hv, hg, h4, h5, _⟩
  · exact absurd (List.eq_nil_of_length_eq_zero h3) h2
  · exact ⟨g, hg, h4, h5⟩
theorem ByIs.keep {w w' : World} {base : Nat} {mb : List (ByteArray × Value)} {f : ByteArray → List Nat} (h : ByIs w base mb f) (hb : ∀ s v g, look mb s = some v → v.ownBlock = some g → w'.heap[g]? = w.heap[g]?) : ByIs w' base mb f :=
  ⟨h.none', fun s v hl => ⟨own_keep (h.row s v hl).1 fun g hg => hb s v g hl hg, (h.row s v hl).2⟩, h.apart⟩
theorem ByIs.ext {w w' : World} {base : Nat} {mb : List (ByteArray × Value)} {f : ByteArray → List Nat} (h : ByIs w base mb f) (hE : Ext w w') : ByIs w' base mb f :=
  h.keep fun s v g hl hg => by
    obtain ⟨g', h1, _, h2⟩ := h.block hl
    rw [h1] at hg; cases hg
    exact hE.block _ h2
theorem ByIs.push {w w1 : World} {base k : Nat} {mb : List (ByteArray × Value)} {f : ByteArray → List Nat} (h : ByIs w base mb f) (s : ByteArray) {v' : Value} (hown : w1.ownsRow base 3 1 v' ((f s).length + 1) ((f s).map natV ++ [natV k]))
    (hg : w.grownBy w1 (atB mb s).ownBlock) (hat : v'.ownBlock = (atB mb s).ownBlock ∨ v'.ownBlock = some w.heap.size) : ByIs w1 base (mput mb s v') fun s' => if s = s' then f s ++ [k] else f s' := by
  have other : ∀ s' v, look mb s' = some v → s ≠ s' → v.ownBlock ≠ (atB mb s).ownBlock := fun s' v hl hne => by
    obtain ⟨g, h1, _, _⟩ := h.block hl
    unfold atB
    cases hs : look mb s with
    | none => rw [h1]; simp [Value.ownBlock]
    | some u => exact h.apart s' s v u hl hs (fun e => hne e.symm)
  refine ⟨fun s' hl => ?_, fun s' v hl => ?_, fun s1 s2 v1 v2 h1 h2 hne => ?_⟩
  · rw [look_mput] at hl
    by_cases e : s = s'
    · rw [if_pos e] at hl; cases hl
    · rw [if_neg e] at hl ⊢; exact h.none' s' hl
  · rw [look_mput] at hl
    by_cases e : s = s'
    · rw [if_pos e] at hl; cases hl
      rw [if_pos e]
      refine ⟨?_, by simp⟩
      rw [List.map_append, List.length_append]
      exact hown
    · rw [if_neg e] at hl
      rw [if_neg e]
      exact ⟨(h.row s' v hl).1.kept hg (.inr (other s' v hl e)), (h.row s' v hl).2⟩
  · have new : ∀ s' v, look mb s' = some v → s ≠ s' → v.ownBlock ≠ v'.ownBlock := fun s' v hl hne => by
      rcases hat with e | e
      · rw [e]; exact other s' v hl hne
      · obtain ⟨g, g1, _, g2⟩ := h.block hl
        rw [e, g1]
        simp only [ne_eq, Option.some.injEq]; omega
    rw [look_mput] at h1 h2
    by_cases e1 : s = s1
    · rw [if_pos e1] at h1; cases h1
      rw [if_neg (fun e => hne (e1.symm.trans e))] at h2
      exact fun e => new s2 v2 h2 (fun e' => hne (e1.symm.trans e')) e.symm
    · rw [if_neg e1] at h1
      by_cases e2 : s = s2
      · rw [if_pos e2] at h2; cases h2
        exact new s1 v1 h1 e1
      · rw [if_neg e2] at h2
        exact h.apart s1 s2 v1 v2 h1 h2 hne
/-- Pairs as keys. -/
def pairKV (q : Nat × Nat) : Value := .agg #[.int .i64 (q.1 : Int), .int .i64 (q.2 : Int)]
def pairOk (q : Nat × Nat) : Prop := q.1 < 4294967296 ∧ q.2 < 4294967296
theorem Tryz.arrPair : WideMaps.ArrKey Tryz.prog 38 3 2 := ⟨Tryz.underlying38, by kernel_rfl, by kernel_rfl, by kernel_rfl⟩
theorem wf_nat {n : Nat} (h : n < 4294967296) : (Lit.int .i64 (n : Int)).wf = true := by
  simp [Lit.wf, IntKind.min, IntKind.max, IntKind.bits, IntKind.signed]; omega
theorem pairKEnc : KEnc Tryz.prog 38 pairKV pairOk where
  keyed := Keyed.of_law Tryz.arrPair.law
  key := fun q ⟨h1, h2⟩ => ⟨_, WideMaps.keyOf_pair Tryz.arrPair Tryz.underlying3 ⟨Tryz.prog.types.size - 1, by kernel_rfl⟩ (wf_nat h1) (wf_nat h2)⟩
  inj := fun a b h => by
    unfold pairKV at h
    simp only [Value.agg.injEq, Array.mk.injEq, List.cons.injEq, Value.int.injEq, true_and, and_true] at h
    exact Prod.ext (by omega) (by omega)
abbrev PMap (w : World) (b : Nat) (m : List ((Nat × Nat) × Value)) : Prop := MapIs Tryz.prog 38 pairKV pairOk w b m
/-- It tells which pairs have been met. -/
def SeenP (m : List ((Nat × Nat) × Value)) (o : List (Nat × Nat)) : Prop := ∀ q, (look m q).getD (.bool false) = .bool (decide (q ∈ o))
theorem SeenP.put {m : List ((Nat × Nat) × Value)} {o : List (Nat × Nat)} (h : SeenP m o) (q : Nat × Nat) : SeenP (mput m q (.bool true)) (o ++ [q]) := fun q' => by
  rw [look_mput]
  by_cases e : q = q'
  · subst e; simp
  · rw [if_neg e, h q']
    simp [show ¬ q' = q from fun e' => e e'.symm]
/-- All that it keeps. w0: the world at the call; mb: the map of slices; oM: the pairs in the set; o: those in the list. -/
structure ClashSt (w0 w : World) (mb : List (ByteArray × Value)) (f : ByteArray → List Nat) (oM o : List (Nat × Nat)) (ov : Value) : Prop where
  ext : Ext w0 w
  by' : NMap w w0.heap.size mb
  rows : ByIs w w0.heap.size mb f
  met : ∃ mm, PMap w (w0.heap.size + 1) mm ∧ SeenP mm oM
  out : w.ownsRow w0.heap.size 38 2 ov o.length (o.flatMap pairC)
variable {w0 w : World} {mb : List (ByteArray × Value)} {f : ByteArray → List Nat} {oM o : List (Nat × Nat)} {ov : Value}
theorem ClashSt.start (w0 : World) : ClashSt w0 ((w0.alloc (.map #[] 0)).alloc (.map #[] 0)) [] (fun _ => []) [] [] (.slice none 0 0) where
  ext := ext_alloc (ext_alloc (Below.refl _ _) _) _
  by' := (MapIs.made Tryz.prog 9 Value.string (fun s : ByteArray => s.size ≤ maxLen) w0).ext (ext_alloc (Below.refl _ _) _)
  rows := ByIs.start _ _
  met := ⟨[], by have := MapIs.made Tryz.prog 38 pairKV pairOk (w0.alloc (.map #[] 0)); rwa [World.size_alloc] at this, fun _ => rfl⟩
  out := World.ownsRow_nil _ _ _ _
theorem ClashSt.ext' {w' : World} (h : ClashSt w0 w mb f oM o ov) (hE : Ext w w') : ClashSt w0 w' mb f oM o ov where
  ext := ext_trans h.ext hE
  by' := h.by'.ext hE
  rows := h.rows.ext hE
  met := by obtain ⟨mm, h1, h2⟩ := h.met; exact ⟨mm, h1.ext hE, h2⟩
  out := own_ext h.out hE
theorem ClashSt.out_apart (h : ClashSt w0 w mb f oM o ov) {s : ByteArray} {v : Value} {g : Nat} (hl : look mb s = some v) (hg : v.ownBlock = some g) : some g ≠ ov.ownBlock := by
  rcases own_apart (h.rows.row s v hl).1 h.out (by decide) with e | e
  · rw [hg] at e; cases e
  · rw [hg] at e; exact e
theorem ClashSt.push {w1 : World} {v' : Value} {q : Nat × Nat} (h : ClashSt w0 w mb f oM o ov) (hown : w1.ownsRow w0.heap.size 38 2 v' (o.length + 1) (o.flatMap pairC ++ pairC q)) (hg : w.grownBy w1 ov.ownBlock) : ClashSt w0 w1 mb f oM (o ++ [q]) v' where
  ext := h.ext.grown hg (own_ge h.out)
  by' := h.by'.of_block (by
    obtain ⟨es, clock, hb, _⟩ := h.by'.heap
    exact hg.block _ h.by'.lt (fun e => own_map_apart h.out hb e.symm))
  rows := h.rows.keep fun s v g hl hv => by
    obtain ⟨g', h1, _, h2⟩ := h.rows.block hl
    rw [h1] at hv; cases hv
    exact hg.block _ h2 (h.out_apart hl h1)
  met := by
    obtain ⟨mm, h1, h2⟩ := h.met
    refine ⟨mm, h1.of_block ?_, h2⟩
    obtain ⟨es, clock, hb, _⟩ := h1.heap
    exact hg.block _ h1.lt (fun e => own_map_apart h.out hb e.symm)
  out := by rw [List.flatMap_append, List.length_append]; exact hown
theorem ClashSt.meet {w1 : World} {mm : List ((Nat × Nat) × Value)} {q : Nat × Nat} (h : ClashSt w0 w mb f oM o ov) (hs : SeenP mm oM) (h1 : PMap w1 (w0.heap.size + 1) (mput mm q (.bool true))) (hF : Fr (fun b => b = w0.heap.size + 1) w w1) (hb : ∃ es clock, w.heap[w0.heap.size + 1]? = some (.map es clock)) :
    ClashSt w0 w1 mb f (oM ++ [q]) o ov where
  ext := h.ext.trans (hF.below h.ext.size (fun k hk => by omega))
  by' := h.by'.fr hF (by omega)
  rows := h.rows.keep fun s v g hl hv => by
    obtain ⟨g', e1, _, e2⟩ := h.rows.block hl
    rw [e1] at hv; cases hv
    obtain ⟨es, clock, hm⟩ := hb
    exact hF.block _ e2 fun e => own_map_apart (h.rows.row s v hl).1 hm (by rw [e1, e])
  met := ⟨_, h1, hs.put q⟩
  out := own_fr h.out hF fun g hg e => by
    obtain ⟨es, clock, hm⟩ := hb
    exact own_map_apart h.out hm (by rw [hg, e])
theorem ClashSt.book {w1 w2 : World} {v' : Value} {s : ByteArray} {k : Nat} (h : ClashSt w0 w mb f oM o ov) (hown : w1.ownsRow w0.heap.size 3 1 v' ((f s).length + 1) ((f s).map natV ++ [natV k])) (hg : w.grownBy w1 (atB mb s).ownBlock) (hat : v'.ownBlock = (atB mb s).ownBlock ∨ v'.ownBlock = some w.heap.size)
    (h2 : NMap w2 w0.heap.size (mput mb s v')) (hF : Fr (fun b => b = w0.heap.size) w1 w2) :
    ClashSt w0 w2 (mput mb s v') (fun s' => if s = s' then f s ++ [k] else f s') oM o ov := by
  have hE1 := h.ext.grown hg (own_ge (h.rows.at s))
  have hr1 := h.rows.push s hown hg hat
  have hm1 : ∃ es clock, w1.heap[w0.heap.size]? = some (.map es clock) := by
    obtain ⟨es, clock, hb, _⟩ := h.by'.heap
    exact ⟨es, clock, (hg.block _ h.by'.lt (fun e => own_map_apart (h.rows.at s) hb e.symm)).trans hb⟩
  have ho1 : w1.ownsRow w0.heap.size 38 2 ov o.length (o.flatMap pairC) := h.out.kept hg (own_apart h.out (h.rows.at s) (by decide))
  refine ⟨hE1.trans (hF.below hE1.size (fun k hk => by omega)), h2, hr1.keep fun s' v g hl hv => ?_, ?_, own_fr ho1 hF fun g hg e => ?_⟩
  · obtain ⟨g', e1, _, e2⟩ := hr1.block hl
    rw [e1] at hv; cases hv
    obtain ⟨es, clock, hm⟩ := hm1
    exact hF.block _ e2 fun e => own_map_apart (hr1.row s' v hl).1 hm (by rw [e1, e])
  · obtain ⟨mm, m1, m2⟩ := h.met
    refine ⟨mm, (m1.of_block ?_).fr hF (by omega), m2⟩
    obtain ⟨es, clock, hb, _⟩ := m1.heap
    exact hg.block _ m1.lt (fun e => own_map_apart (h.rows.at s) hb e.symm)
  · obtain ⟨es, clock, hm⟩ := hm1
    exact own_map_apart ho1 hm (by rw [hg, e])
theorem ClashSt.by_grown {w1 : World} {s : ByteArray} (h : ClashSt w0 w mb f oM o ov) (hg : w.grownBy w1 (atB mb s).ownBlock) : NMap w1 w0.heap.size mb :=
  h.by'.of_block (by
    obtain ⟨es, clock, hb, _⟩ := h.by'.heap
    exact hg.block _ h.by'.lt (fun e => own_map_apart (h.rows.at s) hb e.symm))
/-! What has been found, in plain words: behind k rules and the patterns ps of rule k. -/
def FInv (l : List Rul) (k : Nat) (ps : List ByteArray) (f : ByteArray → List Nat) : Prop := ∀ s x, x ∈ f s ↔ ((x < k ∧ ∃ r, l[x]? = some r ∧ s ∈ r.pats) ∨ (x = k ∧ s ∈ ps))
def OInv (l : List Rul) (k : Nat) (ps : List ByteArray) (o : List (Nat × Nat)) : Prop := ∀ q, q ∈ o ↔ (q.1 < q.2 ∧ ((q.2 < k ∧ bothAt l q.1 q.2 = true) ∨ (q.2 = k ∧ ∃ r p, l[q.1]? = some r ∧ p ∈ ps ∧ p ∈ r.pats)))
/-- .. and of one pattern more, whose rules are xs, the first m. -/
def MInv (l : List Rul) (k : Nat) (ps : List ByteArray) (xs : List Nat) (m : Nat) (o : List (Nat × Nat)) : Prop := ∀ q, q ∈ o ↔ ((q.1 < q.2 ∧ ((q.2 < k ∧ bothAt l q.1 q.2 = true) ∨ (q.2 = k ∧ ∃ r p, l[q.1]? = some r ∧ p ∈ ps ∧ p ∈ r.pats))) ∨ (q.2 = k ∧ q.1 ≠ k ∧ q.1 ∈ xs.take m))
theorem FInv.start (l : List Rul) : FInv l 0 [] fun _ => [] := fun s x => by simp
theorem OInv.start (l : List Rul) : OInv l 0 [] [] := fun q => by simp
theorem FInv.next {l : List Rul} {k : Nat} {ps : List ByteArray} {f : ByteArray → List Nat} (h : FInv l k ps f) (p : ByteArray) : FInv l k (ps ++ [p]) fun s => if p = s then f p ++ [k] else f s := fun s x => by
  by_cases e : p = s
  · subst e
    simp only [if_pos]
    rw [List.mem_append, h p x, List.mem_singleton, List.mem_append, List.mem_singleton]
    constructor
    · rintro ((h | ⟨h1, h2⟩) | h)
      · exact .inl h
      · exact .inr ⟨h1, .inl h2⟩
      · exact .inr ⟨h, .inr rfl⟩
    · rintro (h | ⟨h1, h2 | _⟩)
      · exact .inl (.inl h)
      · exact .inl (.inr ⟨h1, h2⟩)
      · exact .inr h1
  · simp only [if_neg e]
    rw [h s x, List.mem_append, List.mem_singleton]
    constructor
    · rintro (h | ⟨h1, h2⟩)
      · exact .inl h
      · exact .inr ⟨h1, .inl h2⟩
    · rintro (h | ⟨h1, h2 | h2⟩)
      · exact .inl h
      · exact .inr ⟨h1, h2⟩
      · exact absurd h2.symm e
theorem FInv.close {l : List Rul} {k : Nat} {r : Rul} {f : ByteArray → List Nat} (hr : l[k]? = some r) (h : FInv l k r.pats f) : FInv l (k + 1) [] f := fun s x => by
  rw [h s x]
  constructor
  · rintro (⟨h1, h2⟩ | ⟨rfl, h2⟩)
    · exact .inl ⟨by omega, h2⟩
    · exact .inl ⟨by omega, r, hr, h2⟩
  · rintro (⟨h1, r', h2, h3⟩ | ⟨_, h2⟩)
    · by_cases e : x = k
      · subst e
        rw [hr] at h2; cases h2
        exact .inr ⟨rfl, h3⟩
      · exact .inl ⟨by omega, r', h2, h3⟩
    · cases h2
theorem OInv.open {l : List Rul} {k : Nat} {ps : List ByteArray} {o : List (Nat × Nat)} (h : OInv l k ps o) (xs : List Nat) : MInv l k ps xs 0 o := fun q => by
  rw [h q]; simp
theorem MInv.skip {l : List Rul} {k m x : Nat} {ps : List ByteArray} {xs : List Nat} {o : List (Nat × Nat)} (h : MInv l k ps xs m o) (hx : xs[m]? = some x) (hs : x = k ∨ (x, k) ∈ o) : MInv l k ps xs (m + 1) o := fun q => by
  rw [take_snoc hx, List.mem_append, List.mem_singleton]
  constructor
  · intro hq
    rcases (h q).1 hq with h1 | ⟨h1, h2, h3⟩
    · exact .inl h1
    · exact .inr ⟨h1, h2, .inl h3⟩
  · rintro (h1 | ⟨h1, h2, h3 | h3⟩)
    · exact (h q).2 (.inl h1)
    · exact (h q).2 (.inr ⟨h1, h2, h3⟩)
    · rcases hs with e | e
      · exact absurd (h3.trans e) h2
      · rwa [show q = (x, k) from Prod.ext h3 h1]
theorem MInv.add {l : List Rul} {k m x : Nat} {ps : List ByteArray} {xs : List Nat} {o : List (Nat × Nat)} (h : MInv l k ps xs m o) (hx : xs[m]? = some x) (hne : x ≠ k) : MInv l k ps xs (m + 1) (o ++ [(x, k)]) := fun q => by
  rw [take_snoc hx, List.mem_append, List.mem_append, List.mem_singleton, List.mem_singleton]
  constructor
  · rintro (hq | rfl)
    · rcases (h q).1 hq with h1 | ⟨h1, h2, h3⟩
      · exact .inl h1
      · exact .inr ⟨h1, h2, .inl h3⟩
    · exact .inr ⟨rfl, hne, .inr rfl⟩
  · rintro (h1 | ⟨h1, h2, h3 | h3⟩)
    · exact .inl ((h q).2 (.inl h1))
    · exact .inl ((h q).2 (.inr ⟨h1, h2, h3⟩))
    · exact .inr (Prod.ext h3 h1)
theorem MInv.close {l : List Rul} {k : Nat} {ps : List ByteArray} {p : ByteArray} {f : ByteArray → List Nat} {o : List (Nat × Nat)} (hf : FInv l k ps f) (h : MInv l k ps (f p) (f p).length o) : OInv l k (ps ++ [p]) o := fun q => by
  rw [h q, List.take_length]
  constructor
  · rintro (⟨h1, h2 | ⟨h2, r, p', h3, h4, h5⟩⟩ | ⟨h1, h2, h3⟩)
    · exact ⟨h1, .inl h2⟩
    · exact ⟨h1, .inr ⟨h2, r, p', h3, List.mem_append_left _ h4, h5⟩⟩
    · rcases (hf p q.1).1 h3 with ⟨g1, r, g2, g3⟩ | ⟨g1, _⟩
      · exact ⟨by omega, .inr ⟨h1, r, p, g2, by simp, g3⟩⟩
      · exact absurd g1 h2
  · rintro ⟨h1, h2 | ⟨h2, r, p', h3, h4, h5⟩⟩
    · exact .inl ⟨h1, .inl h2⟩
    · rcases List.mem_append.1 h4 with h4 | h4
      · exact .inl ⟨h1, .inr ⟨h2, r, p', h3, h4, h5⟩⟩
      · rw [List.mem_singleton] at h4; subst h4
        exact .inr ⟨h2, by omega, (hf p' q.1).2 (.inl ⟨by omega, r, h3, h5⟩)⟩
theorem OInv.close {l : List Rul} {k : Nat} {r : Rul} {o : List (Nat × Nat)} (hr : l[k]? = some r) (h : OInv l k r.pats o) : OInv l (k + 1) [] o := fun q => by
  rw [h q]
  constructor
  · rintro ⟨h1, ⟨h2, h3⟩ | ⟨h2, r', p', h3, h4, h5⟩⟩
    · exact ⟨h1, .inl ⟨by omega, h3⟩⟩
    · exact ⟨h1, .inl ⟨by omega, bothAt_iff.2 ⟨r', r, p', h3, by rw [h2]; exact hr, h5, h4⟩⟩⟩
  · rintro ⟨h1, ⟨h2, h3⟩ | ⟨_, _, _, _, h4, _⟩⟩
    · refine ⟨h1, ?_⟩
      by_cases e : q.2 = k
      · obtain ⟨x, y, p, g1, g2, g3, g4⟩ := bothAt_iff.1 h3
        rw [e, hr] at g2; cases g2
        exact .inr ⟨e, x, p, g1, g4, g3⟩
      · exact .inl ⟨by omega, h3⟩
    · cases h4
theorem OInv.all {l : List Rul} {o : List (Nat × Nat)} (h : OInv l l.length [] o) : ∀ q, q ∈ o ↔ q.1 < q.2 ∧ bothAt l q.1 q.2 = true := fun q => by
  rw [h q]
  constructor
  · rintro ⟨h1, ⟨_, h3⟩ | ⟨_, _, _, _, h4, _⟩⟩
    · exact ⟨h1, h3⟩
    · cases h4
  · rintro ⟨h1, h2⟩
    obtain ⟨x, y, p, _, g2, _⟩ := bothAt_iff.1 h2
    exact ⟨h1, .inl ⟨(List.getElem?_eq_some_iff.1 g2).1, h2⟩⟩
/-- Pairs of numbers below n are no more than n times n. -/
theorem pairs_le {n : Nat} {o : List (Nat × Nat)} (hn : o.Nodup) (h : ∀ q ∈ o, q.1 < n ∧ q.2 < n) : o.length ≤ n * n := by
  have := nodup_length_le (m := (List.range n).flatMap fun i => (List.range n).map fun k => (i, k)) hn fun q hq => by
    obtain ⟨h1, h2⟩ := h q hq
    exact List.mem_flatMap.2 ⟨q.1, List.mem_range.2 h1, List.mem_map.2 ⟨q.2, List.mem_range.2 h2, rfl⟩⟩
  rw [flat_length (m := n) (fun i => by rw [List.length_map, List.length_range]), List.length_range] at this
  exact this
end Go.Proofs.YtmdmbdbbpdojnaaGreatDoor
namespace Go.Proofs.YtmdmbdbbpdojnaaGreatDoor
open Go.RowKit Nam Pol Go.Maps
attribute [local go_sem] gv_of

/-- The first rule with a pattern, of the first k rules and some patterns of rule k. -/
def firstTo (l : List Rul) (k : Nat) (ps : List ByteArray) (s : ByteArray) : Option Nat := match firstRul (l.take k) s with
  | some i => some i
  | none => if memB ps s then some k else none
theorem firstTo_next {l : List Rul} {k : Nat} {r : Rul} (hr : l[k]? = some r) (s : ByteArray) : firstTo l (k + 1) [] s = firstTo l k r.pats s := by
  have hk := (List.getElem?_eq_some_iff.1 hr).1
  have e : List.findIdx? (fun r => memB r.pats s) [r] = if memB r.pats s then some 0 else none := by simp [List.findIdx?_cons]
  unfold firstTo firstRul
  rw [take_snoc hr, List.findIdx?_append, e]
  cases h : List.findIdx? (fun r => memB r.pats s) (l.take k) with
  | some i => rfl
  | none =>
    cases hm : memB r.pats s
    · rfl
    · have hl : (l.take k).length = k := by rw [List.length_take]; omega
      simp only [if_true, Option.map_some, Option.none_or, hl, Nat.zero_add]
theorem firstTo_all (l : List Rul) (s : ByteArray) : firstTo l l.length [] s = firstRul l s := by
  unfold firstTo
  rw [List.take_length]
  cases firstRul l s <;> simp [memB]
theorem firstTo_snoc (l : List Rul) (k : Nat) (ps : List ByteArray) (p s : ByteArray) : firstTo l k (ps ++ [p]) s = match firstTo l k ps s with
    | some i => some i
    | none => if p = s then some k else none := by
  unfold firstTo
  cases firstRul (l.take k) s with
  | some i => rfl
  | none =>
    simp only
    rw [memB_snoc]
    cases memB ps s
    · by_cases e : p = s
      · subst e; simp
      · have : (p.data.toList == s.data.toList) = false := by rw [beq_eq_false_iff_ne]; exact fun h => e (bytes_eq h)
        simp [this, e]
    · simp
/-- What the map of first rules holds. -/
def FirstIs (m : List (ByteArray × Value)) (f : ByteArray → Option Nat) : Prop := ∀ s, look m s = (f s).map natV
theorem FirstIs.put {m : List (ByteArray × Value)} {l : List Rul} {k : Nat} {ps : List ByteArray} (h : FirstIs m (firstTo l k ps)) {p : ByteArray} (hp : firstTo l k ps p = none) : FirstIs (mput m p (natV k)) (firstTo l k (ps ++ [p])) := fun s => by
  rw [look_mput, firstTo_snoc, h s]
  by_cases e : p = s
  · subst e; rw [hp]; simp
  · rw [if_neg e]
    cases firstTo l k ps s <;> simp [e]
theorem FirstIs.skip {m : List (ByteArray × Value)} {l : List Rul} {k i : Nat} {ps : List ByteArray} (h : FirstIs m (firstTo l k ps)) {p : ByteArray} (hp : firstTo l k ps p = some i) : FirstIs m (firstTo l k (ps ++ [p])) := fun s => by
  rw [firstTo_snoc, h s]
  by_cases e : p = s
  · subst e; rw [hp]
  · cases firstTo l k ps s <;> simp [e]
/-- What the decider's variable leads to. -/
def DecAt (w : World) (b : Nat) (l : List Rul) : Prop := ∃ mk m, Boxed w b 102 (.map (some mk)) ∧ NMap w mk m ∧ FirstIs m (firstRul l)
theorem DecAt.ext {w w' : World} {b : Nat} {l : List Rul} (h : DecAt w b l) (hE : Ext w w') : DecAt w' b l := by
  obtain ⟨mk, m, h1, h2, h3⟩ := h
  exact ⟨mk, m, ext_boxed hE h1, h2.ext hE, h3⟩
set_option maxRecDepth 100000 in
set_option maxHeartbeats 4000000 in
theorem deciders_any (l : List Rul) (a : Option Addr) (cap n : Nat) (w : World) (hn : l.length = n) (hnc : n ≤ cap) (hcm : cap ≤ maxLen) (hl : Ruls w a l) :
    Calls Tryz.prog 42 #[.slice a n cap] w fun e w' => ∃ b, e = .returned (.func (.func 72) #[] #[.pointer (some ⟨b, 0, none⟩)]) ∧ DecAt w' b l ∧ Ext w w' := by
  have HN := Lib.hid hn; have HL := Lib.hid hl
  unfold maxLen at hcm
  clear hn hl
  have E : KEnc Tryz.prog 9 Value.string (fun s : ByteArray => s.size ≤ maxLen) := strKEnc Tryz.underlying9
  have hmm := @run_makeMap Tryz.prog
  go_enter Tryz.func42, Tryz.ntmps42
  go_wp2_with fail
  obtain ⟨W0, hW0⟩ : ∃ W0, (w.alloc (Obj.map #[] 0)).alloc (Obj.cells #[.map (some w.heap.size)] 102) = W0 := ⟨_, rfl⟩
  have hE0 : Ext w W0 := by rw [← hW0]; exact ext_alloc (ext_alloc (Below.refl _ _) _) _
  have m0 : NMap W0 w.heap.size [] := by rw [← hW0]; exact (MapIs.made Tryz.prog 9 Value.string (fun s : ByteArray => s.size ≤ maxLen) w).ext (ext_alloc (Below.refl _ _) _)
  have b0 : Boxed W0 (w.heap.size + 1) 102 (.map (some w.heap.size)) := by rw [← hW0]; have := Boxed.new (w.alloc (Obj.map #[] 0)) 102 (.map (some w.heap.size)); rwa [World.size_alloc] at this
  have HE0 := Lib.hid hE0; have M0 := Lib.hid m0; have B0 := Lib.hid b0
  rw [hW0]
  clear hW0 hE0 m0 b0 hmm
  go_loopw [13] (fun i wr => ∃ (k : Nat) (m : List (ByteArray × Value)), k ≤ n ∧ i = .int .i64 k ∧ FirstIs m (firstTo l k []) ∧ Fr (fun b => b = w.heap.size) W0 wr ∧ NMap wr w.heap.size m) (fun i _ => n - (intOf i).toNat)
  case atStart => exact ⟨0, [], Nat.zero_le _, rfl, fun s => by simp [firstTo, firstRul, memB, look], Fr.refl _ _, M0.out⟩
  case round =>
    obtain ⟨k, m, hk, rfl, hf, hF, hm⟩ := hrel
    have HFI := Lib.hid hf; have HF := Lib.hid hF; have HM := Lib.hid hm
    have hEW : Ext w wr := HE0.out.trans (hF.below HE0.out.size (fun k hk => by omega))
    have HEW := Lib.hid hEW
    clear hf hF hm hEW
    by_cases hlt : k < n
    · obtain ⟨r, hr⟩ := get_some HN.out hlt
      obtain ⟨b, off, rfl, d0, d1, ⟨pa, pc, d2, l1, l2, hps⟩, d3, d4, d5, d6, _, _⟩ := HL.out k r hr
      replace d0 := ext_cell d0 HEW.out
      replace d1 := ext_cell d1 HEW.out
      replace d2 := ext_cell d2 HEW.out
      replace d3 := ext_cell d3 HEW.out
      replace d4 := ext_cell d4 HEW.out
      replace d5 := ext_cell d5 HEW.out
      replace d6 := ext_cell d6 HEW.out
      have HR := Lib.hid hr; have HPS := Lib.hid hps
      obtain ⟨np, hnp⟩ : ∃ m, r.pats.length = m := ⟨_, rfl⟩
      have NP := Lib.hid hnp
      rw [hnp] at d2 l1
      unfold maxLen at l2
      have hkc : k ≤ cap := by omega
      clear hr hps hnp
      go_wp2_with fail
      obtain ⟨W1, hW1⟩ : ∃ W1, (wr.alloc (Obj.cells #[.string r.name, .bool r.allow, .slice pa np pc, .int .u64 r.keyMin, .int .i64 r.lifeMax, .int .i64 r.most, .int .i64 r.window] 54)) = W1 := ⟨_, rfl⟩
      have HE1 : Hid (Ext wr W1) := Lib.hid (by rw [← hW1]; exact ext_alloc (Below.refl _ _) _)
      rw [hW1]
      clear hW1 d0 d1 d2 d3 d4 d5 d6
      go_loopw [21] (fun i wr => ∃ (j : Nat) (m : List (ByteArray × Value)), j ≤ np ∧ i = .int .i64 j ∧ FirstIs m (firstTo l k (r.pats.take j)) ∧ Fr (fun b => b = w.heap.size) W0 wr ∧ NMap wr w.heap.size m) (fun i _ => np - (intOf i).toNat)
      case atStart => exact ⟨0, m, Nat.zero_le _, rfl, HFI.out, HF.out.trans (Fr.of_ext HE1.out), HM.out.ext HE1.out⟩
      case round =>
        obtain ⟨j, m, hj, rfl, hf, hF, hm⟩ := hrel
        have hbx := hF.boxed B0.out (by omega)
        have hc := hbx.cell
        have HFI := Lib.hid hf; have HF := Lib.hid hF; have HM := Lib.hid hm
        have HEW1 : Hid (Ext w wr) := Lib.hid (HE0.out.trans (hF.below HE0.out.size (fun k hk => by omega)))
        clear hf hF hm hbx
        by_cases hlj : j < np
        · obtain ⟨p, hp⟩ := get_some NP.out hlj
          obtain ⟨b', off', rfl, e0, hpz⟩ := (HPS.out.ext HEW1.out) j p hp
          rw [Nat.mul_one] at e0
          have HP := Lib.hid (take_snoc hp)
          have HPZ := Lib.hid hpz
          have hjc : j ≤ pc := by omega
          have elk := HM.out.run_lookup_ok (mt := 102) E Tryz.underlying102 (z := .int .i64 0) (by kernel_rfl) (k := p) HPZ.out
          rw [HFI.out p] at elk
          clear hp hpz
          cases hq : firstTo l k (r.pats.take j) p with
          | some i =>
            have HQ := Lib.hid (HFI.out.skip hq)
            rw [hq] at elk
            simp only [Option.map_some, Option.getD_some, Option.isSome_some, natV] at elk
            clear hq
            go_wp2_with fail
            go_roundw
            case rel => exact ⟨j + 1, m, by omega, by go_num, by rw [HP.out]; exact HQ.out, HF.out, HM.out⟩
            case measure => simp [intOf]; omega
          | none =>
            have HQ := Lib.hid (HFI.out.put hq)
            rw [hq] at elk
            simp only [Option.map_none, Option.getD_none, Option.isSome_none] at elk
            clear hq
            go_wp2_with (at_mapUpdate; refine wpList_mapUpdate_is rfl _ _ _ 102 rfl E Tryz.underlying102 rfl HM.out p _ rfl rfl HPZ.out ?_; intro w1 hm' hf1 hz1; have QM := Lib.hid hm'; have QF := Lib.hid hf1; clear hm' hf1 hz1)
            go_roundw
            case rel => exact ⟨j + 1, _, by omega, by go_num, by rw [HP.out]; exact HQ.out, HF.out.trans QF.out, QM.out⟩
            case measure => simp [intOf]; omega
        · obtain rfl : j = np := by omega
          have HQ := Lib.hid (show FirstIs m (firstTo l (k + 1) []) from fun s => by
            rw [firstTo_next HR.out, HFI.out s, List.take_of_length_le (by rw [NP.out]; exact Nat.le_refl _)])
          clear hc
          go_wp2_with fail
          go_roundw
          case rel => exact ⟨k + 1, m, by omega, by go_num, HQ.out, HF.out, HM.out⟩
          case measure => simp [intOf]; omega
    · obtain rfl : k = n := by omega
      have HQ := Lib.hid (show FirstIs m (firstRul l) from fun s => by rw [HFI.out s, ← HN.out, firstTo_all])
      go_wp2_with fail
      go_ret
      exact ⟨_, rfl, ⟨_, m, HF.out.boxed B0.out (by omega), HM.out, HQ.out⟩, HEW.out⟩
theorem cat_star (q : ByteArray) : (⟨#[42, 46]⟩ : ByteArray) ++ q = starred q.data.toList := by
  apply ByteArray.ext; apply Array.ext'
  simp [starred]
theorem decP_some {l : List Rul} {s : ByteArray} {i : Nat} (hs : isB s.data.toList = true) (h : firstRul l s = some i) : decP l s = i := by
  have : candIdx l s = some i := by unfold candIdx rpatB; rw [hs, Bool.or_true, if_pos rfl, h]
  unfold decP candsOf firstSome
  rw [this]
theorem decP_none {l : List Rul} {s : ByteArray} (h : firstRul l s = none) : decP l s = match firstSome (candIdx l) ((aboveQ s.data.toList).map starred) with
    | some i => (i : Int)
    | none => -1 := by
  have : candIdx l s = none := by unfold candIdx; rw [h]; split <;> rfl
  unfold decP candsOf
  rw [firstSome, this]
  rfl
/-- What is still to be asked. -/
def DecRest (l : List Rul) (s : ByteArray) (r : Str) : Prop := decP l s = match firstSome (candIdx l) ((aboveQ r).map starred) with
    | some i => (i : Int)
    | none => -1
theorem DecRest.hit {l : List Rul} {s : ByteArray} {r : Str} {i : Nat} (h : DecRest l s r) (hu : up r ≠ []) (hc : candIdx l (starred (up r)) = some i) : decP l s = i := by
  rw [h, aboveQ_step hu, List.map_cons, firstSome, hc]
theorem DecRest.miss {l : List Rul} {s : ByteArray} {r : Str} (h : DecRest l s r) (hu : up r ≠ []) (hc : candIdx l (starred (up r)) = none) : DecRest l s (up r) := by
  unfold DecRest at h ⊢
  rw [h, aboveQ_step hu, List.map_cons, firstSome, hc]
theorem DecRest.done {l : List Rul} {s : ByteArray} {r : Str} (h : DecRest l s r) (hu : up r = []) : decP l s = -1 := by
  rw [h, aboveQ_end hu]; rfl
set_option maxRecDepth 100000 in
set_option maxHeartbeats 4000000 in
theorem deciders1_any (l : List Rul) (s : ByteArray) (b : Nat) (w : World) (hs : isB s.data.toList = true) (hd : DecAt w b l) (hw : Env w) :
    Calls Tryz.prog 72 #[.string s, .pointer (some ⟨b, 0, none⟩)] w (Ret (.int .i64 (decP l s)) w) := by
  have hsz : s.size ≤ 64 := by rw [Lib.size_eq]; exact (isB_iff.1 hs).1
  obtain ⟨mk, m, hb, hm, hf⟩ := hd
  have E : KEnc Tryz.prog 9 Value.string (fun s : ByteArray => s.size ≤ maxLen) := strKEnc Tryz.underlying9
  have HB := Lib.hid hb; have HM := Lib.hid hm; have HF := Lib.hid hf; have HW := Lib.hid hw; have HS := Lib.hid hs
  have hc := hb.cell
  have elk := hm.run_lookup_ok (mt := 102) E Tryz.underlying102 (z := .int .i64 0) (by kernel_rfl) (k := s) (by unfold maxLen; omega)
  rw [hf s] at elk
  clear hb hm hf hw hs
  cases hq : firstRul l s with
  | some i =>
    have HQ := Lib.hid (decP_some HS.out hq)
    rw [hq] at elk
    simp only [Option.map_some, Option.getD_some, Option.isSome_some, natV] at elk
    clear hq
    go_enter Tryz.func72, Tryz.ntmps72
    go_wp2_with fail
    go_ret
    exact ⟨ret_int HQ.out.symm, Below.refl _ _⟩
  | none =>
    have HQ := Lib.hid (show DecRest l s s.data.toList from decP_none hq)
    rw [hq] at elk
    simp only [Option.map_none, Option.getD_none, Option.isSome_none] at elk
    clear hq
    go_enter Tryz.func72, Tryz.ntmps72
    go_wp2_with (go_at_call 73; refine (Up_any s _ (by omega) HW.out).mono ?_; rintro e w1 ⟨rfl, hE1⟩; have HE1 := Lib.hid hE1; clear hE1)
    clear elk hc
    go_loopw [6] (fun u wr => ∃ r q : ByteArray, u = .string q ∧ q = ⟨(up r.data.toList).toArray⟩ ∧ r.size ≤ 64 ∧ DecRest l s r.data.toList ∧ Ext w wr) (fun u _ => vlen u)
    case atStart => exact ⟨s, _, rfl, rfl, hsz, HQ.out, HE1.out⟩
    case round =>
      obtain ⟨r, q, rfl, hq, hr, hrest, hEr⟩ := hrel
      have hqd : q.data.toList = up r.data.toList := by rw [hq]
      have hq64 : q.size ≤ 64 := by rw [hq]; exact Nat.le_trans (up_size r 64 hr) (Nat.le_refl _)
      have hqe := isEmpty_of (s := q)
      have HR := Lib.hid hrest; have HER := Lib.hid hEr; have HQD := Lib.hid hqd
      clear hq hrest hEr hqd
      by_cases hu : q.size = 0
      · have e0 : q.toList.isEmpty = true := by rw [hqe]; simp [hu]
        have HD := Lib.hid (HR.out.done (by rw [← HQD.out]; have := Lib.size_eq q; rw [hu] at this; exact List.eq_nil_of_length_eq_zero this.symm))
        clear hqe hu
        go_wp2_with fail
        go_ret
        exact ⟨ret_int HD.out.symm, HER.out⟩
      · have e0 : q.toList.isEmpty = false := by rw [hqe]; simp [hu]
        have hne : up r.data.toList ≠ [] := by rw [← HQD.out]; intro h; exact hu (by rw [Lib.size_eq, h]; rfl)
        have hlt : q.size < r.size := by rw [Lib.size_eq, Lib.size_eq, HQD.out]; exact up_lt _ hne
        have HNE := Lib.hid hne
        have hb := ext_boxed HER.out HB.out
        have hc := hb.cell
        obtain ⟨K, hK⟩ : ∃ K : ByteArray, (⟨#[42, 46]⟩ : ByteArray) ++ q = K := ⟨_, rfl⟩
        have HK := Lib.hid (show K = starred (up r.data.toList) by rw [← hK, cat_star, HQD.out])
        have hKs : K.size ≤ 66 := by rw [HK.out, Lib.size_eq, starred_data, ← HQD.out]; simp only [List.length_cons]; rw [← Lib.size_eq]; omega
        have elk := (HM.out.ext HER.out).run_lookup_ok (mt := 102) E Tryz.underlying102 (z := .int .i64 0) (by kernel_rfl) (k := K) (by unfold maxLen; omega)
        rw [HF.out K] at elk
        clear hqe hu hne hb
        cases hq : firstRul l K with
        | some i =>
          rw [hq] at elk
          simp only [Option.map_some, Option.getD_some, Option.isSome_some, natV] at elk
          cases hp : rpatB K.data.toList
          · have HM' := Lib.hid (HR.out.miss HNE.out (by unfold candIdx; rw [← HK.out, hp]; rfl))
            have HP := Lib.hid (show okOr 110 (pattern K.data.toList).2.2 = 110 by rw [pattern_ok, hp]; rfl)
            clear hq hp
            go_wp2_with (first | (go_at_call 74; refine (Pattern_any K _ (by omega)).mono ?_; rintro e w2 ⟨rfl, hE2⟩; rw [HP.out]; have HE2 := Lib.hid (ext_trans HER.out hE2); clear hE2) | (go_at_call 73; refine (Up_any q _ (by omega) (HW.out.ext HE2.out)).mono ?_; rintro e w3 ⟨rfl, hE3⟩; have HE3 := Lib.hid (ext_trans HE2.out hE3); clear hE3))
            go_roundw
            case rel => exact ⟨q, _, rfl, rfl, hq64, by rw [HQD.out]; exact HM'.out, HE3.out⟩
            case measure =>
              simp only [vlen]
              rw [size_bs]
              by_cases hu2 : up q.data.toList = []
              · rw [hu2]
                have := HQD.out
                have hp0 : 0 < q.data.toList.length := by rw [this]; exact List.length_pos_iff.2 HNE.out
                rw [Lib.size_eq]; simpa using hp0
              · have := up_lt _ hu2; rw [← Lib.size_eq] at this; exact this
          · have HD := Lib.hid (HR.out.hit HNE.out (by unfold candIdx; rw [← HK.out, hp, if_pos rfl]; exact hq))
            have HP := Lib.hid (show okOr 110 (pattern K.data.toList).2.2 = 0 by rw [pattern_ok, hp]; rfl)
            clear hq hp
            go_wp2_with (go_at_call 74; refine (Pattern_any K _ (by omega)).mono ?_; rintro e w2 ⟨rfl, hE2⟩; rw [HP.out]; have HE2 := Lib.hid (ext_trans HER.out hE2); clear hE2)
            go_ret
            exact ⟨ret_int HD.out.symm, HE2.out⟩
        | none =>
          have HM' := Lib.hid (HR.out.miss HNE.out (by unfold candIdx; rw [← HK.out, hq]; split <;> rfl))
          rw [hq] at elk
          simp only [Option.map_none, Option.getD_none, Option.isSome_none] at elk
          clear hq
          go_wp2_with (go_at_call 73; refine (Up_any q _ (by omega) (HW.out.ext HER.out)).mono ?_; rintro e w3 ⟨rfl, hE3⟩; have HE3 := Lib.hid (ext_trans HER.out hE3); clear hE3)
          go_roundw
          case rel => exact ⟨q, _, rfl, rfl, hq64, by rw [HQD.out]; exact HM'.out, HE3.out⟩
          case measure =>
            simp only [vlen]
            rw [size_bs]
            by_cases hu2 : up q.data.toList = []
            · rw [hu2]
              have := HQD.out
              have hp0 : 0 < q.data.toList.length := by rw [this]; exact List.length_pos_iff.2 HNE.out
              rw [Lib.size_eq]; simpa using hp0
            · have := up_lt _ hu2; rw [← Lib.size_eq] at this; exact this
end Go.Proofs.YtmdmbdbbpdojnaaGreatDoor
namespace Go.Proofs.YtmdmbdbbpdojnaaGreatDoor
open Go.RowKit Nam Pol Go.Maps
attribute [local go_sem] gv_of

def intV (i : Int) : Value := .int .i64 i
theorem int_slv {w : World} {base : Nat} {e : TypeId} {v : Value} {n : Nat} {l : List Int} (hn : l.length = n) (h : w.ownsRow base e 1 v n (l.map intV)) : SlV 1 IntAt w v l := by
  have e1 : l.flatMap (fun i => [intV i]) = l.map intV := by
    clear h hn
    induction l with
    | nil => rfl
    | cons x l ih => rw [List.flatMap_cons, List.map_cons, ih]; rfl
  rw [← e1] at h
  exact own_slv (cells := fun i => [intV i]) (fun _ => rfl) (fun b o x _ hc => hc 0 _ rfl) hn h
/-- A verdict in a block of its own. -/
def VerB (w : World) (b : Nat) (al : Bool) (at' : Int) (bv : Value) : Prop := w.heap[b]? = some (.cells #[.bool al, .int .i64 at', bv] 32 (0, 0))
theorem VerB.cells {w : World} {b : Nat} {al : Bool} {at' : Int} {bv : Value} (h : VerB w b al at' bv) : w.cell? ⟨b, 0, none⟩ = some (.bool al) ∧ w.cell? ⟨b, 1, none⟩ = some (.int .i64 at') ∧ w.cell? ⟨b, 2, none⟩ = some bv := by
  unfold VerB at h
  simp [World.cell?, h]
theorem VerB.frozen {w : World} {b : Nat} {al : Bool} {at' : Int} {bv : Value} (h : VerB w b al at' bv) (j : Nat) : w.frozen? ⟨b, j, none⟩ = false := frozen_of_row w b j _ _ h
theorem VerB.lt {w : World} {b : Nat} {al : Bool} {at' : Int} {bv : Value} (h : VerB w b al at' bv) : b < w.heap.size := (Array.getElem?_eq_some_iff.1 h).1
theorem VerB.set0 {w : World} {b : Nat} {al : Bool} {at' : Int} {bv : Value} (h : VerB w b al at' bv) (al2 : Bool) : VerB (w.setCell ⟨b, 0, none⟩ (.bool al2)) b al2 at' bv := (heap_setCell_same w b 0 _ _ _ h).trans (by simp)
theorem VerB.set1 {w : World} {b : Nat} {al : Bool} {at' : Int} {bv : Value} (h : VerB w b al at' bv) (at2 : Int) : VerB (w.setCell ⟨b, 1, none⟩ (.int .i64 at2)) b al at2 bv := (heap_setCell_same w b 1 _ _ _ h).trans (by simp)
theorem VerB.set2 {w : World} {b : Nat} {al : Bool} {at' : Int} {bv : Value} (h : VerB w b al at' bv) (bv2 : Value) : VerB (w.setCell ⟨b, 2, none⟩ bv2) b al at' bv2 := (heap_setCell_same w b 2 _ _ _ h).trans (by simp)
theorem VerB.ext {w w' : World} {b : Nat} {al : Bool} {at' : Int} {bv : Value} (h : VerB w b al at' bv) (hE : Ext w w') : VerB w' b al at' bv := (hE.block b h.lt).trans h
theorem VerB.fr {S : Nat → Prop} {w w' : World} {b : Nat} {al : Bool} {at' : Int} {bv : Value} (h : VerB w b al at' bv) (hF : Fr S w w') (hs : ¬ S b) : VerB w' b al at' bv := (hF.block b h.lt hs).trans h
theorem VerB.new (w : World) (al : Bool) (at' : Int) (bv : Value) : VerB (w.alloc (.cells #[.bool al, .int .i64 at', bv] 32)) w.heap.size al at' bv := World.alloc_heap_new w _
theorem own_succ {w : World} {base : Nat} {e : TypeId} {m k : Nat} {v : Value} {xs : List Value} (h : w.ownsRow base e m v (k + 1) xs) : ∃ g cap, v = .slice (some ⟨g, 0, none⟩) (k + 1) cap := by
  rcases own_form h with ⟨_, h0, _⟩ | ⟨g, cap, hv, _⟩
  · omega
  · exact ⟨g, cap, hv⟩
theorem vStep_by (l : List Rul) (v : Wsh) (d : ByteArray → Int) (st : Ver) (s : ByteArray) : (vStep l v d st s).by' = st.by' ++ [d s] := rfl
/-- The verdict on the first k names. -/
def verTo (l : List Rul) (v : Wsh) (d : ByteArray → Int) (k : Nat) : Ver := (v.names.take k).foldl (vStep l v d) ⟨true, 0, []⟩
theorem verTo_succ {l : List Rul} {v : Wsh} {d : ByteArray → Int} {k : Nat} {s : ByteArray} (h : v.names[k]? = some s) : verTo l v d (k + 1) = vStep l v d (verTo l v d k) s := by
  unfold verTo; exact foldl_take_snoc h _ _
theorem verTo_len (l : List Rul) (v : Wsh) (d : ByteArray → Int) : ∀ (k : Nat), k ≤ v.names.length → (verTo l v d k).by'.length = k
  | 0, _ => rfl
  | k + 1, h => by
    have hs : v.names[k]? = some (v.names[k]'(by omega)) := List.getElem?_eq_getElem (by omega)
    rw [verTo_succ hs, vStep_by, List.length_append, verTo_len l v d k (by omega)]; rfl
theorem verTo_all (l : List Rul) (v : Wsh) (d : ByteArray → Int) : verTo l v d v.names.length = verdictOf l v d := by
  unfold verTo verdictOf; rw [List.take_length]
theorem okOf_some {l : List Rul} {v : Wsh} {i : Nat} {r : Rul} (h : l[i]? = some r) : okOf l v (i : Int) = (((i : Int) != -1) && r.allow && decide (r.keyMin ≤ v.key) && decide (0 < v.life) && decide (v.life ≤ r.lifeMax)) := by
  unfold okOf
  rw [Int.toNat_natCast, h]
  have e1 : decide (0 ≤ (i : Int)) = ((i : Int) != -1) := by
    rw [show ((i : Int) != -1) = true by rw [bne_iff_ne]; omega]; simp
  have e2 : decide (1 ≤ v.life) = decide (0 < v.life) := by congr 1
  simp only [e1, e2]
theorem okOf_none (l : List Rul) (v : Wsh) : okOf l v (-1) = false := by
  unfold okOf
  split <;> rfl
theorem verTo_step {l : List Rul} {v : Wsh} {d : ByteArray → Int} {k : Nat} {s : ByteArray} {x : Int} {al ok : Bool} (h : v.names[k]? = some s) (hx : d s = x) (ha : (verTo l v d k).allow = al) (ho : okOf l v x = ok) :
    verTo l v d (k + 1) = ⟨al && ok, if al && !ok then (k : Int) else (verTo l v d k).at', (verTo l v d k).by' ++ [x]⟩ := by
  rw [verTo_succ h]
  unfold vStep
  rw [hx, ha, ho, verTo_len l v d k (Nat.le_of_lt (List.getElem?_eq_some_iff.1 h).1)]
/-- A verdict is handed back. -/
def RetV (x : Ver) (w : World) (e : Ending) (w' : World) : Prop := ∃ a c, e = .returned (verV x a c) ∧ x.by'.length ≤ c ∧ c ≤ maxLen ∧ Ints w' a x.by' ∧ (∀ p, a = some p → w.heap.size ≤ p.block) ∧ Ext w w'
theorem ints_fr {S : Nat → Prop} {w w' : World} {a : Option Addr} {l : List Int} (h : Ints w a l) (hF : Fr S w w') (hs : ∀ p, a = some p → ¬ S p.block) : Ints w' a l := fun i x hx => by
  obtain ⟨b, off, ha, h1⟩ := h i x hx
  refine ⟨b, off, ha, ?_⟩
  unfold IntAt at h1 ⊢
  exact (hF.cell (p := ⟨b, off + i * 1, none⟩) (cell_lt h1) (hs ⟨b, off, none⟩ ha)).trans h1
theorem retV_mk {x : Ver} {w w4 : World} {base n : Nat} {bv : Value} (hn : x.by'.length = n) (hown : w4.ownsRow base 3 1 bv n (x.by'.map intV)) (hb : w.heap.size ≤ base) (hE : Ext w w4) : RetV x w (.returned (.agg #[.bool x.allow, .int .i64 x.at', bv])) w4 := by
  obtain ⟨a, c, hv, h1, h2, h3⟩ := int_slv hn hown
  refine ⟨a, c, by rw [hv]; rfl, h1, h2, h3, fun p hp => ?_, hE⟩
  rw [hv, hp] at hown
  exact Nat.le_trans hb (own_ge hown p.block rfl)
set_option maxRecDepth 100000 in
set_option maxHeartbeats 4000000 in
theorem verdict_any (l : List Rul) (v : Wsh) (d : ByteArray → Int) (g : Nat) (cb : Array Value) (a : Option Addr) (cap n : Nat) (va : Option Addr) (vc : Nat) (w : World)
    (hn : l.length = n) (hnc : n ≤ cap) (_hcm : cap ≤ maxLen) (hl : Ruls w a l) (hvc : v.names.length ≤ vc) (_hvm : vc ≤ maxLen) (hv : Strs w va v.names) (hfew : v.names.length ≤ 1000)
    (eg : ∀ args w, (callFunc g args).run Tryz.prog w = .ok (.enter g args) w) (hd : ∀ s ∈ v.names, ∀ w', Ext w w' → Calls Tryz.prog g (#[.string s] ++ cb) w' (Ret (.int .i64 (d s)) w'))
    (hr : ∀ s ∈ v.names, d s = -1 ∨ ∃ i : Nat, i < n ∧ d s = i) :
    Calls Tryz.prog 41 #[.slice a n cap, wshV v va vc, .func (.func g) #[] cb] w (RetV (verdictOf l v d) w) := by
  obtain ⟨i1, gi, gz0, gz1, gz2⟩ := info_parts Tryz.infoInt
  have HN := Lib.hid hn; have HL := Lib.hid hl; have HV := Lib.hid hv; have HD := Lib.hid hd; have HR := Lib.hid hr
  obtain ⟨m, hm⟩ : ∃ m, v.names.length = m := ⟨_, rfl⟩
  have HM := Lib.hid hm
  unfold wshV
  rw [hm] at hvc hfew ⊢
  clear hn hl hv hd hr hm
  go_enter Tryz.func41, Tryz.ntmps41
  go_wp2_with fail
  obtain ⟨W0, hW0⟩ : ∃ W0, ((w.alloc (Obj.cells #[.int .i64 v.account, .slice va m vc, .int .u64 v.key, .int .i64 v.life] 26)).alloc (Obj.cells #[.bool false, .int .i64 0, .slice none 0 0] 32)).alloc (Obj.cells #[.bool true, .int .i64 0, .slice none 0 0] 32) = W0 := ⟨_, rfl⟩
  have hE0 : Ext w W0 := by rw [← hW0]; exact ext_alloc (ext_alloc (ext_alloc (Below.refl _ _) _) _) _
  have c1 : W0.cell? ⟨w.heap.size, 1, none⟩ = some (.slice va m vc) := by rw [← hW0]; simp [go_sem]
  have c2 : W0.cell? ⟨w.heap.size, 2, none⟩ = some (.int .u64 v.key) := by rw [← hW0]; simp [go_sem]
  have c3 : W0.cell? ⟨w.heap.size, 3, none⟩ = some (.int .i64 v.life) := by rw [← hW0]; simp [go_sem]
  have hz : W0.heap.size = w.heap.size + 3 := by rw [← hW0]; simp
  have b1 : VerB W0 (w.heap.size + 1) false 0 (.slice none 0 0) := by
    rw [← hW0]
    have := VerB.new (w.alloc (Obj.cells #[.int .i64 v.account, .slice va m vc, .int .u64 v.key, .int .i64 v.life] 26)) false 0 (.slice none 0 0)
    rw [World.size_alloc] at this
    exact this.ext (ext_alloc (Below.refl _ _) _)
  have b2 : VerB W0 (w.heap.size + 1 + 1) true 0 (.slice none 0 0) := by
    rw [← hW0]
    have := VerB.new ((w.alloc (Obj.cells #[.int .i64 v.account, .slice va m vc, .int .u64 v.key, .int .i64 v.life] 26)).alloc (Obj.cells #[.bool false, .int .i64 0, .slice none 0 0] 32)) true 0 (.slice none 0 0)
    rwa [World.size_alloc, World.size_alloc] at this
  have HE0 := Lib.hid hE0; have C1 := Lib.hid c1; have C2 := Lib.hid c2; have C3 := Lib.hid c3; have HZ := Lib.hid hz; have B1 := Lib.hid b1; have B2 := Lib.hid b2
  rw [hW0]
  clear hW0 hE0 c1 c2 c3 hz b1 b2
  go_loopw [16] (fun i wr => ∃ (k : Nat) (bv : Value), k ≤ m ∧ i = .int .i64 k ∧ VerB wr (w.heap.size + 1 + 1) (verTo l v d k).allow (verTo l v d k).at' bv ∧ wr.ownsRow W0.heap.size 3 1 bv k ((verTo l v d k).by'.map intV) ∧ Fr (fun b => b = w.heap.size + 1 + 1) W0 wr) (fun i _ => m - (intOf i).toNat)
  case atStart => exact ⟨0, _, Nat.zero_le _, rfl, B2.out, World.ownsRow_nil _ _ _ _, Fr.refl _ _⟩
  case round =>
    obtain ⟨k, bv, hk, rfl, hb, hown, hF⟩ := hrel
    have HB := Lib.hid hb; have HOWN := Lib.hid hown; have HF := Lib.hid hF
    have HEW : Hid (Ext w wr) := Lib.hid (HE0.out.trans (hF.below HE0.out.size (fun k hk => by omega)))
    have hzz := HZ.out
    have hzr := hF.size
    clear hb hown hF
    by_cases hlt : k < m
    · obtain ⟨s, hs⟩ := get_some HM.out hlt
      obtain ⟨b, off, rfl, d0, hsz⟩ := (HV.out.ext HEW.out) k s hs
      rw [Nat.mul_one] at d0
      have HS := Lib.hid hs
      have hmem := List.mem_of_getElem? hs
      have HC := Lib.hid (HD.out s hmem)
      have hkc : k ≤ vc := by omega
      have hcases := HR.out s hmem
      obtain ⟨x, hx⟩ : ∃ x, d s = x := ⟨_, rfl⟩
      have HX := Lib.hid hx
      rw [hx] at hcases
      clear hs hsz hmem hx
      go_wp2_with (first
        | (go_at_fn g; refine (HC.out _ HEW.out).mono ?_; rintro e w1 ⟨rfl, hE1⟩; rw [HX.out]
           have hb1 := HB.out.ext hE1
           obtain ⟨k0, k1, k2⟩ := hb1.cells
           have HB1 := Lib.hid hb1; have HO1 := Lib.hid (own_ext HOWN.out hE1); have HE1 := Lib.hid hE1; have hz1 := hE1.size
           clear hb1 hE1)
        | (at_builtin; refine wpList_append_own _ rfl _ _ 30 rfl W0.heap.size 3 i1 (.int .i64 0) 1 8 Tryz.underlying30 gi gz0 gz1 gz2 rfl (by decide) bv _ _ rfl (HO1.out.alloc _) ⟨w1.heap.size, 0, none⟩ 1 1 [.int .i64 x] rfl rfl (one_cell_new _ _ _) (by simp [Value.oneCell']) (by unfold maxLen; omega) (by omega) (by simp; omega) ?_
           intro v' w2 hown2 hgrow2 _
           obtain ⟨g', cap', rfl⟩ := own_succ hown2
           have hF2 := Fr.grown hgrow2
           have hb2 := (HB1.out.ext (ext_alloc (Below.refl _ _) _)).fr hF2 (fun e => by have := own_ge HOWN.out _ e; omega)
           have fz := hb2.frozen 2
           obtain ⟨g0, g1, g2⟩ := hb2.cells
           have HB2 := Lib.hid hb2; have HO2 := Lib.hid hown2; have HF2 := Lib.hid hF2
           clear hb2 hown2 hgrow2 hF2))
      obtain ⟨W3, hW3⟩ : ∃ W3, w2.setCell ⟨w.heap.size + 1 + 1, 2, none⟩ (.slice (some ⟨g', 0, none⟩) (k + 1) cap') = W3 := ⟨_, rfl⟩
      have hb3 : VerB W3 (w.heap.size + 1 + 1) (verTo l v d k).allow (verTo l v d k).at' (.slice (some ⟨g', 0, none⟩) (k + 1) cap') := by rw [← hW3]; exact HB2.out.set2 _
      have ho3 := by have := ownsRow_setCell_below HO2.out (a := ⟨w.heap.size + 1 + 1, 2, none⟩) (show w.heap.size + 1 + 1 < W0.heap.size by omega) (.slice (some ⟨g', 0, none⟩) (k + 1) cap'); rw [hW3] at this; exact this
      have hF3 : Fr (fun b => b = w.heap.size + 1 + 1) W0 W3 := by
        rw [← hW3]
        exact ((((HF.out.trans (Fr.of_ext HE1.out)).trans (Fr.alloc _ _ _)).onto HF2.out (fun j hj hg => by have := own_ge HOWN.out _ hg; omega))).trans (Fr.setCell _ _ _ rfl)
      rw [hW3]
      have HB3 := Lib.hid hb3; have HO3 := Lib.hid ho3; have HF3 := Lib.hid hF3
      have HE3 : Hid (Ext w W3) := Lib.hid (HE0.out.trans (hF3.below HE0.out.size (fun k hk => by omega)))
      have c2 := (hF3.cell (p := ⟨w.heap.size, 2, none⟩) (show w.heap.size < W0.heap.size by omega) (show ¬ w.heap.size = w.heap.size + 1 + 1 by omega)).trans C2.out
      have c3 := (hF3.cell (p := ⟨w.heap.size, 3, none⟩) (show w.heap.size < W0.heap.size by omega) (show ¬ w.heap.size = w.heap.size + 1 + 1 by omega)).trans C3.out
      clear hW3 hb3 ho3 hF3 fz g0 g1 g2
      rcases hcases with rfl | ⟨i, hi, rfl⟩
      · refine wp_region_S (by kernel_rfl) (by kernel_rfl) (by kernel_rfl) (by kernel_rfl) (by kernel_rfl) (fun w' => Ext W3 w') ((Fr.drew (fun _ => False) _).ext (fun _ _ h => h)) ?_
        repeat
          first
          | (refine steps_and rfl rfl rfl rfl ?_; simp only [Act.put, List.setIfInBounds_toArray, List.set_cons_succ, List.set_cons_zero])
          | (refine steps_or rfl rfl rfl rfl ?_; simp only [Act.put, List.setIfInBounds_toArray, List.set_cons_succ, List.set_cons_zero])
          | (refine steps_skip rfl ?_; simp only [Act.put, List.setIfInBounds_toArray, List.set_cons_succ, List.set_cons_zero])
          | (refine steps_guard_and rfl rfl rfl rfl rfl ?_; simp only [Act.put, List.setIfInBounds_toArray, List.set_cons_succ, List.set_cons_zero])
          | (refine steps_guard (v := ?_) rfl rfl (fun hb w' hS => ?_) ?_; rotate_left; (focus (have e2 := ext_cell c2 hS; have e3 := ext_cell c3 hS; unfold Gives; go_simp; first | exact is_mk hS)); simp only [Act.put, List.setIfInBounds_toArray, List.set_cons_succ, List.set_cons_zero])
          | (refine steps_guard2 (v := ?_) rfl rfl rfl (fun hb1 hb w' hS => ?_) ?_; rotate_left; (focus (have e2 := ext_cell c2 hS; have e3 := ext_cell c3 hS; unfold Gives; go_simp; first | exact is_mk hS)); simp only [Act.put, List.setIfInBounds_toArray, List.set_cons_succ, List.set_cons_zero])
          | (refine steps_run (v := ?_) rfl (fun w' hS => ?_) ?_; rotate_left; (focus (have e2 := ext_cell c2 hS; have e3 := ext_cell c3 hS; unfold Gives; go_simp; first | exact is_mk hS)); simp only [Act.put, List.setIfInBounds_toArray, List.set_cons_succ, List.set_cons_zero])
        refine steps_end fun w' hE' => ?_
        have hb := HB3.out.ext hE'
        cases hal : (verTo l v d k).allow
        · have HN1 : Hid (verTo l v d (k + 1) = ⟨false && false, if false && !false then (k : Int) else (verTo l v d k).at', (verTo l v d k).by' ++ [-1]⟩) := Lib.hid (verTo_step HS.out HX.out hal (okOf_none l v))
          rw [hal] at hb
          clear hal
          obtain ⟨g0, g1, g2⟩ := hb.cells
          have HB4 := Lib.hid hb
          clear hb
          go_wp2_with fail
          go_roundw
          case rel => exact ⟨k + 1, _, by omega, by go_num, by rw [HN1.out]; exact HB4.out, by rw [HN1.out, List.map_append]; exact own_ext HO3.out hE', HF3.out.trans (Fr.of_ext hE')⟩
          case measure => simp [intOf]; omega
        · have HN1 : Hid (verTo l v d (k + 1) = ⟨true && false, if true && !false then (k : Int) else (verTo l v d k).at', (verTo l v d k).by' ++ [-1]⟩) := Lib.hid (verTo_step HS.out HX.out hal (okOf_none l v))
          rw [hal] at hb
          clear hal
          obtain ⟨g0, g1, g2⟩ := hb.cells
          have fz0 := hb.frozen 0
          have fz1 := hb.frozen 1
          have HB4 := Lib.hid hb
          clear hb
          go_wp2_with fail
          go_roundw
          case rel => exact ⟨k + 1, _, by omega, by go_num, by rw [HN1.out]; exact (HB4.out.set0 false).set1 k, by rw [HN1.out, List.map_append]; exact ownsRow_setCell_below (ownsRow_setCell_below (own_ext HO3.out hE') (show w.heap.size + 1 + 1 < W0.heap.size by omega) _) (show w.heap.size + 1 + 1 < W0.heap.size by omega) _, ((HF3.out.trans (Fr.of_ext hE')).trans (Fr.setCell _ _ _ rfl)).trans (Fr.setCell _ _ _ rfl)⟩
          case measure => simp [intOf]; omega
      · obtain ⟨r, hr⟩ := get_some HN.out hi
        obtain ⟨b3, off3, rfl, _, r1, _, r3, r4, _, _, _, _⟩ := (HL.out.ext HE3.out) i r hr
        have HOK := Lib.hid (okOf_some (v := v) hr)
        have hic : i ≤ cap := by omega
        clear hr
        refine wp_region_S (by kernel_rfl) (by kernel_rfl) (by kernel_rfl) (by kernel_rfl) (by kernel_rfl) (fun w' => Ext W3 w') ((Fr.drew (fun _ => False) _).ext (fun _ _ h => h)) ?_
        repeat
          first
          | (refine steps_and rfl rfl rfl rfl ?_; simp only [Act.put, List.setIfInBounds_toArray, List.set_cons_succ, List.set_cons_zero])
          | (refine steps_or rfl rfl rfl rfl ?_; simp only [Act.put, List.setIfInBounds_toArray, List.set_cons_succ, List.set_cons_zero])
          | (refine steps_skip rfl ?_; simp only [Act.put, List.setIfInBounds_toArray, List.set_cons_succ, List.set_cons_zero])
          | (refine steps_guard_and rfl rfl rfl rfl rfl ?_; simp only [Act.put, List.setIfInBounds_toArray, List.set_cons_succ, List.set_cons_zero])
          | (refine steps_guard (v := ?_) rfl rfl (fun hb w' hS => ?_) ?_; rotate_left; (focus (have e2 := ext_cell c2 hS; have e3 := ext_cell c3 hS; have s1 := ext_cell r1 hS; have s3 := ext_cell r3 hS; have s4 := ext_cell r4 hS; unfold Gives; go_simp; first | exact is_mk hS)); simp only [Act.put, List.setIfInBounds_toArray, List.set_cons_succ, List.set_cons_zero])
          | (refine steps_guard2 (v := ?_) rfl rfl rfl (fun hb1 hb w' hS => ?_) ?_; rotate_left; (focus (have e2 := ext_cell c2 hS; have e3 := ext_cell c3 hS; have s1 := ext_cell r1 hS; have s3 := ext_cell r3 hS; have s4 := ext_cell r4 hS; unfold Gives; go_simp; first | exact is_mk hS)); simp only [Act.put, List.setIfInBounds_toArray, List.set_cons_succ, List.set_cons_zero])
          | (refine steps_run (v := ?_) rfl (fun w' hS => ?_) ?_; rotate_left; (focus (have e2 := ext_cell c2 hS; have e3 := ext_cell c3 hS; have s1 := ext_cell r1 hS; have s3 := ext_cell r3 hS; have s4 := ext_cell r4 hS; unfold Gives; go_simp; first | exact is_mk hS)); simp only [Act.put, List.setIfInBounds_toArray, List.set_cons_succ, List.set_cons_zero])
        refine steps_end fun w' hE' => ?_
        have hb := HB3.out.ext hE'
        cases hq : (((i : Int) != -1) && r.allow && decide (r.keyMin ≤ v.key) && decide (0 < v.life) && decide (v.life ≤ r.lifeMax))
        · have HQ := Lib.hid (HOK.out.trans hq)
          clear hq
          cases hal : (verTo l v d k).allow
          · have HN1 : Hid (verTo l v d (k + 1) = ⟨false && false, if false && !false then (k : Int) else (verTo l v d k).at', (verTo l v d k).by' ++ [(i : Int)]⟩) := Lib.hid (verTo_step HS.out HX.out hal HQ.out)
            rw [hal] at hb
            clear hal
            obtain ⟨g0, g1, g2⟩ := hb.cells
            have HB4 := Lib.hid hb
            clear hb
            go_wp2_with fail
            go_roundw
            case rel => exact ⟨k + 1, _, by omega, by go_num, by rw [HN1.out]; exact HB4.out, by rw [HN1.out, List.map_append]; exact own_ext HO3.out hE', HF3.out.trans (Fr.of_ext hE')⟩
            case measure => simp [intOf]; omega
          · have HN1 : Hid (verTo l v d (k + 1) = ⟨true && false, if true && !false then (k : Int) else (verTo l v d k).at', (verTo l v d k).by' ++ [(i : Int)]⟩) := Lib.hid (verTo_step HS.out HX.out hal HQ.out)
            rw [hal] at hb
            clear hal
            obtain ⟨g0, g1, g2⟩ := hb.cells
            have fz0 := hb.frozen 0
            have fz1 := hb.frozen 1
            have HB4 := Lib.hid hb
            clear hb
            go_wp2_with fail
            go_roundw
            case rel => exact ⟨k + 1, _, by omega, by go_num, by rw [HN1.out]; exact (HB4.out.set0 false).set1 k, by rw [HN1.out, List.map_append]; exact ownsRow_setCell_below (ownsRow_setCell_below (own_ext HO3.out hE') (show w.heap.size + 1 + 1 < W0.heap.size by omega) _) (show w.heap.size + 1 + 1 < W0.heap.size by omega) _, ((HF3.out.trans (Fr.of_ext hE')).trans (Fr.setCell _ _ _ rfl)).trans (Fr.setCell _ _ _ rfl)⟩
            case measure => simp [intOf]; omega
        · have HQ := Lib.hid (HOK.out.trans hq)
          clear hq
          cases hal : (verTo l v d k).allow
          · have HN1 : Hid (verTo l v d (k + 1) = ⟨false && true, if false && !true then (k : Int) else (verTo l v d k).at', (verTo l v d k).by' ++ [(i : Int)]⟩) := Lib.hid (verTo_step HS.out HX.out hal HQ.out)
            rw [hal] at hb
            clear hal
            obtain ⟨g0, g1, g2⟩ := hb.cells
            have HB4 := Lib.hid hb
            clear hb
            go_wp2_with fail
            go_roundw
            case rel => exact ⟨k + 1, _, by omega, by go_num, by rw [HN1.out]; exact HB4.out, by rw [HN1.out, List.map_append]; exact own_ext HO3.out hE', HF3.out.trans (Fr.of_ext hE')⟩
            case measure => simp [intOf]; omega
          · have HN1 : Hid (verTo l v d (k + 1) = ⟨true && true, if true && !true then (k : Int) else (verTo l v d k).at', (verTo l v d k).by' ++ [(i : Int)]⟩) := Lib.hid (verTo_step HS.out HX.out hal HQ.out)
            rw [hal] at hb
            clear hal
            obtain ⟨g0, g1, g2⟩ := hb.cells
            have HB4 := Lib.hid hb
            clear hb
            go_wp2_with fail
            go_roundw
            case rel => exact ⟨k + 1, _, by omega, by go_num, by rw [HN1.out]; exact HB4.out, by rw [HN1.out, List.map_append]; exact own_ext HO3.out hE', HF3.out.trans (Fr.of_ext hE')⟩
            case measure => simp [intOf]; omega
    · obtain rfl : k = m := by omega
      have HQ := Lib.hid (show verTo l v d k = verdictOf l v d by rw [← HM.out, verTo_all])
      have hb := HB.out
      obtain ⟨g0, g1, g2⟩ := hb.cells
      have h1 := B1.out.fr HF.out (show ¬ w.heap.size + 1 = w.heap.size + 1 + 1 by omega)
      have fz0 := h1.frozen 0
      have fz1 := h1.frozen 1
      have fz2 := h1.frozen 2
      obtain ⟨e0, e1, e2⟩ := h1.cells
      have hlen := verTo_len l v d k (by rw [HM.out]; exact Nat.le_refl _)
      have hext := HE0.out.trans (HF.out.below HE0.out.size (fun k hk => by omega))
      obtain ⟨g', cap', rfl⟩ : ∃ (g' : Option Addr) (cap' : Nat), bv = .slice g' k cap' := by
        rcases own_form HOWN.out with ⟨h, h0, _⟩ | ⟨g', cap', h, _⟩
        · exact ⟨none, 0, by rw [h, h0]⟩
        · exact ⟨_, _, h⟩
      have H1 := Lib.hid h1; have HX := Lib.hid hext; have HLN := Lib.hid hlen
      clear hb h1 hext hlen
      go_wp2_with fail
      obtain ⟨W4, hW4⟩ : ∃ W4, ((wr.setCell ⟨w.heap.size + 1, 0, none⟩ (.bool (verTo l v d k).allow)).setCell ⟨w.heap.size + 1, 1, none⟩ (.int .i64 (verTo l v d k).at')).setCell ⟨w.heap.size + 1, 2, none⟩ (.slice g' k cap') = W4 := ⟨_, rfl⟩
      have hb4 : VerB W4 (w.heap.size + 1) (verTo l v d k).allow (verTo l v d k).at' (.slice g' k cap') := by rw [← hW4]; exact ((H1.out.set0 _).set1 _).set2 _
      have hx4 : Ext w W4 := by rw [← hW4]; exact ((HX.out.setCell (p := ⟨w.heap.size + 1, 0, none⟩) (by simp) _).setCell (p := ⟨w.heap.size + 1, 1, none⟩) (by simp) _).setCell (p := ⟨w.heap.size + 1, 2, none⟩) (by simp) _
      have ho4 : W4.ownsRow W0.heap.size 3 1 (.slice g' k cap') k ((verTo l v d k).by'.map intV) := by
        rw [← hW4]
        exact ownsRow_setCell_below (ownsRow_setCell_below (ownsRow_setCell_below HOWN.out (show w.heap.size + 1 < W0.heap.size by omega) _) (show w.heap.size + 1 < W0.heap.size by omega) _) (show w.heap.size + 1 < W0.heap.size by omega) _
      obtain ⟨q0, q1, q2⟩ := hb4.cells
      rw [hW4]
      refine bodyPost_ret (v := .agg #[.bool (verTo l v d k).allow, .int .i64 (verTo l v d k).at', .slice g' k cap']) (by simp [results, Tryz.results41, go_sem, q0, q1, q2]) rfl ?_
      rw [← HQ.out]
      exact retV_mk HLN.out ho4 (by omega) hx4
end Go.Proofs.YtmdmbdbbpdojnaaGreatDoor
