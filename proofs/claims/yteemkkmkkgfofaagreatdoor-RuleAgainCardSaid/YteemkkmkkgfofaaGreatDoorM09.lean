/- Walks of the document's functions on rules: named, Form. -/
import Derived.Deep.Cut
import Derived.Test.YteemkkmkkgfofaaGreatDoorM08
namespace Go.Proofs.YteemkkmkkgfofaaGreatDoor
open Go.RowKit Nam Pol
attribute [local go_sem] gv_of

theorem names_take {l : List Rul} {k : Nat} {r : Rul} (h : l[k]? = some r) (s : ByteArray) : memB ((l.take (k + 1)).map (·.name)) s = (memB ((l.take k).map (·.name)) s || (r.name.data.toList == s.data.toList)) := by
  rw [List.take_add_one, h, Option.toList_some, List.map_append]
  exact memB_snoc _ _ _
set_option maxHeartbeats 1000000 in
theorem r15named_any (l : List Rul) (s : ByteArray) (a : Option Addr) (cap n : Nat) (w : World) (hn : l.length = n) (hnm : n ≤ maxLen) (hl : Ruls w a l) :
    Calls Tryz.prog 21 #[.slice a n cap, .string s] w fun e w' => e = .returned (.bool (memB (l.map (·.name)) s)) ∧ w = w' := by
  unfold maxLen at hnm
  have HN := Lib.hid hn; have HL := Lib.hid hl; clear hn hl
  go_enter Tryz.func21, Tryz.ntmps21
  go_wp2
  go_loop [5] (fun i => ∃ k : Nat, k ≤ n ∧ i = .int .i64 k ∧ memB ((l.take k).map (·.name)) s = false) (fun i => n - (intOf i).toNat)
  case atStart => exact ⟨0, Nat.zero_le _, rfl, rfl⟩
  case round =>
    obtain ⟨k, hk, rfl, hc⟩ := hrel
    have HC := Lib.hid hc; clear hc
    by_cases hlt : k < n
    · obtain ⟨y, hy⟩ := get_some HN.out hlt
      obtain ⟨b, off, rfl, c0, _⟩ := HL.out k y hy
      have HT := Lib.hid (names_take hy s)
      have HM := Lib.hid (List.mem_of_getElem? hy)
      have HB := Lib.hid (show (y.name.toList == s.toList) = (y.name.data.toList == s.data.toList) by rw [Lib.toList_data, Lib.toList_data])
      clear hy
      cases h1 : (y.name.toList == s.toList)
      · go_wp2
        go_round
        case rel => exact ⟨k + 1, by omega, by go_num, by rw [HT.out, HC.out, ← HB.out, h1]; rfl⟩
        case measure => simp [intOf]; omega
      · have HE := Lib.hid (show memB (l.map (·.name)) s = true by
          have := beq_iff_eq.1 (HB.out.symm.trans h1)
          rw [memB_iff, ← bytes_eq this]; exact List.mem_map.2 ⟨y, HM.out, rfl⟩)
        go_wp2
        go_ret
        exact ⟨ret_bool HE.out.symm, rfl⟩
    · obtain rfl : k = n := by omega
      have HF := Lib.hid (show memB (l.map (·.name)) s = false by have := HC.out; rwa [← HN.out, List.take_length] at this)
      go_wp2
      go_ret
      exact ⟨ret_bool HF.out.symm, rfl⟩
set_option maxRecDepth 100000 in
set_option maxHeartbeats 4000000 in
theorem Form_any (r : Rul) (a : Option Addr) (c : Nat) (w : World) (hnc : r.pats.length ≤ c) (hcm : c ≤ maxLen) (hl : Strs w a r.pats) (hs : r.name.size ≤ maxLen) :
    Calls Tryz.prog 20 #[rulV r a c] w (Ret (.bool (formB r)) w) := by
  have HM := Lib.hid hcm; have HS := Lib.hid hs
  unfold maxLen at hcm
  obtain ⟨n, hn⟩ : ∃ n, r.pats.length = n := ⟨_, rfl⟩
  have HN := Lib.hid hn; have HL := Lib.hid hl; clear hl
  unfold rulV
  rw [hn] at hnc ⊢
  clear hn hs
  cases h1 : ruleName r.name.data.toList
  · have HF := Lib.hid (show formB r = false by unfold formB; rw [h1]; rfl)
    go_enter Tryz.func20, Tryz.ntmps20
    go_wp2_with (go_at_call 39; refine (r15Name_any _ _ HS.out).mono ?_; rintro e w' ⟨rfl, rfl⟩)
    go_ret
    exact ⟨ret_bool HF.out.symm, ext_alloc (Below.refl _ _) _⟩
  by_cases h2 : n < 1 ∨ 8 < n
  · have HF := Lib.hid (show formB r = false by
      unfold formB; rw [HN.out]
      rcases h2 with h | h
      · rw [show decide (1 ≤ n) = false by simpa using h]; simp
      · rw [show decide (n ≤ 8) = false by simpa using h]; simp)
    rcases h2 with h2 | h2
    all_goals
      go_enter Tryz.func20, Tryz.ntmps20
      go_wp2_with (go_at_call 39; refine (r15Name_any _ _ HS.out).mono ?_; rintro e w' ⟨rfl, rfl⟩)
      go_ret
      exact ⟨ret_bool HF.out.symm, ext_alloc (Below.refl _ _) _⟩
  have hn1 : 1 ≤ n := by omega
  have hn8 : n ≤ 8 := by omega
  clear h2
  have t1 : decide ((n : Int) < 1) = false := by simp; omega
  have t2 : decide ((8 : Int) < n) = false := by simp; omega
  go_enter Tryz.func20, Tryz.ntmps20
  go_wp2_with (go_at_call 39; refine (r15Name_any _ _ HS.out).mono ?_; rintro e w' ⟨rfl, rfl⟩)
  obtain ⟨W0, hW0⟩ : ∃ W0, w.alloc (Obj.cells #[.string r.name, .bool r.allow, .slice a n c, .int .u64 r.keyMin, .int .i64 r.lifeMax, .int .i64 r.most, .int .i64 r.window] 40) = W0 := ⟨_, rfl⟩
  have hE0 : Ext w W0 := by rw [← hW0]; exact ext_alloc (Below.refl _ _) _
  have c1 : W0.cell? ⟨w.heap.size, 1, none⟩ = some (.bool r.allow) := by rw [← hW0]; simp [go_sem]
  have c2 : W0.cell? ⟨w.heap.size, 2, none⟩ = some (.slice a n c) := by rw [← hW0]; simp [go_sem]
  have c3 : W0.cell? ⟨w.heap.size, 3, none⟩ = some (.int .u64 r.keyMin) := by rw [← hW0]; simp [go_sem]
  have c4 : W0.cell? ⟨w.heap.size, 4, none⟩ = some (.int .i64 r.lifeMax) := by rw [← hW0]; simp [go_sem]
  have c5 : W0.cell? ⟨w.heap.size, 5, none⟩ = some (.int .i64 r.most) := by rw [← hW0]; simp [go_sem]
  have c6 : W0.cell? ⟨w.heap.size, 6, none⟩ = some (.int .i64 r.window) := by rw [← hW0]; simp [go_sem]
  rw [hW0]
  have HE0 := Lib.hid hE0; have C1 := Lib.hid c1; have C2 := Lib.hid c2; have C3 := Lib.hid c3; have C4 := Lib.hid c4; have C5 := Lib.hid c5; have C6 := Lib.hid c6
  clear hW0 hE0 c1 c2 c3 c4 c5 c6 t1 t2
  go_loopw [3] (fun i wr => ∃ k : Nat, k ≤ n ∧ i = .int .i64 k ∧ patsOk [] (r.pats.take k) = true ∧ Ext W0 wr) (fun i _ => n - (intOf i).toNat)
  case atStart => exact ⟨0, Nat.zero_le _, rfl, rfl, Below.refl _ _⟩
  case round =>
    obtain ⟨k, hk, rfl, hp, hEr⟩ := hrel
    have HP := Lib.hid hp; clear hp
    by_cases hlt : k < n
    · obtain ⟨p, hp⟩ := get_some HN.out hlt
      obtain ⟨b, off, rfl, d0, hps⟩ := (HL.out.ext (ext_trans HE0.out hEr)) k p hp
      rw [Nat.mul_one] at d0
      have c2 := ext_cell C2.out hEr
      have HT := Lib.hid (patsOk_take hp)
      have HLR : Hid (Strs wr (some ⟨b, off, none⟩) r.pats) := Lib.hid (HL.out.ext (ext_trans HE0.out hEr))
      have HER := Lib.hid hEr
      clear hp hEr
      go_wp2_with fail
      refine wp_region_S (by kernel_rfl) (by kernel_rfl) (by kernel_rfl) (by kernel_rfl) (by kernel_rfl) (fun w' => Ext wr w') ((Fr.drew (fun _ => False) _).ext (fun _ _ h => h)) ?_
      have hpn : p.size ≤ 9223372036854775807 := hps
      have hkc : k ≤ c := by omega
      have HLK := Lib.hid (show (r.pats.take k).length = k by rw [List.length_take, HN.out]; omega)
      repeat
        first
        | (refine steps_and rfl rfl rfl rfl ?_; simp only [Act.put, List.setIfInBounds_toArray, List.set_cons_succ, List.set_cons_zero])
        | (refine steps_or rfl rfl rfl rfl ?_; simp only [Act.put, List.setIfInBounds_toArray, List.set_cons_succ, List.set_cons_zero])
        | (refine steps_skip rfl ?_; simp only [Act.put, List.setIfInBounds_toArray, List.set_cons_succ, List.set_cons_zero])
        | (refine steps_guard_and rfl rfl rfl rfl rfl ?_; simp only [Act.put, List.setIfInBounds_toArray, List.set_cons_succ, List.set_cons_zero])
        | (refine steps_guard (v := ?_) rfl rfl (fun hb w' hS => ?_) ?_; rotate_left; (focus (have e2 := ext_cell c2 hS; have e0 := ext_cell d0 hS; unfold Gives; go_simp; first | exact is_mk hS | (refine (stands_any (r.pats.take k) p _ c k _ HLK.out (by unfold maxLen; omega) ((HLR.out.ext hS).take k)).mono ?_; rintro e w'' ⟨rfl, rfl⟩; exact gave_mk hS) | (refine (rPattern_any _ _ hpn).mono ?_; rintro e w'' ⟨rfl, h2⟩; exact gave_mk (ext_trans hS h2)))); simp only [Act.put, List.setIfInBounds_toArray, List.set_cons_succ, List.set_cons_zero])
        | (refine steps_guard2 (v := ?_) rfl rfl rfl (fun hb1 hb w' hS => ?_) ?_; rotate_left; (focus (have e2 := ext_cell c2 hS; have e0 := ext_cell d0 hS; unfold Gives; go_simp; first | exact is_mk hS | (refine (stands_any (r.pats.take k) p _ c k _ HLK.out (by unfold maxLen; omega) ((HLR.out.ext hS).take k)).mono ?_; rintro e w'' ⟨rfl, rfl⟩; exact gave_mk hS) | (refine (rPattern_any _ _ hpn).mono ?_; rintro e w'' ⟨rfl, h2⟩; exact gave_mk (ext_trans hS h2)))); simp only [Act.put, List.setIfInBounds_toArray, List.set_cons_succ, List.set_cons_zero])
        | (refine steps_run (v := ?_) rfl (fun w' hS => ?_) ?_; rotate_left; (focus (have e2 := ext_cell c2 hS; have e0 := ext_cell d0 hS; unfold Gives; go_simp; first | exact is_mk hS | (refine (stands_any (r.pats.take k) p _ c k _ HLK.out (by unfold maxLen; omega) ((HLR.out.ext hS).take k)).mono ?_; rintro e w'' ⟨rfl, rfl⟩; exact gave_mk hS) | (refine (rPattern_any _ _ hpn).mono ?_; rintro e w'' ⟨rfl, h2⟩; exact gave_mk (ext_trans hS h2)))); simp only [Act.put, List.setIfInBounds_toArray, List.set_cons_succ, List.set_cons_zero])
      refine steps_end fun w' hE' => ?_
      have HPK : Hid ((okOr 110 (rpatB p.data.toList) != 0) = !patOk p) := Lib.hid (by unfold patOk; rw [pattern_ok]; cases rpatB p.data.toList <;> rfl)
      cases hq : ((okOr 110 (rpatB p.data.toList) != 0) || memB (r.pats.take k) p)
      · have HQ := Lib.hid (show patsOk [] (r.pats.take (k + 1)) = true by
          rw [HT.out, HP.out]
          rw [HPK.out] at hq
          simp only [Bool.or_eq_false_iff, Bool.not_eq_false'] at hq
          rw [hq.1, hq.2]; rfl)
        clear hq
        go_wp2_with fail
        go_roundw
        case rel => exact ⟨k + 1, by omega, by go_num, HQ.out, ext_trans HER.out hE'⟩
        case measure => simp [intOf]; omega
      · have HQ := Lib.hid (show formB r = false by
          have : patsOk [] (r.pats.take (k + 1)) = false := by
            rw [HT.out, HP.out]
            rw [HPK.out] at hq
            simp only [Bool.or_eq_true, Bool.not_eq_true'] at hq
            rcases hq with h | h <;> rw [h] <;> simp
          unfold formB; rw [patsOk_false this]; simp)
        clear hq
        go_wp2_with fail
        all_goals
          go_ret
          exact ⟨ret_bool HQ.out.symm, ext_trans HE0.out (ext_trans HER.out hE')⟩
    · obtain rfl : k = n := by omega
      have hpo : patsOk [] r.pats = true := by have := HP.out; rwa [← HN.out, List.take_length] at this
      have HFB := Lib.hid (show formB r = limitsB r by unfold formB; rw [h1, hpo, HN.out, show decide (1 ≤ k) = true by simpa using hn1, show decide (k ≤ 8) = true by simpa using hn8]; simp)
      clear hpo
      have c1 := ext_cell C1.out hEr; have c2 := ext_cell C2.out hEr; have c3 := ext_cell C3.out hEr; have c4 := ext_cell C4.out hEr; have c5 := ext_cell C5.out hEr; have c6 := ext_cell C6.out hEr
      have HEW := Lib.hid (ext_trans HE0.out hEr); clear hEr
      cases ha : r.allow
      · rw [ha] at c1
        go_upto_region 9 with (fail)
        refine wp_region_P (fun w' => w' = wr) rfl ?_
        repeat
          first
          | (refine steps_and rfl rfl rfl rfl ?_; simp only [Act.put, List.setIfInBounds_toArray, List.set_cons_succ, List.set_cons_zero])
          | (refine steps_or rfl rfl rfl rfl ?_; simp only [Act.put, List.setIfInBounds_toArray, List.set_cons_succ, List.set_cons_zero])
          | (refine steps_skip rfl ?_; simp only [Act.put, List.setIfInBounds_toArray, List.set_cons_succ, List.set_cons_zero])
          | (refine steps_guard_and rfl rfl rfl rfl rfl ?_; simp only [Act.put, List.setIfInBounds_toArray, List.set_cons_succ, List.set_cons_zero])
          | (refine steps_guard (v := ?_) rfl rfl (fun hb w' hS => ?_) ?_; rotate_left; (focus (subst hS; unfold Gives; go_simp; first | exact is_mk rfl)); simp only [Act.put, List.setIfInBounds_toArray, List.set_cons_succ, List.set_cons_zero])
          | (refine steps_guard2 (v := ?_) rfl rfl rfl (fun hb1 hb w' hS => ?_) ?_; rotate_left; (focus (subst hS; unfold Gives; go_simp; first | exact is_mk rfl)); simp only [Act.put, List.setIfInBounds_toArray, List.set_cons_succ, List.set_cons_zero])
          | (refine steps_run (v := ?_) rfl (fun w' hS => ?_) ?_; rotate_left; (focus (subst hS; unfold Gives; go_simp; first | exact is_mk rfl)); simp only [Act.put, List.setIfInBounds_toArray, List.set_cons_succ, List.set_cons_zero])
        refine steps_end fun w' hE' => ?_
        subst hE'
        go_wp2_with fail
        go_ret
        exact ⟨ret_bool (by rw [HFB.out]; unfold limitsB; rw [ha]; rfl), HEW.out⟩
      · rw [ha] at c1
        have HA := Lib.hid ha; clear ha
        go_upto_region 10 with (fail)
        refine wp_region_P (fun w' => w' = wr) rfl ?_
        repeat
          first
          | (refine steps_and rfl rfl rfl rfl ?_; simp only [Act.put, List.setIfInBounds_toArray, List.set_cons_succ, List.set_cons_zero])
          | (refine steps_or rfl rfl rfl rfl ?_; simp only [Act.put, List.setIfInBounds_toArray, List.set_cons_succ, List.set_cons_zero])
          | (refine steps_skip rfl ?_; simp only [Act.put, List.setIfInBounds_toArray, List.set_cons_succ, List.set_cons_zero])
          | (refine steps_guard_and rfl rfl rfl rfl rfl ?_; simp only [Act.put, List.setIfInBounds_toArray, List.set_cons_succ, List.set_cons_zero])
          | (refine steps_guard (v := ?_) rfl rfl (fun hb w' hS => ?_) ?_; rotate_left; (focus (subst hS; unfold Gives; go_simp; first | exact is_mk rfl)); simp only [Act.put, List.setIfInBounds_toArray, List.set_cons_succ, List.set_cons_zero])
          | (refine steps_guard2 (v := ?_) rfl rfl rfl (fun hb1 hb w' hS => ?_) ?_; rotate_left; (focus (subst hS; unfold Gives; go_simp; first | exact is_mk rfl)); simp only [Act.put, List.setIfInBounds_toArray, List.set_cons_succ, List.set_cons_zero])
          | (refine steps_run (v := ?_) rfl (fun w' hS => ?_) ?_; rotate_left; (focus (subst hS; unfold Gives; go_simp; first | exact is_mk rfl)); simp only [Act.put, List.setIfInBounds_toArray, List.set_cons_succ, List.set_cons_zero])
        refine steps_end fun w' hE' => ?_
        subst hE'
        go_upto_region 11 with (fail)
        refine wp_region_P (fun x => x = w') rfl ?_
        repeat
          first
          | (refine steps_and rfl rfl rfl rfl ?_; simp only [Act.put, List.setIfInBounds_toArray, List.set_cons_succ, List.set_cons_zero])
          | (refine steps_or rfl rfl rfl rfl ?_; simp only [Act.put, List.setIfInBounds_toArray, List.set_cons_succ, List.set_cons_zero])
          | (refine steps_skip rfl ?_; simp only [Act.put, List.setIfInBounds_toArray, List.set_cons_succ, List.set_cons_zero])
          | (refine steps_guard_and rfl rfl rfl rfl rfl ?_; simp only [Act.put, List.setIfInBounds_toArray, List.set_cons_succ, List.set_cons_zero])
          | (refine steps_guard (v := ?_) rfl rfl (fun hb w' hS => ?_) ?_; rotate_left; (focus (subst hS; unfold Gives; go_simp; first | exact is_mk rfl)); simp only [Act.put, List.setIfInBounds_toArray, List.set_cons_succ, List.set_cons_zero])
          | (refine steps_guard2 (v := ?_) rfl rfl rfl (fun hb1 hb w' hS => ?_) ?_; rotate_left; (focus (subst hS; unfold Gives; go_simp; first | exact is_mk rfl)); simp only [Act.put, List.setIfInBounds_toArray, List.set_cons_succ, List.set_cons_zero])
          | (refine steps_run (v := ?_) rfl (fun w' hS => ?_) ?_; rotate_left; (focus (subst hS; unfold Gives; go_simp; first | exact is_mk rfl)); simp only [Act.put, List.setIfInBounds_toArray, List.set_cons_succ, List.set_cons_zero])
        trace_state
        refine steps_end fun w' hE' => ?_
        subst hE'
        go_wp2_with fail
        go_ret
        exact ⟨ret_bool (by rw [HFB.out, ← limits_ref r HA.out]), HEW.out⟩
end Go.Proofs.YteemkkmkkgfofaaGreatDoor
