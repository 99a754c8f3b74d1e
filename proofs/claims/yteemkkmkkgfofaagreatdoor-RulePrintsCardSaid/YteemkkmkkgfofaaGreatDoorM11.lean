/- Walks of the program's functions on rules: formed. -/
import Derived.Test.YteemkkmkkgfofaaGreatDoorM10
namespace Go.Proofs.YteemkkmkkgfofaaGreatDoor
open Go.RowKit Nam Pol
attribute [local go_sem] gv_of

theorem strs_cells {w : World} {b off : Nat} {l : List ByteArray} (h : Strs w (some ⟨b, off, none⟩) l) : ∀ j, j < l.length → w.cell? ⟨b, off + j, none⟩ = some (.string (l.getD j ByteArray.empty)) := fun j hj => by
  obtain ⟨b', off', hab, h1, _⟩ := h j _ (List.getElem?_eq_getElem hj)
  cases hab
  rw [Nat.mul_one] at h1
  rw [h1, List.getD_eq_getElem?_getD, List.getElem?_eq_getElem hj]; rfl
theorem memB_containsS (l : List ByteArray) (x : ByteArray) : Lib.containsS l x = memB l x := by
  rw [Bool.eq_iff_iff, Lib.containsS_iff, memB_iff]
theorem limits_own (r : Rul) : (if r.allow then (decide (r.keyMin ≤ 2305843009213691579) && (decide (1 ≤ r.lifeMax) && decide (r.lifeMax ≤ 1000)) && (decide (0 ≤ r.most) && decide (r.most ≤ 1000))) &&
    (if r.most > 0 then decide (1 ≤ r.window) && decide (r.window ≤ 1099511627776) else r.window == 0) else r.keyMin == 0 && r.lifeMax == 0 && r.most == 0 && r.window == 0) = limitsB r := rfl
set_option maxRecDepth 100000 in
set_option maxHeartbeats 4000000 in
theorem formed_any (r : Rul) (a : Option Addr) (c : Nat) (w : World) (hnc : r.pats.length ≤ c) (hcm : c ≤ maxLen) (hl : Strs w a r.pats) (hs : r.name.size ≤ maxLen) :
    Calls Tryz.prog 19 #[rulV r a c] w (Ret (.bool (formB r)) w) := by
  have HS := Lib.hid hs
  unfold maxLen at hcm
  obtain ⟨n, hn⟩ : ∃ n, r.pats.length = n := ⟨_, rfl⟩
  have HN := Lib.hid hn; have HL := Lib.hid hl; clear hl
  unfold rulV
  rw [hn] at hnc ⊢
  clear hn hs
  go_enter Tryz.func19, Tryz.ntmps19
  go_wp2_with fail
  obtain ⟨W0, hW0⟩ : ∃ W0, w.alloc (Obj.cells #[.string r.name, .bool r.allow, .slice a n c, .int .u64 r.keyMin, .int .i64 r.lifeMax, .int .i64 r.most, .int .i64 r.window] 40) = W0 := ⟨_, rfl⟩
  have hE0 : Ext w W0 := by rw [← hW0]; exact ext_alloc (Below.refl _ _) _
  have c0 : W0.cell? ⟨w.heap.size, 0, none⟩ = some (.string r.name) := by rw [← hW0]; simp [go_sem]
  have c1 : W0.cell? ⟨w.heap.size, 1, none⟩ = some (.bool r.allow) := by rw [← hW0]; simp [go_sem]
  have c2 : W0.cell? ⟨w.heap.size, 2, none⟩ = some (.slice a n c) := by rw [← hW0]; simp [go_sem]
  have c3 : W0.cell? ⟨w.heap.size, 3, none⟩ = some (.int .u64 r.keyMin) := by rw [← hW0]; simp [go_sem]
  have c4 : W0.cell? ⟨w.heap.size, 4, none⟩ = some (.int .i64 r.lifeMax) := by rw [← hW0]; simp [go_sem]
  have c5 : W0.cell? ⟨w.heap.size, 5, none⟩ = some (.int .i64 r.most) := by rw [← hW0]; simp [go_sem]
  have c6 : W0.cell? ⟨w.heap.size, 6, none⟩ = some (.int .i64 r.window) := by rw [← hW0]; simp [go_sem]
  rw [hW0]
  have HE0 := Lib.hid hE0; have C0 := Lib.hid c0; have C1 := Lib.hid c1; have C2 := Lib.hid c2; have C3 := Lib.hid c3; have C4 := Lib.hid c4; have C5 := Lib.hid c5; have C6 := Lib.hid c6
  clear hW0 hE0 c0 c1 c2 c3 c4 c5 c6
  go_loopw [10] (fun i wr => ∃ k : Nat, k ≤ n ∧ i = .int .i64 k ∧ patsOk [] (r.pats.take k) = true ∧ Ext W0 wr) (fun i _ => n - (intOf i).toNat)
  case atStart => exact ⟨0, Nat.zero_le _, rfl, rfl, Below.refl _ _⟩
  case round =>
    obtain ⟨k, hk, rfl, hp, hEr⟩ := hrel
    have HP := Lib.hid hp; clear hp
    by_cases hlt : k < n
    · obtain ⟨p, hp⟩ := get_some HN.out hlt
      obtain ⟨b, off, rfl, d0, hps⟩ := (HL.out.ext (ext_trans HE0.out hEr)) k p hp
      rw [Nat.mul_one] at d0
      have c2 := ext_cell C2.out hEr
      have HT := Lib.hid (patsOk_take hp)
      have HLR : Hid (Strs wr (some ⟨b, off, none⟩) r.pats) := Lib.hid (HL.out.ext (ext_trans HE0.out hEr))
      have HER := Lib.hid hEr
      have hpn : p.size ≤ 9223372036854775807 := hps
      have hkc : k ≤ c := by omega
      clear hp hEr
      go_upto_region 4 with (fail)
      refine wp_region_P (fun w' => Ext wr w') (Below.refl _ _) ?_
      repeat
        first
        | (refine steps_and rfl rfl rfl rfl ?_; simp only [Act.put, List.setIfInBounds_toArray, List.set_cons_succ, List.set_cons_zero])
        | (refine steps_or rfl rfl rfl rfl ?_; simp only [Act.put, List.setIfInBounds_toArray, List.set_cons_succ, List.set_cons_zero])
        | (refine steps_skip rfl ?_; simp only [Act.put, List.setIfInBounds_toArray, List.set_cons_succ, List.set_cons_zero])
        | (refine steps_guard_and rfl rfl rfl rfl rfl ?_; simp only [Act.put, List.setIfInBounds_toArray, List.set_cons_succ, List.set_cons_zero])
        | (refine steps_guard (v := ?_) rfl rfl (fun hb w' hS => ?_) ?_; rotate_left; (focus (have e2 := ext_cell c2 hS; unfold Gives; go_simp; first | exact is_mk hS | (refine (Pattern_any _ _ hpn).mono ?_; rintro e w'' ⟨rfl, h2⟩; exact gave_mk (ext_trans hS h2)) | (refine (Tryz.slices_Contains_string b off k c r.pats p _ (by rw [HN.out]; omega) (by omega) (strs_cells (HLR.out.ext hS))).mono ?_; rintro e w'' ⟨rfl, rfl⟩; exact gave_mk hS))); simp only [Act.put, List.setIfInBounds_toArray, List.set_cons_succ, List.set_cons_zero])
        | (refine steps_guard2 (v := ?_) rfl rfl rfl (fun hb1 hb w' hS => ?_) ?_; rotate_left; (focus (have e2 := ext_cell c2 hS; unfold Gives; go_simp; first | exact is_mk hS | (refine (Pattern_any _ _ hpn).mono ?_; rintro e w'' ⟨rfl, h2⟩; exact gave_mk (ext_trans hS h2)) | (refine (Tryz.slices_Contains_string b off k c r.pats p _ (by rw [HN.out]; omega) (by omega) (strs_cells (HLR.out.ext hS))).mono ?_; rintro e w'' ⟨rfl, rfl⟩; exact gave_mk hS))); simp only [Act.put, List.setIfInBounds_toArray, List.set_cons_succ, List.set_cons_zero])
        | (refine steps_run (v := ?_) rfl (fun w' hS => ?_) ?_; rotate_left; (focus (have e2 := ext_cell c2 hS; unfold Gives; go_simp; first | exact is_mk hS | (refine (Pattern_any _ _ hpn).mono ?_; rintro e w'' ⟨rfl, h2⟩; exact gave_mk (ext_trans hS h2)) | (refine (Tryz.slices_Contains_string b off k c r.pats p _ (by rw [HN.out]; omega) (by omega) (strs_cells (HLR.out.ext hS))).mono ?_; rintro e w'' ⟨rfl, rfl⟩; exact gave_mk hS))); simp only [Act.put, List.setIfInBounds_toArray, List.set_cons_succ, List.set_cons_zero])
      refine steps_end fun w' hE' => ?_
      rw [memB_containsS]
      have HPK : Hid ((okOr 110 (pattern p.data.toList).2.2 != 0) = !patOk p) := Lib.hid (by unfold patOk; cases (pattern p.data.toList).2.2 <;> rfl)
      cases hq : ((okOr 110 (pattern p.data.toList).2.2 != 0) || memB (r.pats.take k) p)
      · have HQ := Lib.hid (show patsOk [] (r.pats.take (k + 1)) = true by
          rw [HT.out, HP.out]
          rw [HPK.out] at hq
          simp only [Bool.or_eq_false_iff, Bool.not_eq_false'] at hq
          rw [hq.1, hq.2]; rfl)
        clear hq
        go_wp2_with fail
        go_roundw
        case rel => exact ⟨k + 1, by omega, by go_num, HQ.out, ext_trans HER.out hE'⟩
        case measure => simp [intOf]; omega
      · have HQ := Lib.hid (show formB r = false by
          have : patsOk [] (r.pats.take (k + 1)) = false := by
            rw [HT.out, HP.out]
            rw [HPK.out] at hq
            simp only [Bool.or_eq_true, Bool.not_eq_true'] at hq
            rcases hq with h | h <;> rw [h] <;> simp
          unfold formB; rw [patsOk_false this]; simp)
        clear hq
        go_wp2_with fail
        all_goals
          go_ret
          exact ⟨ret_bool HQ.out.symm, ext_trans HE0.out (ext_trans HER.out hE')⟩
    · obtain rfl : k = n := by omega
      have hpo : patsOk [] r.pats = true := by have := HP.out; rwa [← HN.out, List.take_length] at this
      have HFB := Lib.hid (show formB r = (ruleName r.name.data.toList && (decide (1 ≤ (k : Int)) && decide ((k : Int) ≤ 8)) && limitsB r) by
        unfold formB; rw [hpo, HN.out, Bool.and_true, show decide (1 ≤ (k : Int)) = decide (1 ≤ k) from by congr 1; apply propext; omega, show decide ((k : Int) ≤ 8) = decide (k ≤ 8) from by congr 1; apply propext; omega])
      clear hpo
      have c0 := ext_cell C0.out hEr; have c1 := ext_cell C1.out hEr; have c2 := ext_cell C2.out hEr; have c3 := ext_cell C3.out hEr; have c4 := ext_cell C4.out hEr; have c5 := ext_cell C5.out hEr; have c6 := ext_cell C6.out hEr
      have HEW := Lib.hid (ext_trans HE0.out hEr); clear hEr
      have HLO := Lib.hid (limits_own r)
      go_upto_region 8 with (fail)
      refine wp_region_P (fun w' => w' = wr) rfl ?_
      repeat
        first
        | (refine steps_and rfl rfl rfl rfl ?_; simp only [Act.put, List.setIfInBounds_toArray, List.set_cons_succ, List.set_cons_zero])
        | (refine steps_or rfl rfl rfl rfl ?_; simp only [Act.put, List.setIfInBounds_toArray, List.set_cons_succ, List.set_cons_zero])
        | (refine steps_skip rfl ?_; simp only [Act.put, List.setIfInBounds_toArray, List.set_cons_succ, List.set_cons_zero])
        | (refine steps_guard_and rfl rfl rfl rfl rfl ?_; simp only [Act.put, List.setIfInBounds_toArray, List.set_cons_succ, List.set_cons_zero])
        | (refine steps_guard (v := ?_) rfl rfl (fun hb w' hS => ?_) ?_; rotate_left; (focus (subst hS; unfold Gives; go_simp; first | exact is_mk rfl | (refine (within_any _ _ _ _).mono ?_; rintro e w'' ⟨rfl, rfl⟩; exact gave_mk rfl))); simp only [Act.put, List.setIfInBounds_toArray, List.set_cons_succ, List.set_cons_zero])
        | (refine steps_guard2 (v := ?_) rfl rfl rfl (fun hb1 hb w' hS => ?_) ?_; rotate_left; (focus (subst hS; unfold Gives; go_simp; first | exact is_mk rfl | (refine (within_any _ _ _ _).mono ?_; rintro e w'' ⟨rfl, rfl⟩; exact gave_mk rfl))); simp only [Act.put, List.setIfInBounds_toArray, List.set_cons_succ, List.set_cons_zero])
        | (refine steps_run (v := ?_) rfl (fun w' hS => ?_) ?_; rotate_left; (focus (subst hS; unfold Gives; go_simp; first | exact is_mk rfl | (refine (within_any _ _ _ _).mono ?_; rintro e w'' ⟨rfl, rfl⟩; exact gave_mk rfl))); simp only [Act.put, List.setIfInBounds_toArray, List.set_cons_succ, List.set_cons_zero])
      refine steps_end fun w' hE' => ?_
      subst hE'
      by_cases hm : 0 < r.most
      · go_upto_region 10 with (fail)
        refine wp_region_P (fun x => x = w') rfl ?_
        repeat
          first
          | (refine steps_and rfl rfl rfl rfl ?_; simp only [Act.put, List.setIfInBounds_toArray, List.set_cons_succ, List.set_cons_zero])
          | (refine steps_or rfl rfl rfl rfl ?_; simp only [Act.put, List.setIfInBounds_toArray, List.set_cons_succ, List.set_cons_zero])
          | (refine steps_skip rfl ?_; simp only [Act.put, List.setIfInBounds_toArray, List.set_cons_succ, List.set_cons_zero])
          | (refine steps_guard_and rfl rfl rfl rfl rfl ?_; simp only [Act.put, List.setIfInBounds_toArray, List.set_cons_succ, List.set_cons_zero])
          | (refine steps_guard (v := ?_) rfl rfl (fun hb w' hS => ?_) ?_; rotate_left; (focus (subst hS; unfold Gives; go_simp; first | exact is_mk rfl | (refine (within_any _ _ _ _).mono ?_; rintro e w'' ⟨rfl, rfl⟩; exact gave_mk rfl))); simp only [Act.put, List.setIfInBounds_toArray, List.set_cons_succ, List.set_cons_zero])
          | (refine steps_guard2 (v := ?_) rfl rfl rfl (fun hb1 hb w' hS => ?_) ?_; rotate_left; (focus (subst hS; unfold Gives; go_simp; first | exact is_mk rfl | (refine (within_any _ _ _ _).mono ?_; rintro e w'' ⟨rfl, rfl⟩; exact gave_mk rfl))); simp only [Act.put, List.setIfInBounds_toArray, List.set_cons_succ, List.set_cons_zero])
          | (refine steps_run (v := ?_) rfl (fun w' hS => ?_) ?_; rotate_left; (focus (subst hS; unfold Gives; go_simp; first | exact is_mk rfl | (refine (within_any _ _ _ _).mono ?_; rintro e w'' ⟨rfl, rfl⟩; exact gave_mk rfl))); simp only [Act.put, List.setIfInBounds_toArray, List.set_cons_succ, List.set_cons_zero])
        refine steps_end fun x hx => ?_
        subst hx
        cases hal : r.allow
        · rw [hal] at c1
          have HLO : Hid ((r.keyMin == 0 && r.lifeMax == 0 && r.most == 0 && r.window == 0) = limitsB r) := Lib.hid (by rw [← HLO.out, hal]; rfl)
          clear hal
          go_upto_region 13 with (fail)
          refine wp_region_P (fun y => y = x) rfl ?_
          repeat
            first
            | (refine steps_and rfl rfl rfl rfl ?_; simp only [Act.put, List.setIfInBounds_toArray, List.set_cons_succ, List.set_cons_zero])
            | (refine steps_or rfl rfl rfl rfl ?_; simp only [Act.put, List.setIfInBounds_toArray, List.set_cons_succ, List.set_cons_zero])
            | (refine steps_skip rfl ?_; simp only [Act.put, List.setIfInBounds_toArray, List.set_cons_succ, List.set_cons_zero])
            | (refine steps_guard_and rfl rfl rfl rfl rfl ?_; simp only [Act.put, List.setIfInBounds_toArray, List.set_cons_succ, List.set_cons_zero])
            | (refine steps_guard (v := ?_) rfl rfl (fun hb w' hS => ?_) ?_; rotate_left; (focus (subst hS; unfold Gives; go_simp; first | exact is_mk rfl)); simp only [Act.put, List.setIfInBounds_toArray, List.set_cons_succ, List.set_cons_zero])
            | (refine steps_guard2 (v := ?_) rfl rfl rfl (fun hb1 hb w' hS => ?_) ?_; rotate_left; (focus (subst hS; unfold Gives; go_simp; first | exact is_mk rfl)); simp only [Act.put, List.setIfInBounds_toArray, List.set_cons_succ, List.set_cons_zero])
            | (refine steps_run (v := ?_) rfl (fun w' hS => ?_) ?_; rotate_left; (focus (subst hS; unfold Gives; go_simp; first | exact is_mk rfl)); simp only [Act.put, List.setIfInBounds_toArray, List.set_cons_succ, List.set_cons_zero])
          refine steps_end fun y hy => ?_
          subst hy
          go_upto_region 14 with (fail)
          refine wp_region_P (fun x => Ext y x) (Below.refl _ _) ?_
          repeat
            first
            | (refine steps_and rfl rfl rfl rfl ?_; simp only [Act.put, List.setIfInBounds_toArray, List.set_cons_succ, List.set_cons_zero])
            | (refine steps_or rfl rfl rfl rfl ?_; simp only [Act.put, List.setIfInBounds_toArray, List.set_cons_succ, List.set_cons_zero])
            | (refine steps_skip rfl ?_; simp only [Act.put, List.setIfInBounds_toArray, List.set_cons_succ, List.set_cons_zero])
            | (refine steps_guard_and rfl rfl rfl rfl rfl ?_; simp only [Act.put, List.setIfInBounds_toArray, List.set_cons_succ, List.set_cons_zero])
            | (refine steps_guard (v := ?_) rfl rfl (fun hb w' hS => ?_) ?_; rotate_left; (focus (have e0 := ext_cell c0 hS; have e2 := ext_cell c2 hS; unfold Gives; go_simp; first | exact is_mk hS | (refine (named_any _ _ HS.out).mono ?_; rintro e w'' ⟨rfl, h2⟩; exact gave_mk (ext_trans hS h2)) | (refine (within_any _ _ _ _).mono ?_; rintro e w'' ⟨rfl, rfl⟩; exact gave_mk hS))); simp only [Act.put, List.setIfInBounds_toArray, List.set_cons_succ, List.set_cons_zero])
            | (refine steps_guard2 (v := ?_) rfl rfl rfl (fun hb1 hb w' hS => ?_) ?_; rotate_left; (focus (have e0 := ext_cell c0 hS; have e2 := ext_cell c2 hS; unfold Gives; go_simp; first | exact is_mk hS | (refine (named_any _ _ HS.out).mono ?_; rintro e w'' ⟨rfl, h2⟩; exact gave_mk (ext_trans hS h2)) | (refine (within_any _ _ _ _).mono ?_; rintro e w'' ⟨rfl, rfl⟩; exact gave_mk hS))); simp only [Act.put, List.setIfInBounds_toArray, List.set_cons_succ, List.set_cons_zero])
            | (refine steps_run (v := ?_) rfl (fun w' hS => ?_) ?_; rotate_left; (focus (have e0 := ext_cell c0 hS; have e2 := ext_cell c2 hS; unfold Gives; go_simp; first | exact is_mk hS | (refine (named_any _ _ HS.out).mono ?_; rintro e w'' ⟨rfl, h2⟩; exact gave_mk (ext_trans hS h2)) | (refine (within_any _ _ _ _).mono ?_; rintro e w'' ⟨rfl, rfl⟩; exact gave_mk hS))); simp only [Act.put, List.setIfInBounds_toArray, List.set_cons_succ, List.set_cons_zero])
          refine steps_end fun x hy => ?_
          go_wp2_with fail
          go_ret
          exact ⟨ret_bool (by rw [HFB.out, ← HLO.out]), ext_trans HEW.out hy⟩
        · rw [hal] at c1
          have HLO := Lib.hid (show (decide (r.keyMin ≤ 2305843009213691579) && (decide (1 ≤ r.lifeMax) && decide (r.lifeMax ≤ 1000)) && (decide (0 ≤ r.most) && decide (r.most ≤ 1000)) && (decide (1 ≤ r.window) && decide (r.window ≤ 1099511627776))) = limitsB r by rw [← HLO.out, if_pos hal, if_pos (show r.most > 0 from hm)])
          clear hal
          go_upto_region 14 with (fail)
          refine wp_region_P (fun y => Ext x y) (Below.refl _ _) ?_
          repeat
            first
            | (refine steps_and rfl rfl rfl rfl ?_; simp only [Act.put, List.setIfInBounds_toArray, List.set_cons_succ, List.set_cons_zero])
            | (refine steps_or rfl rfl rfl rfl ?_; simp only [Act.put, List.setIfInBounds_toArray, List.set_cons_succ, List.set_cons_zero])
            | (refine steps_skip rfl ?_; simp only [Act.put, List.setIfInBounds_toArray, List.set_cons_succ, List.set_cons_zero])
            | (refine steps_guard_and rfl rfl rfl rfl rfl ?_; simp only [Act.put, List.setIfInBounds_toArray, List.set_cons_succ, List.set_cons_zero])
            | (refine steps_guard (v := ?_) rfl rfl (fun hb w' hS => ?_) ?_; rotate_left; (focus (have e0 := ext_cell c0 hS; have e2 := ext_cell c2 hS; unfold Gives; go_simp; first | exact is_mk hS | (refine (named_any _ _ HS.out).mono ?_; rintro e w'' ⟨rfl, h2⟩; exact gave_mk (ext_trans hS h2)) | (refine (within_any _ _ _ _).mono ?_; rintro e w'' ⟨rfl, rfl⟩; exact gave_mk hS))); simp only [Act.put, List.setIfInBounds_toArray, List.set_cons_succ, List.set_cons_zero])
            | (refine steps_guard2 (v := ?_) rfl rfl rfl (fun hb1 hb w' hS => ?_) ?_; rotate_left; (focus (have e0 := ext_cell c0 hS; have e2 := ext_cell c2 hS; unfold Gives; go_simp; first | exact is_mk hS | (refine (named_any _ _ HS.out).mono ?_; rintro e w'' ⟨rfl, h2⟩; exact gave_mk (ext_trans hS h2)) | (refine (within_any _ _ _ _).mono ?_; rintro e w'' ⟨rfl, rfl⟩; exact gave_mk hS))); simp only [Act.put, List.setIfInBounds_toArray, List.set_cons_succ, List.set_cons_zero])
            | (refine steps_run (v := ?_) rfl (fun w' hS => ?_) ?_; rotate_left; (focus (have e0 := ext_cell c0 hS; have e2 := ext_cell c2 hS; unfold Gives; go_simp; first | exact is_mk hS | (refine (named_any _ _ HS.out).mono ?_; rintro e w'' ⟨rfl, h2⟩; exact gave_mk (ext_trans hS h2)) | (refine (within_any _ _ _ _).mono ?_; rintro e w'' ⟨rfl, rfl⟩; exact gave_mk hS))); simp only [Act.put, List.setIfInBounds_toArray, List.set_cons_succ, List.set_cons_zero])
          refine steps_end fun y hy => ?_
          go_wp2_with fail
          go_ret
          exact ⟨ret_bool (by rw [HFB.out, ← HLO.out]), ext_trans HEW.out hy⟩
      · go_upto_region 11 with (fail)
        refine wp_region_P (fun x => x = w') rfl ?_
        repeat
          first
          | (refine steps_and rfl rfl rfl rfl ?_; simp only [Act.put, List.setIfInBounds_toArray, List.set_cons_succ, List.set_cons_zero])
          | (refine steps_or rfl rfl rfl rfl ?_; simp only [Act.put, List.setIfInBounds_toArray, List.set_cons_succ, List.set_cons_zero])
          | (refine steps_skip rfl ?_; simp only [Act.put, List.setIfInBounds_toArray, List.set_cons_succ, List.set_cons_zero])
          | (refine steps_guard_and rfl rfl rfl rfl rfl ?_; simp only [Act.put, List.setIfInBounds_toArray, List.set_cons_succ, List.set_cons_zero])
          | (refine steps_guard (v := ?_) rfl rfl (fun hb w' hS => ?_) ?_; rotate_left; (focus (subst hS; unfold Gives; go_simp; first | exact is_mk rfl)); simp only [Act.put, List.setIfInBounds_toArray, List.set_cons_succ, List.set_cons_zero])
          | (refine steps_guard2 (v := ?_) rfl rfl rfl (fun hb1 hb w' hS => ?_) ?_; rotate_left; (focus (subst hS; unfold Gives; go_simp; first | exact is_mk rfl)); simp only [Act.put, List.setIfInBounds_toArray, List.set_cons_succ, List.set_cons_zero])
          | (refine steps_run (v := ?_) rfl (fun w' hS => ?_) ?_; rotate_left; (focus (subst hS; unfold Gives; go_simp; first | exact is_mk rfl)); simp only [Act.put, List.setIfInBounds_toArray, List.set_cons_succ, List.set_cons_zero])
        refine steps_end fun x hx => ?_
        subst hx
        cases hal : r.allow
        · rw [hal] at c1
          have HLO : Hid ((r.keyMin == 0 && r.lifeMax == 0 && r.most == 0 && r.window == 0) = limitsB r) := Lib.hid (by rw [← HLO.out, hal]; rfl)
          clear hal
          go_upto_region 13 with (fail)
          refine wp_region_P (fun y => y = x) rfl ?_
          repeat
            first
            | (refine steps_and rfl rfl rfl rfl ?_; simp only [Act.put, List.setIfInBounds_toArray, List.set_cons_succ, List.set_cons_zero])
            | (refine steps_or rfl rfl rfl rfl ?_; simp only [Act.put, List.setIfInBounds_toArray, List.set_cons_succ, List.set_cons_zero])
            | (refine steps_skip rfl ?_; simp only [Act.put, List.setIfInBounds_toArray, List.set_cons_succ, List.set_cons_zero])
            | (refine steps_guard_and rfl rfl rfl rfl rfl ?_; simp only [Act.put, List.setIfInBounds_toArray, List.set_cons_succ, List.set_cons_zero])
            | (refine steps_guard (v := ?_) rfl rfl (fun hb w' hS => ?_) ?_; rotate_left; (focus (subst hS; unfold Gives; go_simp; first | exact is_mk rfl)); simp only [Act.put, List.setIfInBounds_toArray, List.set_cons_succ, List.set_cons_zero])
            | (refine steps_guard2 (v := ?_) rfl rfl rfl (fun hb1 hb w' hS => ?_) ?_; rotate_left; (focus (subst hS; unfold Gives; go_simp; first | exact is_mk rfl)); simp only [Act.put, List.setIfInBounds_toArray, List.set_cons_succ, List.set_cons_zero])
            | (refine steps_run (v := ?_) rfl (fun w' hS => ?_) ?_; rotate_left; (focus (subst hS; unfold Gives; go_simp; first | exact is_mk rfl)); simp only [Act.put, List.setIfInBounds_toArray, List.set_cons_succ, List.set_cons_zero])
          refine steps_end fun y hy => ?_
          subst hy
          go_upto_region 14 with (fail)
          refine wp_region_P (fun x => Ext y x) (Below.refl _ _) ?_
          repeat
            first
            | (refine steps_and rfl rfl rfl rfl ?_; simp only [Act.put, List.setIfInBounds_toArray, List.set_cons_succ, List.set_cons_zero])
            | (refine steps_or rfl rfl rfl rfl ?_; simp only [Act.put, List.setIfInBounds_toArray, List.set_cons_succ, List.set_cons_zero])
            | (refine steps_skip rfl ?_; simp only [Act.put, List.setIfInBounds_toArray, List.set_cons_succ, List.set_cons_zero])
            | (refine steps_guard_and rfl rfl rfl rfl rfl ?_; simp only [Act.put, List.setIfInBounds_toArray, List.set_cons_succ, List.set_cons_zero])
            | (refine steps_guard (v := ?_) rfl rfl (fun hb w' hS => ?_) ?_; rotate_left; (focus (have e0 := ext_cell c0 hS; have e2 := ext_cell c2 hS; unfold Gives; go_simp; first | exact is_mk hS | (refine (named_any _ _ HS.out).mono ?_; rintro e w'' ⟨rfl, h2⟩; exact gave_mk (ext_trans hS h2)) | (refine (within_any _ _ _ _).mono ?_; rintro e w'' ⟨rfl, rfl⟩; exact gave_mk hS))); simp only [Act.put, List.setIfInBounds_toArray, List.set_cons_succ, List.set_cons_zero])
            | (refine steps_guard2 (v := ?_) rfl rfl rfl (fun hb1 hb w' hS => ?_) ?_; rotate_left; (focus (have e0 := ext_cell c0 hS; have e2 := ext_cell c2 hS; unfold Gives; go_simp; first | exact is_mk hS | (refine (named_any _ _ HS.out).mono ?_; rintro e w'' ⟨rfl, h2⟩; exact gave_mk (ext_trans hS h2)) | (refine (within_any _ _ _ _).mono ?_; rintro e w'' ⟨rfl, rfl⟩; exact gave_mk hS))); simp only [Act.put, List.setIfInBounds_toArray, List.set_cons_succ, List.set_cons_zero])
            | (refine steps_run (v := ?_) rfl (fun w' hS => ?_) ?_; rotate_left; (focus (have e0 := ext_cell c0 hS; have e2 := ext_cell c2 hS; unfold Gives; go_simp; first | exact is_mk hS | (refine (named_any _ _ HS.out).mono ?_; rintro e w'' ⟨rfl, h2⟩; exact gave_mk (ext_trans hS h2)) | (refine (within_any _ _ _ _).mono ?_; rintro e w'' ⟨rfl, rfl⟩; exact gave_mk hS))); simp only [Act.put, List.setIfInBounds_toArray, List.set_cons_succ, List.set_cons_zero])
          refine steps_end fun x hy => ?_
          go_wp2_with fail
          go_ret
          exact ⟨ret_bool (by rw [HFB.out, ← HLO.out]), ext_trans HEW.out hy⟩
        · rw [hal] at c1
          have HLO := Lib.hid (show (decide (r.keyMin ≤ 2305843009213691579) && (decide (1 ≤ r.lifeMax) && decide (r.lifeMax ≤ 1000)) && (decide (0 ≤ r.most) && decide (r.most ≤ 1000)) && r.window == 0) = limitsB r by rw [← HLO.out, if_pos hal, if_neg (show ¬ r.most > 0 from hm)])
          clear hal
          go_upto_region 14 with (fail)
          refine wp_region_P (fun y => Ext x y) (Below.refl _ _) ?_
          repeat
            first
            | (refine steps_and rfl rfl rfl rfl ?_; simp only [Act.put, List.setIfInBounds_toArray, List.set_cons_succ, List.set_cons_zero])
            | (refine steps_or rfl rfl rfl rfl ?_; simp only [Act.put, List.setIfInBounds_toArray, List.set_cons_succ, List.set_cons_zero])
            | (refine steps_skip rfl ?_; simp only [Act.put, List.setIfInBounds_toArray, List.set_cons_succ, List.set_cons_zero])
            | (refine steps_guard_and rfl rfl rfl rfl rfl ?_; simp only [Act.put, List.setIfInBounds_toArray, List.set_cons_succ, List.set_cons_zero])
            | (refine steps_guard (v := ?_) rfl rfl (fun hb w' hS => ?_) ?_; rotate_left; (focus (have e0 := ext_cell c0 hS; have e2 := ext_cell c2 hS; unfold Gives; go_simp; first | exact is_mk hS | (refine (named_any _ _ HS.out).mono ?_; rintro e w'' ⟨rfl, h2⟩; exact gave_mk (ext_trans hS h2)) | (refine (within_any _ _ _ _).mono ?_; rintro e w'' ⟨rfl, rfl⟩; exact gave_mk hS))); simp only [Act.put, List.setIfInBounds_toArray, List.set_cons_succ, List.set_cons_zero])
            | (refine steps_guard2 (v := ?_) rfl rfl rfl (fun hb1 hb w' hS => ?_) ?_; rotate_left; (focus (have e0 := ext_cell c0 hS; have e2 := ext_cell c2 hS; unfold Gives; go_simp; first | exact is_mk hS | (refine (named_any _ _ HS.out).mono ?_; rintro e w'' ⟨rfl, h2⟩; exact gave_mk (ext_trans hS h2)) | (refine (within_any _ _ _ _).mono ?_; rintro e w'' ⟨rfl, rfl⟩; exact gave_mk hS))); simp only [Act.put, List.setIfInBounds_toArray, List.set_cons_succ, List.set_cons_zero])
            | (refine steps_run (v := ?_) rfl (fun w' hS => ?_) ?_; rotate_left; (focus (have e0 := ext_cell c0 hS; have e2 := ext_cell c2 hS; unfold Gives; go_simp; first | exact is_mk hS | (refine (named_any _ _ HS.out).mono ?_; rintro e w'' ⟨rfl, h2⟩; exact gave_mk (ext_trans hS h2)) | (refine (within_any _ _ _ _).mono ?_; rintro e w'' ⟨rfl, rfl⟩; exact gave_mk hS))); simp only [Act.put, List.setIfInBounds_toArray, List.set_cons_succ, List.set_cons_zero])
          refine steps_end fun y hy => ?_
          go_wp2_with fail
          go_ret
          exact ⟨ret_bool (by rw [HFB.out, ← HLO.out]), ext_trans HEW.out hy⟩
end Go.Proofs.YteemkkmkkgfofaaGreatDoor
