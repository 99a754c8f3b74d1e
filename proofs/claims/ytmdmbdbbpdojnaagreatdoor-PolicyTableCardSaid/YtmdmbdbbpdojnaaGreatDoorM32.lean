/- Walks: is a table small; the law's test of the nearest pattern. Walk: the law PolicyCompiles. Walks: the law's test of the nearest pattern. A region's walk: a guarded 'or'. -/
import Derived.Test.YtmdmbdbbpdojnaaGreatDoorM26
import Derived.Test.YtmdmbdbbpdojnaaGreatDoorM14
import Derived.Test.YtmdmbdbbpdojnaaGreatDoorM31
import Derived.Test.YtmdmbdbbpdojnaaGreatDoorM25
import Derived.Test.YtmdmbdbbpdojnaaGreatDoorM21
import Derived.Test.YtmdmbdbbpdojnaaGreatDoorM08
namespace Go.Proofs.YtmdmbdbbpdojnaaGreatDoor
open Go.RowKit Nam Pol Go.Maps
attribute [local go_sem] gv_of

/-- The kids of nodes, all told, as the machine reckons. -/
def Pol.sumK (l : List Nod) : Int := l.foldl (fun s x => wrap64 (s + (x.kids.length : Int))) 0
def Pol.fewT (rs : List Rul) (ns : List Nod) : Bool := fewB rs && decide ((ns.length : Int) ≤ 2500) && decide (sumK (ns.take 3000) ≤ 5000)
theorem sumK_take {l : List Nod} {k : Nat} {x : Nod} (h : l[k]? = some x) : sumK (l.take (k + 1)) = wrap64 (sumK (l.take k) + (x.kids.length : Int)) := by
  unfold sumK; rw [take_snoc h, List.foldl_append]; rfl
set_option maxRecDepth 100000 in
set_option maxHeartbeats 4000000 in
theorem Few16_any (rs : List Rul) (ns : List Nod) (a b : Option Addr) (cap n c m : Nat) (w : World) (hn : rs.length = n) (hnc : n ≤ cap) (hcm : cap ≤ maxLen) (hl : Ruls w a rs) (hm : ns.length = m) (_hmc : m ≤ c) (hmm : c ≤ maxLen) (hns : Nods w b ns) :
    Calls Tryz.prog 24 #[.agg #[.slice a n cap, .slice b m c]] w (Ret (.bool (fewT rs ns)) w) := by
  have HN := Lib.hid hn; have HNC := Lib.hid hnc; have HCM := Lib.hid hcm; have HL := Lib.hid hl; have HM := Lib.hid hm; have HMM := Lib.hid hmm; have HNS := Lib.hid hns
  unfold maxLen at hmm
  clear hn hnc hcm hl hm hns
  go_enter Tryz.func24, Tryz.ntmps24
  go_upto_region 1 with (fail)
  obtain ⟨W0, hW0⟩ : ∃ W0, w.alloc (Obj.cells #[.slice a n cap, .slice b m c] 45) = W0 := ⟨_, rfl⟩
  have hE0 : Ext w W0 := by rw [← hW0]; exact ext_alloc (Below.refl _ _) _
  have t1 : TabB W0 w.heap.size (.slice a n cap) (.slice b m c) := by rw [← hW0]; exact TabB.new _ _ _
  obtain ⟨p0, p1⟩ := t1.cells
  have HE0 := Lib.hid hE0
  rw [hW0]
  clear hW0 hE0 t1
  go_wp2_with fail
  go_loop [3, 4] (fun z i => ∃ (s : Int) (k : Nat), z = .int .i64 s ∧ i = .int .i64 k ∧ k ≤ m ∧ k ≤ 3000 ∧ s = sumK (ns.take k)) (fun _ i => m - (intOf i).toNat)
  case atStart => exact ⟨0, 0, rfl, rfl, Nat.zero_le _, Nat.zero_le _, rfl⟩
  case round =>
    obtain ⟨s, k, rfl, rfl, hk, hk3, hsum⟩ := hrel
    have HSU := Lib.hid hsum; clear hsum
    by_cases hlt : k < m ∧ k < 3000
    · obtain ⟨h1, h2⟩ := hlt
      obtain ⟨x, hx⟩ := get_some HM.out h1
      obtain ⟨bb, off, rfl, d0, d1, d2, ⟨pa, pc, d3, l1, l2, hps⟩, _⟩ := (HNS.out.ext HE0.out) k x hx
      have HX := Lib.hid hx; have HPS := Lib.hid hps
      unfold maxLen at l2
      clear hx hps
      go_wp2_with fail
      go_round
      case rel => exact ⟨_, k + 1, rfl, by go_num, by omega, by omega, by rw [sumK_take HX.out, ← HSU.out]⟩
      case measure => simp [intOf]; omega
    · have HFT : Hid ((fewB rs && decide ((m : Int) ≤ 2500) && decide (s ≤ 5000)) = fewT rs ns) := Lib.hid (by
        unfold fewT
        rw [HM.out, HSU.out]
        by_cases h1 : k < m
        · rw [show k = 3000 by omega]
        · rw [show k = m by omega, List.take_of_length_le (by rw [HM.out]; omega), List.take_of_length_le (by rw [HM.out]; omega)])
      by_cases h1 : k < m
      · have h2 : ¬ k < 3000 := fun h => hlt ⟨h1, h⟩
        clear hlt
        go_upto_region 6 with (fail)
        refine wp_region_P (fun w' => Ext W0 w') (Below.refl _ _) ?_
        repeat
          first
          | (refine steps_and rfl rfl rfl rfl ?_; simp only [Act.put, List.setIfInBounds_toArray, List.set_cons_succ, List.set_cons_zero])
          | (refine steps_or rfl rfl rfl rfl ?_; simp only [Act.put, List.setIfInBounds_toArray, List.set_cons_succ, List.set_cons_zero])
          | (refine steps_skip rfl ?_; simp only [Act.put, List.setIfInBounds_toArray, List.set_cons_succ, List.set_cons_zero])
          | (refine steps_guard_and rfl rfl rfl rfl rfl ?_; simp only [Act.put, List.setIfInBounds_toArray, List.set_cons_succ, List.set_cons_zero])
          | (refine steps_guard (v := ?_) rfl rfl (fun hb w' hS => ?_) ?_; rotate_left; (focus (have e0 := ext_cell p0 hS; have e1 := ext_cell p1 hS; unfold Gives; go_simp; first | exact is_mk hS | (refine (Few_any rs a cap n _ HN.out HNC.out HCM.out ((HL.out.ext HE0.out).ext hS)).mono ?_; rintro e w'' ⟨rfl, rfl⟩; exact gave_mk hS))); simp only [Act.put, List.setIfInBounds_toArray, List.set_cons_succ, List.set_cons_zero])
          | (refine steps_guard2 (v := ?_) rfl rfl rfl (fun hb1 hb w' hS => ?_) ?_; rotate_left; (focus (have e0 := ext_cell p0 hS; have e1 := ext_cell p1 hS; unfold Gives; go_simp; first | exact is_mk hS | (refine (Few_any rs a cap n _ HN.out HNC.out HCM.out ((HL.out.ext HE0.out).ext hS)).mono ?_; rintro e w'' ⟨rfl, rfl⟩; exact gave_mk hS))); simp only [Act.put, List.setIfInBounds_toArray, List.set_cons_succ, List.set_cons_zero])
          | (refine steps_run (v := ?_) rfl (fun w' hS => ?_) ?_; rotate_left; (focus (have e0 := ext_cell p0 hS; have e1 := ext_cell p1 hS; unfold Gives; go_simp; first | exact is_mk hS | (refine (Few_any rs a cap n _ HN.out HNC.out HCM.out ((HL.out.ext HE0.out).ext hS)).mono ?_; rintro e w'' ⟨rfl, rfl⟩; exact gave_mk hS))); simp only [Act.put, List.setIfInBounds_toArray, List.set_cons_succ, List.set_cons_zero])
        refine steps_end fun w' hE' => ?_
        go_wp2_with fail
        go_ret
        exact ⟨ret_bool HFT.out, ext_trans HE0.out hE'⟩
      · clear hlt
        go_upto_region 6 with (fail)
        refine wp_region_P (fun w' => Ext W0 w') (Below.refl _ _) ?_
        repeat
          first
          | (refine steps_and rfl rfl rfl rfl ?_; simp only [Act.put, List.setIfInBounds_toArray, List.set_cons_succ, List.set_cons_zero])
          | (refine steps_or rfl rfl rfl rfl ?_; simp only [Act.put, List.setIfInBounds_toArray, List.set_cons_succ, List.set_cons_zero])
          | (refine steps_skip rfl ?_; simp only [Act.put, List.setIfInBounds_toArray, List.set_cons_succ, List.set_cons_zero])
          | (refine steps_guard_and rfl rfl rfl rfl rfl ?_; simp only [Act.put, List.setIfInBounds_toArray, List.set_cons_succ, List.set_cons_zero])
          | (refine steps_guard (v := ?_) rfl rfl (fun hb w' hS => ?_) ?_; rotate_left; (focus (have e0 := ext_cell p0 hS; have e1 := ext_cell p1 hS; unfold Gives; go_simp; first | exact is_mk hS | (refine (Few_any rs a cap n _ HN.out HNC.out HCM.out ((HL.out.ext HE0.out).ext hS)).mono ?_; rintro e w'' ⟨rfl, rfl⟩; exact gave_mk hS))); simp only [Act.put, List.setIfInBounds_toArray, List.set_cons_succ, List.set_cons_zero])
          | (refine steps_guard2 (v := ?_) rfl rfl rfl (fun hb1 hb w' hS => ?_) ?_; rotate_left; (focus (have e0 := ext_cell p0 hS; have e1 := ext_cell p1 hS; unfold Gives; go_simp; first | exact is_mk hS | (refine (Few_any rs a cap n _ HN.out HNC.out HCM.out ((HL.out.ext HE0.out).ext hS)).mono ?_; rintro e w'' ⟨rfl, rfl⟩; exact gave_mk hS))); simp only [Act.put, List.setIfInBounds_toArray, List.set_cons_succ, List.set_cons_zero])
          | (refine steps_run (v := ?_) rfl (fun w' hS => ?_) ?_; rotate_left; (focus (have e0 := ext_cell p0 hS; have e1 := ext_cell p1 hS; unfold Gives; go_simp; first | exact is_mk hS | (refine (Few_any rs a cap n _ HN.out HNC.out HCM.out ((HL.out.ext HE0.out).ext hS)).mono ?_; rintro e w'' ⟨rfl, rfl⟩; exact gave_mk hS))); simp only [Act.put, List.setIfInBounds_toArray, List.set_cons_succ, List.set_cons_zero])
        refine steps_end fun w' hE' => ?_
        go_wp2_with fail
        go_ret
        exact ⟨ret_bool HFT.out, ext_trans HE0.out hE'⟩
end Go.Proofs.YtmdmbdbbpdojnaaGreatDoor
namespace Go.Proofs.YtmdmbdbbpdojnaaGreatDoor
open Go.RowKit Nam Pol Go.Maps
attribute [local go_sem] gv_of

theorem fewT_rules {rs : List Rul} {ns : List Nod} (h : fewT rs ns = true) : fewB rs = true := by
  unfold fewT at h; simp only [Bool.and_eq_true] at h; exact h.1.1
theorem decideD_eq (rs : List Rul) (ns : List Nod) (v : Wsh) : decideD rs ns v = decideOf rs ns v := by
  rw [decide_means]
  unfold decideD
  rw [means_eq]
set_option maxRecDepth 100000 in
set_option maxHeartbeats 8000000 in
theorem PolicyCompiles_any (l rs : List Rul) (ns : List Nod) (v : Wsh) (a ra na : Option Addr) (cap n rc r nc m : Nat) (va : Option Addr) (vc : Nat) (w : World)
    (hn : l.length = n) (hnc : n ≤ cap) (hcm : cap ≤ maxLen) (hl : Ruls w a l) (hr : rs.length = r) (hrc : r ≤ rc) (hrm : rc ≤ maxLen) (hrs : Ruls w ra rs) (hm : ns.length = m) (hmc : m ≤ nc) (hmm : nc ≤ maxLen) (hns : Nods w na ns)
    (hvc : v.names.length ≤ vc) (hvm : vc ≤ maxLen) (hv : Strs w va v.names) (hvs : ∀ s ∈ v.names, s.size ≤ 9223372036854775807) (hw : Env w) :
    Calls Tryz.prog 4 #[.slice a n cap, .agg #[.slice ra r rc, .slice na m nc], wshV v va vc] w (Ret (.bool true) w) := by
  have HN := Lib.hid hn; have HNC := Lib.hid hnc; have HCM := Lib.hid hcm; have HL := Lib.hid hl; have HR := Lib.hid hr; have HRC := Lib.hid hrc; have HRM := Lib.hid hrm; have HRS := Lib.hid hrs; have HM := Lib.hid hm; have HMC := Lib.hid hmc; have HMM := Lib.hid hmm; have HNS := Lib.hid hns; have HVC := Lib.hid hvc; have HVM := Lib.hid hvm; have HV := Lib.hid hv; have HVS := Lib.hid hvs; have HW := Lib.hid hw
  clear hn hnc hcm hl hr hrc hrm hrs hm hmc hmm hns hvc hvm hv hvs hw
  obtain ⟨k, hk⟩ : ∃ k, v.names.length = k := ⟨_, rfl⟩
  have HK := Lib.hid hk
  have HWV : Hid (Value.agg #[.int .i64 v.account, .slice va k vc, .int .u64 v.key, .int .i64 v.life] = wshV v va vc) := Lib.hid (by unfold wshV; rw [hk])
  unfold wshV
  rw [hk]
  clear hk
  go_enter Tryz.func4, Tryz.ntmps4
  go_upto_region 1 with (fail)
  obtain ⟨W0, hW0⟩ : ∃ W0, ((w).alloc (Obj.cells #[.slice ra r rc, .slice na m nc] 45)).alloc (Obj.cells #[.int .i64 v.account, .slice va k vc, .int .u64 v.key, .int .i64 v.life] 26) = W0 := ⟨_, rfl⟩
  have hE0 : Ext w W0 := by rw [← hW0]; exact ext_alloc (ext_alloc (Below.refl _ _) _) _
  have c00 : W0.cell? ⟨w.heap.size, 0, none⟩ = some (.slice ra r rc) := by rw [← hW0]; simp [go_sem]
  have c01 : W0.cell? ⟨w.heap.size, 1, none⟩ = some (.slice na m nc) := by rw [← hW0]; simp [go_sem]
  have c10 : W0.cell? ⟨w.heap.size + 1, 0, none⟩ = some (.int .i64 v.account) := by rw [← hW0]; simp [go_sem]
  have c11 : W0.cell? ⟨w.heap.size + 1, 1, none⟩ = some (.slice va k vc) := by rw [← hW0]; simp [go_sem]
  have c12 : W0.cell? ⟨w.heap.size + 1, 2, none⟩ = some (.int .u64 v.key) := by rw [← hW0]; simp [go_sem]
  have c13 : W0.cell? ⟨w.heap.size + 1, 3, none⟩ = some (.int .i64 v.life) := by rw [← hW0]; simp [go_sem]
  have C00 := Lib.hid c00; have C01 := Lib.hid c01; have C10 := Lib.hid c10; have C11 := Lib.hid c11; have C12 := Lib.hid c12; have C13 := Lib.hid c13; have HE0 := Lib.hid hE0
  rw [hW0]
  clear hW0 hE0
  go_wp2_with fail
  refine (live16_any _ (HW.out.ext HE0.out)).mono ?_; rintro e w1 ⟨rfl, hE1⟩
  have HE := Lib.hid (ext_trans HE0.out hE1)
  replace C00 := Lib.hid (ext_cell C00.out hE1); have c00 := C00.out; replace C01 := Lib.hid (ext_cell C01.out hE1); have c01 := C01.out; replace C10 := Lib.hid (ext_cell C10.out hE1); have c10 := C10.out; replace C11 := Lib.hid (ext_cell C11.out hE1); have c11 := C11.out; replace C12 := Lib.hid (ext_cell C12.out hE1); have c12 := C12.out; replace C13 := Lib.hid (ext_cell C13.out hE1); have c13 := C13.out
  clear hE1
  go_upto_region 3 with (fail)
  refine wp_region_P (fun w' => Ext w1 w') (Below.refl _ _) ?_
  repeat
    first
    | (refine steps_and rfl rfl rfl rfl ?_; simp only [Act.put, List.setIfInBounds_toArray, List.set_cons_succ, List.set_cons_zero])
    | (refine steps_or rfl rfl rfl rfl ?_; simp only [Act.put, List.setIfInBounds_toArray, List.set_cons_succ, List.set_cons_zero])
    | (refine steps_skip rfl ?_; simp only [Act.put, List.setIfInBounds_toArray, List.set_cons_succ, List.set_cons_zero])
    | (refine steps_guard_and rfl rfl rfl rfl rfl ?_; simp only [Act.put, List.setIfInBounds_toArray, List.set_cons_succ, List.set_cons_zero])
    | (refine steps_guard (v := ?_) rfl rfl (fun hb w' hS => ?_) ?_; rotate_left; (focus (have k0 := ext_cell c00 hS; have k1 := ext_cell c01 hS; have k2 := ext_cell c10 hS; have k3 := ext_cell c11 hS; have k4 := ext_cell c12 hS; have k5 := ext_cell c13 hS; unfold Gives; go_simp; first | exact is_mk hS | (rw [HWV.out]; refine (few16_any l v a cap n va vc _ HN.out HNC.out HCM.out (HL.out.ext (ext_trans HE.out hS)) HVC.out HVM.out (HV.out.ext (ext_trans HE.out hS))).mono ?_; rintro e w'' ⟨rfl, h2⟩; exact gave_mk (ext_trans hS h2)) | (refine (Few16_any rs ns ra na rc r nc m _ HR.out HRC.out HRM.out (HRS.out.ext (ext_trans HE.out hS)) HM.out HMC.out HMM.out (HNS.out.ext (ext_trans HE.out hS))).mono ?_; rintro e w'' ⟨rfl, h2⟩; exact gave_mk (ext_trans hS h2)))); simp only [Act.put, List.setIfInBounds_toArray, List.set_cons_succ, List.set_cons_zero])
    | (refine steps_guard2 (v := ?_) rfl rfl rfl (fun hb1 hb w' hS => ?_) ?_; rotate_left; (focus (have k0 := ext_cell c00 hS; have k1 := ext_cell c01 hS; have k2 := ext_cell c10 hS; have k3 := ext_cell c11 hS; have k4 := ext_cell c12 hS; have k5 := ext_cell c13 hS; unfold Gives; go_simp; first | exact is_mk hS | (rw [HWV.out]; refine (few16_any l v a cap n va vc _ HN.out HNC.out HCM.out (HL.out.ext (ext_trans HE.out hS)) HVC.out HVM.out (HV.out.ext (ext_trans HE.out hS))).mono ?_; rintro e w'' ⟨rfl, h2⟩; exact gave_mk (ext_trans hS h2)) | (refine (Few16_any rs ns ra na rc r nc m _ HR.out HRC.out HRM.out (HRS.out.ext (ext_trans HE.out hS)) HM.out HMC.out HMM.out (HNS.out.ext (ext_trans HE.out hS))).mono ?_; rintro e w'' ⟨rfl, h2⟩; exact gave_mk (ext_trans hS h2)))); simp only [Act.put, List.setIfInBounds_toArray, List.set_cons_succ, List.set_cons_zero])
    | (refine steps_run (v := ?_) rfl (fun w' hS => ?_) ?_; rotate_left; (focus (have k0 := ext_cell c00 hS; have k1 := ext_cell c01 hS; have k2 := ext_cell c10 hS; have k3 := ext_cell c11 hS; have k4 := ext_cell c12 hS; have k5 := ext_cell c13 hS; unfold Gives; go_simp; first | exact is_mk hS | (rw [HWV.out]; refine (few16_any l v a cap n va vc _ HN.out HNC.out HCM.out (HL.out.ext (ext_trans HE.out hS)) HVC.out HVM.out (HV.out.ext (ext_trans HE.out hS))).mono ?_; rintro e w'' ⟨rfl, h2⟩; exact gave_mk (ext_trans hS h2)) | (refine (Few16_any rs ns ra na rc r nc m _ HR.out HRC.out HRM.out (HRS.out.ext (ext_trans HE.out hS)) HM.out HMC.out HMM.out (HNS.out.ext (ext_trans HE.out hS))).mono ?_; rintro e w'' ⟨rfl, h2⟩; exact gave_mk (ext_trans hS h2)))); simp only [Act.put, List.setIfInBounds_toArray, List.set_cons_succ, List.set_cons_zero])
  refine steps_end fun w2 hE2 => ?_
  replace HE := Lib.hid (ext_trans HE.out hE2)
  replace C00 := Lib.hid (ext_cell C00.out hE2); have c00 := C00.out; replace C01 := Lib.hid (ext_cell C01.out hE2); have c01 := C01.out; replace C10 := Lib.hid (ext_cell C10.out hE2); have c10 := C10.out; replace C11 := Lib.hid (ext_cell C11.out hE2); have c11 := C11.out; replace C12 := Lib.hid (ext_cell C12.out hE2); have c12 := C12.out; replace C13 := Lib.hid (ext_cell C13.out hE2); have c13 := C13.out
  clear hE2
  cases hq : (!fewB l || !fewNames v.names || !fewT rs ns)
  rotate_left
  · clear hq
    go_wp2_with fail
    go_ret
    exact ⟨rfl, HE.out⟩
  · simp only [Bool.or_eq_false_iff, Bool.not_eq_false'] at hq
    have HF := Lib.hid (few_sizes hq.1.1 HN.out); have HFT := Lib.hid (few_sizes (fewT_rules hq.2) HR.out)
    clear hq
    obtain ⟨x, hx⟩ : ∃ x, rightE l = x := ⟨_, rfl⟩
    obtain ⟨p, hp⟩ : ∃ p, (compR l).length = p := ⟨_, rfl⟩
    obtain ⟨q, hq⟩ : ∃ q, (compN l).length = q := ⟨_, rfl⟩
    obtain ⟨X, hX⟩ : ∃ X, decideOf rs ns v = X := ⟨_, rfl⟩
    have HX := Lib.hid hX; have HXX := Lib.hid hx; have HP := Lib.hid hp; have HQ := Lib.hid hq
    clear hX hx hp hq
    go_wp2_with fail
    have hc := Compile_any l a cap n _ HN.out HNC.out HCM.out (HL.out.ext HE.out) (by have := HF.out.1; omega) HF.out.2 (HW.out.ext HE.out)
    rw [HXX.out] at hc
    refine hc.mono ?_
    clear hc
    rintro e w3 hr
    obtain ⟨ta, tc, tb, td, rfl, t1, t2, t3, t4, ht, hnn, hE3⟩ := retTab_lit hr HP.out HQ.out
    have HT := Lib.hid ht; have HNN := Lib.hid hnn; have T1 := Lib.hid t1; have T2 := Lib.hid t2; have T3 := Lib.hid t3; have T4 := Lib.hid t4
    clear hr ht hnn t1 t2 t3 t4
    replace HE := Lib.hid (ext_trans HE.out hE3); replace C00 := Lib.hid (ext_cell C00.out hE3); have c00 := C00.out; replace C01 := Lib.hid (ext_cell C01.out hE3); have c01 := C01.out; replace C10 := Lib.hid (ext_cell C10.out hE3); have c10 := C10.out; replace C11 := Lib.hid (ext_cell C11.out hE3); have c11 := C11.out; replace C12 := Lib.hid (ext_cell C12.out hE3); have c12 := C12.out; replace C13 := Lib.hid (ext_cell C13.out hE3); have c13 := C13.out
    clear hE3
    go_upto_region 6 with (fail)
    obtain ⟨W3, hW3⟩ : ∃ W3, w3.alloc (Obj.cells #[.slice ta p tc, .slice tb q td] 45) = W3 := ⟨_, rfl⟩
    have hE : Ext w3 W3 := by rw [← hW3]; exact ext_alloc (Below.refl _ w3) _
    have hM : W3.heap[w3.heap.size]? = some (Obj.cells #[.slice ta p tc, .slice tb q td] 45 (0, 0)) := by rw [← hW3]; exact World.alloc_heap_new w3 _
    rw [hW3]
    clear hW3
    have HTB := Lib.hid (show TabB W3 w3.heap.size (.slice ta p tc) (.slice tb q td) from hM)
    clear hM
    replace HE := Lib.hid (ext_trans HE.out hE); replace HT := Lib.hid (HT.out.ext hE); replace HNN := Lib.hid (HNN.out.ext hE); replace C00 := Lib.hid (ext_cell C00.out hE); have c00 := C00.out; replace C01 := Lib.hid (ext_cell C01.out hE); have c01 := C01.out; replace C10 := Lib.hid (ext_cell C10.out hE); have c10 := C10.out; replace C11 := Lib.hid (ext_cell C11.out hE); have c11 := C11.out; replace C12 := Lib.hid (ext_cell C12.out hE); have c12 := C12.out; replace C13 := Lib.hid (ext_cell C13.out hE); have c13 := C13.out
    clear hE
    go_wp2_with fail
    have hc := r16Compile_any l a cap n _ HN.out HNC.out HCM.out (HL.out.ext HE.out) (by have := HF.out.1; omega)
    rw [HXX.out] at hc
    refine hc.mono ?_
    clear hc
    rintro e w4 hr
    obtain ⟨ua, uc, ub, ud, rfl, t1, t2, t3, t4, ht, hnn, hE3⟩ := retTab_lit hr HP.out HQ.out
    have HU := Lib.hid ht; have HUN := Lib.hid hnn; have U1 := Lib.hid t1; have U2 := Lib.hid t2; have U3 := Lib.hid t3; have U4 := Lib.hid t4
    clear hr ht hnn t1 t2 t3 t4
    replace HE := Lib.hid (ext_trans HE.out hE3); replace HT := Lib.hid (HT.out.ext hE3); replace HNN := Lib.hid (HNN.out.ext hE3); replace HTB := Lib.hid (HTB.out.ext hE3); replace C00 := Lib.hid (ext_cell C00.out hE3); have c00 := C00.out; replace C01 := Lib.hid (ext_cell C01.out hE3); have c01 := C01.out; replace C10 := Lib.hid (ext_cell C10.out hE3); have c10 := C10.out; replace C11 := Lib.hid (ext_cell C11.out hE3); have c11 := C11.out; replace C12 := Lib.hid (ext_cell C12.out hE3); have c12 := C12.out; replace C13 := Lib.hid (ext_cell C13.out hE3); have c13 := C13.out
    clear hE3
    go_upto_region 7 with (fail)
    obtain ⟨W4, hW4⟩ : ∃ W4, w4.alloc (Obj.cells #[.slice ua p uc, .slice ub q ud] 45) = W4 := ⟨_, rfl⟩
    have hE : Ext w4 W4 := by rw [← hW4]; exact ext_alloc (Below.refl _ w4) _
    have hM : W4.heap[w4.heap.size]? = some (Obj.cells #[.slice ua p uc, .slice ub q ud] 45 (0, 0)) := by rw [← hW4]; exact World.alloc_heap_new w4 _
    rw [hW4]
    clear hW4
    have HUB := Lib.hid (show TabB W4 w4.heap.size (.slice ua p uc) (.slice ub q ud) from hM)
    clear hM
    replace HE := Lib.hid (ext_trans HE.out hE); replace HT := Lib.hid (HT.out.ext hE); replace HNN := Lib.hid (HNN.out.ext hE); replace HTB := Lib.hid (HTB.out.ext hE); replace HU := Lib.hid (HU.out.ext hE); replace HUN := Lib.hid (HUN.out.ext hE); replace C00 := Lib.hid (ext_cell C00.out hE); have c00 := C00.out; replace C01 := Lib.hid (ext_cell C01.out hE); have c01 := C01.out; replace C10 := Lib.hid (ext_cell C10.out hE); have c10 := C10.out; replace C11 := Lib.hid (ext_cell C11.out hE); have c11 := C11.out; replace C12 := Lib.hid (ext_cell C12.out hE); have c12 := C12.out; replace C13 := Lib.hid (ext_cell C13.out hE); have c13 := C13.out
    clear hE
    go_wp2_with fail
    rw [HWV.out]
    have hc := pDecide_any rs ns v ra na rc r nc m va vc _ HR.out HRC.out HRM.out (HRS.out.ext HE.out) (by have := HFT.out.1; omega) HFT.out.2 HM.out HMC.out HMM.out (HNS.out.ext HE.out) HVC.out HVM.out (HV.out.ext HE.out) HVS.out (HW.out.ext HE.out)
    rw [HX.out] at hc
    refine hc.mono ?_
    clear hc
    rintro e w5 hr
    obtain ⟨sa, sc, sk, hsk, rfl, s1, s2, hi, hE3⟩ := retVE_open hr
    have HI := Lib.hid hi; have S1 := Lib.hid s1; have S2 := Lib.hid s2; have HSK := Lib.hid hsk
    clear hr hi s1 s2 hsk
    replace HE := Lib.hid (ext_trans HE.out hE3); replace HT := Lib.hid (HT.out.ext hE3); replace HNN := Lib.hid (HNN.out.ext hE3); replace HTB := Lib.hid (HTB.out.ext hE3); replace HU := Lib.hid (HU.out.ext hE3); replace HUN := Lib.hid (HUN.out.ext hE3); replace HUB := Lib.hid (HUB.out.ext hE3); replace C00 := Lib.hid (ext_cell C00.out hE3); have c00 := C00.out; replace C01 := Lib.hid (ext_cell C01.out hE3); have c01 := C01.out; replace C10 := Lib.hid (ext_cell C10.out hE3); have c10 := C10.out; replace C11 := Lib.hid (ext_cell C11.out hE3); have c11 := C11.out; replace C12 := Lib.hid (ext_cell C12.out hE3); have c12 := C12.out; replace C13 := Lib.hid (ext_cell C13.out hE3); have c13 := C13.out
    clear hE3
    go_upto_region 8 with (fail)
    obtain ⟨W5, hW5⟩ : ∃ W5, w5.alloc (Obj.cells #[.bool X.1.allow, .int .i64 X.1.at', .slice sa sk sc] 32) = W5 := ⟨_, rfl⟩
    have hE : Ext w5 W5 := by rw [← hW5]; exact ext_alloc (Below.refl _ w5) _
    have hM : W5.heap[w5.heap.size]? = some (Obj.cells #[.bool X.1.allow, .int .i64 X.1.at', .slice sa sk sc] 32 (0, 0)) := by rw [← hW5]; exact World.alloc_heap_new w5 _
    rw [hW5]
    clear hW5
    have HVB := Lib.hid (show VerB W5 w5.heap.size X.1.allow X.1.at' (.slice sa sk sc) from hM)
    clear hM
    replace HE := Lib.hid (ext_trans HE.out hE); replace HT := Lib.hid (HT.out.ext hE); replace HNN := Lib.hid (HNN.out.ext hE); replace HTB := Lib.hid (HTB.out.ext hE); replace HU := Lib.hid (HU.out.ext hE); replace HUN := Lib.hid (HUN.out.ext hE); replace HUB := Lib.hid (HUB.out.ext hE); replace HI := Lib.hid (HI.out.ext hE); replace C00 := Lib.hid (ext_cell C00.out hE); have c00 := C00.out; replace C01 := Lib.hid (ext_cell C01.out hE); have c01 := C01.out; replace C10 := Lib.hid (ext_cell C10.out hE); have c10 := C10.out; replace C11 := Lib.hid (ext_cell C11.out hE); have c11 := C11.out; replace C12 := Lib.hid (ext_cell C12.out hE); have c12 := C12.out; replace C13 := Lib.hid (ext_cell C13.out hE); have c13 := C13.out
    clear hE
    go_wp2_with fail
    rw [HWV.out]
    have hc := r16Decide_any rs ns v ra na rc r nc m va vc _ HR.out HRC.out HRM.out (HRS.out.ext HE.out) (by have := HFT.out.1; omega) HM.out HMC.out HMM.out (HNS.out.ext HE.out) HVC.out HVM.out (HV.out.ext HE.out)
    rw [decideD_eq, HX.out] at hc
    refine hc.mono ?_
    clear hc
    rintro e w6 hr
    obtain ⟨ya, yc, yk, hyk, rfl, s1, s2, hi, hE3⟩ := retVE_open hr
    obtain rfl : yk = sk := hyk.symm.trans HSK.out
    have HI2 := Lib.hid hi; have Y1 := Lib.hid s1; have Y2 := Lib.hid s2
    clear hr hi s1 s2 hyk
    replace HE := Lib.hid (ext_trans HE.out hE3); replace HT := Lib.hid (HT.out.ext hE3); replace HNN := Lib.hid (HNN.out.ext hE3); replace HTB := Lib.hid (HTB.out.ext hE3); replace HU := Lib.hid (HU.out.ext hE3); replace HUN := Lib.hid (HUN.out.ext hE3); replace HUB := Lib.hid (HUB.out.ext hE3); replace HI := Lib.hid (HI.out.ext hE3); replace HVB := Lib.hid (HVB.out.ext hE3); replace C00 := Lib.hid (ext_cell C00.out hE3); have c00 := C00.out; replace C01 := Lib.hid (ext_cell C01.out hE3); have c01 := C01.out; replace C10 := Lib.hid (ext_cell C10.out hE3); have c10 := C10.out; replace C11 := Lib.hid (ext_cell C11.out hE3); have c11 := C11.out; replace C12 := Lib.hid (ext_cell C12.out hE3); have c12 := C12.out; replace C13 := Lib.hid (ext_cell C13.out hE3); have c13 := C13.out
    clear hE3
    go_upto_region 9 with (fail)
    obtain ⟨W6, hW6⟩ : ∃ W6, w6.alloc (Obj.cells #[.bool X.1.allow, .int .i64 X.1.at', .slice ya yk yc] 32) = W6 := ⟨_, rfl⟩
    have hE : Ext w6 W6 := by rw [← hW6]; exact ext_alloc (Below.refl _ w6) _
    have hM : W6.heap[w6.heap.size]? = some (Obj.cells #[.bool X.1.allow, .int .i64 X.1.at', .slice ya yk yc] 32 (0, 0)) := by rw [← hW6]; exact World.alloc_heap_new w6 _
    rw [hW6]
    clear hW6
    have HYB := Lib.hid (show VerB W6 w6.heap.size X.1.allow X.1.at' (.slice ya yk yc) from hM)
    clear hM
    replace HE := Lib.hid (ext_trans HE.out hE); replace HT := Lib.hid (HT.out.ext hE); replace HNN := Lib.hid (HNN.out.ext hE); replace HTB := Lib.hid (HTB.out.ext hE); replace HU := Lib.hid (HU.out.ext hE); replace HUN := Lib.hid (HUN.out.ext hE); replace HUB := Lib.hid (HUB.out.ext hE); replace HI := Lib.hid (HI.out.ext hE); replace HVB := Lib.hid (HVB.out.ext hE); replace HI2 := Lib.hid (HI2.out.ext hE); replace C00 := Lib.hid (ext_cell C00.out hE); have c00 := C00.out; replace C01 := Lib.hid (ext_cell C01.out hE); have c01 := C01.out; replace C10 := Lib.hid (ext_cell C10.out hE); have c10 := C10.out; replace C11 := Lib.hid (ext_cell C11.out hE); have c11 := C11.out; replace C12 := Lib.hid (ext_cell C12.out hE); have c12 := C12.out; replace C13 := Lib.hid (ext_cell C13.out hE); have c13 := C13.out
    clear hE
    obtain ⟨a0, a1⟩ := HTB.out.cells
    obtain ⟨b0, b1⟩ := HUB.out.cells
    obtain ⟨d0, d1, d2⟩ := HVB.out.cells
    obtain ⟨e0, e1, e2⟩ := HYB.out.cells
    have HVV := Lib.hid (verV_eq (x := X.1) (a := sa) (c := sc) HSK.out)
    have HYV := Lib.hid (verV_eq (x := X.1) (a := ya) (c := yc) HSK.out)
    have HSV := Lib.hid (fun w h1 h2 => SameVerdict_any X.1 X.1 sa ya sc yc w (by rw [HSK.out]; have := S1.out; have := S2.out; omega) (by rw [HSK.out]; have := S1.out; have := S2.out; omega) h1 h2)
    have hds : decide (X.1 = X.1) = true := decide_eq_true rfl
    have hdl : (decide (compR l = compR l) && decide (compN l = compN l)) = true := by rw [decide_eq_true rfl, decide_eq_true rfl]; rfl
    have HDS := Lib.hid hds; have HDL := Lib.hid hdl
    clear hds hdl
    refine wp_region_S (by kernel_rfl) (by kernel_rfl) (by kernel_rfl) (by kernel_rfl) (by kernel_rfl) (fun w' => Ext W6 w') ((Fr.drew (fun _ => False) _).ext (fun _ _ h => h)) ?_
    repeat
      first
      | (refine steps_and rfl rfl rfl rfl ?_; simp only [Act.put, List.setIfInBounds_toArray, List.set_cons_succ, List.set_cons_zero])
      | (refine steps_or rfl rfl rfl rfl ?_; simp only [Act.put, List.setIfInBounds_toArray, List.set_cons_succ, List.set_cons_zero])
      | (refine steps_skip rfl ?_; simp only [Act.put, List.setIfInBounds_toArray, List.set_cons_succ, List.set_cons_zero])
      | (refine steps_guard_and rfl rfl rfl rfl rfl ?_; simp only [Act.put, List.setIfInBounds_toArray, List.set_cons_succ, List.set_cons_zero])
      | (refine steps_guard (v := ?_) rfl rfl (fun hb w' hS => ?_) ?_; rotate_left; (focus (have f0 := ext_cell a0 hS; have f1 := ext_cell a1 hS; have g0 := ext_cell b0 hS; have g1 := ext_cell b1 hS; have k0 := ext_cell c00 hS; have k1 := ext_cell c01 hS; have h0 := ext_cell d0 hS; have h1 := ext_cell d1 hS; have h2 := ext_cell d2 hS; have i0 := ext_cell e0 hS; have i1 := ext_cell e1 hS; have i2 := ext_cell e2 hS; unfold Gives; go_simp; first | exact is_mk hS | (refine (r16SameT_any (compR l) (compR l) (compN l) (compN l) ta ua tb ub tc uc td ud p p q q _ HP.out HP.out HQ.out HQ.out (by have := T1.out; have := T2.out; omega) (by have := T1.out; have := T2.out; omega) (by have := T3.out; have := T4.out; omega) (by have := T3.out; have := T4.out; omega) (HT.out.ext hS) (HU.out.ext hS) (HNN.out.ext hS) (HUN.out.ext hS)).mono ?_; rw [HDL.out]; rintro e w'' ⟨rfl, h2⟩; exact gave_mk (ext_trans hS h2)) | (refine (CheckT_any rs ns ra na rc r nc m _ HR.out HRC.out HRM.out (HRS.out.ext (ext_trans HE.out hS)) (by have := HFT.out.1; omega) HFT.out.2 HM.out HMC.out HMM.out (HNS.out.ext (ext_trans HE.out hS)) (HW.out.ext (ext_trans HE.out hS))).mono ?_; rintro e w'' ⟨rfl, h2⟩; exact gave_mk (ext_trans hS h2)) | (refine (r16Check_any rs ns ra na rc r nc m _ HR.out HRC.out HRM.out (HRS.out.ext (ext_trans HE.out hS)) (by have := HFT.out.1; omega) HM.out HMC.out HMM.out (HNS.out.ext (ext_trans HE.out hS))).mono ?_; rintro e w'' ⟨rfl, h2⟩; exact gave_mk (ext_trans hS h2)) | (rw [HVV.out, HYV.out]; refine (HSV.out _ (HI.out.ext hS) (HI2.out.ext hS)).mono ?_; rw [HDS.out]; rintro e w'' ⟨rfl, h2⟩; exact gave_mk (ext_trans hS h2)))); simp only [Act.put, List.setIfInBounds_toArray, List.set_cons_succ, List.set_cons_zero])
      | (refine steps_guard2 (v := ?_) rfl rfl rfl (fun hb1 hb w' hS => ?_) ?_; rotate_left; (focus (have f0 := ext_cell a0 hS; have f1 := ext_cell a1 hS; have g0 := ext_cell b0 hS; have g1 := ext_cell b1 hS; have k0 := ext_cell c00 hS; have k1 := ext_cell c01 hS; have h0 := ext_cell d0 hS; have h1 := ext_cell d1 hS; have h2 := ext_cell d2 hS; have i0 := ext_cell e0 hS; have i1 := ext_cell e1 hS; have i2 := ext_cell e2 hS; unfold Gives; go_simp; first | exact is_mk hS | (refine (r16SameT_any (compR l) (compR l) (compN l) (compN l) ta ua tb ub tc uc td ud p p q q _ HP.out HP.out HQ.out HQ.out (by have := T1.out; have := T2.out; omega) (by have := T1.out; have := T2.out; omega) (by have := T3.out; have := T4.out; omega) (by have := T3.out; have := T4.out; omega) (HT.out.ext hS) (HU.out.ext hS) (HNN.out.ext hS) (HUN.out.ext hS)).mono ?_; rw [HDL.out]; rintro e w'' ⟨rfl, h2⟩; exact gave_mk (ext_trans hS h2)) | (refine (CheckT_any rs ns ra na rc r nc m _ HR.out HRC.out HRM.out (HRS.out.ext (ext_trans HE.out hS)) (by have := HFT.out.1; omega) HFT.out.2 HM.out HMC.out HMM.out (HNS.out.ext (ext_trans HE.out hS)) (HW.out.ext (ext_trans HE.out hS))).mono ?_; rintro e w'' ⟨rfl, h2⟩; exact gave_mk (ext_trans hS h2)) | (refine (r16Check_any rs ns ra na rc r nc m _ HR.out HRC.out HRM.out (HRS.out.ext (ext_trans HE.out hS)) (by have := HFT.out.1; omega) HM.out HMC.out HMM.out (HNS.out.ext (ext_trans HE.out hS))).mono ?_; rintro e w'' ⟨rfl, h2⟩; exact gave_mk (ext_trans hS h2)) | (rw [HVV.out, HYV.out]; refine (HSV.out _ (HI.out.ext hS) (HI2.out.ext hS)).mono ?_; rw [HDS.out]; rintro e w'' ⟨rfl, h2⟩; exact gave_mk (ext_trans hS h2)))); simp only [Act.put, List.setIfInBounds_toArray, List.set_cons_succ, List.set_cons_zero])
      | (refine steps_run (v := ?_) rfl (fun w' hS => ?_) ?_; rotate_left; (focus (have f0 := ext_cell a0 hS; have f1 := ext_cell a1 hS; have g0 := ext_cell b0 hS; have g1 := ext_cell b1 hS; have k0 := ext_cell c00 hS; have k1 := ext_cell c01 hS; have h0 := ext_cell d0 hS; have h1 := ext_cell d1 hS; have h2 := ext_cell d2 hS; have i0 := ext_cell e0 hS; have i1 := ext_cell e1 hS; have i2 := ext_cell e2 hS; unfold Gives; go_simp; first | exact is_mk hS | (refine (r16SameT_any (compR l) (compR l) (compN l) (compN l) ta ua tb ub tc uc td ud p p q q _ HP.out HP.out HQ.out HQ.out (by have := T1.out; have := T2.out; omega) (by have := T1.out; have := T2.out; omega) (by have := T3.out; have := T4.out; omega) (by have := T3.out; have := T4.out; omega) (HT.out.ext hS) (HU.out.ext hS) (HNN.out.ext hS) (HUN.out.ext hS)).mono ?_; rw [HDL.out]; rintro e w'' ⟨rfl, h2⟩; exact gave_mk (ext_trans hS h2)) | (refine (CheckT_any rs ns ra na rc r nc m _ HR.out HRC.out HRM.out (HRS.out.ext (ext_trans HE.out hS)) (by have := HFT.out.1; omega) HFT.out.2 HM.out HMC.out HMM.out (HNS.out.ext (ext_trans HE.out hS)) (HW.out.ext (ext_trans HE.out hS))).mono ?_; rintro e w'' ⟨rfl, h2⟩; exact gave_mk (ext_trans hS h2)) | (refine (r16Check_any rs ns ra na rc r nc m _ HR.out HRC.out HRM.out (HRS.out.ext (ext_trans HE.out hS)) (by have := HFT.out.1; omega) HM.out HMC.out HMM.out (HNS.out.ext (ext_trans HE.out hS))).mono ?_; rintro e w'' ⟨rfl, h2⟩; exact gave_mk (ext_trans hS h2)) | (rw [HVV.out, HYV.out]; refine (HSV.out _ (HI.out.ext hS) (HI2.out.ext hS)).mono ?_; rw [HDS.out]; rintro e w'' ⟨rfl, h2⟩; exact gave_mk (ext_trans hS h2)))); simp only [Act.put, List.setIfInBounds_toArray, List.set_cons_succ, List.set_cons_zero])
    refine steps_end fun w7 hE7 => ?_
    go_wp2_with fail
    go_ret
    exact ⟨rfl, ext_trans HE.out hE7⟩
end Go.Proofs.YtmdmbdbbpdojnaaGreatDoor
namespace Go.Proofs.YtmdmbdbbpdojnaaGreatDoor
open Go.RowKit Nam Pol Go.Maps
attribute [local go_sem] gv_of

theorem allB_take {α : Type} {f : α → Bool} {l : List α} {k : Nat} {x : α} (h : l[k]? = some x) : (l.take (k + 1)).all f = ((l.take k).all f && f x) := by
  rw [take_snoc h, List.all_append, List.all_cons, List.all_nil, Bool.and_true]
theorem anyB_take {α : Type} {f : α → Bool} {l : List α} {k : Nat} {x : α} (h : l[k]? = some x) : (l.take (k + 1)).any f = ((l.take k).any f || f x) := by
  rw [take_snoc h, List.any_append, List.any_cons, List.any_nil, Bool.or_false]
theorem allB_no {α : Type} {f : α → Bool} {l : List α} {k : Nat} {x : α} (h : l[k]? = some x) (hf : f x = false) : l.all f = false := by
  rw [Bool.eq_false_iff]; intro ha
  rw [List.all_eq_true.1 ha x (List.mem_of_getElem? h)] at hf; cases hf
theorem anyB_yes {α : Type} {f : α → Bool} {l : List α} {k : Nat} {x : α} (h : l[k]? = some x) (hf : f x = true) : l.any f = true := List.any_eq_true.2 ⟨x, List.mem_of_getElem? h, hf⟩
def noM (nm : ByteArray) (p : ByteArray) : Bool := !rmatchB p.data.toList nm.data.toList
def noMR (nm : ByteArray) (r : Rul) : Bool := r.pats.all (noM nm)
set_option maxRecDepth 100000 in
set_option maxHeartbeats 4000000 in
theorem nearestNo_any (l : List Rul) (nm : ByteArray) (a : Option Addr) (cap n : Nat) (w : World) (hn : l.length = n) (hnc : n ≤ cap) (hcm : cap ≤ maxLen) (hl : Ruls w a l) (hs : nm.size ≤ 9223372036854775807) (hw : Env w) :
    Calls Tryz.prog 37 #[.slice a n cap, .string nm, .int .i64 (-1)] w (Ret (.bool (nearB l nm (-1))) w) := by
  have HN := Lib.hid hn; have HL := Lib.hid hl; have HW := Lib.hid hw; have HNM := Lib.hid hs
  unfold maxLen at hcm
  clear hn hl hw
  go_enter Tryz.func37, Tryz.ntmps37
  go_wp2_with fail
  go_loopw [7] (fun i wr => ∃ k : Nat, k ≤ n ∧ i = .int .i64 k ∧ (l.take k).all (noMR nm) = true ∧ Ext w wr) (fun i _ => n - (intOf i).toNat)
  case atStart => exact ⟨0, Nat.zero_le _, rfl, rfl, Below.refl _ _⟩
  case round =>
    obtain ⟨k, hk, rfl, hc, hEr⟩ := hrel
    have HC := Lib.hid hc; clear hc
    by_cases hlt : k < n
    · obtain ⟨r, hr⟩ := get_some HN.out hlt
      obtain ⟨b, off, rfl, d0, d1, ⟨pa, pc, d2, l1, l2, hps⟩, d3⟩ := HL.out k r hr
      obtain ⟨m, hm⟩ : ∃ m, r.pats.length = m := ⟨_, rfl⟩
      have HM := Lib.hid hm
      rw [hm] at d2 l1
      have HR := Lib.hid hr; have HPS := Lib.hid hps; have HER := Lib.hid hEr; have D2 := Lib.hid d2
      unfold maxLen at l2
      clear hr hps d0 d1 d3 hm d2 hEr
      have dr := ext_cell D2.out HER.out
      go_wp2_with fail
      obtain ⟨wo, rfl⟩ : ∃ wo : World, wo = wr := ⟨_, rfl⟩
      clear dr
      go_loopw [8] (fun i wr => ∃ j : Nat, j ≤ m ∧ i = .int .i64 j ∧ (r.pats.take j).all (noM nm) = true ∧ Ext w wr) (fun i _ => m - (intOf i).toNat)
      case atStart => exact ⟨0, Nat.zero_le _, rfl, rfl, HER.out⟩
      case round =>
        obtain ⟨j, hj, rfl, hc2, hEr⟩ := hrel
        have HC2 := Lib.hid hc2; have HE2 := Lib.hid hEr; clear hc2
        have dr := ext_cell D2.out hEr
        by_cases hlj : j < m
        · obtain ⟨p, hp⟩ := get_some HM.out hlj
          obtain ⟨b', off', rfl, e0, hpz⟩ := (HPS.out.ext hEr) j p hp
          rw [Nat.mul_one] at e0
          have HP := Lib.hid hp; have HPZ := Lib.hid hpz
          clear hp hpz hEr
          cases hq : rmatchB p.data.toList nm.data.toList
          · have HQ := Lib.hid (show (r.pats.take (j + 1)).all (noM nm) = true by rw [allB_take HP.out, HC2.out]; unfold noM; rw [hq]; rfl)
            have HQ0 := Lib.hid hq; clear hq
            go_wp2_with (go_at_call 36; refine (Match_r p nm _ HPZ.out HNM.out (HW.out.ext HE2.out)).mono ?_; rintro e w1 ⟨rfl, hE1⟩; rw [HQ0.out]; have HE1 := Lib.hid hE1; clear hE1)
            go_roundw
            case rel => exact ⟨j + 1, by omega, by go_num, HQ.out, ext_trans HE2.out HE1.out⟩
            case measure => simp [intOf]; omega
          · have HQ := Lib.hid (show nearB l nm (-1) = false by
              unfold nearB; rw [if_pos (by decide)]
              exact allB_no HR.out (show noMR nm r = false from allB_no HP.out (by unfold noM; rw [hq]; rfl)))
            have HQ0 := Lib.hid hq; clear hq
            go_wp2_with (go_at_call 36; refine (Match_r p nm _ HPZ.out HNM.out (HW.out.ext HE2.out)).mono ?_; rintro e w1 ⟨rfl, hE1⟩; rw [HQ0.out]; have HE1 := Lib.hid hE1; clear hE1)
            go_ret
            exact ⟨ret_bool HQ.out.symm, ext_trans HE2.out HE1.out⟩
        · obtain rfl : j = m := by omega
          clear hEr
          have HQ := Lib.hid (show (l.take (k + 1)).all (noMR nm) = true by
            rw [allB_take HR.out, HC.out, Bool.true_and]
            have := HC2.out
            rwa [List.take_of_length_le (by rw [HM.out]; exact Nat.le_refl _)] at this)
          go_wp2_with fail
          go_roundw
          case rel => exact ⟨k + 1, by omega, by go_num, HQ.out, HE2.out⟩
          case measure => simp [intOf]; omega
    · obtain rfl : k = n := by omega
      have HQ := Lib.hid (show nearB l nm (-1) = true by
        unfold nearB; rw [if_pos (by decide)]
        have := HC.out
        rwa [List.take_of_length_le (by rw [HN.out]; exact Nat.le_refl _)] at this)
      go_wp2_with fail
      go_ret
      exact ⟨ret_bool HQ.out.symm, hEr⟩
end Go.Proofs.YtmdmbdbbpdojnaaGreatDoor
namespace Go.Proofs.YtmdmbdbbpdojnaaGreatDoor
open Go.RowKit

/-- 'b2 || d', guarded. -/
theorem steps_guard_or {P : Program} {ops : Array Oper} {S : World → Prop} {o : Oper} {os : List Oper} {a : Act} {g : Nat} {pol b b2 d : Bool} {c x : Operand} {F : Act → Prop} (hg : o.guard = some (g, pol)) (ho : o.op = .pick c (.const (.bool true)) x) (hy : yielded ops a.tmps g = some b)
    (hc : a.eval c = gv b pol (.bool b2)) (hx : a.eval x = gv b pol (gv b2 false (.bool d))) (hs : Steps P ops S os (a.put o.dst (gv b pol (.bool (b2 || d)))) F) : Steps P ops S (o :: os) a F :=
  steps_guard hg hy (fun e w hS => by
    unfold Gives execOp
    simp only [ho, hc, hx, gv_of e]
    cases b2 <;> exact ⟨rfl, hS⟩) hs
end Go.Proofs.YtmdmbdbbpdojnaaGreatDoor
