/- Walks: the law's test of the nearest pattern, of a rule. Walk: the law PolicyNearest. Walk: the law PolicyEach. Rows of the call's own whose elements stand for typed ones: the cells of an element stand for it wherever they are put, in any later world. No program of its own. -/
import Derived.Test.YtmdmbdbbpdojnaaGreatDoorM32
import Derived.Test.YtmdmbdbbpdojnaaGreatDoorM31
import Derived.Test.YtmdmbdbbpdojnaaGreatDoorM14
namespace Go.Proofs.YtmdmbdbbpdojnaaGreatDoor
open Go.RowKit Nam Pol Go.Maps
attribute [local go_sem] gv_of

def okQ (nm p q : ByteArray) : Bool := !rmatchB q.data.toList nm.data.toList || rwithinB p.data.toList q.data.toList
def okR' (nm p : ByteArray) (r : Rul) : Bool := r.pats.all (okQ nm p)
theorem nearP_eq (l : List Rul) (nm p : ByteArray) : nearP l nm p = (rmatchB p.data.toList nm.data.toList && l.all (okR' nm p)) := rfl
theorem and_all_take {α : Type} {f : α → Bool} {l : List α} {k : Nat} (b : Bool) (h : (b && (l.take k).all f) = false) : (b && l.all f) = false := by
  cases b
  · rfl
  · rw [Bool.true_and] at h ⊢
    rw [Bool.eq_false_iff] at h ⊢
    intro ha
    exact h (List.all_eq_true.2 fun x hx => List.all_eq_true.1 ha x (List.mem_of_mem_take hx))
set_option maxRecDepth 100000 in
set_option maxHeartbeats 8000000 in
theorem nearestAt_any (l : List Rul) (nm : ByteArray) (q : Nat) (r0 : Rul) (a : Option Addr) (cap n : Nat) (w : World) (hn : l.length = n) (hnc : n ≤ cap) (hcm : cap ≤ maxLen) (hl : Ruls w a l) (hs : nm.size ≤ 9223372036854775807) (hw : Env w) (hq : l[q]? = some r0) :
    Calls Tryz.prog 37 #[.slice a n cap, .string nm, .int .i64 (q : Int)] w (Ret (.bool (nearB l nm (q : Int))) w) := by
  have hqn : q < n := by rw [← hn]; exact (List.getElem?_eq_some_iff.1 hq).1
  have HNB := Lib.hid (show nearB l nm (q : Int) = r0.pats.any (nearP l nm) by unfold nearB; rw [if_neg (by omega), Int.toNat_natCast, hq])
  obtain ⟨b, off, rfl, d0, d1, ⟨pa, pc, d2, l1, l2, hps⟩, d3⟩ := hl q r0 hq
  obtain ⟨m, hm⟩ : ∃ m, r0.pats.length = m := ⟨_, rfl⟩
  rw [hm] at d2 l1
  have HN := Lib.hid hn; have HL := Lib.hid hl; have HW := Lib.hid hw; have HNM := Lib.hid hs; have HM := Lib.hid hm; have HPS := Lib.hid hps; have D2 := Lib.hid d2
  unfold maxLen at hcm l2
  clear hn hl hw hq d0 d1 d3 hps hm d2
  go_enter Tryz.func37, Tryz.ntmps37
  go_wp2_with fail
  go_loopw [9] (fun i wr => ∃ j : Nat, j ≤ m ∧ i = .int .i64 j ∧ (r0.pats.take j).any (nearP l nm) = false ∧ Ext w wr) (fun i _ => m - (intOf i).toNat)
  case atStart => exact ⟨0, Nat.zero_le _, rfl, rfl, Below.refl _ _⟩
  case round =>
    obtain ⟨j, hj, rfl, hc, hEr⟩ := hrel
    have HC := Lib.hid hc; have HER := Lib.hid hEr; clear hc
    have dr := ext_cell D2.out hEr
    by_cases hlj : j < m
    · obtain ⟨p, hp⟩ := get_some HM.out hlj
      obtain ⟨b', off', rfl, e0, hpz⟩ := (HPS.out.ext hEr) j p hp
      rw [Nat.mul_one] at e0
      have HP := Lib.hid hp; have HPZ := Lib.hid hpz
      clear hp hpz hEr
      obtain ⟨mt, hmt⟩ : ∃ mt, rmatchB p.data.toList nm.data.toList = mt := ⟨_, rfl⟩
      have HMT := Lib.hid hmt; clear hmt
      go_wp2_with (go_at_call 36; refine (Match_r p nm _ HPZ.out HNM.out (HW.out.ext HER.out)).mono ?_; rintro e w1 ⟨rfl, hE1⟩; rw [HMT.out]; have HE1 := Lib.hid hE1; clear hE1)
      clear dr e0
      have HX1 := Lib.hid (ext_trans HER.out HE1.out)
      go_loopw [11, 12] (fun al i wr => ∃ (k : Nat) (v : Bool), k ≤ n ∧ i = .int .i64 k ∧ al = .bool v ∧ v = (mt && (l.take k).all (okR' nm p)) ∧ Ext w wr) (fun _ i _ => n - (intOf i).toNat)
      case atStart => exact ⟨0, mt, Nat.zero_le _, rfl, rfl, by simp, HX1.out⟩
      case round =>
        obtain ⟨k, v, hk, rfl, rfl, hv, hEr⟩ := hrel
        have HV := Lib.hid hv; have HE2 := Lib.hid hEr; clear hv hEr
        cases v with
        | false =>
          have HQ := Lib.hid (show (r0.pats.take (j + 1)).any (nearP l nm) = false by
            rw [anyB_take HP.out, HC.out, Bool.false_or, nearP_eq, HMT.out]
            exact and_all_take mt HV.out.symm)
          by_cases hlk : k < n
          all_goals
            go_wp2_with fail
            go_roundw
            case rel => exact ⟨j + 1, by omega, by go_num, HQ.out, HE2.out⟩
            case measure => simp [intOf]; omega
        | true =>
          by_cases hlk : k < n
          · obtain ⟨r, hr⟩ := get_some HN.out hlk
            obtain ⟨b2, off2, hab, d0, d1, ⟨qa, qc, g2, k1, k2, hqs⟩, d3⟩ := HL.out k r hr
            cases hab
            obtain ⟨m2, hm2⟩ : ∃ m2, r.pats.length = m2 := ⟨_, rfl⟩
            rw [hm2] at g2 k1
            have HM2 := Lib.hid hm2; have HR := Lib.hid hr; have HQS := Lib.hid hqs; have G2 := Lib.hid g2
            unfold maxLen at k2
            clear hm2 hr hqs g2 d0 d1 d3
            have gr := ext_cell G2.out HE2.out
            go_wp2_with fail
            clear gr
            obtain ⟨wo, rfl⟩ : ∃ wo : World, wo = wr := ⟨_, rfl⟩
            go_loopw [11, 13] (fun al i wr => ∃ (x : Nat) (v : Bool), x ≤ m2 ∧ i = .int .i64 x ∧ al = .bool v ∧ v = (r.pats.take x).all (okQ nm p) ∧ Ext w wr) (fun _ i _ => m2 - (intOf i).toNat)
            case atStart => exact ⟨0, true, Nat.zero_le _, rfl, rfl, rfl, HE2.out⟩
            case round =>
              obtain ⟨x, v, hx, rfl, rfl, hv2, hEr⟩ := hrel
              have HV2 := Lib.hid hv2; have HE3 := Lib.hid hEr; clear hv2
              have gr := ext_cell G2.out hEr
              by_cases hlx : x < m2
              · obtain ⟨s, hs⟩ := get_some HM2.out hlx
                obtain ⟨b3, off3, rfl, f0, hsz⟩ := (HQS.out.ext hEr) x s hs
                rw [Nat.mul_one] at f0
                have HS := Lib.hid hs; have HSZ := Lib.hid hsz
                clear hs hsz hEr
                go_upto_region 22 with (fail)
                refine wp_region_P (fun w' => Ext wr w') (Below.refl _ _) ?_
                repeat
                  first
                  | (refine steps_and rfl rfl rfl rfl ?_; simp only [Act.put, List.setIfInBounds_toArray, List.set_cons_succ, List.set_cons_zero])
                  | (refine steps_or rfl rfl rfl rfl ?_; simp only [Act.put, List.setIfInBounds_toArray, List.set_cons_succ, List.set_cons_zero])
                  | (refine steps_skip rfl ?_; simp only [Act.put, List.setIfInBounds_toArray, List.set_cons_succ, List.set_cons_zero])
                  | (refine steps_guard_and rfl rfl rfl rfl rfl ?_; simp only [Act.put, List.setIfInBounds_toArray, List.set_cons_succ, List.set_cons_zero])
                  | (refine steps_guard_or rfl rfl rfl rfl rfl ?_; simp only [Act.put, List.setIfInBounds_toArray, List.set_cons_succ, List.set_cons_zero])
                  | (refine steps_guard (v := ?_) rfl rfl (fun hb w' hS => ?_) ?_; rotate_left; (focus (have k0 := ext_cell gr hS; have k1 := ext_cell f0 hS; unfold Gives; go_simp; first | exact is_mk hS | (refine (Match_r s nm _ HSZ.out HNM.out (HW.out.ext (ext_trans HE3.out hS))).mono ?_; rintro e w'' ⟨rfl, h2⟩; exact gave_mk (ext_trans hS h2)) | (refine (Within_r p s _ HPZ.out HSZ.out (HW.out.ext (ext_trans HE3.out hS))).mono ?_; rintro e w'' ⟨rfl, h2⟩; exact gave_mk (ext_trans hS h2)))); simp only [Act.put, List.setIfInBounds_toArray, List.set_cons_succ, List.set_cons_zero])
                  | (refine steps_guard2 (v := ?_) rfl rfl rfl (fun hb1 hb w' hS => ?_) ?_; rotate_left; (focus (have k0 := ext_cell gr hS; have k1 := ext_cell f0 hS; unfold Gives; go_simp; first | exact is_mk hS | (refine (Match_r s nm _ HSZ.out HNM.out (HW.out.ext (ext_trans HE3.out hS))).mono ?_; rintro e w'' ⟨rfl, h2⟩; exact gave_mk (ext_trans hS h2)) | (refine (Within_r p s _ HPZ.out HSZ.out (HW.out.ext (ext_trans HE3.out hS))).mono ?_; rintro e w'' ⟨rfl, h2⟩; exact gave_mk (ext_trans hS h2)))); simp only [Act.put, List.setIfInBounds_toArray, List.set_cons_succ, List.set_cons_zero])
                  | (refine steps_run (v := ?_) rfl (fun w' hS => ?_) ?_; rotate_left; (focus (have k0 := ext_cell gr hS; have k1 := ext_cell f0 hS; unfold Gives; go_simp; first | exact is_mk hS | (refine (Match_r s nm _ HSZ.out HNM.out (HW.out.ext (ext_trans HE3.out hS))).mono ?_; rintro e w'' ⟨rfl, h2⟩; exact gave_mk (ext_trans hS h2)) | (refine (Within_r p s _ HPZ.out HSZ.out (HW.out.ext (ext_trans HE3.out hS))).mono ?_; rintro e w'' ⟨rfl, h2⟩; exact gave_mk (ext_trans hS h2)))); simp only [Act.put, List.setIfInBounds_toArray, List.set_cons_succ, List.set_cons_zero])
                refine steps_end fun w' hE' => ?_
                have HQ := Lib.hid (show (v && (!rmatchB s.data.toList nm.data.toList || rwithinB p.data.toList s.data.toList)) = (r.pats.take (x + 1)).all (okQ nm p) by rw [allB_take HS.out, ← HV2.out]; rfl)
                go_wp2_with fail
                go_roundw
                case rel => exact ⟨x + 1, _, by omega, by go_num, rfl, HQ.out, ext_trans HE3.out hE'⟩
                case measure => simp [intOf]; omega
              · obtain rfl : x = m2 := by omega
                have HQ := Lib.hid (show v = (mt && (l.take (k + 1)).all (okR' nm p)) by
                  rw [allB_take HR.out, ← Bool.and_assoc, ← HV.out, Bool.true_and, HV2.out, List.take_of_length_le (by rw [HM2.out]; exact Nat.le_refl _)]; rfl)
                clear hEr
                go_wp2_with fail
                go_roundw
                case rel => exact ⟨k + 1, v, by omega, by go_num, rfl, HQ.out, HE3.out⟩
                case measure => simp [intOf]; omega
          · obtain rfl : k = n := by omega
            have HQ := Lib.hid (show nearB l nm (q : Int) = true by
              rw [HNB.out]
              refine anyB_yes HP.out ?_
              rw [nearP_eq, HMT.out]
              have := HV.out
              rw [List.take_of_length_le (by rw [HN.out]; exact Nat.le_refl _)] at this
              exact this.symm)
            go_wp2_with fail
            go_ret
            exact ⟨ret_bool HQ.out.symm, HE2.out⟩
    · obtain rfl : j = m := by omega
      have HQ := Lib.hid (show nearB l nm (q : Int) = false by
        rw [HNB.out]
        have := HC.out
        rwa [List.take_of_length_le (by rw [HM.out]; exact Nat.le_refl _)] at this)
      clear hEr
      go_wp2_with fail
      go_ret
      exact ⟨ret_bool HQ.out.symm, HER.out⟩
end Go.Proofs.YtmdmbdbbpdojnaaGreatDoor
namespace Go.Proofs.YtmdmbdbbpdojnaaGreatDoor
open Go.RowKit Nam Pol Go.Maps
attribute [local go_sem] gv_of

theorem means_cases (l : List Rul) (v : Wsh) (d : ByteArray → Int) : (∃ x, x ≠ 0 ∧ meansOf l v d = (zeroV, x)) ∨ (rightE l = 0 ∧ mayB v = true ∧ meansOf l v d = (verQ l v d v.names, 0)) := by
  by_cases h : (meansOf l v d).2 = 0
  · obtain ⟨h1, h2⟩ := means_ok h
    exact .inr ⟨h1, h2, by rw [means_of h1 h2, verdictOf_eq]; rfl⟩
  · exact .inl ⟨_, h, Prod.ext (means_bad h) rfl⟩
theorem nearest_true (l : List Rul) (nm : ByteArray) (a : Option Addr) (cap n : Nat) (w : World) (hn : l.length = n) (hnc : n ≤ cap) (hcm : cap ≤ maxLen) (hl : Ruls w a l) (hs : nm.size ≤ 9223372036854775807) (hw : Env w) (hb : isB nm.data.toList = true) :
    Calls Tryz.prog 37 #[.slice a n cap, .string nm, .int .i64 (decP l nm)] w (Ret (.bool true) w) := by
  have hnd := near_dec (l := l) hb
  rcases decP_spec (l := l) hb with ⟨h1, _⟩ | ⟨k, r, p, h1, h2, _⟩
  · rw [h1] at hnd ⊢
    have := nearestNo_any l nm a cap n w hn hnc hcm hl hs hw
    rwa [hnd] at this
  · rw [h1] at hnd ⊢
    have := nearestAt_any l nm k r a cap n w hn hnc hcm hl hs hw h2
    rwa [hnd] at this
set_option maxRecDepth 100000 in
set_option maxHeartbeats 8000000 in
theorem PolicyNearest_any (l : List Rul) (v : Wsh) (a : Option Addr) (cap n : Nat) (va : Option Addr) (vc : Nat) (w : World)
    (hn : l.length = n) (hnc : n ≤ cap) (hcm : cap ≤ maxLen) (hl : Ruls w a l) (hvc : v.names.length ≤ vc) (hvm : vc ≤ maxLen) (hv : Strs w va v.names) (hvs : ∀ s ∈ v.names, s.size ≤ 9223372036854775807) (hw : Env w) :
    Calls Tryz.prog 12 #[.slice a n cap, wshV v va vc] w (Ret (.bool true) w) := by
  have HN := Lib.hid hn; have HNC := Lib.hid hnc; have HCM := Lib.hid hcm; have HL := Lib.hid hl; have HVC := Lib.hid hvc; have HVM := Lib.hid hvm; have HV := Lib.hid hv; have HVS := Lib.hid hvs; have HW := Lib.hid hw
  clear hn hnc hcm hl hvc hvm hv hvs hw
  obtain ⟨k, hk⟩ : ∃ k, v.names.length = k := ⟨_, rfl⟩
  have HK := Lib.hid hk
  have HWV : Hid (Value.agg #[.int .i64 v.account, .slice va k vc, .int .u64 v.key, .int .i64 v.life] = wshV v va vc) := Lib.hid (by unfold wshV; rw [hk])
  unfold wshV
  rw [hk]
  clear hk
  go_enter Tryz.func12, Tryz.ntmps12
  go_upto_region 1 with (fail)
  obtain ⟨W0, hW0⟩ : ∃ W0, (w).alloc (Obj.cells #[.int .i64 v.account, .slice va k vc, .int .u64 v.key, .int .i64 v.life] 26) = W0 := ⟨_, rfl⟩
  have hE0 : Ext w W0 := by rw [← hW0]; exact ext_alloc (Below.refl _ _) _
  have c00 : W0.cell? ⟨w.heap.size, 0, none⟩ = some (.int .i64 v.account) := by rw [← hW0]; simp [go_sem]
  have c01 : W0.cell? ⟨w.heap.size, 1, none⟩ = some (.slice va k vc) := by rw [← hW0]; simp [go_sem]
  have c02 : W0.cell? ⟨w.heap.size, 2, none⟩ = some (.int .u64 v.key) := by rw [← hW0]; simp [go_sem]
  have c03 : W0.cell? ⟨w.heap.size, 3, none⟩ = some (.int .i64 v.life) := by rw [← hW0]; simp [go_sem]
  have C00 := Lib.hid c00; have C01 := Lib.hid c01; have C02 := Lib.hid c02; have C03 := Lib.hid c03; have HE0 := Lib.hid hE0
  rw [hW0]
  clear hW0 hE0
  go_wp2_with fail
  refine (live16_any _ (HW.out.ext HE0.out)).mono ?_; rintro e w1 ⟨rfl, hE1⟩
  have HE := Lib.hid (ext_trans HE0.out hE1)
  replace C00 := Lib.hid (ext_cell C00.out hE1); have c00 := C00.out; replace C01 := Lib.hid (ext_cell C01.out hE1); have c01 := C01.out; replace C02 := Lib.hid (ext_cell C02.out hE1); have c02 := C02.out; replace C03 := Lib.hid (ext_cell C03.out hE1); have c03 := C03.out
  clear hE1
  go_wp2_with fail
  rw [HWV.out]
  refine (few16_any l v a cap n va vc _ HN.out HNC.out HCM.out (HL.out.ext HE.out) HVC.out HVM.out (HV.out.ext HE.out)).mono ?_; rintro e w2 ⟨rfl, hE2⟩
  replace HE := Lib.hid (ext_trans HE.out hE2)
  replace C00 := Lib.hid (ext_cell C00.out hE2); have c00 := C00.out; replace C01 := Lib.hid (ext_cell C01.out hE2); have c01 := C01.out; replace C02 := Lib.hid (ext_cell C02.out hE2); have c02 := C02.out; replace C03 := Lib.hid (ext_cell C03.out hE2); have c03 := C03.out
  clear hE2
  cases hq : (fewB l && fewNames v.names)
  · clear hq
    go_wp2_with fail
    go_ret
    exact ⟨rfl, HE.out⟩
  · rw [Bool.and_eq_true] at hq
    have HF := Lib.hid (few_sizes hq.1 HN.out); have HFN := Lib.hid (fewNames_len hq.2)
    clear hq
    rcases means_cases l v (decP l) with ⟨x, h0, hX⟩ | ⟨hr, hmay, hX⟩
    · have HX := Lib.hid hX
      clear hX
      have t0 : (x != 0) = true := by simpa using h0
      clear h0
      go_wp2_with fail
      rw [HWV.out]
      have hc := pMeans_any l v a cap n va vc _ HN.out HNC.out HCM.out (HL.out.ext HE.out) (by have := HF.out.1; omega) HF.out.2 HVC.out HVM.out (HV.out.ext HE.out) (HW.out.ext HE.out)
      rw [HX.out] at hc
      refine hc.mono ?_
      clear hc
      rintro e w3 hr
      obtain ⟨ra, rc, rk, hrk, rfl, r1, r2, hi, hE3⟩ := retVE_open hr
      replace HE := Lib.hid (ext_trans HE.out hE3)
      clear hr hi hE3 r1 r2 hrk
      go_wp2_with fail
      go_ret
      exact ⟨rfl, ext_alloc HE.out _⟩
    · have HX := Lib.hid hX; have HR := Lib.hid hr; have HMAY := Lib.hid hmay
      clear hX hr hmay
      go_wp2_with fail
      rw [HWV.out]
      have hc := pMeans_any l v a cap n va vc _ HN.out HNC.out HCM.out (HL.out.ext HE.out) (by have := HF.out.1; omega) HF.out.2 HVC.out HVM.out (HV.out.ext HE.out) (HW.out.ext HE.out)
      rw [HX.out] at hc
      refine hc.mono ?_
      clear hc
      rintro e w3 hr
      obtain ⟨ra, rc, rk, hrk, rfl, r1, r2, hi, hE3⟩ := retVE_open hr
      have hrk2 : rk = k := by rw [← hrk, ← HK.out]; unfold verQ; simp
      subst hrk2
      clear hrk
      replace C00 := Lib.hid (ext_cell C00.out hE3); have c00 := C00.out; replace C01 := Lib.hid (ext_cell C01.out hE3); have c01 := C01.out; replace C02 := Lib.hid (ext_cell C02.out hE3); have c02 := C02.out; replace C03 := Lib.hid (ext_cell C03.out hE3); have c03 := C03.out
      have HI := Lib.hid hi
      have HE3 := Lib.hid (ext_trans HE.out hE3)
      replace HE := HE3
      clear hi hr hE3 HE3
      go_upto_region 6 with (fail)
      obtain ⟨W3, hW3⟩ : ∃ W3, w3.alloc (Obj.cells #[.bool (verQ l v (decP l) v.names).allow, .int .i64 (verQ l v (decP l) v.names).at', .slice ra rk rc] 32) = W3 := ⟨_, rfl⟩
      have hE : Ext w3 W3 := by rw [← hW3]; exact ext_alloc (Below.refl _ w3) _
      have hM : W3.heap[w3.heap.size]? = some (Obj.cells #[.bool (verQ l v (decP l) v.names).allow, .int .i64 (verQ l v (decP l) v.names).at', .slice ra rk rc] 32 (0, 0)) := by rw [← hW3]; exact World.alloc_heap_new w3 _
      rw [hW3]
      clear hW3
      have HVB := Lib.hid (show VerB W3 w3.heap.size _ _ (.slice ra rk rc) from hM)
      clear hM
      replace HE := Lib.hid (ext_trans HE.out hE); replace HI := Lib.hid (HI.out.ext hE); replace C00 := Lib.hid (ext_cell C00.out hE); have c00 := C00.out; replace C01 := Lib.hid (ext_cell C01.out hE); have c01 := C01.out; replace C02 := Lib.hid (ext_cell C02.out hE); have c02 := C02.out; replace C03 := Lib.hid (ext_cell C03.out hE); have c03 := C03.out
      clear hE
      obtain ⟨d0, d1, d2⟩ := HVB.out.cells
      have tk : ((rk : Int) != rk) = false := by simp
      have hrk3 : rk ≤ 16 := by have := HFN.out; rw [HK.out] at this; exact this
      unfold maxLen at r2
      go_wp2_with fail
      have D2 := Lib.hid d2
      clear d0 d1 d2 c00 c01 c02 c03
      go_loopw [7] (fun i wr => ∃ j : Nat, j ≤ rk ∧ i = .int .i64 j ∧ Ext W3 wr) (fun i _ => rk - (intOf i).toNat)
      case atStart => exact ⟨0, Nat.zero_le _, rfl, Below.refl _ _⟩
      case round =>
        obtain ⟨j, hj, rfl, hEr⟩ := hrel
        have HER := Lib.hid hEr
        clear hEr
        have c01 := ext_cell C01.out HER.out
        have d2 := ext_cell D2.out HER.out
        by_cases hlt : j < rk
        · obtain ⟨s, hs⟩ := get_some HK.out hlt
          have hsb := may_names HMAY.out s (List.mem_of_getElem? hs)
          have hrg := decP_range (l := l) hsb
          have HNT := Lib.hid (fun w' h1 h2 h3 => nearest_true l s a cap n w' HN.out HNC.out HCM.out h1 h2 h3 hsb)
          obtain ⟨b1, o1, rfl, e0, hsz⟩ := (HV.out.ext (ext_trans HE.out HER.out)) j s hs
          obtain ⟨b2, o2, rfl, f0⟩ := (HI.out.ext HER.out) j (decP l s) (by show (v.names.map (decP l))[j]? = _; rw [List.getElem?_map, hs]; rfl)
          unfold IntAt at f0
          rw [Nat.mul_one] at e0 f0
          obtain ⟨d, hd⟩ : ∃ d, decP l s = d := ⟨_, rfl⟩
          have HD := Lib.hid hd
          have HSZ := Lib.hid hsz
          rw [hd] at f0 hrg
          rw [HN.out] at hrg
          have t1 : decide (d < -1) = false := by simp; omega
          have t2 : decide ((n : Int) ≤ d) = false := by simp; omega
          have hvm := HVM.out; have hvc := HVC.out
          rw [HK.out] at hvc
          unfold maxLen at hvm
          have hjv : j < vc := by omega
          clear hs hsb hd hsz hrg
          go_wp2_with fail
          refine wp_region_S (by kernel_rfl) (by kernel_rfl) (by kernel_rfl) (by kernel_rfl) (by kernel_rfl) (fun w' => Ext wr w') ((Fr.drew (fun _ => False) _).ext (fun _ _ h => h)) ?_
          repeat
            first
            | (refine steps_and rfl rfl rfl rfl ?_; simp only [Act.put, List.setIfInBounds_toArray, List.set_cons_succ, List.set_cons_zero])
            | (refine steps_or rfl rfl rfl rfl ?_; simp only [Act.put, List.setIfInBounds_toArray, List.set_cons_succ, List.set_cons_zero])
            | (refine steps_skip rfl ?_; simp only [Act.put, List.setIfInBounds_toArray, List.set_cons_succ, List.set_cons_zero])
            | (refine steps_guard_and rfl rfl rfl rfl rfl ?_; simp only [Act.put, List.setIfInBounds_toArray, List.set_cons_succ, List.set_cons_zero])
            | (refine steps_guard (v := ?_) rfl rfl (fun hb w' hS => ?_) ?_; rotate_left; (focus (have k0 := ext_cell c01 hS; have k1 := ext_cell d2 hS; have k2 := ext_cell e0 hS; have k3 := ext_cell f0 hS; unfold Gives; go_simp; first | exact is_mk hS | (rw [← HD.out]; refine (HNT.out _ (HL.out.ext (ext_trans HE.out (ext_trans HER.out hS))) HSZ.out (HW.out.ext (ext_trans HE.out (ext_trans HER.out hS)))).mono ?_; rintro e w'' ⟨rfl, h2⟩; exact gave_mk (ext_trans hS h2)))); simp only [Act.put, List.setIfInBounds_toArray, List.set_cons_succ, List.set_cons_zero])
            | (refine steps_guard2 (v := ?_) rfl rfl rfl (fun hb1 hb w' hS => ?_) ?_; rotate_left; (focus (have k0 := ext_cell c01 hS; have k1 := ext_cell d2 hS; have k2 := ext_cell e0 hS; have k3 := ext_cell f0 hS; unfold Gives; go_simp; first | exact is_mk hS | (rw [← HD.out]; refine (HNT.out _ (HL.out.ext (ext_trans HE.out (ext_trans HER.out hS))) HSZ.out (HW.out.ext (ext_trans HE.out (ext_trans HER.out hS)))).mono ?_; rintro e w'' ⟨rfl, h2⟩; exact gave_mk (ext_trans hS h2)))); simp only [Act.put, List.setIfInBounds_toArray, List.set_cons_succ, List.set_cons_zero])
            | (refine steps_run (v := ?_) rfl (fun w' hS => ?_) ?_; rotate_left; (focus (have k0 := ext_cell c01 hS; have k1 := ext_cell d2 hS; have k2 := ext_cell e0 hS; have k3 := ext_cell f0 hS; unfold Gives; go_simp; first | exact is_mk hS | (rw [← HD.out]; refine (HNT.out _ (HL.out.ext (ext_trans HE.out (ext_trans HER.out hS))) HSZ.out (HW.out.ext (ext_trans HE.out (ext_trans HER.out hS)))).mono ?_; rintro e w'' ⟨rfl, h2⟩; exact gave_mk (ext_trans hS h2)))); simp only [Act.put, List.setIfInBounds_toArray, List.set_cons_succ, List.set_cons_zero])
          refine steps_end fun w' hE' => ?_
          go_wp2_with fail
          go_roundw
          case rel => exact ⟨j + 1, by omega, by go_num, ext_trans HER.out hE'⟩
          case measure => simp [intOf]; omega
        · obtain rfl : j = rk := by omega
          go_wp2_with fail
          go_ret
          exact ⟨rfl, ext_trans HE.out HER.out⟩
end Go.Proofs.YtmdmbdbbpdojnaaGreatDoor
namespace Go.Proofs.YtmdmbdbbpdojnaaGreatDoor
open Go.RowKit Nam Pol Go.Maps
attribute [local go_sem] gv_of

set_option maxRecDepth 100000 in
set_option maxHeartbeats 8000000 in
theorem PolicyEach_any (l : List Rul) (v : Wsh) (a : Option Addr) (cap n : Nat) (va : Option Addr) (vc : Nat) (w : World)
    (hn : l.length = n) (hnc : n ≤ cap) (hcm : cap ≤ maxLen) (hl : Ruls w a l) (hvc : v.names.length ≤ vc) (hvm : vc ≤ maxLen) (hv : Strs w va v.names) (hvs : ∀ s ∈ v.names, s.size ≤ 9223372036854775807) (hw : Env w) :
    Calls Tryz.prog 6 #[.slice a n cap, wshV v va vc] w (Ret (.bool true) w) := by
  have HN := Lib.hid hn; have HNC := Lib.hid hnc; have HCM := Lib.hid hcm; have HL := Lib.hid hl; have HVC := Lib.hid hvc; have HVM := Lib.hid hvm; have HV := Lib.hid hv; have HVS := Lib.hid hvs; have HW := Lib.hid hw
  clear hn hnc hcm hl hvc hvm hv hvs hw
  obtain ⟨k, hk⟩ : ∃ k, v.names.length = k := ⟨_, rfl⟩
  have HK := Lib.hid hk
  have HWV : Hid (Value.agg #[.int .i64 v.account, .slice va k vc, .int .u64 v.key, .int .i64 v.life] = wshV v va vc) := Lib.hid (by unfold wshV; rw [hk])
  unfold wshV
  rw [hk]
  clear hk
  go_enter Tryz.func6, Tryz.ntmps6
  go_upto_region 1 with (fail)
  obtain ⟨W0, hW0⟩ : ∃ W0, (w).alloc (Obj.cells #[.int .i64 v.account, .slice va k vc, .int .u64 v.key, .int .i64 v.life] 26) = W0 := ⟨_, rfl⟩
  have hE0 : Ext w W0 := by rw [← hW0]; exact ext_alloc (Below.refl _ _) _
  have c00 : W0.cell? ⟨w.heap.size, 0, none⟩ = some (.int .i64 v.account) := by rw [← hW0]; simp [go_sem]
  have c01 : W0.cell? ⟨w.heap.size, 1, none⟩ = some (.slice va k vc) := by rw [← hW0]; simp [go_sem]
  have c02 : W0.cell? ⟨w.heap.size, 2, none⟩ = some (.int .u64 v.key) := by rw [← hW0]; simp [go_sem]
  have c03 : W0.cell? ⟨w.heap.size, 3, none⟩ = some (.int .i64 v.life) := by rw [← hW0]; simp [go_sem]
  have C00 := Lib.hid c00; have C01 := Lib.hid c01; have C02 := Lib.hid c02; have C03 := Lib.hid c03; have HE0 := Lib.hid hE0
  rw [hW0]
  clear hW0 hE0
  go_wp2_with fail
  refine (live16_any _ (HW.out.ext HE0.out)).mono ?_; rintro e w1 ⟨rfl, hE1⟩
  have HE := Lib.hid (ext_trans HE0.out hE1)
  replace C00 := Lib.hid (ext_cell C00.out hE1); have c00 := C00.out; replace C01 := Lib.hid (ext_cell C01.out hE1); have c01 := C01.out; replace C02 := Lib.hid (ext_cell C02.out hE1); have c02 := C02.out; replace C03 := Lib.hid (ext_cell C03.out hE1); have c03 := C03.out
  clear hE1
  go_wp2_with fail
  rw [HWV.out]
  refine (few16_any l v a cap n va vc _ HN.out HNC.out HCM.out (HL.out.ext HE.out) HVC.out HVM.out (HV.out.ext HE.out)).mono ?_; rintro e w2 ⟨rfl, hE2⟩
  replace HE := Lib.hid (ext_trans HE.out hE2)
  replace C00 := Lib.hid (ext_cell C00.out hE2); have c00 := C00.out; replace C01 := Lib.hid (ext_cell C01.out hE2); have c01 := C01.out; replace C02 := Lib.hid (ext_cell C02.out hE2); have c02 := C02.out; replace C03 := Lib.hid (ext_cell C03.out hE2); have c03 := C03.out
  clear hE2
  cases hq : (fewB l && fewNames v.names)
  · clear hq
    go_wp2_with fail
    go_ret
    exact ⟨rfl, HE.out⟩
  · rw [Bool.and_eq_true] at hq
    have HF := Lib.hid (few_sizes hq.1 HN.out); have HFN := Lib.hid (fewNames_len hq.2)
    clear hq
    have HMC := Lib.hid (fun (u : Wsh) (ua : Option Addr) (uc : Nat) (w' : World) (h1 : u.names.length ≤ uc) (h2 : uc ≤ maxLen) (h3 : Strs w' ua u.names) (hE : Ext w w') => pMeans_any l u a cap n ua uc w' HN.out HNC.out HCM.out (HL.out.ext hE) (by have := HF.out.1; omega) HF.out.2 h1 h2 h3 (HW.out.ext hE))
    rcases means_cases l v (decP l) with ⟨x, h0, hX⟩ | ⟨hr, hmay, hX⟩
    · have HX := Lib.hid hX
      clear hX
      have t0 : (x != 0) = true := by simpa using h0
      clear h0
      go_wp2_with fail
      rw [HWV.out]
      have hc := HMC.out v va vc _ HVC.out HVM.out (HV.out.ext HE.out) HE.out
      rw [HX.out] at hc
      refine hc.mono ?_
      clear hc
      rintro e w3 hr
      obtain ⟨ra, rc, rk, hrk, rfl, r1, r2, hi, hE3⟩ := retVE_open hr
      obtain rfl : rk = 0 := hrk.symm
      replace HE := Lib.hid (ext_trans HE.out hE3)
      clear hr hi r1 r2 hrk hE3 c00 c01 c02 c03
      go_upto_region 6 with (fail)
      obtain ⟨W3, hW3⟩ : ∃ W3, w3.alloc (Obj.cells #[.bool zeroV.allow, .int .i64 zeroV.at', .slice ra 0 rc] 32) = W3 := ⟨_, rfl⟩
      have hE : Ext w3 W3 := by rw [← hW3]; exact ext_alloc (Below.refl _ w3) _
      have hM : W3.heap[w3.heap.size]? = some (Obj.cells #[.bool zeroV.allow, .int .i64 zeroV.at', .slice ra 0 rc] 32 (0, 0)) := by rw [← hW3]; exact World.alloc_heap_new w3 _
      rw [hW3]
      clear hW3
      have g0 : W3.cell? ⟨w3.heap.size, 0, none⟩ = some (.bool false) := cell_of_row _ _ 0 _ _ _ hM
      have g2 : W3.cell? ⟨w3.heap.size, 2, none⟩ = some (.slice ra 0 rc) := cell_of_row _ _ 2 _ _ _ hM
      replace HE := Lib.hid (ext_trans HE.out hE)
      clear hM hE
      go_wp2_with fail
      go_ret
      exact ⟨rfl, HE.out⟩
    · have HX := Lib.hid hX; have HR := Lib.hid hr; have HMAY := Lib.hid hmay
      clear hX hr hmay
      go_wp2_with fail
      rw [HWV.out]
      have hc := HMC.out v va vc _ HVC.out HVM.out (HV.out.ext HE.out) HE.out
      rw [HX.out] at hc
      refine hc.mono ?_
      clear hc
      rintro e w3 hr
      obtain ⟨ra, rc, rk, hrk, rfl, r1, r2, hi, hE3⟩ := retVE_open hr
      have hrk2 : rk = k := by rw [← hrk, ← HK.out]; unfold verQ; simp
      subst hrk2
      clear hrk hr
      have HI := Lib.hid hi
      clear hi
      replace HE := Lib.hid (ext_trans HE.out hE3); replace C00 := Lib.hid (ext_cell C00.out hE3); have c00 := C00.out; replace C01 := Lib.hid (ext_cell C01.out hE3); have c01 := C01.out; replace C02 := Lib.hid (ext_cell C02.out hE3); have c02 := C02.out; replace C03 := Lib.hid (ext_cell C03.out hE3); have c03 := C03.out
      clear hE3
      go_upto_region 6 with (fail)
      obtain ⟨W3, hW3⟩ : ∃ W3, w3.alloc (Obj.cells #[.bool (verQ l v (decP l) v.names).allow, .int .i64 (verQ l v (decP l) v.names).at', .slice ra rk rc] 32) = W3 := ⟨_, rfl⟩
      have hE : Ext w3 W3 := by rw [← hW3]; exact ext_alloc (Below.refl _ w3) _
      have hM : W3.heap[w3.heap.size]? = some (Obj.cells #[.bool (verQ l v (decP l) v.names).allow, .int .i64 (verQ l v (decP l) v.names).at', .slice ra rk rc] 32 (0, 0)) := by rw [← hW3]; exact World.alloc_heap_new w3 _
      rw [hW3]
      clear hW3
      have HVB := Lib.hid (show VerB W3 w3.heap.size _ _ (.slice ra rk rc) from hM)
      clear hM
      replace HE := Lib.hid (ext_trans HE.out hE); replace HI := Lib.hid (HI.out.ext hE); replace C00 := Lib.hid (ext_cell C00.out hE); have c00 := C00.out; replace C01 := Lib.hid (ext_cell C01.out hE); have c01 := C01.out; replace C02 := Lib.hid (ext_cell C02.out hE); have c02 := C02.out; replace C03 := Lib.hid (ext_cell C03.out hE); have c03 := C03.out
      clear hE
      obtain ⟨d0, d1, d2⟩ := HVB.out.cells
      have tk : ((rk : Int) != rk) = false := by simp
      have hrk3 : rk ≤ 16 := by have := HFN.out; rw [HK.out] at this; exact this
      unfold maxLen at r2
      go_wp2_with fail
      have D2 := Lib.hid d2
      clear d0 d1 d2 c00 c01 c02 c03
      go_loopw [7, 8] (fun f i wr => ∃ j : Nat, j ≤ rk ∧ i = .int .i64 j ∧ f = .int .i64 (firstNo (fun s => okOf l v (decP l s)) (v.names.take j)) ∧ Ext W3 wr) (fun _ i _ => rk - (intOf i).toNat)
      case atStart => exact ⟨0, Nat.zero_le _, rfl, rfl, Below.refl _ _⟩
      case round =>
        obtain ⟨j, hj, rfl, rfl, hEr⟩ := hrel
        have HER := Lib.hid hEr
        clear hEr
        obtain ⟨fj, hfj⟩ : ∃ fj, firstNo (fun s => okOf l v (decP l s)) (v.names.take j) = fj := ⟨_, rfl⟩
        rw [hfj]
        have HFJ := Lib.hid hfj
        clear hfj
        have c00 := ext_cell C00.out HER.out; have c01 := ext_cell C01.out HER.out; have c02 := ext_cell C02.out HER.out; have c03 := ext_cell C03.out HER.out
        have d2 := ext_cell D2.out HER.out
        by_cases hlt : j < rk
        · obtain ⟨s, hs⟩ := get_some HK.out hlt
          obtain ⟨b1, o1, rfl, e0, hsz⟩ := (HV.out.ext (ext_trans HE.out HER.out)) j s hs
          have HS := Lib.hid hs
          have hvm := HVM.out; have hvc := HVC.out
          rw [HK.out] at hvc
          unfold maxLen at hvm
          have hjv : j < vc := by omega
          have hjn : ¬ j = vc := by omega
          clear hs hsz e0
          go_upto_region 15 with (fail)
          obtain ⟨W4, hW4⟩ : ∃ W4, wr.alloc (Obj.cells #[.int .i64 v.account, .slice (some ⟨b1, o1, none⟩) rk vc, .int .u64 v.key, .int .i64 v.life] 26) = W4 := ⟨_, rfl⟩
          have hE : Ext wr W4 := by rw [← hW4]; exact ext_alloc (Below.refl _ wr) _
          have hM : W4.heap[wr.heap.size]? = some (Obj.cells #[.int .i64 v.account, .slice (some ⟨b1, o1, none⟩) rk vc, .int .u64 v.key, .int .i64 v.life] 26 (0, 0)) := by rw [← hW4]; exact World.alloc_heap_new wr _
          rw [hW4]
          clear hW4
          have c01 := ext_cell c01 hE
          have q1 : W4.cell? ⟨wr.heap.size, 1, none⟩ = some (.slice (some ⟨b1, o1, none⟩) rk vc) := cell_of_row _ _ 1 _ _ _ hM
          have z1 : W4.frozen? ⟨wr.heap.size, 1, none⟩ = false := frozen_of_row _ _ 1 _ _ hM
          have HMM := Lib.hid hM
          have HE4 := Lib.hid (ext_trans HER.out hE)
          clear hM hE
          go_upto_region 16 with (fail)
          obtain ⟨W5, hW5⟩ : ∃ W5, W4.setCell ⟨wr.heap.size, 1, none⟩ (.slice (some ⟨b1, o1 + j, none⟩) 1 (vc - j)) = W5 := ⟨_, rfl⟩
          have hB5 : W5.heap[wr.heap.size]? = some (.cells #[.int .i64 v.account, .slice (some ⟨b1, o1 + j, none⟩) 1 (vc - j), .int .u64 v.key, .int .i64 v.life] 26 (0, 0)) := by rw [← hW5]; exact (heap_setCell_same W4 _ 1 _ _ _ HMM.out).trans (by simp)
          have hE5 : Ext W3 W5 := by rw [← hW5]; exact HE4.out.setCell (p := ⟨wr.heap.size, 1, none⟩) HER.out.size _
          rw [hW5]
          clear hW5 q1 z1 c00 c01 c02 c03 d2
          have HE5 := Lib.hid hE5
          have q0 := (cell_of_row _ _ 0 _ _ _ hB5).trans (show _ = some (Value.int .i64 v.account) from rfl)
          have q1 := (cell_of_row _ _ 1 _ _ _ hB5).trans (show _ = some (Value.slice (some ⟨b1, o1 + j, none⟩) 1 (vc - j)) from rfl)
          have q2 := (cell_of_row _ _ 2 _ _ _ hB5).trans (show _ = some (Value.int .u64 v.key) from rfl)
          have q3 := (cell_of_row _ _ 3 _ _ _ hB5).trans (show _ = some (Value.int .i64 v.life) from rfl)
          clear hB5 hE5
          have hin : s ∈ v.names := List.mem_of_getElem? HS.out
          have HONE := Lib.hid (one_means (d := decP l) HR.out HMAY.out hin)
          have hss : Strs W5 (some ⟨b1, o1 + j, none⟩) [s] := fun i x hx => by
            obtain ⟨rfl, rfl⟩ : i = 0 ∧ x = s := by
              cases i with
              | zero => simp at hx; exact ⟨rfl, hx.symm⟩
              | succ i => simp at hx
            obtain ⟨b2, o2, h1, h2, h3⟩ := (HV.out.ext (ext_trans HE.out HE5.out)) j _ HS.out
            cases h1
            exact ⟨_, _, rfl, by simpa using h2, h3⟩
          have hc := HMC.out { v with names := [s] } (some ⟨b1, o1 + j, none⟩) (vc - j) W5 (by show 1 ≤ vc - j; omega) (by unfold maxLen; omega) hss (ext_trans HE.out HE5.out)
          rw [HONE.out] at hc
          have HC := Lib.hid hc
          have HWO : Hid (Value.agg #[.int .i64 v.account, .slice (some ⟨b1, o1 + j, none⟩) 1 (vc - j), .int .u64 v.key, .int .i64 v.life] = wshV { v with names := [s] } (some ⟨b1, o1 + j, none⟩) (vc - j)) := Lib.hid rfl
          clear hc hss
          go_wp2_with fail
          rw [HWO.out]
          refine HC.out.mono ?_
          rintro e w6 hr
          obtain ⟨ya, yc, yk, hyk, rfl, s1, s2, hi, hE6⟩ := retVE_open hr
          obtain rfl : yk = 1 := hyk.symm
          dsimp only
          have hrg := decP_range (l := l) (may_names HMAY.out s hin)
          obtain ⟨d, hd⟩ : ∃ d, decP l s = d := ⟨_, rfl⟩
          obtain ⟨ok, hok⟩ : ∃ ok, okOf l v d = ok := ⟨_, rfl⟩
          rw [hd] at hi hrg ⊢
          rw [hok]
          have hneg : d < 0 → ok = false := fun h => by rw [← hok]; exact okOf_neg h
          have HD := Lib.hid hd; have HOK := Lib.hid hok
          have HE6 := Lib.hid (ext_trans HE5.out hE6)
          obtain ⟨b2, o2, hya, y0⟩ := hi 0 d rfl
          cases hya
          unfold IntAt at y0
          rw [Nat.zero_mul, Nat.add_zero] at y0
          obtain ⟨b3, o3, hra, x0⟩ := (HI.out.ext HE6.out) j d (by show (v.names.map (decP l))[j]? = _; rw [List.getElem?_map, HS.out]; exact congrArg some hd)
          cases hra
          unfold IntAt at x0
          rw [Nat.mul_one] at x0
          have Y0 := Lib.hid y0; have X0 := Lib.hid x0; have S1 := Lib.hid s1; have S2 := Lib.hid s2
          clear hr hyk hi hd hok hrg hin hE6 q0 q1 q2 q3 HC HONE y0 x0 s1 s2
          go_upto_region 17 with (fail)
          obtain ⟨W6, hW6⟩ : ∃ W6, w6.alloc (Obj.cells #[.bool ok, .int .i64 0, .slice (some ⟨b2, o2, none⟩) 1 yc] 32) = W6 := ⟨_, rfl⟩
          have hE : Ext w6 W6 := by rw [← hW6]; exact ext_alloc (Below.refl _ w6) _
          have hM : W6.heap[w6.heap.size]? = some (Obj.cells #[.bool ok, .int .i64 0, .slice (some ⟨b2, o2, none⟩) 1 yc] 32 (0, 0)) := by rw [← hW6]; exact World.alloc_heap_new w6 _
          rw [hW6]
          clear hW6
          have g0 : W6.cell? ⟨w6.heap.size, 0, none⟩ = some (.bool ok) := cell_of_row _ _ 0 _ _ _ hM
          have g1 : W6.cell? ⟨w6.heap.size, 1, none⟩ = some (.int .i64 0) := cell_of_row _ _ 1 _ _ _ hM
          have g2 : W6.cell? ⟨w6.heap.size, 2, none⟩ = some (.slice (some ⟨b2, o2, none⟩) 1 yc) := cell_of_row _ _ 2 _ _ _ hM
          have y0 := ext_cell Y0.out hE; have x0 := ext_cell X0.out hE
          have HE7 := Lib.hid (ext_trans HE6.out hE)
          have d2 := ext_cell D2.out HE7.out
          clear hM hE
          have tdd : (d != d) = false := by simp
          have hjr : j ≤ rc := by omega
          have hs1 := S1.out
          have hcase : (decide (d < 0) = true ∧ ok = false) ∨ decide (d < 0) = false := by
            by_cases h : d < 0
            · exact .inl ⟨by simpa using h, hneg h⟩
            · exact .inr (by simpa using h)
          have HNX := Lib.hid (show firstNo (fun s => okOf l v (decP l s)) (v.names.take (j + 1)) = if fj < 0 ∧ ok = false then (j : Int) else fj from by
            rw [take_snoc HS.out, firstNo_snoc, HFJ.out, HD.out, HOK.out, List.length_take, HK.out, Nat.min_eq_left (by omega)])
          clear hneg HOK
          rcases hcase with ⟨t2, rfl⟩ | t2
          rotate_left
          cases ok
          all_goals
            refine wp_region_S (by kernel_rfl) (by kernel_rfl) (by kernel_rfl) (by kernel_rfl) (by kernel_rfl) (fun w' => Ext W6 w') ((Fr.drew (fun _ => False) _).ext (fun _ _ h => h)) ?_
            repeat
              first
              | (refine steps_and rfl rfl rfl rfl ?_; simp only [Act.put, List.setIfInBounds_toArray, List.set_cons_succ, List.set_cons_zero])
              | (refine steps_or rfl rfl rfl rfl ?_; simp only [Act.put, List.setIfInBounds_toArray, List.set_cons_succ, List.set_cons_zero])
              | (refine steps_skip rfl ?_; simp only [Act.put, List.setIfInBounds_toArray, List.set_cons_succ, List.set_cons_zero])
              | (refine steps_guard_and rfl rfl rfl rfl rfl ?_; simp only [Act.put, List.setIfInBounds_toArray, List.set_cons_succ, List.set_cons_zero])
              | (refine steps_guard (v := ?_) rfl rfl (fun hb w' hS => ?_) ?_; rotate_left; (focus (have k0 := ext_cell g0 hS; have k1 := ext_cell g1 hS; have k2 := ext_cell g2 hS; have k3 := ext_cell y0 hS; have k4 := ext_cell x0 hS; have k5 := ext_cell d2 hS; unfold Gives; go_simp; first | exact is_mk hS)); simp only [Act.put, List.setIfInBounds_toArray, List.set_cons_succ, List.set_cons_zero])
              | (refine steps_guard2 (v := ?_) rfl rfl rfl (fun hb1 hb w' hS => ?_) ?_; rotate_left; (focus (have k0 := ext_cell g0 hS; have k1 := ext_cell g1 hS; have k2 := ext_cell g2 hS; have k3 := ext_cell y0 hS; have k4 := ext_cell x0 hS; have k5 := ext_cell d2 hS; unfold Gives; go_simp; first | exact is_mk hS)); simp only [Act.put, List.setIfInBounds_toArray, List.set_cons_succ, List.set_cons_zero])
              | (refine steps_run (v := ?_) rfl (fun w' hS => ?_) ?_; rotate_left; (focus (have k0 := ext_cell g0 hS; have k1 := ext_cell g1 hS; have k2 := ext_cell g2 hS; have k3 := ext_cell y0 hS; have k4 := ext_cell x0 hS; have k5 := ext_cell d2 hS; unfold Gives; go_simp; first | exact is_mk hS)); simp only [Act.put, List.setIfInBounds_toArray, List.set_cons_succ, List.set_cons_zero])
            refine steps_end fun w7 hE7 => ?_
            have f0 := ext_cell g0 hE7
            have HE8 := Lib.hid (ext_trans HE7.out hE7)
            clear g0 g1 g2 y0 x0 d2 hE7
            by_cases hf : fj < 0
            · go_wp2_with fail
              go_roundw
              case rel => exact ⟨j + 1, by omega, by go_num, by rw [HNX.out]; simp [hf], HE8.out⟩
              case measure => simp [intOf]; omega
            · go_wp2_with fail
              go_roundw
              case rel => exact ⟨j + 1, by omega, by go_num, by rw [HNX.out]; simp [hf], HE8.out⟩
              case measure => simp [intOf]; omega
        · obtain rfl : j = rk := by omega
          have hfa := firstNo_neg (fun s => okOf l v (decP l s)) v.names
          have hft := HFJ.out
          rw [List.take_of_length_le (by rw [HK.out]; exact Nat.le_refl _)] at hft
          rw [hft] at hfa
          have hat : (verQ l v (decP l) v.names).at' = max fj 0 := by unfold verQ; rw [hft]
          obtain ⟨d0, d1, _⟩ := (HVB.out.ext HER.out).cells
          have hal : (verQ l v (decP l) v.names).allow = decide (fj < 0) := hfa.symm
          rw [hal] at d0
          rw [hat] at d1
          clear hfa hft hat hal c00 c02 c03 d2
          have tq : (decide (fj < 0) == decide (fj < 0)) = true := by simp
          by_cases hf : fj < 0
          · rw [decide_eq_true hf] at d0
            rw [show max fj 0 = 0 by omega] at d1
            go_wp2_with fail
            go_ret
            exact ⟨ret_bool (by simp; omega), ext_trans HE.out HER.out⟩
          · rw [decide_eq_false hf] at d0
            rw [show max fj 0 = fj by omega] at d1
            go_wp2_with fail
            go_ret
            exact ⟨ret_bool (by simp; try omega), ext_trans HE.out HER.out⟩
end Go.Proofs.YtmdmbdbbpdojnaaGreatDoor
namespace Go.Proofs.YtmdmbdbbpdojnaaGreatDoor
open Go.RowKit Nam Pol Go.Maps
/-- The cells cs stand for x, wherever they are put in a world that is later than W. -/
def ElC {α : Type} (m : Nat) (R : ElR α) (W : World) (cs : List Value) (x : α) : Prop :=
  cs.length = m ∧ (∀ c ∈ cs, c.oneCell' = true) ∧ ∀ (w' : World) (b o : Nat), Ext W w' → (∀ (j : Nat) (u : Value), cs[j]? = some u → w'.cell? ⟨b, o + j, none⟩ = some u) → R w' b o x
theorem ElC.ext {α : Type} {m : Nat} {R : ElR α} {W W' : World} {cs : List Value} {x : α} (h : ElC m R W cs x) (hE : Ext W W') : ElC m R W' cs x :=
  ⟨h.1, h.2.1, fun w' b o hE' hc => h.2.2 w' b o (ext_trans hE hE') hc⟩
/-- Slice value v is a row of the call's own (from block base on) that stands for the list l. -/
def OwnL {α : Type} (W : World) (base : Nat) (T : TypeId) (m : Nat) (R : ElR α) (w : World) (v : Value) (l : List α) : Prop :=
  ∃ css : List (List Value), css.length = l.length ∧ (∀ (i : Nat) (cs : List Value) (x : α), css[i]? = some cs → l[i]? = some x → ElC m R W cs x) ∧ w.ownsRow base T m v l.length css.flatten
theorem OwnL.nil {α : Type} {W w : World} {base : Nat} {T : TypeId} {m : Nat} {R : ElR α} : OwnL W base T m R w (.slice none 0 0) ([] : List α) :=
  ⟨[], rfl, fun i cs x h => by simp at h, World.ownsRow_nil _ _ _ _⟩
theorem OwnL.ext {α : Type} {W w w' : World} {base : Nat} {T : TypeId} {m : Nat} {R : ElR α} {v : Value} {l : List α} (h : OwnL W base T m R w v l) (hE : Ext w w') : OwnL W base T m R w' v l := by
  obtain ⟨css, h1, h2, h3⟩ := h
  exact ⟨css, h1, h2, own_ext h3 hE⟩
theorem flatten_snoc {β : Type} (css : List (List β)) (cs : List β) : (css ++ [cs]).flatten = css.flatten ++ cs := by simp
theorem own_snoc {α : Type} {W w1 : World} {base : Nat} {T : TypeId} {m : Nat} {R : ElR α} {v' : Value} {l : List α} {css : List (List Value)} {cs : List Value} {x : α}
    (h1 : css.length = l.length) (h2 : ∀ (i : Nat) (cs : List Value) (x : α), css[i]? = some cs → l[i]? = some x → ElC m R W cs x) (hx : ElC m R W cs x) (hown : w1.ownsRow base T m v' (l.length + 1) (css.flatten ++ cs)) : OwnL W base T m R w1 v' (l ++ [x]) := by
  refine ⟨css ++ [cs], by simp [h1], fun i c y hc hy => ?_, by rw [flatten_snoc, List.length_append]; exact hown⟩
  by_cases hi : i < l.length
  · rw [List.getElem?_append_left (by omega)] at hc
    rw [List.getElem?_append_left hi] at hy
    exact h2 i c y hc hy
  · rw [List.getElem?_append_right (by omega)] at hc
    rw [List.getElem?_append_right (by omega)] at hy
    obtain ⟨hi', rfl⟩ := List.getElem?_eq_some_iff.1 hc
    obtain ⟨_, rfl⟩ := List.getElem?_eq_some_iff.1 hy
    simpa using hx
theorem flatten_get {β : Type} {m : Nat} : ∀ {css : List (List β)} {i j : Nat} {cs : List β}, (∀ c ∈ css, c.length = m) → css[i]? = some cs → j < m → css.flatten[i * m + j]? = cs[j]?
  | [], i, j, cs, _, h, _ => by simp at h
  | c :: css, 0, j, cs, hm, h, hj => by
    simp at h
    subst h
    rw [List.flatten_cons, Nat.zero_mul, Nat.zero_add, List.getElem?_append_left (by rw [hm _ (List.mem_cons_self ..)]; exact hj)]
  | c :: css, i + 1, j, cs, hm, h, hj => by
    have h' : css[i]? = some cs := by simpa using h
    have hc := hm c (List.mem_cons_self ..)
    rw [List.flatten_cons, List.getElem?_append_right (by rw [hc, Nat.succ_mul]; omega), show (i + 1) * m + j - c.length = i * m + j by rw [hc, Nat.succ_mul]; omega]
    exact flatten_get (fun c hc => hm c (List.mem_cons_of_mem _ hc)) h' hj
theorem OwnL.slv {α : Type} {W w : World} {base : Nat} {T : TypeId} {m : Nat} {R : ElR α} {v : Value} {l : List α} (h : OwnL W base T m R w v l) (hE : Ext W w) : SlV m R w v l := by
  obtain ⟨css, h1, h2, hown⟩ := h
  rcases own_form hown with ⟨rfl, h0, _⟩ | ⟨g, cap, hv, hg, _, _, hc, hcm⟩
  · have hl : l = [] := List.eq_nil_of_length_eq_zero h0
    subst hl
    exact ⟨none, 0, rfl, Nat.le_refl _, Nat.zero_le _, SlA.nil _ _ _ _⟩
  · refine ⟨some ⟨g, 0, none⟩, cap, hv, hc, hcm, fun i x hx => ⟨g, 0, rfl, ?_⟩⟩
    obtain ⟨cs, hcs⟩ := get_some h1 (List.getElem?_eq_some_iff.1 hx).1
    have hm : ∀ c ∈ css, c.length = m := fun c hc => by
      obtain ⟨k, hk⟩ := List.getElem?_of_mem hc
      obtain ⟨y, hy⟩ := get_some h1.symm (List.getElem?_eq_some_iff.1 hk).1
      exact (h2 k c y hk hy).1
    refine (h2 i cs x hcs hx).2.2 w _ _ hE fun j u hu => ?_
    have hj : j < m := by rw [← hm cs (List.mem_of_getElem? hcs)]; exact (List.getElem?_eq_some_iff.1 hu).1
    rw [Nat.zero_add]
    exact own_cell hown hg (by rw [flatten_get hm hcs hj]; exact hu)
/-- The same, by any word E on an element's cells (which may tell their form). -/
def OwnP {α : Type} (base : Nat) (T : TypeId) (m : Nat) (E : List Value → α → Prop) (w : World) (v : Value) (l : List α) : Prop :=
  ∃ css : List (List Value), css.length = l.length ∧ (∀ (i : Nat) (cs : List Value) (x : α), css[i]? = some cs → l[i]? = some x → cs.length = m ∧ E cs x) ∧ w.ownsRow base T m v l.length css.flatten
theorem OwnP.ext {α : Type} {w w' : World} {base : Nat} {T : TypeId} {m : Nat} {E : List Value → α → Prop} {v : Value} {l : List α} (h : OwnP base T m E w v l) (hE : Ext w w') : OwnP base T m E w' v l := by
  obtain ⟨css, h1, h2, h3⟩ := h
  exact ⟨css, h1, h2, own_ext h3 hE⟩
theorem OwnP.toL {α : Type} {W w : World} {base : Nat} {T : TypeId} {m : Nat} {R : ElR α} {E : List Value → α → Prop} {v : Value} {l : List α} (h : OwnP base T m E w v l) (hE : ∀ cs x, cs.length = m → E cs x → ElC m R W cs x) : OwnL W base T m R w v l := by
  obtain ⟨css, h1, h2, h3⟩ := h
  exact ⟨css, h1, fun i cs x hc hx => hE cs x (h2 i cs x hc hx).1 (h2 i cs x hc hx).2, h3⟩
theorem flatten_set {β : Type} {m : Nat} {u : β} : ∀ {css : List (List β)} {i j : Nat} {cs : List β}, (∀ c ∈ css, c.length = m) → css[i]? = some cs → j < m → css.flatten.set (i * m + j) u = (css.set i (cs.set j u)).flatten
  | [], i, j, cs, _, h, _ => by simp at h
  | c :: css, 0, j, cs, hm, h, hj => by
    simp at h
    subst h
    rw [List.flatten_cons, Nat.zero_mul, Nat.zero_add, List.set_append_left _ _ (by rw [hm _ (List.mem_cons_self ..)]; exact hj), List.set_cons_zero, List.flatten_cons]
  | c :: css, i + 1, j, cs, hm, h, hj => by
    have h' : css[i]? = some cs := by simpa using h
    have hc := hm c (List.mem_cons_self ..)
    rw [List.flatten_cons, List.set_append_right _ _ (by rw [hc, Nat.succ_mul]; omega), List.set_cons_succ, List.flatten_cons, show (i + 1) * m + j - c.length = i * m + j by rw [hc, Nat.succ_mul]; omega]
    rw [flatten_set (fun c hc => hm c (List.mem_cons_of_mem _ hc)) h' hj]
theorem OwnP.set {α : Type} {w : World} {base : Nat} {T : TypeId} {m g cap k : Nat} {E : List Value → α → Prop} {v : Value} {l : List α} {x : α} (h : OwnP base T m E w v l) (hv : v = .slice (some ⟨g, 0, none⟩) l.length cap) (hx : l[k]? = some x)
    (j : Nat) (u : Value) (y : α) (hj : j < m) (hy : ∀ cs, E cs x → E (cs.set j u) y) : OwnP base T m E (w.setCell ⟨g, k * m + j, none⟩ u) v (l.set k y) := by
  obtain ⟨css, h1, h2, hown⟩ := h
  obtain ⟨cs, hcs⟩ := get_some h1 (List.getElem?_eq_some_iff.1 hx).1
  have hm : ∀ c ∈ css, c.length = m := fun c hc => by
    obtain ⟨i, hi⟩ := List.getElem?_of_mem hc
    obtain ⟨z, hz⟩ := get_some h1.symm (List.getElem?_eq_some_iff.1 hi).1
    exact (h2 i c z hi hz).1
  subst hv
  have hst := (hown.stored (k * m + j) u).1
  refine ⟨css.set k (cs.set j u), by simp [h1], fun i c z hc hz => ?_, by rw [List.length_set, ← flatten_set hm hcs hj]; exact hst⟩
  by_cases hi : i = k
  · subst hi
    rw [List.getElem?_set_self (List.getElem?_eq_some_iff.1 hcs).1] at hc
    rw [List.getElem?_set_self (List.getElem?_eq_some_iff.1 hx).1] at hz
    cases hc; cases hz
    exact ⟨by rw [List.length_set]; exact (h2 _ _ _ hcs hx).1, hy cs (h2 _ _ _ hcs hx).2⟩
  · rw [List.getElem?_set_ne (fun e => hi e.symm)] at hc hz
    exact h2 i c z hc hz
theorem OwnP.cell {α : Type} {w : World} {base : Nat} {T : TypeId} {m g cap k : Nat} {E : List Value → α → Prop} {v : Value} {l : List α} {x : α} (h : OwnP base T m E w v l) (hv : v = .slice (some ⟨g, 0, none⟩) l.length cap) (hx : l[k]? = some x) :
    ∃ cs, cs.length = m ∧ E cs x ∧ ∀ (j : Nat) (u : Value), j < m → cs[j]? = some u → w.cell? ⟨g, k * m + j, none⟩ = some u := by
  obtain ⟨css, h1, h2, hown⟩ := h
  obtain ⟨cs, hcs⟩ := get_some h1 (List.getElem?_eq_some_iff.1 hx).1
  have hm : ∀ c ∈ css, c.length = m := fun c hc => by
    obtain ⟨i, hi⟩ := List.getElem?_of_mem hc
    obtain ⟨z, hz⟩ := get_some h1.symm (List.getElem?_eq_some_iff.1 hi).1
    exact (h2 i c z hi hz).1
  exact ⟨cs, (h2 _ _ _ hcs hx).1, (h2 _ _ _ hcs hx).2, fun j u hj hu => own_cell hown (by rw [hv]; rfl) (by rw [flatten_get hm hcs hj]; exact hu)⟩
/-- The elements of a typed slice, as cells. -/
theorem sl_css {α : Type} {m : Nat} {R : ElR α} {W : World} (hcs : ∀ b o x, R W b o x → ∃ cs, ElC m R W cs x ∧ ∀ (j : Nat) (u : Value), cs[j]? = some u → W.cell? ⟨b, o + j, none⟩ = some u) {a : Option Addr} : ∀ {l : List α}, SlA m R W a l →
    ∃ css : List (List Value), css.length = l.length ∧ (∀ (i : Nat) (cs : List Value) (x : α), css[i]? = some cs → l[i]? = some x → ElC m R W cs x) ∧ css.flatten.length = l.length * m ∧ (∀ u ∈ css.flatten, u.oneCell' = true) ∧
      ∀ p, a = some p → ∀ (j : Nat) (u : Value), css.flatten[j]? = some u → W.cell? (p.add j) = some u := by
  intro l hl
  have key : ∀ k, k ≤ l.length → ∃ css : List (List Value), css.length = k ∧ ∀ (i : Nat) (cs : List Value) (x : α), css[i]? = some cs → l[i]? = some x → ElC m R W cs x ∧ ∀ b o, a = some ⟨b, o, none⟩ → ∀ (j : Nat) (u : Value), cs[j]? = some u → W.cell? ⟨b, o + i * m + j, none⟩ = some u := fun k => by
    induction k with
    | zero => exact fun _ => ⟨[], rfl, fun i cs x h => by simp at h⟩
    | succ k ih =>
      intro hk
      obtain ⟨css, h1, h2⟩ := ih (by omega)
      obtain ⟨x, hx⟩ := get_some (l := l) rfl (show k < l.length by omega)
      obtain ⟨b, off, ha, hR⟩ := hl k x hx
      obtain ⟨cs, hc1, hc2⟩ := hcs _ _ x hR
      refine ⟨css ++ [cs], by simp [h1], fun i c y hc hy => ?_⟩
      by_cases hi : i < k
      · rw [List.getElem?_append_left (by omega)] at hc
        exact h2 i c y hc hy
      · rw [List.getElem?_append_right (by omega)] at hc
        have hi2 := (List.getElem?_eq_some_iff.1 hc).1
        simp only [List.length_cons, List.length_nil] at hi2
        obtain rfl : i = k := by omega
        rw [h1, Nat.sub_self] at hc
        rw [hx] at hy
        obtain rfl : cs = c := by simpa using hc
        cases hy
        refine ⟨hc1, fun b' o' hb j u hu => ?_⟩
        rw [ha] at hb
        cases hb
        exact hc2 j u hu
  obtain ⟨css, h1, h2⟩ := key l.length (Nat.le_refl _)
  have hm : ∀ c ∈ css, c.length = m := fun c hc => by
    obtain ⟨k, hk⟩ := List.getElem?_of_mem hc
    obtain ⟨y, hy⟩ := get_some h1.symm (List.getElem?_eq_some_iff.1 hk).1
    exact (h2 k c y hk hy).1.1
  have hlen : ∀ (cs : List (List Value)), (∀ c ∈ cs, c.length = m) → cs.flatten.length = cs.length * m := fun cs => by
    induction cs with
    | nil => intro _; simp
    | cons c cs ih => intro h; rw [List.flatten_cons, List.length_append, ih (fun c hc => h c (List.mem_cons_of_mem _ hc)), h c (List.mem_cons_self ..), List.length_cons, Nat.succ_mul]; omega
  refine ⟨css, h1, fun i cs x hc hx => (h2 i cs x hc hx).1, by rw [hlen css hm, h1], fun u hu => ?_, fun p hp j u hu => ?_⟩
  · obtain ⟨c, hc, hu⟩ := List.mem_flatten.1 hu
    obtain ⟨k, hk⟩ := List.getElem?_of_mem hc
    obtain ⟨y, hy⟩ := get_some h1.symm (List.getElem?_eq_some_iff.1 hk).1
    exact (h2 k c y hk hy).1.2.1 u hu
  · have hj : j < l.length * m := by rw [← h1, ← hlen css hm]; exact (List.getElem?_eq_some_iff.1 hu).1
    have hm0 : 0 < m := by cases m with | zero => omega | succ _ => omega
    obtain ⟨q, i, rfl, hi⟩ : ∃ q i, j = q * m + i ∧ i < m := ⟨j / m, j % m, by rw [Nat.mul_comm]; exact (Nat.div_add_mod j m).symm, Nat.mod_lt _ hm0⟩
    have hq : q < l.length := Nat.lt_of_mul_lt_mul_right (Nat.lt_of_le_of_lt (Nat.le_add_right _ i) hj)
    obtain ⟨x, hx⟩ := get_some (l := l) rfl hq
    obtain ⟨cs, hcs'⟩ := get_some h1 hq
    obtain ⟨b, off, ha, _⟩ := hl q x hx
    rw [flatten_get hm hcs' hi] at hu
    have := (h2 q cs x hcs' hx).2 b off ha i u hu
    rw [hp] at ha
    cases ha
    rw [show ((⟨b, off, none⟩ : Addr).add (q * m + i)) = ⟨b, off + (q * m + i), none⟩ from by simp [Addr.add], ← Nat.add_assoc]
    exact this
theorem run_append_own_none {P : Program} {w : World} (base : Nat) (t ty e : TypeId) (i : TypeInfo) (size : Nat) (ht : P.underlying t = some (.slice e)) (hi : P.info? e = some i)
    (v : Value) (n c : Nat) (xs : List Value) (hown : w.ownsRow base e size v n xs) :
    (Builtin.append_ #[t, t] ty #[v, .slice none 0 c]).run P w = .ok v w := by
  rcases hown.2 with ⟨rfl, rfl⟩ | ⟨g, cap, cur, rfl, _, _, hnc, _⟩
  · simp [Builtin.append_, run_underlying ht, sizeOf, typeInfo, hi, Builtin.lenOf, Builtin.firstCells]
  · simp [Builtin.append_, run_underlying ht, sizeOf, typeInfo, hi, Builtin.lenOf, Builtin.firstCells, hnc, storeCells]
/-- append of a slice, nil or not, to a row of the call's own. -/
theorem wpList_append_own_any {P : Program} {w : World} {ops : Array Oper} {rest : List Oper} {o : Oper} {a : Act} {Q : Exit → Act → World → Prop} (hgd : o.guard = none) (s x : Operand) (t : TypeId)
    (ho : o.op = .call { callee := .builtin .append, args := #[s, x], argTypes := #[t, t] })
    (base : Nat) (e : TypeId) (i : TypeInfo) (z : Value) (size bytes : Nat) (ht : P.underlying t = some (.slice e)) (hi : P.info? e = some i) (hz : i.zero = some z)
    (hsize : i.size = size) (hby : i.bytes = bytes) (hzs : z.cells.size = size) (hsz : 0 < size)
    (v : Value) (n : Nat) (xs : List Value) (hs : a.eval s = v) (hown : w.ownsRow base e size v n xs)
    (oa : Option Addr) (m c : Nat) (news : List Value) (hx : a.eval x = .slice oa m c) (hl : news.length = m * size) (hnews : ∀ ad, oa = some ad → ∀ (j : Nat) (u : Value), news[j]? = some u → w.cell? (ad.add j) = some u) (h0 : oa = none → m = 0) (h1 : ∀ u ∈ news, u.oneCell' = true)
    (h63 : n + m ≤ maxLen) (hbytes : (n + m) * bytes ≤ 140737488355328) (hbase : base ≤ w.heap.size)
    (h : ∀ v' w', w'.ownsRow base e size v' (n + m) (xs ++ news) → w.grownBy w' v.ownBlock → wpList P ops Q rest (a.put o.dst v') w') : wpList P ops Q (o :: rest) a w := by
  cases oa with
  | some ad => exact wpList_append_own w hgd s x t ho base e i z size bytes ht hi hz hsize hby hzs hsz v n xs hs hown ad m c news hx hl (hnews ad rfl) h1 h63 hbytes hbase fun v' w' a b _ => h v' w' a b
  | none =>
    obtain rfl := h0 rfl
    obtain rfl : news = [] := List.eq_nil_of_length_eq_zero (by rw [hl, Nat.zero_mul])
    refine wpList_plain hgd fun K hK => ?_
    have hrun := run_append_own_none (P := P) (w := w) base t o.type e i size ht hi v n c xs hown
    unfold Oper.wp
    simp [execOp, ho, resolve, invoke, builtin, hs, hx, hrun, Result.andThen]
    exact hK _ _ (h _ _ (by simpa using hown) ⟨rfl, rfl, rfl, Nat.le_refl _, fun _ _ _ => rfl⟩)
/-- The cells of a rule. -/
theorem rul_cs (W : World) (b o : Nat) (r : Rul) (h : RulAt W b o r) : ∃ cs, ElC 7 RulAt W cs r ∧ ∀ (j : Nat) (u : Value), cs[j]? = some u → W.cell? ⟨b, o + j, none⟩ = some u := by
  obtain ⟨q0, q1, ⟨a, c, q2, l1, l2, hs⟩, q3, q4, q5, q6, q7, q8⟩ := h
  refine ⟨[.string r.name, .bool r.allow, .slice a r.pats.length c, .int .u64 r.keyMin, .int .i64 r.lifeMax, .int .i64 r.most, .int .i64 r.window],
    ⟨rfl, by simp [Value.oneCell'], fun w' b' o' hE hc => ⟨hc 0 _ rfl, hc 1 _ rfl, ⟨a, c, hc 2 _ rfl, l1, l2, hs.ext hE⟩, hc 3 _ rfl, hc 4 _ rfl, hc 5 _ rfl, hc 6 _ rfl, q7, q8⟩⟩, fun j u hj => ?_⟩
  match j, hj with
  | 0, h => simp at h; subst h; exact q0
  | 1, h => simp at h; subst h; exact q1
  | 2, h => simp at h; subst h; exact q2
  | 3, h => simp at h; subst h; exact q3
  | 4, h => simp at h; subst h; exact q4
  | 5, h => simp at h; subst h; exact q5
  | 6, h => simp at h; subst h; exact q6
  | j + 7, h => simp at h
/-- The cells of a rule, written out. -/
theorem rul_elc {W : World} {b o : Nat} {r : Rul} (h : RulAt W b o r) : ∃ a c, W.cell? ⟨b, o + 2, none⟩ = some (.slice a r.pats.length c) ∧
    ElC 7 RulAt W [.string r.name, .bool r.allow, .slice a r.pats.length c, .int .u64 r.keyMin, .int .i64 r.lifeMax, .int .i64 r.most, .int .i64 r.window] r := by
  obtain ⟨_, _, ⟨a, c, q2, l1, l2, hs⟩, _, _, _, _, q7, q8⟩ := h
  refine ⟨a, c, q2, rfl, by simp [Value.oneCell'], fun w' b' o' hE hc => ⟨hc 0 _ rfl, hc 1 _ rfl, ⟨a, c, hc 2 _ rfl, l1, l2, hs.ext hE⟩, hc 3 _ rfl, hc 4 _ rfl, hc 5 _ rfl, hc 6 _ rfl, q7, q8⟩⟩
end Go.Proofs.YtmdmbdbbpdojnaaGreatDoor
