/- Walk: the law PolicyMeans. What is read of an argument: fields, elements, down to the cells; whatever the type. What is read of rules, wishes, tables, texts that are handed in. What is read of a rule that is handed in by value. -/
import Derived.Test.YtmdmbdbbpdojnaaGreatDoorM29
import Derived.Test.YtmdmbdbbpdojnaaGreatDoorM14
import Derived.Test.YtmdmbdbbpdojnaaGreatDoorM20
import Derived.Test.YtmdmbdbbpdojnaaGreatDoorM15
import Derived.Test.YtmdmbdbbpdojnaaGreatDoorM28
import Derived.Test.YtmdmbdbbpdojnaaGreatDoorM19
import Derived.Test.YtmdmbdbbpdojnaaGreatDoorM09
import Derived.Test.YtmdmbdbbpdojnaaGreatDoorM03
import Derived.Deep.Slices
import Derived.ChangeSame
import Derived.WideShapes
namespace Go.Proofs.YtmdmbdbbpdojnaaGreatDoor
open Go.RowKit Nam Pol Go.Maps
attribute [local go_sem] gv_of

theorem few_sizes {l : List Rul} {n : Nat} (h : fewB l = true) (hn : l.length = n) : n ≤ 40 ∧ ∀ r ∈ l, r.pats.length ≤ 1000 := by
  obtain ⟨h1, h2⟩ := fewB_spec h
  exact ⟨by omega, fun r hr => by have := (h2 r hr).1; omega⟩
theorem fewNames_len {l : List ByteArray} (h : fewNames l = true) : l.length ≤ 16 := by
  unfold fewNames at h
  rw [Bool.and_eq_true] at h
  exact of_decide_eq_true h.2
theorem retL_len {α : Type} {k n : Nat} {R : ElR α} {l : List α} {w w' : World} {e : Ending} (h : RetL n R l w e w') (hk : l.length = k) : ∃ a cap, e = .returned (.slice a k cap) ∧ k ≤ cap ∧ cap ≤ maxLen ∧ SlA n R w' a l ∧ Ext w w' := by
  subst hk
  obtain ⟨v, rfl, ⟨a, c, rfl, h2, h3, h4⟩, h5⟩ := h
  exact ⟨a, c, rfl, h2, h3, h4, h5⟩
theorem strs_sl {w : World} {v : Value} {l : List ByteArray} {k : Nat} (h : Sl w v (l.map Value.string)) (hs : ∀ s ∈ l, s.size ≤ maxLen) (hk : l.length = k) : ∃ a cap, v = .slice a k cap ∧ k ≤ cap ∧ cap ≤ maxLen ∧ Strs w a l := by
  subst hk
  rcases h with ⟨h1, h2⟩ | ⟨b, off, cap, h1, h2, h3, h4⟩
  · rw [List.map_eq_nil_iff] at h1
    subst h1
    exact ⟨none, 0, h2, Nat.le_refl _, Nat.zero_le _, SlA.nil _ _ _ _⟩
  · rw [List.length_map] at h1 h2
    refine ⟨_, cap, h1, h2, h3, fun i s hi => ⟨b, off, rfl, ?_, hs s (List.mem_of_getElem? hi)⟩⟩
    have := h4 i (.string s) (by rw [List.getElem?_map, hi]; rfl)
    rwa [Nat.mul_one]
theorem retVE_open {X : Ver × Int} {w w' : World} {e : Ending} (h : RetVE X w e w') :
    ∃ a c k, X.1.by'.length = k ∧ e = .returned (.tuple #[.agg #[.bool X.1.allow, .int .i64 X.1.at', .slice a k c], .int .i64 X.2]) ∧ k ≤ c ∧ c ≤ maxLen ∧ Ints w' a X.1.by' ∧ Ext w w' := by
  obtain ⟨a, c, h1, h2, h3, h4, _, h5⟩ := h
  exact ⟨a, c, _, rfl, h1, h2, h3, h4, h5⟩
theorem verV_eq {x : Ver} {a : Option Addr} {c k : Nat} (hk : x.by'.length = k) : Value.agg #[.bool x.allow, .int .i64 x.at', .slice a k c] = verV x a c := by unfold verV; rw [hk]
theorem strs_size {w : World} {a : Option Addr} {l : List ByteArray} (h : Strs w a l) : ∀ s ∈ l, s.size ≤ maxLen := fun s hs => by
  obtain ⟨i, hi, rfl⟩ := List.getElem_of_mem hs
  obtain ⟨_, _, _, _, h2⟩ := h i _ (List.getElem?_eq_getElem hi)
  exact h2
set_option maxRecDepth 100000 in
set_option maxHeartbeats 8000000 in
theorem PolicyMeans_any (l : List Rul) (v : Wsh) (ns : List ByteArray) (a : Option Addr) (cap n : Nat) (va : Option Addr) (vc : Nat) (na : Option Addr) (nc m : Nat) (w : World)
    (hn : l.length = n) (hnc : n ≤ cap) (hcm : cap ≤ maxLen) (hl : Ruls w a l) (hvc : v.names.length ≤ vc) (hvm : vc ≤ maxLen) (hv : Strs w va v.names) (hm : ns.length = m) (hmc : m ≤ nc) (hmm : nc ≤ maxLen) (hns : Strs w na ns) (hw : Env w) :
    Calls Tryz.prog 3 #[.slice a n cap, wshV v va vc, .slice na m nc] w (Ret (.bool true) w) := by
  have HN := Lib.hid hn; have HNC := Lib.hid hnc; have HCM := Lib.hid hcm; have HL := Lib.hid hl; have HVC := Lib.hid hvc; have HVM := Lib.hid hvm; have HV := Lib.hid hv
  have HM := Lib.hid hm; have HMC := Lib.hid hmc; have HMM := Lib.hid hmm; have HNS := Lib.hid hns; have HW := Lib.hid hw
  clear hn hnc hcm hl hvc hvm hv hm hmc hmm hns hw
  obtain ⟨k, hk⟩ : ∃ k, v.names.length = k := ⟨_, rfl⟩
  have HK := Lib.hid hk
  have HWV : Hid (Value.agg #[.int .i64 v.account, .slice va k vc, .int .u64 v.key, .int .i64 v.life] = wshV v va vc) := Lib.hid (by unfold wshV; rw [hk])
  have HWB : Hid (∀ p c, Value.agg #[.int .i64 0, .slice p m c, .int .u64 0, .int .i64 0] = wshV ⟨0, ns, 0, 0⟩ p c) := Lib.hid (fun p c => by unfold wshV; rw [HM.out])
  unfold wshV
  rw [hk]
  clear hk
  go_enter Tryz.func3, Tryz.ntmps3
  go_upto_region 1 with (fail)
  obtain ⟨W0, hW0⟩ : ∃ W0, w.alloc (Obj.cells #[.int .i64 v.account, .slice va k vc, .int .u64 v.key, .int .i64 v.life] 26) = W0 := ⟨_, rfl⟩
  have hE0 : Ext w W0 := by rw [← hW0]; exact ext_alloc (Below.refl _ _) _
  have c0 : W0.cell? ⟨w.heap.size, 0, none⟩ = some (.int .i64 v.account) := by rw [← hW0]; simp [go_sem]
  have c1 : W0.cell? ⟨w.heap.size, 1, none⟩ = some (.slice va k vc) := by rw [← hW0]; simp [go_sem]
  have c2 : W0.cell? ⟨w.heap.size, 2, none⟩ = some (.int .u64 v.key) := by rw [← hW0]; simp [go_sem]
  have c3 : W0.cell? ⟨w.heap.size, 3, none⟩ = some (.int .i64 v.life) := by rw [← hW0]; simp [go_sem]
  have C0 := Lib.hid c0; have C1 := Lib.hid c1; have C2 := Lib.hid c2; have C3 := Lib.hid c3; have HE0 := Lib.hid hE0
  rw [hW0]
  clear hW0 hE0 c0 c1 c2 c3
  go_wp2_with fail
  refine (live16_any _ (HW.out.ext HE0.out)).mono ?_; rintro e w1 ⟨rfl, hE1⟩
  have HE1 := Lib.hid (ext_trans HE0.out hE1)
  have c0 := ext_cell C0.out hE1; have c1 := ext_cell C1.out hE1; have c2 := ext_cell C2.out hE1; have c3 := ext_cell C3.out hE1
  replace C0 := Lib.hid c0; replace C1 := Lib.hid c1; replace C2 := Lib.hid c2; replace C3 := Lib.hid c3
  clear hE1
  go_upto_region 3 with (fail)
  refine wp_region_P (fun w' => Ext w1 w') (Below.refl _ _) ?_
  repeat
    first
    | (refine steps_and rfl rfl rfl rfl ?_; simp only [Act.put, List.setIfInBounds_toArray, List.set_cons_succ, List.set_cons_zero])
    | (refine steps_or rfl rfl rfl rfl ?_; simp only [Act.put, List.setIfInBounds_toArray, List.set_cons_succ, List.set_cons_zero])
    | (refine steps_skip rfl ?_; simp only [Act.put, List.setIfInBounds_toArray, List.set_cons_succ, List.set_cons_zero])
    | (refine steps_guard_and rfl rfl rfl rfl rfl ?_; simp only [Act.put, List.setIfInBounds_toArray, List.set_cons_succ, List.set_cons_zero])
    | (refine steps_guard (v := ?_) rfl rfl (fun hb w' hS => ?_) ?_; rotate_left; (focus (have k0 := ext_cell c0 hS; have k1 := ext_cell c1 hS; have k2 := ext_cell c2 hS; have k3 := ext_cell c3 hS; unfold Gives; go_simp; first | exact is_mk hS | (rw [HWV.out]; refine (few16_any l v a cap n va vc _ HN.out HNC.out HCM.out (HL.out.ext (ext_trans HE1.out hS)) HVC.out HVM.out (HV.out.ext (ext_trans HE1.out hS))).mono ?_; rintro e w'' ⟨rfl, h2⟩; exact gave_mk (ext_trans hS h2)) | (rw [HWB.out]; refine (FewWish_any ⟨0, ns, 0, 0⟩ na nc _ (by rw [HM.out]; exact HMC.out) HMM.out (HNS.out.ext (ext_trans HE1.out hS))).mono ?_; rintro e w'' ⟨rfl, h2⟩; exact gave_mk (ext_trans hS h2)))); simp only [Act.put, List.setIfInBounds_toArray, List.set_cons_succ, List.set_cons_zero])
    | (refine steps_guard2 (v := ?_) rfl rfl rfl (fun hb1 hb w' hS => ?_) ?_; rotate_left; (focus (have k0 := ext_cell c0 hS; have k1 := ext_cell c1 hS; have k2 := ext_cell c2 hS; have k3 := ext_cell c3 hS; unfold Gives; go_simp; first | exact is_mk hS | (rw [HWV.out]; refine (few16_any l v a cap n va vc _ HN.out HNC.out HCM.out (HL.out.ext (ext_trans HE1.out hS)) HVC.out HVM.out (HV.out.ext (ext_trans HE1.out hS))).mono ?_; rintro e w'' ⟨rfl, h2⟩; exact gave_mk (ext_trans hS h2)) | (rw [HWB.out]; refine (FewWish_any ⟨0, ns, 0, 0⟩ na nc _ (by rw [HM.out]; exact HMC.out) HMM.out (HNS.out.ext (ext_trans HE1.out hS))).mono ?_; rintro e w'' ⟨rfl, h2⟩; exact gave_mk (ext_trans hS h2)))); simp only [Act.put, List.setIfInBounds_toArray, List.set_cons_succ, List.set_cons_zero])
    | (refine steps_run (v := ?_) rfl (fun w' hS => ?_) ?_; rotate_left; (focus (have k0 := ext_cell c0 hS; have k1 := ext_cell c1 hS; have k2 := ext_cell c2 hS; have k3 := ext_cell c3 hS; unfold Gives; go_simp; first | exact is_mk hS | (rw [HWV.out]; refine (few16_any l v a cap n va vc _ HN.out HNC.out HCM.out (HL.out.ext (ext_trans HE1.out hS)) HVC.out HVM.out (HV.out.ext (ext_trans HE1.out hS))).mono ?_; rintro e w'' ⟨rfl, h2⟩; exact gave_mk (ext_trans hS h2)) | (rw [HWB.out]; refine (FewWish_any ⟨0, ns, 0, 0⟩ na nc _ (by rw [HM.out]; exact HMC.out) HMM.out (HNS.out.ext (ext_trans HE1.out hS))).mono ?_; rintro e w'' ⟨rfl, h2⟩; exact gave_mk (ext_trans hS h2)))); simp only [Act.put, List.setIfInBounds_toArray, List.set_cons_succ, List.set_cons_zero])
  refine steps_end fun w2 hE2 => ?_
  replace HE1 := Lib.hid (ext_trans HE1.out hE2)
  replace C0 := Lib.hid (ext_cell C0.out hE2); have c0 := C0.out; replace C1 := Lib.hid (ext_cell C1.out hE2); have c1 := C1.out; replace C2 := Lib.hid (ext_cell C2.out hE2); have c2 := C2.out; replace C3 := Lib.hid (ext_cell C3.out hE2); have c3 := C3.out
  clear hE2
  cases hq : (!fewB l || !fewNames v.names || !fewNames ns)
  rotate_left
  · clear hq
    go_wp2_with fail
    go_ret
    exact ⟨rfl, HE1.out⟩
  · simp only [Bool.or_eq_false_iff, Bool.not_eq_false'] at hq
    have HF := Lib.hid (few_sizes hq.1.1 HN.out); have HFB := Lib.hid (fewNames_len hq.2); have HFN := Lib.hid (fewNames_len hq.1.2)
    clear hq
    obtain ⟨X, hX⟩ : ∃ X, meansOf l v (decP l) = X := ⟨_, rfl⟩
    have HX := Lib.hid hX
    clear hX
    have HPE := Lib.hid pair_eq
    go_wp2_with fail
    rw [HWV.out]
    have hc := pMeans_any l v a cap n va vc _ HN.out HNC.out HCM.out (HL.out.ext HE1.out) (by have := HF.out.1; omega) HF.out.2 HVC.out HVM.out (HV.out.ext HE1.out) (HW.out.ext HE1.out)
    rw [HX.out] at hc
    refine hc.mono ?_
    clear hc
    rintro e w3 hr
    obtain ⟨ra, rc, rk, hrk, rfl, r1, r2, hi, hE3⟩ := retVE_open hr
    replace HE1 := Lib.hid (ext_trans HE1.out hE3)
    replace C0 := Lib.hid (ext_cell C0.out hE3); have c0 := C0.out; replace C1 := Lib.hid (ext_cell C1.out hE3); have c1 := C1.out; replace C2 := Lib.hid (ext_cell C2.out hE3); have c2 := C2.out; replace C3 := Lib.hid (ext_cell C3.out hE3); have c3 := C3.out
    have HRK := Lib.hid hrk; have R1 := Lib.hid r1; have R2 := Lib.hid r2; have HI := Lib.hid hi
    clear hr hE3 hrk r1 r2 hi
    go_upto_region 6 with (fail)
    obtain ⟨W3, hW3⟩ : ∃ W3, w3.alloc (Obj.cells #[.bool X.1.allow, .int .i64 X.1.at', .slice ra rk rc] 32) = W3 := ⟨_, rfl⟩
    have hE : Ext w3 W3 := by rw [← hW3]; exact ext_alloc (Below.refl _ w3) _
    have hV : VerB W3 w3.heap.size X.1.allow X.1.at' (.slice ra rk rc) := by rw [← hW3]; exact VerB.new _ _ _ _
    rw [hW3]
    clear hW3
    replace C0 := Lib.hid (ext_cell C0.out hE); have c0 := C0.out; replace C1 := Lib.hid (ext_cell C1.out hE); have c1 := C1.out; replace C2 := Lib.hid (ext_cell C2.out hE); have c2 := C2.out; replace C3 := Lib.hid (ext_cell C3.out hE); have c3 := C3.out
    go_wp2_with fail
    rw [HWV.out]
    have hc := r16Means_any l v a cap n va vc _ HN.out HNC.out HCM.out (HL.out.ext (ext_trans HE1.out hE)) (by have := HF.out.1; omega) HVC.out HVM.out (HV.out.ext (ext_trans HE1.out hE))
    rw [← means_eq, HX.out] at hc
    refine hc.mono ?_
    clear hc
    rintro e w4 hr
    obtain ⟨sa, sc, sk, hsk, rfl, s1, s2, hi2, hE4⟩ := retVE_open hr
    replace hE := ext_trans hE hE4
    replace HE1 := Lib.hid (ext_trans HE1.out hE); replace HI := Lib.hid (HI.out.ext hE)
    have HV3 := Lib.hid (hV.ext hE4)
    have HSK := Lib.hid hsk; have S1 := Lib.hid s1; have S2 := Lib.hid s2; have HI2 := Lib.hid hi2
    obtain rfl : sk = rk := hsk.symm.trans HRK.out
    clear hr hE4 hsk s1 s2 hi2 hE hV c0 c1 c2 c3 C0 C1 C2 C3
    go_wp2_with fail
    have hE := ext_alloc (Below.refl _ w4) (Obj.cells #[.bool X.1.allow, .int .i64 X.1.at', .slice sa sk sc] 32)
    have hV := VerB.new w4 X.1.allow X.1.at' (.slice sa sk sc)
    refine (pClash_any l a cap n _ HN.out HNC.out HCM.out (HL.out.ext (ext_trans HE1.out hE)) (by have := HF.out.1; omega) HF.out.2).mono ?_
    rintro e w5 hr
    obtain ⟨x, hx⟩ : ∃ x, (clashL l).length = x := ⟨_, rfl⟩
    obtain ⟨ca, cc, rfl, k1, k2, hcl, hE5⟩ := retL_len hr hx
    replace hE := ext_trans hE hE5
    replace HE1 := Lib.hid (ext_trans HE1.out hE); replace HI := Lib.hid (HI.out.ext hE); replace HI2 := Lib.hid (HI2.out.ext hE); replace HV3 := Lib.hid (HV3.out.ext hE)
    have HV4 := Lib.hid (hV.ext hE5)
    have HC := Lib.hid hcl; have HXX := Lib.hid hx
    unfold maxLen at k2
    clear hr hE hE5 hV hcl hx
    go_wp2_with fail
    refine (r16Clash_any l a cap n _ HN.out HNC.out HCM.out (HL.out.ext HE1.out) (by have := HF.out.1; omega)).mono ?_
    rintro e w6 hr
    obtain ⟨da, dc, rfl, k3, k4, hcl, hE⟩ := retL_len hr HXX.out
    replace HE1 := Lib.hid (ext_trans HE1.out hE); replace HI := Lib.hid (HI.out.ext hE); replace HI2 := Lib.hid (HI2.out.ext hE); replace HV3 := Lib.hid (HV3.out.ext hE); replace HV4 := Lib.hid (HV4.out.ext hE); replace HC := Lib.hid (HC.out.ext hE)
    have HD := Lib.hid hcl
    unfold maxLen at k4
    clear hr hE hcl
    have tx : ((x : Int) != x) = false := by simp
    go_wp2_with fail
    have HK1 := Lib.hid k1; have HK3 := Lib.hid k3
    go_loopw [13] (fun i wr => ∃ j : Nat, j ≤ x ∧ i = .int .i64 j ∧ Ext w6 wr) (fun i _ => x - (intOf i).toNat)
    case atStart => exact ⟨0, Nat.zero_le _, rfl, Below.refl _ _⟩
    case round =>
      obtain ⟨j, hj, rfl, hEr⟩ := hrel
      have HER := Lib.hid hEr
      clear hEr
      by_cases hlt : j < x
      · obtain ⟨q, hq⟩ := get_some HXX.out hlt
        obtain ⟨b1, o1, rfl, d0, d1⟩ := (HC.out.ext HER.out) j q hq
        obtain ⟨b2, o2, rfl, e0, e1⟩ := (HD.out.ext HER.out) j q hq
        clear hq
        have g0 := HPE.out q.1 q.2 q.1 q.2
        have hb1 : (((q.1 : Int) == (q.1 : Int)) && ((q.2 : Int) == (q.2 : Int))) = true := by simp
        rw [hb1] at g0
        clear hb1
        go_wp2_with fail
        refine wp_region_S (by kernel_rfl) (by kernel_rfl) (by kernel_rfl) (by kernel_rfl) (by kernel_rfl) (fun w' => Ext wr w') ((Fr.drew (fun _ => False) _).ext (fun _ _ h => h)) ?_
        repeat
          first
          | (refine steps_and rfl rfl rfl rfl ?_; simp only [Act.put, List.setIfInBounds_toArray, List.set_cons_succ, List.set_cons_zero])
          | (refine steps_or rfl rfl rfl rfl ?_; simp only [Act.put, List.setIfInBounds_toArray, List.set_cons_succ, List.set_cons_zero])
          | (refine steps_skip rfl ?_; simp only [Act.put, List.setIfInBounds_toArray, List.set_cons_succ, List.set_cons_zero])
          | (refine steps_guard_and rfl rfl rfl rfl rfl ?_; simp only [Act.put, List.setIfInBounds_toArray, List.set_cons_succ, List.set_cons_zero])
          | (refine steps_guard (v := ?_) rfl rfl (fun hb w' hS => ?_) ?_; rotate_left; (focus (have f0 := ext_cell d0 hS; have f1 := ext_cell d1 hS; have f2 := ext_cell e0 hS; have f3 := ext_cell e1 hS; unfold Gives; go_simp; first | exact is_mk hS)); simp only [Act.put, List.setIfInBounds_toArray, List.set_cons_succ, List.set_cons_zero])
          | (refine steps_guard2 (v := ?_) rfl rfl rfl (fun hb1 hb w' hS => ?_) ?_; rotate_left; (focus (have f0 := ext_cell d0 hS; have f1 := ext_cell d1 hS; have f2 := ext_cell e0 hS; have f3 := ext_cell e1 hS; unfold Gives; go_simp; first | exact is_mk hS)); simp only [Act.put, List.setIfInBounds_toArray, List.set_cons_succ, List.set_cons_zero])
          | (refine steps_run (v := ?_) rfl (fun w' hS => ?_) ?_; rotate_left; (focus (have f0 := ext_cell d0 hS; have f1 := ext_cell d1 hS; have f2 := ext_cell e0 hS; have f3 := ext_cell e1 hS; unfold Gives; go_simp; first | exact is_mk hS)); simp only [Act.put, List.setIfInBounds_toArray, List.set_cons_succ, List.set_cons_zero])
        refine steps_end fun w' hE' => ?_
        go_wp2_with fail
        go_roundw
        case rel => exact ⟨j + 1, by omega, by go_num, ext_trans HER.out hE'⟩
        case measure => simp [intOf]; omega
      · obtain rfl : j = x := by omega
        obtain ⟨v0, v1, v2⟩ := (HV3.out.ext HER.out).cells
        obtain ⟨u0, u1, u2⟩ := (HV4.out.ext HER.out).cells
        have HV1 := Lib.hid (verV_eq (x := X.1) (a := ra) (c := rc) HRK.out)
        have HV2 := Lib.hid (verV_eq (x := X.1) (a := sa) (c := sc) HRK.out)
        go_wp2_with fail
        rw [HV1.out, HV2.out]
        have hc := SameVerdict_any X.1 X.1 ra sa rc sc wr (by rw [HRK.out]; have := R1.out; have := R2.out; omega) (by rw [HRK.out]; have := R1.out; have := R2.out; omega) (HI.out.ext HER.out) (HI2.out.ext HER.out)
        rw [decide_eq_true rfl] at hc
        refine hc.mono ?_
        clear hc
        rintro e w7 ⟨rfl, hE7⟩
        have HE7 := Lib.hid (ext_trans HER.out hE7)
        clear hE7 v0 v1 v2 u0 u1 u2
        have te : (X.2 == X.2) = true := by simp
        go_wp2_with fail
        refine (pBare_any l ns a na cap n nc m _ HN.out HNC.out HCM.out (HL.out.ext (ext_trans HE1.out HE7.out)) HM.out HMC.out HMM.out (HNS.out.ext (ext_trans HE1.out HE7.out)) (by have := HFB.out; rw [HM.out] at this; omega) (HW.out.ext (ext_trans HE1.out HE7.out))).mono ?_
        rintro e w8 hr
        obtain ⟨y, hy⟩ : ∃ y, (ns.filter (bareB l)).length = y := ⟨_, rfl⟩
        obtain ⟨fa, fc, rfl, m1, m2, hF, hE8⟩ := retL_len hr hy
        have HE8 := Lib.hid (ext_trans HE7.out hE8); have HFL := Lib.hid hF; have HY := Lib.hid hy; have M1 := Lib.hid m1; have M2 := Lib.hid m2
        clear hr hy hE8 hF m1 m2
        go_wp2_with fail
        refine (r16Bare_any l ns a na cap n nc m _ HN.out HNC.out HCM.out (HL.out.ext (ext_trans HE1.out HE8.out)) HM.out HMC.out HMM.out (HNS.out.ext (ext_trans HE1.out HE8.out)) (by have := HFB.out; rw [HM.out] at this; omega)).mono ?_
        rintro e w9 ⟨rv, rfl, hsl, hE9⟩
        obtain ⟨ga, gc, rfl, m3, m4, hG⟩ := strs_sl hsl (fun s hs => strs_size HNS.out s (List.mem_filter.1 hs).1) HY.out
        have HE9 := Lib.hid (ext_trans HE8.out hE9); have HG := Lib.hid hG; replace HFL := Lib.hid (HFL.out.ext hE9)
        clear hsl hE9 hG m3 m4
        go_wp2_with fail
        have hc := Texts_any _ _ fa ga fc gc y y w9 HY.out HY.out (by have := M1.out; have := M2.out; omega) (by have := M1.out; have := M2.out; omega) HFL.out HG.out
        rw [decide_eq_true rfl] at hc
        refine hc.mono ?_
        clear hc
        rintro e w10 ⟨rfl, hE10⟩
        go_wp2_with fail
        go_ret
        exact ⟨rfl, ext_trans HE1.out (ext_trans HE9.out hE10)⟩
end Go.Proofs.YtmdmbdbbpdojnaaGreatDoor
namespace Go.Proofs.YtmdmbdbbpdojnaaGreatDoor
open Go.RowKit Go.ChangeShapes Go.WideShapes Go.Deep

/-- A value of type t is read there. -/
def Rds {H : Type} (enc : TypeId × Value → H) (P : Program) (w : World) (t : TypeId) (cs : List Value) : Prop :=
  ∃ fuel x, DataW.trod enc P w 0 (fun _ => true) true fuel t cs = some x
section
variable {H : Type} {enc : TypeId × Value → H} {P : Program} {w : World} {t e : TypeId} {cs : List Value}
theorem Rds.of_trod {v : Value} {d : DataW H} {p : List MemPlace} (h : DataW.Trod enc P w 0 (fun _ => true) true t v d p) : Rds enc P w t v.cells.toList := by
  obtain ⟨f, h⟩ := h; exact ⟨f, _, h⟩
theorem Rds.len {fs : Array Field} (h : Rds enc P w t cs) (ht : P.underlying t = some (.struct fs)) : cs.length = P.cellsOf t := by
  obtain ⟨f, x, h⟩ := h
  obtain ⟨_, _, _, _, hl, _⟩ := DataW.trod_struct ht h
  exact hl
theorem Rds.at {fs : Array Field} (h : Rds enc P w t cs) (ht : P.underlying t = some (.struct fs)) (i : Nat) (T : TypeId) (o m : Nat) (hf : (fs[i]?).map (fun f => (f.type, f.offset)) = some (T, o)) (hc : P.cellsOf T = m) :
    Rds enc P w T ((cs.drop o).take m) := by
  obtain ⟨f, x, h⟩ := h
  obtain ⟨xs, n, _, _, hl, hx, hg⟩ := DataW.trod_struct ht h
  cases hfi : fs[i]? with
  | none => rw [hfi] at hf; cases hf
  | some g =>
    rw [hfi] at hf
    have hh := hg i g hfi
    have h1 := Option.some.inj hf
    simp only [Prod.mk.injEq] at h1
    obtain ⟨h2, h3⟩ := h1
    rw [h2, h3, hc] at hh
    have hi : i < xs.length := by rw [hx]; exact (Array.getElem?_eq_some_iff.1 hfi).1
    rw [List.getElem?_eq_getElem hi] at hh
    exact ⟨n, _, hh⟩
theorem Rds.string (h : Rds enc P w t cs) (ht : P.underlying t = some .string) : ∃ s, cs = [.string s] ∧ s.size ≤ maxLen := by
  obtain ⟨f, x, h⟩ := h
  cases f with
  | zero => simp [DataW.trod] at h
  | succ n =>
    unfold DataW.trod at h
    rw [ht] at h
    split at h <;> simp_all
theorem Rds.int {k : IntKind} (h : Rds enc P w t cs) (ht : P.underlying t = some (.int k)) : ∃ n, cs = [.int k n] ∧ (Lit.int k n).wf = true := by
  obtain ⟨f, x, h⟩ := h
  cases f with
  | zero => simp [DataW.trod] at h
  | succ n =>
    unfold DataW.trod at h
    rw [ht] at h
    split at h <;> simp_all
theorem Rds.bool (h : Rds enc P w t cs) (ht : P.underlying t = some .bool) : ∃ b, cs = [.bool b] := by
  obtain ⟨f, x, h⟩ := h
  cases f with
  | zero => simp [DataW.trod] at h
  | succ n =>
    unfold DataW.trod at h
    rw [ht] at h
    split at h <;> simp_all
theorem list_of {α : Type} {p : Nat → α → Prop} : ∀ (n : Nat), (∀ i, i < n → ∃ x, p i x) → ∃ l : List α, l.length = n ∧ ∀ i x, l[i]? = some x → p i x
  | 0, _ => ⟨[], rfl, fun i x h => by simp at h⟩
  | n + 1, h => by
    obtain ⟨l, hl, hp⟩ := list_of n (fun i hi => h i (by omega))
    obtain ⟨x, hx⟩ := h n (by omega)
    refine ⟨l ++ [x], by simp [hl], fun i y hy => ?_⟩
    rw [List.getElem?_append] at hy
    split at hy
    · exact hp i y hy
    · have : i - l.length = 0 := by
        rcases Nat.eq_zero_or_pos (i - l.length) with h0 | h0
        · exact h0
        · rw [List.getElem?_eq_none (by simp; omega)] at hy; cases hy
      rw [this] at hy
      simp at hy; subst hy
      rwa [show i = n by omega]
/-- A slice, its elements each met by R, and of a kind Q. -/
theorem Rds.list {α : Type} {R : ElR α} {Q : α → Prop} {C : Nat} (h : Rds enc P w t cs) (ht : P.underlying t = some (.slice e)) (hC : P.cellsOf e = C) (hpos : 0 < C)
    (hel : ∀ b o es, es.length = C → (∀ j v, es[j]? = some v → w.cell? ⟨b, o + j, none⟩ = some v) → Rds enc P w e es → ∃ x, R w b o x ∧ Q x) :
    ∃ (a : Option Addr) (l : List α) (cap : Nat), cs = [.slice a l.length cap] ∧ l.length ≤ cap ∧ cap ≤ maxLen ∧ SlA C R w a l ∧ ∀ x ∈ l, Q x := by
  obtain ⟨f, x, h⟩ := h
  rcases open_slice ht h with ⟨rfl, _⟩ | ⟨a, len, cap, m, n, D, Pl, rfl, hb, hl, hm, hmm, _, hx⟩
  · exact ⟨none, [], 0, rfl, Nat.le_refl _, Nat.zero_le _, SlA.nil _ _ _ _, fun x hx => by simp at hx⟩
  · have key : ∀ i, i < len → ∃ x, (∃ b off, some a = some ⟨b, off, none⟩ ∧ R w b (off + i * C) x) ∧ Q x := fun i hi => by
      obtain ⟨es, h1, h2⟩ := hx i (by rw [hmm]; simp; omega)
      obtain ⟨_, hlen, hat⟩ := World.cells?_some h1
      rw [hC] at hlen hat
      have hsp : a.spot = none := by
        obtain ⟨es0, g1, g2⟩ := hx 0 (by rw [hmm]; simp; omega)
        obtain ⟨_, glen, gat⟩ := World.cells?_some g1
        rw [hC] at glen gat
        have g0 := gat 0 hpos
        rw [List.getElem?_eq_getElem (show 0 < es0.length by omega)] at g0
        simpa [Addr.add] using World.cell?_spot g0
      obtain ⟨b, off, spot⟩ := a
      simp only at hsp
      subst hsp
      obtain ⟨x, hR, hQ⟩ := hel b (off + i * C) es hlen (fun j v hj => by
        have := hat j (by have := (List.getElem?_eq_some_iff.1 hj).1; omega)
        rw [add_plain, add_plain, hj] at this
        exact this) ⟨n, _, h2⟩
      exact ⟨x, ⟨b, off, rfl, hR⟩, hQ⟩
    obtain ⟨l, hlen, hp⟩ := list_of len key
    refine ⟨some a, l, cap, by rw [hlen], by omega, hm, fun i x hx => (hp i x hx).1, fun x hx => ?_⟩
    obtain ⟨i, hi, rfl⟩ := List.getElem_of_mem hx
    exact (hp i _ (List.getElem?_eq_getElem hi)).2
/-- A slice of whatever elements. -/
theorem Rds.slice (h : Rds enc P w t cs) (ht : P.underlying t = some (.slice e)) : ∃ a n cap, cs = [.slice a n cap] ∧ n ≤ cap ∧ cap ≤ maxLen := by
  obtain ⟨f, x, h⟩ := h
  rcases open_slice ht h with ⟨rfl, _⟩ | ⟨a, len, cap, m, n, D, Pl, rfl, hb, hl, hm, hmm, _, hx⟩
  · exact ⟨none, 0, 0, rfl, Nat.le_refl _, Nat.zero_le _⟩
  · exact ⟨_, _, _, rfl, hl, hm⟩
end
theorem cut_get {cs : List Value} {o : Nat} {v : Value} (h : (cs.drop o).take 1 = [v]) : cs[o]? = some v := cell_of_cut h
theorem cut_get2 {cs : List Value} {o m o' : Nat} {v : Value} (h : (((cs.drop o).take m).drop o').take 1 = [v]) : cs[o + o']? = some v := by
  have := cell_of_cut h
  rw [List.getElem?_take] at this
  split at this
  · rwa [List.getElem?_drop] at this
  · cases this
end Go.Proofs.YtmdmbdbbpdojnaaGreatDoor
namespace Go.Proofs.YtmdmbdbbpdojnaaGreatDoor
open Go.RowKit Nam Pol Go.Maps Go.WideShapes

section
variable {H : Type} {enc : TypeId × Value → H} {w : World}
theorem wf_u64 {n : Int} (h : (Lit.int .u64 n).wf = true) : 0 ≤ n ∧ n < 18446744073709551616 := by
  have h2 : (decide (IntKind.u64.min ≤ n) && decide (n ≤ IntKind.u64.max)) = true := h
  rw [Bool.and_eq_true, decide_eq_true_eq, decide_eq_true_eq] at h2
  have a : IntKind.u64.min = 0 := by kernel_rfl
  have b : IntKind.u64.max = 18446744073709551615 := by kernel_rfl
  omega
theorem wf_i64 {n : Int} (h : (Lit.int .i64 n).wf = true) : -9223372036854775808 ≤ n ∧ n ≤ 9223372036854775807 := by
  have h2 : (decide (IntKind.i64.min ≤ n) && decide (n ≤ IntKind.i64.max)) = true := h
  rw [Bool.and_eq_true, decide_eq_true_eq, decide_eq_true_eq] at h2
  have a : IntKind.i64.min = -9223372036854775808 := by kernel_rfl
  have b : IntKind.i64.max = 9223372036854775807 := by kernel_rfl
  omega
theorem str_read (b o : Nat) (es : List Value) (hlen : es.length = 1) (hc : ∀ j v, es[j]? = some v → w.cell? ⟨b, o + j, none⟩ = some v) (h : Rds enc Tryz.prog w 9 es) : ∃ s : ByteArray, StrAt w b o s ∧ True := by
  obtain ⟨s, rfl, hs⟩ := h.string Tryz.underlying9
  exact ⟨s, ⟨hc 0 _ rfl, hs⟩, trivial⟩
theorem int_read (b o : Nat) (es : List Value) (hlen : es.length = 1) (hc : ∀ j v, es[j]? = some v → w.cell? ⟨b, o + j, none⟩ = some v) (h : Rds enc Tryz.prog w 3 es) : ∃ s : Int, IntAt w b o s ∧ True := by
  obtain ⟨s, rfl, hs⟩ := h.int Tryz.underlying3
  exact ⟨s, hc 0 _ rfl, trivial⟩
theorem strs_read {cs : List Value} (h : Rds enc Tryz.prog w 23 cs) : ∃ a l cap, cs = [.slice a (l : List ByteArray).length cap] ∧ l.length ≤ cap ∧ cap ≤ maxLen ∧ Strs w a l := by
  obtain ⟨a, l, cap, h1, h2, h3, h4, _⟩ := h.list (R := StrAt) (Q := fun _ => True) (C := 1) Tryz.underlying23 (by kernel_rfl) (by decide) str_read
  exact ⟨a, l, cap, h1, h2, h3, h4⟩
theorem rul_read (b o : Nat) (es : List Value) (hlen : es.length = 7) (hc : ∀ j v, es[j]? = some v → w.cell? ⟨b, o + j, none⟩ = some v) (h : Rds enc Tryz.prog w 54 es) : ∃ r : Rul, RulAt w b o r ∧ True := by
  have ht := Tryz.underlying54
  match es, hlen with
  | [e0, e1, e2, e3, e4, e5, e6], _ =>
    obtain ⟨v0, h0, z0⟩ := (h.at ht 0 9 0 1 rfl (by kernel_rfl)).string Tryz.underlying9
    obtain ⟨v1, h1⟩ := (h.at ht 1 4 1 1 rfl (by kernel_rfl)).bool Tryz.underlying4
    obtain ⟨a, l, cap, h2, z1, z2, z3⟩ := strs_read (h.at ht 2 23 2 1 rfl (by kernel_rfl))
    obtain ⟨v3, h3, z4⟩ := (h.at ht 3 24 3 1 rfl (by kernel_rfl)).int Tryz.underlying24
    obtain ⟨v4, h4, _⟩ := (h.at ht 4 3 4 1 rfl (by kernel_rfl)).int Tryz.underlying3
    obtain ⟨v5, h5, _⟩ := (h.at ht 5 3 5 1 rfl (by kernel_rfl)).int Tryz.underlying3
    obtain ⟨v6, h6, _⟩ := (h.at ht 6 3 6 1 rfl (by kernel_rfl)).int Tryz.underlying3
    exact ⟨⟨v0, v1, l, v3, v4, v5, v6⟩, ⟨hc 0 _ (cut_get h0), hc 1 _ (cut_get h1), ⟨a, cap, hc 2 _ (cut_get h2), z1, z2, z3⟩, hc 3 _ (cut_get h3), hc 4 _ (cut_get h4), hc 5 _ (cut_get h5), hc 6 _ (cut_get h6), z0, (wf_u64 z4).1⟩, trivial⟩
theorem rules_read {cs : List Value} (h : Rds enc Tryz.prog w 22 cs) : ∃ a l cap, cs = [.slice a (l : List Rul).length cap] ∧ l.length ≤ cap ∧ cap ≤ maxLen ∧ Ruls w a l := by
  obtain ⟨a, l, cap, h1, h2, h3, h4, _⟩ := h.list (R := RulAt) (Q := fun _ => True) (C := 7) Tryz.underlying22 (by kernel_rfl) (by decide) rul_read
  exact ⟨a, l, cap, h1, h2, h3, h4⟩
theorem nod_read (b o : Nat) (es : List Value) (hlen : es.length = 4) (hc : ∀ j v, es[j]? = some v → w.cell? ⟨b, o + j, none⟩ = some v) (h : Rds enc Tryz.prog w 62 es) : ∃ r : Nod, NodAt w b o r ∧ True := by
  have ht := Tryz.underlying62
  match es, hlen with
  | [e0, e1, e2, e3], _ =>
    obtain ⟨v0, h0, z0⟩ := (h.at ht 0 9 0 1 rfl (by kernel_rfl)).string Tryz.underlying9
    obtain ⟨v1, h1, _⟩ := (h.at ht 1 3 1 1 rfl (by kernel_rfl)).int Tryz.underlying3
    obtain ⟨v2, h2, _⟩ := (h.at ht 2 3 2 1 rfl (by kernel_rfl)).int Tryz.underlying3
    obtain ⟨a, l, cap, h3, z1, z2, z3, _⟩ := (h.at ht 3 30 3 1 rfl (by kernel_rfl)).list (R := IntAt) (Q := fun _ => True) (C := 1) Tryz.underlying30 (by kernel_rfl) (by decide) int_read
    exact ⟨⟨v0, v1, v2, l⟩, ⟨hc 0 _ (cut_get h0), hc 1 _ (cut_get h1), hc 2 _ (cut_get h2), ⟨a, cap, hc 3 _ (cut_get h3), z1, z2, z3⟩, z0⟩, trivial⟩
theorem nodes_read {cs : List Value} (h : Rds enc Tryz.prog w 43 cs) : ∃ a l cap, cs = [.slice a (l : List Nod).length cap] ∧ l.length ≤ cap ∧ cap ≤ maxLen ∧ Nods w a l := by
  obtain ⟨a, l, cap, h1, h2, h3, h4, _⟩ := h.list (R := NodAt) (Q := fun _ => True) (C := 4) Tryz.underlying43 (by kernel_rfl) (by decide) nod_read
  exact ⟨a, l, cap, h1, h2, h3, h4⟩
/-- A wish that is handed in. -/
structure WishIn (w : World) (v : Wsh) (va : Option Addr) (vc : Nat) : Prop where
  len : v.names.length ≤ vc
  cap : vc ≤ maxLen
  names : Strs w va v.names
  key : 0 ≤ v.key ∧ v.key < 18446744073709551616
  life : -9223372036854775808 ≤ v.life ∧ v.life ≤ 9223372036854775807
theorem WishIn.sizes {v : Wsh} {va : Option Addr} {vc : Nat} (h : WishIn w v va vc) : ∀ s ∈ v.names, s.size ≤ 9223372036854775807 := strs_size h.names
theorem wish_read {cs : Array Value} (h : Rds enc Tryz.prog w 26 cs.toList) : ∃ v va vc, .agg cs = wshV v va vc ∧ WishIn w v va vc := by
  have ht := Tryz.underlying26
  have hl : cs.toList.length = 4 := by have := h.len ht; rwa [show Tryz.prog.cellsOf 26 = 4 by kernel_rfl] at this
  obtain ⟨l, rfl⟩ : ∃ l : List Value, cs = l.toArray := ⟨cs.toList, rfl⟩
  match l, hl with
  | [e0, e1, e2, e3], _ =>
    obtain ⟨v0, h0, _⟩ := (h.at ht 0 3 0 1 rfl (by kernel_rfl)).int Tryz.underlying3
    obtain ⟨a, l, cap, h1, z1, z2, z3⟩ := strs_read (h.at ht 1 23 1 1 rfl (by kernel_rfl))
    obtain ⟨v2, h2, z4⟩ := (h.at ht 2 24 2 1 rfl (by kernel_rfl)).int Tryz.underlying24
    obtain ⟨v3, h3, z5⟩ := (h.at ht 3 3 3 1 rfl (by kernel_rfl)).int Tryz.underlying3
    have g0 := cut_get h0; have g1 := cut_get h1; have g2 := cut_get h2; have g3 := cut_get h3
    simp at g0 g1 g2 g3
    subst g0 g1 g2 g3
    exact ⟨⟨v0, l, v2, v3⟩, a, cap, rfl, z1, z2, z3, wf_u64 z4, wf_i64 z5⟩
theorem table_read {cs : Array Value} (h : Rds enc Tryz.prog w 45 cs.toList) :
    ∃ a l cap b m c, cs = #[.slice a (l : List Rul).length cap, .slice b (m : List Nod).length c] ∧ l.length ≤ cap ∧ cap ≤ maxLen ∧ Ruls w a l ∧ m.length ≤ c ∧ c ≤ maxLen ∧ Nods w b m := by
  have ht := Tryz.underlying45
  have hl : cs.toList.length = 2 := by have := h.len ht; rwa [show Tryz.prog.cellsOf 45 = 2 by kernel_rfl] at this
  obtain ⟨l, rfl⟩ : ∃ l : List Value, cs = l.toArray := ⟨cs.toList, rfl⟩
  match l, hl with
  | [e0, e1], _ =>
    obtain ⟨a, l, cap, h1, z1, z2, z3⟩ := rules_read (h.at ht 0 22 0 1 rfl (by kernel_rfl))
    obtain ⟨b, m, c, h2, y1, y2, y3⟩ := nodes_read (h.at ht 1 43 1 1 rfl (by kernel_rfl))
    have g0 := cut_get h1; have g1 := cut_get h2
    simp at g0 g1
    subst g0 g1
    exact ⟨a, l, cap, b, m, c, rfl, z1, z2, z3, y1, y2, y3⟩
end
end Go.Proofs.YtmdmbdbbpdojnaaGreatDoor
namespace Go.Proofs.YtmdmbdbbpdojnaaGreatDoor
open Go.RowKit Nam Pol Go.Maps Go.WideShapes
variable {H : Type} {enc : TypeId × Value → H} {w : World}
/-- A rule that is handed in. -/
structure RulIn (w : World) (r : Rul) (pa : Option Addr) (pc : Nat) : Prop where
  len : r.pats.length ≤ pc
  cap : pc ≤ maxLen
  pats : Strs w pa r.pats
  name : r.name.size ≤ maxLen
  key : 0 ≤ r.keyMin
theorem rule_val_read {cs : Array Value} (h : Rds enc Tryz.prog w 54 cs.toList) : ∃ r pa pc, .agg cs = rulV r pa pc ∧ RulIn w r pa pc := by
  have ht := Tryz.underlying54
  have hl : cs.toList.length = 7 := by have := h.len ht; rwa [show Tryz.prog.cellsOf 54 = 7 by kernel_rfl] at this
  obtain ⟨l, rfl⟩ : ∃ l : List Value, cs = l.toArray := ⟨cs.toList, rfl⟩
  match l, hl with
  | [e0, e1, e2, e3, e4, e5, e6], _ =>
    obtain ⟨v0, h0, z0⟩ := (h.at ht 0 9 0 1 rfl (by kernel_rfl)).string Tryz.underlying9
    obtain ⟨v1, h1⟩ := (h.at ht 1 4 1 1 rfl (by kernel_rfl)).bool Tryz.underlying4
    obtain ⟨a, l, cap, h2, z1, z2, z3⟩ := strs_read (h.at ht 2 23 2 1 rfl (by kernel_rfl))
    obtain ⟨v3, h3, z4⟩ := (h.at ht 3 24 3 1 rfl (by kernel_rfl)).int Tryz.underlying24
    obtain ⟨v4, h4, _⟩ := (h.at ht 4 3 4 1 rfl (by kernel_rfl)).int Tryz.underlying3
    obtain ⟨v5, h5, _⟩ := (h.at ht 5 3 5 1 rfl (by kernel_rfl)).int Tryz.underlying3
    obtain ⟨v6, h6, _⟩ := (h.at ht 6 3 6 1 rfl (by kernel_rfl)).int Tryz.underlying3
    have g0 := cut_get h0; have g1 := cut_get h1; have g2 := cut_get h2; have g3 := cut_get h3; have g4 := cut_get h4; have g5 := cut_get h5; have g6 := cut_get h6
    simp at g0 g1 g2 g3 g4 g5 g6
    subst g0 g1 g2 g3 g4 g5 g6
    exact ⟨⟨v0, v1, l, v3, v4, v5, v6⟩, a, cap, rfl, z1, z2, z3, z0, (wf_u64 z4).1⟩
end Go.Proofs.YtmdmbdbbpdojnaaGreatDoor
