/- Walk: the law PolicySame. Walk: the chapter's example (live), by a program of mine (gen_live11.py). The law NamesChecks: its walk. The laws NamesCompares, NamesWithin: their walks. -/
import Derived.Test.YtmdmbdbbpdojnaaGreatDoorM30
import Derived.Test.YtmdmbdbbpdojnaaGreatDoorM27
import Derived.Test.YtmdmbdbbpdojnaaGreatDoorM17
import Derived.Test.YtmdmbdbbpdojnaaGreatDoorM09
import Derived.Test.YtmdmbdbbpdojnaaGreatDoorM11
namespace Go.Proofs.YtmdmbdbbpdojnaaGreatDoor
open Go.RowKit Nam Pol Go.Maps
attribute [local go_sem] gv_of

theorem Compile_bad {l : List Rul} {a : Option Addr} {cap n : Nat} {w : World} {x : Int} (hx : rightE l = x) (h0 : x ≠ 0) (hn : l.length = n) (hnc : n ≤ cap) (hcm : cap ≤ maxLen) (hl : Ruls w a l) (hfew : n ≤ 40) (hpf : ∀ r ∈ l, r.pats.length ≤ 1000) (hw : Env w) :
    Calls Tryz.prog 25 #[.slice a n cap] w (RetTab [] [] x w) := by
  have := Compile_any l a cap n w hn hnc hcm hl (by omega) hpf hw
  unfold compR compN at this
  rwa [if_neg (by rw [hx]; exact h0), if_neg (by rw [hx]; exact h0), hx] at this
theorem Compile_ok {l : List Rul} {a : Option Addr} {cap n : Nat} {w : World} (hx : rightE l = 0) (hn : l.length = n) (hnc : n ≤ cap) (hcm : cap ≤ maxLen) (hl : Ruls w a l) (hfew : n ≤ 40) (hpf : ∀ r ∈ l, r.pats.length ≤ 1000) (hw : Env w) :
    Calls Tryz.prog 25 #[.slice a n cap] w (RetTab l (treeOf l) 0 w) := by
  have := Compile_any l a cap n w hn hnc hcm hl (by omega) hpf hw
  unfold compR compN at this
  rwa [if_pos hx, if_pos hx, hx] at this
theorem means_err {l : List Rul} {v : Wsh} {d : ByteArray → Int} {x : Int} (hx : rightE l = x) (h0 : x ≠ 0) : meansOf l v d = (zeroV, x) := by
  unfold meansOf; rw [if_neg (by rw [hx]; exact h0), hx]
set_option maxRecDepth 100000 in
set_option maxHeartbeats 8000000 in
theorem PolicySame_any (l : List Rul) (v : Wsh) (a : Option Addr) (cap n : Nat) (va : Option Addr) (vc : Nat) (w : World)
    (hn : l.length = n) (hnc : n ≤ cap) (hcm : cap ≤ maxLen) (hl : Ruls w a l) (hvc : v.names.length ≤ vc) (hvm : vc ≤ maxLen) (hv : Strs w va v.names) (hvs : ∀ s ∈ v.names, s.size ≤ 9223372036854775807) (hw : Env w) :
    Calls Tryz.prog 5 #[.slice a n cap, wshV v va vc] w (Ret (.bool true) w) := by
  have HN := Lib.hid hn; have HNC := Lib.hid hnc; have HCM := Lib.hid hcm; have HL := Lib.hid hl; have HVC := Lib.hid hvc; have HVM := Lib.hid hvm; have HV := Lib.hid hv; have HVS := Lib.hid hvs; have HW := Lib.hid hw
  clear hn hnc hcm hl hvc hvm hv hvs hw
  obtain ⟨k, hk⟩ : ∃ k, v.names.length = k := ⟨_, rfl⟩
  have HK := Lib.hid hk
  have HWV : Hid (Value.agg #[.int .i64 v.account, .slice va k vc, .int .u64 v.key, .int .i64 v.life] = wshV v va vc) := Lib.hid (by unfold wshV; rw [hk])
  unfold wshV
  rw [hk]
  clear hk
  go_enter Tryz.func5, Tryz.ntmps5
  go_upto_region 1 with (fail)
  obtain ⟨W0, hW0⟩ : ∃ W0, (w).alloc (Obj.cells #[.int .i64 v.account, .slice va k vc, .int .u64 v.key, .int .i64 v.life] 26) = W0 := ⟨_, rfl⟩
  have hE0 : Ext w W0 := by rw [← hW0]; exact ext_alloc (Below.refl _ _) _
  have c00 : W0.cell? ⟨w.heap.size, 0, none⟩ = some (.int .i64 v.account) := by rw [← hW0]; simp [go_sem]
  have c01 : W0.cell? ⟨w.heap.size, 1, none⟩ = some (.slice va k vc) := by rw [← hW0]; simp [go_sem]
  have c02 : W0.cell? ⟨w.heap.size, 2, none⟩ = some (.int .u64 v.key) := by rw [← hW0]; simp [go_sem]
  have c03 : W0.cell? ⟨w.heap.size, 3, none⟩ = some (.int .i64 v.life) := by rw [← hW0]; simp [go_sem]
  have C00 := Lib.hid c00; have C01 := Lib.hid c01; have C02 := Lib.hid c02; have C03 := Lib.hid c03; have HE0 := Lib.hid hE0
  rw [hW0]
  clear hW0 hE0
  go_wp2_with fail
  refine (live16_any _ (HW.out.ext HE0.out)).mono ?_; rintro e w1 ⟨rfl, hE1⟩
  have HE := Lib.hid (ext_trans HE0.out hE1)
  replace C00 := Lib.hid (ext_cell C00.out hE1); have c00 := C00.out; replace C01 := Lib.hid (ext_cell C01.out hE1); have c01 := C01.out; replace C02 := Lib.hid (ext_cell C02.out hE1); have c02 := C02.out; replace C03 := Lib.hid (ext_cell C03.out hE1); have c03 := C03.out
  clear hE1
  go_wp2_with fail
  rw [HWV.out]
  refine (few16_any l v a cap n va vc _ HN.out HNC.out HCM.out (HL.out.ext HE.out) HVC.out HVM.out (HV.out.ext HE.out)).mono ?_; rintro e w2 ⟨rfl, hE2⟩
  replace HE := Lib.hid (ext_trans HE.out hE2)
  replace C00 := Lib.hid (ext_cell C00.out hE2); have c00 := C00.out; replace C01 := Lib.hid (ext_cell C01.out hE2); have c01 := C01.out; replace C02 := Lib.hid (ext_cell C02.out hE2); have c02 := C02.out; replace C03 := Lib.hid (ext_cell C03.out hE2); have c03 := C03.out
  clear hE2
  cases hq : (fewB l && fewNames v.names)
  · clear hq
    go_wp2_with fail
    go_ret
    exact ⟨rfl, HE.out⟩
  · rw [Bool.and_eq_true] at hq
    have HF := Lib.hid (few_sizes hq.1 HN.out)
    clear hq
    obtain ⟨x, hx⟩ : ∃ x, rightE l = x := ⟨_, rfl⟩
    by_cases h0 : x = 0
    · subst h0
      have HR := Lib.hid hx
      clear hx
      go_wp2_with fail
      refine (Compile_ok HR.out HN.out HNC.out HCM.out (HL.out.ext HE.out) HF.out.1 HF.out.2 (HW.out.ext HE.out)).mono ?_
      rintro e w3 hr
      obtain ⟨m, hm⟩ : ∃ m, (treeOf l).length = m := ⟨_, rfl⟩
      obtain ⟨ta, tc, na, nc, rfl, t1, t2, n1, n2, ht, hnn, hE3⟩ := retTab_lit hr HN.out hm
      replace HE := Lib.hid (ext_trans HE.out hE3)
      replace C00 := Lib.hid (ext_cell C00.out hE3); have c00 := C00.out; replace C01 := Lib.hid (ext_cell C01.out hE3); have c01 := C01.out; replace C02 := Lib.hid (ext_cell C02.out hE3); have c02 := C02.out; replace C03 := Lib.hid (ext_cell C03.out hE3); have c03 := C03.out
      have HM := Lib.hid hm; have HT := Lib.hid ht; have HNN := Lib.hid hnn; have T1 := Lib.hid t1; have T2 := Lib.hid t2; have N1 := Lib.hid n1; have N2 := Lib.hid n2
      clear hr hE3 hm ht hnn t1 t2 n1 n2
      obtain ⟨X, hX⟩ : ∃ X, meansOf l v (decP l) = X := ⟨_, rfl⟩
      have HX := Lib.hid hX
      clear hX
      go_upto_region 6 with (fail)
      obtain ⟨W3, hW3⟩ : ∃ W3, w3.alloc (Obj.cells #[.slice ta n tc, .slice na m nc] 45) = W3 := ⟨_, rfl⟩
      have hE : Ext w3 W3 := by rw [← hW3]; exact ext_alloc (Below.refl _ w3) _
      have hT : TabB W3 w3.heap.size (.slice ta n tc) (.slice na m nc) := by rw [← hW3]; exact TabB.new _ _ _
      rw [hW3]
      replace HE := Lib.hid (ext_trans HE.out hE); replace HT := Lib.hid (HT.out.ext hE); replace HNN := Lib.hid (HNN.out.ext hE)
      replace C00 := Lib.hid (ext_cell C00.out hE); have c00 := C00.out; replace C01 := Lib.hid (ext_cell C01.out hE); have c01 := C01.out; replace C02 := Lib.hid (ext_cell C02.out hE); have c02 := C02.out; replace C03 := Lib.hid (ext_cell C03.out hE); have c03 := C03.out
      clear hW3 hE
      go_wp2_with fail
      rw [HWV.out]
      have hc := pMeans_any l v a cap n va vc _ HN.out HNC.out HCM.out (HL.out.ext HE.out) (by have := HF.out.1; omega) HF.out.2 HVC.out HVM.out (HV.out.ext HE.out) (HW.out.ext HE.out)
      rw [HX.out] at hc
      refine hc.mono ?_
      clear hc
      rintro e w4 hr
      obtain ⟨ra, rc, rk, hrk, rfl, r1, r2, hi, hE4⟩ := retVE_open hr
      replace HE := Lib.hid (ext_trans HE.out hE4); replace HT := Lib.hid (HT.out.ext hE4); replace HNN := Lib.hid (HNN.out.ext hE4)
      have HTB := Lib.hid (hT.ext hE4)
      replace C00 := Lib.hid (ext_cell C00.out hE4); have c00 := C00.out; replace C01 := Lib.hid (ext_cell C01.out hE4); have c01 := C01.out; replace C02 := Lib.hid (ext_cell C02.out hE4); have c02 := C02.out; replace C03 := Lib.hid (ext_cell C03.out hE4); have c03 := C03.out
      have HRK := Lib.hid hrk; have R1 := Lib.hid r1; have R2 := Lib.hid r2; have HI := Lib.hid hi
      clear hr hE4 hrk r1 r2 hi hT
      go_upto_region 7 with (fail)
      obtain ⟨W4, hW4⟩ : ∃ W4, w4.alloc (Obj.cells #[.bool X.1.allow, .int .i64 X.1.at', .slice ra rk rc] 32) = W4 := ⟨_, rfl⟩
      have hE : Ext w4 W4 := by rw [← hW4]; exact ext_alloc (Below.refl _ w4) _
      have hV : VerB W4 w4.heap.size X.1.allow X.1.at' (.slice ra rk rc) := by rw [← hW4]; exact VerB.new _ _ _ _
      rw [hW4]
      replace HE := Lib.hid (ext_trans HE.out hE); replace HT := Lib.hid (HT.out.ext hE); replace HNN := Lib.hid (HNN.out.ext hE); replace HTB := Lib.hid (HTB.out.ext hE); replace HI := Lib.hid (HI.out.ext hE)
      replace C00 := Lib.hid (ext_cell C00.out hE); have c00 := C00.out; replace C01 := Lib.hid (ext_cell C01.out hE); have c01 := C01.out; replace C02 := Lib.hid (ext_cell C02.out hE); have c02 := C02.out; replace C03 := Lib.hid (ext_cell C03.out hE); have c03 := C03.out
      clear hW4 hE
      obtain ⟨y0, y1⟩ := HTB.out.cells
      go_wp2_with fail
      rw [HWV.out]
      have hc := pDecide_any l (treeOf l) v ta na tc n nc m va vc _ HN.out T1.out T2.out HT.out (by have := HF.out.1; omega) HF.out.2 HM.out N1.out N2.out HNN.out HVC.out HVM.out (HV.out.ext HE.out) HVS.out (HW.out.ext HE.out)
      rw [decide_means, check_comp HR.out, if_pos rfl, HX.out] at hc
      refine hc.mono ?_
      clear hc
      rintro e w5 hr
      obtain ⟨sa, sc, sk, hsk, rfl, s1, s2, hi2, hE5⟩ := retVE_open hr
      obtain rfl : sk = rk := hsk.symm.trans HRK.out
      replace HE := Lib.hid (ext_trans HE.out hE5); replace HT := Lib.hid (HT.out.ext hE5); replace HNN := Lib.hid (HNN.out.ext hE5); replace HTB := Lib.hid (HTB.out.ext hE5); replace HI := Lib.hid (HI.out.ext hE5)
      have HV4 := Lib.hid (hV.ext hE5); have HI2 := Lib.hid hi2; have S1 := Lib.hid s1; have S2 := Lib.hid s2
      clear hr hE5 hsk s1 s2 hi2 hV y0 y1 c00 c01 c02 c03 C00 C01 C02 C03
      go_upto_region 10 with (fail)
      obtain ⟨W5, hW5⟩ : ∃ W5, w5.alloc (Obj.cells #[.bool X.1.allow, .int .i64 X.1.at', .slice sa sk sc] 32) = W5 := ⟨_, rfl⟩
      have hE : Ext w5 W5 := by rw [← hW5]; exact ext_alloc (Below.refl _ w5) _
      have hV : VerB W5 w5.heap.size X.1.allow X.1.at' (.slice sa sk sc) := by rw [← hW5]; exact VerB.new _ _ _ _
      rw [hW5]
      replace HE := Lib.hid (ext_trans HE.out hE); replace HT := Lib.hid (HT.out.ext hE); replace HNN := Lib.hid (HNN.out.ext hE); replace HTB := Lib.hid (HTB.out.ext hE); replace HI := Lib.hid (HI.out.ext hE); replace HI2 := Lib.hid (HI2.out.ext hE); replace HV4 := Lib.hid (HV4.out.ext hE)
      clear hW5 hE
      obtain ⟨y0, y1⟩ := HTB.out.cells
      go_wp2_with fail
      have hc := CheckT_any l (treeOf l) ta na tc n nc m _ HN.out T1.out T2.out HT.out (by have := HF.out.1; omega) HF.out.2 HM.out N1.out N2.out HNN.out (HW.out.ext HE.out)
      rw [check_comp HR.out] at hc
      refine hc.mono ?_
      clear hc
      rintro e w6 ⟨rfl, hE6⟩
      replace HE := Lib.hid (ext_trans HE.out hE6); replace HI := Lib.hid (HI.out.ext hE6); replace HI2 := Lib.hid (HI2.out.ext hE6)
      obtain ⟨v0, v1, v2⟩ := (HV4.out.ext hE6).cells
      obtain ⟨u0, u1, u2⟩ := (hV.ext hE6).cells
      have HV1 := Lib.hid (verV_eq (x := X.1) (a := ra) (c := rc) HRK.out)
      have HV2 := Lib.hid (verV_eq (x := X.1) (a := sa) (c := sc) HRK.out)
      clear hE6 hV y0 y1
      go_wp2_with fail
      rw [HV1.out, HV2.out]
      have hc := SameVerdict_any X.1 X.1 ra sa rc sc w6 (by rw [HRK.out]; have := R1.out; have := R2.out; omega) (by rw [HRK.out]; have := R1.out; have := R2.out; omega) HI.out HI2.out
      rw [decide_eq_true rfl] at hc
      refine hc.mono ?_
      clear hc
      rintro e w7 ⟨rfl, hE7⟩
      have te : (X.2 == X.2) = true := by simp
      clear v0 v1 v2 u0 u1 u2
      replace HE := Lib.hid (ext_trans HE.out hE7)
      clear hE7
      go_wp2_with fail
      go_ret
      exact ⟨rfl, HE.out⟩
    · have HX := Lib.hid (means_err (v := v) (d := decP l) hx h0)
      have HCB := Lib.hid (fun w => Compile_bad (a := a) (cap := cap) (n := n) (w := w) hx h0)
      have t0 : (x != 0) = true := by simpa using h0
      clear hx h0
      go_wp2_with fail
      refine (HCB.out _ HN.out HNC.out HCM.out (HL.out.ext HE.out) HF.out.1 HF.out.2 (HW.out.ext HE.out)).mono ?_
      rintro e w3 hr
      obtain ⟨ta, tc, na, nc, rfl, t1, t2, n1, n2, ht, hnn, hE3⟩ := retTab_lit (k := 0) (m := 0) hr rfl rfl
      replace HE := Lib.hid (ext_trans HE.out hE3)
      replace C00 := Lib.hid (ext_cell C00.out hE3); have c00 := C00.out; replace C01 := Lib.hid (ext_cell C01.out hE3); have c01 := C01.out; replace C02 := Lib.hid (ext_cell C02.out hE3); have c02 := C02.out; replace C03 := Lib.hid (ext_cell C03.out hE3); have c03 := C03.out
      clear hr hE3 ht hnn t1 t2 n1 n2
      go_upto_region 6 with (fail)
      obtain ⟨W3, hW3⟩ : ∃ W3, w3.alloc (Obj.cells #[.slice ta 0 tc, .slice na 0 nc] 45) = W3 := ⟨_, rfl⟩
      have hE : Ext w3 W3 := by rw [← hW3]; exact ext_alloc (Below.refl _ w3) _
      have hT : TabB W3 w3.heap.size (.slice ta 0 tc) (.slice na 0 nc) := by rw [← hW3]; exact TabB.new _ _ _
      rw [hW3]
      replace HE := Lib.hid (ext_trans HE.out hE)
      replace C00 := Lib.hid (ext_cell C00.out hE); have c00 := C00.out; replace C01 := Lib.hid (ext_cell C01.out hE); have c01 := C01.out; replace C02 := Lib.hid (ext_cell C02.out hE); have c02 := C02.out; replace C03 := Lib.hid (ext_cell C03.out hE); have c03 := C03.out
      clear hW3 hE
      go_wp2_with fail
      rw [HWV.out]
      have hc := pMeans_any l v a cap n va vc _ HN.out HNC.out HCM.out (HL.out.ext HE.out) (by have := HF.out.1; omega) HF.out.2 HVC.out HVM.out (HV.out.ext HE.out) (HW.out.ext HE.out)
      rw [HX.out] at hc
      refine hc.mono ?_
      clear hc
      rintro e w4 hr
      obtain ⟨ra, rc, rk, hrk, rfl, r1, r2, hi, hE4⟩ := retVE_open hr
      obtain rfl : rk = 0 := hrk.symm
      replace HE := Lib.hid (ext_trans HE.out hE4)
      have HTB := Lib.hid (hT.ext hE4)
      clear hr hE4 hrk r1 r2 hi hT
      go_upto_region 7 with (fail)
      obtain ⟨W4, hW4⟩ : ∃ W4, w4.alloc (Obj.cells #[.bool false, .int .i64 0, .slice ra 0 rc] 32) = W4 := ⟨_, rfl⟩
      have hE : Ext w4 W4 := by rw [← hW4]; exact ext_alloc (Below.refl _ w4) _
      have hV : VerB W4 w4.heap.size false 0 (.slice ra 0 rc) := by rw [← hW4]; exact VerB.new _ _ _ _
      have hE2 := hE
      rw [← hW4] at hE2
      have e0 : Obj.cells #[.bool zeroV.allow, .int .i64 zeroV.at', .slice ra 0 rc] 32 = Obj.cells #[.bool false, .int .i64 0, .slice ra 0 rc] 32 := rfl
      first | rw [hW4] | (rw [e0, hW4])
      replace HE := Lib.hid (ext_trans HE.out hE)
      obtain ⟨y0, y1⟩ := (HTB.out.ext hE).cells
      obtain ⟨v0, v1, v2⟩ := hV.cells
      have te : (x == x) = true := by simp
      clear hW4 hE hE2 hV e0
      go_wp2_with fail
      go_ret
      exact ⟨rfl, HE.out⟩
end Go.Proofs.YtmdmbdbbpdojnaaGreatDoor
namespace Go.Proofs.YtmdmbdbbpdojnaaGreatDoor
open Go.RowKit Nam

theorem Check_eq (s : ByteArray) (b : Bool) (w : World) (hs : s.size ≤ 9223372036854775807) (hb : isB s.data.toList = b) :
    Calls Tryz.prog 34 #[.string s] w (Ret (.int .i64 (if b then 0 else 110)) w) := by rw [← hb]; exact Check_any s w hs
theorem Pattern_eq (s : ByteArray) (b : Bool) (w : World) (hs : s.size ≤ 9223372036854775807) (hb : (pattern s.data.toList).2.2 = b) :
    Calls Tryz.prog 74 #[.string s] w (Ret (.int .i64 (if b then 0 else 110)) w) := by rw [← hb]; exact Pattern_any s w hs
theorem Up_eq (s x : ByteArray) (w : World) (hs : s.size ≤ 9223372036854775807) (hb : up s.data.toList = x.data.toList) (hw : Env w) :
    Calls Tryz.prog 73 #[.string s] w (Ret (.string x) w) := by
  have := Up_any s w hs hw
  rwa [hb, eta] at this
theorem Under_eq (s o : ByteArray) (b : Bool) (w : World) (hs : s.size ≤ 9223372036854775807) (_ : o.size ≤ 9223372036854775807) (hb : underB s.data.toList o.data.toList = b) (hw : Env w) :
    Calls Tryz.prog 101 #[.string s, .string o] w (Ret (.bool b) w) := by rw [← hb]; exact Under_any s o w hs hw
theorem Match_eq (s o : ByteArray) (b : Bool) (w : World) (hs : s.size ≤ 9223372036854775807) (ho : o.size ≤ 9223372036854775807) (hb : matchB s.data.toList o.data.toList = b) (hw : Env w) :
    Calls Tryz.prog 36 #[.string s, .string o] w (Ret (.bool b) w) := by rw [← hb]; exact Match_any s o w hs ho hw
theorem Within_eq (s o : ByteArray) (b : Bool) (w : World) (hs : s.size ≤ 9223372036854775807) (ho : o.size ≤ 9223372036854775807) (hb : withinB s.data.toList o.data.toList = b) (hw : Env w) :
    Calls Tryz.prog 70 #[.string s, .string o] w (Ret (.bool b) w) := by rw [← hb]; exact Within_any s o w hs ho hw
theorem sl_abc (w : World) : Sl (w.alloc (.cells #[.string ⟨#[97]⟩, .string ⟨#[98]⟩, .string ⟨#[99]⟩] 9)) (.slice (some ⟨w.heap.size, 0, none⟩) 3 3) (([[97], [98], [99]] : List Str).map strV) := by
  refine .inr ⟨w.heap.size, 0, 3, rfl, Nat.le_refl _, by unfold maxLen; omega, ?_⟩
  intro i x hx
  match i, hx with
  | 0, hx => simp [strV] at hx; subst hx; simp [go_sem]
  | 1, hx => simp [strV] at hx; subst hx; simp [go_sem]
  | 2, hx => simp [strV] at hx; subst hx; simp [go_sem]
  | i + 3, hx => simp at hx
theorem sl_labels {w : World} {v : Value} {o : Obj} (h : Sl w v ((if isB (⟨#[97, 46, 98, 46, 99]⟩ : ByteArray).data.toList then cut (⟨#[97, 46, 98, 46, 99]⟩ : ByteArray).data.toList else []).map strV)) : Sl (w.alloc o) v (([[97], [98], [99]] : List Str).map strV) := by
  have e : (if isB (⟨#[97, 46, 98, 46, 99]⟩ : ByteArray).data.toList then cut (⟨#[97, 46, 98, 46, 99]⟩ : ByteArray).data.toList else []) = [[97], [98], [99]] := by decide +kernel
  rw [e] at h
  exact h.ext ((Below.refl _ _).alloc (Nat.le_refl _) _)
end Go.Proofs.YtmdmbdbbpdojnaaGreatDoor
namespace Go.Proofs.YtmdmbdbbpdojnaaGreatDoor
open Go.RowKit Nam
attribute [local go_sem] okOr_true okOr_false

theorem Up_both (s : ByteArray) (w : World) (x : ByteArray) (hs : s.size ≤ 9223372036854775807) (hw : Env w) (hx : (⟨(up s.data.toList).toArray⟩ : ByteArray) = x) :
    Calls Tryz.prog 73 #[.string s] w (Ret (.string x) w) := by rw [← hx]; exact Up_any s w hs hw
theorem rUp_both (s : ByteArray) (w : World) (x : ByteArray) (hs : s.size ≤ 9223372036854775807) (hx : (⟨(up s.data.toList).toArray⟩ : ByteArray) = x) :
    Calls Tryz.prog 136 #[.string s] w (Ret (.string x) w) := by rw [← hx]; exact rUp_any s w hs
theorem Pat_both (s : ByteArray) (w : World) (hs : s.size ≤ 9223372036854775807) :
    Calls Tryz.prog 74 #[.string s] w (Ret (.int .i64 (okOr 110 (rpatB s.data.toList))) w) := by rw [← pattern_ok]; exact Pattern_any s w hs
end Go.Proofs.YtmdmbdbbpdojnaaGreatDoor
namespace Go.Proofs.YtmdmbdbbpdojnaaGreatDoor
open Go.RowKit Nam
attribute [local go_sem] okOr_true okOr_false

def shortB (a b c : ByteArray) : Bool := decide (a.size ≤ 300) && decide (b.size ≤ 300) && decide (c.size ≤ 300)
theorem Match_r (p s : ByteArray) (w : World) (hp : p.size ≤ 9223372036854775807) (hs : s.size ≤ 9223372036854775807) (hw : Env w) :
    Calls Tryz.prog 36 #[.string p, .string s] w (Ret (.bool (rmatchB p.data.toList s.data.toList)) w) := by rw [← match_eq]; exact Match_any p s w hp hs hw
theorem Within_r (p q : ByteArray) (w : World) (hp : p.size ≤ 9223372036854775807) (hq : q.size ≤ 9223372036854775807) (hw : Env w) :
    Calls Tryz.prog 70 #[.string p, .string q] w (Ret (.bool (rwithinB p.data.toList q.data.toList)) w) := by rw [← within_eq]; exact Within_any p q w hp hq hw
theorem x_data (c : UInt8) (p : ByteArray) (X : ByteArray) (h : (⟨#[c]⟩ : ByteArray) ++ p.extract 1 p.size = X) : X.data.toList = c :: p.data.toList.drop 1 := by
  have e : ∀ q : ByteArray, ((⟨#[c]⟩ : ByteArray) ++ q).data.toList = c :: q.data.toList := fun q => by simp
  rw [← h, e, Lib.extract_to_end]
theorem star_of {p : ByteArray} (h : rpatB p.data.toList = true) (hn : isB p.data.toList = false) : starB p.data.toList = true := by
  unfold rpatB at h; rw [hn, Bool.or_false] at h; exact h
end Go.Proofs.YtmdmbdbbpdojnaaGreatDoor
