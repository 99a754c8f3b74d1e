/- Walk: the law PolicyOrder. Walk: the law PolicyEases. Walk: the law PolicyClashes. Walk: the law PolicyMore. -/
import Derived.Test.YtmdmbdbbpdojnaaGreatDoorM33
import Derived.Test.YtmdmbdbbpdojnaaGreatDoorM22
import Derived.Test.YtmdmbdbbpdojnaaGreatDoorM25
namespace Go.Proofs.YtmdmbdbbpdojnaaGreatDoor
open Go.RowKit Nam Pol Go.Maps
attribute [local go_sem] gv_of

/-- An index that goes down: the one below q. -/
def idxV : Nat → Value
  | 0 => .int .i64 (-1)
  | p + 1 => .int .i64 (p : Int)
theorem idxV_pred (n : Nat) : Value.int .i64 ((n : Int) - 1) = idxV n := by
  cases n with
  | zero => rfl
  | succ p => show _ = Value.int .i64 (p : Int); congr 1; omega
theorem rev_take {α : Type} {l : List α} {n p : Nat} {r : α} (hn : l.length = n) (hr : l[p]? = some r) : l.reverse.take (n - p) = l.reverse.take (n - (p + 1)) ++ [r] := by
  have hp := (List.getElem?_eq_some_iff.1 hr).1
  rw [show n - p = n - (p + 1) + 1 by omega]
  refine take_snoc ?_
  rw [List.getElem?_reverse (by omega), show l.length - 1 - (n - (p + 1)) = p by omega, hr]
theorem means_range (l : List Rul) (v : Wsh) : ∀ d ∈ (meansOf l v (decP l)).1.by', -1 ≤ d ∧ d < l.length := by
  rcases means_cases l v (decP l) with ⟨x, _, hX⟩ | ⟨_, hmay, hX⟩
  · rw [hX]; intro d hd; simp [zeroV] at hd
  · rw [hX]; intro d hd
    obtain ⟨s, hs, rfl⟩ := List.mem_map.1 (show d ∈ v.names.map (decP l) from hd)
    exact decP_range (may_names hmay s hs)
theorem seven_cells_new (w : World) (a b c d e f g : Value) (t : TypeId) : ∀ (j : Nat) (x : Value), [a, b, c, d, e, f, g][j]? = some x → (w.alloc (.cells #[a, b, c, d, e, f, g] t)).cell? ((⟨w.heap.size, 0, none⟩ : Addr).add j) = some x := fun j x hj => by
  have := (List.getElem?_eq_some_iff.1 hj).1
  simp only [List.length_cons, List.length_nil] at this
  match j, this with
  | 0, _ => simp at hj; subst hj; simp [Addr.add, go_sem]
  | 1, _ => simp at hj; subst hj; simp [Addr.add, go_sem]
  | 2, _ => simp at hj; subst hj; simp [Addr.add, go_sem]
  | 3, _ => simp at hj; subst hj; simp [Addr.add, go_sem]
  | 4, _ => simp at hj; subst hj; simp [Addr.add, go_sem]
  | 5, _ => simp at hj; subst hj; simp [Addr.add, go_sem]
  | 6, _ => simp at hj; subst hj; simp [Addr.add, go_sem]
/-- A slice of m elements, of which no more is told. -/
def RetLen (m : Nat) (w : World) (e : Ending) (w' : World) : Prop := ∃ a c, e = .returned (.slice a m c) ∧ Ext w w'
theorem clash_len {l : List Rul} {a : Option Addr} {cap n m : Nat} {w : World} (hm : (clashL l).length = m) (hn : l.length = n) (hnc : n ≤ cap) (hcm : cap ≤ maxLen) (hl : Ruls w a l) (hfew : n ≤ 1000) (hpf : ∀ r ∈ l, r.pats.length ≤ 1000) :
    Calls Tryz.prog 18 #[.slice a n cap] w (RetLen m w) :=
  (pClash_any l a cap n w hn hnc hcm hl hfew hpf).mono fun e w' h => by
    obtain ⟨ca, cc, h1, _, _, _, h2⟩ := retL_len h hm
    exact ⟨ca, cc, h1, h2⟩
set_option maxRecDepth 100000 in
set_option maxHeartbeats 8000000 in
theorem PolicyOrder_any (l : List Rul) (v : Wsh) (a : Option Addr) (cap n : Nat) (va : Option Addr) (vc : Nat) (w : World)
    (hn : l.length = n) (hnc : n ≤ cap) (hcm : cap ≤ maxLen) (hl : Ruls w a l) (hvc : v.names.length ≤ vc) (hvm : vc ≤ maxLen) (hv : Strs w va v.names) (hvs : ∀ s ∈ v.names, s.size ≤ 9223372036854775807) (hw : Env w) :
    Calls Tryz.prog 7 #[.slice a n cap, wshV v va vc] w (Ret (.bool true) w) := by
  have HN := Lib.hid hn; have HNC := Lib.hid hnc; have HCM := Lib.hid hcm; have HL := Lib.hid hl; have HVC := Lib.hid hvc; have HVM := Lib.hid hvm; have HV := Lib.hid hv; have HVS := Lib.hid hvs; have HW := Lib.hid hw
  clear hn hnc hcm hl hvc hvm hv hvs hw
  obtain ⟨k, hk⟩ : ∃ k, v.names.length = k := ⟨_, rfl⟩
  have HK := Lib.hid hk
  have HWV : Hid (Value.agg #[.int .i64 v.account, .slice va k vc, .int .u64 v.key, .int .i64 v.life] = wshV v va vc) := Lib.hid (by unfold wshV; rw [hk])
  unfold wshV
  rw [hk]
  clear hk
  go_enter Tryz.func7, Tryz.ntmps7
  go_upto_region 1 with (fail)
  obtain ⟨W0, hW0⟩ : ∃ W0, (w).alloc (Obj.cells #[.int .i64 v.account, .slice va k vc, .int .u64 v.key, .int .i64 v.life] 26) = W0 := ⟨_, rfl⟩
  have hE0 : Ext w W0 := by rw [← hW0]; exact ext_alloc (Below.refl _ _) _
  have c00 : W0.cell? ⟨w.heap.size, 0, none⟩ = some (.int .i64 v.account) := by rw [← hW0]; simp [go_sem]
  have c01 : W0.cell? ⟨w.heap.size, 1, none⟩ = some (.slice va k vc) := by rw [← hW0]; simp [go_sem]
  have c02 : W0.cell? ⟨w.heap.size, 2, none⟩ = some (.int .u64 v.key) := by rw [← hW0]; simp [go_sem]
  have c03 : W0.cell? ⟨w.heap.size, 3, none⟩ = some (.int .i64 v.life) := by rw [← hW0]; simp [go_sem]
  have C00 := Lib.hid c00; have C01 := Lib.hid c01; have C02 := Lib.hid c02; have C03 := Lib.hid c03; have HE0 := Lib.hid hE0
  rw [hW0]
  clear hW0 hE0
  go_wp2_with fail
  refine (live16_any _ (HW.out.ext HE0.out)).mono ?_; rintro e w1 ⟨rfl, hE1⟩
  have HE := Lib.hid (ext_trans HE0.out hE1)
  replace C00 := Lib.hid (ext_cell C00.out hE1); have c00 := C00.out; replace C01 := Lib.hid (ext_cell C01.out hE1); have c01 := C01.out; replace C02 := Lib.hid (ext_cell C02.out hE1); have c02 := C02.out; replace C03 := Lib.hid (ext_cell C03.out hE1); have c03 := C03.out
  clear hE1
  go_wp2_with fail
  rw [HWV.out]
  refine (few16_any l v a cap n va vc _ HN.out HNC.out HCM.out (HL.out.ext HE.out) HVC.out HVM.out (HV.out.ext HE.out)).mono ?_; rintro e w2 ⟨rfl, hE2⟩
  replace HE := Lib.hid (ext_trans HE.out hE2)
  replace C00 := Lib.hid (ext_cell C00.out hE2); have c00 := C00.out; replace C01 := Lib.hid (ext_cell C01.out hE2); have c01 := C01.out; replace C02 := Lib.hid (ext_cell C02.out hE2); have c02 := C02.out; replace C03 := Lib.hid (ext_cell C03.out hE2); have c03 := C03.out
  clear hE2
  cases hq : (fewB l && fewNames v.names)
  · clear hq
    go_wp2_with fail
    go_ret
    exact ⟨rfl, HE.out⟩
  · rw [Bool.and_eq_true] at hq
    have HF := Lib.hid (few_sizes hq.1 HN.out); have HFN := Lib.hid (fewNames_len hq.2)
    clear hq
    obtain ⟨i0, hi, hz0, hz1, hz2⟩ := info_parts Tryz.infoRule
    have hn40 := HF.out.1
    have hcm := HCM.out; have hnc := HNC.out
    unfold maxLen at hcm
    clear c00 c01 c02 c03
    go_wp2_with fail
    go_loopw [5, 6] (fun u5 u6 wr => ∃ q : Nat, q ≤ n ∧ u6 = idxV q ∧ OwnL w w2.heap.size 54 7 RulAt wr u5 (l.reverse.take (n - q)) ∧ Ext w2 wr) (fun _ i _ => (intOf i + 1).toNat)
    case atStart => exact ⟨n, Nat.le_refl _, idxV_pred n, by rw [Nat.sub_self]; exact OwnL.nil, Below.refl _ _⟩
    case round =>
      obtain ⟨q, hq, hi6, hown0, hEr⟩ := hrel
      cases q with
      | succ p =>
        obtain rfl : u6 = .int .i64 (p : Int) := hi6
        obtain ⟨css, hl1, hl2, hown⟩ := hown0
        obtain ⟨r, hr⟩ := get_some HN.out (show p < n by omega)
        have HT := Lib.hid (rev_take HN.out hr)
        obtain ⟨b1, o1, rfl, hR⟩ := HL.out p r hr
        obtain ⟨pa, pc, h2, hel⟩ := rul_elc hR
        obtain ⟨h0, h1, _, h3, h4, h5, h6, _, _⟩ := hR
        have hE0 := ext_trans HE.out hEr
        have d0 := ext_cell h0 hE0; have d1 := ext_cell h1 hE0; have d2 := ext_cell h2 hE0; have d3 := ext_cell h3 hE0; have d4 := ext_cell h4 hE0; have d5 := ext_cell h5 hE0; have d6 := ext_cell h6 hE0
        have HEL := Lib.hid hel; have H1 := Lib.hid hl1; have H2 := Lib.hid hl2; have HO := Lib.hid hown
        have hsz := hEr.size
        have hll : (l.reverse.take (n - (p + 1))).length = n - (p + 1) := by rw [List.length_take, List.length_reverse, HN.out]; omega
        have HLL := Lib.hid hll
        clear h0 h1 h2 h3 h4 h5 h6 hel hl1 hl2 hown hr hE0 hll
        have hpc : p < cap := by omega
        go_wp2_with (at_builtin; refine wpList_append_own _ rfl _ _ 22 rfl w2.heap.size 54 i0 (.agg #[.string ⟨#[]⟩, .bool false, .slice none 0 0, .int .u64 0, .int .i64 0, .int .i64 0, .int .i64 0]) 7 80 Tryz.underlying22 hi hz0 hz1 hz2 rfl (by decide) u5 _ _ rfl (HO.out.alloc _) ⟨wr.heap.size, 0, none⟩ 1 1 [.string r.name, .bool r.allow, .slice pa r.pats.length pc, .int .u64 r.keyMin, .int .i64 r.lifeMax, .int .i64 r.most, .int .i64 r.window] rfl rfl (seven_cells_new _ _ _ _ _ _ _ _ _) HEL.out.2.1 (by rw [HLL.out]; unfold maxLen; omega) (by rw [HLL.out]; omega) (by simp; omega) ?_; intro v' w1 hown1 hgrow1 _)
        go_roundw
        case rel =>
          refine ⟨p, by omega, idxV_pred p, ?_, (hEr.alloc hsz _).grown hgrow1 (by simp; omega) (own_ge HO.out)⟩
          rw [HT.out]
          exact own_snoc H1.out H2.out HEL.out hown1
        case measure => simp [intOf]
      | zero =>
        obtain rfl : u6 = .int .i64 (-1) := hi6
        have hsl := hown0.slv (ext_trans HE.out hEr)
        rw [show l.reverse.take (n - 0) = l.reverse from List.take_of_length_le (by rw [List.length_reverse, HN.out]; omega)] at hsl
        obtain ⟨ba, bc, rfl, hbc, hbm, hbl⟩ := hsl
        have HRN := Lib.hid (show l.reverse.length = n by rw [List.length_reverse, HN.out])
        rw [HRN.out] at hbc
        have HSV : Hid (Value.slice ba l.reverse.length bc = .slice ba n bc) := Lib.hid (by rw [HRN.out])
        rw [HSV.out]
        have HBL := Lib.hid hbl; have HBM := Lib.hid hbm; have HBC := Lib.hid hbc
        obtain ⟨X, hX⟩ : ∃ X, meansOf l v (decP l) = X := ⟨_, rfl⟩
        have hrev := means_reverse l v
        have hrg := means_range l v
        rw [hX] at hrev hrg
        rcases X with ⟨⟨al, at0, bs⟩, er⟩
        obtain ⟨kb, hkb⟩ : ∃ kb, bs.length = kb := ⟨_, rfl⟩
        have hY : meansOf l.reverse v (decP l.reverse) = (⟨al, at0, bs.map (flipI n)⟩, er) := by
          rw [← HN.out]; exact Prod.ext hrev.2 hrev.1
        have HX := Lib.hid hX; have HY := Lib.hid hY; have HKB := Lib.hid hkb; have HRG := Lib.hid hrg
        clear hX hY hkb hrev hrg hown0 hbl hbm hbc hcm hi hz0 hz1 hz2 hnc hn40
        replace HE := Lib.hid (ext_trans HE.out hEr); replace C00 := Lib.hid (ext_cell C00.out hEr); have c00 := C00.out; replace C01 := Lib.hid (ext_cell C01.out hEr); have c01 := C01.out; replace C02 := Lib.hid (ext_cell C02.out hEr); have c02 := C02.out; replace C03 := Lib.hid (ext_cell C03.out hEr); have c03 := C03.out
        clear hEr
        go_wp2_with fail
        rw [HWV.out]
        have hc := pMeans_any l v a cap n va vc _ HN.out HNC.out HCM.out (HL.out.ext HE.out) (by have := HF.out.1; omega) HF.out.2 HVC.out HVM.out (HV.out.ext HE.out) (HW.out.ext HE.out)
        rw [HX.out] at hc
        refine hc.mono ?_
        clear hc
        rintro e w3 hr
        obtain ⟨ra, rc, rk, hrk, rfl, r1, r2, hi, hE3⟩ := retVE_open hr
        obtain rfl : kb = rk := HKB.out.symm.trans hrk
        dsimp only at hi ⊢
        have HI := Lib.hid hi; have R1 := Lib.hid r1; have R2 := Lib.hid r2
        clear hr hi r1 r2 hrk
        replace HE := Lib.hid (ext_trans HE.out hE3); replace HBL := Lib.hid (HBL.out.ext hE3); replace C00 := Lib.hid (ext_cell C00.out hE3); have c00 := C00.out; replace C01 := Lib.hid (ext_cell C01.out hE3); have c01 := C01.out; replace C02 := Lib.hid (ext_cell C02.out hE3); have c02 := C02.out; replace C03 := Lib.hid (ext_cell C03.out hE3); have c03 := C03.out
        clear hE3
        go_upto_region 11 with (fail)
        obtain ⟨W3, hW3⟩ : ∃ W3, w3.alloc (Obj.cells #[.bool al, .int .i64 at0, .slice ra kb rc] 32) = W3 := ⟨_, rfl⟩
        have hE : Ext w3 W3 := by rw [← hW3]; exact ext_alloc (Below.refl _ w3) _
        have hM : W3.heap[w3.heap.size]? = some (Obj.cells #[.bool al, .int .i64 at0, .slice ra kb rc] 32 (0, 0)) := by rw [← hW3]; exact World.alloc_heap_new w3 _
        rw [hW3]
        clear hW3
        have HVB := Lib.hid (show VerB W3 w3.heap.size _ _ (.slice ra kb rc) from hM)
        clear hM
        replace HE := Lib.hid (ext_trans HE.out hE); replace HI := Lib.hid (HI.out.ext hE); replace HBL := Lib.hid (HBL.out.ext hE); replace C00 := Lib.hid (ext_cell C00.out hE); have c00 := C00.out; replace C01 := Lib.hid (ext_cell C01.out hE); have c01 := C01.out; replace C02 := Lib.hid (ext_cell C02.out hE); have c02 := C02.out; replace C03 := Lib.hid (ext_cell C03.out hE); have c03 := C03.out
        clear hE
        go_wp2_with fail
        rw [HWV.out]
        have hc := pMeans_any l.reverse v ba bc n va vc _ HRN.out HBC.out HBM.out HBL.out (by have := HF.out.1; omega) (fun r hr => HF.out.2 r (List.mem_reverse.1 hr)) HVC.out HVM.out (HV.out.ext HE.out) (HW.out.ext HE.out)
        rw [HY.out] at hc
        refine hc.mono ?_
        clear hc
        rintro e w4 hr
        obtain ⟨sa, sc, sk, hsk, rfl, r1, r2, hi, hE4⟩ := retVE_open hr
        obtain rfl : sk = kb := by rw [← hsk, ← HKB.out]; exact List.length_map ..
        dsimp only at hi ⊢
        have HJ := Lib.hid hi; have S1 := Lib.hid r1; have S2 := Lib.hid r2
        clear hr hi r1 r2 hsk
        replace HE := Lib.hid (ext_trans HE.out hE4); replace HI := Lib.hid (HI.out.ext hE4); replace HBL := Lib.hid (HBL.out.ext hE4); replace HVB := Lib.hid (HVB.out.ext hE4); replace C00 := Lib.hid (ext_cell C00.out hE4); have c00 := C00.out; replace C01 := Lib.hid (ext_cell C01.out hE4); have c01 := C01.out; replace C02 := Lib.hid (ext_cell C02.out hE4); have c02 := C02.out; replace C03 := Lib.hid (ext_cell C03.out hE4); have c03 := C03.out
        clear hE4
        go_upto_region 12 with (fail)
        obtain ⟨W4, hW4⟩ : ∃ W4, w4.alloc (Obj.cells #[.bool al, .int .i64 at0, .slice sa sk sc] 32) = W4 := ⟨_, rfl⟩
        have hE : Ext w4 W4 := by rw [← hW4]; exact ext_alloc (Below.refl _ w4) _
        have hM : W4.heap[w4.heap.size]? = some (Obj.cells #[.bool al, .int .i64 at0, .slice sa sk sc] 32 (0, 0)) := by rw [← hW4]; exact World.alloc_heap_new w4 _
        rw [hW4]
        clear hW4
        have HVC2 := Lib.hid (show VerB W4 w4.heap.size _ _ (.slice sa sk sc) from hM)
        clear hM
        replace HE := Lib.hid (ext_trans HE.out hE); replace HI := Lib.hid (HI.out.ext hE); replace HJ := Lib.hid (HJ.out.ext hE); replace HBL := Lib.hid (HBL.out.ext hE); replace HVB := Lib.hid (HVB.out.ext hE); replace C00 := Lib.hid (ext_cell C00.out hE); have c00 := C00.out; replace C01 := Lib.hid (ext_cell C01.out hE); have c01 := C01.out; replace C02 := Lib.hid (ext_cell C02.out hE); have c02 := C02.out; replace C03 := Lib.hid (ext_cell C03.out hE); have c03 := C03.out
        clear hE
        obtain ⟨d0, d1, d2⟩ := HVB.out.cells
        obtain ⟨e0, e1, e2⟩ := HVC2.out.cells
        have ter : (er != er) = false := by simp
        have tkb : ((sk : Int) != sk) = false := by simp
        obtain ⟨m, hm⟩ : ∃ m, (clashL l).length = m := ⟨_, rfl⟩
        have hmr : (clashL l.reverse).length = m := (clash_reverse l).trans hm
        have tm : ((m : Int) != m) = false := by simp
        have HM := Lib.hid hm; have HMR := Lib.hid hmr
        clear hm hmr c00 c01 c02 c03
        have HLW := Lib.hid (fun w' (h : Ext W4 w') => clash_len HM.out HN.out HNC.out HCM.out (HL.out.ext (ext_trans HE.out h)) (by have := HF.out.1; omega) HF.out.2)
        have HLR := Lib.hid (fun w' (h : Ext W4 w') => clash_len HMR.out HRN.out HBC.out HBM.out (HBL.out.ext h) (by have := HF.out.1; omega) (fun r hr => HF.out.2 r (List.mem_reverse.1 hr)))
        go_wp2_with fail
        refine (HLW.out _ (Below.refl _ _)).mono ?_
        rintro e w5 ⟨c1a, c1c, rfl, hE5⟩
        have HE5 := Lib.hid hE5
        replace HE := Lib.hid (ext_trans HE.out hE5); replace HI := Lib.hid (HI.out.ext hE5); replace HJ := Lib.hid (HJ.out.ext hE5); replace HVB := Lib.hid (HVB.out.ext hE5); replace HVC2 := Lib.hid (HVC2.out.ext hE5)
        clear hE5
        clear d0 d1 d2 e0 e1 e2
        go_wp2_with fail
        refine (HLR.out _ HE5.out).mono ?_
        rintro e w6 ⟨c2a, c2c, rfl, hE6⟩
        replace HE := Lib.hid (ext_trans HE.out hE6); replace HI := Lib.hid (HI.out.ext hE6); replace HJ := Lib.hid (HJ.out.ext hE6); replace HVB := Lib.hid (HVB.out.ext hE6); replace HVC2 := Lib.hid (HVC2.out.ext hE6)
        clear hE6
        obtain ⟨d0, d1, d2⟩ := HVB.out.cells
        obtain ⟨e0, e1, e2⟩ := HVC2.out.cells
        clear HLW HLR
        go_wp2_with fail
        have D0 := Lib.hid d0; have D1 := Lib.hid d1; have D2 := Lib.hid d2; have G0 := Lib.hid e0; have G1 := Lib.hid e1; have G2 := Lib.hid e2
        clear d0 d1 d2 e0 e1 e2
        go_loopw [11] (fun i wr => ∃ j : Nat, j ≤ sk ∧ i = .int .i64 j ∧ Ext w6 wr) (fun i _ => sk - (intOf i).toNat)
        case atStart => exact ⟨0, Nat.zero_le _, rfl, Below.refl _ _⟩
        case round =>
          obtain ⟨j, hj, rfl, hEr⟩ := hrel
          have HER := Lib.hid hEr
          clear hEr
          have d2 := ext_cell D2.out HER.out; have e2 := ext_cell G2.out HER.out
          by_cases hlt : j < sk
          · obtain ⟨d, hd⟩ := get_some HKB.out hlt
            have hrg := HRG.out d (List.mem_of_getElem? hd)
            rw [HN.out] at hrg
            obtain ⟨b1, o1, rfl, x0⟩ := (HI.out.ext HER.out) j d hd
            obtain ⟨b2, o2, rfl, y0⟩ := (HJ.out.ext HER.out) j (flipI n d) (by rw [List.getElem?_map, hd]; rfl)
            unfold IntAt at x0 y0
            rw [Nat.mul_one] at x0 y0
            have r1 := R1.out; have r2 := R2.out; have s1 := S1.out; have s2 := S2.out; have hn40 := HF.out.1
            unfold maxLen at r2 s2
            have hjr : j < rc := by omega
            have hjs : j < sc := by omega
            clear hd
            by_cases h0 : 0 ≤ d
            · rw [show flipI n d = (n : Int) - 1 - d from if_pos h0] at y0
              have tf : (((n : Int) - 1 - d) != ((n : Int) - 1 - d)) = false := by simp
              go_wp2_with fail
              go_roundw
              case rel => exact ⟨j + 1, by omega, by go_num, HER.out⟩
              case measure => simp [intOf]; omega
            · rw [show flipI n d = -1 from if_neg h0] at y0
              have h0' : d < 0 := by omega
              go_wp2_with fail
              go_roundw
              case rel => exact ⟨j + 1, by omega, by go_num, HER.out⟩
              case measure => simp [intOf]; omega
          · obtain rfl : j = sk := by omega
            have d0 := ext_cell D0.out HER.out; have d1 := ext_cell D1.out HER.out; have e0 := ext_cell G0.out HER.out; have e1 := ext_cell G1.out HER.out
            have ta : (al == al) = true := by simp
            have tt : (at0 == at0) = true := by simp
            go_wp2_with fail
            go_ret
            exact ⟨rfl, ext_trans HE.out HER.out⟩
end Go.Proofs.YtmdmbdbbpdojnaaGreatDoor
namespace Go.Proofs.YtmdmbdbbpdojnaaGreatDoor
open Go.RowKit Nam Pol Go.Maps
attribute [local go_sem] gv_of

set_option maxRecDepth 100000 in
set_option maxHeartbeats 8000000 in
theorem PolicyEases_any (l : List Rul) (v : Wsh) (a : Option Addr) (cap n : Nat) (va : Option Addr) (vc : Nat) (more less : Int) (w : World)
    (hn : l.length = n) (hnc : n ≤ cap) (hcm : cap ≤ maxLen) (hl : Ruls w a l) (hvc : v.names.length ≤ vc) (hvm : vc ≤ maxLen) (hv : Strs w va v.names) (hvs : ∀ s ∈ v.names, s.size ≤ 9223372036854775807) (hmo : 0 ≤ more) (hw : Env w) :
    Calls Tryz.prog 8 #[.slice a n cap, wshV v va vc, .int .u64 more, .int .i64 less] w (Ret (.bool true) w) := by
  have HN := Lib.hid hn; have HNC := Lib.hid hnc; have HCM := Lib.hid hcm; have HL := Lib.hid hl; have HVC := Lib.hid hvc; have HVM := Lib.hid hvm; have HV := Lib.hid hv; have HVS := Lib.hid hvs; have HW := Lib.hid hw
  clear hn hnc hcm hl hvc hvm hv hvs hw
  obtain ⟨k, hk⟩ : ∃ k, v.names.length = k := ⟨_, rfl⟩
  have HK := Lib.hid hk
  have HWV : Hid (Value.agg #[.int .i64 v.account, .slice va k vc, .int .u64 v.key, .int .i64 v.life] = wshV v va vc) := Lib.hid (by unfold wshV; rw [hk])
  unfold wshV
  rw [hk]
  clear hk
  have HMO := Lib.hid hmo
  clear hmo
  go_enter Tryz.func8, Tryz.ntmps8
  go_upto_region 1 with (fail)
  obtain ⟨W0, hW0⟩ : ∃ W0, (w).alloc (Obj.cells #[.int .i64 v.account, .slice va k vc, .int .u64 v.key, .int .i64 v.life] 26) = W0 := ⟨_, rfl⟩
  have hE0 : Ext w W0 := by rw [← hW0]; exact ext_alloc (Below.refl _ _) _
  have c00 : W0.cell? ⟨w.heap.size, 0, none⟩ = some (.int .i64 v.account) := by rw [← hW0]; simp [go_sem]
  have c01 : W0.cell? ⟨w.heap.size, 1, none⟩ = some (.slice va k vc) := by rw [← hW0]; simp [go_sem]
  have c02 : W0.cell? ⟨w.heap.size, 2, none⟩ = some (.int .u64 v.key) := by rw [← hW0]; simp [go_sem]
  have c03 : W0.cell? ⟨w.heap.size, 3, none⟩ = some (.int .i64 v.life) := by rw [← hW0]; simp [go_sem]
  have C00 := Lib.hid c00; have C01 := Lib.hid c01; have C02 := Lib.hid c02; have C03 := Lib.hid c03; have HE0 := Lib.hid hE0
  rw [hW0]
  clear hW0 hE0
  go_wp2_with fail
  refine (live16_any _ (HW.out.ext HE0.out)).mono ?_; rintro e w1 ⟨rfl, hE1⟩
  have HE := Lib.hid (ext_trans HE0.out hE1)
  replace C00 := Lib.hid (ext_cell C00.out hE1); have c00 := C00.out; replace C01 := Lib.hid (ext_cell C01.out hE1); have c01 := C01.out; replace C02 := Lib.hid (ext_cell C02.out hE1); have c02 := C02.out; replace C03 := Lib.hid (ext_cell C03.out hE1); have c03 := C03.out
  clear hE1
  go_wp2_with fail
  rw [HWV.out]
  refine (few16_any l v a cap n va vc _ HN.out HNC.out HCM.out (HL.out.ext HE.out) HVC.out HVM.out (HV.out.ext HE.out)).mono ?_; rintro e w2 ⟨rfl, hE2⟩
  replace HE := Lib.hid (ext_trans HE.out hE2)
  replace C00 := Lib.hid (ext_cell C00.out hE2); have c00 := C00.out; replace C01 := Lib.hid (ext_cell C01.out hE2); have c01 := C01.out; replace C02 := Lib.hid (ext_cell C02.out hE2); have c02 := C02.out; replace C03 := Lib.hid (ext_cell C03.out hE2); have c03 := C03.out
  clear hE2
  cases hq : (fewB l && fewNames v.names)
  · clear hq
    go_wp2_with fail
    go_ret
    exact ⟨rfl, HE.out⟩
  · rw [Bool.and_eq_true] at hq
    have HF := Lib.hid (few_sizes hq.1 HN.out); have HFN := Lib.hid (fewNames_len hq.2)
    clear hq
    have HW0 : Hid (Value.agg #[.int .i64 v.account, .slice va k vc, .int .u64 v.key, .int .i64 0] = wshV { v with life := 0 } va vc) := Lib.hid (by unfold wshV; rw [HK.out])
    have HWL : Hid (∀ x y, Value.agg #[.int .i64 v.account, .slice va k vc, .int .u64 x, .int .i64 y] = wshV { v with key := x, life := y } va vc) := Lib.hid (fun x y => by unfold wshV; rw [HK.out])
    have HMC := Lib.hid (fun (u : Wsh) (w' : World) (hu : u.names = v.names) (hE : Ext w w') => pMeans_any l u a cap n va vc w' HN.out HNC.out HCM.out (HL.out.ext hE) (by have := HF.out.1; omega) HF.out.2 (by rw [hu]; exact HVC.out) HVM.out (by rw [hu]; exact HV.out.ext hE) (HW.out.ext hE))
    obtain ⟨Y, hY⟩ : ∃ Y, meansOf l { v with life := 0 } (decP l) = Y := ⟨_, rfl⟩
    have HY := Lib.hid hY
    clear hY
    rcases means_cases l v (decP l) with ⟨x, h0, hX⟩ | ⟨hr, hmay, hX⟩
    · have HX := Lib.hid hX
      clear hX
      have t0 : (x != 0) = true := by simpa using h0
      clear h0
      go_wp2_with fail
      rw [HWV.out]
      have hc := HMC.out v _ rfl HE.out
      rw [HX.out] at hc
      refine hc.mono ?_
      clear hc
      rintro e w3 hr
      obtain ⟨ra, rc, rk, hrk, rfl, r1, r2, hi, hE3⟩ := retVE_open hr
      clear hr hi r1 r2 hrk
      replace HE := Lib.hid (ext_trans HE.out hE3); replace C00 := Lib.hid (ext_cell C00.out hE3); have c00 := C00.out; replace C01 := Lib.hid (ext_cell C01.out hE3); have c01 := C01.out; replace C02 := Lib.hid (ext_cell C02.out hE3); have c02 := C02.out; replace C03 := Lib.hid (ext_cell C03.out hE3); have c03 := C03.out
      clear hE3
      go_upto_region 6 with (fail)
      obtain ⟨W3, hW3⟩ : ∃ W3, w3.alloc (Obj.cells #[.bool zeroV.allow, .int .i64 zeroV.at', .slice ra rk rc] 32) = W3 := ⟨_, rfl⟩
      have hE : Ext w3 W3 := by rw [← hW3]; exact ext_alloc (Below.refl _ w3) _
      have hM : W3.heap[w3.heap.size]? = some (Obj.cells #[.bool zeroV.allow, .int .i64 zeroV.at', .slice ra rk rc] 32 (0, 0)) := by rw [← hW3]; exact World.alloc_heap_new w3 _
      rw [hW3]
      clear hW3
      clear hM
      replace HE := Lib.hid (ext_trans HE.out hE); replace C00 := Lib.hid (ext_cell C00.out hE); have c00 := C00.out; replace C01 := Lib.hid (ext_cell C01.out hE); have c01 := C01.out; replace C02 := Lib.hid (ext_cell C02.out hE); have c02 := C02.out; replace C03 := Lib.hid (ext_cell C03.out hE); have c03 := C03.out
      clear hE
      go_wp2_with fail
      rw [HW0.out]
      have hE := ext_alloc (Below.refl _ W3) (Obj.cells #[.int .i64 v.account, .slice va k vc, .int .u64 v.key, .int .i64 0] 26)
      have hc := HMC.out { v with life := 0 } _ rfl (ext_trans HE.out hE)
      rw [HY.out] at hc
      refine hc.mono ?_
      clear hc
      rintro e w4 hr
      obtain ⟨sa, sc, sk, hsk, rfl, r1, r2, hi, hE4⟩ := retVE_open hr
      replace HE := Lib.hid (ext_trans HE.out (ext_trans hE hE4))
      clear hr hE hE4 r1 r2 hi hsk c00 c01 c02 c03
      go_wp2_with fail
      go_ret
      exact ⟨rfl, ext_alloc HE.out _⟩
    · have HX := Lib.hid hX; have HR := Lib.hid hr; have HMAY := Lib.hid hmay
      have hl0 : 0 ≤ v.life := (may_parts.1 hmay).2.2.2.1
      have HY2 := Lib.hid (means_of (d := decP l) hr (life_may (k := v.key) hmay (Int.le_refl 0) hl0))
      have HYA := Lib.hid (life0_none (l := l) (d := decP l) (life_may (k := v.key) hmay (Int.le_refl 0) hl0) rfl)
      clear hX hr hmay hl0
      go_wp2_with fail
      rw [HWV.out]
      have hc := HMC.out v _ rfl HE.out
      rw [HX.out] at hc
      refine hc.mono ?_
      clear hc
      rintro e w3 hr
      obtain ⟨ra, rc, rk, hrk, rfl, r1, r2, hi, hE3⟩ := retVE_open hr
      have HI := Lib.hid hi; have HRK := Lib.hid hrk; have R1 := Lib.hid r1; have R2 := Lib.hid r2
      clear hr hi r1 r2 hrk
      replace HE := Lib.hid (ext_trans HE.out hE3); replace C00 := Lib.hid (ext_cell C00.out hE3); have c00 := C00.out; replace C01 := Lib.hid (ext_cell C01.out hE3); have c01 := C01.out; replace C02 := Lib.hid (ext_cell C02.out hE3); have c02 := C02.out; replace C03 := Lib.hid (ext_cell C03.out hE3); have c03 := C03.out
      clear hE3
      go_upto_region 6 with (fail)
      obtain ⟨al, hal⟩ : ∃ al, (verQ l v (decP l) v.names).allow = al := ⟨_, rfl⟩
      have HAL := Lib.hid hal
      rw [hal]
      clear hal
      obtain ⟨W3, hW3⟩ : ∃ W3, w3.alloc (Obj.cells #[.bool al, .int .i64 (verQ l v (decP l) v.names).at', .slice ra rk rc] 32) = W3 := ⟨_, rfl⟩
      have hE : Ext w3 W3 := by rw [← hW3]; exact ext_alloc (Below.refl _ w3) _
      have hM : W3.heap[w3.heap.size]? = some (Obj.cells #[.bool al, .int .i64 (verQ l v (decP l) v.names).at', .slice ra rk rc] 32 (0, 0)) := by rw [← hW3]; exact World.alloc_heap_new w3 _
      rw [hW3]
      clear hW3
      have HVB := Lib.hid (show VerB W3 w3.heap.size _ _ (.slice ra rk rc) from hM)
      clear hM
      replace HE := Lib.hid (ext_trans HE.out hE); replace HI := Lib.hid (HI.out.ext hE); replace C00 := Lib.hid (ext_cell C00.out hE); have c00 := C00.out; replace C01 := Lib.hid (ext_cell C01.out hE); have c01 := C01.out; replace C02 := Lib.hid (ext_cell C02.out hE); have c02 := C02.out; replace C03 := Lib.hid (ext_cell C03.out hE); have c03 := C03.out
      clear hE
      have HE30 := HE
      go_upto_region 8 with (fail)
      obtain ⟨W4, hW4⟩ : ∃ W4, W3.alloc (Obj.cells #[.int .i64 v.account, .slice va k vc, .int .u64 v.key, .int .i64 0] 26) = W4 := ⟨_, rfl⟩
      have hE : Ext W3 W4 := by rw [← hW4]; exact ext_alloc (Below.refl _ W3) _
      have hM : W4.heap[W3.heap.size]? = some (Obj.cells #[.int .i64 v.account, .slice va k vc, .int .u64 v.key, .int .i64 0] 26 (0, 0)) := by rw [← hW4]; exact World.alloc_heap_new W3 _
      rw [hW4]
      clear hW4
      have HXB := Lib.hid hM
      have q0 : W4.cell? ⟨W3.heap.size, 0, none⟩ = some (.int .i64 v.account) := cell_of_row _ _ 0 _ _ _ hM
      have q1 : W4.cell? ⟨W3.heap.size, 1, none⟩ = some (.slice va k vc) := cell_of_row _ _ 1 _ _ _ hM
      have q2 : W4.cell? ⟨W3.heap.size, 2, none⟩ = some (.int .u64 v.key) := cell_of_row _ _ 2 _ _ _ hM
      have q3 : W4.cell? ⟨W3.heap.size, 3, none⟩ = some (.int .i64 0) := cell_of_row _ _ 3 _ _ _ hM
      have HE4 := Lib.hid hE
      clear hM hE
      go_wp2_with fail
      rw [HW0.out]
      have hc := HMC.out { v with life := 0 } _ rfl (ext_trans HE.out HE4.out)
      rw [HY2.out] at hc
      refine hc.mono ?_
      clear hc
      rintro e w5 hr
      obtain ⟨sa, sc, sk, hsk, rfl, r1, r2, hi, hE5⟩ := retVE_open hr
      rw [HYA.out]
      have HXB5 := Lib.hid ((hE5.block _ (Array.getElem?_eq_some_iff.1 HXB.out).1).trans HXB.out)
      have HE5 := Lib.hid (ext_trans HE4.out hE5)
      replace HE := Lib.hid (ext_trans HE.out HE5.out)
      clear hr hE5 r1 r2 hi hsk q0 q1 q2 q3 c00 c01 c02 c03
      go_upto_region 9 with (fail)
      obtain ⟨W5, hW5⟩ : ∃ W5, w5.alloc (Obj.cells #[.bool false, .int .i64 (verdictOf l { v with life := 0 } (decP l)).at', .slice sa sk sc] 32) = W5 := ⟨_, rfl⟩
      have hE : Ext w5 W5 := by rw [← hW5]; exact ext_alloc (Below.refl _ w5) _
      have hM : W5.heap[w5.heap.size]? = some (Obj.cells #[.bool false, .int .i64 (verdictOf l { v with life := 0 } (decP l)).at', .slice sa sk sc] 32 (0, 0)) := by rw [← hW5]; exact World.alloc_heap_new w5 _
      rw [hW5]
      clear hW5
      have n0 : W5.cell? ⟨w5.heap.size, 0, none⟩ = some (.bool false) := cell_of_row _ _ 0 _ _ _ hM
      have HX5 := Lib.hid ((hE.block _ (Array.getElem?_eq_some_iff.1 HXB5.out).1).trans HXB5.out)
      have HEW := Lib.hid (ext_trans HE5.out hE)
      clear hM
      replace HE := Lib.hid (ext_trans HE.out hE)
      clear hE
      have c00 := ext_cell C00.out HEW.out; have c01 := ext_cell C01.out HEW.out; have c02 := ext_cell C02.out HEW.out; have c03 := ext_cell C03.out HEW.out
      obtain ⟨d0, d1, d2⟩ := (HVB.out.ext HEW.out).cells
      go_upto_region 13 with (fail)
      refine wp_region_P (fun w' => Ext W5 w') (Below.refl _ _) ?_
      repeat
        first
        | (refine steps_and rfl rfl rfl rfl ?_; simp only [Act.put, List.setIfInBounds_toArray, List.set_cons_succ, List.set_cons_zero])
        | (refine steps_or rfl rfl rfl rfl ?_; simp only [Act.put, List.setIfInBounds_toArray, List.set_cons_succ, List.set_cons_zero])
        | (refine steps_skip rfl ?_; simp only [Act.put, List.setIfInBounds_toArray, List.set_cons_succ, List.set_cons_zero])
        | (refine steps_guard_and rfl rfl rfl rfl rfl ?_; simp only [Act.put, List.setIfInBounds_toArray, List.set_cons_succ, List.set_cons_zero])
        | (refine steps_guard (v := ?_) rfl rfl (fun hb w' hS => ?_) ?_; rotate_left; (focus (have k0 := ext_cell d0 hS; have k2 := ext_cell c02 hS; have k3 := ext_cell c03 hS; unfold Gives; go_simp; first | exact is_mk hS)); simp only [Act.put, List.setIfInBounds_toArray, List.set_cons_succ, List.set_cons_zero])
        | (refine steps_guard2 (v := ?_) rfl rfl rfl (fun hb1 hb w' hS => ?_) ?_; rotate_left; (focus (have k0 := ext_cell d0 hS; have k2 := ext_cell c02 hS; have k3 := ext_cell c03 hS; unfold Gives; go_simp; first | exact is_mk hS)); simp only [Act.put, List.setIfInBounds_toArray, List.set_cons_succ, List.set_cons_zero])
        | (refine steps_run (v := ?_) rfl (fun w' hS => ?_) ?_; rotate_left; (focus (have k0 := ext_cell d0 hS; have k2 := ext_cell c02 hS; have k3 := ext_cell c03 hS; unfold Gives; go_simp; first | exact is_mk hS)); simp only [Act.put, List.setIfInBounds_toArray, List.set_cons_succ, List.set_cons_zero])
      refine steps_end fun w6 hE6 => ?_
      have HE6 := Lib.hid (ext_trans HE.out hE6)
      have HXB6 := Lib.hid ((hE6.block _ (Array.getElem?_eq_some_iff.1 HX5.out).1).trans HX5.out)
      have HEW6 := Lib.hid (ext_trans HEW.out hE6)
      clear hE6 d0 d1 d2 n0 c00 c01 c02 c03
      cases hq : (!al || decide (IntKind.u64.wrap (v.key + more) < v.key) || decide (less < 0) || decide (v.life ≤ less))
      rotate_left
      · clear hq
        go_wp2_with fail
        go_ret
        exact ⟨rfl, HE6.out⟩
      · simp only [Bool.or_eq_false_iff, Bool.not_eq_false', decide_eq_false_iff_not, Int.not_lt, Int.not_le] at hq
        obtain ⟨⟨⟨ha, hk1⟩, hl1⟩, hl2⟩ := hq
        subst ha
        obtain ⟨xk, hxk⟩ : ∃ xk, IntKind.u64.wrap (v.key + more) = xk := ⟨_, rfl⟩
        have hlm := (may_parts.1 HMAY.out).2.2.2.2.1
        rw [hxk] at hk1
        have HXK := Lib.hid hxk
        have hva : (verdictOf l v (decP l)).allow = true := by rw [verdictOf_eq]; exact HAL.out
        have HEA := Lib.hid (ease (l := l) (v := v) (d := decP l) (x := xk) (y := v.life - less) hva hk1 (by omega) (by omega))
        have HMN := Lib.hid (means_of (l := l) (v := { v with life := v.life - less, key := xk }) (d := decP l) HR.out (life_may (k := xk) HMAY.out (by omega) (by omega)))
        clear hva
        have c02 := ext_cell C02.out HEW6.out; have c03 := ext_cell C03.out HEW6.out
        have q0 : w6.cell? ⟨W3.heap.size, 0, none⟩ = some (.int .i64 v.account) := cell_of_row _ _ 0 _ _ _ HXB6.out
        have q1 : w6.cell? ⟨W3.heap.size, 1, none⟩ = some (.slice va k vc) := cell_of_row _ _ 1 _ _ _ HXB6.out
        have q2 : w6.cell? ⟨W3.heap.size, 2, none⟩ = some (.int .u64 v.key) := cell_of_row _ _ 2 _ _ _ HXB6.out
        have q3 : w6.cell? ⟨W3.heap.size, 3, none⟩ = some (.int .i64 0) := cell_of_row _ _ 3 _ _ _ HXB6.out
        have z2 : w6.frozen? ⟨W3.heap.size, 2, none⟩ = false := frozen_of_row _ _ 2 _ _ HXB6.out
        have z3 : w6.frozen? ⟨W3.heap.size, 3, none⟩ = false := frozen_of_row _ _ 3 _ _ HXB6.out
        go_upto_region 16 with (fail)
        obtain ⟨W6, hW6⟩ : ∃ W6, w6.setCell ⟨W3.heap.size, 2, none⟩ (.int .u64 xk) = W6 := ⟨_, rfl⟩
        have hB6 : W6.heap[W3.heap.size]? = some (.cells #[.int .i64 v.account, .slice va k vc, .int .u64 xk, .int .i64 0] 26 (0, 0)) := by rw [← hW6]; exact (heap_setCell_same w6 _ 2 _ _ _ HXB6.out).trans (by simp)
        have hE6 : Ext W3 W6 := by rw [← hW6]; exact HEW6.out.setCell (p := ⟨W3.heap.size, 2, none⟩) (Nat.le_refl _) _
        rw [hW6]
        clear hW6 q0 q1 q2 q3 z2 z3 c02 c03
        have HB6 := Lib.hid hB6; have HE7 := Lib.hid hE6
        have c03 := ext_cell C03.out hE6
        have q3 : W6.cell? ⟨W3.heap.size, 3, none⟩ = some (.int .i64 0) := cell_of_row _ _ 3 _ _ _ hB6
        have z3 : W6.frozen? ⟨W3.heap.size, 3, none⟩ = false := frozen_of_row _ _ 3 _ _ hB6
        clear hB6 hE6
        go_upto_region 17 with (fail)
        obtain ⟨W7, hW7⟩ : ∃ W7, W6.setCell ⟨W3.heap.size, 3, none⟩ (.int .i64 (v.life - less)) = W7 := ⟨_, rfl⟩
        have hB7 : W7.heap[W3.heap.size]? = some (.cells #[.int .i64 v.account, .slice va k vc, .int .u64 xk, .int .i64 (v.life - less)] 26 (0, 0)) := by rw [← hW7]; exact (heap_setCell_same W6 _ 3 _ _ _ HB6.out).trans (by simp)
        have hE7 : Ext W3 W7 := by rw [← hW7]; exact HE7.out.setCell (p := ⟨W3.heap.size, 3, none⟩) (Nat.le_refl _) _
        rw [hW7]
        clear hW7 q3 z3 c03
        replace HE7 := Lib.hid hE7
        have q0 := (cell_of_row _ _ 0 _ _ _ hB7).trans (show _ = some (Value.int .i64 v.account) from rfl)
        have q1 := (cell_of_row _ _ 1 _ _ _ hB7).trans (show _ = some (Value.slice va k vc) from rfl)
        have q2 := (cell_of_row _ _ 2 _ _ _ hB7).trans (show _ = some (Value.int .u64 xk) from rfl)
        have q3 := (cell_of_row _ _ 3 _ _ _ hB7).trans (show _ = some (Value.int .i64 (v.life - less)) from rfl)
        clear hB7 hE7
        go_wp2_with fail
        rw [HWL.out]
        have hc := HMC.out { v with key := xk, life := v.life - less } _ rfl (ext_trans HE30.out HE7.out)
        rw [HMN.out] at hc
        refine hc.mono ?_
        clear hc
        rintro e w8 hr
        obtain ⟨ya, yc, yk, hyk, rfl, s1, s2, hi, hE8⟩ := retVE_open hr
        rw [HEA.out.1]
        have hbe := HEA.out.2
        rw [hbe] at hi hyk
        have HI8 := Lib.hid hi; have HYK := Lib.hid hyk; have S1 := Lib.hid s1; have S2 := Lib.hid s2
        have HE8 := Lib.hid (ext_trans HE7.out hE8)
        clear hr hi s1 s2 hE8 q0 q1 q2 q3 hbe hyk
        go_upto_region 18 with (fail)
        obtain ⟨W8, hW8⟩ : ∃ W8, w8.alloc (Obj.cells #[.bool true, .int .i64 (verdictOf l { v with key := xk, life := v.life - less } (decP l)).at', .slice ya yk yc] 32) = W8 := ⟨_, rfl⟩
        have hE : Ext w8 W8 := by rw [← hW8]; exact ext_alloc (Below.refl _ w8) _
        have hM : W8.heap[w8.heap.size]? = some (Obj.cells #[.bool true, .int .i64 (verdictOf l { v with key := xk, life := v.life - less } (decP l)).at', .slice ya yk yc] 32 (0, 0)) := by rw [← hW8]; exact World.alloc_heap_new w8 _
        rw [hW8]
        clear hW8
        have g0 : W8.cell? ⟨w8.heap.size, 0, none⟩ = some (.bool true) := cell_of_row _ _ 0 _ _ _ hM
        have g2 : W8.cell? ⟨w8.heap.size, 2, none⟩ = some (.slice ya yk yc) := cell_of_row _ _ 2 _ _ _ hM
        have HE9 := Lib.hid (ext_trans HE8.out hE)
        obtain ⟨d0, d1, d2⟩ := (HVB.out.ext HE9.out).cells
        have hi8 := HI8.out.ext hE
        clear hM hE
        go_wp2_with fail
        have hbv : (verdictOf l v (decP l)).by' = (verQ l v (decP l) v.names).by' := by rw [verdictOf_eq]; rfl
        rw [hbv] at hi8
        have hyr : yk = rk := by rw [← HYK.out, ← HRK.out, hbv]
        subst hyr
        have hc := SameInts_any (verQ l v (decP l) v.names).by' (verQ l v (decP l) v.names).by' ya ra yc rc yk yk W8 HRK.out HRK.out (by have := S1.out; have := S2.out; omega) (by have := S1.out; have := S2.out; omega) hi8 (HI.out.ext HE9.out)
        rw [decide_eq_true rfl] at hc
        refine hc.mono ?_
        clear hc
        rintro e w9 ⟨rfl, hE10⟩
        clear g0 g2 d0 d1 d2
        go_wp2_with fail
        go_ret
        exact ⟨rfl, ext_trans HE30.out (ext_trans HE9.out hE10)⟩
end Go.Proofs.YtmdmbdbbpdojnaaGreatDoor
namespace Go.Proofs.YtmdmbdbbpdojnaaGreatDoor
open Go.RowKit Nam Pol Go.Maps
attribute [local go_sem] gv_of

theorem right_clash {l : List Rul} {m : Nat} (hc : checkE l = 0) (hm : (clashL l).length = m) : (rightE l = 0 ∧ m = 0) ∨ (rightE l = 160 ∧ m ≠ 0) := by
  unfold rightE; rw [if_pos hc]
  by_cases h : clashL l = []
  · left; rw [if_pos h]; exact ⟨rfl, by rw [← hm, h]; rfl⟩
  · right; rw [if_neg h]; exact ⟨rfl, by rw [← hm]; simpa using h⟩
theorem one_ask {nm : ByteArray} (hs : isB nm.data.toList = true) : mayB ⟨0, [nm], 0, 1⟩ = true := by
  refine may_parts.2 ⟨?_, ?_⟩
  · simp [listOk, nmB, hs, memB]
  · simp
theorem one_tell {l : List Rul} {nm : ByteArray} (hr : rightE l = 0) (hs : isB nm.data.toList = true) : meansOf l ⟨0, [nm], 0, 1⟩ (decP l) = (⟨okOf l ⟨0, [nm], 0, 1⟩ (decP l nm), 0, [decP l nm]⟩, 0) :=
  one_means (v := ⟨0, [nm], 0, 1⟩) hr (one_ask hs) (by simp)
theorem bare_one {l : List Rul} {nm : ByteArray} {k : Nat} (hk : ([nm].filter (bareB l)).length = k) (hs : isB nm.data.toList = true) : (k = 1 ∧ decP l nm = -1) ∨ (k = 0 ∧ 0 ≤ decP l nm) := by
  have h1 := decP_range (l := l) hs
  have h2 := decP_eq (l := l) hs
  by_cases h : decP l nm < 0
  · left
    have hb : bareB l nm = true := by unfold bareB nmB; rw [← h2]; simp [hs, h]
    exact ⟨by rw [← hk]; simp [hb], by omega⟩
  · right
    have hb : bareB l nm = false := by unfold bareB nmB; rw [← h2]; simp [h]
    exact ⟨by rw [← hk]; simp [hb], by omega⟩
theorem bare_none {l : List Rul} {nm : ByteArray} {k : Nat} (hk : ([nm].filter (bareB l)).length = k) (hs : isB nm.data.toList = false) : k = 0 := by
  have hb : bareB l nm = false := by unfold bareB nmB; simp [hs]
  rw [← hk]; simp [hb]
/-- Is a text one of a rule's patterns? (in the walk's own form) -/
def eqAny (y : Rul) (p : ByteArray) : Bool := y.pats.any fun q => p.toList == q.toList
theorem clash_at {l : List Rul} {q1 q2 : Nat} (h : (q1, q2) ∈ clashL l) : ∃ x y, l[q1]? = some x ∧ l[q2]? = some y ∧ q1 < q2 ∧ x.pats.any (eqAny y) = true := by
  obtain ⟨h1, h2⟩ := mem_clash.1 h
  dsimp only at h1 h2
  unfold bothAt at h2
  cases hx : l[q1]? with
  | none => rw [hx] at h2; cases h2
  | some x =>
    cases hy : l[q2]? with
    | none => rw [hx, hy] at h2; cases h2
    | some y =>
      rw [hx, hy] at h2
      obtain ⟨p, hp, hm⟩ := List.any_eq_true.1 h2
      exact ⟨x, y, rfl, rfl, h1, List.any_eq_true.2 ⟨p, hp, List.any_eq_true.2 ⟨p, memB_iff.1 hm, by simp⟩⟩⟩
set_option maxRecDepth 100000 in
set_option maxHeartbeats 8000000 in
theorem PolicyClashes_any (l : List Rul) (nm : ByteArray) (a : Option Addr) (cap n : Nat) (w : World)
    (hn : l.length = n) (hnc : n ≤ cap) (hcm : cap ≤ maxLen) (hl : Ruls w a l) (hs : nm.size ≤ maxLen) (hw : Env w) :
    Calls Tryz.prog 9 #[.slice a n cap, .string nm] w (Ret (.bool true) w) := by
  have HN := Lib.hid hn; have HNC := Lib.hid hnc; have HCM := Lib.hid hcm; have HL := Lib.hid hl; have HS := Lib.hid hs; have HW := Lib.hid hw
  clear hn hnc hcm hl hs hw
  go_enter Tryz.func9, Tryz.ntmps9
  go_wp2_with fail
  refine (live16_any _ HW.out).mono ?_; rintro e w1 ⟨rfl, hE1⟩
  have HE := Lib.hid hE1
  clear hE1
  go_wp2_with fail
  have HWO : Hid (Value.agg #[.int .i64 0, .slice (some ⟨w1.heap.size, 0, none⟩) 1 1, .int .u64 0, .int .i64 0] = wshV ⟨0, [nm], 0, 0⟩ (some ⟨w1.heap.size, 0, none⟩) 1) := Lib.hid rfl
  rw [HWO.out]
  have hEn : Ext w1 (w1.alloc (Obj.cells #[.string nm] 9)) := ext_alloc (Below.refl _ w1) _
  refine (few16_any l ⟨0, [nm], 0, 0⟩ a cap n _ 1 _ HN.out HNC.out HCM.out (HL.out.ext (ext_trans HE.out hEn)) (by simp) (by unfold maxLen; omega) (strs_lit w1 [nm] 9 (by simpa using HS.out))).mono ?_; rintro e w2 ⟨rfl, hE2⟩
  replace HE := Lib.hid (ext_trans HE.out (ext_trans hEn hE2))
  clear hE2 hEn
  dsimp only
  cases hq : (fewB l && fewNames [nm])
  · clear hq
    go_wp2_with fail
    go_ret
    exact ⟨rfl, HE.out⟩
  · rw [Bool.and_eq_true] at hq
    have HF := Lib.hid (few_sizes hq.1 HN.out)
    clear hq
    go_wp2_with fail
    obtain ⟨ce, hce⟩ : ∃ ce, checkE l = ce := ⟨_, rfl⟩
    have hc := pCheck_any l a cap n _ HN.out HNC.out HCM.out (HL.out.ext HE.out)
    rw [hce] at hc
    refine hc.mono ?_
    clear hc
    rintro e w3 ⟨rfl, hE3⟩
    replace HE := Lib.hid (ext_trans HE.out hE3)
    clear hE3
    have HCE := Lib.hid hce
    clear hce
    by_cases h0 : ce = 0
    rotate_left
    · have t0 : (ce != 0) = true := by simpa using h0
      clear h0
      go_wp2_with fail
      go_ret
      exact ⟨rfl, HE.out⟩
    · subst h0
      obtain ⟨m, hm⟩ : ∃ m, (clashL l).length = m := ⟨_, rfl⟩
      have HM := Lib.hid hm
      clear hm
      go_wp2_with fail
      refine (pClash_any l a cap n _ HN.out HNC.out HCM.out (HL.out.ext HE.out) (by have := HF.out.1; omega) HF.out.2).mono ?_
      rintro e w4 hr
      obtain ⟨ca, cc, rfl, g1, g2, hcs, hE4⟩ := retL_len hr HM.out
      replace HE := Lib.hid (ext_trans HE.out hE4)
      clear hE4
      have HCS := Lib.hid hcs; have HN40 := Lib.hid HF.out.1
      unfold maxLen at g2
      clear hr hcs
      go_wp2_with fail
      go_loopw [6] (fun i wr => ∃ j : Nat, j ≤ m ∧ i = .int .i64 j ∧ Ext w4 wr) (fun i _ => m - (intOf i).toNat)
      case atStart => exact ⟨0, Nat.zero_le _, rfl, Below.refl _ _⟩
      case round =>
        obtain ⟨j, hj, rfl, hEr⟩ := hrel
        have HER := Lib.hid hEr
        clear hEr
        by_cases hlt : j < m
        · obtain ⟨q, hq⟩ := get_some HM.out hlt
          obtain ⟨q1, q2⟩ := q
          obtain ⟨b1, o1, rfl, p0, p1⟩ := HCS.out j _ hq
          dsimp only at p0 p1
          obtain ⟨x, y, hx, hy, h12, hxy⟩ := clash_at (List.mem_of_getElem? hq)
          obtain ⟨b2, o2, rfl, _, _, ⟨xa, xc, x2, lx1, lx2, hxs⟩, _⟩ := HL.out q1 x hx
          obtain ⟨b3, o3, hb, _, _, ⟨ya, yc, y2, ly1, ly2, hys⟩, _⟩ := HL.out q2 y hy
          cases hb
          obtain ⟨X, hX⟩ : ∃ X, x.pats.length = X := ⟨_, rfl⟩
          obtain ⟨Y, hY⟩ : ∃ Y, y.pats.length = Y := ⟨_, rfl⟩
          have hq2n : q2 < n := by rw [← HN.out]; exact (List.getElem?_eq_some_iff.1 hy).1
          rw [hX] at x2 lx1
          rw [hY] at y2 ly1
          have P0 := Lib.hid (ext_cell p0 HER.out); have P1 := Lib.hid (ext_cell p1 HER.out)
          have X2 := Lib.hid (ext_cell x2 (ext_trans HE.out HER.out)); have Y2 := Lib.hid (ext_cell y2 (ext_trans HE.out HER.out))
          have HXS := Lib.hid (hxs.ext (ext_trans HE.out HER.out)); have HYS := Lib.hid (hys.ext (ext_trans HE.out HER.out)); have HX := Lib.hid hX; have HY := Lib.hid hY; have HXY := Lib.hid hxy
          have hnc := HNC.out; have hcm := HCM.out; have hn40 := HN40.out
          unfold maxLen at hcm lx2 ly2
          have t1 : decide ((q1 : Int) < 0) = false := by simp
          have t2 : decide (q2 ≤ q1) = false := by simp; omega
          have t3 : decide (n ≤ q2) = false := by simp; omega
          have hq1n : q1 < n := by omega
          have hq1c : q1 < cap := by omega
          have hq2c : q2 < cap := by omega
          have hjc : j < cc := by omega
          have p0 := P0.out; have p1 := P1.out; have x2 := X2.out
          clear hq hx hy hxs hys hX hY hxy
          go_wp2_with fail
          clear p0 p1 x2
          obtain ⟨wo, rfl⟩ : ∃ wo : World, wo = wr := ⟨_, rfl⟩
          go_loopw [9, 10] (fun met kk wr => ∃ k : Nat, k ≤ X ∧ kk = .int .i64 k ∧ met = .bool ((x.pats.take k).any (eqAny y)) ∧ Ext wo wr) (fun _ kk _ => X - (intOf kk).toNat)
          case atStart => exact ⟨0, Nat.zero_le _, rfl, rfl, Below.refl _ _⟩
          case round =>
            obtain ⟨k, hk, rfl, rfl, hEr⟩ := hrel
            have HE2 := Lib.hid hEr
            obtain ⟨pre, hpre⟩ : ∃ pre, (x.pats.take k).any (eqAny y) = pre := ⟨_, rfl⟩
            rw [hpre]
            have HPRE := Lib.hid hpre
            have x2 := ext_cell X2.out HE2.out; have y2 := ext_cell Y2.out HE2.out
            clear hEr hpre
            by_cases hlk : k < X
            · obtain ⟨p, hp⟩ := get_some HX.out hlk
              obtain ⟨b4, o4, rfl, e4, _⟩ := HXS.out k p hp
              rw [Nat.mul_one] at e4
              have E4 := Lib.hid e4; have HP := Lib.hid hp
              have hkc : k < xc := by omega
              clear hp e4
              go_wp2_with fail
              clear x2 y2
              obtain ⟨wi, rfl⟩ : ∃ wi : World, wi = wr := ⟨_, rfl⟩
              go_loopw [9, 11] (fun met jj wr => ∃ i : Nat, i ≤ Y ∧ jj = .int .i64 i ∧ met = .bool (pre || (y.pats.take i).any (fun q => p.toList == q.toList)) ∧ Ext wo wr) (fun _ jj _ => Y - (intOf jj).toNat)
              case atStart => exact ⟨0, Nat.zero_le _, rfl, by simp, HE2.out⟩
              case round =>
                obtain ⟨i, hi, rfl, rfl, hEr⟩ := hrel
                have HE3 := Lib.hid hEr
                obtain ⟨bm, hbm⟩ : ∃ bm, (pre || (y.pats.take i).any (fun q => p.toList == q.toList)) = bm := ⟨_, rfl⟩
                rw [hbm]
                have HBM := Lib.hid hbm
                have x2 := ext_cell X2.out HE3.out; have y2 := ext_cell Y2.out HE3.out; have e4 := ext_cell E4.out HE3.out
                clear hEr hbm
                by_cases hli : i < Y
                · obtain ⟨q, hq⟩ := get_some HY.out hli
                  obtain ⟨b5, o5, rfl, e5, _⟩ := (HYS.out.ext HE3.out) i q hq
                  rw [Nat.mul_one] at e5
                  have hic : i < yc := by omega
                  have HN2 := Lib.hid (show (pre || (y.pats.take (i + 1)).any (fun q => p.toList == q.toList)) = (bm || (p.toList == q.toList)) by rw [anyB_take hq, ← HBM.out, Bool.or_assoc])
                  clear hq
                  go_wp2_with fail
                  refine wp_region_S (by kernel_rfl) (by kernel_rfl) (by kernel_rfl) (by kernel_rfl) (by kernel_rfl) (fun w' => Ext wr w') ((Fr.drew (fun _ => False) _).ext (fun _ _ h => h)) ?_
                  repeat
                    first
                    | (refine steps_and rfl rfl rfl rfl ?_; simp only [Act.put, List.setIfInBounds_toArray, List.set_cons_succ, List.set_cons_zero])
                    | (refine steps_or rfl rfl rfl rfl ?_; simp only [Act.put, List.setIfInBounds_toArray, List.set_cons_succ, List.set_cons_zero])
                    | (refine steps_skip rfl ?_; simp only [Act.put, List.setIfInBounds_toArray, List.set_cons_succ, List.set_cons_zero])
                    | (refine steps_guard_and rfl rfl rfl rfl rfl ?_; simp only [Act.put, List.setIfInBounds_toArray, List.set_cons_succ, List.set_cons_zero])
                    | (refine steps_guard (v := ?_) rfl rfl (fun hb w' hS => ?_) ?_; rotate_left; (focus (have k0 := ext_cell x2 hS; have k1 := ext_cell y2 hS; have k2 := ext_cell e4 hS; have k3 := ext_cell e5 hS; unfold Gives; go_simp; first | exact is_mk hS)); simp only [Act.put, List.setIfInBounds_toArray, List.set_cons_succ, List.set_cons_zero])
                    | (refine steps_guard2 (v := ?_) rfl rfl rfl (fun hb1 hb w' hS => ?_) ?_; rotate_left; (focus (have k0 := ext_cell x2 hS; have k1 := ext_cell y2 hS; have k2 := ext_cell e4 hS; have k3 := ext_cell e5 hS; unfold Gives; go_simp; first | exact is_mk hS)); simp only [Act.put, List.setIfInBounds_toArray, List.set_cons_succ, List.set_cons_zero])
                    | (refine steps_run (v := ?_) rfl (fun w' hS => ?_) ?_; rotate_left; (focus (have k0 := ext_cell x2 hS; have k1 := ext_cell y2 hS; have k2 := ext_cell e4 hS; have k3 := ext_cell e5 hS; unfold Gives; go_simp; first | exact is_mk hS)); simp only [Act.put, List.setIfInBounds_toArray, List.set_cons_succ, List.set_cons_zero])
                  refine steps_end fun w' hE' => ?_
                  go_wp2_with fail
                  go_roundw
                  case rel => exact ⟨i + 1, by omega, by go_num, by rw [HN2.out], ext_trans HE3.out hE'⟩
                  case measure => simp [intOf]; omega
                · obtain rfl : i = Y := by omega
                  have HN2 := Lib.hid (show (x.pats.take (k + 1)).any (eqAny y) = bm by
                    rw [anyB_take HP.out, HPRE.out, ← HBM.out, List.take_of_length_le (by rw [HY.out]; exact Nat.le_refl _)]; rfl)
                  go_wp2_with fail
                  go_roundw
                  case rel => exact ⟨k + 1, by omega, by go_num, by rw [HN2.out], HE3.out⟩
                  case measure => simp [intOf]; omega
            · obtain rfl : k = X := by omega
              have hpt : pre = true := by
                rw [← HPRE.out, List.take_of_length_le (by rw [HX.out]; exact Nat.le_refl _)]; exact HXY.out
              subst hpt
              go_wp2_with fail
              go_roundw
              case rel => exact ⟨j + 1, by omega, by go_num, ext_trans HER.out HE2.out⟩
              case measure => simp [intOf]; omega
        · obtain rfl : j = m := by omega
          have hE := HER.out
          replace HE := Lib.hid (ext_trans HE.out hE)
          clear hE
          obtain ⟨p, hp⟩ : ∃ p, (compR l).length = p := ⟨_, rfl⟩
          obtain ⟨q, hq⟩ : ∃ q, (compN l).length = q := ⟨_, rfl⟩
          obtain ⟨kb, hkb⟩ : ∃ kb, ([nm].filter (bareB l)).length = kb := ⟨_, rfl⟩
          have HP := Lib.hid hp; have HQ := Lib.hid hq; have HKB := Lib.hid hkb
          clear hp hq hkb HCS HER
          rcases right_clash HCE.out HM.out with ⟨hr0, hj0⟩ | ⟨hr0, hj0⟩
          · have HR0 := Lib.hid hr0
            have t1 : ((j : Int) == 0) = true := by simpa using hj0
            clear hr0 hj0
            go_wp2_with fail
            have hc := Compile_any l a cap n _ HN.out HNC.out HCM.out (HL.out.ext HE.out) (by have := HF.out.1; omega) HF.out.2 (HW.out.ext HE.out)
            rw [HR0.out] at hc
            refine hc.mono ?_
            clear hc
            rintro e w5 hr
            obtain ⟨ta, tc, tb, td, rfl, _, _, _, _, _, _, hE5⟩ := retTab_lit hr HP.out HQ.out
            clear hr
            replace HE := Lib.hid (ext_trans HE.out hE5)
            clear hE5
            go_upto_region 23 with (fail)
            obtain ⟨W5, hW5⟩ : ∃ W5, w5.alloc (Obj.cells #[.slice ta p tc, .slice tb q td] 45) = W5 := ⟨_, rfl⟩
            have hE : Ext w5 W5 := by rw [← hW5]; exact ext_alloc (Below.refl _ w5) _
            have HSZ := Lib.hid (show W5.heap.size = w5.heap.size + 1 by rw [← hW5]; simp)
            rw [hW5]
            clear hW5
            replace HE := Lib.hid (ext_trans HE.out hE)
            clear hE
            go_wp2_with fail
            have hst := strs_lit W5 [nm] 9 (by simpa using HS.out)
            rw [HSZ.out] at hst
            have hEn : Ext W5 (W5.alloc (Obj.cells #[.string nm] 9)) := ext_alloc (Below.refl _ W5) _
            refine (pBare_any l [nm] a _ cap n 1 1 _ HN.out HNC.out HCM.out (HL.out.ext (ext_trans HE.out hEn)) rfl (Nat.le_refl _) (by unfold maxLen; omega) hst (by omega) (HW.out.ext (ext_trans HE.out hEn))).mono ?_
            rintro e w6 hr
            obtain ⟨ka, kc, rfl, _, _, _, hE6⟩ := retL_len hr HKB.out
            replace HE := Lib.hid (ext_trans HE.out (ext_trans hEn hE6))
            clear hE6 hEn hr hst
            have HWV : Hid (Value.agg #[.int .i64 0, .slice (some ⟨w6.heap.size, 0, none⟩) 1 1, .int .u64 0, .int .i64 1] = wshV ⟨0, [nm], 0, 1⟩ (some ⟨w6.heap.size, 0, none⟩) 1) := Lib.hid rfl
            go_wp2_with fail
            rw [HWV.out]
            have hEn : Ext w6 (w6.alloc (Obj.cells #[.string nm] 9)) := ext_alloc (Below.refl _ w6) _
            have hc := pMeans_any l ⟨0, [nm], 0, 1⟩ a cap n _ 1 _ HN.out HNC.out HCM.out (HL.out.ext (ext_trans HE.out hEn)) (by have := HF.out.1; omega) HF.out.2 (by simp) (by unfold maxLen; omega) (strs_lit w6 [nm] 9 (by simpa using HS.out)) (HW.out.ext (ext_trans HE.out hEn))
            obtain ⟨X, hX⟩ : ∃ X, meansOf l ⟨0, [nm], 0, 1⟩ (decP l) = X := ⟨_, rfl⟩
            rw [hX] at hc
            have HX := Lib.hid hX
            clear hX
            refine hc.mono ?_
            clear hc
            rintro e w7 hr
            rcases X with ⟨⟨al, at0, bs⟩, er⟩
            obtain ⟨ra, rc, k, hk, rfl, r1, r2, hi, hE7⟩ := retVE_open hr
            dsimp only at hi hk ⊢
            have HI := Lib.hid hi; have R1 := Lib.hid r1; have R2 := Lib.hid r2; have HK := Lib.hid hk
            replace HE := Lib.hid (ext_trans HE.out (ext_trans hEn hE7))
            clear hr hi r1 r2 hk hEn hE7
            go_upto_region 27 with (fail)
            obtain ⟨W7, hW7⟩ : ∃ W7, w7.alloc (Obj.cells #[.bool al, .int .i64 at0, .slice ra k rc] 32) = W7 := ⟨_, rfl⟩
            have hE : Ext w7 W7 := by rw [← hW7]; exact ext_alloc (Below.refl _ w7) _
            have hM : W7.heap[w7.heap.size]? = some (Obj.cells #[.bool al, .int .i64 at0, .slice ra k rc] 32 (0, 0)) := by rw [← hW7]; exact World.alloc_heap_new w7 _
            rw [hW7]
            clear hW7
            have HVB := Lib.hid (show VerB W7 w7.heap.size _ _ (.slice ra k rc) from hM)
            clear hM
            replace HE := Lib.hid (ext_trans HE.out hE); replace HI := Lib.hid (HI.out.ext hE)
            clear hE
            have hcc := Check_any nm W7 (by have := HS.out; unfold maxLen at this; omega)
            cases hb : isB nm.data.toList
            · obtain rfl := bare_none HKB.out hb
              rw [hb, okOr_false] at hcc
              clear hb
              go_wp2_with fail
              refine hcc.mono ?_
              rintro e w8 ⟨rfl, hE8⟩
              replace HE := Lib.hid (ext_trans HE.out hE8)
              clear hE8
              clear hcc
              go_wp2_with fail
              go_ret
              exact ⟨rfl, HE.out⟩
            · rw [hb, okOr_true] at hcc
              have HB := Lib.hid hb
              clear hb
              have HX1 := Lib.hid (HX.out.symm.trans (one_tell HR0.out HB.out))
              obtain ⟨d, hd⟩ : ∃ d, decP l nm = d := ⟨_, rfl⟩
              rw [hd] at HX1
              have hz := HX1.out
              simp only [Prod.mk.injEq, ver_eq] at hz
              obtain ⟨⟨_, _, rfl⟩, rfl⟩ := hz
              obtain rfl : k = 1 := by rw [← HK.out]; rfl
              have hbo := bare_one HKB.out HB.out
              rw [hd] at hbo
              obtain ⟨b1, o1, rfl, i1⟩ := HI.out 0 d rfl
              clear HX HX1 hd
              go_wp2_with fail
              refine hcc.mono ?_
              rintro e w8 ⟨rfl, hE8⟩
              have hvb := HVB.out.ext hE8
              replace i1 := ext_cell i1 hE8
              rw [Nat.zero_mul, Nat.add_zero] at i1
              replace HE := Lib.hid (ext_trans HE.out hE8)
              clear hE8
              obtain ⟨d0, d1, d2⟩ := hvb.cells
              have hr1 : 0 < rc := by have := R1.out; omega
              clear hcc
              rcases hbo with ⟨rfl, hd⟩ | ⟨rfl, hd⟩
              · subst hd
                go_wp2_with fail
                go_ret
                exact ⟨rfl, HE.out⟩
              · have td : (d == -1) = false := by simp; omega
                go_wp2_with fail
                go_ret
                exact ⟨rfl, HE.out⟩
          · have HR0 := Lib.hid hr0
            have t1 : ((j : Int) == 0) = false := by simpa using hj0
            clear hr0 hj0
            go_wp2_with fail
            have hc := Compile_any l a cap n _ HN.out HNC.out HCM.out (HL.out.ext HE.out) (by have := HF.out.1; omega) HF.out.2 (HW.out.ext HE.out)
            rw [HR0.out] at hc
            refine hc.mono ?_
            clear hc
            rintro e w5 hr
            obtain ⟨ta, tc, tb, td, rfl, _, _, _, _, _, _, hE5⟩ := retTab_lit hr HP.out HQ.out
            clear hr
            replace HE := Lib.hid (ext_trans HE.out hE5)
            clear hE5
            go_upto_region 23 with (fail)
            obtain ⟨W5, hW5⟩ : ∃ W5, w5.alloc (Obj.cells #[.slice ta p tc, .slice tb q td] 45) = W5 := ⟨_, rfl⟩
            have hE : Ext w5 W5 := by rw [← hW5]; exact ext_alloc (Below.refl _ w5) _
            have HSZ := Lib.hid (show W5.heap.size = w5.heap.size + 1 by rw [← hW5]; simp)
            rw [hW5]
            clear hW5
            replace HE := Lib.hid (ext_trans HE.out hE)
            clear hE
            go_wp2_with fail
            have hst := strs_lit W5 [nm] 9 (by simpa using HS.out)
            rw [HSZ.out] at hst
            have hEn : Ext W5 (W5.alloc (Obj.cells #[.string nm] 9)) := ext_alloc (Below.refl _ W5) _
            refine (pBare_any l [nm] a _ cap n 1 1 _ HN.out HNC.out HCM.out (HL.out.ext (ext_trans HE.out hEn)) rfl (Nat.le_refl _) (by unfold maxLen; omega) hst (by omega) (HW.out.ext (ext_trans HE.out hEn))).mono ?_
            rintro e w6 hr
            obtain ⟨ka, kc, rfl, _, _, _, hE6⟩ := retL_len hr HKB.out
            replace HE := Lib.hid (ext_trans HE.out (ext_trans hEn hE6))
            clear hE6 hEn hr hst
            have HWV : Hid (Value.agg #[.int .i64 0, .slice (some ⟨w6.heap.size, 0, none⟩) 1 1, .int .u64 0, .int .i64 1] = wshV ⟨0, [nm], 0, 1⟩ (some ⟨w6.heap.size, 0, none⟩) 1) := Lib.hid rfl
            go_wp2_with fail
            rw [HWV.out]
            have hEn : Ext w6 (w6.alloc (Obj.cells #[.string nm] 9)) := ext_alloc (Below.refl _ w6) _
            have hc := pMeans_any l ⟨0, [nm], 0, 1⟩ a cap n _ 1 _ HN.out HNC.out HCM.out (HL.out.ext (ext_trans HE.out hEn)) (by have := HF.out.1; omega) HF.out.2 (by simp) (by unfold maxLen; omega) (strs_lit w6 [nm] 9 (by simpa using HS.out)) (HW.out.ext (ext_trans HE.out hEn))
            obtain ⟨X, hX⟩ : ∃ X, meansOf l ⟨0, [nm], 0, 1⟩ (decP l) = X := ⟨_, rfl⟩
            rw [hX] at hc
            have HX := Lib.hid hX
            clear hX
            refine hc.mono ?_
            clear hc
            rintro e w7 hr
            rcases X with ⟨⟨al, at0, bs⟩, er⟩
            obtain ⟨ra, rc, k, hk, rfl, r1, r2, hi, hE7⟩ := retVE_open hr
            dsimp only at hi hk ⊢
            have HI := Lib.hid hi; have R1 := Lib.hid r1; have R2 := Lib.hid r2; have HK := Lib.hid hk
            replace HE := Lib.hid (ext_trans HE.out (ext_trans hEn hE7))
            clear hr hi r1 r2 hk hEn hE7
            go_upto_region 27 with (fail)
            obtain ⟨W7, hW7⟩ : ∃ W7, w7.alloc (Obj.cells #[.bool al, .int .i64 at0, .slice ra k rc] 32) = W7 := ⟨_, rfl⟩
            have hE : Ext w7 W7 := by rw [← hW7]; exact ext_alloc (Below.refl _ w7) _
            have hM : W7.heap[w7.heap.size]? = some (Obj.cells #[.bool al, .int .i64 at0, .slice ra k rc] 32 (0, 0)) := by rw [← hW7]; exact World.alloc_heap_new w7 _
            rw [hW7]
            clear hW7
            have HVB := Lib.hid (show VerB W7 w7.heap.size _ _ (.slice ra k rc) from hM)
            clear hM
            replace HE := Lib.hid (ext_trans HE.out hE); replace HI := Lib.hid (HI.out.ext hE)
            clear hE
            have hcc := Check_any nm W7 (by have := HS.out; unfold maxLen at this; omega)
            cases hb : isB nm.data.toList
            · obtain rfl := bare_none HKB.out hb
              rw [hb, okOr_false] at hcc
              clear hb
              go_wp2_with fail
              refine hcc.mono ?_
              rintro e w8 ⟨rfl, hE8⟩
              replace HE := Lib.hid (ext_trans HE.out hE8)
              clear hE8
              clear hcc
              go_wp2_with fail
              go_ret
              exact ⟨rfl, HE.out⟩
            · rw [hb, okOr_true] at hcc
              have HB := Lib.hid hb
              clear hb
              go_wp2_with fail
              refine hcc.mono ?_
              rintro e w8 ⟨rfl, hE8⟩
              replace HE := Lib.hid (ext_trans HE.out hE8)
              clear hE8
              clear hcc
              go_wp2_with fail
              go_ret
              exact ⟨rfl, HE.out⟩
end Go.Proofs.YtmdmbdbbpdojnaaGreatDoor
namespace Go.Proofs.YtmdmbdbbpdojnaaGreatDoor
open Go.RowKit Nam Pol Go.Maps
attribute [local go_sem] gv_of

theorem rul_elcV {W : World} {r : Rul} {pa : Option Addr} {pc : Nat} (h1 : r.pats.length ≤ pc) (h2 : pc ≤ maxLen) (hs : Strs W pa r.pats) (h3 : r.name.size ≤ maxLen) (h4 : 0 ≤ r.keyMin) :
    ElC 7 RulAt W [.string r.name, .bool r.allow, .slice pa r.pats.length pc, .int .u64 r.keyMin, .int .i64 r.lifeMax, .int .i64 r.most, .int .i64 r.window] r :=
  ⟨rfl, by simp [Value.oneCell'], fun w' b' o' hE hc => ⟨hc 0 _ rfl, hc 1 _ rfl, ⟨pa, pc, hc 2 _ rfl, h1, h2, hs.ext hE⟩, hc 3 _ rfl, hc 4 _ rfl, hc 5 _ rfl, hc 6 _ rfl, h3, h4⟩⟩
/-- A slice of one rule, made of its cells. -/
theorem rul_one {W w : World} {r : Rul} {a0 a1 a2 a3 a4 a5 a6 : Value} {T : TypeId} (h : ElC 7 RulAt W [a0, a1, a2, a3, a4, a5, a6] r) (hE : Ext W w) : Ruls (w.alloc (.cells #[a0, a1, a2, a3, a4, a5, a6] T)) (some ⟨w.heap.size, 0, none⟩) [r] := fun i x hx => by
  have hi := (List.getElem?_eq_some_iff.1 hx).1
  obtain rfl : i = 0 := by simpa using hi
  obtain rfl : r = x := by simpa using hx
  refine ⟨_, _, rfl, h.2.2 _ _ _ (ext_alloc hE _) fun j u hu => ?_⟩
  have := seven_cells_new w a0 a1 a2 a3 a4 a5 a6 T j u hu
  rw [show ((⟨w.heap.size, 0, none⟩ : Addr).add j) = ⟨w.heap.size, j, none⟩ from by unfold Addr.add; split <;> simp_all] at this
  simpa using this
theorem more_bad {l : List Rul} {r : Rul} {v : Wsh} {x y : Ver} {fr : Int} (hX : meansOf l v (decP l) = (x, 0)) (hY : meansOf (l ++ [r]) v (decP (l ++ [r])) = (y, fr)) (h : fr ≠ 0) : checkE (l ++ [r]) ≠ 0 ∨ clashL (l ++ [r]) ≠ [] := by
  obtain ⟨_, hmay⟩ := means_ok (show (meansOf l v (decP l)).2 = 0 by rw [hX])
  by_cases h1 : checkE (l ++ [r]) = 0
  · refine .inr fun h2 => h ?_
    have hr : rightE (l ++ [r]) = 0 := by unfold rightE; rw [if_pos h1, if_pos h2]
    rw [means_of hr hmay] at hY
    exact (congrArg Prod.snd hY).symm
  · exact .inl h1
theorem more_good {l : List Rul} {r : Rul} {v : Wsh} {al al2 : Bool} {at0 at2 er : Int} {bs bs2 : List Int} (hX : meansOf l v (decP l) = (⟨al, at0, bs⟩, er)) (hY : meansOf (l ++ [r]) v (decP (l ++ [r])) = (⟨al2, at2, bs2⟩, 0)) :
    rightE (l ++ [r]) = 0 ∧ mayB v = true ∧ bs2 = v.names.map (decP (l ++ [r])) ∧ bs = v.names.map (decP l) ∧ er = 0 := by
  obtain ⟨hr, hmay⟩ := means_ok (show (meansOf (l ++ [r]) v (decP (l ++ [r]))).2 = 0 by rw [hY])
  rw [means_of hr hmay, verdictOf_eq] at hY
  rw [means_of (more_right hr) hmay, verdictOf_eq] at hX
  injection hX with h1 h2
  injection hY with h3 _
  injection h1 with _ _ h1
  injection h3 with _ _ h3
  exact ⟨hr, hmay, h3.symm, h1.symm, h2.symm⟩
theorem sl_none {α : Type} {m : Nat} {R : ElR α} {w : World} {a : Option Addr} {l : List α} {n : Nat} (h : SlA m R w a l) (hn : l.length = n) (ha : a = none) : n = 0 := by
  cases l with
  | nil => exact hn.symm
  | cons x l => obtain ⟨b, o, hb, _⟩ := h 0 x rfl; rw [ha] at hb; cases hb
set_option maxRecDepth 100000 in
set_option maxHeartbeats 8000000 in
theorem PolicyMore_any (l : List Rul) (r : Rul) (v : Wsh) (a : Option Addr) (cap n : Nat) (pa : Option Addr) (pc : Nat) (va : Option Addr) (vc : Nat) (w : World)
    (hn : l.length = n) (hnc : n ≤ cap) (hcm : cap ≤ maxLen) (hl : Ruls w a l) (hrp : r.pats.length ≤ pc) (hrm : pc ≤ maxLen) (hrs : Strs w pa r.pats) (hrn : r.name.size ≤ maxLen) (hrk : 0 ≤ r.keyMin)
    (hvc : v.names.length ≤ vc) (hvm : vc ≤ maxLen) (hv : Strs w va v.names) (hvs : ∀ s ∈ v.names, s.size ≤ 9223372036854775807) (hw : Env w) :
    Calls Tryz.prog 11 #[.slice a n cap, rulV r pa pc, wshV v va vc] w (Ret (.bool true) w) := by
  have hel := rul_elcV hrp hrm hrs hrn hrk
  have HN := Lib.hid hn; have HNC := Lib.hid hnc; have HCM := Lib.hid hcm; have HL := Lib.hid hl; have HRP := Lib.hid hrp; have HRM := Lib.hid hrm; have HRS := Lib.hid hrs; have HRN := Lib.hid hrn; have HRK := Lib.hid hrk; have HVC := Lib.hid hvc; have HVM := Lib.hid hvm; have HV := Lib.hid hv; have HVS := Lib.hid hvs; have HW := Lib.hid hw
  clear hn hnc hcm hl hrp hrm hrs hrn hrk hvc hvm hv hvs hw
  obtain ⟨k, hk⟩ : ∃ k, v.names.length = k := ⟨_, rfl⟩
  have HK := Lib.hid hk
  have HWV : Hid (Value.agg #[.int .i64 v.account, .slice va k vc, .int .u64 v.key, .int .i64 v.life] = wshV v va vc) := Lib.hid (by unfold wshV; rw [hk])
  unfold wshV rulV
  rw [hk]
  clear hk
  obtain ⟨np, hnp⟩ : ∃ np, r.pats.length = np := ⟨_, rfl⟩
  rw [hnp] at hel ⊢
  have HNP := Lib.hid hnp; have HEL := Lib.hid hel
  clear hnp hel
  go_enter Tryz.func11, Tryz.ntmps11
  go_upto_region 1 with (fail)
  obtain ⟨W0, hW0⟩ : ∃ W0, ((w).alloc (Obj.cells #[.string r.name, .bool r.allow, .slice pa np pc, .int .u64 r.keyMin, .int .i64 r.lifeMax, .int .i64 r.most, .int .i64 r.window] 54)).alloc (Obj.cells #[.int .i64 v.account, .slice va k vc, .int .u64 v.key, .int .i64 v.life] 26) = W0 := ⟨_, rfl⟩
  have hE0 : Ext w W0 := by rw [← hW0]; exact ext_alloc (ext_alloc (Below.refl _ _) _) _
  have c00 : W0.cell? ⟨w.heap.size, 0, none⟩ = some (.string r.name) := by rw [← hW0]; simp [go_sem]
  have c01 : W0.cell? ⟨w.heap.size, 1, none⟩ = some (.bool r.allow) := by rw [← hW0]; simp [go_sem]
  have c02 : W0.cell? ⟨w.heap.size, 2, none⟩ = some (.slice pa np pc) := by rw [← hW0]; simp [go_sem]
  have c03 : W0.cell? ⟨w.heap.size, 3, none⟩ = some (.int .u64 r.keyMin) := by rw [← hW0]; simp [go_sem]
  have c04 : W0.cell? ⟨w.heap.size, 4, none⟩ = some (.int .i64 r.lifeMax) := by rw [← hW0]; simp [go_sem]
  have c05 : W0.cell? ⟨w.heap.size, 5, none⟩ = some (.int .i64 r.most) := by rw [← hW0]; simp [go_sem]
  have c06 : W0.cell? ⟨w.heap.size, 6, none⟩ = some (.int .i64 r.window) := by rw [← hW0]; simp [go_sem]
  have c10 : W0.cell? ⟨w.heap.size + 1, 0, none⟩ = some (.int .i64 v.account) := by rw [← hW0]; simp [go_sem]
  have c11 : W0.cell? ⟨w.heap.size + 1, 1, none⟩ = some (.slice va k vc) := by rw [← hW0]; simp [go_sem]
  have c12 : W0.cell? ⟨w.heap.size + 1, 2, none⟩ = some (.int .u64 v.key) := by rw [← hW0]; simp [go_sem]
  have c13 : W0.cell? ⟨w.heap.size + 1, 3, none⟩ = some (.int .i64 v.life) := by rw [← hW0]; simp [go_sem]
  have C00 := Lib.hid c00; have C01 := Lib.hid c01; have C02 := Lib.hid c02; have C03 := Lib.hid c03; have C04 := Lib.hid c04; have C05 := Lib.hid c05; have C06 := Lib.hid c06; have C10 := Lib.hid c10; have C11 := Lib.hid c11; have C12 := Lib.hid c12; have C13 := Lib.hid c13; have HE0 := Lib.hid hE0
  rw [hW0]
  clear hW0 hE0
  go_wp2_with fail
  refine (live16_any _ (HW.out.ext HE0.out)).mono ?_; rintro e w1 ⟨rfl, hE1⟩
  have HE := Lib.hid (ext_trans HE0.out hE1)
  replace C00 := Lib.hid (ext_cell C00.out hE1); have c00 := C00.out; replace C01 := Lib.hid (ext_cell C01.out hE1); have c01 := C01.out; replace C02 := Lib.hid (ext_cell C02.out hE1); have c02 := C02.out; replace C03 := Lib.hid (ext_cell C03.out hE1); have c03 := C03.out; replace C04 := Lib.hid (ext_cell C04.out hE1); have c04 := C04.out; replace C05 := Lib.hid (ext_cell C05.out hE1); have c05 := C05.out; replace C06 := Lib.hid (ext_cell C06.out hE1); have c06 := C06.out; replace C10 := Lib.hid (ext_cell C10.out hE1); have c10 := C10.out; replace C11 := Lib.hid (ext_cell C11.out hE1); have c11 := C11.out; replace C12 := Lib.hid (ext_cell C12.out hE1); have c12 := C12.out; replace C13 := Lib.hid (ext_cell C13.out hE1); have c13 := C13.out
  clear hE1
  go_wp2_with fail
  rw [HWV.out]
  refine (few16_any l v a cap n va vc _ HN.out HNC.out HCM.out (HL.out.ext HE.out) HVC.out HVM.out (HV.out.ext HE.out)).mono ?_; rintro e w2 ⟨rfl, hE2⟩
  replace HE := Lib.hid (ext_trans HE.out hE2)
  replace C00 := Lib.hid (ext_cell C00.out hE2); have c00 := C00.out; replace C01 := Lib.hid (ext_cell C01.out hE2); have c01 := C01.out; replace C02 := Lib.hid (ext_cell C02.out hE2); have c02 := C02.out; replace C03 := Lib.hid (ext_cell C03.out hE2); have c03 := C03.out; replace C04 := Lib.hid (ext_cell C04.out hE2); have c04 := C04.out; replace C05 := Lib.hid (ext_cell C05.out hE2); have c05 := C05.out; replace C06 := Lib.hid (ext_cell C06.out hE2); have c06 := C06.out; replace C10 := Lib.hid (ext_cell C10.out hE2); have c10 := C10.out; replace C11 := Lib.hid (ext_cell C11.out hE2); have c11 := C11.out; replace C12 := Lib.hid (ext_cell C12.out hE2); have c12 := C12.out; replace C13 := Lib.hid (ext_cell C13.out hE2); have c13 := C13.out
  clear hE2
  cases hq : (fewB l && fewNames v.names)
  · clear hq
    go_wp2_with fail
    go_ret
    exact ⟨rfl, HE.out⟩
  · rw [Bool.and_eq_true] at hq
    have HF := Lib.hid (few_sizes hq.1 HN.out); have HFN := Lib.hid (fewNames_len hq.2)
    clear hq
    have HOne := Lib.hid (rul_one HEL.out (T := 54) HE.out)
    go_wp2_with fail
    refine (Few_any [r] _ 1 1 _ rfl (Nat.le_refl _) (by unfold maxLen; omega) HOne.out).mono ?_; rintro e w3 ⟨rfl, rfl⟩
    cases hq : fewB [r]
    · clear hq
      go_wp2_with fail
      go_ret
      exact ⟨rfl, ext_alloc HE.out _⟩
    · have HFR := Lib.hid ((few_sizes hq rfl).2 r (by simp))
      clear hq
      obtain ⟨i0, hi, hz0, hz1, hz2⟩ := info_parts Tryz.infoRule
      obtain ⟨W3, hW3⟩ : ∃ W3, w2.alloc (Obj.cells #[.string r.name, .bool r.allow, .slice pa np pc, .int .u64 r.keyMin, .int .i64 r.lifeMax, .int .i64 r.most, .int .i64 r.window] 54) = W3 := ⟨_, rfl⟩
      have hE3 : Ext w2 W3 := by rw [← hW3]; exact ext_alloc (Below.refl _ w2) _
      rw [hW3]
      clear hW3
      replace HE := Lib.hid (ext_trans HE.out hE3); replace C00 := Lib.hid (ext_cell C00.out hE3); have c00 := C00.out; replace C01 := Lib.hid (ext_cell C01.out hE3); have c01 := C01.out; replace C02 := Lib.hid (ext_cell C02.out hE3); have c02 := C02.out; replace C03 := Lib.hid (ext_cell C03.out hE3); have c03 := C03.out; replace C04 := Lib.hid (ext_cell C04.out hE3); have c04 := C04.out; replace C05 := Lib.hid (ext_cell C05.out hE3); have c05 := C05.out; replace C06 := Lib.hid (ext_cell C06.out hE3); have c06 := C06.out; replace C10 := Lib.hid (ext_cell C10.out hE3); have c10 := C10.out; replace C11 := Lib.hid (ext_cell C11.out hE3); have c11 := C11.out; replace C12 := Lib.hid (ext_cell C12.out hE3); have c12 := C12.out; replace C13 := Lib.hid (ext_cell C13.out hE3); have c13 := C13.out
      clear hE3
      obtain ⟨css, g1, g2, g3, g4, g5⟩ := sl_css (rul_cs W3) (HL.out.ext HE.out)
      have h0 : a = none → n = 0 := fun h => sl_none (HL.out) HN.out h
      rw [HN.out] at g3
      have HG1 := Lib.hid g1; have HG2 := Lib.hid g2; have HG3 := Lib.hid g3; have HG4 := Lib.hid g4; have HG5 := Lib.hid g5; have HA0 := Lib.hid h0; have HN40 := Lib.hid HF.out.1
      clear g1 g2 g3 g4 g5 h0
      have hn40 := HN40.out
      go_upto_region 6 with (at_builtin; refine wpList_append_own_any rfl _ _ 22 rfl W3.heap.size 54 i0 (.agg #[.string ⟨#[]⟩, .bool false, .slice none 0 0, .int .u64 0, .int .i64 0, .int .i64 0, .int .i64 0]) 7 80 Tryz.underlying22 hi hz0 hz1 hz2 rfl (by decide) _ 0 [] rfl (World.ownsRow_made W3 #[] 0 (Nat.le_refl _) (Nat.zero_le _) (by simp)) a n cap css.flatten rfl HG3.out (fun ad had j u hu => ((ext_alloc (Below.refl _ W3) _).cell (cell_lt (HG5.out ad had j u hu))).trans (HG5.out ad had j u hu)) HA0.out HG4.out (by unfold maxLen; omega) (by omega) (by simp) ?_; intro v1 w4 hown1 hgrow1)
      have hE4 : Ext W3 w4 := ((Below.refl _ W3).alloc (Nat.le_refl _) _).grown hgrow1 (by simp) (fun k hk => by have e : some W3.heap.size = some k := hk; cases e; exact Nat.le_refl _)
      rw [Nat.zero_add, List.nil_append] at hown1
      have HO1 := Lib.hid hown1; have HE34 := Lib.hid hE4
      clear hown1 hgrow1
      have c00 := ext_cell C00.out HE34.out; have c01 := ext_cell C01.out HE34.out; have c02 := ext_cell C02.out HE34.out; have c03 := ext_cell C03.out HE34.out; have c04 := ext_cell C04.out HE34.out; have c05 := ext_cell C05.out HE34.out; have c06 := ext_cell C06.out HE34.out
      clear hE4 c10 c11 c12 c13
      have hsz := HE34.out.size
      go_upto_region 7 with (at_builtin; refine wpList_append_own _ rfl _ _ 22 rfl W3.heap.size 54 i0 (.agg #[.string ⟨#[]⟩, .bool false, .slice none 0 0, .int .u64 0, .int .i64 0, .int .i64 0, .int .i64 0]) 7 80 Tryz.underlying22 hi hz0 hz1 hz2 rfl (by decide) v1 _ _ rfl (HO1.out.alloc _) ⟨w4.heap.size, 0, none⟩ 1 1 [.string r.name, .bool r.allow, .slice pa np pc, .int .u64 r.keyMin, .int .i64 r.lifeMax, .int .i64 r.most, .int .i64 r.window] rfl rfl (seven_cells_new _ _ _ _ _ _ _ _ _) HEL.out.2.1 (by unfold maxLen; omega) (by omega) (by simp; omega) ?_; intro v2 w5 hown2 hgrow2 _)
      have hE5 : Ext W3 w5 := (HE34.out.alloc hsz _).grown hgrow2 (by simp; omega) (own_ge HO1.out)
      have hsl := OwnL.slv (own_snoc HG1.out HG2.out (HEL.out.ext HE.out) (by rw [HN.out]; exact hown2)) hE5
      obtain ⟨ba, bc, rfl, hbc, hbm, hbl⟩ := hsl
      have HMN := Lib.hid (show (l ++ [r]).length = n + 1 by simp [HN.out])
      rw [HMN.out] at hbc
      have HSV : Hid (Value.slice ba (l ++ [r]).length bc = .slice ba (n + 1) bc) := Lib.hid (by rw [HMN.out])
      rw [HSV.out]
      have HBL := Lib.hid hbl; have HBM := Lib.hid hbm; have HBC := Lib.hid hbc
      clear hbl hbm hbc hown2 hgrow2 hi hz0 hz1 hz2 hsz c00 c01 c02 c03 c04 c05 c06
      clear HG1 HG2 HG3 HG4 HG5 HA0 HO1 HE34
      replace HE := Lib.hid (ext_trans HE.out hE5); replace C02 := Lib.hid (ext_cell C02.out hE5); have c02 := C02.out; replace C10 := Lib.hid (ext_cell C10.out hE5); have c10 := C10.out; replace C11 := Lib.hid (ext_cell C11.out hE5); have c11 := C11.out; replace C12 := Lib.hid (ext_cell C12.out hE5); have c12 := C12.out; replace C13 := Lib.hid (ext_cell C13.out hE5); have c13 := C13.out
      clear hE5
      have HPF2 := Lib.hid (show ∀ x ∈ l ++ [r], x.pats.length ≤ 1000 from fun x hx => by
        rcases List.mem_append.1 hx with h | h
        · exact HF.out.2 x h
        · rw [List.mem_singleton] at h; subst h; exact HFR.out)
      have HMC := Lib.hid (fun (w' : World) (hE : Ext w5 w') => pMeans_any (l ++ [r]) v ba bc (n + 1) va vc w' HMN.out HBC.out HBM.out (HBL.out.ext hE) (by have := HF.out.1; omega) HPF2.out HVC.out HVM.out (HV.out.ext (ext_trans HE.out hE)) (HW.out.ext (ext_trans HE.out hE)))
      obtain ⟨X, hX⟩ : ∃ X, meansOf l v (decP l) = X := ⟨_, rfl⟩
      obtain ⟨Y, hY⟩ : ∃ Y, meansOf (l ++ [r]) v (decP (l ++ [r])) = Y := ⟨_, rfl⟩
      have HX := Lib.hid hX; have HY := Lib.hid hY
      rcases X with ⟨⟨al, at0, bs⟩, er⟩
      rcases Y with ⟨⟨al2, at2, bs2⟩, fr⟩
      clear hX hY
      have HE5 := HE
      go_wp2_with fail
      rw [HWV.out]
      have hc := pMeans_any l v a cap n va vc _ HN.out HNC.out HCM.out (HL.out.ext HE.out) (by have := HF.out.1; omega) HF.out.2 HVC.out HVM.out (HV.out.ext HE.out) (HW.out.ext HE.out)
      rw [HX.out] at hc
      refine hc.mono ?_
      clear hc
      rintro e w6 hr
      obtain ⟨ra, rc, kb, hkb, rfl, r1, r2, hi, hE6⟩ := retVE_open hr
      dsimp only at hi hkb ⊢
      have HI := Lib.hid hi; have R1 := Lib.hid r1; have R2 := Lib.hid r2; have HKB := Lib.hid hkb; have HE56 := Lib.hid hE6
      clear hr hi r1 r2 hkb
      replace HE := Lib.hid (ext_trans HE.out hE6); replace C02 := Lib.hid (ext_cell C02.out hE6); have c02 := C02.out; replace C10 := Lib.hid (ext_cell C10.out hE6); have c10 := C10.out; replace C11 := Lib.hid (ext_cell C11.out hE6); have c11 := C11.out; replace C12 := Lib.hid (ext_cell C12.out hE6); have c12 := C12.out; replace C13 := Lib.hid (ext_cell C13.out hE6); have c13 := C13.out
      clear hE6
      go_upto_region 8 with (fail)
      obtain ⟨W6, hW6⟩ : ∃ W6, w6.alloc (Obj.cells #[.bool al, .int .i64 at0, .slice ra kb rc] 32) = W6 := ⟨_, rfl⟩
      have hE : Ext w6 W6 := by rw [← hW6]; exact ext_alloc (Below.refl _ w6) _
      have hM : W6.heap[w6.heap.size]? = some (Obj.cells #[.bool al, .int .i64 at0, .slice ra kb rc] 32 (0, 0)) := by rw [← hW6]; exact World.alloc_heap_new w6 _
      rw [hW6]
      clear hW6
      have HVB := Lib.hid (show VerB W6 w6.heap.size _ _ (.slice ra kb rc) from hM)
      replace HE56 := Lib.hid (ext_trans HE56.out hE)
      clear hM
      replace HE := Lib.hid (ext_trans HE.out hE); replace HI := Lib.hid (HI.out.ext hE); replace C02 := Lib.hid (ext_cell C02.out hE); have c02 := C02.out; replace C10 := Lib.hid (ext_cell C10.out hE); have c10 := C10.out; replace C11 := Lib.hid (ext_cell C11.out hE); have c11 := C11.out; replace C12 := Lib.hid (ext_cell C12.out hE); have c12 := C12.out; replace C13 := Lib.hid (ext_cell C13.out hE); have c13 := C13.out
      clear hE
      go_wp2_with fail
      rw [HWV.out]
      have hc := HMC.out _ HE56.out
      rw [HY.out] at hc
      refine hc.mono ?_
      clear hc
      rintro e w7 hr
      obtain ⟨sa, sc, sk, hsk, rfl, r1, r2, hi, hE7⟩ := retVE_open hr
      dsimp only at hi hsk ⊢
      have HJ := Lib.hid hi; have S1 := Lib.hid r1; have S2 := Lib.hid r2; have HSK := Lib.hid hsk
      replace HE56 := Lib.hid (ext_trans HE56.out hE7)
      clear hr hi r1 r2 hsk
      replace HE := Lib.hid (ext_trans HE.out hE7); replace HI := Lib.hid (HI.out.ext hE7); replace HVB := Lib.hid (HVB.out.ext hE7); replace C02 := Lib.hid (ext_cell C02.out hE7); have c02 := C02.out; replace C10 := Lib.hid (ext_cell C10.out hE7); have c10 := C10.out; replace C11 := Lib.hid (ext_cell C11.out hE7); have c11 := C11.out; replace C12 := Lib.hid (ext_cell C12.out hE7); have c12 := C12.out; replace C13 := Lib.hid (ext_cell C13.out hE7); have c13 := C13.out
      clear hE7
      go_upto_region 9 with (fail)
      obtain ⟨W7, hW7⟩ : ∃ W7, w7.alloc (Obj.cells #[.bool al2, .int .i64 at2, .slice sa sk sc] 32) = W7 := ⟨_, rfl⟩
      have hE : Ext w7 W7 := by rw [← hW7]; exact ext_alloc (Below.refl _ w7) _
      have hM : W7.heap[w7.heap.size]? = some (Obj.cells #[.bool al2, .int .i64 at2, .slice sa sk sc] 32 (0, 0)) := by rw [← hW7]; exact World.alloc_heap_new w7 _
      rw [hW7]
      clear hW7
      have HVC2 := Lib.hid (show VerB W7 w7.heap.size _ _ (.slice sa sk sc) from hM)
      replace HE56 := Lib.hid (ext_trans HE56.out hE)
      clear hM
      replace HE := Lib.hid (ext_trans HE.out hE); replace HI := Lib.hid (HI.out.ext hE); replace HJ := Lib.hid (HJ.out.ext hE); replace HVB := Lib.hid (HVB.out.ext hE); replace C02 := Lib.hid (ext_cell C02.out hE); have c02 := C02.out; replace C10 := Lib.hid (ext_cell C10.out hE); have c10 := C10.out; replace C11 := Lib.hid (ext_cell C11.out hE); have c11 := C11.out; replace C12 := Lib.hid (ext_cell C12.out hE); have c12 := C12.out; replace C13 := Lib.hid (ext_cell C13.out hE); have c13 := C13.out
      clear hE
      by_cases hfr : fr = 0
      rotate_left
      · have t0 : (fr != 0) = true := by simpa using hfr
        have HFR0 := Lib.hid hfr
        clear hfr
        by_cases her : er = 0
        rotate_left
        · have t1 : (er != 0) = true := by simpa using her
          clear her
          go_wp2_with fail
          go_ret
          exact ⟨rfl, HE.out⟩
        · subst her
          have hbad := more_bad HX.out HY.out HFR0.out
          obtain ⟨ce, hce⟩ : ∃ ce, checkE (l ++ [r]) = ce := ⟨_, rfl⟩
          rw [hce] at hbad
          have hc := pCheck_any (l ++ [r]) ba bc (n + 1) _ HMN.out HBC.out HBM.out (HBL.out.ext HE56.out)
          rw [hce] at hc
          have HCC := Lib.hid hc; have HBAD := Lib.hid hbad
          clear hc hce hbad
          go_wp2_with fail
          refine HCC.out.mono ?_
          rintro e w8 ⟨rfl, hE8⟩
          replace HE56 := Lib.hid (ext_trans HE56.out hE8)
          clear HCC
          replace HE := Lib.hid (ext_trans HE.out hE8); replace C02 := Lib.hid (ext_cell C02.out hE8); have c02 := C02.out; replace C10 := Lib.hid (ext_cell C10.out hE8); have c10 := C10.out; replace C11 := Lib.hid (ext_cell C11.out hE8); have c11 := C11.out; replace C12 := Lib.hid (ext_cell C12.out hE8); have c12 := C12.out; replace C13 := Lib.hid (ext_cell C13.out hE8); have c13 := C13.out
          clear hE8
          by_cases hce : ce = 0
          rotate_left
          · have t1 : (ce != 0) = true := by simpa using hce
            clear hce
            go_wp2_with fail
            go_ret
            exact ⟨rfl, HE.out⟩
          · subst hce
            have hbad := HBAD.out.resolve_left (fun h => h rfl)
            obtain ⟨m, hm⟩ : ∃ m, (clashL (l ++ [r])).length = m := ⟨_, rfl⟩
            have hm0 : 0 < m := by rw [← hm]; exact List.length_pos_iff.2 hbad
            have HCL := Lib.hid (clash_len hm HMN.out HBC.out HBM.out (HBL.out.ext HE56.out) (by have := HF.out.1; omega) HPF2.out)
            clear hbad hm
            go_wp2_with fail
            refine HCL.out.mono ?_
            rintro e w9 ⟨ca, cc, rfl, hE9⟩
            replace HE := Lib.hid (ext_trans HE.out hE9)
            clear hE9
            go_wp2_with fail
            go_ret
            exact ⟨rfl, HE.out⟩
      · subst hfr
        obtain ⟨hR, hmay, hbs2, hbs, her⟩ := more_good HX.out HY.out
        subst her
        obtain rfl : kb = k := by rw [← HKB.out, ← HK.out, hbs, List.length_map]
        obtain rfl : sk = kb := by rw [← HSK.out, ← HK.out, hbs2, List.length_map]
        rw [hbs] at HI; rw [hbs2] at HJ
        have HRI := Lib.hid hR; have HMAY := Lib.hid hmay
        obtain ⟨d0, d1, d2⟩ := HVB.out.cells
        obtain ⟨e0, e1, e2⟩ := HVC2.out.cells
        have tk : ((sk : Int) != sk) = false := by simp
        clear hR hmay hbs2 hbs
        go_wp2_with fail
        go_loopw [12] (fun i wr => ∃ j : Nat, j ≤ sk ∧ i = .int .i64 j ∧ Ext W7 wr) (fun i _ => sk - (intOf i).toNat)
        case atStart => exact ⟨0, Nat.zero_le _, rfl, Below.refl _ _⟩
        case round =>
          obtain ⟨j, hj, rfl, hEr⟩ := hrel
          have HER := Lib.hid hEr
          have q11 := ext_cell C11.out HER.out
          clear hEr
          by_cases hlt : j < sk
          · obtain ⟨nm, hnm⟩ := get_some HK.out hlt
            have hiN := may_names HMAY.out nm (List.mem_of_getElem? hnm)
            obtain ⟨b1, o1, rfl, g1, gs⟩ := HV.out j nm hnm
            obtain ⟨b2, o2, rfl, g2⟩ := HI.out j (decP l nm) (by rw [List.getElem?_map, hnm]; rfl)
            obtain ⟨b3, o3, rfl, g3⟩ := HJ.out j (decP (l ++ [r]) nm) (by rw [List.getElem?_map, hnm]; rfl)
            obtain ⟨hd1, hd2, hd3⟩ := more_dec HRI.out (nm := nm) hiN
            rw [HN.out] at hd2 hd3
            obtain ⟨du, hdu⟩ : ∃ du, decP l nm = du := ⟨_, rfl⟩
            obtain ⟨dv, hdv⟩ : ∃ dv, decP (l ++ [r]) nm = dv := ⟨_, rfl⟩
            rw [hdu] at g2 hd1 hd3
            rw [hdv] at g3 hd1 hd2 hd3
            have HD1 := Lib.hid hd1; have HD2 := Lib.hid hd2; have HD3 := Lib.hid hd3; have HNM := Lib.hid gs
            have G1 := Lib.hid (ext_cell g1 HE.out); have G2 := Lib.hid g2; have G3 := Lib.hid g3
            clear hnm hiN hdu hdv hd1 hd2 hd3 gs g1 g2 g3
            go_wp2_with fail
            go_loopw [13, 14, 15] (fun met own kk wr => ∃ k : Nat, k ≤ np ∧ kk = .int .i64 k ∧ met = .bool ((r.pats.take k).any fun p => rmatchB p.data.toList nm.data.toList) ∧ own = .bool ((r.pats.take k).any fun p => p.toList == nm.toList) ∧ Ext W7 wr) (fun _ _ kk _ => np - (intOf kk).toNat)
            case atStart => exact ⟨0, Nat.zero_le _, rfl, rfl, rfl, HER.out⟩
            case round =>
              obtain ⟨k, hk, rfl, rfl, rfl, hEr⟩ := hrel
              have HE2 := Lib.hid hEr
              obtain ⟨bm, hbm⟩ : ∃ bm, ((r.pats.take k).any fun p => rmatchB p.data.toList nm.data.toList) = bm := ⟨_, rfl⟩
              obtain ⟨bo, hbo⟩ : ∃ bo, ((r.pats.take k).any fun p => p.toList == nm.toList) = bo := ⟨_, rfl⟩
              rw [hbm, hbo]
              have HBM := Lib.hid hbm; have HBO := Lib.hid hbo
              have k02 := ext_cell C02.out HE2.out; have k11 := ext_cell C11.out HE2.out; have kg1 := ext_cell G1.out HE2.out
              rw [Nat.mul_one] at kg1
              have hjv : j < vc := by have := HVC.out; have := HK.out; omega
              have hrm := HRM.out
              have hpn : np ≤ pc := by have := HRP.out; have := HNP.out; omega
              unfold maxLen at hrm
              clear hEr hbm hbo
              by_cases hlk : k < np
              · obtain ⟨p, hp⟩ := get_some HNP.out hlk
                obtain ⟨b4, o4, rfl, g4, gs⟩ := HRS.out k p hp
                have kg4 := ext_cell (ext_cell g4 HE.out) HE2.out
                rw [Nat.mul_one] at kg4
                have HPZ := Lib.hid gs
                have HM2 := Lib.hid (show ((r.pats.take (k + 1)).any fun p => rmatchB p.data.toList nm.data.toList) = (bm || rmatchB p.data.toList nm.data.toList) by rw [anyB_take hp, HBM.out])
                have HO2 := Lib.hid (show ((r.pats.take (k + 1)).any fun p => p.toList == nm.toList) = (bo || (p.toList == nm.toList)) by rw [anyB_take hp, HBO.out])
                have hkc : k < pc := by have := HRP.out; have := HNP.out; omega
                clear hp gs g4
                go_wp2_with fail
                refine wp_region_S (by kernel_rfl) (by kernel_rfl) (by kernel_rfl) (by kernel_rfl) (by kernel_rfl) (fun w' => Ext wr w') ((Fr.drew (fun _ => False) _).ext (fun _ _ h => h)) ?_
                repeat
                  first
                  | (refine steps_and rfl rfl rfl rfl ?_; simp only [Act.put, List.setIfInBounds_toArray, List.set_cons_succ, List.set_cons_zero])
                  | (refine steps_or rfl rfl rfl rfl ?_; simp only [Act.put, List.setIfInBounds_toArray, List.set_cons_succ, List.set_cons_zero])
                  | (refine steps_skip rfl ?_; simp only [Act.put, List.setIfInBounds_toArray, List.set_cons_succ, List.set_cons_zero])
                  | (refine steps_guard_and rfl rfl rfl rfl rfl ?_; simp only [Act.put, List.setIfInBounds_toArray, List.set_cons_succ, List.set_cons_zero])
                  | (refine steps_guard_or rfl rfl rfl rfl rfl ?_; simp only [Act.put, List.setIfInBounds_toArray, List.set_cons_succ, List.set_cons_zero])
                  | (refine steps_guard (v := ?_) rfl rfl (fun hb w' hS => ?_) ?_; rotate_left; (focus (have k0 := ext_cell k02 hS; have k1 := ext_cell k11 hS; have k2 := ext_cell kg1 hS; have k3 := ext_cell kg4 hS; unfold Gives; go_simp; first | exact is_mk hS | (refine (Match_r p nm _ (by have := HPZ.out; unfold maxLen at this; omega) (by have := HNM.out; unfold maxLen at this; omega) (HW.out.ext (ext_trans HE.out (ext_trans HE2.out hS)))).mono ?_; rintro e w'' ⟨rfl, h2⟩; exact gave_mk (ext_trans hS h2)))); simp only [Act.put, List.setIfInBounds_toArray, List.set_cons_succ, List.set_cons_zero])
                  | (refine steps_guard2 (v := ?_) rfl rfl rfl (fun hb1 hb w' hS => ?_) ?_; rotate_left; (focus (have k0 := ext_cell k02 hS; have k1 := ext_cell k11 hS; have k2 := ext_cell kg1 hS; have k3 := ext_cell kg4 hS; unfold Gives; go_simp; first | exact is_mk hS | (refine (Match_r p nm _ (by have := HPZ.out; unfold maxLen at this; omega) (by have := HNM.out; unfold maxLen at this; omega) (HW.out.ext (ext_trans HE.out (ext_trans HE2.out hS)))).mono ?_; rintro e w'' ⟨rfl, h2⟩; exact gave_mk (ext_trans hS h2)))); simp only [Act.put, List.setIfInBounds_toArray, List.set_cons_succ, List.set_cons_zero])
                  | (refine steps_run (v := ?_) rfl (fun w' hS => ?_) ?_; rotate_left; (focus (have k0 := ext_cell k02 hS; have k1 := ext_cell k11 hS; have k2 := ext_cell kg1 hS; have k3 := ext_cell kg4 hS; unfold Gives; go_simp; first | exact is_mk hS | (refine (Match_r p nm _ (by have := HPZ.out; unfold maxLen at this; omega) (by have := HNM.out; unfold maxLen at this; omega) (HW.out.ext (ext_trans HE.out (ext_trans HE2.out hS)))).mono ?_; rintro e w'' ⟨rfl, h2⟩; exact gave_mk (ext_trans hS h2)))); simp only [Act.put, List.setIfInBounds_toArray, List.set_cons_succ, List.set_cons_zero])
                refine steps_end fun wx hEx => ?_
                replace k02 := ext_cell k02 hEx; replace k11 := ext_cell k11 hEx; replace kg1 := ext_cell kg1 hEx; replace kg4 := ext_cell kg4 hEx
                replace HE2 := Lib.hid (ext_trans HE2.out hEx)
                clear hEx
                go_wp2_with fail
                refine wp_region_S (by kernel_rfl) (by kernel_rfl) (by kernel_rfl) (by kernel_rfl) (by kernel_rfl) (fun w' => Ext wx w') ((Fr.drew (fun _ => False) _).ext (fun _ _ h => h)) ?_
                repeat
                  first
                  | (refine steps_and rfl rfl rfl rfl ?_; simp only [Act.put, List.setIfInBounds_toArray, List.set_cons_succ, List.set_cons_zero])
                  | (refine steps_or rfl rfl rfl rfl ?_; simp only [Act.put, List.setIfInBounds_toArray, List.set_cons_succ, List.set_cons_zero])
                  | (refine steps_skip rfl ?_; simp only [Act.put, List.setIfInBounds_toArray, List.set_cons_succ, List.set_cons_zero])
                  | (refine steps_guard_and rfl rfl rfl rfl rfl ?_; simp only [Act.put, List.setIfInBounds_toArray, List.set_cons_succ, List.set_cons_zero])
                  | (refine steps_guard_or rfl rfl rfl rfl rfl ?_; simp only [Act.put, List.setIfInBounds_toArray, List.set_cons_succ, List.set_cons_zero])
                  | (refine steps_guard (v := ?_) rfl rfl (fun hb w' hS => ?_) ?_; rotate_left; (focus (have k0 := ext_cell k02 hS; have k1 := ext_cell k11 hS; have k2 := ext_cell kg1 hS; have k3 := ext_cell kg4 hS; unfold Gives; go_simp; first | exact is_mk hS)); simp only [Act.put, List.setIfInBounds_toArray, List.set_cons_succ, List.set_cons_zero])
                  | (refine steps_guard2 (v := ?_) rfl rfl rfl (fun hb1 hb w' hS => ?_) ?_; rotate_left; (focus (have k0 := ext_cell k02 hS; have k1 := ext_cell k11 hS; have k2 := ext_cell kg1 hS; have k3 := ext_cell kg4 hS; unfold Gives; go_simp; first | exact is_mk hS)); simp only [Act.put, List.setIfInBounds_toArray, List.set_cons_succ, List.set_cons_zero])
                  | (refine steps_run (v := ?_) rfl (fun w' hS => ?_) ?_; rotate_left; (focus (have k0 := ext_cell k02 hS; have k1 := ext_cell k11 hS; have k2 := ext_cell kg1 hS; have k3 := ext_cell kg4 hS; unfold Gives; go_simp; first | exact is_mk hS)); simp only [Act.put, List.setIfInBounds_toArray, List.set_cons_succ, List.set_cons_zero])
                refine steps_end fun wy hEy => ?_
                go_wp2_with fail
                go_roundw
                case rel => exact ⟨k + 1, by omega, by go_num, by rw [HM2.out], by rw [HO2.out], ext_trans HE2.out hEy⟩
                case measure => simp [intOf]; omega
              · obtain rfl : k = np := by omega
                have HBM2 := Lib.hid (show (r.pats.any fun p => rmatchB p.data.toList nm.data.toList) = bm by
                  rw [← HBM.out, List.take_of_length_le (by rw [HNP.out]; exact Nat.le_refl _)])
                have HBO2 := Lib.hid (show (r.pats.any fun p => p.toList == nm.toList) = bo by
                  rw [← HBO.out, List.take_of_length_le (by rw [HNP.out]; exact Nat.le_refl _)])
                have kd2 := ext_cell d2 HE2.out; have ke2 := ext_cell e2 HE2.out
                have kg2 := ext_cell G2.out HE2.out; have kg3 := ext_cell G3.out HE2.out
                rw [Nat.mul_one] at kg2 kg3
                have hju : j < rc := by have := R1.out; omega
                have hjs : j < sc := by have := S1.out; omega
                go_wp2_with fail
                refine wp_region_S (by kernel_rfl) (by kernel_rfl) (by kernel_rfl) (by kernel_rfl) (by kernel_rfl) (fun w' => Ext wr w') ((Fr.drew (fun _ => False) _).ext (fun _ _ h => h)) ?_
                iterate 29
                  first
                  | (refine steps_and rfl rfl rfl rfl ?_; simp only [Act.put, List.setIfInBounds_toArray, List.set_cons_succ, List.set_cons_zero])
                  | (refine steps_or rfl rfl rfl rfl ?_; simp only [Act.put, List.setIfInBounds_toArray, List.set_cons_succ, List.set_cons_zero])
                  | (refine steps_skip rfl ?_; simp only [Act.put, List.setIfInBounds_toArray, List.set_cons_succ, List.set_cons_zero])
                  | (refine steps_guard_and rfl rfl rfl rfl rfl ?_; simp only [Act.put, List.setIfInBounds_toArray, List.set_cons_succ, List.set_cons_zero])
                  | (refine steps_guard_or rfl rfl rfl rfl rfl ?_; simp only [Act.put, List.setIfInBounds_toArray, List.set_cons_succ, List.set_cons_zero])
                  | (refine steps_guard (v := ?_) rfl rfl (fun hb w' hS => ?_) ?_; rotate_left; (focus (have k0 := ext_cell kd2 hS; have k1 := ext_cell ke2 hS; have k2 := ext_cell kg2 hS; have k3 := ext_cell kg3 hS; unfold Gives; go_simp; first | exact is_mk hS)); simp only [Act.put, List.setIfInBounds_toArray, List.set_cons_succ, List.set_cons_zero])
                  | (refine steps_guard2 (v := ?_) rfl rfl rfl (fun hb1 hb w' hS => ?_) ?_; rotate_left; (focus (have k0 := ext_cell kd2 hS; have k1 := ext_cell ke2 hS; have k2 := ext_cell kg2 hS; have k3 := ext_cell kg3 hS; unfold Gives; go_simp; first | exact is_mk hS)); simp only [Act.put, List.setIfInBounds_toArray, List.set_cons_succ, List.set_cons_zero])
                  | (refine steps_run (v := ?_) rfl (fun w' hS => ?_) ?_; rotate_left; (focus (have k0 := ext_cell kd2 hS; have k1 := ext_cell ke2 hS; have k2 := ext_cell kg2 hS; have k3 := ext_cell kg3 hS; unfold Gives; go_simp; first | exact is_mk hS)); simp only [Act.put, List.setIfInBounds_toArray, List.set_cons_succ, List.set_cons_zero])
                obtain ⟨B, hB⟩ : ∃ B, ((!bm && (dv != du)) || (bo && (dv != (n : Int)))) = B := ⟨_, rfl⟩
                rw [hB]
                have HB := Lib.hid hB
                clear hB
                repeat
                  first
                  | (refine steps_and rfl rfl rfl rfl ?_; simp only [Act.put, List.setIfInBounds_toArray, List.set_cons_succ, List.set_cons_zero])
                  | (refine steps_or rfl rfl rfl rfl ?_; simp only [Act.put, List.setIfInBounds_toArray, List.set_cons_succ, List.set_cons_zero])
                  | (refine steps_skip rfl ?_; simp only [Act.put, List.setIfInBounds_toArray, List.set_cons_succ, List.set_cons_zero])
                  | (refine steps_guard_and rfl rfl rfl rfl rfl ?_; simp only [Act.put, List.setIfInBounds_toArray, List.set_cons_succ, List.set_cons_zero])
                  | (refine steps_guard_or rfl rfl rfl rfl rfl ?_; simp only [Act.put, List.setIfInBounds_toArray, List.set_cons_succ, List.set_cons_zero])
                  | (refine steps_guard (v := ?_) rfl rfl (fun hb w' hS => ?_) ?_; rotate_left; (focus (have k0 := ext_cell kd2 hS; have k1 := ext_cell ke2 hS; have k2 := ext_cell kg2 hS; have k3 := ext_cell kg3 hS; unfold Gives; go_simp; first | exact is_mk hS)); simp only [Act.put, List.setIfInBounds_toArray, List.set_cons_succ, List.set_cons_zero])
                  | (refine steps_guard2 (v := ?_) rfl rfl rfl (fun hb1 hb w' hS => ?_) ?_; rotate_left; (focus (have k0 := ext_cell kd2 hS; have k1 := ext_cell ke2 hS; have k2 := ext_cell kg2 hS; have k3 := ext_cell kg3 hS; unfold Gives; go_simp; first | exact is_mk hS)); simp only [Act.put, List.setIfInBounds_toArray, List.set_cons_succ, List.set_cons_zero])
                  | (refine steps_run (v := ?_) rfl (fun w' hS => ?_) ?_; rotate_left; (focus (have k0 := ext_cell kd2 hS; have k1 := ext_cell ke2 hS; have k2 := ext_cell kg2 hS; have k3 := ext_cell kg3 hS; unfold Gives; go_simp; first | exact is_mk hS)); simp only [Act.put, List.setIfInBounds_toArray, List.set_cons_succ, List.set_cons_zero])
                refine steps_end fun wy hEy => ?_
                have hf : (B || ((dv != du) && (dv != (n : Int)))) = false := by
                  have hd1 : bm = false → dv = du := fun h => HD1.out (by rw [HBM2.out, h])
                  have hd2 : bo = true → dv = (n : Int) := fun h => HD2.out (by rw [HBO2.out, h])
                  have hd3 := HD3.out
                  have b1 : (!bm && (dv != du)) = false := by
                    cases bm
                    · rw [hd1 rfl]; simp
                    · rfl
                  have b2 : (bo && (dv != (n : Int))) = false := by
                    cases bo
                    · rfl
                    · rw [hd2 rfl]; simp
                  have b3 : ((dv != du) && (dv != (n : Int))) = false := by
                    by_cases e : dv = du
                    · rw [e]; simp
                    · rw [hd3 e]; simp
                  rw [← HB.out, b1, b2, b3]; rfl
                rw [hf]
                have hvm := HVM.out
                have hsv : sk ≤ vc := by have := HVC.out; have := HK.out; omega
                unfold maxLen at hvm
                go_wp2_with fail
                go_roundw
                case rel => exact ⟨j + 1, by omega, by go_num, ext_trans HE2.out hEy⟩
                case measure => simp [intOf]; omega
          · obtain rfl : j = sk := by omega
            go_wp2_with fail
            go_ret
            exact ⟨rfl, ext_trans HE.out HER.out⟩
end Go.Proofs.YtmdmbdbbpdojnaaGreatDoor
