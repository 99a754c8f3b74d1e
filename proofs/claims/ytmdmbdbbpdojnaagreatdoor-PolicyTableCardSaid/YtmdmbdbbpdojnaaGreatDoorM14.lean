/- Walks of the document's functions on policies: Decides. Verdicts; walks of SameVerdict and of the statements' few. Walks of the document's functions on policies: Bare. Rows of the call's own, of elements of several cells: read as lists. -/
import Derived.Test.YtmdmbdbbpdojnaaGreatDoorM13
import Derived.Test.YtmdmbdbbpdojnaaGreatDoorM11
import Derived.Test.YtmdmbdbbpdojnaaGreatDoorM03
import Derived.Maps.AppendAt
import Derived.Laws.OwnMore
namespace Go.Proofs.YtmdmbdbbpdojnaaGreatDoor
open Go.RowKit Nam Pol
attribute [local go_sem] gv_of

theorem foldl_take_snoc {α β : Type} {l : List α} {k : Nat} {x : α} (h : l[k]? = some x) (f : β → α → β) (s : β) : (l.take (k + 1)).foldl f s = f ((l.take k).foldl f s) x := by
  rw [List.take_add_one, h]; simp
theorem dUpTo_succ {nm : ByteArray} {l : List Rul} {k : Nat} {r : Rul} (h : l[k]? = some r) : dUpTo nm l (k + 1) = r.pats.foldl (dStep nm k) (dUpTo nm l k) := by
  rw [dUpTo, h]
set_option maxRecDepth 100000 in
set_option maxHeartbeats 4000000 in
theorem Decides_any (l : List Rul) (nm : ByteArray) (a : Option Addr) (cap n : Nat) (w : World) (hn : l.length = n) (hnc : n ≤ cap) (hcm : cap ≤ maxLen) (hl : Ruls w a l) (hs : nm.size ≤ 9223372036854775807) :
    Calls Tryz.prog 54 #[.slice a n cap, .string nm] w (Ret (.int .i64 (decidesB l nm)) w) := by
  unfold maxLen at hcm
  have HN := Lib.hid hn; have HL := Lib.hid hl; clear hn hl
  go_enter Tryz.func54, Tryz.ntmps54
  go_wp2_with fail
  go_loopw [7, 5, 6] (fun i t b wr => ∃ k : Nat, k ≤ n ∧ i = .int .i64 k ∧ t = .int .i64 (dUpTo nm l k).1 ∧ b = .string (dUpTo nm l k).2 ∧ (dUpTo nm l k).2.size ≤ 9223372036854775807 ∧ Ext w wr) (fun i _ _ _ => n - (intOf i).toNat)
  case atStart => exact ⟨0, Nat.zero_le _, rfl, rfl, rfl, Nat.zero_le _, Below.refl _ _⟩
  case round =>
    obtain ⟨k, hk, rfl, rfl, rfl, hb, hEr⟩ := hrel
    by_cases hlt : k < n
    · obtain ⟨r, hr⟩ := get_some HN.out hlt
      obtain ⟨b, off, rfl, d0, d1, ⟨pa, pc, d2, l1, l2, hps⟩, d3, d4, d5, d6, hsz, _⟩ := (HL.out.ext hEr) k r hr
      have HT := Lib.hid (dUpTo_succ (nm := nm) hr)
      have HPS := Lib.hid hps; have HER := Lib.hid hEr; have D2 := Lib.hid d2
      unfold maxLen at l2
      obtain ⟨np, hnp⟩ : ∃ m, r.pats.length = m := ⟨_, rfl⟩
      have NP := Lib.hid hnp
      rw [hnp] at d2 l1
      have D2 := Lib.hid d2
      have hkc : k ≤ cap := by omega
      clear hr hEr hps hsz hnp d0 d1 d3 d4 d5 d6 d2
      go_wp2_with fail
      go_loopw [8, 5, 6] (fun i t b wi => ∃ (j : Nat) (st : Int × ByteArray), j ≤ np ∧ i = .int .i64 j ∧ st = (r.pats.take j).foldl (dStep nm k) (dUpTo nm l k) ∧ t = .int .i64 st.1 ∧ b = .string st.2 ∧ st.2.size ≤ 9223372036854775807 ∧ Ext wr wi) (fun i _ _ _ => np - (intOf i).toNat)
      case atStart => exact ⟨0, _, Nat.zero_le _, rfl, rfl, rfl, rfl, hb, Below.refl _ _⟩
      case round =>
        obtain ⟨j, st, hj, rfl, hst, rfl, rfl, hb2, hEi⟩ := hrel
        obtain ⟨s1, s2⟩ := st
        have HST := Lib.hid hst; have HEI := Lib.hid hEi
        have d2 := ext_cell D2.out hEi
        clear hst hEi
        by_cases hlj : j < np
        · obtain ⟨p, hp⟩ := get_some NP.out hlj
          obtain ⟨b', off', rfl, e0, hpz⟩ := (HPS.out.ext HEI.out) j p hp
          rw [Nat.mul_one] at e0
          have HT2 := Lib.hid (foldl_take_snoc hp (dStep nm k) (dUpTo nm l k))
          have hpn : p.size ≤ 9223372036854775807 := hpz
          have hjc : j ≤ pc := by omega
          clear hp hpz
          simp only at hb2
          cases h1 : rmatchB p.data.toList nm.data.toList
          · have H1 := Lib.hid h1
            have HQ := Lib.hid (show (s1, s2) = (r.pats.take (j + 1)).foldl (dStep nm k) (dUpTo nm l k) by
              rw [HT2.out, ← HST.out]; unfold dStep; simp [h1])
            clear h1
            go_wp2_with (go_at_call 83; refine (rMatch_any p nm _ hpn hs).mono ?_; rintro e w1 ⟨rfl, hE1⟩; rw [H1.out]; have HE1 := Lib.hid (ext_trans HEI.out hE1))
            go_roundw
            case rel => exact ⟨j + 1, (s1, s2), by omega, by go_num, HQ.out, rfl, rfl, hb2, HE1.out⟩
            case measure => simp [intOf]; omega
          · have H1 := Lib.hid h1
            cases h2 : decide (s1 < 0)
            · cases h3 : (p.toList == s2.toList)
              · cases h5 : rwithinB p.data.toList s2.data.toList
                · have H5 := Lib.hid h5
                  have HQ := Lib.hid (show (s1, s2) = (r.pats.take (j + 1)).foldl (dStep nm k) (dUpTo nm l k) by
                    rw [HT2.out, ← HST.out]; unfold dStep; simp [h1, h2, h3, h5])
                  clear h1 h5
                  go_wp2_with (first | (go_at_call 83; refine (rMatch_any p nm _ hpn hs).mono ?_; rintro e w1 ⟨rfl, hE1⟩; rw [H1.out]; have HE1 := Lib.hid (ext_trans HEI.out hE1)) | (go_at_call 84; refine (rWithin_any p s2 _ hpn hb2).mono ?_; rintro e w2 ⟨rfl, hE2⟩; rw [H5.out]; have HE2 := Lib.hid (ext_trans HE1.out hE2)))
                  go_roundw
                  case rel => exact ⟨j + 1, (s1, s2), by omega, by go_num, HQ.out, rfl, rfl, hb2, HE2.out⟩
                  case measure => simp [intOf]; omega
                · have H5 := Lib.hid h5
                  have HQ := Lib.hid (show ((k : Int), p) = (r.pats.take (j + 1)).foldl (dStep nm k) (dUpTo nm l k) by
                    rw [HT2.out, ← HST.out]; unfold dStep; simp [h1, h2, h3, h5])
                  clear h1 h5
                  go_wp2_with (first | (go_at_call 83; refine (rMatch_any p nm _ hpn hs).mono ?_; rintro e w1 ⟨rfl, hE1⟩; rw [H1.out]; have HE1 := Lib.hid (ext_trans HEI.out hE1)) | (go_at_call 84; refine (rWithin_any p s2 _ hpn hb2).mono ?_; rintro e w2 ⟨rfl, hE2⟩; rw [H5.out]; have HE2 := Lib.hid (ext_trans HE1.out hE2)))
                  go_roundw
                  case rel => exact ⟨j + 1, ((k : Int), p), by omega, by go_num, HQ.out, rfl, rfl, hpn, HE2.out⟩
                  case measure => simp [intOf]; omega
              · have HQ := Lib.hid (show (s1, s2) = (r.pats.take (j + 1)).foldl (dStep nm k) (dUpTo nm l k) by
                  rw [HT2.out, ← HST.out]; unfold dStep; simp [h1, h2, h3])
                clear h1
                go_wp2_with (go_at_call 83; refine (rMatch_any p nm _ hpn hs).mono ?_; rintro e w1 ⟨rfl, hE1⟩; rw [H1.out]; have HE1 := Lib.hid (ext_trans HEI.out hE1))
                go_roundw
                case rel => exact ⟨j + 1, (s1, s2), by omega, by go_num, HQ.out, rfl, rfl, hb2, HE1.out⟩
                case measure => simp [intOf]; omega
            · have HQ := Lib.hid (show ((k : Int), p) = (r.pats.take (j + 1)).foldl (dStep nm k) (dUpTo nm l k) by
                rw [HT2.out, ← HST.out]; unfold dStep; simp [h1, h2])
              clear h1
              go_wp2_with (go_at_call 83; refine (rMatch_any p nm _ hpn hs).mono ?_; rintro e w1 ⟨rfl, hE1⟩; rw [H1.out]; have HE1 := Lib.hid (ext_trans HEI.out hE1))
              go_roundw
              case rel => exact ⟨j + 1, ((k : Int), p), by omega, by go_num, HQ.out, rfl, rfl, hpn, HE1.out⟩
              case measure => simp [intOf]; omega
        · obtain rfl : j = np := by omega
          have HQ := Lib.hid (show (s1, s2) = dUpTo nm l (k + 1) by
            rw [HT.out, HST.out, List.take_of_length_le (by rw [NP.out]; exact Nat.le_refl _)])
          go_wp2_with fail
          go_roundw
          case rel => exact ⟨k + 1, by omega, by go_num, by rw [← HQ.out], by rw [← HQ.out], by rw [← HQ.out]; exact hb2, ext_trans HER.out HEI.out⟩
          case measure => simp [intOf]; omega
    · obtain rfl : k = n := by omega
      have HQ := Lib.hid (show (dUpTo nm l k).1 = decidesB l nm by unfold decidesB; rw [HN.out])
      go_wp2_with fail
      go_ret
      exact ⟨ret_int HQ.out, hEr⟩
end Go.Proofs.YtmdmbdbbpdojnaaGreatDoor
namespace Go.Proofs.YtmdmbdbbpdojnaaGreatDoor
open Go.RowKit Nam Pol
attribute [local go_sem] gv_of

def verV (v : Ver) (a : Option Addr) (c : Nat) : Value := .agg #[.bool v.allow, .int .i64 v.at', .slice a v.by'.length c]
set_option maxRecDepth 100000 in
set_option maxHeartbeats 4000000 in
theorem SameVerdict_any (x y : Ver) (xa ya : Option Addr) (cn cm : Nat) (w : World) (hn : x.by'.length ≤ maxLen) (hm : y.by'.length ≤ maxLen) (hx : Ints w xa x.by') (hy : Ints w ya y.by') :
    Calls Tryz.prog 20 #[verV x xa cn, verV y ya cm] w (Ret (.bool (decide (x = y))) w) := by
  have HX := Lib.hid hx; have HY := Lib.hid hy; have HN := Lib.hid hn; have HM := Lib.hid hm; clear hx hy hn hm
  have HD := Lib.hid (ver_dec x y)
  unfold verV
  go_enter Tryz.func20, Tryz.ntmps20
  go_upto_region 1 with (fail)
  obtain ⟨W0, hW0⟩ : ∃ W0, (w.alloc (Obj.cells #[.bool x.allow, .int .i64 x.at', .slice xa x.by'.length cn] 32)).alloc (Obj.cells #[.bool y.allow, .int .i64 y.at', .slice ya y.by'.length cm] 32) = W0 := ⟨_, rfl⟩
  have hE0 : Ext w W0 := by rw [← hW0]; exact ext_alloc (ext_alloc (Below.refl _ _) _) _
  have c0 : W0.cell? ⟨w.heap.size, 0, none⟩ = some (.bool x.allow) := by rw [← hW0]; simp [go_sem]
  have c1 : W0.cell? ⟨w.heap.size, 1, none⟩ = some (.int .i64 x.at') := by rw [← hW0]; simp [go_sem]
  have c2 : W0.cell? ⟨w.heap.size, 2, none⟩ = some (.slice xa x.by'.length cn) := by rw [← hW0]; simp [go_sem]
  have e0 : W0.cell? ⟨w.heap.size + 1, 0, none⟩ = some (.bool y.allow) := by rw [← hW0]; simp [go_sem]
  have e1 : W0.cell? ⟨w.heap.size + 1, 1, none⟩ = some (.int .i64 y.at') := by rw [← hW0]; simp [go_sem]
  have e2 : W0.cell? ⟨w.heap.size + 1, 2, none⟩ = some (.slice ya y.by'.length cm) := by rw [← hW0]; simp [go_sem]
  rw [hW0]
  have HE0 := Lib.hid hE0
  clear hW0 hE0
  refine wp_region_P (fun w' => Ext W0 w') (Below.refl _ _) ?_
  repeat
    first
    | (refine steps_and rfl rfl rfl rfl ?_; simp only [Act.put, List.setIfInBounds_toArray, List.set_cons_succ, List.set_cons_zero])
    | (refine steps_or rfl rfl rfl rfl ?_; simp only [Act.put, List.setIfInBounds_toArray, List.set_cons_succ, List.set_cons_zero])
    | (refine steps_skip rfl ?_; simp only [Act.put, List.setIfInBounds_toArray, List.set_cons_succ, List.set_cons_zero])
    | (refine steps_guard_and rfl rfl rfl rfl rfl ?_; simp only [Act.put, List.setIfInBounds_toArray, List.set_cons_succ, List.set_cons_zero])
    | (refine steps_guard (v := ?_) rfl rfl (fun hb w' hS => ?_) ?_; rotate_left; (focus (have k0 := ext_cell c0 hS; have k1 := ext_cell c1 hS; have k2 := ext_cell c2 hS; have f0 := ext_cell e0 hS; have f1 := ext_cell e1 hS; have f2 := ext_cell e2 hS; unfold Gives; go_simp; first | exact is_mk hS | (refine (SameInts_any x.by' y.by' xa ya cn cm _ _ _ rfl rfl HN.out HM.out (HX.out.ext (ext_trans HE0.out hS)) (HY.out.ext (ext_trans HE0.out hS))).mono ?_; rintro e w'' ⟨rfl, h2⟩; exact gave_mk (ext_trans hS h2)))); simp only [Act.put, List.setIfInBounds_toArray, List.set_cons_succ, List.set_cons_zero])
    | (refine steps_guard2 (v := ?_) rfl rfl rfl (fun hb1 hb w' hS => ?_) ?_; rotate_left; (focus (have k0 := ext_cell c0 hS; have k1 := ext_cell c1 hS; have k2 := ext_cell c2 hS; have f0 := ext_cell e0 hS; have f1 := ext_cell e1 hS; have f2 := ext_cell e2 hS; unfold Gives; go_simp; first | exact is_mk hS | (refine (SameInts_any x.by' y.by' xa ya cn cm _ _ _ rfl rfl HN.out HM.out (HX.out.ext (ext_trans HE0.out hS)) (HY.out.ext (ext_trans HE0.out hS))).mono ?_; rintro e w'' ⟨rfl, h2⟩; exact gave_mk (ext_trans hS h2)))); simp only [Act.put, List.setIfInBounds_toArray, List.set_cons_succ, List.set_cons_zero])
    | (refine steps_run (v := ?_) rfl (fun w' hS => ?_) ?_; rotate_left; (focus (have k0 := ext_cell c0 hS; have k1 := ext_cell c1 hS; have k2 := ext_cell c2 hS; have f0 := ext_cell e0 hS; have f1 := ext_cell e1 hS; have f2 := ext_cell e2 hS; unfold Gives; go_simp; first | exact is_mk hS | (refine (SameInts_any x.by' y.by' xa ya cn cm _ _ _ rfl rfl HN.out HM.out (HX.out.ext (ext_trans HE0.out hS)) (HY.out.ext (ext_trans HE0.out hS))).mono ?_; rintro e w'' ⟨rfl, h2⟩; exact gave_mk (ext_trans hS h2)))); simp only [Act.put, List.setIfInBounds_toArray, List.set_cons_succ, List.set_cons_zero])
  refine steps_end fun w' hE' => ?_
  go_wp2_with fail
  go_ret
  exact ⟨ret_bool HD.out.symm, ext_trans HE0.out hE'⟩
set_option maxRecDepth 100000 in
set_option maxHeartbeats 4000000 in
theorem few16_any (l : List Rul) (v : Wsh) (a : Option Addr) (cap n : Nat) (va : Option Addr) (vc : Nat) (w : World) (hn : l.length = n) (hnc : n ≤ cap) (hcm : cap ≤ maxLen) (hl : Ruls w a l) (hvc : v.names.length ≤ vc) (hvm : vc ≤ maxLen) (hv : Strs w va v.names) :
    Calls Tryz.prog 14 #[.slice a n cap, wshV v va vc] w (Ret (.bool (fewB l && fewNames v.names)) w) := by
  have HN := Lib.hid hn; have HNC := Lib.hid hnc; have HCM := Lib.hid hcm; have HL := Lib.hid hl; have HVC := Lib.hid hvc; have HVM := Lib.hid hvm; have HV := Lib.hid hv
  clear hn hnc hcm hl hvc hvm hv
  obtain ⟨m, hm⟩ : ∃ m, v.names.length = m := ⟨_, rfl⟩
  have HM := Lib.hid hm
  have HW : Hid (Value.agg #[.int .i64 v.account, .slice va m vc, .int .u64 v.key, .int .i64 v.life] = wshV v va vc) := Lib.hid (by unfold wshV; rw [hm])
  unfold wshV
  rw [hm]
  clear hm
  go_enter Tryz.func14, Tryz.ntmps14
  go_upto_region 1 with (fail)
  obtain ⟨W0, hW0⟩ : ∃ W0, w.alloc (Obj.cells #[.int .i64 v.account, .slice va m vc, .int .u64 v.key, .int .i64 v.life] 26) = W0 := ⟨_, rfl⟩
  have hE0 : Ext w W0 := by rw [← hW0]; exact ext_alloc (Below.refl _ _) _
  have c0 : W0.cell? ⟨w.heap.size, 0, none⟩ = some (.int .i64 v.account) := by rw [← hW0]; simp [go_sem]
  have c1 : W0.cell? ⟨w.heap.size, 1, none⟩ = some (.slice va m vc) := by rw [← hW0]; simp [go_sem]
  have c2 : W0.cell? ⟨w.heap.size, 2, none⟩ = some (.int .u64 v.key) := by rw [← hW0]; simp [go_sem]
  have c3 : W0.cell? ⟨w.heap.size, 3, none⟩ = some (.int .i64 v.life) := by rw [← hW0]; simp [go_sem]
  rw [hW0]
  have HE0 := Lib.hid hE0
  clear hW0 hE0
  refine wp_region_P (fun w' => Ext W0 w') (Below.refl _ _) ?_
  repeat
    first
    | (refine steps_and rfl rfl rfl rfl ?_; simp only [Act.put, List.setIfInBounds_toArray, List.set_cons_succ, List.set_cons_zero])
    | (refine steps_or rfl rfl rfl rfl ?_; simp only [Act.put, List.setIfInBounds_toArray, List.set_cons_succ, List.set_cons_zero])
    | (refine steps_skip rfl ?_; simp only [Act.put, List.setIfInBounds_toArray, List.set_cons_succ, List.set_cons_zero])
    | (refine steps_guard_and rfl rfl rfl rfl rfl ?_; simp only [Act.put, List.setIfInBounds_toArray, List.set_cons_succ, List.set_cons_zero])
    | (refine steps_guard (v := ?_) rfl rfl (fun hb w' hS => ?_) ?_; rotate_left; (focus (have k0 := ext_cell c0 hS; have k1 := ext_cell c1 hS; have k2 := ext_cell c2 hS; have k3 := ext_cell c3 hS; unfold Gives; go_simp; first | exact is_mk hS | (refine (Few_any l a cap n _ HN.out HNC.out HCM.out (HL.out.ext (ext_trans HE0.out hS))).mono ?_; rintro e w'' ⟨rfl, rfl⟩; exact gave_mk hS) | (rw [HW.out]; refine (FewWish_any v va vc _ HVC.out HVM.out (HV.out.ext (ext_trans HE0.out hS))).mono ?_; rintro e w'' ⟨rfl, h2⟩; exact gave_mk (ext_trans hS h2)))); simp only [Act.put, List.setIfInBounds_toArray, List.set_cons_succ, List.set_cons_zero])
    | (refine steps_guard2 (v := ?_) rfl rfl rfl (fun hb1 hb w' hS => ?_) ?_; rotate_left; (focus (have k0 := ext_cell c0 hS; have k1 := ext_cell c1 hS; have k2 := ext_cell c2 hS; have k3 := ext_cell c3 hS; unfold Gives; go_simp; first | exact is_mk hS | (refine (Few_any l a cap n _ HN.out HNC.out HCM.out (HL.out.ext (ext_trans HE0.out hS))).mono ?_; rintro e w'' ⟨rfl, rfl⟩; exact gave_mk hS) | (rw [HW.out]; refine (FewWish_any v va vc _ HVC.out HVM.out (HV.out.ext (ext_trans HE0.out hS))).mono ?_; rintro e w'' ⟨rfl, h2⟩; exact gave_mk (ext_trans hS h2)))); simp only [Act.put, List.setIfInBounds_toArray, List.set_cons_succ, List.set_cons_zero])
    | (refine steps_run (v := ?_) rfl (fun w' hS => ?_) ?_; rotate_left; (focus (have k0 := ext_cell c0 hS; have k1 := ext_cell c1 hS; have k2 := ext_cell c2 hS; have k3 := ext_cell c3 hS; unfold Gives; go_simp; first | exact is_mk hS | (refine (Few_any l a cap n _ HN.out HNC.out HCM.out (HL.out.ext (ext_trans HE0.out hS))).mono ?_; rintro e w'' ⟨rfl, rfl⟩; exact gave_mk hS) | (rw [HW.out]; refine (FewWish_any v va vc _ HVC.out HVM.out (HV.out.ext (ext_trans HE0.out hS))).mono ?_; rintro e w'' ⟨rfl, h2⟩; exact gave_mk (ext_trans hS h2)))); simp only [Act.put, List.setIfInBounds_toArray, List.set_cons_succ, List.set_cons_zero])
  refine steps_end fun w' hE' => ?_
  go_wp2_with fail
  go_ret
  exact ⟨rfl, ext_trans HE0.out hE'⟩
end Go.Proofs.YtmdmbdbbpdojnaaGreatDoor
namespace Go.Proofs.YtmdmbdbbpdojnaaGreatDoor
open Go.RowKit Nam Pol
attribute [local go_sem] gv_of

theorem own_ext {w w' : World} {base : Nat} {e : TypeId} {size : Nat} {v : Value} {n : Nat} {xs : List Value} (h : w.ownsRow base e size v n xs) (hE : Ext w w') : w'.ownsRow base e size v n xs := by
  obtain ⟨h1, h2⟩ := h
  refine ⟨h1, ?_⟩
  rcases h2 with h2 | ⟨g, cap, cur, h2, h3, h4, h5⟩
  · exact .inl h2
  · exact .inr ⟨g, cap, cur, h2, h3, (hE.block g (Array.getElem?_eq_some_iff.1 h4).1).trans h4, h5⟩
/-- Is a name bare? -/
def Pol.bareB (l : List Rul) (s : ByteArray) : Bool := nmB s && decide (decidesB l s < 0)
theorem filter_take_snoc {α : Type} {l : List α} {k : Nat} {x : α} (h : l[k]? = some x) (f : α → Bool) : (l.take (k + 1)).filter f = (l.take k).filter f ++ (if f x then [x] else []) := by
  rw [List.take_add_one, h]; simp [List.filter_cons]
theorem filter_take_le {α : Type} (l : List α) (k : Nat) (f : α → Bool) : ((l.take k).filter f).length ≤ k := Nat.le_trans (List.length_filter_le _ _) (by rw [List.length_take]; omega)
set_option maxRecDepth 100000 in
set_option maxHeartbeats 4000000 in
theorem r16Bare_any (l : List Rul) (ns : List ByteArray) (a na : Option Addr) (cap n nc m : Nat) (w : World) (hn : l.length = n) (hnc : n ≤ cap) (hcm : cap ≤ maxLen) (hl : Ruls w a l) (hm : ns.length = m) (hmc : m ≤ nc) (hmm : nc ≤ maxLen) (hns : Strs w na ns) (hfew : m ≤ 1000) :
    Calls Tryz.prog 23 #[.slice a n cap, .slice na m nc] w (RetSl ((ns.filter (bareB l)).map Value.string) w) := by
  obtain ⟨i0, hi, hz0, hz1, hz2⟩ := info_parts Tryz.infoStr
  have HN := Lib.hid hn; have HNC := Lib.hid hnc; have HCM := Lib.hid hcm; have HL := Lib.hid hl; have HM := Lib.hid hm; have HNS := Lib.hid hns
  unfold maxLen at hmm
  clear hn hnc hcm hl hm hns
  go_enter Tryz.func23, Tryz.ntmps23
  go_wp2_with fail
  go_loopw [6, 5] (fun i o wr => ∃ k : Nat, k ≤ m ∧ i = .int .i64 k ∧ wr.ownsRow w.heap.size 9 1 o ((ns.take k).filter (bareB l)).length (((ns.take k).filter (bareB l)).map Value.string) ∧ Ext w wr) (fun i _ _ => m - (intOf i).toNat)
  case atStart => exact ⟨0, Nat.zero_le _, rfl, World.ownsRow_nil _ _ _ _, Below.refl _ _⟩
  case round =>
    obtain ⟨k, hk, rfl, hown, hEr⟩ := hrel
    have HOWN := Lib.hid hown; have HER := Lib.hid hEr
    clear hown
    by_cases hlt : k < m
    · obtain ⟨p, hp⟩ := get_some HM.out hlt
      obtain ⟨b, off, rfl, d0, hps⟩ := (HNS.out.ext hEr) k p hp
      rw [Nat.mul_one] at d0
      have HT := Lib.hid (filter_take_snoc hp (bareB l))
      have HLE := Lib.hid (filter_take_le ns k (bareB l))
      have hpn : p.size ≤ 9223372036854775807 := hps
      have hkc : k ≤ nc := by omega
      clear hp hps hEr
      go_upto_region 5 with (fail)
      refine wp_region_P (fun w' => Ext wr w') (Below.refl _ _) ?_
      repeat
        first
        | (refine steps_and rfl rfl rfl rfl ?_; simp only [Act.put, List.setIfInBounds_toArray, List.set_cons_succ, List.set_cons_zero])
        | (refine steps_or rfl rfl rfl rfl ?_; simp only [Act.put, List.setIfInBounds_toArray, List.set_cons_succ, List.set_cons_zero])
        | (refine steps_skip rfl ?_; simp only [Act.put, List.setIfInBounds_toArray, List.set_cons_succ, List.set_cons_zero])
        | (refine steps_guard_and rfl rfl rfl rfl rfl ?_; simp only [Act.put, List.setIfInBounds_toArray, List.set_cons_succ, List.set_cons_zero])
        | (refine steps_guard (v := ?_) rfl rfl (fun hb w' hS => ?_) ?_; rotate_left; (focus (have e0 := ext_cell d0 hS; unfold Gives; go_simp; first | exact is_mk hS | (refine (rName_any _ _ hpn).mono ?_; rintro e w'' ⟨rfl, h2⟩; exact gave_mk (ext_trans hS h2)) | (refine (Decides_any l p a cap n _ HN.out HNC.out HCM.out (HL.out.ext (ext_trans HER.out hS)) hpn).mono ?_; rintro e w'' ⟨rfl, h2⟩; exact gave_mk (ext_trans hS h2)))); simp only [Act.put, List.setIfInBounds_toArray, List.set_cons_succ, List.set_cons_zero])
        | (refine steps_guard2 (v := ?_) rfl rfl rfl (fun hb1 hb w' hS => ?_) ?_; rotate_left; (focus (have e0 := ext_cell d0 hS; unfold Gives; go_simp; first | exact is_mk hS | (refine (rName_any _ _ hpn).mono ?_; rintro e w'' ⟨rfl, h2⟩; exact gave_mk (ext_trans hS h2)) | (refine (Decides_any l p a cap n _ HN.out HNC.out HCM.out (HL.out.ext (ext_trans HER.out hS)) hpn).mono ?_; rintro e w'' ⟨rfl, h2⟩; exact gave_mk (ext_trans hS h2)))); simp only [Act.put, List.setIfInBounds_toArray, List.set_cons_succ, List.set_cons_zero])
        | (refine steps_run (v := ?_) rfl (fun w' hS => ?_) ?_; rotate_left; (focus (have e0 := ext_cell d0 hS; unfold Gives; go_simp; first | exact is_mk hS | (refine (rName_any _ _ hpn).mono ?_; rintro e w'' ⟨rfl, h2⟩; exact gave_mk (ext_trans hS h2)) | (refine (Decides_any l p a cap n _ HN.out HNC.out HCM.out (HL.out.ext (ext_trans HER.out hS)) hpn).mono ?_; rintro e w'' ⟨rfl, h2⟩; exact gave_mk (ext_trans hS h2)))); simp only [Act.put, List.setIfInBounds_toArray, List.set_cons_succ, List.set_cons_zero])
      refine steps_end fun w' hE' => ?_
      have HB : Hid ((isB p.data.toList && decide (decidesB l p < 0)) = bareB l p) := Lib.hid rfl
      cases hq : (isB p.data.toList && decide (decidesB l p < 0))
      · have HQ := Lib.hid (show bareB l p = false by rw [← HB.out]; exact hq)
        clear hq
        go_wp2_with fail
        go_roundw
        case rel => exact ⟨k + 1, by omega, by go_num, by rw [HT.out, HQ.out, if_neg (by simp), List.append_nil]; exact own_ext HOWN.out hE', ext_trans HER.out hE'⟩
        case measure => simp [intOf]; omega
      · have HQ := Lib.hid (show bareB l p = true by rw [← HB.out]; exact hq)
        clear hq
        have e0 := ext_cell d0 hE'
        have hE2 := ext_trans HER.out hE'
        have hsz := hE2.size
        have hown := own_ext HOWN.out hE'
        clear d0
        have hle := HLE.out
        go_wp2_with (at_builtin; refine wpList_append_own _ rfl _ _ 23 rfl w.heap.size 9 i0 (.string ⟨#[]⟩) 1 16 Tryz.underlying23 hi hz0 hz1 hz2 rfl (by decide) u5 _ _ rfl (hown.alloc _) ⟨w'.heap.size, 0, none⟩ 1 1 [.string p] rfl rfl (one_cell_new _ _ _) (by simp [Value.oneCell']) (by unfold maxLen; omega) (by omega) (by simp; omega) ?_; intro v' w1 hown1 hgrow1 _)
        go_roundw
        case rel =>
          refine ⟨k + 1, by omega, by go_num, ?_, (hE2.alloc hsz _).grown hgrow1 (by simp; omega) (own_ge hown)⟩
          rw [HT.out, HQ.out, if_pos rfl, List.map_append, List.length_append]
          exact hown1
        case measure => simp [intOf]; omega
    · obtain rfl : k = m := by omega
      have HQ := Lib.hid (show ns.take k = ns from List.take_of_length_le (by rw [HM.out]; exact Nat.le_refl _))
      go_wp2_with fail
      go_ret
      refine ⟨_, rfl, ?_, hEr⟩
      have := Sl.own HOWN.out
      rwa [HQ.out] at this
end Go.Proofs.YtmdmbdbbpdojnaaGreatDoor
namespace Go.Proofs.YtmdmbdbbpdojnaaGreatDoor
open Go.RowKit

theorem flat_get {α β : Type} {m : Nat} {f : α → List β} (hm : ∀ x, (f x).length = m) : ∀ {l : List α} {i : Nat} {x : α} (j : Nat), l[i]? = some x → j < m → (l.flatMap f)[i * m + j]? = (f x)[j]?
  | [], i, x, j, h, _ => by simp at h
  | y :: l, 0, x, j, h, hj => by
    simp at h; subst h
    rw [List.flatMap_cons, Nat.zero_mul, Nat.zero_add, List.getElem?_append_left (by rw [hm]; exact hj)]
  | y :: l, i + 1, x, j, h, hj => by
    have h' : l[i]? = some x := by simpa using h
    rw [List.flatMap_cons, List.getElem?_append_right (by rw [hm, Nat.add_mul]; omega), hm, show (i + 1) * m + j - m = i * m + j by rw [Nat.add_mul]; omega]
    exact flat_get hm j h' hj
theorem flat_length {α β : Type} {m : Nat} {f : α → List β} (hm : ∀ x, (f x).length = m) (l : List α) : (l.flatMap f).length = l.length * m := by
  induction l with
  | nil => simp
  | cons x l ih => rw [List.flatMap_cons, List.length_append, ih, hm, List.length_cons, Nat.add_mul]; omega
/-- The row's cells. -/
theorem own_cell {w : World} {base : Nat} {e : TypeId} {m n : Nat} {v : Value} {xs : List Value} (h : w.ownsRow base e m v n xs) {g : Nat} (hg : v.ownBlock = some g) {j : Nat} {u : Value} (hu : xs[j]? = some u) : w.cell? ⟨g, j, none⟩ = some u := by
  have := h.cells hg j u hu
  rwa [show ((⟨g, 0, none⟩ : Addr).add j) = ⟨g, j, none⟩ from by unfold Addr.add; split <;> simp_all] at this
/-- What the value of a row of one's own looks like. -/
theorem own_form {w : World} {base : Nat} {e : TypeId} {m n : Nat} {v : Value} {xs : List Value} (h : w.ownsRow base e m v n xs) : (v = .slice none 0 0 ∧ n = 0 ∧ xs = []) ∨ ∃ g cap, v = .slice (some ⟨g, 0, none⟩) n cap ∧ v.ownBlock = some g ∧ base ≤ g ∧ g < w.heap.size ∧ n ≤ cap ∧ cap ≤ maxLen := by
  obtain ⟨h0, h1⟩ := h
  rcases h1 with ⟨hv, hn⟩ | ⟨g, cap, cur, hv, hg, hh, hc, hm, _⟩
  · subst hn; exact .inl ⟨hv, rfl, List.eq_nil_of_length_eq_zero (by omega)⟩
  · exact .inr ⟨g, cap, hv, by rw [hv]; rfl, hg, (Array.getElem?_eq_some_iff.1 hh).1, hc, hm⟩
/-- A row of one's own reads as the list whose cells it holds. -/
theorem own_slv {α : Type} {m : Nat} {R : ElR α} {cells : α → List Value} (hm : ∀ x, (cells x).length = m) {w : World} {base : Nat} {e : TypeId} {v : Value} {n : Nat} {l : List α}
    (hR : ∀ b o x, x ∈ l → (∀ (j : Nat) (u : Value), (cells x)[j]? = some u → w.cell? ⟨b, o + j, none⟩ = some u) → R w b o x) (hn : l.length = n) (h : w.ownsRow base e m v n (l.flatMap cells)) : SlV m R w v l := by
  rcases own_form h with ⟨rfl, rfl, hx⟩ | ⟨g, cap, hv, hg, _, _, hc, hcm⟩
  · have hl : l = [] := List.eq_nil_of_length_eq_zero hn
    subst hl
    exact ⟨none, 0, rfl, Nat.le_refl _, Nat.zero_le _, SlA.nil _ _ _ _⟩
  · refine ⟨some ⟨g, 0, none⟩, cap, by rw [hv, hn], by rw [hn]; exact hc, hcm, fun i x hx => ⟨g, 0, rfl, ?_⟩⟩
    refine hR _ _ x (List.mem_of_getElem? hx) fun j u hu => ?_
    have hj : j < m := by rw [← hm x]; exact (List.getElem?_eq_some_iff.1 hu).1
    rw [Nat.zero_add]
    exact own_cell h hg (by rw [flat_get hm j hx hj]; exact hu)
/-- Two rows of unlike types lie apart. -/
theorem own_apart {w : World} {b1 b2 : Nat} {e1 e2 : TypeId} {m1 m2 n1 n2 : Nat} {v1 v2 : Value} {x1 x2 : List Value} (h1 : w.ownsRow b1 e1 m1 v1 n1 x1) (h2 : w.ownsRow b2 e2 m2 v2 n2 x2) (he : e1 ≠ e2) : v1.ownBlock = none ∨ v1.ownBlock ≠ v2.ownBlock := by
  rcases h1.2 with ⟨rfl, _⟩ | ⟨g1, c1, cur1, rfl, _, hh1, _⟩
  · exact .inl rfl
  · right
    rcases h2.2 with ⟨rfl, _⟩ | ⟨g2, c2, cur2, rfl, _, hh2, _⟩
    · simp [Value.ownBlock]
    · simp only [Value.ownBlock, ne_eq, Option.some.injEq]
      rintro rfl
      rw [hh1] at hh2
      simp at hh2
      exact he hh2.2
/-- A row stands where its block stands. -/
theorem own_keep {w w' : World} {base : Nat} {e : TypeId} {m n : Nat} {v : Value} {xs : List Value} (h : w.ownsRow base e m v n xs) (hb : ∀ g, v.ownBlock = some g → w'.heap[g]? = w.heap[g]?) : w'.ownsRow base e m v n xs := by
  obtain ⟨h1, h2⟩ := h
  refine ⟨h1, ?_⟩
  rcases h2 with h2 | ⟨g, cap, cur, h2, h3, h4, h5⟩
  · exact .inl h2
  · exact .inr ⟨g, cap, cur, h2, h3, (hb g (by rw [h2]; rfl)).trans h4, h5⟩
theorem own_fr {S : Nat → Prop} {w w' : World} {base : Nat} {e : TypeId} {m n : Nat} {v : Value} {xs : List Value} (h : w.ownsRow base e m v n xs) (hF : Fr S w w') (hs : ∀ g, v.ownBlock = some g → ¬ S g) : w'.ownsRow base e m v n xs :=
  own_keep h fun g hg => hF.block g (h.lt g hg).2 (hs g hg)
theorem own_map_apart {w : World} {base : Nat} {e : TypeId} {m n b : Nat} {v : Value} {xs : List Value} {es : Array MapEntry} {clock : Nat} (h : w.ownsRow base e m v n xs) (hb : w.heap[b]? = some (.map es clock)) : v.ownBlock ≠ some b := by
  intro hv
  rcases h.2 with ⟨rfl, _⟩ | ⟨g, cap, cur, rfl, _, hh, _⟩
  · simp [Value.ownBlock] at hv
  · simp only [Value.ownBlock, Option.some.injEq] at hv
    subst hv
    rw [hb] at hh; cases hh
theorem Fr.grown {w w' : World} {row : Option Nat} (hg : w.grownBy w' row) : Fr (fun b => row = some b) w w' := ⟨hg.os, hg.tape, hg.output, hg.size, fun k hk hs => hg.block k hk (fun e => hs e.symm)⟩
theorem Fr.join {S T : Nat → Prop} {A B C : World} (h : Fr S A B) (k : Fr T B C) : Fr (fun b => S b ∨ T b) A C :=
  (h.mono fun _ _ hs => .inl hs).trans (k.mono fun _ _ hs => .inr hs)
theorem Fr.onto {S T : Nat → Prop} {A B C : World} (h : Fr S A B) (k : Fr T B C) (hT : ∀ i, i < A.heap.size → T i → S i) : Fr S A C :=
  ⟨k.os.trans h.os, k.tape.trans h.tape, k.output.trans h.output, Nat.le_trans h.size k.size,
   fun i hi hs => (k.block i (Nat.lt_of_lt_of_le hi h.size) (fun t => hs (hT i hi t))).trans (h.block i hi hs)⟩
/-- Two cells that a literal lays. -/
theorem two_cells_new (w : World) (v u : Value) (t : TypeId) : ∀ (j : Nat) (x : Value), [v, u][j]? = some x → (w.alloc (.cells #[v, u] t)).cell? ((⟨w.heap.size, 0, none⟩ : Addr).add j) = some x := by
  intro j x h
  match j, h with
  | 0, h => simp at h; subst h; simp [Addr.add, go_sem]
  | 1, h => simp at h; subst h; simp [Addr.add, go_sem]
  | j + 2, h => simp at h
theorem four_cells_new (w : World) (a b c d : Value) (t : TypeId) : ∀ (j : Nat) (x : Value), [a, b, c, d][j]? = some x → (w.alloc (.cells #[a, b, c, d] t)).cell? ((⟨w.heap.size, 0, none⟩ : Addr).add j) = some x := by
  intro j x h
  match j, h with
  | 0, h => simp at h; subst h; simp [Addr.add, go_sem]
  | 1, h => simp at h; subst h; simp [Addr.add, go_sem]
  | 2, h => simp at h; subst h; simp [Addr.add, go_sem]
  | 3, h => simp at h; subst h; simp [Addr.add, go_sem]
  | j + 4, h => simp at h
end Go.Proofs.YtmdmbdbbpdojnaaGreatDoor
