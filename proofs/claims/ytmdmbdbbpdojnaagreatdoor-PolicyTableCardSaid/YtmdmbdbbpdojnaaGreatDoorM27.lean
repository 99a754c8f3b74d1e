/- Walks: policy.Decide. -/
import Derived.Test.YtmdmbdbbpdojnaaGreatDoorM24
import Derived.Deep.RegionHeld3
namespace Go.Proofs.YtmdmbdbbpdojnaaGreatDoor
open Go.RowKit Nam Pol Go.Maps
attribute [local go_sem] gv_of

theorem check_zero {rs : List Rul} {ns : List Nod} (h : checkT rs ns = 0) : rightE rs = 0 ∧ treeOf rs = ns := by
  unfold checkT at h
  by_cases h0 : rightE rs = 0
  · rw [if_pos h0] at h
    by_cases h1 : treeOf rs = ns
    · exact ⟨h0, h1⟩
    · rw [if_neg h1] at h; cases h
  · rw [if_neg h0] at h; exact absurd h h0
theorem labs_rev {s : ByteArray} (h : isB s.data.toList = true) : labsB s = revL s.data.toList := by unfold labsB revL; rw [if_pos h]
set_option maxRecDepth 100000 in
set_option maxHeartbeats 4000000 in
theorem pDecide_any (l : List Rul) (ns : List Nod) (v : Wsh) (a b : Option Addr) (cap n c mn : Nat) (va : Option Addr) (vc : Nat) (w : World) (hn : l.length = n) (hnc : n ≤ cap) (hcm : cap ≤ maxLen) (hl : Ruls w a l) (hfew : n ≤ 1000) (hpf : ∀ r ∈ l, r.pats.length ≤ 1000)
    (hmn : ns.length = mn) (hmc : mn ≤ c) (hmm : c ≤ maxLen) (hns : Nods w b ns) (hvc : v.names.length ≤ vc) (hvm : vc ≤ maxLen) (hv : Strs w va v.names) (hvs : ∀ s ∈ v.names, s.size ≤ 9223372036854775807) (hw : Env w) :
    Calls Tryz.prog 27 #[.agg #[.slice a n cap, .slice b mn c], wshV v va vc] w (RetVE (decideOf l ns v) w) := by
  have HN := Lib.hid hn; have HNC := Lib.hid hnc; have HCM := Lib.hid hcm; have HL := Lib.hid hl; have HFE := Lib.hid hfew; have HPF := Lib.hid hpf
  have HVC := Lib.hid hvc; have HVM := Lib.hid hvm; have HV := Lib.hid hv; have HW := Lib.hid hw; have HMN := Lib.hid hmn; have HMC := Lib.hid hmc; have HMM := Lib.hid hmm; have HNS := Lib.hid hns; have HVS := Lib.hid hvs
  clear hn hnc hcm hl hfew hpf hvc hvm hv hw hmn hmc hmm hns hvs
  obtain ⟨m, hm⟩ : ∃ m, v.names.length = m := ⟨_, rfl⟩
  have HM := Lib.hid hm
  have HWV : Hid (Value.agg #[.int .i64 v.account, .slice va m vc, .int .u64 v.key, .int .i64 v.life] = wshV v va vc) := Lib.hid (by unfold wshV; rw [hm])
  obtain ⟨x, hx⟩ : ∃ x, checkT l ns = x := ⟨_, rfl⟩
  have HX := Lib.hid hx
  unfold wshV
  rw [hm]
  clear hx hm
  go_enter Tryz.func27, Tryz.ntmps27
  go_upto_region 1 with (fail)
  obtain ⟨W0, hW0⟩ : ∃ W0, ((w.alloc (Obj.cells #[.slice a n cap, .slice b mn c] 45)).alloc (Obj.cells #[.int .i64 v.account, .slice va m vc, .int .u64 v.key, .int .i64 v.life] 26)).alloc (Obj.cells #[.bool false, .int .i64 0, .slice none 0 0] 32) = W0 := ⟨_, rfl⟩
  have hE0 : Ext w W0 := by rw [← hW0]; exact ext_alloc (ext_alloc (ext_alloc (Below.refl _ _) _) _) _
  have t0 : W0.cell? ⟨w.heap.size, 0, none⟩ = some (.slice a n cap) := by rw [← hW0]; simp [go_sem]
  have t1 : W0.cell? ⟨w.heap.size, 1, none⟩ = some (.slice b mn c) := by rw [← hW0]; simp [go_sem]
  have c0 : W0.cell? ⟨w.heap.size + 1, 0, none⟩ = some (.int .i64 v.account) := by rw [← hW0]; simp [go_sem]
  have c1 : W0.cell? ⟨w.heap.size + 1, 1, none⟩ = some (.slice va m vc) := by rw [← hW0]; simp [go_sem]
  have c2 : W0.cell? ⟨w.heap.size + 1, 2, none⟩ = some (.int .u64 v.key) := by rw [← hW0]; simp [go_sem]
  have c3 : W0.cell? ⟨w.heap.size + 1, 3, none⟩ = some (.int .i64 v.life) := by rw [← hW0]; simp [go_sem]
  have b1 : VerB W0 (w.heap.size + 1 + 1) false 0 (.slice none 0 0) := by
    rw [← hW0]
    have := VerB.new ((w.alloc (Obj.cells #[.slice a n cap, .slice b mn c] 45)).alloc (Obj.cells #[.int .i64 v.account, .slice va m vc, .int .u64 v.key, .int .i64 v.life] 26)) false 0 (.slice none 0 0)
    rwa [World.size_alloc, World.size_alloc] at this
  have HZ := Lib.hid (show W0.heap.size = w.heap.size + 3 by rw [← hW0]; simp)
  have HE0 := Lib.hid hE0; have C0 := Lib.hid c0; have C1 := Lib.hid c1; have C2 := Lib.hid c2; have C3 := Lib.hid c3; have B1 := Lib.hid b1; have T0 := Lib.hid t0; have T1 := Lib.hid t1
  rw [hW0]
  clear hW0 hE0 c0 c1 c2 c3 b1
  by_cases h0 : x = 0
  · have tz : (x != 0) = false := by simpa using h0
    have H0 := Lib.hid (HX.out.trans h0)
    clear h0
    cases hmy : mayB v
    · have HR := Lib.hid (show decideOf l ns v = (zeroV, 1) by unfold decideOf; rw [if_pos H0.out, hmy]; rfl)
      have HMY := Lib.hid hmy
      clear hmy
      go_wp2_with (first
        | (go_at_call 30; refine (CheckT_any l ns a b cap n c mn _ HN.out HNC.out HCM.out (HL.out.ext HE0.out) HFE.out HPF.out HMN.out HMC.out HMM.out (HNS.out.ext HE0.out) (HW.out.ext HE0.out)).mono ?_; rintro e w1 ⟨rfl, hE1⟩; rw [HX.out]
           have k0 := ext_cell C0.out hE1; have k1 := ext_cell C1.out hE1; have k2 := ext_cell C2.out hE1; have k3 := ext_cell C3.out hE1
           have HE1 := Lib.hid hE1; clear hE1)
        | (go_at_call 40; rw [HWV.out]; refine (may_any v va vc _ HVC.out HVM.out (HV.out.ext (ext_trans HE0.out HE1.out))).mono ?_; rintro e w2 ⟨rfl, hE2⟩; rw [HMY.out]
           have hb := B1.out.ext (ext_trans HE1.out hE2)
           have fz0 := hb.frozen 0; have fz1 := hb.frozen 1; have fz2 := hb.frozen 2
           obtain ⟨e0, e1, e2⟩ := hb.cells
           have HB := Lib.hid hb; have HE2 := Lib.hid (ext_trans HE0.out (ext_trans HE1.out hE2)); clear hb hE2 k0 k1 k2 k3))
      obtain ⟨W4, hW4⟩ : ∃ W4, ((w2.setCell ⟨w.heap.size + 1 + 1, 0, none⟩ (.bool false)).setCell ⟨w.heap.size + 1 + 1, 1, none⟩ (.int .i64 0)).setCell ⟨w.heap.size + 1 + 1, 2, none⟩ (.slice none 0 0) = W4 := ⟨_, rfl⟩
      have hb4 : VerB W4 (w.heap.size + 1 + 1) false 0 (.slice none 0 0) := by rw [← hW4]; exact ((HB.out.set0 _).set1 _).set2 _
      have hx4 : Ext w W4 := by rw [← hW4]; exact ((HE2.out.setCell (p := ⟨w.heap.size + 1 + 1, 0, none⟩) (by simp; omega) _).setCell (p := ⟨w.heap.size + 1 + 1, 1, none⟩) (by simp; omega) _).setCell (p := ⟨w.heap.size + 1 + 1, 2, none⟩) (by simp; omega) _
      obtain ⟨q0, q1, q2⟩ := hb4.cells
      rw [hW4]
      refine bodyPost_ret (v := .tuple #[.agg #[.bool false, .int .i64 0, .slice none 0 0], .int .i64 1]) (by simp [results, Tryz.results27, go_sem, q0, q1, q2]) rfl ?_
      rw [HR.out]
      exact retVE_zero hx4
    · have HR := Lib.hid (show decideOf l ns v = (verdictOf l v (decT ns), 0) by unfold decideOf; rw [if_pos H0.out, hmy]; rfl)
      have HMY := Lib.hid hmy
      clear hmy
      obtain ⟨hr0, hto⟩ := check_zero H0.out
      have hRt := rightE_iff.1 hr0
      obtain ⟨ps, hps, _⟩ := tree_ok hRt l.length (Nat.le_refl _)
      have hps' : Tree ns ps := by rw [← hto]; exact hps
      have HK := Lib.hid (show ∀ (j : Nat) (x : Nod), ns[j]? = some x → kidsIn ns x.kids from fun j x hx => hps'.kidsIn hx)
      have h0m : 0 < mn := by
        have h1 := hps'.len
        have h2 := (List.getElem?_eq_some_iff.1 hps'.root).1
        rw [h1, HMN.out] at h2; exact h2
      have HDEC := Lib.hid (show ∀ s ∈ v.names, decT ns s = -1 ∨ ∃ i : Nat, i < n ∧ decT ns s = i from fun s hs => by
        rw [← hto, decT_eq hRt (may_names HMY.out s hs), ← HN.out]
        exact decP_cases (may_names HMY.out s hs))
      have HGO := Lib.hid (show ∀ s ∈ v.names, goT ns (labsB s) 0 (-1) = decT ns s from fun s hs => by unfold decT; rw [labs_rev (may_names HMY.out s hs)])
      clear hr0 hto hRt hps hps'
      go_wp2_with (first
        | (go_at_call 30; refine (CheckT_any l ns a b cap n c mn _ HN.out HNC.out HCM.out (HL.out.ext HE0.out) HFE.out HPF.out HMN.out HMC.out HMM.out (HNS.out.ext HE0.out) (HW.out.ext HE0.out)).mono ?_; rintro e w1 ⟨rfl, hE1⟩; rw [HX.out]
           have k0 := ext_cell C0.out hE1; have k1 := ext_cell C1.out hE1; have k2 := ext_cell C2.out hE1; have k3 := ext_cell C3.out hE1
           have HE1 := Lib.hid hE1; clear hE1)
        | (go_at_call 40; rw [HWV.out]; refine (may_any v va vc _ HVC.out HVM.out (HV.out.ext (ext_trans HE0.out HE1.out))).mono ?_; rintro e w2 ⟨rfl, hE2⟩; rw [HMY.out]
           have m0 := ext_cell k0 hE2; have m1 := ext_cell k1 hE2; have m2 := ext_cell k2 hE2; have m3 := ext_cell k3 hE2
           have u0 := ext_cell T0.out (ext_trans HE1.out hE2); have u1 := ext_cell T1.out (ext_trans HE1.out hE2)
           have HE2 := Lib.hid (ext_trans HE1.out hE2); clear hE2 k0 k1 k2 k3))
      have hlen := may_len HMY.out
      rw [HM.out] at hlen
      clear t0 t1
      have HU0 := Lib.hid u0; have HU1 := Lib.hid u1
      go_region_with (first
          | (go_at_call 60
             refine (walker_any _ _ _).mono ?_
             rintro e w3 ⟨rfl, hw3⟩
             have hE3 : Ext w2 w3 := by rw [hw3]; exact ext_trans ((Fr.drew (fun _ => False) w2).ext (fun _ _ h => h)) (ext_alloc (Below.refl _ _) _)
             have p0 := ext_cell m0 hE3; have p1 := ext_cell m1 hE3; have p2 := ext_cell m2 hE3; have p3 := ext_cell m3 hE3
             have v0 := ext_cell HU0.out hE3; have v1 := ext_cell HU1.out hE3
             have HTB : Hid (TabB w3 w2.drew.heap.size (.slice a n cap) (.slice b mn c)) := Lib.hid (by rw [hw3]; exact TabB.new w2.drew (.slice a n cap) (.slice b mn c)); have HE3 := Lib.hid (ext_trans HE2.out hE3)
             clear hE3 hw3)
          | (go_at_call 41
             rw [HWV.out]
             refine (verdict_any l v (decT ns) 94 #[.pointer (some ⟨w2.drew.heap.size, 0, none⟩)] a cap n va vc _ HN.out HNC.out HCM.out (HL.out.ext (ext_trans HE0.out HE3.out)) HVC.out HVM.out (HV.out.ext (ext_trans HE0.out HE3.out)) (by rw [HM.out]; omega) (enters_of Tryz.func94 (by kernel_rfl) rfl)
               (fun s hs w' hE => by
                 have h1 := walker1_any ns s b c mn w2.drew.heap.size (.slice a n cap) w' HMN.out HMC.out HMM.out ((HNS.out.ext (ext_trans HE0.out HE3.out)).ext hE) HK.out h0m (HVS.out s hs) (HTB.out.ext hE) (((HW.out.ext HE0.out).ext HE3.out).ext hE)
                 rw [HGO.out s hs] at h1
                 exact h1) HDEC.out).mono ?_
             rintro e w4 ⟨ra, rc, rfl, r1, r2, r3, r4, h4⟩
             unfold verV
             have hb := B1.out.ext (ext_trans HE3.out h4)
             have fz0 := hb.frozen 0; have fz1 := hb.frozen 1; have fz2 := hb.frozen 2
             obtain ⟨e0, e1, e2⟩ := hb.cells
             have HB := Lib.hid hb; have HE4 := Lib.hid (ext_trans HE0.out (ext_trans HE3.out h4)); have R1 := Lib.hid r1; have R2 := Lib.hid r2; have R3 := Lib.hid r3
             have R4 := Lib.hid (show ∀ p, ra = some p → w.heap.size + 3 ≤ p.block from fun p hp => by have q1 := r4 p hp; have q2 := HE3.out.size; have q3 := HZ.out; omega)
             clear hb h4 r1 r2 r3 r4))
      all_goals
        go_wp2_with fail
        obtain ⟨W4, hW4⟩ : ∃ W4, ((w4.setCell ⟨w.heap.size + 1 + 1, 0, none⟩ (.bool (verdictOf l v (decT ns)).allow)).setCell ⟨w.heap.size + 1 + 1, 1, none⟩ (.int .i64 (verdictOf l v (decT ns)).at')).setCell ⟨w.heap.size + 1 + 1, 2, none⟩ (.slice ra (verdictOf l v (decT ns)).by'.length rc) = W4 := ⟨_, rfl⟩
        have hb4 : VerB W4 (w.heap.size + 1 + 1) (verdictOf l v (decT ns)).allow (verdictOf l v (decT ns)).at' (.slice ra (verdictOf l v (decT ns)).by'.length rc) := by rw [← hW4]; exact ((HB.out.set0 _).set1 _).set2 _
        have hx4 : Ext w W4 := by rw [← hW4]; exact ((HE4.out.setCell (p := ⟨w.heap.size + 1 + 1, 0, none⟩) (by simp; omega) _).setCell (p := ⟨w.heap.size + 1 + 1, 1, none⟩) (by simp; omega) _).setCell (p := ⟨w.heap.size + 1 + 1, 2, none⟩) (by simp; omega) _
        have hi4 : Ints W4 ra (verdictOf l v (decT ns)).by' := by
          rw [← hW4]
          exact ints_fr R3.out (((Fr.setCell (S := fun b => b = w.heap.size + 1 + 1) _ _ _ rfl).trans (Fr.setCell _ _ _ rfl)).trans (Fr.setCell _ _ _ rfl)) fun p hp hb => by have := R4.out p hp; omega
        obtain ⟨q0, q1, q2⟩ := hb4.cells
        rw [hW4]
        refine bodyPost_ret (v := .tuple #[.agg #[.bool (verdictOf l v (decT ns)).allow, .int .i64 (verdictOf l v (decT ns)).at', .slice ra (verdictOf l v (decT ns)).by'.length rc], .int .i64 0]) (by simp [results, Tryz.results27, go_sem, q0, q1, q2]) rfl ?_
        rw [HR.out]
        exact ⟨ra, rc, rfl, R1.out, R2.out, hi4, fun p hp => by have := R4.out p hp; omega, hx4⟩
  · have tz : (x != 0) = true := by simpa using h0
    have HR := Lib.hid (show decideOf l ns v = (zeroV, x) by unfold decideOf; rw [if_neg (by rw [HX.out]; exact h0), HX.out])
    clear h0
    go_wp2_with (first
      | (go_at_call 30; refine (CheckT_any l ns a b cap n c mn _ HN.out HNC.out HCM.out (HL.out.ext HE0.out) HFE.out HPF.out HMN.out HMC.out HMM.out (HNS.out.ext HE0.out) (HW.out.ext HE0.out)).mono ?_; rintro e w1 ⟨rfl, hE1⟩; rw [HX.out]
         have hb := B1.out.ext hE1
         have fz0 := hb.frozen 0; have fz1 := hb.frozen 1; have fz2 := hb.frozen 2
         obtain ⟨e0, e1, e2⟩ := hb.cells
         have HB := Lib.hid hb; have HE1 := Lib.hid (ext_trans HE0.out hE1); clear hb hE1))
    obtain ⟨W4, hW4⟩ : ∃ W4, ((w1.setCell ⟨w.heap.size + 1 + 1, 0, none⟩ (.bool false)).setCell ⟨w.heap.size + 1 + 1, 1, none⟩ (.int .i64 0)).setCell ⟨w.heap.size + 1 + 1, 2, none⟩ (.slice none 0 0) = W4 := ⟨_, rfl⟩
    have hb4 : VerB W4 (w.heap.size + 1 + 1) false 0 (.slice none 0 0) := by rw [← hW4]; exact ((HB.out.set0 _).set1 _).set2 _
    have hx4 : Ext w W4 := by rw [← hW4]; exact ((HE1.out.setCell (p := ⟨w.heap.size + 1 + 1, 0, none⟩) (by simp; omega) _).setCell (p := ⟨w.heap.size + 1 + 1, 1, none⟩) (by simp; omega) _).setCell (p := ⟨w.heap.size + 1 + 1, 2, none⟩) (by simp; omega) _
    obtain ⟨q0, q1, q2⟩ := hb4.cells
    rw [hW4]
    refine bodyPost_ret (v := .tuple #[.agg #[.bool false, .int .i64 0, .slice none 0 0], .int .i64 x]) (by simp [results, Tryz.results27, go_sem, q0, q1, q2]) rfl ?_
    rw [HR.out]
    exact retVE_zero hx4
end Go.Proofs.YtmdmbdbbpdojnaaGreatDoor
