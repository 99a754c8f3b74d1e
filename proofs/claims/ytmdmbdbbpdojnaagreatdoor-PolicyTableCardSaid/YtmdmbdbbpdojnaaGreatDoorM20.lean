/- Walks of the document's functions on policies: means. Walks: right and Means, the program's and the document's. Walks: policy.Means. Walks of the document's functions on policies: Means. -/
import Derived.Test.YtmdmbdbbpdojnaaGreatDoorM16
import Derived.Test.YtmdmbdbbpdojnaaGreatDoorM19
import Derived.Deep.RegionHeld3
namespace Go.Proofs.YtmdmbdbbpdojnaaGreatDoor
open Go.RowKit Nam Pol Go.Maps
attribute [local go_sem] gv_of

theorem okOf_ref {l : List Rul} {v : Wsh} {i : Nat} {r : Rul} (h : l[i]? = some r) : okOf l v (i : Int) = (r.allow && decide (r.keyMin ≤ v.key) && decide (1 ≤ v.life) && decide (v.life ≤ r.lifeMax)) := by
  unfold okOf
  rw [Int.toNat_natCast, h]
  simp
theorem decides_cases (l : List Rul) (s : ByteArray) : decidesB l s = -1 ∨ ∃ i : Nat, i < l.length ∧ decidesB l s = i := by
  rcases decidesB_spec l s with ⟨h, _⟩ | ⟨k, r, _, h, hk, _⟩
  · exact .inl h
  · exact .inr ⟨k, (List.getElem?_eq_some_iff.1 hk).1, h⟩
set_option maxRecDepth 100000 in
set_option maxHeartbeats 4000000 in
theorem r16means_any (l : List Rul) (v : Wsh) (a : Option Addr) (cap n : Nat) (va : Option Addr) (vc : Nat) (w : World)
    (hn : l.length = n) (hnc : n ≤ cap) (hcm : cap ≤ maxLen) (hl : Ruls w a l) (hvc : v.names.length ≤ vc) (_hvm : vc ≤ maxLen) (hv : Strs w va v.names) (hfew : v.names.length ≤ 1000) :
    Calls Tryz.prog 45 #[.slice a n cap, wshV v va vc] w (RetV (verdictOf l v (decidesB l)) w) := by
  obtain ⟨i1, gi, gz0, gz1, gz2⟩ := info_parts Tryz.infoInt
  have HN := Lib.hid hn; have HL := Lib.hid hl; have HV := Lib.hid hv
  have HNC := Lib.hid hnc; have HCM := Lib.hid hcm
  unfold maxLen at hcm
  obtain ⟨m, hm⟩ : ∃ m, v.names.length = m := ⟨_, rfl⟩
  have HM := Lib.hid hm
  unfold wshV
  rw [hm] at hvc hfew ⊢
  clear hn hl hv hm
  go_enter Tryz.func45, Tryz.ntmps45
  go_wp2_with fail
  obtain ⟨W0, hW0⟩ : ∃ W0, ((w.alloc (Obj.cells #[.int .i64 v.account, .slice va m vc, .int .u64 v.key, .int .i64 v.life] 26)).alloc (Obj.cells #[.bool false, .int .i64 0, .slice none 0 0] 32)).alloc (Obj.cells #[.bool true, .int .i64 0, .slice none 0 0] 32) = W0 := ⟨_, rfl⟩
  have hE0 : Ext w W0 := by rw [← hW0]; exact ext_alloc (ext_alloc (ext_alloc (Below.refl _ _) _) _) _
  have c1 : W0.cell? ⟨w.heap.size, 1, none⟩ = some (.slice va m vc) := by rw [← hW0]; simp [go_sem]
  have c2 : W0.cell? ⟨w.heap.size, 2, none⟩ = some (.int .u64 v.key) := by rw [← hW0]; simp [go_sem]
  have c3 : W0.cell? ⟨w.heap.size, 3, none⟩ = some (.int .i64 v.life) := by rw [← hW0]; simp [go_sem]
  have hz : W0.heap.size = w.heap.size + 3 := by rw [← hW0]; simp
  have b1 : VerB W0 (w.heap.size + 1) false 0 (.slice none 0 0) := by
    rw [← hW0]
    have := VerB.new (w.alloc (Obj.cells #[.int .i64 v.account, .slice va m vc, .int .u64 v.key, .int .i64 v.life] 26)) false 0 (.slice none 0 0)
    rw [World.size_alloc] at this
    exact this.ext (ext_alloc (Below.refl _ _) _)
  have b2 : VerB W0 (w.heap.size + 1 + 1) true 0 (.slice none 0 0) := by
    rw [← hW0]
    have := VerB.new ((w.alloc (Obj.cells #[.int .i64 v.account, .slice va m vc, .int .u64 v.key, .int .i64 v.life] 26)).alloc (Obj.cells #[.bool false, .int .i64 0, .slice none 0 0] 32)) true 0 (.slice none 0 0)
    rwa [World.size_alloc, World.size_alloc] at this
  have HE0 := Lib.hid hE0; have C1 := Lib.hid c1; have C2 := Lib.hid c2; have C3 := Lib.hid c3; have HZ := Lib.hid hz; have B1 := Lib.hid b1; have B2 := Lib.hid b2
  rw [hW0]
  clear hW0 hE0 c1 c2 c3 hz b1 b2
  go_loopw [6] (fun i wr => ∃ (k : Nat) (bv : Value), k ≤ m ∧ i = .int .i64 k ∧ VerB wr (w.heap.size + 1 + 1) (verTo l v (decidesB l) k).allow (verTo l v (decidesB l) k).at' bv ∧ wr.ownsRow W0.heap.size 3 1 bv k ((verTo l v (decidesB l) k).by'.map intV) ∧ Fr (fun b => b = w.heap.size + 1 + 1) W0 wr) (fun i _ => m - (intOf i).toNat)
  case atStart => exact ⟨0, _, Nat.zero_le _, rfl, B2.out, World.ownsRow_nil _ _ _ _, Fr.refl _ _⟩
  case round =>
    obtain ⟨k, bv, hk, rfl, hb, hown, hF⟩ := hrel
    have HB := Lib.hid hb; have HOWN := Lib.hid hown; have HF := Lib.hid hF
    have HEW : Hid (Ext w wr) := Lib.hid (HE0.out.trans (hF.below HE0.out.size (fun k hk => by omega)))
    have hzz := HZ.out
    have hzr := hF.size
    have c1 := (hF.cell (p := ⟨w.heap.size, 1, none⟩) (show w.heap.size < W0.heap.size by omega) (show ¬ w.heap.size = w.heap.size + 1 + 1 by omega)).trans C1.out
    clear hb hown hF
    by_cases hlt : k < m
    · obtain ⟨s, hs⟩ := get_some HM.out hlt
      obtain ⟨b, off, rfl, d0, hsz⟩ := (HV.out.ext HEW.out) k s hs
      rw [Nat.mul_one] at d0
      have HS := Lib.hid hs
      have hmem := List.mem_of_getElem? hs
      have hsz' : s.size ≤ 9223372036854775807 := hsz
      have hkc : k ≤ vc := by omega
      have hcases := decides_cases l s
      rw [HN.out] at hcases
      obtain ⟨x, hx⟩ : ∃ x, decidesB l s = x := ⟨_, rfl⟩
      have HX := Lib.hid hx
      rw [hx] at hcases
      clear hs hsz hmem hx
      go_wp2_with (first
        | (go_at_call 54; refine (Decides_any l s _ _ _ _ HN.out HNC.out HCM.out (HL.out.ext HEW.out) hsz').mono ?_; rintro e w1 ⟨rfl, hE1⟩; rw [HX.out]
           have hb1 := HB.out.ext hE1
           obtain ⟨k0, k1, k2⟩ := hb1.cells
           have HB1 := Lib.hid hb1; have HO1 := Lib.hid (own_ext HOWN.out hE1); have HE1 := Lib.hid hE1; have hz1 := hE1.size
           clear hb1 hE1)
        | (at_builtin; refine wpList_append_own _ rfl _ _ 30 rfl W0.heap.size 3 i1 (.int .i64 0) 1 8 Tryz.underlying30 gi gz0 gz1 gz2 rfl (by decide) bv _ _ rfl (HO1.out.alloc _) ⟨w1.heap.size, 0, none⟩ 1 1 [.int .i64 x] rfl rfl (one_cell_new _ _ _) (by simp [Value.oneCell']) (by unfold maxLen; omega) (by omega) (by simp; omega) ?_
           intro v' w2 hown2 hgrow2 _
           obtain ⟨g', cap', rfl⟩ := own_succ hown2
           have hF2 := Fr.grown hgrow2
           have hb2 := (HB1.out.ext (ext_alloc (Below.refl _ _) _)).fr hF2 (fun e => by have := own_ge HOWN.out _ e; omega)
           have fz := hb2.frozen 2
           obtain ⟨g0, g1, g2⟩ := hb2.cells
           have HB2 := Lib.hid hb2; have HO2 := Lib.hid hown2; have HF2 := Lib.hid hF2
           clear hb2 hown2 hgrow2 hF2))
      obtain ⟨W3, hW3⟩ : ∃ W3, w2.setCell ⟨w.heap.size + 1 + 1, 2, none⟩ (.slice (some ⟨g', 0, none⟩) (k + 1) cap') = W3 := ⟨_, rfl⟩
      have hb3 : VerB W3 (w.heap.size + 1 + 1) (verTo l v (decidesB l) k).allow (verTo l v (decidesB l) k).at' (.slice (some ⟨g', 0, none⟩) (k + 1) cap') := by rw [← hW3]; exact HB2.out.set2 _
      have ho3 := by have := ownsRow_setCell_below HO2.out (a := ⟨w.heap.size + 1 + 1, 2, none⟩) (show w.heap.size + 1 + 1 < W0.heap.size by omega) (.slice (some ⟨g', 0, none⟩) (k + 1) cap'); rw [hW3] at this; exact this
      have hF3 : Fr (fun b => b = w.heap.size + 1 + 1) W0 W3 := by
        rw [← hW3]
        exact ((((HF.out.trans (Fr.of_ext HE1.out)).trans (Fr.alloc _ _ _)).onto HF2.out (fun j hj hg => by have := own_ge HOWN.out _ hg; omega))).trans (Fr.setCell _ _ _ rfl)
      rw [hW3]
      have HB3 := Lib.hid hb3; have HO3 := Lib.hid ho3; have HF3 := Lib.hid hF3
      have HE3 : Hid (Ext w W3) := Lib.hid (HE0.out.trans (hF3.below HE0.out.size (fun k hk => by omega)))
      have c2 := (hF3.cell (p := ⟨w.heap.size, 2, none⟩) (show w.heap.size < W0.heap.size by omega) (show ¬ w.heap.size = w.heap.size + 1 + 1 by omega)).trans C2.out
      have c3 := (hF3.cell (p := ⟨w.heap.size, 3, none⟩) (show w.heap.size < W0.heap.size by omega) (show ¬ w.heap.size = w.heap.size + 1 + 1 by omega)).trans C3.out
      clear hW3 hb3 ho3 hF3 fz g0 g1 g2
      rcases hcases with rfl | ⟨i, hi, rfl⟩
      · refine wp_region_S (by kernel_rfl) (by kernel_rfl) (by kernel_rfl) (by kernel_rfl) (by kernel_rfl) (fun w' => Ext W3 w') ((Fr.drew (fun _ => False) _).ext (fun _ _ h => h)) ?_
        repeat
          first
          | (refine steps_and rfl rfl rfl rfl ?_; simp only [Act.put, List.setIfInBounds_toArray, List.set_cons_succ, List.set_cons_zero])
          | (refine steps_or rfl rfl rfl rfl ?_; simp only [Act.put, List.setIfInBounds_toArray, List.set_cons_succ, List.set_cons_zero])
          | (refine steps_skip rfl ?_; simp only [Act.put, List.setIfInBounds_toArray, List.set_cons_succ, List.set_cons_zero])
          | (refine steps_guard_and rfl rfl rfl rfl rfl ?_; simp only [Act.put, List.setIfInBounds_toArray, List.set_cons_succ, List.set_cons_zero])
          | (refine steps_guard (v := ?_) rfl rfl (fun hb w' hS => ?_) ?_; rotate_left; (focus (have e2 := ext_cell c2 hS; have e3 := ext_cell c3 hS; unfold Gives; go_simp; first | exact is_mk hS)); simp only [Act.put, List.setIfInBounds_toArray, List.set_cons_succ, List.set_cons_zero])
          | (refine steps_guard2 (v := ?_) rfl rfl rfl (fun hb1 hb w' hS => ?_) ?_; rotate_left; (focus (have e2 := ext_cell c2 hS; have e3 := ext_cell c3 hS; unfold Gives; go_simp; first | exact is_mk hS)); simp only [Act.put, List.setIfInBounds_toArray, List.set_cons_succ, List.set_cons_zero])
          | (refine steps_run (v := ?_) rfl (fun w' hS => ?_) ?_; rotate_left; (focus (have e2 := ext_cell c2 hS; have e3 := ext_cell c3 hS; unfold Gives; go_simp; first | exact is_mk hS)); simp only [Act.put, List.setIfInBounds_toArray, List.set_cons_succ, List.set_cons_zero])
        refine steps_end fun w' hE' => ?_
        have hb := HB3.out.ext hE'
        cases hal : (verTo l v (decidesB l) k).allow
        · have HN1 : Hid (verTo l v (decidesB l) (k + 1) = ⟨false && false, if false && !false then (k : Int) else (verTo l v (decidesB l) k).at', (verTo l v (decidesB l) k).by' ++ [-1]⟩) := Lib.hid (verTo_step HS.out HX.out hal (okOf_none l v))
          rw [hal] at hb
          clear hal
          obtain ⟨g0, g1, g2⟩ := hb.cells
          have HB4 := Lib.hid hb
          clear hb
          go_wp2_with fail
          go_roundw
          case rel => exact ⟨k + 1, _, by omega, by go_num, by rw [HN1.out]; exact HB4.out, by rw [HN1.out, List.map_append]; exact own_ext HO3.out hE', HF3.out.trans (Fr.of_ext hE')⟩
          case measure => simp [intOf]; omega
        · have HN1 : Hid (verTo l v (decidesB l) (k + 1) = ⟨true && false, if true && !false then (k : Int) else (verTo l v (decidesB l) k).at', (verTo l v (decidesB l) k).by' ++ [-1]⟩) := Lib.hid (verTo_step HS.out HX.out hal (okOf_none l v))
          rw [hal] at hb
          clear hal
          obtain ⟨g0, g1, g2⟩ := hb.cells
          have fz0 := hb.frozen 0
          have fz1 := hb.frozen 1
          have HB4 := Lib.hid hb
          clear hb
          go_wp2_with fail
          go_roundw
          case rel => exact ⟨k + 1, _, by omega, by go_num, by rw [HN1.out]; exact (HB4.out.set0 false).set1 k, by rw [HN1.out, List.map_append]; exact ownsRow_setCell_below (ownsRow_setCell_below (own_ext HO3.out hE') (show w.heap.size + 1 + 1 < W0.heap.size by omega) _) (show w.heap.size + 1 + 1 < W0.heap.size by omega) _, ((HF3.out.trans (Fr.of_ext hE')).trans (Fr.setCell _ _ _ rfl)).trans (Fr.setCell _ _ _ rfl)⟩
          case measure => simp [intOf]; omega
      · obtain ⟨r, hr⟩ := get_some HN.out hi
        obtain ⟨b3, off3, rfl, _, r1, _, r3, r4, _, _, _, _⟩ := (HL.out.ext HE3.out) i r hr
        have HOK := Lib.hid (okOf_ref (v := v) hr)
        have hic : i ≤ cap := by omega
        clear hr
        refine wp_region_S (by kernel_rfl) (by kernel_rfl) (by kernel_rfl) (by kernel_rfl) (by kernel_rfl) (fun w' => Ext W3 w') ((Fr.drew (fun _ => False) _).ext (fun _ _ h => h)) ?_
        repeat
          first
          | (refine steps_and rfl rfl rfl rfl ?_; simp only [Act.put, List.setIfInBounds_toArray, List.set_cons_succ, List.set_cons_zero])
          | (refine steps_or rfl rfl rfl rfl ?_; simp only [Act.put, List.setIfInBounds_toArray, List.set_cons_succ, List.set_cons_zero])
          | (refine steps_skip rfl ?_; simp only [Act.put, List.setIfInBounds_toArray, List.set_cons_succ, List.set_cons_zero])
          | (refine steps_guard_and rfl rfl rfl rfl rfl ?_; simp only [Act.put, List.setIfInBounds_toArray, List.set_cons_succ, List.set_cons_zero])
          | (refine steps_guard (v := ?_) rfl rfl (fun hb w' hS => ?_) ?_; rotate_left; (focus (have e2 := ext_cell c2 hS; have e3 := ext_cell c3 hS; have s1 := ext_cell r1 hS; have s3 := ext_cell r3 hS; have s4 := ext_cell r4 hS; unfold Gives; go_simp; first | exact is_mk hS)); simp only [Act.put, List.setIfInBounds_toArray, List.set_cons_succ, List.set_cons_zero])
          | (refine steps_guard2 (v := ?_) rfl rfl rfl (fun hb1 hb w' hS => ?_) ?_; rotate_left; (focus (have e2 := ext_cell c2 hS; have e3 := ext_cell c3 hS; have s1 := ext_cell r1 hS; have s3 := ext_cell r3 hS; have s4 := ext_cell r4 hS; unfold Gives; go_simp; first | exact is_mk hS)); simp only [Act.put, List.setIfInBounds_toArray, List.set_cons_succ, List.set_cons_zero])
          | (refine steps_run (v := ?_) rfl (fun w' hS => ?_) ?_; rotate_left; (focus (have e2 := ext_cell c2 hS; have e3 := ext_cell c3 hS; have s1 := ext_cell r1 hS; have s3 := ext_cell r3 hS; have s4 := ext_cell r4 hS; unfold Gives; go_simp; first | exact is_mk hS)); simp only [Act.put, List.setIfInBounds_toArray, List.set_cons_succ, List.set_cons_zero])
        refine steps_end fun w' hE' => ?_
        have hb := HB3.out.ext hE'
        cases hq : (r.allow && decide (r.keyMin ≤ v.key) && decide (1 ≤ v.life) && decide (v.life ≤ r.lifeMax))
        · have HQ := Lib.hid (HOK.out.trans hq)
          clear hq
          cases hal : (verTo l v (decidesB l) k).allow
          · have HN1 : Hid (verTo l v (decidesB l) (k + 1) = ⟨false && false, if false && !false then (k : Int) else (verTo l v (decidesB l) k).at', (verTo l v (decidesB l) k).by' ++ [(i : Int)]⟩) := Lib.hid (verTo_step HS.out HX.out hal HQ.out)
            rw [hal] at hb
            clear hal
            obtain ⟨g0, g1, g2⟩ := hb.cells
            have HB4 := Lib.hid hb
            clear hb
            go_wp2_with fail
            go_roundw
            case rel => exact ⟨k + 1, _, by omega, by go_num, by rw [HN1.out]; exact HB4.out, by rw [HN1.out, List.map_append]; exact own_ext HO3.out hE', HF3.out.trans (Fr.of_ext hE')⟩
            case measure => simp [intOf]; omega
          · have HN1 : Hid (verTo l v (decidesB l) (k + 1) = ⟨true && false, if true && !false then (k : Int) else (verTo l v (decidesB l) k).at', (verTo l v (decidesB l) k).by' ++ [(i : Int)]⟩) := Lib.hid (verTo_step HS.out HX.out hal HQ.out)
            rw [hal] at hb
            clear hal
            obtain ⟨g0, g1, g2⟩ := hb.cells
            have fz0 := hb.frozen 0
            have fz1 := hb.frozen 1
            have HB4 := Lib.hid hb
            clear hb
            go_wp2_with fail
            go_roundw
            case rel => exact ⟨k + 1, _, by omega, by go_num, by rw [HN1.out]; exact (HB4.out.set0 false).set1 k, by rw [HN1.out, List.map_append]; exact ownsRow_setCell_below (ownsRow_setCell_below (own_ext HO3.out hE') (show w.heap.size + 1 + 1 < W0.heap.size by omega) _) (show w.heap.size + 1 + 1 < W0.heap.size by omega) _, ((HF3.out.trans (Fr.of_ext hE')).trans (Fr.setCell _ _ _ rfl)).trans (Fr.setCell _ _ _ rfl)⟩
            case measure => simp [intOf]; omega
        · have HQ := Lib.hid (HOK.out.trans hq)
          clear hq
          cases hal : (verTo l v (decidesB l) k).allow
          · have HN1 : Hid (verTo l v (decidesB l) (k + 1) = ⟨false && true, if false && !true then (k : Int) else (verTo l v (decidesB l) k).at', (verTo l v (decidesB l) k).by' ++ [(i : Int)]⟩) := Lib.hid (verTo_step HS.out HX.out hal HQ.out)
            rw [hal] at hb
            clear hal
            obtain ⟨g0, g1, g2⟩ := hb.cells
            have HB4 := Lib.hid hb
            clear hb
            go_wp2_with fail
            go_roundw
            case rel => exact ⟨k + 1, _, by omega, by go_num, by rw [HN1.out]; exact HB4.out, by rw [HN1.out, List.map_append]; exact own_ext HO3.out hE', HF3.out.trans (Fr.of_ext hE')⟩
            case measure => simp [intOf]; omega
          · have HN1 : Hid (verTo l v (decidesB l) (k + 1) = ⟨true && true, if true && !true then (k : Int) else (verTo l v (decidesB l) k).at', (verTo l v (decidesB l) k).by' ++ [(i : Int)]⟩) := Lib.hid (verTo_step HS.out HX.out hal HQ.out)
            rw [hal] at hb
            clear hal
            obtain ⟨g0, g1, g2⟩ := hb.cells
            have HB4 := Lib.hid hb
            clear hb
            go_wp2_with fail
            go_roundw
            case rel => exact ⟨k + 1, _, by omega, by go_num, by rw [HN1.out]; exact HB4.out, by rw [HN1.out, List.map_append]; exact own_ext HO3.out hE', HF3.out.trans (Fr.of_ext hE')⟩
            case measure => simp [intOf]; omega
    · obtain rfl : k = m := by omega
      have HQ := Lib.hid (show verTo l v (decidesB l) k = verdictOf l v (decidesB l) by rw [← HM.out, verTo_all])
      have hb := HB.out
      obtain ⟨g0, g1, g2⟩ := hb.cells
      have h1 := B1.out.fr HF.out (show ¬ w.heap.size + 1 = w.heap.size + 1 + 1 by omega)
      have fz0 := h1.frozen 0
      have fz1 := h1.frozen 1
      have fz2 := h1.frozen 2
      obtain ⟨e0, e1, e2⟩ := h1.cells
      have hlen := verTo_len l v (decidesB l) k (by rw [HM.out]; exact Nat.le_refl _)
      have hext := HE0.out.trans (HF.out.below HE0.out.size (fun k hk => by omega))
      obtain ⟨g', cap', rfl⟩ : ∃ (g' : Option Addr) (cap' : Nat), bv = .slice g' k cap' := by
        rcases own_form HOWN.out with ⟨h, h0, _⟩ | ⟨g', cap', h, _⟩
        · exact ⟨none, 0, by rw [h, h0]⟩
        · exact ⟨_, _, h⟩
      have H1 := Lib.hid h1; have HX := Lib.hid hext; have HLN := Lib.hid hlen
      clear hb h1 hext hlen
      go_wp2_with fail
      obtain ⟨W4, hW4⟩ : ∃ W4, ((wr.setCell ⟨w.heap.size + 1, 0, none⟩ (.bool (verTo l v (decidesB l) k).allow)).setCell ⟨w.heap.size + 1, 1, none⟩ (.int .i64 (verTo l v (decidesB l) k).at')).setCell ⟨w.heap.size + 1, 2, none⟩ (.slice g' k cap') = W4 := ⟨_, rfl⟩
      have hb4 : VerB W4 (w.heap.size + 1) (verTo l v (decidesB l) k).allow (verTo l v (decidesB l) k).at' (.slice g' k cap') := by rw [← hW4]; exact ((H1.out.set0 _).set1 _).set2 _
      have hx4 : Ext w W4 := by rw [← hW4]; exact ((HX.out.setCell (p := ⟨w.heap.size + 1, 0, none⟩) (by simp) _).setCell (p := ⟨w.heap.size + 1, 1, none⟩) (by simp) _).setCell (p := ⟨w.heap.size + 1, 2, none⟩) (by simp) _
      have ho4 : W4.ownsRow W0.heap.size 3 1 (.slice g' k cap') k ((verTo l v (decidesB l) k).by'.map intV) := by
        rw [← hW4]
        exact ownsRow_setCell_below (ownsRow_setCell_below (ownsRow_setCell_below HOWN.out (show w.heap.size + 1 < W0.heap.size by omega) _) (show w.heap.size + 1 < W0.heap.size by omega) _) (show w.heap.size + 1 < W0.heap.size by omega) _
      obtain ⟨q0, q1, q2⟩ := hb4.cells
      rw [hW4]
      refine bodyPost_ret (v := .agg #[.bool (verTo l v (decidesB l) k).allow, .int .i64 (verTo l v (decidesB l) k).at', .slice g' k cap']) (by simp [results, Tryz.results45, go_sem, q0, q1, q2]) rfl ?_
      rw [← HQ.out]
      exact retV_mk HLN.out ho4 (by omega) hx4
end Go.Proofs.YtmdmbdbbpdojnaaGreatDoor
namespace Go.Proofs.YtmdmbdbbpdojnaaGreatDoor
open Go.RowKit Nam Pol Go.Maps
attribute [local go_sem] gv_of

theorem rightE_bad {l : List Rul} (h : checkE l ≠ 0) : rightE l = checkE l := by unfold rightE; rw [if_neg h]
theorem rightE_free {l : List Rul} (h : checkE l = 0) (hc : (clashL l).length = 0) : rightE l = 0 := by unfold rightE; rw [if_pos h, if_pos (List.eq_nil_of_length_eq_zero hc)]
theorem rightE_clash {l : List Rul} (h : checkE l = 0) (hc : (clashL l).length ≠ 0) : rightE l = 160 := by
  unfold rightE; rw [if_pos h, if_neg]; intro e; rw [e] at hc; exact hc rfl
set_option maxRecDepth 100000 in
set_option maxHeartbeats 4000000 in
theorem right_any (l : List Rul) (a : Option Addr) (cap n : Nat) (w : World) (hn : l.length = n) (hnc : n ≤ cap) (hcm : cap ≤ maxLen) (hl : Ruls w a l) (hfew : n ≤ 1000) (hpf : ∀ r ∈ l, r.pats.length ≤ 1000) :
    Calls Tryz.prog 39 #[.slice a n cap] w (Ret (.int .i64 (rightE l)) w) := by
  have HN := Lib.hid hn; have HNC := Lib.hid hnc; have HCM := Lib.hid hcm; have HL := Lib.hid hl; have HFE := Lib.hid hfew; have HPF := Lib.hid hpf
  clear hn hnc hcm hl hfew hpf
  obtain ⟨x, hx⟩ : ∃ x, checkE l = x := ⟨_, rfl⟩
  have HX := Lib.hid hx
  clear hx
  by_cases h0 : x = 0
  · have t0 : (x != 0) = false := by simpa using h0
    have H0 := Lib.hid (HX.out.trans h0)
    clear h0
    by_cases hc : (clashL l).length = 0
    · have HR := Lib.hid (rightE_free H0.out hc)
      have HC := Lib.hid hc
      clear hc
      go_enter Tryz.func39, Tryz.ntmps39
      go_wp2_with (first
        | (go_at_call 33; refine (pCheck_any l a cap n _ HN.out HNC.out HCM.out HL.out).mono ?_; rintro e w1 ⟨rfl, hE1⟩; rw [HX.out]; have HE1 := Lib.hid hE1; clear hE1)
        | (go_at_call 18; refine (pClash_any l a cap n _ HN.out HNC.out HCM.out (HL.out.ext HE1.out) HFE.out HPF.out).mono ?_; rintro e w2 ⟨v, rfl, ⟨ca, cc, rfl, _, _, _⟩, hE2⟩; rw [HC.out]; have HE2 := Lib.hid (ext_trans HE1.out hE2); clear hE2))
      go_ret
      exact ⟨ret_int HR.out.symm, HE2.out⟩
    · have HR := Lib.hid (rightE_clash H0.out hc)
      obtain ⟨m, hm⟩ : ∃ m, (clashL l).length = m := ⟨_, rfl⟩
      have HC := Lib.hid hm
      have t1 : decide (0 < m) = true := by rw [hm] at hc; simp; omega
      clear hc hm
      go_enter Tryz.func39, Tryz.ntmps39
      go_wp2_with (first
        | (go_at_call 33; refine (pCheck_any l a cap n _ HN.out HNC.out HCM.out HL.out).mono ?_; rintro e w1 ⟨rfl, hE1⟩; rw [HX.out]; have HE1 := Lib.hid hE1; clear hE1)
        | (go_at_call 18; refine (pClash_any l a cap n _ HN.out HNC.out HCM.out (HL.out.ext HE1.out) HFE.out HPF.out).mono ?_; rintro e w2 ⟨v, rfl, ⟨ca, cc, rfl, _, _, _⟩, hE2⟩; rw [HC.out]; have HE2 := Lib.hid (ext_trans HE1.out hE2); clear hE2))
      go_ret
      exact ⟨ret_int HR.out.symm, HE2.out⟩
  · have t0 : (x != 0) = true := by simpa using h0
    have HR := Lib.hid ((rightE_bad (l := l) (by rw [HX.out]; exact h0)).trans HX.out)
    clear h0
    go_enter Tryz.func39, Tryz.ntmps39
    go_wp2_with (go_at_call 33; refine (pCheck_any l a cap n _ HN.out HNC.out HCM.out HL.out).mono ?_; rintro e w1 ⟨rfl, hE1⟩; rw [HX.out]; have HE1 := Lib.hid hE1; clear hE1)
    go_ret
    exact ⟨ret_int HR.out.symm, HE1.out⟩
set_option maxRecDepth 100000 in
set_option maxHeartbeats 4000000 in
theorem r16right_any (l : List Rul) (a : Option Addr) (cap n : Nat) (w : World) (hn : l.length = n) (hnc : n ≤ cap) (hcm : cap ≤ maxLen) (hl : Ruls w a l) (hfew : n ≤ 1000) :
    Calls Tryz.prog 43 #[.slice a n cap] w (Ret (.int .i64 (rightE l)) w) := by
  have HN := Lib.hid hn; have HNC := Lib.hid hnc; have HCM := Lib.hid hcm; have HL := Lib.hid hl; have HFE := Lib.hid hfew
  clear hn hnc hcm hl hfew
  obtain ⟨x, hx⟩ : ∃ x, checkE l = x := ⟨_, rfl⟩
  have HX := Lib.hid hx
  clear hx
  by_cases h0 : x = 0
  · have t0 : (x != 0) = false := by simpa using h0
    have H0 := Lib.hid (HX.out.trans h0)
    clear h0
    by_cases hc : (clashL l).length = 0
    · have HR := Lib.hid (rightE_free H0.out hc)
      have HC := Lib.hid hc
      clear hc
      go_enter Tryz.func43, Tryz.ntmps43
      go_wp2_with (first
        | (go_at_call 75; refine (r15Check_any l a cap n _ HN.out HNC.out HCM.out HL.out).mono ?_; rintro e w1 ⟨rfl, hE1⟩; rw [HX.out]; have HE1 := Lib.hid hE1; clear hE1)
        | (go_at_call 19; refine (r16Clash_any l a cap n _ HN.out HNC.out HCM.out (HL.out.ext HE1.out) HFE.out).mono ?_; rintro e w2 ⟨v, rfl, ⟨ca, cc, rfl, _, _, _⟩, hE2⟩; rw [HC.out]; have HE2 := Lib.hid (ext_trans HE1.out hE2); clear hE2))
      go_ret
      exact ⟨ret_int HR.out.symm, HE2.out⟩
    · have HR := Lib.hid (rightE_clash H0.out hc)
      obtain ⟨m, hm⟩ : ∃ m, (clashL l).length = m := ⟨_, rfl⟩
      have HC := Lib.hid hm
      have t1 : decide (0 < m) = true := by rw [hm] at hc; simp; omega
      clear hc hm
      go_enter Tryz.func43, Tryz.ntmps43
      go_wp2_with (first
        | (go_at_call 75; refine (r15Check_any l a cap n _ HN.out HNC.out HCM.out HL.out).mono ?_; rintro e w1 ⟨rfl, hE1⟩; rw [HX.out]; have HE1 := Lib.hid hE1; clear hE1)
        | (go_at_call 19; refine (r16Clash_any l a cap n _ HN.out HNC.out HCM.out (HL.out.ext HE1.out) HFE.out).mono ?_; rintro e w2 ⟨v, rfl, ⟨ca, cc, rfl, _, _, _⟩, hE2⟩; rw [HC.out]; have HE2 := Lib.hid (ext_trans HE1.out hE2); clear hE2))
      go_ret
      exact ⟨ret_int HR.out.symm, HE2.out⟩
  · have t0 : (x != 0) = true := by simpa using h0
    have HR := Lib.hid ((rightE_bad (l := l) (by rw [HX.out]; exact h0)).trans HX.out)
    clear h0
    go_enter Tryz.func43, Tryz.ntmps43
    go_wp2_with (go_at_call 75; refine (r15Check_any l a cap n _ HN.out HNC.out HCM.out HL.out).mono ?_; rintro e w1 ⟨rfl, hE1⟩; rw [HX.out]; have HE1 := Lib.hid hE1; clear hE1)
    go_ret
    exact ⟨ret_int HR.out.symm, HE1.out⟩
end Go.Proofs.YtmdmbdbbpdojnaaGreatDoor
namespace Go.Proofs.YtmdmbdbbpdojnaaGreatDoor
open Go.RowKit Nam Pol Go.Maps
attribute [local go_sem] gv_of

/-- A verdict and an error number are handed back. -/
def RetVE (x : Ver × Int) (w : World) (e : Ending) (w' : World) : Prop := ∃ a c, e = .returned (.tuple #[verV x.1 a c, .int .i64 x.2]) ∧ x.1.by'.length ≤ c ∧ c ≤ maxLen ∧ Ints w' a x.1.by' ∧ (∀ p, a = some p → w.heap.size ≤ p.block) ∧ Ext w w'
theorem retVE_zero {w w4 : World} {n : Int} (hE : Ext w w4) : RetVE (zeroV, n) w (.returned (.tuple #[.agg #[.bool false, .int .i64 0, .slice none 0 0], .int .i64 n])) w4 :=
  ⟨none, 0, rfl, Nat.le_refl _, Nat.zero_le _, SlA.nil _ _ _ _, fun _ h => (by cases h), hE⟩
theorem decP_cases {l : List Rul} {s : ByteArray} (hs : isB s.data.toList = true) : decP l s = -1 ∨ ∃ i : Nat, i < l.length ∧ decP l s = i := by
  rw [decP_eq hs]; exact decides_cases l s
theorem may_len {v : Wsh} (h : mayB v = true) : 1 ≤ v.names.length ∧ v.names.length ≤ 8 := by
  unfold mayB at h
  simp only [Bool.and_eq_true, decide_eq_true_eq] at h
  exact ⟨h.2.1.2, h.2.2⟩
set_option maxRecDepth 100000 in
set_option maxHeartbeats 4000000 in
theorem pMeans_any (l : List Rul) (v : Wsh) (a : Option Addr) (cap n : Nat) (va : Option Addr) (vc : Nat) (w : World) (hn : l.length = n) (hnc : n ≤ cap) (hcm : cap ≤ maxLen) (hl : Ruls w a l) (hfew : n ≤ 1000) (hpf : ∀ r ∈ l, r.pats.length ≤ 1000)
    (hvc : v.names.length ≤ vc) (hvm : vc ≤ maxLen) (hv : Strs w va v.names) (hw : Env w) :
    Calls Tryz.prog 16 #[.slice a n cap, wshV v va vc] w (RetVE (meansOf l v (decP l)) w) := by
  have HN := Lib.hid hn; have HNC := Lib.hid hnc; have HCM := Lib.hid hcm; have HL := Lib.hid hl; have HFE := Lib.hid hfew; have HPF := Lib.hid hpf
  have HVC := Lib.hid hvc; have HVM := Lib.hid hvm; have HV := Lib.hid hv; have HW := Lib.hid hw
  clear hn hnc hcm hl hfew hpf hvc hvm hv hw
  obtain ⟨m, hm⟩ : ∃ m, v.names.length = m := ⟨_, rfl⟩
  have HM := Lib.hid hm
  have HWV : Hid (Value.agg #[.int .i64 v.account, .slice va m vc, .int .u64 v.key, .int .i64 v.life] = wshV v va vc) := Lib.hid (by unfold wshV; rw [hm])
  obtain ⟨x, hx⟩ : ∃ x, rightE l = x := ⟨_, rfl⟩
  have HX := Lib.hid hx
  unfold wshV
  rw [hm]
  clear hx hm
  go_enter Tryz.func16, Tryz.ntmps16
  go_upto_region 1 with (fail)
  obtain ⟨W0, hW0⟩ : ∃ W0, (w.alloc (Obj.cells #[.int .i64 v.account, .slice va m vc, .int .u64 v.key, .int .i64 v.life] 26)).alloc (Obj.cells #[.bool false, .int .i64 0, .slice none 0 0] 32) = W0 := ⟨_, rfl⟩
  have hE0 : Ext w W0 := by rw [← hW0]; exact ext_alloc (ext_alloc (Below.refl _ _) _) _
  have c0 : W0.cell? ⟨w.heap.size, 0, none⟩ = some (.int .i64 v.account) := by rw [← hW0]; simp [go_sem]
  have c1 : W0.cell? ⟨w.heap.size, 1, none⟩ = some (.slice va m vc) := by rw [← hW0]; simp [go_sem]
  have c2 : W0.cell? ⟨w.heap.size, 2, none⟩ = some (.int .u64 v.key) := by rw [← hW0]; simp [go_sem]
  have c3 : W0.cell? ⟨w.heap.size, 3, none⟩ = some (.int .i64 v.life) := by rw [← hW0]; simp [go_sem]
  have b1 : VerB W0 (w.heap.size + 1) false 0 (.slice none 0 0) := by
    rw [← hW0]
    have := VerB.new (w.alloc (Obj.cells #[.int .i64 v.account, .slice va m vc, .int .u64 v.key, .int .i64 v.life] 26)) false 0 (.slice none 0 0)
    rwa [World.size_alloc] at this
  have HZ := Lib.hid (show W0.heap.size = w.heap.size + 2 by rw [← hW0]; simp)
  have HE0 := Lib.hid hE0; have C0 := Lib.hid c0; have C1 := Lib.hid c1; have C2 := Lib.hid c2; have C3 := Lib.hid c3; have B1 := Lib.hid b1
  rw [hW0]
  clear hW0 hE0 c0 c1 c2 c3 b1
  by_cases h0 : x = 0
  · have t0 : (x != 0) = false := by simpa using h0
    have H0 := Lib.hid (HX.out.trans h0)
    clear h0
    cases hmy : mayB v
    · have HR := Lib.hid (show meansOf l v (decP l) = (zeroV, 1) by unfold meansOf; rw [if_pos H0.out, hmy]; rfl)
      have HMY := Lib.hid hmy
      clear hmy
      go_wp2_with (first
        | (go_at_call 39; refine (right_any l a cap n _ HN.out HNC.out HCM.out (HL.out.ext HE0.out) HFE.out HPF.out).mono ?_; rintro e w1 ⟨rfl, hE1⟩; rw [HX.out]
           have k0 := ext_cell C0.out hE1; have k1 := ext_cell C1.out hE1; have k2 := ext_cell C2.out hE1; have k3 := ext_cell C3.out hE1
           have HE1 := Lib.hid hE1; clear hE1)
        | (go_at_call 40; rw [HWV.out]; refine (may_any v va vc _ HVC.out HVM.out (HV.out.ext (ext_trans HE0.out HE1.out))).mono ?_; rintro e w2 ⟨rfl, hE2⟩; rw [HMY.out]
           have hb := B1.out.ext (ext_trans HE1.out hE2)
           have fz0 := hb.frozen 0; have fz1 := hb.frozen 1; have fz2 := hb.frozen 2
           obtain ⟨e0, e1, e2⟩ := hb.cells
           have HB := Lib.hid hb; have HE2 := Lib.hid (ext_trans HE0.out (ext_trans HE1.out hE2)); clear hb hE2 k0 k1 k2 k3))
      obtain ⟨W4, hW4⟩ : ∃ W4, ((w2.setCell ⟨w.heap.size + 1, 0, none⟩ (.bool false)).setCell ⟨w.heap.size + 1, 1, none⟩ (.int .i64 0)).setCell ⟨w.heap.size + 1, 2, none⟩ (.slice none 0 0) = W4 := ⟨_, rfl⟩
      have hb4 : VerB W4 (w.heap.size + 1) false 0 (.slice none 0 0) := by rw [← hW4]; exact ((HB.out.set0 _).set1 _).set2 _
      have hx4 : Ext w W4 := by rw [← hW4]; exact ((HE2.out.setCell (p := ⟨w.heap.size + 1, 0, none⟩) (by simp) _).setCell (p := ⟨w.heap.size + 1, 1, none⟩) (by simp) _).setCell (p := ⟨w.heap.size + 1, 2, none⟩) (by simp) _
      obtain ⟨q0, q1, q2⟩ := hb4.cells
      rw [hW4]
      refine bodyPost_ret (v := .tuple #[.agg #[.bool false, .int .i64 0, .slice none 0 0], .int .i64 1]) (by simp [results, Tryz.results16, go_sem, q0, q1, q2]) rfl ?_
      rw [HR.out]
      exact retVE_zero hx4
    · have HR := Lib.hid (show meansOf l v (decP l) = (verdictOf l v (decP l), 0) by unfold meansOf; rw [if_pos H0.out, hmy]; rfl)
      have HMY := Lib.hid hmy
      clear hmy
      go_wp2_with (first
        | (go_at_call 39; refine (right_any l a cap n _ HN.out HNC.out HCM.out (HL.out.ext HE0.out) HFE.out HPF.out).mono ?_; rintro e w1 ⟨rfl, hE1⟩; rw [HX.out]
           have k0 := ext_cell C0.out hE1; have k1 := ext_cell C1.out hE1; have k2 := ext_cell C2.out hE1; have k3 := ext_cell C3.out hE1
           have HE1 := Lib.hid hE1; clear hE1)
        | (go_at_call 40; rw [HWV.out]; refine (may_any v va vc _ HVC.out HVM.out (HV.out.ext (ext_trans HE0.out HE1.out))).mono ?_; rintro e w2 ⟨rfl, hE2⟩; rw [HMY.out]
           have m0 := ext_cell k0 hE2; have m1 := ext_cell k1 hE2; have m2 := ext_cell k2 hE2; have m3 := ext_cell k3 hE2
           have HE2 := Lib.hid (ext_trans HE1.out hE2); clear hE2 k0 k1 k2 k3))
      have hlen := may_len HMY.out
      rw [HM.out] at hlen
      go_region_with (first
          | (go_at_call 42
             refine (deciders_any l a cap n _ HN.out HNC.out HCM.out (HL.out.ext (ext_trans HE0.out (ext_trans HE2.out ((Fr.drew (fun _ => False) _).ext (fun _ _ h => h)))))).mono ?_
             rintro e w3 ⟨b, rfl, hd, h3⟩
             have hE3 : Ext w2 w3 := ext_trans ((Fr.drew (fun _ => False) w2).ext (fun _ _ h => h)) h3
             have p0 := ext_cell m0 hE3; have p1 := ext_cell m1 hE3; have p2 := ext_cell m2 hE3; have p3 := ext_cell m3 hE3
             have HD := Lib.hid hd; have HE3 := Lib.hid (ext_trans HE2.out hE3)
             clear hd h3 hE3)
          | (go_at_call 41
             rw [HWV.out]
             refine (verdict_any l v (decP l) 72 #[.pointer (some ⟨b, 0, none⟩)] a cap n va vc _ HN.out HNC.out HCM.out (HL.out.ext (ext_trans HE0.out HE3.out)) HVC.out HVM.out (HV.out.ext (ext_trans HE0.out HE3.out)) (by rw [HM.out]; omega) (enters_of Tryz.func72 (by kernel_rfl) rfl)
               (fun s hs w' hE => deciders1_any l s b w' (may_names HMY.out s hs) (HD.out.ext hE) (((HW.out.ext HE0.out).ext HE3.out).ext hE)) (fun s hs => by rw [← HN.out]; exact decP_cases (may_names HMY.out s hs))).mono ?_
             rintro e w4 ⟨ra, rc, rfl, r1, r2, r3, r4, h4⟩
             unfold verV
             have hb := B1.out.ext (ext_trans HE3.out h4)
             have fz0 := hb.frozen 0; have fz1 := hb.frozen 1; have fz2 := hb.frozen 2
             obtain ⟨e0, e1, e2⟩ := hb.cells
             have HB := Lib.hid hb; have HE4 := Lib.hid (ext_trans HE0.out (ext_trans HE3.out h4)); have R1 := Lib.hid r1; have R2 := Lib.hid r2; have R3 := Lib.hid r3
             have R4 := Lib.hid (show ∀ p, ra = some p → w.heap.size + 2 ≤ p.block from fun p hp => by have q1 := r4 p hp; have q2 := HE3.out.size; have q3 := HZ.out; omega)
             clear hb h4 r1 r2 r3 r4))
      all_goals
        go_wp2_with fail
        obtain ⟨W4, hW4⟩ : ∃ W4, ((w4.setCell ⟨w.heap.size + 1, 0, none⟩ (.bool (verdictOf l v (decP l)).allow)).setCell ⟨w.heap.size + 1, 1, none⟩ (.int .i64 (verdictOf l v (decP l)).at')).setCell ⟨w.heap.size + 1, 2, none⟩ (.slice ra (verdictOf l v (decP l)).by'.length rc) = W4 := ⟨_, rfl⟩
        have hb4 : VerB W4 (w.heap.size + 1) (verdictOf l v (decP l)).allow (verdictOf l v (decP l)).at' (.slice ra (verdictOf l v (decP l)).by'.length rc) := by rw [← hW4]; exact ((HB.out.set0 _).set1 _).set2 _
        have hx4 : Ext w W4 := by rw [← hW4]; exact ((HE4.out.setCell (p := ⟨w.heap.size + 1, 0, none⟩) (by simp) _).setCell (p := ⟨w.heap.size + 1, 1, none⟩) (by simp) _).setCell (p := ⟨w.heap.size + 1, 2, none⟩) (by simp) _
        have hi4 : Ints W4 ra (verdictOf l v (decP l)).by' := by
          rw [← hW4]
          exact ints_fr R3.out (((Fr.setCell (S := fun b => b = w.heap.size + 1) _ _ _ rfl).trans (Fr.setCell _ _ _ rfl)).trans (Fr.setCell _ _ _ rfl)) fun p hp hb => by have := R4.out p hp; omega
        obtain ⟨q0, q1, q2⟩ := hb4.cells
        rw [hW4]
        refine bodyPost_ret (v := .tuple #[.agg #[.bool (verdictOf l v (decP l)).allow, .int .i64 (verdictOf l v (decP l)).at', .slice ra (verdictOf l v (decP l)).by'.length rc], .int .i64 0]) (by simp [results, Tryz.results16, go_sem, q0, q1, q2]) rfl ?_
        rw [HR.out]
        exact ⟨ra, rc, rfl, R1.out, R2.out, hi4, fun p hp => by have := R4.out p hp; omega, hx4⟩
  · have t0 : (x != 0) = true := by simpa using h0
    have HR := Lib.hid (show meansOf l v (decP l) = (zeroV, x) by unfold meansOf; rw [if_neg (by rw [HX.out]; exact h0), HX.out])
    clear h0
    go_wp2_with (first
      | (go_at_call 39; refine (right_any l a cap n _ HN.out HNC.out HCM.out (HL.out.ext HE0.out) HFE.out HPF.out).mono ?_; rintro e w1 ⟨rfl, hE1⟩; rw [HX.out]
         have hb := B1.out.ext hE1
         have fz0 := hb.frozen 0; have fz1 := hb.frozen 1; have fz2 := hb.frozen 2
         obtain ⟨e0, e1, e2⟩ := hb.cells
         have HB := Lib.hid hb; have HE1 := Lib.hid (ext_trans HE0.out hE1); clear hb hE1))
    obtain ⟨W4, hW4⟩ : ∃ W4, ((w1.setCell ⟨w.heap.size + 1, 0, none⟩ (.bool false)).setCell ⟨w.heap.size + 1, 1, none⟩ (.int .i64 0)).setCell ⟨w.heap.size + 1, 2, none⟩ (.slice none 0 0) = W4 := ⟨_, rfl⟩
    have hb4 : VerB W4 (w.heap.size + 1) false 0 (.slice none 0 0) := by rw [← hW4]; exact ((HB.out.set0 _).set1 _).set2 _
    have hx4 : Ext w W4 := by rw [← hW4]; exact ((HE1.out.setCell (p := ⟨w.heap.size + 1, 0, none⟩) (by simp) _).setCell (p := ⟨w.heap.size + 1, 1, none⟩) (by simp) _).setCell (p := ⟨w.heap.size + 1, 2, none⟩) (by simp) _
    obtain ⟨q0, q1, q2⟩ := hb4.cells
    rw [hW4]
    refine bodyPost_ret (v := .tuple #[.agg #[.bool false, .int .i64 0, .slice none 0 0], .int .i64 x]) (by simp [results, Tryz.results16, go_sem, q0, q1, q2]) rfl ?_
    rw [HR.out]
    exact retVE_zero hx4
end Go.Proofs.YtmdmbdbbpdojnaaGreatDoor
namespace Go.Proofs.YtmdmbdbbpdojnaaGreatDoor
open Go.RowKit Nam Pol Go.Maps
attribute [local go_sem] gv_of

set_option maxRecDepth 100000 in
set_option maxHeartbeats 4000000 in
theorem r16Means_any (l : List Rul) (v : Wsh) (a : Option Addr) (cap n : Nat) (va : Option Addr) (vc : Nat) (w : World) (hn : l.length = n) (hnc : n ≤ cap) (hcm : cap ≤ maxLen) (hl : Ruls w a l) (hfew : n ≤ 1000) 
    (hvc : v.names.length ≤ vc) (hvm : vc ≤ maxLen) (hv : Strs w va v.names) :
    Calls Tryz.prog 17 #[.slice a n cap, wshV v va vc] w (RetVE (meansOf l v (decidesB l)) w) := by
  have HN := Lib.hid hn; have HNC := Lib.hid hnc; have HCM := Lib.hid hcm; have HL := Lib.hid hl; have HFE := Lib.hid hfew
  have HVC := Lib.hid hvc; have HVM := Lib.hid hvm; have HV := Lib.hid hv
  clear hn hnc hcm hl hfew hvc hvm hv
  obtain ⟨m, hm⟩ : ∃ m, v.names.length = m := ⟨_, rfl⟩
  have HM := Lib.hid hm
  have HWV : Hid (Value.agg #[.int .i64 v.account, .slice va m vc, .int .u64 v.key, .int .i64 v.life] = wshV v va vc) := Lib.hid (by unfold wshV; rw [hm])
  obtain ⟨x, hx⟩ : ∃ x, rightE l = x := ⟨_, rfl⟩
  have HX := Lib.hid hx
  unfold wshV
  rw [hm]
  clear hx hm
  go_enter Tryz.func17, Tryz.ntmps17
  go_upto_region 1 with (fail)
  obtain ⟨W0, hW0⟩ : ∃ W0, (w.alloc (Obj.cells #[.int .i64 v.account, .slice va m vc, .int .u64 v.key, .int .i64 v.life] 26)).alloc (Obj.cells #[.bool false, .int .i64 0, .slice none 0 0] 32) = W0 := ⟨_, rfl⟩
  have hE0 : Ext w W0 := by rw [← hW0]; exact ext_alloc (ext_alloc (Below.refl _ _) _) _
  have c0 : W0.cell? ⟨w.heap.size, 0, none⟩ = some (.int .i64 v.account) := by rw [← hW0]; simp [go_sem]
  have c1 : W0.cell? ⟨w.heap.size, 1, none⟩ = some (.slice va m vc) := by rw [← hW0]; simp [go_sem]
  have c2 : W0.cell? ⟨w.heap.size, 2, none⟩ = some (.int .u64 v.key) := by rw [← hW0]; simp [go_sem]
  have c3 : W0.cell? ⟨w.heap.size, 3, none⟩ = some (.int .i64 v.life) := by rw [← hW0]; simp [go_sem]
  have b1 : VerB W0 (w.heap.size + 1) false 0 (.slice none 0 0) := by
    rw [← hW0]
    have := VerB.new (w.alloc (Obj.cells #[.int .i64 v.account, .slice va m vc, .int .u64 v.key, .int .i64 v.life] 26)) false 0 (.slice none 0 0)
    rwa [World.size_alloc] at this
  have HZ := Lib.hid (show W0.heap.size = w.heap.size + 2 by rw [← hW0]; simp)
  have HE0 := Lib.hid hE0; have C0 := Lib.hid c0; have C1 := Lib.hid c1; have C2 := Lib.hid c2; have C3 := Lib.hid c3; have B1 := Lib.hid b1
  rw [hW0]
  clear hW0 hE0 c0 c1 c2 c3 b1
  by_cases h0 : x = 0
  · have t0 : (x != 0) = false := by simpa using h0
    have H0 := Lib.hid (HX.out.trans h0)
    clear h0
    cases hmy : mayB v
    · have HR := Lib.hid (show meansOf l v (decidesB l) = (zeroV, 1) by unfold meansOf; rw [if_pos H0.out, hmy]; rfl)
      have HMY := Lib.hid hmy
      clear hmy
      go_wp2_with (first
        | (go_at_call 43; refine (r16right_any l a cap n _ HN.out HNC.out HCM.out (HL.out.ext HE0.out) HFE.out).mono ?_; rintro e w1 ⟨rfl, hE1⟩; rw [HX.out]
           have k0 := ext_cell C0.out hE1; have k1 := ext_cell C1.out hE1; have k2 := ext_cell C2.out hE1; have k3 := ext_cell C3.out hE1
           have HE1 := Lib.hid hE1; clear hE1)
        | (go_at_call 44; rw [HWV.out]; refine (r16may_any v va vc _ HVC.out HVM.out (HV.out.ext (ext_trans HE0.out HE1.out))).mono ?_; rintro e w2 ⟨rfl, hE2⟩; rw [HMY.out]
           have hb := B1.out.ext (ext_trans HE1.out hE2)
           have fz0 := hb.frozen 0; have fz1 := hb.frozen 1; have fz2 := hb.frozen 2
           obtain ⟨e0, e1, e2⟩ := hb.cells
           have HB := Lib.hid hb; have HE2 := Lib.hid (ext_trans HE0.out (ext_trans HE1.out hE2)); clear hb hE2 k0 k1 k2 k3))
      obtain ⟨W4, hW4⟩ : ∃ W4, ((w2.setCell ⟨w.heap.size + 1, 0, none⟩ (.bool false)).setCell ⟨w.heap.size + 1, 1, none⟩ (.int .i64 0)).setCell ⟨w.heap.size + 1, 2, none⟩ (.slice none 0 0) = W4 := ⟨_, rfl⟩
      have hb4 : VerB W4 (w.heap.size + 1) false 0 (.slice none 0 0) := by rw [← hW4]; exact ((HB.out.set0 _).set1 _).set2 _
      have hx4 : Ext w W4 := by rw [← hW4]; exact ((HE2.out.setCell (p := ⟨w.heap.size + 1, 0, none⟩) (by simp) _).setCell (p := ⟨w.heap.size + 1, 1, none⟩) (by simp) _).setCell (p := ⟨w.heap.size + 1, 2, none⟩) (by simp) _
      obtain ⟨q0, q1, q2⟩ := hb4.cells
      rw [hW4]
      refine bodyPost_ret (v := .tuple #[.agg #[.bool false, .int .i64 0, .slice none 0 0], .int .i64 1]) (by simp [results, Tryz.results17, go_sem, q0, q1, q2]) rfl ?_
      rw [HR.out]
      exact retVE_zero hx4
    · have HR := Lib.hid (show meansOf l v (decidesB l) = (verdictOf l v (decidesB l), 0) by unfold meansOf; rw [if_pos H0.out, hmy]; rfl)
      have HMY := Lib.hid hmy
      clear hmy
      go_wp2_with (first
        | (go_at_call 43; refine (r16right_any l a cap n _ HN.out HNC.out HCM.out (HL.out.ext HE0.out) HFE.out).mono ?_; rintro e w1 ⟨rfl, hE1⟩; rw [HX.out]
           have k0 := ext_cell C0.out hE1; have k1 := ext_cell C1.out hE1; have k2 := ext_cell C2.out hE1; have k3 := ext_cell C3.out hE1
           have HE1 := Lib.hid hE1; clear hE1)
        | (go_at_call 44; rw [HWV.out]; refine (r16may_any v va vc _ HVC.out HVM.out (HV.out.ext (ext_trans HE0.out HE1.out))).mono ?_; rintro e w2 ⟨rfl, hE2⟩; rw [HMY.out]
           have m0 := ext_cell k0 hE2; have m1 := ext_cell k1 hE2; have m2 := ext_cell k2 hE2; have m3 := ext_cell k3 hE2
           have HE2 := Lib.hid (ext_trans HE1.out hE2); clear hE2 k0 k1 k2 k3))
      have hlen := may_len HMY.out
      rw [HM.out] at hlen
      go_wp2_with (first
        | (go_at_call 45
           rw [HWV.out]
           refine (r16means_any l v a cap n va vc _ HN.out HNC.out HCM.out (HL.out.ext (ext_trans HE0.out HE2.out)) HVC.out HVM.out (HV.out.ext (ext_trans HE0.out HE2.out)) (by rw [HM.out]; omega)).mono ?_
           rintro e w4 ⟨ra, rc, rfl, r1, r2, r3, r4, h4⟩
           unfold verV
           have hb := B1.out.ext (ext_trans HE2.out h4)
           have fz0 := hb.frozen 0; have fz1 := hb.frozen 1; have fz2 := hb.frozen 2
           obtain ⟨e0, e1, e2⟩ := hb.cells
           have HB := Lib.hid hb; have HE4 := Lib.hid (ext_trans HE0.out (ext_trans HE2.out h4)); have R1 := Lib.hid r1; have R2 := Lib.hid r2; have R3 := Lib.hid r3
           have R4 := Lib.hid (show ∀ p, ra = some p → w.heap.size + 2 ≤ p.block from fun p hp => by have q1 := r4 p hp; have q2 := HE2.out.size; have q3 := HZ.out; omega)
           clear hb h4 r1 r2 r3 r4))
      obtain ⟨W4, hW4⟩ : ∃ W4, ((w4.setCell ⟨w.heap.size + 1, 0, none⟩ (.bool (verdictOf l v (decidesB l)).allow)).setCell ⟨w.heap.size + 1, 1, none⟩ (.int .i64 (verdictOf l v (decidesB l)).at')).setCell ⟨w.heap.size + 1, 2, none⟩ (.slice ra (verdictOf l v (decidesB l)).by'.length rc) = W4 := ⟨_, rfl⟩
      have hb4 : VerB W4 (w.heap.size + 1) (verdictOf l v (decidesB l)).allow (verdictOf l v (decidesB l)).at' (.slice ra (verdictOf l v (decidesB l)).by'.length rc) := by rw [← hW4]; exact ((HB.out.set0 _).set1 _).set2 _
      have hx4 : Ext w W4 := by rw [← hW4]; exact ((HE4.out.setCell (p := ⟨w.heap.size + 1, 0, none⟩) (by simp) _).setCell (p := ⟨w.heap.size + 1, 1, none⟩) (by simp) _).setCell (p := ⟨w.heap.size + 1, 2, none⟩) (by simp) _
      have hi4 : Ints W4 ra (verdictOf l v (decidesB l)).by' := by
        rw [← hW4]
        exact ints_fr R3.out (((Fr.setCell (S := fun b => b = w.heap.size + 1) _ _ _ rfl).trans (Fr.setCell _ _ _ rfl)).trans (Fr.setCell _ _ _ rfl)) fun p hp hb => by have := R4.out p hp; omega
      obtain ⟨q0, q1, q2⟩ := hb4.cells
      rw [hW4]
      refine bodyPost_ret (v := .tuple #[.agg #[.bool (verdictOf l v (decidesB l)).allow, .int .i64 (verdictOf l v (decidesB l)).at', .slice ra (verdictOf l v (decidesB l)).by'.length rc], .int .i64 0]) (by simp [results, Tryz.results17, go_sem, q0, q1, q2]) rfl ?_
      rw [HR.out]
      exact ⟨ra, rc, rfl, R1.out, R2.out, hi4, fun p hp => by have := R4.out p hp; omega, hx4⟩
  · have t0 : (x != 0) = true := by simpa using h0
    have HR := Lib.hid (show meansOf l v (decidesB l) = (zeroV, x) by unfold meansOf; rw [if_neg (by rw [HX.out]; exact h0), HX.out])
    clear h0
    go_wp2_with (first
      | (go_at_call 43; refine (r16right_any l a cap n _ HN.out HNC.out HCM.out (HL.out.ext HE0.out) HFE.out).mono ?_; rintro e w1 ⟨rfl, hE1⟩; rw [HX.out]
         have hb := B1.out.ext hE1
         have fz0 := hb.frozen 0; have fz1 := hb.frozen 1; have fz2 := hb.frozen 2
         obtain ⟨e0, e1, e2⟩ := hb.cells
         have HB := Lib.hid hb; have HE1 := Lib.hid (ext_trans HE0.out hE1); clear hb hE1))
    obtain ⟨W4, hW4⟩ : ∃ W4, ((w1.setCell ⟨w.heap.size + 1, 0, none⟩ (.bool false)).setCell ⟨w.heap.size + 1, 1, none⟩ (.int .i64 0)).setCell ⟨w.heap.size + 1, 2, none⟩ (.slice none 0 0) = W4 := ⟨_, rfl⟩
    have hb4 : VerB W4 (w.heap.size + 1) false 0 (.slice none 0 0) := by rw [← hW4]; exact ((HB.out.set0 _).set1 _).set2 _
    have hx4 : Ext w W4 := by rw [← hW4]; exact ((HE1.out.setCell (p := ⟨w.heap.size + 1, 0, none⟩) (by simp) _).setCell (p := ⟨w.heap.size + 1, 1, none⟩) (by simp) _).setCell (p := ⟨w.heap.size + 1, 2, none⟩) (by simp) _
    obtain ⟨q0, q1, q2⟩ := hb4.cells
    rw [hW4]
    refine bodyPost_ret (v := .tuple #[.agg #[.bool false, .int .i64 0, .slice none 0 0], .int .i64 x]) (by simp [results, Tryz.results17, go_sem, q0, q1, q2]) rfl ?_
    rw [HR.out]
    exact retVE_zero hx4
end Go.Proofs.YtmdmbdbbpdojnaaGreatDoor
