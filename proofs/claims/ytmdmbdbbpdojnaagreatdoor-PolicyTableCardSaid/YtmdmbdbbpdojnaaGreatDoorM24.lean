/- Walks: policy.same; slices.EqualFunc over nodes. Walks: policy.Check; policy.walker. Walks: the document's Check. Walks: the document's Decide. -/
import Derived.Test.YtmdmbdbbpdojnaaGreatDoorM23
import Derived.Test.YtmdmbdbbpdojnaaGreatDoorM20
namespace Go.Proofs.YtmdmbdbbpdojnaaGreatDoor
open Go.RowKit Nam Pol Go.Maps
attribute [local go_sem] gv_of

theorem eqInts_any (x y : List Int) (xa ya : Option Addr) (xc yc : Nat) (w : World) (hx : Ints w xa x) (hy : Ints w ya y) (hxl : x.length ≤ maxLen) (hyl : y.length ≤ maxLen) :
    Calls Tryz.prog 95 #[.slice xa x.length xc, .slice ya y.length yc] w (Ret (.bool (x == y)) w) := by
  unfold maxLen at hxl hyl
  by_cases hlen : x.length = y.length
  · by_cases h0 : x.length = 0
    · have ex : x = [] := List.eq_nil_of_length_eq_zero h0
      have ey : y = [] := List.eq_nil_of_length_eq_zero (by omega)
      subst ex ey
      refine (Tryz.slices_Equal_int_empty xa ya xc 0 yc w (by omega)).mono ?_
      rintro e w' ⟨rfl, rfl⟩
      exact ⟨rfl, Below.refl _ _⟩
    · obtain ⟨i, hi⟩ := get_some (l := x) rfl (k := 0) (by omega)
      obtain ⟨j, hj⟩ := get_some (l := y) rfl (k := 0) (by omega)
      obtain ⟨b1, o1, rfl, _⟩ := hx 0 i hi
      obtain ⟨b2, o2, rfl, _⟩ := hy 0 j hj
      have cell : ∀ {b o : Nat} {l : List Int}, Ints w (some ⟨b, o, none⟩) l → ∀ j, j < l.length → w.cell? ⟨b, o + j, none⟩ = some (.int .i64 (l.getD j 0)) := fun {b o l} h j hj => by
        obtain ⟨u, hu⟩ := get_some (l := l) rfl hj
        obtain ⟨b', o', hb, hc⟩ := h j u hu
        cases hb
        unfold IntAt at hc
        rw [Nat.mul_one] at hc
        rw [hc, List.getD_eq_getElem?_getD, hu]; rfl
      refine (Tryz.slices_Equal_int b1 o1 x.length xc b2 o2 y.length yc x y w (Nat.le_refl _) (Nat.le_refl _) hxl hyl (cell hx) (cell hy)).mono ?_
      rintro e w' ⟨rfl, q, rfl⟩
      rw [List.take_of_length_le (Nat.le_refl _), List.take_of_length_le (Nat.le_refl _)]
      exact ⟨rfl, (Fr.drewN (fun _ => False) w q).ext (fun _ _ h => h)⟩
  · refine (Tryz.slices_Equal_int_lens xa ya x.length xc y.length yc w hlen).mono ?_
    rintro e w' ⟨rfl, rfl⟩
    have : (x == y) = false := by
      rw [Bool.eq_false_iff]; intro h
      rw [beq_iff_eq] at h; exact hlen (by rw [h])
    exact ⟨ret_bool this.symm, Below.refl _ _⟩
/-- A node as a value: its kids' slice at a, of capacity c. -/
def nodV (x : Nod) (a : Option Addr) (c : Nat) : Value := .agg #[.string x.label, .int .i64 x.here', .int .i64 x.below, .slice a x.kids.length c]
theorem nod_same (x y : Nod) : (x.label.toList == y.label.toList && x.here' == y.here' && x.below == y.below && x.kids == y.kids) = decide (x = y) := by
  rw [Bool.eq_iff_iff]
  simp only [Bool.and_eq_true, beq_iff_eq, decide_eq_true_eq, nod_eq]
  constructor
  · rintro ⟨⟨⟨h1, h2⟩, h3⟩, h4⟩
    exact ⟨bytes_eq (by rwa [Lib.toList_data, Lib.toList_data] at h1), h2, h3, h4⟩
  · rintro ⟨h1, h2, h3, h4⟩
    exact ⟨⟨⟨by rw [h1], h2⟩, h3⟩, h4⟩
set_option maxRecDepth 100000 in
set_option maxHeartbeats 4000000 in
theorem same_any (x y : Nod) (xa ya : Option Addr) (xc yc : Nat) (w : World) (hx : Ints w xa x.kids) (hy : Ints w ya y.kids) (hxl : x.kids.length ≤ maxLen) (hyl : y.kids.length ≤ maxLen) :
    Calls Tryz.prog 64 #[nodV x xa xc, nodV y ya yc] w (Ret (.bool (decide (x = y))) w) := by
  have HX := Lib.hid hx; have HY := Lib.hid hy; have HXL := Lib.hid hxl; have HYL := Lib.hid hyl
  clear hx hy hxl hyl
  unfold nodV
  go_enter Tryz.func64, Tryz.ntmps64
  go_upto_region 1 with (fail)
  obtain ⟨W0, hW0⟩ : ∃ W0, (w.alloc (Obj.cells #[.string x.label, .int .i64 x.here', .int .i64 x.below, .slice xa x.kids.length xc] 62)).alloc (Obj.cells #[.string y.label, .int .i64 y.here', .int .i64 y.below, .slice ya y.kids.length yc] 62) = W0 := ⟨_, rfl⟩
  have hE0 : Ext w W0 := by rw [← hW0]; exact ext_alloc (ext_alloc (Below.refl _ _) _) _
  have h1 : W0.heap[w.heap.size]? = some (.cells #[.string x.label, .int .i64 x.here', .int .i64 x.below, .slice xa x.kids.length xc] 62 (0, 0)) := by
    rw [← hW0]; exact ((ext_alloc (Below.refl _ _) _).block _ (by simp)).trans (World.alloc_heap_new w _)
  have h2 : W0.heap[w.heap.size + 1]? = some (.cells #[.string y.label, .int .i64 y.here', .int .i64 y.below, .slice ya y.kids.length yc] 62 (0, 0)) := by
    rw [← hW0]; have := World.alloc_heap_new (w.alloc (Obj.cells #[.string x.label, .int .i64 x.here', .int .i64 x.below, .slice xa x.kids.length xc] 62)) (Obj.cells #[.string y.label, .int .i64 y.here', .int .i64 y.below, .slice ya y.kids.length yc] 62); rwa [World.size_alloc] at this
  have a0 : W0.cell? ⟨w.heap.size, 0, none⟩ = some (.string x.label) := by simp [World.cell?, h1]
  have a1 : W0.cell? ⟨w.heap.size, 1, none⟩ = some (.int .i64 x.here') := by simp [World.cell?, h1]
  have a2 : W0.cell? ⟨w.heap.size, 2, none⟩ = some (.int .i64 x.below) := by simp [World.cell?, h1]
  have a3 : W0.cell? ⟨w.heap.size, 3, none⟩ = some (.slice xa x.kids.length xc) := by simp [World.cell?, h1]
  have b0 : W0.cell? ⟨w.heap.size + 1, 0, none⟩ = some (.string y.label) := by simp [World.cell?, h2]
  have b1 : W0.cell? ⟨w.heap.size + 1, 1, none⟩ = some (.int .i64 y.here') := by simp [World.cell?, h2]
  have b2 : W0.cell? ⟨w.heap.size + 1, 2, none⟩ = some (.int .i64 y.below) := by simp [World.cell?, h2]
  have b3 : W0.cell? ⟨w.heap.size + 1, 3, none⟩ = some (.slice ya y.kids.length yc) := by simp [World.cell?, h2]
  have HE0 := Lib.hid hE0
  rw [hW0]
  clear hW0 hE0 h1 h2
  refine wp_region_P (fun w' => Ext W0 w') (Below.refl _ _) ?_
  repeat
    first
    | (refine steps_and rfl rfl rfl rfl ?_; simp only [Act.put, List.setIfInBounds_toArray, List.set_cons_succ, List.set_cons_zero])
    | (refine steps_or rfl rfl rfl rfl ?_; simp only [Act.put, List.setIfInBounds_toArray, List.set_cons_succ, List.set_cons_zero])
    | (refine steps_skip rfl ?_; simp only [Act.put, List.setIfInBounds_toArray, List.set_cons_succ, List.set_cons_zero])
    | (refine steps_guard_and rfl rfl rfl rfl rfl ?_; simp only [Act.put, List.setIfInBounds_toArray, List.set_cons_succ, List.set_cons_zero])
    | (refine steps_guard (v := ?_) rfl rfl (fun hb w' hS => ?_) ?_; rotate_left; (focus (have p0 := ext_cell a0 hS; have p1 := ext_cell a1 hS; have p2 := ext_cell a2 hS; have p3 := ext_cell a3 hS; have q0 := ext_cell b0 hS; have q1 := ext_cell b1 hS; have q2 := ext_cell b2 hS; have q3 := ext_cell b3 hS; unfold Gives; go_simp; first | exact is_mk hS | (refine (eqInts_any x.kids y.kids xa ya xc yc _ ((HX.out.ext HE0.out).ext hS) ((HY.out.ext HE0.out).ext hS) HXL.out HYL.out).mono ?_; rintro e w'' ⟨rfl, h2⟩; exact gave_mk (ext_trans hS h2)))); simp only [Act.put, List.setIfInBounds_toArray, List.set_cons_succ, List.set_cons_zero])
    | (refine steps_guard2 (v := ?_) rfl rfl rfl (fun hb1 hb w' hS => ?_) ?_; rotate_left; (focus (have p0 := ext_cell a0 hS; have p1 := ext_cell a1 hS; have p2 := ext_cell a2 hS; have p3 := ext_cell a3 hS; have q0 := ext_cell b0 hS; have q1 := ext_cell b1 hS; have q2 := ext_cell b2 hS; have q3 := ext_cell b3 hS; unfold Gives; go_simp; first | exact is_mk hS | (refine (eqInts_any x.kids y.kids xa ya xc yc _ ((HX.out.ext HE0.out).ext hS) ((HY.out.ext HE0.out).ext hS) HXL.out HYL.out).mono ?_; rintro e w'' ⟨rfl, h2⟩; exact gave_mk (ext_trans hS h2)))); simp only [Act.put, List.setIfInBounds_toArray, List.set_cons_succ, List.set_cons_zero])
    | (refine steps_run (v := ?_) rfl (fun w' hS => ?_) ?_; rotate_left; (focus (have p0 := ext_cell a0 hS; have p1 := ext_cell a1 hS; have p2 := ext_cell a2 hS; have p3 := ext_cell a3 hS; have q0 := ext_cell b0 hS; have q1 := ext_cell b1 hS; have q2 := ext_cell b2 hS; have q3 := ext_cell b3 hS; unfold Gives; go_simp; first | exact is_mk hS | (refine (eqInts_any x.kids y.kids xa ya xc yc _ ((HX.out.ext HE0.out).ext hS) ((HY.out.ext HE0.out).ext hS) HXL.out HYL.out).mono ?_; rintro e w'' ⟨rfl, h2⟩; exact gave_mk (ext_trans hS h2)))); simp only [Act.put, List.setIfInBounds_toArray, List.set_cons_succ, List.set_cons_zero])
  refine steps_end fun w' hE' => ?_
  go_wp2_with fail
  go_ret
  refine ⟨ret_bool ?_, ext_trans HE0.out hE'⟩
  exact nod_same x y
set_option maxRecDepth 100000 in
set_option maxHeartbeats 4000000 in
/-- slices.EqualFunc over nodes, by policy.same. -/
theorem EqualN_any (l m : List Nod) (a b : Option Addr) (c1 n1 c2 n2 : Nat) (w : World) (h1 : l.length = n1) (h2 : m.length = n2) (k1 : n1 ≤ c1) (k2 : n2 ≤ c2) (g1 : c1 ≤ maxLen) (_g2 : c2 ≤ maxLen) (hl : Nods w a l) (hm : Nods w b m) :
    Calls Tryz.prog 63 #[.slice a n1 c1, .slice b n2 c2, .func (.func 64) #[] #[]] w (Ret (.bool (decide (l = m))) w) := by
  unfold maxLen at g1
  have N1 := Lib.hid h1; have N2 := Lib.hid h2; have HL := Lib.hid hl; have HC := Lib.hid hm
  clear h1 h2 hl hm
  have eg := enters_of Tryz.func64 (by kernel_rfl) rfl
  by_cases hne : n1 = n2
  · subst hne
    have t : ((n1 : Int) != n1) = false := by simp
    go_enter Tryz.func63, Tryz.ntmps63
    go_wp2_with fail
    go_loopw [17] (fun i wr => ∃ k : Nat, k ≤ n1 ∧ i = .int .i64 k ∧ l.take k = m.take k ∧ Ext w wr) (fun i _ => n1 - (intOf i).toNat)
    case atStart => exact ⟨0, Nat.zero_le _, rfl, rfl, Below.refl _ _⟩
    case round =>
      obtain ⟨k, hk, rfl, he, hEr⟩ := hrel
      have HEQ := Lib.hid he; clear he
      by_cases hlt : k < n1
      · obtain ⟨x, hx⟩ := get_some N1.out hlt
        obtain ⟨y, hy⟩ := get_some N2.out hlt
        obtain ⟨b, off, rfl, d0, d1, d2, ⟨pa, pc, d3, l1, l2, hps⟩, _⟩ := (HL.out.ext hEr) k x hx
        obtain ⟨b', off', rfl, e0, e1, e2, ⟨qa, qc, e3, g1, g2, hqs⟩, _⟩ := (HC.out.ext hEr) k y hy
        have HX := Lib.hid hx; have HY := Lib.hid hy; have HER := Lib.hid hEr
        have HPS := Lib.hid hps; have HQS := Lib.hid hqs
        have LX := Lib.hid (show x.kids.length ≤ maxLen by omega); have LY := Lib.hid (show y.kids.length ≤ maxLen by omega)
        have hkc1 : k ≤ c1 := by omega
        have hkc2 : k ≤ c2 := by omega
        have hb1 : b < wr.heap.size := cell_lt d0
        have hb2 : b' < wr.heap.size := cell_lt e0
        have hb3 : b' ≠ wr.heap.size := by omega
        have z0 := ext_cell e0 (ext_alloc (Below.refl _ wr) (Obj.cells #[.string x.label, .int .i64 x.here', .int .i64 x.below, .slice pa x.kids.length pc] 62))
        have z1 := ext_cell e1 (ext_alloc (Below.refl _ wr) (Obj.cells #[.string x.label, .int .i64 x.here', .int .i64 x.below, .slice pa x.kids.length pc] 62))
        have z2 := ext_cell e2 (ext_alloc (Below.refl _ wr) (Obj.cells #[.string x.label, .int .i64 x.here', .int .i64 x.below, .slice pa x.kids.length pc] 62))
        have z3 := ext_cell e3 (ext_alloc (Below.refl _ wr) (Obj.cells #[.string x.label, .int .i64 x.here', .int .i64 x.below, .slice pa x.kids.length pc] 62))
        clear hx hy hEr hps hqs l1 l2 g1
        by_cases hq : x = y
        · have HD := Lib.hid (show decide (x = y) = true by rw [decide_eq_true_iff]; exact hq)
          have HQ := Lib.hid (take_eq_snoc HEQ.out HX.out HY.out hq)
          clear hq
          go_wp2_with (go_at_call 64; refine (same_any x y pa qa pc qc _ (HPS.out.ext (ext_alloc (ext_alloc (Below.refl _ _) _) _)) (HQS.out.ext (ext_alloc (ext_alloc (Below.refl _ _) _) _)) LX.out LY.out).mono ?_; rintro e w1 ⟨rfl, hE1⟩; rw [HD.out]; have HE1 := Lib.hid (ext_trans (ext_alloc (ext_alloc (Below.refl _ wr) _) _) hE1); clear hE1)
          go_roundw
          case rel => exact ⟨k + 1, by omega, by go_num, HQ.out, ext_trans HER.out HE1.out⟩
          case measure => simp [intOf]; omega
        · have HD := Lib.hid (show decide (x = y) = false by rw [decide_eq_false_iff_not]; exact hq)
          have HQ := Lib.hid (show decide (l = m) = false by
            rw [decide_eq_false_iff_not]; intro e
            have h1 := HX.out; have h2 := HY.out
            rw [e, h2] at h1; cases h1
            exact hq rfl)
          clear hq
          go_wp2_with (go_at_call 64; refine (same_any x y pa qa pc qc _ (HPS.out.ext (ext_alloc (ext_alloc (Below.refl _ _) _) _)) (HQS.out.ext (ext_alloc (ext_alloc (Below.refl _ _) _) _)) LX.out LY.out).mono ?_; rintro e w1 ⟨rfl, hE1⟩; rw [HD.out]; have HE1 := Lib.hid (ext_trans (ext_alloc (ext_alloc (Below.refl _ wr) _) _) hE1); clear hE1)
          go_ret
          exact ⟨ret_bool HQ.out.symm, ext_trans HER.out HE1.out⟩
      · obtain rfl : k = n1 := by omega
        have HQ := Lib.hid (show decide (l = m) = true by
          rw [decide_eq_true_iff]
          have := HEQ.out
          rwa [List.take_of_length_le (by rw [N1.out]; omega), List.take_of_length_le (by rw [N2.out]; omega)] at this)
        go_wp2_with fail
        go_ret
        exact ⟨ret_bool HQ.out.symm, hEr⟩
  · have t : ((n1 : Int) != n2) = true := by simp; omega
    have HF := Lib.hid (show decide (l = m) = false by rw [decide_eq_false_iff_not]; intro e; exact hne (by rw [← N1.out, ← N2.out, e]))
    clear hne
    go_enter Tryz.func63, Tryz.ntmps63
    go_wp2_with fail
    go_ret
    exact ⟨ret_bool HF.out.symm, Below.refl _ _⟩
end Go.Proofs.YtmdmbdbbpdojnaaGreatDoor
namespace Go.Proofs.YtmdmbdbbpdojnaaGreatDoor
open Go.RowKit Nam Pol Go.Maps
attribute [local go_sem] gv_of

theorem check_cases (rs : List Rul) (ns : List Nod) : (if (rightE rs == 0 && !decide (compN rs = ns)) then 1 else rightE rs) = checkT rs ns := by
  unfold checkT compN
  by_cases h : rightE rs = 0
  · simp only [h, if_true, beq_self_eq_true, Bool.true_and]
    by_cases h2 : treeOf rs = ns
    · simp [h2]
    · simp [h2]
  · simp [h]
set_option maxRecDepth 100000 in
set_option maxHeartbeats 4000000 in
theorem CheckT_any (rs : List Rul) (ns : List Nod) (a b : Option Addr) (cap n c m : Nat) (w : World) (hn : rs.length = n) (hnc : n ≤ cap) (hcm : cap ≤ maxLen) (hl : Ruls w a rs) (hfew : n ≤ 1000) (hpf : ∀ r ∈ rs, r.pats.length ≤ 1000) (hm : ns.length = m) (hmc : m ≤ c) (hmm : c ≤ maxLen) (hns : Nods w b ns) (hw : Env w) :
    Calls Tryz.prog 30 #[.agg #[.slice a n cap, .slice b m c]] w (Ret (.int .i64 (checkT rs ns)) w) := by
  have HN := Lib.hid hn; have HNC := Lib.hid hnc; have HCM := Lib.hid hcm; have HL := Lib.hid hl; have HFE := Lib.hid hfew; have HPF := Lib.hid hpf; have HM := Lib.hid hm; have HMC := Lib.hid hmc; have HMM := Lib.hid hmm; have HNS := Lib.hid hns; have HW := Lib.hid hw
  clear hn hnc hcm hl hfew hpf hm hmc hmm hns hw
  obtain ⟨x, hx⟩ : ∃ x, rightE rs = x := ⟨_, rfl⟩
  have HX := Lib.hid hx
  clear hx
  obtain ⟨W0, hW0⟩ : ∃ W0, w.alloc (Obj.cells #[.slice a n cap, .slice b m c] 45) = W0 := ⟨_, rfl⟩
  have hE0 : Ext w W0 := by rw [← hW0]; exact ext_alloc (Below.refl _ _) _
  have hb0 : TabB W0 w.heap.size (.slice a n cap) (.slice b m c) := by rw [← hW0]; exact TabB.new _ _ _
  have HW0 := Lib.hid hW0; have HE0 := Lib.hid hE0; have HB0 := Lib.hid hb0
  obtain ⟨k0, k1⟩ := hb0.cells
  clear hW0 hE0 hb0
  go_enter Tryz.func30, Tryz.ntmps30
  go_upto_region 1 with (fail)
  rw [HW0.out]
  go_upto_region 2 with (go_at_call 25; refine (Compile_any rs a cap n _ HN.out HNC.out HCM.out (HL.out.ext HE0.out) HFE.out HPF.out (HW.out.ext HE0.out)).mono ?_; rintro e w1 ⟨rv, nv, rfl, ⟨ra, rc, rfl, _, _, _⟩, ⟨na, nc, rfl, q1, q2, hnods⟩, hE1⟩; rw [HX.out]; have HND := Lib.hid hnods; have Q1 := Lib.hid q1; have Q2 := Lib.hid q2; have HE1 := Lib.hid hE1; clear hnods q1 q2 hE1)
  obtain ⟨W2, hW2⟩ : ∃ W2, w1.alloc (Obj.cells #[.slice ra (compR rs).length rc, .slice na (compN rs).length nc] 45) = W2 := ⟨_, rfl⟩
  have hE2 : Ext w1 W2 := by rw [← hW2]; exact ext_alloc (Below.refl _ _) _
  have hb2 : TabB W2 w1.heap.size (.slice ra (compR rs).length rc) (.slice na (compN rs).length nc) := by rw [← hW2]; exact TabB.new _ _ _
  obtain ⟨p0, p1⟩ := hb2.cells
  obtain ⟨r0, r1⟩ := (HB0.out.ext (ext_trans HE1.out hE2)).cells
  have HE2 := Lib.hid hE2
  rw [hW2]
  clear hW2 hE2 hb2 k0 k1
  refine wp_region_P (fun w' => Ext W2 w') (Below.refl _ _) ?_
  repeat
    first
    | (refine steps_and rfl rfl rfl rfl ?_; simp only [Act.put, List.setIfInBounds_toArray, List.set_cons_succ, List.set_cons_zero])
    | (refine steps_or rfl rfl rfl rfl ?_; simp only [Act.put, List.setIfInBounds_toArray, List.set_cons_succ, List.set_cons_zero])
    | (refine steps_skip rfl ?_; simp only [Act.put, List.setIfInBounds_toArray, List.set_cons_succ, List.set_cons_zero])
    | (refine steps_guard_and rfl rfl rfl rfl rfl ?_; simp only [Act.put, List.setIfInBounds_toArray, List.set_cons_succ, List.set_cons_zero])
    | (refine steps_guard (v := ?_) rfl rfl (fun hb w' hS => ?_) ?_; rotate_left; (focus (have e0 := ext_cell p1 hS; have e1 := ext_cell r1 hS; unfold Gives; go_simp; first | exact is_mk hS | (refine (EqualN_any (compN rs) ns na b nc _ c m _ rfl HM.out Q1.out HMC.out Q2.out HMM.out ((HND.out.ext HE2.out).ext hS) ((HNS.out.ext (ext_trans HE0.out (ext_trans HE1.out HE2.out))).ext hS)).mono ?_; rintro e w'' ⟨rfl, h2⟩; exact gave_mk (ext_trans hS h2)))); simp only [Act.put, List.setIfInBounds_toArray, List.set_cons_succ, List.set_cons_zero])
    | (refine steps_guard2 (v := ?_) rfl rfl rfl (fun hb1 hb w' hS => ?_) ?_; rotate_left; (focus (have e0 := ext_cell p1 hS; have e1 := ext_cell r1 hS; unfold Gives; go_simp; first | exact is_mk hS | (refine (EqualN_any (compN rs) ns na b nc _ c m _ rfl HM.out Q1.out HMC.out Q2.out HMM.out ((HND.out.ext HE2.out).ext hS) ((HNS.out.ext (ext_trans HE0.out (ext_trans HE1.out HE2.out))).ext hS)).mono ?_; rintro e w'' ⟨rfl, h2⟩; exact gave_mk (ext_trans hS h2)))); simp only [Act.put, List.setIfInBounds_toArray, List.set_cons_succ, List.set_cons_zero])
    | (refine steps_run (v := ?_) rfl (fun w' hS => ?_) ?_; rotate_left; (focus (have e0 := ext_cell p1 hS; have e1 := ext_cell r1 hS; unfold Gives; go_simp; first | exact is_mk hS | (refine (EqualN_any (compN rs) ns na b nc _ c m _ rfl HM.out Q1.out HMC.out Q2.out HMM.out ((HND.out.ext HE2.out).ext hS) ((HNS.out.ext (ext_trans HE0.out (ext_trans HE1.out HE2.out))).ext hS)).mono ?_; rintro e w'' ⟨rfl, h2⟩; exact gave_mk (ext_trans hS h2)))); simp only [Act.put, List.setIfInBounds_toArray, List.set_cons_succ, List.set_cons_zero])
  refine steps_end fun w' hE' => ?_
  have HB : Hid ((if (x == 0 && !decide (compN rs = ns)) then 1 else x) = checkT rs ns) := Lib.hid (by rw [← HX.out]; exact check_cases rs ns)
  have hEw := ext_trans HE0.out (ext_trans HE1.out (ext_trans HE2.out hE'))
  cases hq : (x == 0 && !decide (compN rs = ns))
  · have HQ := Lib.hid (show x = checkT rs ns by have := HB.out; rw [hq] at this; simpa using this)
    clear hq
    go_wp2_with fail
    go_ret
    exact ⟨ret_int HQ.out, hEw⟩
  · have HQ := Lib.hid (show 1 = checkT rs ns by have := HB.out; rw [hq] at this; simpa using this)
    clear hq
    go_wp2_with fail
    go_ret
    exact ⟨ret_int HQ.out, hEw⟩
set_option maxHeartbeats 400000 in
theorem walker_any (rv nv : Value) (w : World) :
    Calls Tryz.prog 60 #[.agg #[rv, nv]] w fun e w' =>
      e = .returned (.func (.func 94) #[] #[.pointer (some ⟨w.heap.size, 0, none⟩)]) ∧ w' = w.alloc (.cells #[rv, nv] 45) := by
  go_enter Tryz.func60, Tryz.ntmps60
  go_wp2
  go_ret
  exact ⟨rfl, rfl⟩
end Go.Proofs.YtmdmbdbbpdojnaaGreatDoor
namespace Go.Proofs.YtmdmbdbbpdojnaaGreatDoor
open Go.RowKit Nam Pol Go.Maps

set_option maxRecDepth 100000 in
set_option maxHeartbeats 4000000 in
theorem r16Check_any (rs : List Rul) (ns : List Nod) (a b : Option Addr) (cap n c m : Nat) (w : World) (hn : rs.length = n) (hnc : n ≤ cap) (hcm : cap ≤ maxLen) (hl : Ruls w a rs) (hfew : n ≤ 1000) (hm : ns.length = m) (hmc : m ≤ c) (hmm : c ≤ maxLen) (hns : Nods w b ns) :
    Calls Tryz.prog 31 #[.agg #[.slice a n cap, .slice b m c]] w (Ret (.int .i64 (checkT rs ns)) w) := by
  have HN := Lib.hid hn; have HNC := Lib.hid hnc; have HCM := Lib.hid hcm; have HL := Lib.hid hl; have HFE := Lib.hid hfew; have HM := Lib.hid hm; have HNS := Lib.hid hns
  have HML := Lib.hid (Nat.le_trans hmc hmm)
  clear hn hnc hcm hl hfew hm hmc hmm hns
  obtain ⟨x, hx⟩ : ∃ x, rightE rs = x := ⟨_, rfl⟩
  have HX := Lib.hid hx
  clear hx
  obtain ⟨W0, hW0⟩ : ∃ W0, w.alloc (Obj.cells #[.slice a n cap, .slice b m c] 45) = W0 := ⟨_, rfl⟩
  have hE0 : Ext w W0 := by rw [← hW0]; exact ext_alloc (Below.refl _ _) _
  have hb0 : TabB W0 w.heap.size (.slice a n cap) (.slice b m c) := by rw [← hW0]; exact TabB.new _ _ _
  have HW0 := Lib.hid hW0; have HE0 := Lib.hid hE0; have HB0 := Lib.hid hb0
  obtain ⟨k0, k1⟩ := hb0.cells
  have HC := Lib.hid (show (if (x == 0 && !decide (compN rs = ns)) then 1 else x) = checkT rs ns from by rw [← HX.out]; exact check_cases rs ns)
  clear hW0 hE0 hb0
  cases hx0 : (x != 0)
  all_goals
    go_enter Tryz.func31, Tryz.ntmps31
    go_upto_region 1 with (fail)
    rw [HW0.out]
  · have e0 : x = 0 := by simpa using hx0
    cases hd : decide (compN rs = ns)
    all_goals
      have HD := Lib.hid hd
      have HQ := Lib.hid HC.out
      rw [e0, hd] at HQ
      clear hd
      go_upto_region 2 with (go_at_call 26; refine (r16Compile_any rs a cap n _ HN.out HNC.out HCM.out (HL.out.ext HE0.out) HFE.out).mono ?_; rintro e w1 ⟨rv, nv, rfl, ⟨ra, rc, rfl, _, _, _⟩, ⟨na, nc, rfl, q1, q2, hnods⟩, hE1⟩; rw [HX.out]; have HND := Lib.hid hnods; have Q1 := Lib.hid (Nat.le_trans q1 q2); have HE1 := Lib.hid hE1; clear hnods q1 q2 hE1)
      obtain ⟨W2, hW2⟩ : ∃ W2, w1.alloc (Obj.cells #[.slice ra (compR rs).length rc, .slice na (compN rs).length nc] 45) = W2 := ⟨_, rfl⟩
      have hE2 : Ext w1 W2 := by rw [← hW2]; exact ext_alloc (Below.refl _ _) _
      have hb2 : TabB W2 w1.heap.size (.slice ra (compR rs).length rc) (.slice na (compN rs).length nc) := by rw [← hW2]; exact TabB.new _ _ _
      obtain ⟨p0, p1⟩ := hb2.cells
      obtain ⟨r0, r1⟩ := (HB0.out.ext (ext_trans HE1.out hE2)).cells
      have HE2 := Lib.hid (ext_trans HE0.out (ext_trans HE1.out hE2))
      have HND2 := Lib.hid (HND.out.ext hE2)
      rw [hW2]
      clear hW2 hE2 hb2 k0 k1
      go_wp2_with (go_at_call 62; refine (SameNodes_any (compN rs) ns na b nc c _ m _ rfl HM.out Q1.out HML.out HND2.out (HNS.out.ext HE2.out)).mono ?_; rintro e w4 ⟨rfl, hE4⟩; rw [HD.out]; have HE4 := Lib.hid (ext_trans HE2.out hE4); clear hE4)
      go_ret
      exact ⟨ret_int (by have := HQ.out; simpa using this), HE4.out⟩
  · have HQ := Lib.hid (show x = checkT rs ns by have := HC.out; rw [show (x == 0) = false by simpa using hx0] at this; simpa using this)
    go_upto_region 2 with (go_at_call 26; refine (r16Compile_any rs a cap n _ HN.out HNC.out HCM.out (HL.out.ext HE0.out) HFE.out).mono ?_; rintro e w1 ⟨rv, nv, rfl, ⟨ra, rc, rfl, _, _, _⟩, ⟨na, nc, rfl, _, _, _⟩, hE1⟩; rw [HX.out]; have HE1 := Lib.hid (ext_trans HE0.out hE1); clear hE1)
    go_wp2_with fail
    go_ret
    exact ⟨ret_int HQ.out, ext_alloc HE1.out _⟩
end Go.Proofs.YtmdmbdbbpdojnaaGreatDoor
namespace Go.Proofs.YtmdmbdbbpdojnaaGreatDoor
open Go.RowKit Nam Pol Go.Maps
attribute [local go_sem] gv_of

/-- What the document's Decide comes to. -/
def decideD (l : List Rul) (ns : List Nod) (v : Wsh) : Ver × Int := if checkT l ns = 0 then meansOf l v (decidesB l) else (zeroV, checkT l ns)
set_option maxRecDepth 100000 in
set_option maxHeartbeats 4000000 in
theorem r16Decide_any (l : List Rul) (ns : List Nod) (v : Wsh) (a b : Option Addr) (cap n c mn : Nat) (va : Option Addr) (vc : Nat) (w : World) (hn : l.length = n) (hnc : n ≤ cap) (hcm : cap ≤ maxLen) (hl : Ruls w a l) (hfew : n ≤ 1000)
    (hmn : ns.length = mn) (hmc : mn ≤ c) (hmm : c ≤ maxLen) (hns : Nods w b ns) (hvc : v.names.length ≤ vc) (hvm : vc ≤ maxLen) (hv : Strs w va v.names) :
    Calls Tryz.prog 28 #[.agg #[.slice a n cap, .slice b mn c], wshV v va vc] w (RetVE (decideD l ns v) w) := by
  have HN := Lib.hid hn; have HNC := Lib.hid hnc; have HCM := Lib.hid hcm; have HL := Lib.hid hl; have HFE := Lib.hid hfew
  have HVC := Lib.hid hvc; have HVM := Lib.hid hvm; have HV := Lib.hid hv; have HMN := Lib.hid hmn; have HMC := Lib.hid hmc; have HMM := Lib.hid hmm; have HNS := Lib.hid hns
  clear hn hnc hcm hl hfew hvc hvm hv hmn hmc hmm hns
  obtain ⟨m, hm⟩ : ∃ m, v.names.length = m := ⟨_, rfl⟩
  have HM := Lib.hid hm
  have HWV : Hid (Value.agg #[.int .i64 v.account, .slice va m vc, .int .u64 v.key, .int .i64 v.life] = wshV v va vc) := Lib.hid (by unfold wshV; rw [hm])
  obtain ⟨x, hx⟩ : ∃ x, checkT l ns = x := ⟨_, rfl⟩
  have HX := Lib.hid hx
  unfold wshV
  rw [hm]
  clear hx hm
  go_enter Tryz.func28, Tryz.ntmps28
  go_upto_region 1 with (fail)
  obtain ⟨W0, hW0⟩ : ∃ W0, ((w.alloc (Obj.cells #[.slice a n cap, .slice b mn c] 45)).alloc (Obj.cells #[.int .i64 v.account, .slice va m vc, .int .u64 v.key, .int .i64 v.life] 26)).alloc (Obj.cells #[.bool false, .int .i64 0, .slice none 0 0] 32) = W0 := ⟨_, rfl⟩
  have hE0 : Ext w W0 := by rw [← hW0]; exact ext_alloc (ext_alloc (ext_alloc (Below.refl _ _) _) _) _
  have t0 : W0.cell? ⟨w.heap.size, 0, none⟩ = some (.slice a n cap) := by rw [← hW0]; simp [go_sem]
  have t1 : W0.cell? ⟨w.heap.size, 1, none⟩ = some (.slice b mn c) := by rw [← hW0]; simp [go_sem]
  have c0 : W0.cell? ⟨w.heap.size + 1, 0, none⟩ = some (.int .i64 v.account) := by rw [← hW0]; simp [go_sem]
  have c1 : W0.cell? ⟨w.heap.size + 1, 1, none⟩ = some (.slice va m vc) := by rw [← hW0]; simp [go_sem]
  have c2 : W0.cell? ⟨w.heap.size + 1, 2, none⟩ = some (.int .u64 v.key) := by rw [← hW0]; simp [go_sem]
  have c3 : W0.cell? ⟨w.heap.size + 1, 3, none⟩ = some (.int .i64 v.life) := by rw [← hW0]; simp [go_sem]
  have b1 : VerB W0 (w.heap.size + 1 + 1) false 0 (.slice none 0 0) := by
    rw [← hW0]
    have := VerB.new ((w.alloc (Obj.cells #[.slice a n cap, .slice b mn c] 45)).alloc (Obj.cells #[.int .i64 v.account, .slice va m vc, .int .u64 v.key, .int .i64 v.life] 26)) false 0 (.slice none 0 0)
    rwa [World.size_alloc, World.size_alloc] at this
  have HZ := Lib.hid (show W0.heap.size = w.heap.size + 3 by rw [← hW0]; simp)
  have HE0 := Lib.hid hE0; have C0 := Lib.hid c0; have C1 := Lib.hid c1; have C2 := Lib.hid c2; have C3 := Lib.hid c3; have B1 := Lib.hid b1; have T0 := Lib.hid t0; have T1 := Lib.hid t1
  rw [hW0]
  clear hW0 hE0 c0 c1 c2 c3 b1
  by_cases h0 : x = 0
  · have tz : (x != 0) = false := by simpa using h0
    have H0 := Lib.hid (HX.out.trans h0)
    clear h0
    have HR := Lib.hid (show decideD l ns v = meansOf l v (decidesB l) by unfold decideD; rw [if_pos H0.out])
    go_wp2_with (first
      | (go_at_call 31; refine (r16Check_any l ns a b cap n c mn _ HN.out HNC.out HCM.out (HL.out.ext HE0.out) HFE.out HMN.out HMC.out HMM.out (HNS.out.ext HE0.out)).mono ?_; rintro e w1 ⟨rfl, hE1⟩; rw [HX.out]
         have k0 := ext_cell C0.out hE1; have k1 := ext_cell C1.out hE1; have k2 := ext_cell C2.out hE1; have k3 := ext_cell C3.out hE1
         have u0 := ext_cell T0.out hE1
         have HE1 := Lib.hid hE1; clear hE1)
      | (go_at_call 17; rw [HWV.out]; refine (r16Means_any l v a cap n va vc _ HN.out HNC.out HCM.out (HL.out.ext (ext_trans HE0.out HE1.out)) HFE.out HVC.out HVM.out (HV.out.ext (ext_trans HE0.out HE1.out))).mono ?_; rintro e w4 ⟨ra, rc, rfl, r1, r2, r3, r4, h4⟩
         unfold verV
         have hb := B1.out.ext (ext_trans HE1.out h4)
         have fz0 := hb.frozen 0; have fz1 := hb.frozen 1; have fz2 := hb.frozen 2
         obtain ⟨e0, e1, e2⟩ := hb.cells
         have HB := Lib.hid hb; have HE4 := Lib.hid (ext_trans HE0.out (ext_trans HE1.out h4)); have R1 := Lib.hid r1; have R2 := Lib.hid r2; have R3 := Lib.hid r3
         have R4 := Lib.hid (show ∀ p, ra = some p → w.heap.size + 3 ≤ p.block from fun p hp => by have q1 := r4 p hp; have q2 := HE1.out.size; have q3 := HZ.out; omega)
         clear hb h4 r1 r2 r3 r4))
    obtain ⟨V, hV⟩ : ∃ V, meansOf l v (decidesB l) = V := ⟨_, rfl⟩
    have HVV := Lib.hid hV
    rw [hV] at R1 R3
    rw [hV]
    obtain ⟨W4, hW4⟩ : ∃ W4, ((w4.setCell ⟨w.heap.size + 1 + 1, 0, none⟩ (.bool V.1.allow)).setCell ⟨w.heap.size + 1 + 1, 1, none⟩ (.int .i64 V.1.at')).setCell ⟨w.heap.size + 1 + 1, 2, none⟩ (.slice ra V.1.by'.length rc) = W4 := ⟨_, rfl⟩
    have hb4 : VerB W4 (w.heap.size + 1 + 1) V.1.allow V.1.at' (.slice ra V.1.by'.length rc) := by rw [← hW4]; exact ((HB.out.set0 _).set1 _).set2 _
    have hx4 : Ext w W4 := by rw [← hW4]; exact ((HE4.out.setCell (p := ⟨w.heap.size + 1 + 1, 0, none⟩) (by simp; omega) _).setCell (p := ⟨w.heap.size + 1 + 1, 1, none⟩) (by simp; omega) _).setCell (p := ⟨w.heap.size + 1 + 1, 2, none⟩) (by simp; omega) _
    have hi4 : Ints W4 ra V.1.by' := by
      rw [← hW4]
      exact ints_fr R3.out (((Fr.setCell (S := fun b => b = w.heap.size + 1 + 1) _ _ _ rfl).trans (Fr.setCell _ _ _ rfl)).trans (Fr.setCell _ _ _ rfl)) fun p hp hb => by have := R4.out p hp; omega
    obtain ⟨q0, q1, q2⟩ := hb4.cells
    rw [hW4]
    refine bodyPost_ret (v := .tuple #[.agg #[.bool V.1.allow, .int .i64 V.1.at', .slice ra V.1.by'.length rc], .int .i64 V.2]) (by simp [results, Tryz.results28, go_sem, q0, q1, q2]) rfl ?_
    rw [HR.out, HVV.out]
    exact ⟨ra, rc, rfl, R1.out, R2.out, hi4, fun p hp => by have := R4.out p hp; omega, hx4⟩
  · have tz : (x != 0) = true := by simpa using h0
    have HR := Lib.hid (show decideD l ns v = (zeroV, x) by unfold decideD; rw [if_neg (by rw [HX.out]; exact h0), HX.out])
    clear h0
    go_wp2_with (first
      | (go_at_call 31; refine (r16Check_any l ns a b cap n c mn _ HN.out HNC.out HCM.out (HL.out.ext HE0.out) HFE.out HMN.out HMC.out HMM.out (HNS.out.ext HE0.out)).mono ?_; rintro e w1 ⟨rfl, hE1⟩; rw [HX.out]
         have hb := B1.out.ext hE1
         have fz0 := hb.frozen 0; have fz1 := hb.frozen 1; have fz2 := hb.frozen 2
         obtain ⟨e0, e1, e2⟩ := hb.cells
         have HB := Lib.hid hb; have HE1 := Lib.hid (ext_trans HE0.out hE1); clear hb hE1))
    obtain ⟨W4, hW4⟩ : ∃ W4, ((w1.setCell ⟨w.heap.size + 1 + 1, 0, none⟩ (.bool false)).setCell ⟨w.heap.size + 1 + 1, 1, none⟩ (.int .i64 0)).setCell ⟨w.heap.size + 1 + 1, 2, none⟩ (.slice none 0 0) = W4 := ⟨_, rfl⟩
    have hb4 : VerB W4 (w.heap.size + 1 + 1) false 0 (.slice none 0 0) := by rw [← hW4]; exact ((HB.out.set0 _).set1 _).set2 _
    have hx4 : Ext w W4 := by rw [← hW4]; exact ((HE1.out.setCell (p := ⟨w.heap.size + 1 + 1, 0, none⟩) (by simp; omega) _).setCell (p := ⟨w.heap.size + 1 + 1, 1, none⟩) (by simp; omega) _).setCell (p := ⟨w.heap.size + 1 + 1, 2, none⟩) (by simp; omega) _
    obtain ⟨q0, q1, q2⟩ := hb4.cells
    rw [hW4]
    refine bodyPost_ret (v := .tuple #[.agg #[.bool false, .int .i64 0, .slice none 0 0], .int .i64 x]) (by simp [results, Tryz.results28, go_sem, q0, q1, q2]) rfl ?_
    rw [HR.out]
    exact retVE_zero hx4
end Go.Proofs.YtmdmbdbbpdojnaaGreatDoor
