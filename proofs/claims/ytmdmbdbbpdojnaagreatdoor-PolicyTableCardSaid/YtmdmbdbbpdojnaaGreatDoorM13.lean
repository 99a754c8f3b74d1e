/- Wishes; walks of the program's functions on them: may. Walks of the document's functions on policies: among, SameInts, FewWish. Walks of the document's functions on policies: may. Walks of the document's functions on policies: both. -/
import Derived.Test.YtmdmbdbbpdojnaaGreatDoorM11
import Derived.Test.YtmdmbdbbpdojnaaGreatDoorM12
namespace Go.Proofs.YtmdmbdbbpdojnaaGreatDoor
open Go.RowKit Nam Pol Go.Maps
attribute [local go_sem] gv_of

/-- A wish as a value: its names' slice at a, of capacity c. -/
def wshV (v : Wsh) (a : Option Addr) (c : Nat) : Value := .agg #[.int .i64 v.account, .slice a v.names.length c, .int .u64 v.key, .int .i64 v.life]
theorem may1_any (n : Int) (w : World) :
    Calls Tryz.prog 71 #[.int .i64 n] w fun e w' => e = .returned (.bool (decide (0 ≤ n) && decide (n ≤ 1099511627776))) ∧ w = w' := by
  go_enter Tryz.func71, Tryz.ntmps71
  go_upto_region 1 with (fail)
  refine wp_region_P (fun w' => w = w') rfl ?_
  repeat
    first
    | (refine steps_and rfl rfl rfl rfl ?_; simp only [Act.put, List.setIfInBounds_toArray, List.set_cons_succ, List.set_cons_zero])
    | (refine steps_or rfl rfl rfl rfl ?_; simp only [Act.put, List.setIfInBounds_toArray, List.set_cons_succ, List.set_cons_zero])
    | (refine steps_skip rfl ?_; simp only [Act.put, List.setIfInBounds_toArray, List.set_cons_succ, List.set_cons_zero])
    | (refine steps_guard_and rfl rfl rfl rfl rfl ?_; simp only [Act.put, List.setIfInBounds_toArray, List.set_cons_succ, List.set_cons_zero])
    | (refine steps_guard (v := ?_) rfl rfl (fun hb w' hS => ?_) ?_; rotate_left; (focus (subst hS; unfold Gives; go_simp; first | exact is_mk rfl)); simp only [Act.put, List.setIfInBounds_toArray, List.set_cons_succ, List.set_cons_zero])
    | (refine steps_guard2 (v := ?_) rfl rfl rfl (fun hb1 hb w' hS => ?_) ?_; rotate_left; (focus (subst hS; unfold Gives; go_simp; first | exact is_mk rfl)); simp only [Act.put, List.setIfInBounds_toArray, List.set_cons_succ, List.set_cons_zero])
    | (refine steps_run (v := ?_) rfl (fun w' hS => ?_) ?_; rotate_left; (focus (subst hS; unfold Gives; go_simp; first | exact is_mk rfl)); simp only [Act.put, List.setIfInBounds_toArray, List.set_cons_succ, List.set_cons_zero])
  refine steps_end fun w' hE => ?_
  subst hE
  go_wp2_with fail
  go_ret
  exact ⟨rfl, rfl⟩
set_option maxRecDepth 100000 in
set_option maxHeartbeats 4000000 in
theorem may_any (v : Wsh) (a : Option Addr) (c : Nat) (w : World) (hnc : v.names.length ≤ c) (hcm : c ≤ maxLen) (hl : Strs w a v.names) :
    Calls Tryz.prog 40 #[wshV v a c] w (Ret (.bool (mayB v)) w) := by
  unfold maxLen at hcm
  obtain ⟨n, hn⟩ : ∃ n, v.names.length = n := ⟨_, rfl⟩
  have HN := Lib.hid hn; have HL := Lib.hid hl; clear hl
  unfold wshV
  rw [hn] at hnc ⊢
  clear hn
  have E : KEnc Tryz.prog 9 Value.string (fun s : ByteArray => s.size ≤ maxLen) := strKEnc Tryz.underlying9
  have hmm := @run_makeMap Tryz.prog
  go_enter Tryz.func40, Tryz.ntmps40
  go_wp2_with fail
  obtain ⟨W0, hW0⟩ : ∃ W0, (w.alloc (Obj.cells #[.int .i64 v.account, .slice a n c, .int .u64 v.key, .int .i64 v.life] 26)).alloc (Obj.map #[] 0) = W0 := ⟨_, rfl⟩
  have hE0 : Ext w W0 := by rw [← hW0]; exact ext_alloc (ext_alloc (Below.refl _ _) _) _
  have c0 : W0.cell? ⟨w.heap.size, 0, none⟩ = some (.int .i64 v.account) := by rw [← hW0]; simp [go_sem]
  have c1 : W0.cell? ⟨w.heap.size, 1, none⟩ = some (.slice a n c) := by rw [← hW0]; simp [go_sem]
  have c3 : W0.cell? ⟨w.heap.size, 3, none⟩ = some (.int .i64 v.life) := by rw [← hW0]; simp [go_sem]
  have m0 : NMap W0 (w.heap.size + 1) [] := by rw [← hW0]; have := MapIs.made Tryz.prog 9 Value.string (fun s : ByteArray => s.size ≤ maxLen) (w.alloc (Obj.cells #[.int .i64 v.account, .slice a n c, .int .u64 v.key, .int .i64 v.life] 26)); rwa [World.size_alloc] at this
  rw [hW0]
  have HE0 := Lib.hid hE0; have C0 := Lib.hid c0; have C1 := Lib.hid c1; have C3 := Lib.hid c3; have M0 := Lib.hid m0
  have hz0 : W0.heap.size = w.heap.size + 2 := by rw [← hW0]; simp
  have HZ := Lib.hid hz0
  clear hW0 hE0 c0 c1 c3 m0 hz0
  go_loopw [11] (fun i wr => ∃ (k : Nat) (m : List (ByteArray × Value)), k ≤ n ∧ i = .int .i64 k ∧ listOk nmB [] (v.names.take k) = true ∧ Fr (fun b => b = w.heap.size + 1) W0 wr ∧ NMap wr (w.heap.size + 1) m ∧ Seen m (v.names.take k)) (fun i _ => n - (intOf i).toNat)
  case atStart => exact ⟨0, [], Nat.zero_le _, rfl, rfl, Fr.refl _ _, M0.out, fun _ => rfl⟩
  case round =>
    obtain ⟨k, m, hk, rfl, hp, hF, hm, hs⟩ := hrel
    have HP := Lib.hid hp; have HM := Lib.hid hm; have HS := Lib.hid hs; have HF := Lib.hid hF
    have HEW : Hid (Ext w wr) := Lib.hid (HE0.out.trans (hF.below HE0.out.size (fun k hk => by omega)))
    clear hp hm hs hF
    have hbl : w.heap.size < W0.heap.size := by rw [HZ.out]; omega
    by_cases hlt : k < n
    · obtain ⟨p, hp⟩ := get_some HN.out hlt
      obtain ⟨b, off, rfl, d0, hps⟩ := (HL.out.ext HEW.out) k p hp
      rw [Nat.mul_one] at d0
      have HT := Lib.hid (listOk_take (f := nmB) hp)
      have HMT := Lib.hid (take_snoc hp)
      have HSZ := Lib.hid hps
      have hpn : p.size ≤ 9223372036854775807 := hps
      have hkc : k ≤ c := by omega
      clear hp hps
      go_upto_region 6 with (fail)
      refine wp_region_P (fun w' => Ext wr w') (Below.refl _ _) ?_
      repeat
        first
        | (refine steps_and rfl rfl rfl rfl ?_; simp only [Act.put, List.setIfInBounds_toArray, List.set_cons_succ, List.set_cons_zero])
        | (refine steps_or rfl rfl rfl rfl ?_; simp only [Act.put, List.setIfInBounds_toArray, List.set_cons_succ, List.set_cons_zero])
        | (refine steps_skip rfl ?_; simp only [Act.put, List.setIfInBounds_toArray, List.set_cons_succ, List.set_cons_zero])
        | (refine steps_guard_and rfl rfl rfl rfl rfl ?_; simp only [Act.put, List.setIfInBounds_toArray, List.set_cons_succ, List.set_cons_zero])
        | (refine steps_guard (v := ?_) rfl rfl (fun hb w' hS => ?_) ?_; rotate_left; (focus (have elk := ((HM.out.ext hS).run_lookup (mt := 96) E Tryz.underlying96 (z := .bool false) (by kernel_rfl) (k := p) HSZ.out).trans (congrArg (fun v => Result.ok v w') (HS.out p)); unfold Gives; go_simp; first | exact is_mk hS | (refine (Check_any _ _ hpn).mono ?_; rintro e w'' ⟨rfl, h2⟩; exact gave_mk (ext_trans hS h2)))); simp only [Act.put, List.setIfInBounds_toArray, List.set_cons_succ, List.set_cons_zero])
        | (refine steps_guard2 (v := ?_) rfl rfl rfl (fun hb1 hb w' hS => ?_) ?_; rotate_left; (focus (have elk := ((HM.out.ext hS).run_lookup (mt := 96) E Tryz.underlying96 (z := .bool false) (by kernel_rfl) (k := p) HSZ.out).trans (congrArg (fun v => Result.ok v w') (HS.out p)); unfold Gives; go_simp; first | exact is_mk hS | (refine (Check_any _ _ hpn).mono ?_; rintro e w'' ⟨rfl, h2⟩; exact gave_mk (ext_trans hS h2)))); simp only [Act.put, List.setIfInBounds_toArray, List.set_cons_succ, List.set_cons_zero])
        | (refine steps_run (v := ?_) rfl (fun w' hS => ?_) ?_; rotate_left; (focus (have elk := ((HM.out.ext hS).run_lookup (mt := 96) E Tryz.underlying96 (z := .bool false) (by kernel_rfl) (k := p) HSZ.out).trans (congrArg (fun v => Result.ok v w') (HS.out p)); unfold Gives; go_simp; first | exact is_mk hS | (refine (Check_any _ _ hpn).mono ?_; rintro e w'' ⟨rfl, h2⟩; exact gave_mk (ext_trans hS h2)))); simp only [Act.put, List.setIfInBounds_toArray, List.set_cons_succ, List.set_cons_zero])
      refine steps_end fun w' hE' => ?_
      have HPK : Hid ((okOr 110 (isB p.data.toList) != 0) = !nmB p) := Lib.hid (by unfold nmB; cases isB p.data.toList <;> rfl)
      cases hq : ((okOr 110 (isB p.data.toList) != 0) || memB (v.names.take k) p)
      · have HQ := Lib.hid (show listOk nmB [] (v.names.take (k + 1)) = true by
          rw [HT.out, HP.out]
          rw [HPK.out] at hq
          simp only [Bool.or_eq_false_iff, Bool.not_eq_false'] at hq
          rw [hq.1, hq.2]; rfl)
        clear hq
        have HM' := Lib.hid (HM.out.ext hE')
        have HF' := Lib.hid (HF.out.trans (Fr.of_ext hE'))
        clear hE'
        go_wp2_with (at_mapUpdate; refine wpList_mapUpdate_is rfl _ _ _ 96 rfl E Tryz.underlying96 rfl HM'.out p _ rfl rfl HSZ.out ?_; intro w1 hm' hf1 hz1; have QM := Lib.hid hm'; have QF := Lib.hid hf1; clear hm' hf1 hz1)
        go_roundw
        case rel => exact ⟨k + 1, _, by omega, by go_num, HQ.out, HF'.out.trans QF.out, QM.out, by rw [HMT.out]; exact HS.out.put p⟩
        case measure => simp [intOf]; omega
      · have HQ := Lib.hid (show mayB v = false by
          have : listOk nmB [] (v.names.take (k + 1)) = false := by
            rw [HT.out, HP.out]
            rw [HPK.out] at hq
            simp only [Bool.or_eq_true, Bool.not_eq_true'] at hq
            rcases hq with h | h <;> rw [h] <;> simp
          unfold mayB; rw [listOk_false this]; rfl)
        clear hq
        go_wp2_with fail
        all_goals
          go_ret
          exact ⟨ret_bool HQ.out.symm, ext_trans HEW.out hE'⟩
    · obtain rfl : k = n := by omega
      have c0 := (HF.out.cell (p := ⟨w.heap.size, 0, none⟩) hbl (show ¬ w.heap.size = w.heap.size + 1 by omega)).trans C0.out
      have c1 := (HF.out.cell (p := ⟨w.heap.size, 1, none⟩) hbl (show ¬ w.heap.size = w.heap.size + 1 by omega)).trans C1.out
      have c3 := (HF.out.cell (p := ⟨w.heap.size, 3, none⟩) hbl (show ¬ w.heap.size = w.heap.size + 1 by omega)).trans C3.out
      have hpo : listOk nmB [] v.names = true := by have := HP.out; rwa [List.take_of_length_le (by rw [HN.out]; omega)] at this
      have HFB := Lib.hid (show mayB v = ((decide (0 ≤ v.account) && decide (v.account ≤ 1099511627776)) && (decide (0 ≤ v.life) && decide (v.life ≤ 1099511627776)) && decide (1 ≤ (k : Int)) && decide ((k : Int) ≤ 8)) by
        unfold mayB; rw [hpo, HN.out, Bool.true_and, show decide (1 ≤ (k : Int)) = decide (1 ≤ k) from by congr 1; apply propext; omega, show decide ((k : Int) ≤ 8) = decide (k ≤ 8) from by congr 1; apply propext; omega])
      clear hpo
      go_upto_region 10 with (fail)
      refine wp_region_P (fun w' => w' = wr) rfl ?_
      repeat
        first
        | (refine steps_and rfl rfl rfl rfl ?_; simp only [Act.put, List.setIfInBounds_toArray, List.set_cons_succ, List.set_cons_zero])
        | (refine steps_or rfl rfl rfl rfl ?_; simp only [Act.put, List.setIfInBounds_toArray, List.set_cons_succ, List.set_cons_zero])
        | (refine steps_skip rfl ?_; simp only [Act.put, List.setIfInBounds_toArray, List.set_cons_succ, List.set_cons_zero])
        | (refine steps_guard_and rfl rfl rfl rfl rfl ?_; simp only [Act.put, List.setIfInBounds_toArray, List.set_cons_succ, List.set_cons_zero])
        | (refine steps_guard (v := ?_) rfl rfl (fun hb w' hS => ?_) ?_; rotate_left; (focus (subst hS; unfold Gives; go_simp; first | exact is_mk rfl | (refine (may1_any _ _).mono ?_; rintro e w'' ⟨rfl, rfl⟩; exact gave_mk rfl))); simp only [Act.put, List.setIfInBounds_toArray, List.set_cons_succ, List.set_cons_zero])
        | (refine steps_guard2 (v := ?_) rfl rfl rfl (fun hb1 hb w' hS => ?_) ?_; rotate_left; (focus (subst hS; unfold Gives; go_simp; first | exact is_mk rfl | (refine (may1_any _ _).mono ?_; rintro e w'' ⟨rfl, rfl⟩; exact gave_mk rfl))); simp only [Act.put, List.setIfInBounds_toArray, List.set_cons_succ, List.set_cons_zero])
        | (refine steps_run (v := ?_) rfl (fun w' hS => ?_) ?_; rotate_left; (focus (subst hS; unfold Gives; go_simp; first | exact is_mk rfl | (refine (may1_any _ _).mono ?_; rintro e w'' ⟨rfl, rfl⟩; exact gave_mk rfl))); simp only [Act.put, List.setIfInBounds_toArray, List.set_cons_succ, List.set_cons_zero])
      refine steps_end fun w' hE' => ?_
      subst hE'
      go_wp2_with fail
      go_ret
      exact ⟨ret_bool HFB.out.symm, HEW.out⟩
end Go.Proofs.YtmdmbdbbpdojnaaGreatDoor
namespace Go.Proofs.YtmdmbdbbpdojnaaGreatDoor
open Go.RowKit Nam Pol
attribute [local go_sem] gv_of

/-- An integer in one cell. -/
def IntAt : ElR Int := fun w b o n => w.cell? ⟨b, o, none⟩ = some (.int .i64 n)
instance : Firm IntAt where
  ext := fun h hE => ext_cell h hE
/-- From address a on there lie those integers. -/
abbrev Ints (w : World) (a : Option Addr) (l : List Int) : Prop := SlA 1 IntAt w a l
set_option maxRecDepth 100000 in
set_option maxHeartbeats 4000000 in
theorem among_any (l : List ByteArray) (s : ByteArray) (a : Option Addr) (cap n : Nat) (w : World) (hn : l.length = n) (hnm : n ≤ maxLen) (hl : Strs w a l) :
    Calls Tryz.prog 76 #[.slice a n cap, .string s] w fun e w' => e = .returned (.bool (memB l s)) ∧ w = w' := by
  unfold maxLen at hnm
  have HN := Lib.hid hn; have HL := Lib.hid hl; clear hn hl
  go_enter Tryz.func76, Tryz.ntmps76
  go_wp2
  go_loop [5] (fun i => ∃ k : Nat, k ≤ n ∧ i = .int .i64 k ∧ memB (l.take k) s = false) (fun i => n - (intOf i).toNat)
  case atStart => exact ⟨0, Nat.zero_le _, rfl, rfl⟩
  case round =>
    obtain ⟨k, hk, rfl, hc⟩ := hrel
    have HC := Lib.hid hc; clear hc
    by_cases hlt : k < n
    · obtain ⟨y, hy⟩ := get_some HN.out hlt
      obtain ⟨b, off, rfl, c0, _⟩ := HL.out k y hy
      rw [Nat.mul_one] at c0
      have HT := Lib.hid (memB_take hy s)
      have HM := Lib.hid (List.mem_of_getElem? hy)
      have HB := Lib.hid (show (y.toList == s.toList) = (y.data.toList == s.data.toList) by rw [Lib.toList_data, Lib.toList_data])
      clear hy
      cases h1 : (y.toList == s.toList)
      · go_wp2
        go_round
        case rel => exact ⟨k + 1, by omega, by go_num, by rw [HT.out, HC.out, ← HB.out, h1]; rfl⟩
        case measure => simp [intOf]; omega
      · have HE := Lib.hid (show memB l s = true by
          have := beq_iff_eq.1 (HB.out.symm.trans h1)
          rw [memB_iff, ← bytes_eq this]; exact HM.out)
        go_wp2
        go_ret
        exact ⟨ret_bool HE.out.symm, rfl⟩
    · obtain rfl : k = n := by omega
      have HF := Lib.hid (show memB l s = false by have := HC.out; rwa [← HN.out, List.take_length] at this)
      go_wp2
      go_ret
      exact ⟨ret_bool HF.out.symm, rfl⟩
set_option maxRecDepth 100000 in
set_option maxHeartbeats 4000000 in
theorem SameInts_any (l m : List Int) (a c : Option Addr) (cap1 cap2 n1 n2 : Nat) (w : World) (h1 : l.length = n1) (h2 : m.length = n2) (hm1 : n1 ≤ maxLen) (hm2 : n2 ≤ maxLen) (hl : Ints w a l) (hc : Ints w c m) :
    Calls Tryz.prog 32 #[.slice a n1 cap1, .slice c n2 cap2] w (Ret (.bool (decide (l = m))) w) := by
  unfold maxLen at hm1 hm2
  have N1 := Lib.hid h1; have N2 := Lib.hid h2; have HL := Lib.hid hl; have HC := Lib.hid hc; clear h1 h2 hl hc
  by_cases hne : n1 = n2
  rotate_left 1
  · have t : ((n1 : Int) != n2) = true := by rw [bne_iff_ne]; omega
    have HF := Lib.hid (show decide (l = m) = false by rw [decide_eq_false_iff_not]; intro e; exact hne (by rw [← N1.out, ← N2.out, e]))
    clear hne
    go_enter Tryz.func32, Tryz.ntmps32
    go_wp2_with fail
    go_ret
    exact ⟨ret_bool HF.out.symm, Below.refl _ _⟩
  · subst hne
    have t : ((n1 : Int) != n1) = false := by simp
    go_enter Tryz.func32, Tryz.ntmps32
    go_wp2_with fail
    go_loopw [5] (fun i wr => ∃ k : Nat, k ≤ n1 ∧ i = .int .i64 k ∧ l.take k = m.take k ∧ Ext w wr) (fun i _ => n1 - (intOf i).toNat)
    case atStart => exact ⟨0, Nat.zero_le _, rfl, rfl, Below.refl _ _⟩
    case round =>
      obtain ⟨k, hk, rfl, he, hEr⟩ := hrel
      have HEQ := Lib.hid he; clear he
      by_cases hlt : k < n1
      · obtain ⟨x, hx⟩ := get_some N1.out hlt
        obtain ⟨y, hy⟩ := get_some N2.out hlt
        obtain ⟨b, off, rfl, d0⟩ := (HL.out.ext hEr) k x hx
        obtain ⟨b', off', rfl, e0⟩ := (HC.out.ext hEr) k y hy
        rw [Nat.mul_one] at d0 e0
        have HX := Lib.hid hx; have HY := Lib.hid hy; have HER := Lib.hid hEr
        clear hx hy hEr
        go_wp2_with fail
        refine wp_region_S (by kernel_rfl) (by kernel_rfl) (by kernel_rfl) (by kernel_rfl) (by kernel_rfl) (fun w' => Ext wr w') ((Fr.drew (fun _ => False) _).ext (fun _ _ h => h)) ?_
        repeat
          first
          | (refine steps_and rfl rfl rfl rfl ?_; simp only [Act.put, List.setIfInBounds_toArray, List.set_cons_succ, List.set_cons_zero])
          | (refine steps_or rfl rfl rfl rfl ?_; simp only [Act.put, List.setIfInBounds_toArray, List.set_cons_succ, List.set_cons_zero])
          | (refine steps_skip rfl ?_; simp only [Act.put, List.setIfInBounds_toArray, List.set_cons_succ, List.set_cons_zero])
          | (refine steps_guard_and rfl rfl rfl rfl rfl ?_; simp only [Act.put, List.setIfInBounds_toArray, List.set_cons_succ, List.set_cons_zero])
          | (refine steps_guard (v := ?_) rfl rfl (fun hb w' hS => ?_) ?_; rotate_left; (focus (have f0 := ext_cell d0 hS; have f1 := ext_cell e0 hS; unfold Gives; go_simp; first | exact is_mk hS)); simp only [Act.put, List.setIfInBounds_toArray, List.set_cons_succ, List.set_cons_zero])
          | (refine steps_guard2 (v := ?_) rfl rfl rfl (fun hb1 hb w' hS => ?_) ?_; rotate_left; (focus (have f0 := ext_cell d0 hS; have f1 := ext_cell e0 hS; unfold Gives; go_simp; first | exact is_mk hS)); simp only [Act.put, List.setIfInBounds_toArray, List.set_cons_succ, List.set_cons_zero])
          | (refine steps_run (v := ?_) rfl (fun w' hS => ?_) ?_; rotate_left; (focus (have f0 := ext_cell d0 hS; have f1 := ext_cell e0 hS; unfold Gives; go_simp; first | exact is_mk hS)); simp only [Act.put, List.setIfInBounds_toArray, List.set_cons_succ, List.set_cons_zero])
        refine steps_end fun w' hE' => ?_
        cases hq : (x != y)
        · have HQ := Lib.hid (show l.take (k + 1) = m.take (k + 1) by
            rw [take_snoc HX.out, take_snoc HY.out, HEQ.out, bne_eq_false_iff_eq.1 hq])
          clear hq
          go_wp2_with fail
          go_roundw
          case rel => exact ⟨k + 1, by omega, by go_num, HQ.out, ext_trans HER.out hE'⟩
          case measure => simp [intOf]; omega
        · have HQ := Lib.hid (show decide (l = m) = false by
            rw [decide_eq_false_iff_not]; intro e
            have h1 := HX.out; have h2 := HY.out
            rw [e, h2] at h1; cases h1
            simp at hq)
          clear hq
          go_wp2_with fail
          go_ret
          exact ⟨ret_bool HQ.out.symm, ext_trans HER.out hE'⟩
      · obtain rfl : k = n1 := by omega
        have HQ := Lib.hid (show decide (l = m) = true by
          have := HEQ.out
          rw [List.take_of_length_le (by rw [N1.out]; exact Nat.le_refl _), List.take_of_length_le (by rw [N2.out]; exact Nat.le_refl _)] at this
          simpa using this)
        go_wp2_with fail
        go_ret
        exact ⟨ret_bool HQ.out.symm, hEr⟩
/-- Is a wish small? -/
def fewNames (l : List ByteArray) : Bool := ((l.take 20).all fun p => decide (p.size ≤ 200)) && decide (l.length ≤ 16)
theorem fewNames_false {l : List ByteArray} {k : Nat} {p : ByteArray} (hp : l[k]? = some p) (hk : k < 20) (h : 200 < p.size) : fewNames l = false := by
  rw [Bool.eq_false_iff]; intro hf
  unfold fewNames at hf
  rw [Bool.and_eq_true, List.all_eq_true] at hf
  have hm : p ∈ l.take 20 := List.mem_of_getElem? (i := k) (by rw [List.getElem?_take, if_pos hk]; exact hp)
  have := of_decide_eq_true (hf.1 p hm)
  omega
set_option maxRecDepth 100000 in
set_option maxHeartbeats 4000000 in
theorem FewWish_any (v : Wsh) (a : Option Addr) (c : Nat) (w : World) (hnc : v.names.length ≤ c) (_hcm : c ≤ maxLen) (hl : Strs w a v.names) :
    Calls Tryz.prog 15 #[wshV v a c] w (Ret (.bool (fewNames v.names)) w) := by
  obtain ⟨n, hn⟩ : ∃ n, v.names.length = n := ⟨_, rfl⟩
  have HN := Lib.hid hn; have HL := Lib.hid hl; clear hl
  unfold wshV
  rw [hn] at hnc ⊢
  clear hn
  go_enter Tryz.func15, Tryz.ntmps15
  go_wp2_with fail
  obtain ⟨W0, hW0⟩ : ∃ W0, w.alloc (Obj.cells #[.int .i64 v.account, .slice a n c, .int .u64 v.key, .int .i64 v.life] 26) = W0 := ⟨_, rfl⟩
  have hE0 : Ext w W0 := by rw [← hW0]; exact ext_alloc (Below.refl _ _) _
  have c1 : W0.cell? ⟨w.heap.size, 1, none⟩ = some (.slice a n c) := by rw [← hW0]; simp [go_sem]
  rw [hW0]
  have HE0 := Lib.hid hE0; have HL0 := Lib.hid (HL.out.ext hE0)
  clear hW0 hE0
  go_loop [3] (fun i => ∃ k : Nat, k ≤ n ∧ k ≤ 20 ∧ i = .int .i64 k ∧ (v.names.take k).all (fun p => decide (p.size ≤ 200)) = true) (fun i => n - (intOf i).toNat)
  case atStart => exact ⟨0, Nat.zero_le _, by omega, rfl, rfl⟩
  case round =>
    obtain ⟨k, hk, hk20, rfl, hp⟩ := hrel
    have HP := Lib.hid hp; clear hp
    by_cases hlt : k < n
    · by_cases h20 : k < 20
      · obtain ⟨p, hp⟩ := get_some HN.out hlt
        obtain ⟨b, off, rfl, d0, hps⟩ := HL0.out k p hp
        rw [Nat.mul_one] at d0
        have HF := Lib.hid (fun h => fewNames_false hp h20 h)
        have HT := Lib.hid (all_take_snoc hp (fun p => decide (p.size ≤ 200)))
        have hkc : k ≤ c := by omega
        clear hp hps
        cases h3 : decide ((200 : Int) < p.size)
        · have HQ2 := Lib.hid (show (v.names.take (k + 1)).all (fun p => decide (p.size ≤ 200)) = true by
            rw [HT.out, HP.out]; simp at h3 ⊢; omega)
          go_wp2_with fail
          go_round
          case rel => exact ⟨k + 1, by omega, by omega, by go_num, HQ2.out⟩
          case measure => simp [intOf]; omega
        · have HQ := Lib.hid (HF.out (by simp at h3; omega))
          go_wp2_with fail
          go_ret
          exact ⟨ret_bool HQ.out.symm, HE0.out⟩
      · obtain rfl : k = 20 := by omega
        have HQ := Lib.hid (show fewNames v.names = decide ((n : Int) ≤ 16) by
          unfold fewNames; rw [HP.out, HN.out, Bool.true_and]; congr 1; apply propext; omega)
        go_wp2_with fail
        go_ret
        exact ⟨ret_bool HQ.out.symm, HE0.out⟩
    · obtain rfl : k = n := by omega
      have HQ := Lib.hid (show fewNames v.names = decide ((k : Int) ≤ 16) by
        have h1 := HP.out
        rw [List.take_of_length_le (by rw [HN.out]; omega)] at h1
        unfold fewNames; rw [List.take_of_length_le (by rw [HN.out]; omega), h1, HN.out, Bool.true_and]; congr 1; apply propext; omega)
      go_wp2_with fail
      go_ret
      exact ⟨ret_bool HQ.out.symm, HE0.out⟩
end Go.Proofs.YtmdmbdbbpdojnaaGreatDoor
namespace Go.Proofs.YtmdmbdbbpdojnaaGreatDoor
open Go.RowKit Nam Pol
attribute [local go_sem] gv_of

set_option maxRecDepth 100000 in
set_option maxHeartbeats 4000000 in
theorem r16may_any (v : Wsh) (a : Option Addr) (c : Nat) (w : World) (hnc : v.names.length ≤ c) (hcm : c ≤ maxLen) (hl : Strs w a v.names) :
    Calls Tryz.prog 44 #[wshV v a c] w (Ret (.bool (mayB v)) w) := by
  unfold maxLen at hcm
  obtain ⟨n, hn⟩ : ∃ n, v.names.length = n := ⟨_, rfl⟩
  have HN := Lib.hid hn; have HL := Lib.hid hl; clear hl
  have HMB := Lib.hid (show mayB v = (listOk nmB [] v.names && ((decide (0 ≤ v.account) && decide (v.account ≤ 1099511627776)) && (decide (0 ≤ v.life) && decide (v.life ≤ 1099511627776)) && decide (1 ≤ n) && decide (n ≤ 8))) by rw [← hn]; rfl)
  unfold wshV
  rw [hn] at hnc ⊢
  clear hn
  go_enter Tryz.func44, Tryz.ntmps44
  go_upto_region 1 with (fail)
  obtain ⟨W0, hW0⟩ : ∃ W0, w.alloc (Obj.cells #[.int .i64 v.account, .slice a n c, .int .u64 v.key, .int .i64 v.life] 26) = W0 := ⟨_, rfl⟩
  have hE0 : Ext w W0 := by rw [← hW0]; exact ext_alloc (Below.refl _ _) _
  have c0 : W0.cell? ⟨w.heap.size, 0, none⟩ = some (.int .i64 v.account) := by rw [← hW0]; simp [go_sem]
  have c1 : W0.cell? ⟨w.heap.size, 1, none⟩ = some (.slice a n c) := by rw [← hW0]; simp [go_sem]
  have c3 : W0.cell? ⟨w.heap.size, 3, none⟩ = some (.int .i64 v.life) := by rw [← hW0]; simp [go_sem]
  rw [hW0]
  have HE0 := Lib.hid hE0; have C1 := Lib.hid c1; have HL0 := Lib.hid (HL.out.ext hE0)
  clear hW0 hE0
  refine wp_region_P (fun w' => w' = W0) rfl ?_
  repeat
    first
    | (refine steps_and rfl rfl rfl rfl ?_; simp only [Act.put, List.setIfInBounds_toArray, List.set_cons_succ, List.set_cons_zero])
    | (refine steps_or rfl rfl rfl rfl ?_; simp only [Act.put, List.setIfInBounds_toArray, List.set_cons_succ, List.set_cons_zero])
    | (refine steps_skip rfl ?_; simp only [Act.put, List.setIfInBounds_toArray, List.set_cons_succ, List.set_cons_zero])
    | (refine steps_guard_and rfl rfl rfl rfl rfl ?_; simp only [Act.put, List.setIfInBounds_toArray, List.set_cons_succ, List.set_cons_zero])
    | (refine steps_guard (v := ?_) rfl rfl (fun hb w' hS => ?_) ?_; rotate_left; (focus (subst hS; unfold Gives; go_simp; first | exact is_mk rfl)); simp only [Act.put, List.setIfInBounds_toArray, List.set_cons_succ, List.set_cons_zero])
    | (refine steps_guard2 (v := ?_) rfl rfl rfl (fun hb1 hb w' hS => ?_) ?_; rotate_left; (focus (subst hS; unfold Gives; go_simp; first | exact is_mk rfl)); simp only [Act.put, List.setIfInBounds_toArray, List.set_cons_succ, List.set_cons_zero])
    | (refine steps_run (v := ?_) rfl (fun w' hS => ?_) ?_; rotate_left; (focus (subst hS; unfold Gives; go_simp; first | exact is_mk rfl)); simp only [Act.put, List.setIfInBounds_toArray, List.set_cons_succ, List.set_cons_zero])
  refine steps_end fun w' hE' => ?_
  subst hE'
  cases hq : (decide (v.account < 0) || decide (1099511627776 < v.account) || decide (v.life < 0) || decide (1099511627776 < v.life) || decide ((n : Int) < 1) || decide ((8 : Int) < n))
  rotate_left 1
  · have HQ := Lib.hid (show mayB v = false by
      rw [HMB.out, Bool.eq_false_iff]; intro h
      simp only [Bool.or_eq_true, Bool.and_eq_true, decide_eq_true_eq] at hq h
      omega)
    clear hq
    go_wp2_with fail
    all_goals
      go_ret
      exact ⟨ret_bool HQ.out.symm, HE0.out⟩
  · have HQ := Lib.hid (show mayB v = listOk nmB [] v.names by
      rw [HMB.out]
      simp only [Bool.or_eq_false_iff, decide_eq_false_iff_not] at hq
      have : ((decide (0 ≤ v.account) && decide (v.account ≤ 1099511627776)) && (decide (0 ≤ v.life) && decide (v.life ≤ 1099511627776)) && decide (1 ≤ n) && decide (n ≤ 8)) = true := by
        simp only [Bool.and_eq_true, decide_eq_true_eq]; omega
      rw [this, Bool.and_true])
    clear hq c0 c3
    go_wp2_with fail
    go_loopw [3] (fun i wr => ∃ k : Nat, k ≤ n ∧ i = .int .i64 k ∧ listOk nmB [] (v.names.take k) = true ∧ Ext w' wr) (fun i _ => n - (intOf i).toNat)
    case atStart => exact ⟨0, Nat.zero_le _, rfl, rfl, Below.refl _ _⟩
    case round =>
      obtain ⟨k, hk, rfl, hp, hEr⟩ := hrel
      have HP := Lib.hid hp; have HER := Lib.hid hEr; clear hp
      have c1 := ext_cell C1.out hEr
      clear hEr
      by_cases hlt : k < n
      · obtain ⟨p, hp⟩ := get_some HN.out hlt
        obtain ⟨b, off, rfl, d0, hps⟩ := (HL0.out.ext HER.out) k p hp
        rw [Nat.mul_one] at d0
        have HT := Lib.hid (listOk_take (f := nmB) hp)
        have HLR : Hid (Strs wr (some ⟨b, off, none⟩) v.names) := Lib.hid (HL0.out.ext HER.out)
        have HLK := Lib.hid (show (v.names.take k).length = k by rw [List.length_take, HN.out]; omega)
        have hpn : p.size ≤ 9223372036854775807 := hps
        have hkc : k ≤ c := by omega
        clear hp hps
        go_wp2_with fail
        refine wp_region_S (by kernel_rfl) (by kernel_rfl) (by kernel_rfl) (by kernel_rfl) (by kernel_rfl) (fun w' => Ext wr w') ((Fr.drew (fun _ => False) _).ext (fun _ _ h => h)) ?_
        repeat
          first
          | (refine steps_and rfl rfl rfl rfl ?_; simp only [Act.put, List.setIfInBounds_toArray, List.set_cons_succ, List.set_cons_zero])
          | (refine steps_or rfl rfl rfl rfl ?_; simp only [Act.put, List.setIfInBounds_toArray, List.set_cons_succ, List.set_cons_zero])
          | (refine steps_skip rfl ?_; simp only [Act.put, List.setIfInBounds_toArray, List.set_cons_succ, List.set_cons_zero])
          | (refine steps_guard_and rfl rfl rfl rfl rfl ?_; simp only [Act.put, List.setIfInBounds_toArray, List.set_cons_succ, List.set_cons_zero])
          | (refine steps_guard (v := ?_) rfl rfl (fun hb w' hS => ?_) ?_; rotate_left; (focus (have f0 := ext_cell d0 hS; have f1 := ext_cell c1 hS; unfold Gives; go_simp; first | exact is_mk hS | (refine (rName_any _ _ hpn).mono ?_; rintro e w'' ⟨rfl, h2⟩; exact gave_mk (ext_trans hS h2)) | (refine (among_any (v.names.take k) p _ c k _ HLK.out (by unfold maxLen; omega) ((HLR.out.ext hS).take k)).mono ?_; rintro e w'' ⟨rfl, rfl⟩; exact gave_mk hS))); simp only [Act.put, List.setIfInBounds_toArray, List.set_cons_succ, List.set_cons_zero])
          | (refine steps_guard2 (v := ?_) rfl rfl rfl (fun hb1 hb w' hS => ?_) ?_; rotate_left; (focus (have f0 := ext_cell d0 hS; have f1 := ext_cell c1 hS; unfold Gives; go_simp; first | exact is_mk hS | (refine (rName_any _ _ hpn).mono ?_; rintro e w'' ⟨rfl, h2⟩; exact gave_mk (ext_trans hS h2)) | (refine (among_any (v.names.take k) p _ c k _ HLK.out (by unfold maxLen; omega) ((HLR.out.ext hS).take k)).mono ?_; rintro e w'' ⟨rfl, rfl⟩; exact gave_mk hS))); simp only [Act.put, List.setIfInBounds_toArray, List.set_cons_succ, List.set_cons_zero])
          | (refine steps_run (v := ?_) rfl (fun w' hS => ?_) ?_; rotate_left; (focus (have f0 := ext_cell d0 hS; have f1 := ext_cell c1 hS; unfold Gives; go_simp; first | exact is_mk hS | (refine (rName_any _ _ hpn).mono ?_; rintro e w'' ⟨rfl, h2⟩; exact gave_mk (ext_trans hS h2)) | (refine (among_any (v.names.take k) p _ c k _ HLK.out (by unfold maxLen; omega) ((HLR.out.ext hS).take k)).mono ?_; rintro e w'' ⟨rfl, rfl⟩; exact gave_mk hS))); simp only [Act.put, List.setIfInBounds_toArray, List.set_cons_succ, List.set_cons_zero])
        refine steps_end fun x hE' => ?_
        have HPK : Hid (isB p.data.toList = nmB p) := Lib.hid rfl
        cases hq : (!isB p.data.toList || memB (v.names.take k) p)
        · have HQ2 := Lib.hid (show listOk nmB [] (v.names.take (k + 1)) = true by
            rw [HT.out, HP.out]
            rw [HPK.out] at hq
            simp only [Bool.or_eq_false_iff, Bool.not_eq_false'] at hq
            rw [hq.1, hq.2]; rfl)
          clear hq
          go_wp2_with fail
          go_roundw
          case rel => exact ⟨k + 1, by omega, by go_num, HQ2.out, ext_trans HER.out hE'⟩
          case measure => simp [intOf]; omega
        · have HQ2 := Lib.hid (show mayB v = false by
            have : listOk nmB [] (v.names.take (k + 1)) = false := by
              rw [HT.out, HP.out]
              rw [HPK.out] at hq
              simp only [Bool.or_eq_true, Bool.not_eq_true'] at hq
              rcases hq with h | h <;> rw [h] <;> simp
            rw [HQ.out]; exact listOk_false this)
          clear hq
          go_wp2_with fail
          all_goals
            go_ret
            exact ⟨ret_bool HQ2.out.symm, ext_trans HE0.out (ext_trans HER.out hE')⟩
      · obtain rfl : k = n := by omega
        have HQ2 := Lib.hid (show mayB v = true by
          rw [HQ.out]
          have := HP.out; rwa [List.take_of_length_le (by rw [HN.out]; omega)] at this)
        go_wp2_with fail
        go_ret
        exact ⟨ret_bool HQ2.out.symm, ext_trans HE0.out HER.out⟩
end Go.Proofs.YtmdmbdbbpdojnaaGreatDoor
namespace Go.Proofs.YtmdmbdbbpdojnaaGreatDoor
open Go.RowKit Nam Pol
attribute [local go_sem] gv_of

theorem any_take_snoc {α : Type} {l : List α} {k : Nat} {x : α} (h : l[k]? = some x) (f : α → Bool) : (l.take (k + 1)).any f = ((l.take k).any f || f x) := by
  rw [List.take_add_one, h]; simp
set_option maxRecDepth 100000 in
set_option maxHeartbeats 4000000 in
theorem both_any (x y : Rul) (xa ya : Option Addr) (cn cm : Nat) (w : World) (hnc : x.pats.length ≤ cn) (hcn : cn ≤ maxLen) (hmc : y.pats.length ≤ cm) (hcm : cm ≤ maxLen) (hx : Strs w xa x.pats) (hy : Strs w ya y.pats) :
    Calls Tryz.prog 49 #[rulV x xa cn, rulV y ya cm] w (Ret (.bool (bothB x y)) w) := by
  unfold maxLen at hcn hcm
  obtain ⟨n, hn⟩ : ∃ n, x.pats.length = n := ⟨_, rfl⟩
  obtain ⟨m, hm⟩ : ∃ m, y.pats.length = m := ⟨_, rfl⟩
  have HN := Lib.hid hn; have HM := Lib.hid hm; have HX := Lib.hid hx; have HY := Lib.hid hy; clear hx hy
  unfold rulV
  rw [hn] at hnc ⊢
  rw [hm] at hmc ⊢
  clear hn hm
  go_enter Tryz.func49, Tryz.ntmps49
  go_wp2_with fail
  obtain ⟨W0, hW0⟩ : ∃ W0, (w.alloc (Obj.cells #[.string x.name, .bool x.allow, .slice xa n cn, .int .u64 x.keyMin, .int .i64 x.lifeMax, .int .i64 x.most, .int .i64 x.window] 54)).alloc (Obj.cells #[.string y.name, .bool y.allow, .slice ya m cm, .int .u64 y.keyMin, .int .i64 y.lifeMax, .int .i64 y.most, .int .i64 y.window] 54) = W0 := ⟨_, rfl⟩
  have hE0 : Ext w W0 := by rw [← hW0]; exact ext_alloc (ext_alloc (Below.refl _ _) _) _
  have c2 : W0.cell? ⟨w.heap.size, 2, none⟩ = some (.slice xa n cn) := by rw [← hW0]; simp [go_sem]
  have e2 : W0.cell? ⟨w.heap.size + 1, 2, none⟩ = some (.slice ya m cm) := by rw [← hW0]; simp [go_sem]
  rw [hW0]
  have HE0 := Lib.hid hE0; have C2 := Lib.hid c2; have E2 := Lib.hid e2; have HX0 := Lib.hid (HX.out.ext hE0); have HY0 := Lib.hid (HY.out.ext hE0)
  clear hW0 hE0
  go_loopw [5] (fun i wr => ∃ k : Nat, k ≤ n ∧ i = .int .i64 k ∧ (x.pats.take k).any (fun p => memB y.pats p) = false ∧ Ext W0 wr) (fun i _ => n - (intOf i).toNat)
  case atStart => exact ⟨0, Nat.zero_le _, rfl, rfl, Below.refl _ _⟩
  case round =>
    obtain ⟨k, hk, rfl, hp, hEr⟩ := hrel
    have HP := Lib.hid hp; have HER := Lib.hid hEr; clear hp
    have c2 := ext_cell C2.out hEr; have e2 := ext_cell E2.out hEr
    clear hEr
    by_cases hlt : k < n
    · obtain ⟨p, hp⟩ := get_some HN.out hlt
      obtain ⟨b, off, rfl, d0, hps⟩ := (HX0.out.ext HER.out) k p hp
      rw [Nat.mul_one] at d0
      have HT := Lib.hid (any_take_snoc hp (fun p => memB y.pats p))
      have HMEM := Lib.hid (List.mem_of_getElem? hp)
      have HYR : Hid (Strs wr ya y.pats) := Lib.hid (HY0.out.ext HER.out)
      have hkc : k ≤ cn := by omega
      clear hp hps
      go_wp2_with fail
      refine wp_region_S (by kernel_rfl) (by kernel_rfl) (by kernel_rfl) (by kernel_rfl) (by kernel_rfl) (fun w' => Ext wr w') ((Fr.drew (fun _ => False) _).ext (fun _ _ h => h)) ?_
      repeat
        first
        | (refine steps_and rfl rfl rfl rfl ?_; simp only [Act.put, List.setIfInBounds_toArray, List.set_cons_succ, List.set_cons_zero])
        | (refine steps_or rfl rfl rfl rfl ?_; simp only [Act.put, List.setIfInBounds_toArray, List.set_cons_succ, List.set_cons_zero])
        | (refine steps_skip rfl ?_; simp only [Act.put, List.setIfInBounds_toArray, List.set_cons_succ, List.set_cons_zero])
        | (refine steps_guard_and rfl rfl rfl rfl rfl ?_; simp only [Act.put, List.setIfInBounds_toArray, List.set_cons_succ, List.set_cons_zero])
        | (refine steps_guard (v := ?_) rfl rfl (fun hb w' hS => ?_) ?_; rotate_left; (focus (have f0 := ext_cell d0 hS; have f1 := ext_cell c2 hS; have f2 := ext_cell e2 hS; unfold Gives; go_simp; first | exact is_mk hS | (refine (among_any y.pats p _ cm m _ HM.out (by unfold maxLen; omega) (HYR.out.ext hS)).mono ?_; rintro e w'' ⟨rfl, rfl⟩; exact gave_mk hS))); simp only [Act.put, List.setIfInBounds_toArray, List.set_cons_succ, List.set_cons_zero])
        | (refine steps_guard2 (v := ?_) rfl rfl rfl (fun hb1 hb w' hS => ?_) ?_; rotate_left; (focus (have f0 := ext_cell d0 hS; have f1 := ext_cell c2 hS; have f2 := ext_cell e2 hS; unfold Gives; go_simp; first | exact is_mk hS | (refine (among_any y.pats p _ cm m _ HM.out (by unfold maxLen; omega) (HYR.out.ext hS)).mono ?_; rintro e w'' ⟨rfl, rfl⟩; exact gave_mk hS))); simp only [Act.put, List.setIfInBounds_toArray, List.set_cons_succ, List.set_cons_zero])
        | (refine steps_run (v := ?_) rfl (fun w' hS => ?_) ?_; rotate_left; (focus (have f0 := ext_cell d0 hS; have f1 := ext_cell c2 hS; have f2 := ext_cell e2 hS; unfold Gives; go_simp; first | exact is_mk hS | (refine (among_any y.pats p _ cm m _ HM.out (by unfold maxLen; omega) (HYR.out.ext hS)).mono ?_; rintro e w'' ⟨rfl, rfl⟩; exact gave_mk hS))); simp only [Act.put, List.setIfInBounds_toArray, List.set_cons_succ, List.set_cons_zero])
      refine steps_end fun w' hE' => ?_
      cases hq : memB y.pats p
      · have HQ := Lib.hid (show (x.pats.take (k + 1)).any (fun p => memB y.pats p) = false by rw [HT.out, HP.out, hq]; rfl)
        clear hq
        go_wp2_with fail
        go_roundw
        case rel => exact ⟨k + 1, by omega, by go_num, HQ.out, ext_trans HER.out hE'⟩
        case measure => simp [intOf]; omega
      · have HQ := Lib.hid (show bothB x y = true by unfold bothB; rw [List.any_eq_true]; exact ⟨p, HMEM.out, hq⟩)
        clear hq
        go_wp2_with fail
        go_ret
        exact ⟨ret_bool HQ.out.symm, ext_trans HE0.out (ext_trans HER.out hE')⟩
    · obtain rfl : k = n := by omega
      have HQ := Lib.hid (show bothB x y = false by
        unfold bothB
        have := HP.out; rwa [List.take_of_length_le (by rw [HN.out]; omega)] at this)
      go_wp2_with fail
      go_ret
      exact ⟨ret_bool HQ.out.symm, ext_trans HE0.out HER.out⟩
end Go.Proofs.YtmdmbdbbpdojnaaGreatDoor
