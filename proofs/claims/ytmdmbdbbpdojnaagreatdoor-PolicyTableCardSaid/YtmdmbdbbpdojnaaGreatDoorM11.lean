/- Walks of the program's functions on rules: Check. Walks of the document's functions on rules: Same. Names, in plain Lean: what is above what; patterns, within and meeting. Policies, in plain Lean: who decides of a name: the nearest pattern's first rule. No program in sight. -/
import Derived.Test.YtmdmbdbbpdojnaaGreatDoorM10
import Derived.Test.YtmdmbdbbpdojnaaGreatDoorM09
import Derived.Test.YtmdmbdbbpdojnaaGreatDoorM08
namespace Go.Proofs.YtmdmbdbbpdojnaaGreatDoor
open Go.RowKit Nam Pol Go.Maps
attribute [local go_sem] gv_of

/-- A map whose keys are texts. -/
abbrev NMap (w : World) (b : Nat) (m : List (ByteArray × Value)) : Prop := MapIs Tryz.prog 9 Value.string (fun s : ByteArray => s.size ≤ maxLen) w b m
/-- It tells which of the texts have been seen. -/
def Seen (m : List (ByteArray × Value)) (l : List ByteArray) : Prop := ∀ s, (look m s).getD (.bool false) = .bool (memB l s)
theorem Seen.put {m : List (ByteArray × Value)} {l : List ByteArray} (h : Seen m l) (s : ByteArray) : Seen (mput m s (.bool true)) (l ++ [s]) := fun s' => by
  rw [look_mput, memB_snoc]
  by_cases e : s = s'
  · subst e; simp
  · rw [if_neg e, h s', show (s.data.toList == s'.data.toList) = false from by rw [beq_eq_false_iff_ne]; exact fun hh => e (bytes_eq hh), Bool.or_false]
theorem map_take_snoc {α β : Type} {l : List α} {k : Nat} {x : α} (h : l[k]? = some x) (f : α → β) : (l.take (k + 1)).map f = (l.take k).map f ++ [f x] := by
  rw [List.take_add_one, h]; simp
set_option maxRecDepth 100000 in
set_option maxHeartbeats 4000000 in
theorem pCheck_any (l : List Rul) (a : Option Addr) (cap n : Nat) (w : World) (hn : l.length = n) (hnc : n ≤ cap) (hcm : cap ≤ maxLen) (hl : Ruls w a l) :
    Calls Tryz.prog 33 #[.slice a n cap] w (Ret (.int .i64 (checkE l)) w) := by
  unfold maxLen at hcm
  have HN := Lib.hid hn; have HL := Lib.hid hl; clear hn hl
  have E : KEnc Tryz.prog 9 Value.string (fun s : ByteArray => s.size ≤ maxLen) := strKEnc Tryz.underlying9
  have hmm := @run_makeMap Tryz.prog
  go_enter Tryz.func33, Tryz.ntmps33
  go_wp2_with fail
  obtain ⟨W0, hW0⟩ : ∃ W0, w.alloc (Obj.map #[] 0) = W0 := ⟨_, rfl⟩
  have hE0 : Ext w W0 := by rw [← hW0]; exact ext_alloc (Below.refl _ _) _
  have m0 : NMap W0 w.heap.size [] := by rw [← hW0]; exact MapIs.made _ _ _ _ w
  have HE0 := Lib.hid hE0; have M0 := Lib.hid m0
  rw [hW0]
  clear hW0 hE0 m0
  go_loopw [9] (fun i wr => ∃ (k : Nat) (m : List (ByteArray × Value)), k ≤ n ∧ i = .int .i64 k ∧ rulesOk [] (l.take k) = true ∧ Ext w wr ∧ NMap wr w.heap.size m ∧ Seen m ((l.take k).map (·.name))) (fun i _ => n - (intOf i).toNat)
  case atStart => exact ⟨0, [], Nat.zero_le _, rfl, rfl, HE0.out, M0.out, fun _ => rfl⟩
  case round =>
    obtain ⟨k, m, hk, rfl, hp, hEr, hm, hs⟩ := hrel
    have HP := Lib.hid hp; have HM := Lib.hid hm; have HS := Lib.hid hs; clear hp hm hs
    by_cases hlt : k < n
    · obtain ⟨r, hr⟩ := get_some HN.out hlt
      obtain ⟨b, off, rfl, d0, d1, ⟨pa, pc, d2, l1, l2, hps⟩, d3, d4, d5, d6, hsz, _⟩ := (HL.out.ext hEr) k r hr
      have HT := Lib.hid (rulesOk_take hr)
      have HMT := Lib.hid (map_take_snoc hr (·.name))
      have HPS := Lib.hid hps; have HSZ := Lib.hid hsz; have L2 := Lib.hid l2
      have HER := Lib.hid hEr
      have hkc : k ≤ cap := by omega
      clear hr hEr hps hsz
      unfold maxLen at l2
      go_upto_region 5 with (fail)
      obtain ⟨W0, hW0⟩ : ∃ W0, wr.alloc (Obj.cells #[.string r.name, .bool r.allow, .slice pa r.pats.length pc, .int .u64 r.keyMin, .int .i64 r.lifeMax, .int .i64 r.most, .int .i64 r.window] 54) = W0 := ⟨_, rfl⟩
      have hE0 : Ext wr W0 := by rw [← hW0]; exact ext_alloc (Below.refl _ _) _
      have c0 : W0.cell? ⟨wr.heap.size, 0, none⟩ = some (.string r.name) := by rw [← hW0]; simp [go_sem]
      have c1 : W0.cell? ⟨wr.heap.size, 1, none⟩ = some (.bool r.allow) := by rw [← hW0]; simp [go_sem]
      have c2 : W0.cell? ⟨wr.heap.size, 2, none⟩ = some (.slice pa r.pats.length pc) := by rw [← hW0]; simp [go_sem]
      have c3 : W0.cell? ⟨wr.heap.size, 3, none⟩ = some (.int .u64 r.keyMin) := by rw [← hW0]; simp [go_sem]
      have c4 : W0.cell? ⟨wr.heap.size, 4, none⟩ = some (.int .i64 r.lifeMax) := by rw [← hW0]; simp [go_sem]
      have c5 : W0.cell? ⟨wr.heap.size, 5, none⟩ = some (.int .i64 r.most) := by rw [← hW0]; simp [go_sem]
      have c6 : W0.cell? ⟨wr.heap.size, 6, none⟩ = some (.int .i64 r.window) := by rw [← hW0]; simp [go_sem]
      rw [hW0]
      have HE0 := Lib.hid hE0
      clear hW0 hE0 d0 d1 d2 d3 d4 d5 d6
      refine wp_region_P (fun w' => Ext W0 w') (Below.refl _ _) ?_
      repeat
        first
        | (refine steps_and rfl rfl rfl rfl ?_; simp only [Act.put, List.setIfInBounds_toArray, List.set_cons_succ, List.set_cons_zero])
        | (refine steps_or rfl rfl rfl rfl ?_; simp only [Act.put, List.setIfInBounds_toArray, List.set_cons_succ, List.set_cons_zero])
        | (refine steps_skip rfl ?_; simp only [Act.put, List.setIfInBounds_toArray, List.set_cons_succ, List.set_cons_zero])
        | (refine steps_guard_and rfl rfl rfl rfl rfl ?_; simp only [Act.put, List.setIfInBounds_toArray, List.set_cons_succ, List.set_cons_zero])
        | (refine steps_guard (v := ?_) rfl rfl (fun hb w' hS => ?_) ?_; rotate_left; (focus (have e0 := ext_cell c0 hS; have e1 := ext_cell c1 hS; have e2 := ext_cell c2 hS; have e3 := ext_cell c3 hS; have e4 := ext_cell c4 hS; have e5 := ext_cell c5 hS; have e6 := ext_cell c6 hS; have elk := ((HM.out.ext (ext_trans HE0.out hS)).run_lookup (mt := 96) E Tryz.underlying96 (z := .bool false) (by kernel_rfl) (k := r.name) HSZ.out).trans (congrArg (fun v => Result.ok v w') (HS.out r.name)); unfold Gives; go_simp; first | exact is_mk hS | (refine (formed_any r pa pc _ l1 L2.out (HPS.out.ext (ext_trans HE0.out hS)) HSZ.out).mono ?_; rintro e w'' ⟨rfl, h2⟩; exact gave_mk (ext_trans hS h2)))); simp only [Act.put, List.setIfInBounds_toArray, List.set_cons_succ, List.set_cons_zero])
        | (refine steps_guard2 (v := ?_) rfl rfl rfl (fun hb1 hb w' hS => ?_) ?_; rotate_left; (focus (have e0 := ext_cell c0 hS; have e1 := ext_cell c1 hS; have e2 := ext_cell c2 hS; have e3 := ext_cell c3 hS; have e4 := ext_cell c4 hS; have e5 := ext_cell c5 hS; have e6 := ext_cell c6 hS; have elk := ((HM.out.ext (ext_trans HE0.out hS)).run_lookup (mt := 96) E Tryz.underlying96 (z := .bool false) (by kernel_rfl) (k := r.name) HSZ.out).trans (congrArg (fun v => Result.ok v w') (HS.out r.name)); unfold Gives; go_simp; first | exact is_mk hS | (refine (formed_any r pa pc _ l1 L2.out (HPS.out.ext (ext_trans HE0.out hS)) HSZ.out).mono ?_; rintro e w'' ⟨rfl, h2⟩; exact gave_mk (ext_trans hS h2)))); simp only [Act.put, List.setIfInBounds_toArray, List.set_cons_succ, List.set_cons_zero])
        | (refine steps_run (v := ?_) rfl (fun w' hS => ?_) ?_; rotate_left; (focus (have e0 := ext_cell c0 hS; have e1 := ext_cell c1 hS; have e2 := ext_cell c2 hS; have e3 := ext_cell c3 hS; have e4 := ext_cell c4 hS; have e5 := ext_cell c5 hS; have e6 := ext_cell c6 hS; have elk := ((HM.out.ext (ext_trans HE0.out hS)).run_lookup (mt := 96) E Tryz.underlying96 (z := .bool false) (by kernel_rfl) (k := r.name) HSZ.out).trans (congrArg (fun v => Result.ok v w') (HS.out r.name)); unfold Gives; go_simp; first | exact is_mk hS | (refine (formed_any r pa pc _ l1 L2.out (HPS.out.ext (ext_trans HE0.out hS)) HSZ.out).mono ?_; rintro e w'' ⟨rfl, h2⟩; exact gave_mk (ext_trans hS h2)))); simp only [Act.put, List.setIfInBounds_toArray, List.set_cons_succ, List.set_cons_zero])
      refine steps_end fun w' hE' => ?_
      rw [← List.map_take]
      cases hq : (!formB r || memB ((l.take k).map (·.name)) r.name)
      · have HQ := Lib.hid (show rulesOk [] (l.take (k + 1)) = true by
          rw [HT.out, HP.out]
          simp only [Bool.or_eq_false_iff, Bool.not_eq_false'] at hq
          rw [hq.1, hq.2]; rfl)
        clear hq
        have HE' := Lib.hid hE'
        have e0 := ext_cell c0 hE'
        clear c0 c1 c2 c3 c4 c5 c6
        have HM' := Lib.hid (HM.out.ext (ext_trans HE0.out hE'))
        clear hE'
        go_wp2_with (at_mapUpdate; refine wpList_mapUpdate_is rfl _ _ _ 96 rfl E Tryz.underlying96 rfl HM'.out r.name _ rfl rfl HSZ.out ?_; intro w1 hm' hf1 hz1; have QM := Lib.hid hm'; have QF := Lib.hid hf1; clear hm' hf1 hz1)
        go_roundw
        case rel => exact ⟨k + 1, _, by omega, by go_num, HQ.out, (ext_trans HER.out (ext_trans HE0.out HE'.out)).trans (QF.out.below (ext_trans HER.out (ext_trans HE0.out HE'.out)).size (fun k hk => by omega)), QM.out, by rw [HMT.out]; exact HS.out.put r.name⟩
        case measure => simp [intOf]; omega
      · have HQ := Lib.hid (show checkE l = 1 by
          have : rulesOk [] (l.take (k + 1)) = false := by
            rw [HT.out, HP.out]
            simp only [Bool.or_eq_true, Bool.not_eq_true'] at hq
            rcases hq with h | h <;> rw [h] <;> simp
          unfold checkE; rw [rulesOk_false this]; rfl)
        clear hq
        go_wp2_with fail
        all_goals
          go_ret
          exact ⟨ret_int HQ.out.symm, ext_trans HER.out (ext_trans HE0.out hE')⟩
    · obtain rfl : k = n := by omega
      have hpo : rulesOk [] l = true := by have := HP.out; rwa [← HN.out, List.take_length] at this
      have HFB := Lib.hid (show checkE l = if k ≤ 32 then 0 else 2 by unfold checkE; rw [hpo, HN.out]; rfl)
      by_cases h32 : k ≤ 32
      · have t : decide ((32 : Int) < k) = false := by simp; omega
        go_wp2_with fail
        go_ret
        exact ⟨ret_int (by rw [HFB.out, if_pos h32]), hEr⟩
      · have t : decide ((32 : Int) < k) = true := by simp; omega
        go_wp2_with fail
        go_ret
        exact ⟨ret_int (by rw [HFB.out, if_neg h32]), hEr⟩
end Go.Proofs.YtmdmbdbbpdojnaaGreatDoor
namespace Go.Proofs.YtmdmbdbbpdojnaaGreatDoor
open Go.RowKit Nam Pol
attribute [local go_sem] gv_of

theorem rul_eq {x y : Rul} : x = y ↔ (x.name = y.name ∧ x.allow = y.allow ∧ x.pats = y.pats ∧ x.keyMin = y.keyMin ∧ x.lifeMax = y.lifeMax ∧ x.most = y.most ∧ x.window = y.window) := by
  cases x; cases y; simp
instance : DecidableEq Rul := fun _ _ => decidable_of_iff _ rul_eq.symm
theorem rul_ne (x y : Rul) (h : (!(x.name.toList == y.name.toList) || !(x.allow == y.allow) || !decide (x.pats = y.pats) || (x.keyMin != y.keyMin) || (x.lifeMax != y.lifeMax) || (x.most != y.most) || (x.window != y.window)) = false) : x = y := by
  simp only [Bool.or_eq_false_iff, Bool.not_eq_false', bne_eq_false_iff_eq, beq_iff_eq, decide_eq_true_eq] at h
  obtain ⟨⟨⟨⟨⟨⟨h1, h2⟩, h3⟩, h4⟩, h5⟩, h6⟩, h7⟩ := h
  exact rul_eq.2 ⟨bytes_eq (by rwa [Lib.toList_data, Lib.toList_data] at h1), h2, h3, h4, h5, h6, h7⟩
theorem take_eq_snoc {α : Type} {l m : List α} {k : Nat} {x y : α} (h : l.take k = m.take k) (hx : l[k]? = some x) (hy : m[k]? = some y) (e : x = y) : l.take (k + 1) = m.take (k + 1) := by
  rw [List.take_add_one, List.take_add_one, h, hx, hy, e]
set_option maxRecDepth 100000 in
set_option maxHeartbeats 4000000 in
theorem r15Same_any (l m : List Rul) (a c : Option Addr) (cap1 cap2 n1 n2 : Nat) (w : World) (h1 : l.length = n1) (h2 : m.length = n2) (hm1 : n1 ≤ maxLen) (hm2 : n2 ≤ maxLen) (hl : Ruls w a l) (hc : Ruls w c m) :
    Calls Tryz.prog 61 #[.slice a n1 cap1, .slice c n2 cap2] w (Ret (.bool (decide (l = m))) w) := by
  unfold maxLen at hm1 hm2
  have N1 := Lib.hid h1; have N2 := Lib.hid h2; have HL := Lib.hid hl; have HC := Lib.hid hc; clear h1 h2 hl hc
  by_cases hne : n1 = n2
  rotate_left 1
  · have t : ((n1 : Int) != n2) = true := by rw [bne_iff_ne]; omega
    have HF := Lib.hid (show decide (l = m) = false by rw [decide_eq_false_iff_not]; intro e; exact hne (by rw [← N1.out, ← N2.out, e]))
    clear hne
    go_enter Tryz.func61, Tryz.ntmps61
    go_wp2_with fail
    go_ret
    exact ⟨ret_bool HF.out.symm, Below.refl _ _⟩
  · subst hne
    have t : ((n1 : Int) != n1) = false := by simp
    go_enter Tryz.func61, Tryz.ntmps61
    go_wp2_with fail
    go_loopw [5] (fun i wr => ∃ k : Nat, k ≤ n1 ∧ i = .int .i64 k ∧ l.take k = m.take k ∧ Ext w wr) (fun i _ => n1 - (intOf i).toNat)
    case atStart => exact ⟨0, Nat.zero_le _, rfl, rfl, Below.refl _ _⟩
    case round =>
      obtain ⟨k, hk, rfl, he, hEr⟩ := hrel
      have HEQ := Lib.hid he; clear he
      by_cases hlt : k < n1
      · obtain ⟨x, hx⟩ := get_some N1.out hlt
        obtain ⟨y, hy⟩ := get_some N2.out hlt
        obtain ⟨b, off, rfl, d0, d1, ⟨pa, pc, d2, l1, l2, hps⟩, d3, d4, d5, d6, hsz, _⟩ := (HL.out.ext hEr) k x hx
        obtain ⟨b', off', rfl, e0, e1, ⟨qa, qc, e2, g1, g2, hqs⟩, e3, e4, e5, e6, hsz', _⟩ := (HC.out.ext hEr) k y hy
        have HX := Lib.hid hx; have HY := Lib.hid hy; have HER := Lib.hid hEr
        have HPS := Lib.hid hps; have HQS := Lib.hid hqs
        have LX := Lib.hid (show x.pats.length ≤ maxLen by omega); have LY := Lib.hid (show y.pats.length ≤ maxLen by omega)
        clear hx hy hEr hps hqs hsz hsz' l1 l2 g1 g2
        go_upto_region 7 with (fail)
        obtain ⟨W0, hW0⟩ : ∃ W0, wr.alloc (Obj.cells #[.string x.name, .bool x.allow, .slice pa x.pats.length pc, .int .u64 x.keyMin, .int .i64 x.lifeMax, .int .i64 x.most, .int .i64 x.window] 54) = W0 := ⟨_, rfl⟩
        have hE0 : Ext wr W0 := by rw [← hW0]; exact ext_alloc (Below.refl _ _) _
        have c0 : W0.cell? ⟨wr.heap.size, 0, none⟩ = some (.string x.name) := by rw [← hW0]; simp [go_sem]
        have c1 : W0.cell? ⟨wr.heap.size, 1, none⟩ = some (.bool x.allow) := by rw [← hW0]; simp [go_sem]
        have c2 : W0.cell? ⟨wr.heap.size, 2, none⟩ = some (.slice pa x.pats.length pc) := by rw [← hW0]; simp [go_sem]
        have c3 : W0.cell? ⟨wr.heap.size, 3, none⟩ = some (.int .u64 x.keyMin) := by rw [← hW0]; simp [go_sem]
        have c4 : W0.cell? ⟨wr.heap.size, 4, none⟩ = some (.int .i64 x.lifeMax) := by rw [← hW0]; simp [go_sem]
        have c5 : W0.cell? ⟨wr.heap.size, 5, none⟩ = some (.int .i64 x.most) := by rw [← hW0]; simp [go_sem]
        have c6 : W0.cell? ⟨wr.heap.size, 6, none⟩ = some (.int .i64 x.window) := by rw [← hW0]; simp [go_sem]
        replace e0 := ext_cell e0 hE0
        replace e1 := ext_cell e1 hE0
        replace e2 := ext_cell e2 hE0
        replace e3 := ext_cell e3 hE0
        replace e4 := ext_cell e4 hE0
        replace e5 := ext_cell e5 hE0
        replace e6 := ext_cell e6 hE0
        rw [hW0]
        have HE0 := Lib.hid hE0
        clear hW0 hE0 d0 d1 d2 d3 d4 d5 d6
        go_upto_region 8 with (fail)
        obtain ⟨W1, hW1⟩ : ∃ W1, W0.alloc (Obj.cells #[.string y.name, .bool y.allow, .slice qa y.pats.length qc, .int .u64 y.keyMin, .int .i64 y.lifeMax, .int .i64 y.most, .int .i64 y.window] 54) = W1 := ⟨_, rfl⟩
        have hE1 : Ext W0 W1 := by rw [← hW1]; exact ext_alloc (Below.refl _ _) _
        have f0 : W1.cell? ⟨W0.heap.size, 0, none⟩ = some (.string y.name) := by rw [← hW1]; simp [go_sem]
        have f1 : W1.cell? ⟨W0.heap.size, 1, none⟩ = some (.bool y.allow) := by rw [← hW1]; simp [go_sem]
        have f2 : W1.cell? ⟨W0.heap.size, 2, none⟩ = some (.slice qa y.pats.length qc) := by rw [← hW1]; simp [go_sem]
        have f3 : W1.cell? ⟨W0.heap.size, 3, none⟩ = some (.int .u64 y.keyMin) := by rw [← hW1]; simp [go_sem]
        have f4 : W1.cell? ⟨W0.heap.size, 4, none⟩ = some (.int .i64 y.lifeMax) := by rw [← hW1]; simp [go_sem]
        have f5 : W1.cell? ⟨W0.heap.size, 5, none⟩ = some (.int .i64 y.most) := by rw [← hW1]; simp [go_sem]
        have f6 : W1.cell? ⟨W0.heap.size, 6, none⟩ = some (.int .i64 y.window) := by rw [← hW1]; simp [go_sem]
        replace c0 := ext_cell c0 hE1
        replace c1 := ext_cell c1 hE1
        replace c2 := ext_cell c2 hE1
        replace c3 := ext_cell c3 hE1
        replace c4 := ext_cell c4 hE1
        replace c5 := ext_cell c5 hE1
        replace c6 := ext_cell c6 hE1
        rw [hW1]
        have HE1 := Lib.hid (ext_trans HE0.out hE1)
        clear hW1 hE1 e0 e1 e2 e3 e4 e5 e6
        refine wp_region_P (fun w' => Ext W1 w') (Below.refl _ _) ?_
        repeat
          first
          | (refine steps_and rfl rfl rfl rfl ?_; simp only [Act.put, List.setIfInBounds_toArray, List.set_cons_succ, List.set_cons_zero])
          | (refine steps_or rfl rfl rfl rfl ?_; simp only [Act.put, List.setIfInBounds_toArray, List.set_cons_succ, List.set_cons_zero])
          | (refine steps_skip rfl ?_; simp only [Act.put, List.setIfInBounds_toArray, List.set_cons_succ, List.set_cons_zero])
          | (refine steps_guard_and rfl rfl rfl rfl rfl ?_; simp only [Act.put, List.setIfInBounds_toArray, List.set_cons_succ, List.set_cons_zero])
          | (refine steps_guard (v := ?_) rfl rfl (fun hb w' hS => ?_) ?_; rotate_left; (focus (have k0 := ext_cell c0 hS; have k1 := ext_cell c1 hS; have k2 := ext_cell c2 hS; have k3 := ext_cell c3 hS; have k4 := ext_cell c4 hS; have k5 := ext_cell c5 hS; have k6 := ext_cell c6 hS; have g0 := ext_cell f0 hS; have g1 := ext_cell f1 hS; have g2 := ext_cell f2 hS; have g3 := ext_cell f3 hS; have g4 := ext_cell f4 hS; have g5 := ext_cell f5 hS; have g6 := ext_cell f6 hS; unfold Gives; go_simp; first | exact is_mk hS | (refine (Texts_any x.pats y.pats pa qa pc qc _ _ _ rfl rfl LX.out LY.out (HPS.out.ext (ext_trans HE1.out hS)) (HQS.out.ext (ext_trans HE1.out hS))).mono ?_; rintro e w'' ⟨rfl, h2⟩; exact gave_mk (ext_trans hS h2)))); simp only [Act.put, List.setIfInBounds_toArray, List.set_cons_succ, List.set_cons_zero])
          | (refine steps_guard2 (v := ?_) rfl rfl rfl (fun hb1 hb w' hS => ?_) ?_; rotate_left; (focus (have k0 := ext_cell c0 hS; have k1 := ext_cell c1 hS; have k2 := ext_cell c2 hS; have k3 := ext_cell c3 hS; have k4 := ext_cell c4 hS; have k5 := ext_cell c5 hS; have k6 := ext_cell c6 hS; have g0 := ext_cell f0 hS; have g1 := ext_cell f1 hS; have g2 := ext_cell f2 hS; have g3 := ext_cell f3 hS; have g4 := ext_cell f4 hS; have g5 := ext_cell f5 hS; have g6 := ext_cell f6 hS; unfold Gives; go_simp; first | exact is_mk hS | (refine (Texts_any x.pats y.pats pa qa pc qc _ _ _ rfl rfl LX.out LY.out (HPS.out.ext (ext_trans HE1.out hS)) (HQS.out.ext (ext_trans HE1.out hS))).mono ?_; rintro e w'' ⟨rfl, h2⟩; exact gave_mk (ext_trans hS h2)))); simp only [Act.put, List.setIfInBounds_toArray, List.set_cons_succ, List.set_cons_zero])
          | (refine steps_run (v := ?_) rfl (fun w' hS => ?_) ?_; rotate_left; (focus (have k0 := ext_cell c0 hS; have k1 := ext_cell c1 hS; have k2 := ext_cell c2 hS; have k3 := ext_cell c3 hS; have k4 := ext_cell c4 hS; have k5 := ext_cell c5 hS; have k6 := ext_cell c6 hS; have g0 := ext_cell f0 hS; have g1 := ext_cell f1 hS; have g2 := ext_cell f2 hS; have g3 := ext_cell f3 hS; have g4 := ext_cell f4 hS; have g5 := ext_cell f5 hS; have g6 := ext_cell f6 hS; unfold Gives; go_simp; first | exact is_mk hS | (refine (Texts_any x.pats y.pats pa qa pc qc _ _ _ rfl rfl LX.out LY.out (HPS.out.ext (ext_trans HE1.out hS)) (HQS.out.ext (ext_trans HE1.out hS))).mono ?_; rintro e w'' ⟨rfl, h2⟩; exact gave_mk (ext_trans hS h2)))); simp only [Act.put, List.setIfInBounds_toArray, List.set_cons_succ, List.set_cons_zero])
        refine steps_end fun w' hE' => ?_
        have HRE := Lib.hid (rul_ne x y)
        cases hq : (!(x.name.toList == y.name.toList) || !(x.allow == y.allow) || !decide (x.pats = y.pats) || (x.keyMin != y.keyMin) || (x.lifeMax != y.lifeMax) || (x.most != y.most) || (x.window != y.window))
        · have HQ := Lib.hid (take_eq_snoc HEQ.out HX.out HY.out (HRE.out hq))
          clear hq
          go_wp2_with fail
          go_roundw
          case rel => exact ⟨k + 1, by omega, by go_num, HQ.out, ext_trans HER.out (ext_trans HE1.out hE')⟩
          case measure => simp [intOf]; omega
        · have HQ := Lib.hid (show decide (l = m) = false by
            rw [decide_eq_false_iff_not]; intro e
            have h1 := HX.out; have h2 := HY.out
            rw [e, h2] at h1; cases h1
            simp at hq)
          clear hq
          go_wp2_with fail
          all_goals
            go_ret
            exact ⟨ret_bool HQ.out.symm, ext_trans HER.out (ext_trans HE1.out hE')⟩
      · obtain rfl : k = n1 := by omega
        have HQ := Lib.hid (show decide (l = m) = true by
          rw [decide_eq_true_iff]
          have := HEQ.out
          rwa [List.take_of_length_le (by rw [N1.out]; omega), List.take_of_length_le (by rw [N2.out]; omega)] at this)
        go_wp2_with fail
        go_ret
        exact ⟨ret_bool HQ.out.symm, hEr⟩
end Go.Proofs.YtmdmbdbbpdojnaaGreatDoor
namespace Go.Proofs.YtmdmbdbbpdojnaaGreatDoor
namespace Nam
/-- All that is above, nearest first. -/
def aboveQ (l : Str) : List Str := above (l.length + 1) l
theorem belowB_mem {s o : Str} : belowB s o = true ↔ o ∈ aboveQ s := by
  unfold belowB aboveQ; rw [List.contains_eq_mem, decide_eq_true_eq]
theorem aboveQ_step {s : Str} (h : up s ≠ []) : aboveQ s = up s :: aboveQ (up s) := above_step s h
theorem aboveQ_end {s : Str} (h : up s = []) : aboveQ s = [] := above_end s h
theorem aboveQ_len : ∀ (n : Nat) (s a : Str), s.length < n → a ∈ aboveQ s → a.length < s.length ∧ a ≠ []
  | 0, _, _, h, _ => absurd h (Nat.not_lt_zero _)
  | n + 1, s, a, h, ha => by
    by_cases hu : up s = []
    · rw [aboveQ_end hu] at ha; cases ha
    · rw [aboveQ_step hu] at ha
      have hl := up_lt s hu
      rcases List.mem_cons.1 ha with rfl | ha
      · exact ⟨hl, hu⟩
      · have := aboveQ_len n (up s) a (by omega) ha
        exact ⟨by omega, this.2⟩
theorem below_len {s a : Str} (h : belowB s a = true) : a.length < s.length ∧ a ≠ [] := aboveQ_len _ s a (Nat.lt_succ_self _) (belowB_mem.1 h)
/-- What is above something above it is above it; of two above it one is above the other. -/
theorem aboveQ_trans : ∀ (n : Nat) (s a b : Str), s.length < n → a ∈ aboveQ s → b ∈ aboveQ a → b ∈ aboveQ s
  | 0, _, _, _, h, _, _ => absurd h (Nat.not_lt_zero _)
  | n + 1, s, a, b, h, ha, hb => by
    by_cases hu : up s = []
    · rw [aboveQ_end hu] at ha; cases ha
    · rw [aboveQ_step hu] at ha ⊢
      have hl := up_lt s hu
      rcases List.mem_cons.1 ha with rfl | ha
      · exact List.mem_cons_of_mem _ hb
      · exact List.mem_cons_of_mem _ (aboveQ_trans n (up s) a b (by omega) ha hb)
theorem below_trans {s a b : Str} (h1 : belowB s a = true) (h2 : belowB a b = true) : belowB s b = true :=
  belowB_mem.2 (aboveQ_trans _ s a b (Nat.lt_succ_self _) (belowB_mem.1 h1) (belowB_mem.1 h2))
theorem aboveQ_chain : ∀ (n : Nat) (s a b : Str), s.length < n → a ∈ aboveQ s → b ∈ aboveQ s → a = b ∨ b ∈ aboveQ a ∨ a ∈ aboveQ b
  | 0, _, _, _, h, _, _ => absurd h (Nat.not_lt_zero _)
  | n + 1, s, a, b, h, ha, hb => by
    by_cases hu : up s = []
    · rw [aboveQ_end hu] at ha; cases ha
    · rw [aboveQ_step hu] at ha hb
      have hl := up_lt s hu
      rcases List.mem_cons.1 ha with rfl | ha
      · rcases List.mem_cons.1 hb with rfl | hb
        · exact .inl rfl
        · exact .inr (.inl hb)
      · rcases List.mem_cons.1 hb with rfl | hb
        · exact .inr (.inr ha)
        · exact aboveQ_chain n (up s) a b (by omega) ha hb
theorem below_chain {s a b : Str} (h1 : belowB s a = true) (h2 : belowB s b = true) : a = b ∨ belowB a b = true ∨ belowB b a = true := by
  rcases aboveQ_chain _ s a b (Nat.lt_succ_self _) (belowB_mem.1 h1) (belowB_mem.1 h2) with h | h | h
  · exact .inl h
  · exact .inr (.inl (belowB_mem.2 h))
  · exact .inr (.inr (belowB_mem.2 h))
theorem below_up {s b : Str} (hu : up s ≠ []) : belowB s b = true ↔ b = up s ∨ belowB (up s) b = true := by
  rw [belowB_mem, belowB_mem, aboveQ_step hu, List.mem_cons]
theorem cut_cons {t : Str} {x : Str} (hx : ∀ c ∈ x, c ≠ (46 : UInt8)) : cut (x ++ 46 :: t) = x :: cut t := by
  induction x with
  | nil => simp [cut]
  | cons c x ih =>
    have hc : c ≠ 46 := hx c (by simp)
    have := ih (fun d hd => hx d (by simp [hd]))
    rw [List.cons_append, cut, if_neg hc, this]
theorem afterDot_cons {t : Str} {x : Str} (hx : ∀ c ∈ x, c ≠ (46 : UInt8)) : afterDot (x ++ 46 :: t) = t := by
  induction x with
  | nil => simp [afterDot]
  | cons c x ih =>
    have hc : c ≠ 46 := hx c (by simp)
    rw [List.cons_append, afterDot, if_neg hc]
    exact ih (fun d hd => hx d (by simp [hd]))
/-- A label more ahead of a name. -/
theorem isB_cons {x t : Str} (hx : ∀ c ∈ x, c ≠ (46 : UInt8)) : isB (x ++ 46 :: t) = true ↔ labelB x = true ∧ isB t = true ∧ (x ++ 46 :: t).length ≤ 64 ∧ (cut t).length < 8 := by
  rw [isB_iff, cut_cons hx, isB_iff]
  simp only [List.length_cons, List.mem_cons, List.length_append]
  constructor
  · rintro ⟨h1, h2, h3⟩
    exact ⟨h3 x (.inl rfl), ⟨by omega, by omega, fun y hy => h3 y (.inr hy)⟩, h1, by omega⟩
  · rintro ⟨h1, ⟨h2, h3, h4⟩, h5, h6⟩
    exact ⟨h5, by omega, fun y hy => hy.elim (fun e => e ▸ h1) (h4 y)⟩
theorem up_cons {x t : Str} (hx : ∀ c ∈ x, c ≠ (46 : UInt8)) (h : isB (x ++ 46 :: t) = true) : up (x ++ 46 :: t) = t := by
  unfold up; rw [if_pos h, afterDot_cons hx]
/-- A star matches the names of one letter ahead of what it is of. -/
theorem star_one {a : Str} {c : UInt8} (hc : labelB [c] = true) (hd : c ≠ 46) (h : starB (42 :: 46 :: a) = true) :
    isB (c :: 46 :: a) = true ∧ up (c :: 46 :: a) = a := by
  obtain ⟨t, ht, hn⟩ := (starB_iff _).1 h
  simp at ht; subst ht
  obtain ⟨h1, h2, h3⟩ := nameB_iff.1 hn
  have hx : ∀ d ∈ [c], d ≠ (46 : UInt8) := by intro d hd'; simp at hd'; rw [hd']; exact hd
  have hB : isB ([c] ++ 46 :: a) = true := (isB_cons hx).2 ⟨hc, isB_iff.2 ⟨by omega, by omega, h3⟩, by simp; omega, by omega⟩
  exact ⟨hB, up_cons hx hB⟩
theorem star_form {p : Str} (h : starB p = true) : ∃ a, p = 42 :: 46 :: a ∧ starOf p = a := by
  obtain ⟨t, rfl, _⟩ := (starB_iff p).1 h
  exact ⟨t, rfl, by rw [starOf_eq h]; rfl⟩
theorem rpat_cases {p : Str} (h : rpatB p = true) : isB p = true ∨ starB p = true := by
  unfold rpatB at h; rcases Bool.or_eq_true _ _ ▸ h with h | h
  · exact .inr h
  · exact .inl h
theorem rmatch_name {p s : Str} (hp : isB p = true) : rmatchB p s = (isB s && p == s) := by
  unfold rmatchB; rw [star_false_of_name hp]; cases isB s <;> simp
theorem rmatch_star {p s : Str} (hp : starB p = true) : rmatchB p s = (isB s && belowB s (starOf p)) := by
  unfold rmatchB; rw [hp]; cases isB s <;> simp
theorem rwithin_name {p q : Str} (hp : isB p = true) (hq : rpatB q = true) : rwithinB p q = rmatchB q p := by
  unfold rwithinB; rw [star_false_of_name hp, hq]; unfold rpatB; rw [hp]; simp
theorem rwithin_star {p q : Str} (hp : starB p = true) (hq : rpatB q = true) : rwithinB p q = (starB q && (starOf p == starOf q || belowB (starOf p) (starOf q))) := by
  unfold rwithinB; rw [hp, hq]; unfold rpatB; rw [hp]; simp
theorem rwithin_pats {p q : Str} (h : rwithinB p q = true) : rpatB p = true ∧ rpatB q = true := by
  unfold rwithinB at h
  cases hp : rpatB p
  · rw [hp] at h; simp at h
  · cases hq : rpatB q
    · rw [hq] at h; simp at h
    · exact ⟨rfl, rfl⟩
theorem within_match {p q s : Str} (h : rwithinB p q = true) (hm : rmatchB p s = true) : rmatchB q s = true := by
  obtain ⟨hp, hq⟩ := rwithin_pats h
  rcases rpat_cases hp with hp | hp
  · rw [rmatch_name hp] at hm
    obtain ⟨_, e⟩ := Bool.and_eq_true _ _ ▸ hm
    rw [← beq_iff_eq.1 e, ← rwithin_name hp hq]; exact h
  · rw [rmatch_star hp] at hm
    obtain ⟨hs, hb⟩ := Bool.and_eq_true _ _ ▸ hm
    rw [rwithin_star hp hq] at h
    obtain ⟨hsq, hu⟩ := Bool.and_eq_true _ _ ▸ h
    rw [rmatch_star hsq, hs, Bool.true_and]
    rcases Bool.or_eq_true _ _ ▸ hu with hu | hu
    · rw [← beq_iff_eq.1 hu]; exact hb
    · exact below_trans hb hu
theorem label_x : labelB [120] = true ∧ labelB [121] = true := by decide
/-- Where a star is not within another pattern, the names of x or y ahead show it. -/
theorem within_shown {p q : Str} (hp : starB p = true) (hq : rpatB q = true) (h : rwithinB p q = false) :
    rmatchB p (120 :: p.drop 1) = true ∧ rmatchB p (121 :: p.drop 1) = true ∧ (rmatchB q (120 :: p.drop 1) = false ∨ rmatchB q (121 :: p.drop 1) = false) := by
  obtain ⟨a, rfl, ha⟩ := star_form hp
  have hne := (starOf_name hp).2
  rw [ha] at hne
  obtain ⟨x1, x2⟩ := star_one (c := 120) label_x.1 (by decide) hp
  obtain ⟨y1, y2⟩ := star_one (c := 121) label_x.2 (by decide) hp
  show rmatchB (42 :: 46 :: a) (120 :: 46 :: a) = true ∧ rmatchB (42 :: 46 :: a) (121 :: 46 :: a) = true ∧ (rmatchB q (120 :: 46 :: a) = false ∨ rmatchB q (121 :: 46 :: a) = false)
  refine ⟨?_, ?_, ?_⟩
  · rw [rmatch_star hp, x1, ha, Bool.true_and, below_up (by rw [x2]; exact hne), x2]; exact .inl rfl
  · rw [rmatch_star hp, y1, ha, Bool.true_and, below_up (by rw [y2]; exact hne), y2]; exact .inl rfl
  · rcases rpat_cases hq with hnq | hsq
    · rw [rmatch_name hnq, rmatch_name hnq]
      by_cases e : q = 120 :: 46 :: a
      · right; rw [e]; simp
      · left; rw [show (q == 120 :: 46 :: a) = false from by rw [beq_eq_false_iff_ne]; exact e, Bool.and_false]
    · left
      rw [rwithin_star hp hq, hsq, ha, Bool.true_and] at h
      rw [rmatch_star hsq, x1, Bool.true_and, Bool.eq_false_iff]
      intro hb
      rw [below_up (by rw [x2]; exact hne), x2] at hb
      rcases hb with hb | hb
      · rw [hb] at h; simp at h
      · rw [hb] at h; simp at h
theorem star_len {p : Str} (h : starB p = true) : 3 ≤ p.length := by
  unfold starB at h; simp only [Bool.and_eq_true, decide_eq_true_eq] at h; exact h.1.1.1.1.1
theorem match_pat {p s : Str} (h : rmatchB p s = true) : rpatB p = true := by
  unfold rpatB
  cases hp : starB p
  · unfold rmatchB at h; rw [hp] at h
    cases hs : isB s
    · rw [hs] at h; simp at h
    · rw [hs] at h; simp at h; rw [h, hs]; rfl
  · rfl
theorem match_meets {p q s : Str} (h1 : rmatchB p s = true) (h2 : rmatchB q s = true) : rwithinB p q = true ∨ rwithinB q p = true := by
  have hp := match_pat h1
  have hq := match_pat h2
  rcases rpat_cases hp with hnp | hsp
  · rw [rmatch_name hnp] at h1
    obtain ⟨_, e⟩ := Bool.and_eq_true _ _ ▸ h1
    left; rw [rwithin_name hnp hq, beq_iff_eq.1 e]; exact h2
  · rcases rpat_cases hq with hnq | hsq
    · rw [rmatch_name hnq] at h2
      obtain ⟨_, e⟩ := Bool.and_eq_true _ _ ▸ h2
      right; rw [rwithin_name hnq hp, beq_iff_eq.1 e]; exact h1
    · rw [rmatch_star hsp] at h1
      rw [rmatch_star hsq] at h2
      obtain ⟨_, b1⟩ := Bool.and_eq_true _ _ ▸ h1
      obtain ⟨_, b2⟩ := Bool.and_eq_true _ _ ▸ h2
      rcases below_chain b1 b2 with e | e | e
      · left; rw [rwithin_star hsp hq, hsq, e]; simp
      · left; rw [rwithin_star hsp hq, hsq, e]; simp
      · right; rw [rwithin_star hsq hp, hsp, e]; simp
/-- Where one is within the other there is a name that both match: itself, or x ahead of what it is a star of. -/
theorem within_name {p q : Str} (h : rwithinB p q = true) : (isB p = true ∧ rmatchB p p = true ∧ rmatchB q p = true) ∨
    (isB p = false ∧ 2 < p.length ∧ rmatchB p (120 :: p.drop 1) = true ∧ rmatchB q (120 :: p.drop 1) = true) := by
  obtain ⟨hp, hq⟩ := rwithin_pats h
  rcases rpat_cases hp with hnp | hsp
  · left; exact ⟨hnp, by rw [rmatch_name hnp, hnp]; simp, by rw [← rwithin_name hnp hq]; exact h⟩
  · right
    have hl := star_len hsp
    have hm : rmatchB p (120 :: p.drop 1) = true := by
      obtain ⟨a, rfl, ha⟩ := star_form hsp
      have hne := (starOf_name hsp).2
      rw [ha] at hne
      obtain ⟨x1, x2⟩ := star_one (c := 120) label_x.1 (by decide) hsp
      show rmatchB (42 :: 46 :: a) (120 :: 46 :: a) = true
      rw [rmatch_star hsp, x1, ha, Bool.true_and, below_up (by rw [x2]; exact hne), x2]; exact .inl rfl
    exact ⟨star_not_name hsp, by omega, hm, within_match h hm⟩
theorem within_refl (p : Str) : rwithinB p p = rpatB p := by
  cases hp : rpatB p
  · rw [Bool.eq_false_iff]; intro h; rw [(rwithin_pats h).1] at hp; cases hp
  · rcases rpat_cases hp with hnp | hsp
    · rw [rwithin_name hnp hp, rmatch_name hnp, hnp]; simp
    · rw [rwithin_star hsp hp, hsp]; simp
theorem within_trans {p q o : Str} (h1 : rwithinB p q = true) (h2 : rwithinB q o = true) : rwithinB p o = true := by
  obtain ⟨hp, hq⟩ := rwithin_pats h1
  obtain ⟨_, ho⟩ := rwithin_pats h2
  rcases rpat_cases hp with hnp | hsp
  · rw [rwithin_name hnp hq] at h1
    rw [rwithin_name hnp ho]
    exact within_match h2 h1
  · rw [rwithin_star hsp hq] at h1
    obtain ⟨hsq, u1⟩ := Bool.and_eq_true _ _ ▸ h1
    rw [rwithin_star hsq ho] at h2
    obtain ⟨hso, u2⟩ := Bool.and_eq_true _ _ ▸ h2
    rw [rwithin_star hsp ho, hso, Bool.true_and]
    rcases Bool.or_eq_true _ _ ▸ u1 with u1 | u1
    · rw [beq_iff_eq.1 u1]; exact u2
    · rcases Bool.or_eq_true _ _ ▸ u2 with u2 | u2
      · rw [← beq_iff_eq.1 u2, u1]; simp
      · rw [below_trans u1 u2]; simp
theorem within_anti {p q : Str} (h1 : rwithinB p q = true) (h2 : rwithinB q p = true) : p = q := by
  obtain ⟨hp, hq⟩ := rwithin_pats h1
  rcases rpat_cases hp with hnp | hsp
  · rcases rpat_cases hq with hnq | hsq
    · rw [rwithin_name hnp hq, rmatch_name hnq] at h1
      obtain ⟨_, e⟩ := Bool.and_eq_true _ _ ▸ h1
      exact (beq_iff_eq.1 e).symm
    · rw [rwithin_star hsq hp, star_false_of_name hnp] at h2; cases h2
  · rcases rpat_cases hq with hnq | hsq
    · rw [rwithin_star hsp hq, star_false_of_name hnq] at h1; cases h1
    · rw [rwithin_star hsp hq, hsq, Bool.true_and] at h1
      rw [rwithin_star hsq hp, hsp, Bool.true_and] at h2
      have e : starOf p = starOf q := by
        rcases Bool.or_eq_true _ _ ▸ h1 with u1 | u1
        · exact beq_iff_eq.1 u1
        · rcases Bool.or_eq_true _ _ ▸ h2 with u2 | u2
          · exact (beq_iff_eq.1 u2).symm
          · have a1 := (below_len u1).1; have a2 := (below_len u2).1; omega
      obtain ⟨a, rfl, ha⟩ := star_form hsp
      obtain ⟨b, rfl, hb⟩ := star_form hsq
      rw [ha, hb] at e; rw [e]
end Nam
end Go.Proofs.YtmdmbdbbpdojnaaGreatDoor
namespace Go.Proofs.YtmdmbdbbpdojnaaGreatDoor
namespace Pol
open Nam
/-- One pattern more, of rule i: who decides, by which pattern. -/
def dStep (nm : ByteArray) (i : Int) (st : Int × ByteArray) (p : ByteArray) : Int × ByteArray :=
  if rmatchB p.data.toList nm.data.toList && (decide (st.1 < 0) || (!(p.toList == st.2.toList) && rwithinB p.data.toList st.2.data.toList)) then (i, p) else st
/-- Of the first k rules. -/
def dUpTo (nm : ByteArray) (l : List Rul) : Nat → Int × ByteArray
  | 0 => (-1, ⟨#[]⟩)
  | k + 1 => match l[k]? with
    | none => dUpTo nm l k
    | some r => r.pats.foldl (dStep nm k) (dUpTo nm l k)
/-- The rule that decides of a name; -1: none. -/
def decidesB (l : List Rul) (nm : ByteArray) : Int := (dUpTo nm l l.length).1
/-- The first rule with a pattern. -/
def firstRul (l : List Rul) (p : ByteArray) : Option Nat := l.findIdx? fun r => memB r.pats p
/-- "*." ahead. -/
def starred (u : Str) : ByteArray := ⟨((42 : UInt8) :: 46 :: u).toArray⟩
def firstSome {α β : Type} (f : α → Option β) : List α → Option β
  | [] => none
  | x :: l => match f x with
    | some y => some y
    | none => firstSome f l
/-- The patterns that match a name, the nearest first: itself, stars of what is above. -/
def candsOf (nm : ByteArray) : List ByteArray := nm :: (aboveQ nm.data.toList).map starred
def candIdx (l : List Rul) (p : ByteArray) : Option Nat := if rpatB p.data.toList then firstRul l p else none
/-- What the program's decider tells of a name. -/
def decP (l : List Rul) (nm : ByteArray) : Int := match firstSome (candIdx l) (candsOf nm) with
  | some i => (i : Int)
  | none => -1
/-- WHAT DECIDES, BY WHAT IT MEANS: the first rule with the pattern that matches and is within all others that do. -/
def DecSpec (l : List Rul) (nm : ByteArray) (i : Int) : Prop :=
  (i = -1 ∧ ∀ r ∈ l, ∀ p ∈ r.pats, rmatchB p.data.toList nm.data.toList = false) ∨
  ∃ (k : Nat) (r : Rul) (p : ByteArray), i = (k : Int) ∧ l[k]? = some r ∧ p ∈ r.pats ∧ rmatchB p.data.toList nm.data.toList = true ∧
    (∀ r' ∈ l, ∀ q ∈ r'.pats, rmatchB q.data.toList nm.data.toList = true → rwithinB p.data.toList q.data.toList = true) ∧
    ∀ (j : Nat) (r' : Rul), j < k → l[j]? = some r' → p ∉ r'.pats
theorem DecSpec.unique {l : List Rul} {nm : ByteArray} {i j : Int} (h : DecSpec l nm i) (h' : DecSpec l nm j) : i = j := by
  rcases h with ⟨rfl, hn⟩ | ⟨k, r, p, rfl, hk, hp, hm, hw, hf⟩
  · rcases h' with ⟨rfl, _⟩ | ⟨k, r, p, rfl, hk, hp, hm, _, _⟩
    · rfl
    · have := hn r (List.mem_of_getElem? hk) p hp
      rw [hm] at this; cases this
  · rcases h' with ⟨rfl, hn⟩ | ⟨k', r', p', rfl, hk', hp', hm', hw', hf'⟩
    · have := hn r (List.mem_of_getElem? hk) p hp
      rw [hm] at this; cases this
    · have e : p = p' := bytes_eq (within_anti (hw r' (List.mem_of_getElem? hk') p' hp' hm') (hw' r (List.mem_of_getElem? hk) p hp hm))
      subst e
      rcases Nat.lt_trichotomy k k' with h | h | h
      · exact absurd hp (hf' k r h hk)
      · rw [h]
      · exact absurd hp' (hf k' r' h hk')
/-- The fold's invariant: l are the rules ahead, ps the patterns of rule k that have been seen. -/
def DInv (nm : ByteArray) (l : List Rul) (k : Nat) (ps : List ByteArray) (st : Int × ByteArray) : Prop :=
  (st.1 = -1 ∧ (∀ r ∈ l.take k, ∀ p ∈ r.pats, rmatchB p.data.toList nm.data.toList = false) ∧ ∀ p ∈ ps, rmatchB p.data.toList nm.data.toList = false) ∨
  ∃ (i : Nat), st.1 = (i : Int) ∧ ((i < k ∧ ∃ r, l[i]? = some r ∧ st.2 ∈ r.pats) ∨ (i = k ∧ st.2 ∈ ps)) ∧ rmatchB st.2.data.toList nm.data.toList = true ∧
    (∀ r ∈ l.take k, ∀ q ∈ r.pats, rmatchB q.data.toList nm.data.toList = true → rwithinB st.2.data.toList q.data.toList = true) ∧
    (∀ q ∈ ps, rmatchB q.data.toList nm.data.toList = true → rwithinB st.2.data.toList q.data.toList = true) ∧
    ∀ (j : Nat) (r' : Rul), j < i → l[j]? = some r' → st.2 ∉ r'.pats
theorem DInv.step {nm : ByteArray} {l : List Rul} {k : Nat} {ps : List ByteArray} {st : Int × ByteArray} (h : DInv nm l k ps st) (p : ByteArray) : DInv nm l k (ps ++ [p]) (dStep nm k st p) := by
  unfold dStep
  cases hm : rmatchB p.data.toList nm.data.toList
  · rw [Bool.false_and, if_neg (by simp)]
    rcases h with ⟨h1, h2, h3⟩ | ⟨i, h1, h2, h3, h4, h5, h6⟩
    · refine .inl ⟨h1, h2, fun q hq => ?_⟩
      rcases List.mem_append.1 hq with hq | hq
      · exact h3 q hq
      · rw [List.mem_singleton] at hq; subst hq; exact hm
    · refine .inr ⟨i, h1, ?_, h3, h4, fun q hq hqm => ?_, h6⟩
      · rcases h2 with h2 | h2
        · exact .inl h2
        · exact .inr ⟨h2.1, List.mem_append_left _ h2.2⟩
      · rcases List.mem_append.1 hq with hq | hq
        · exact h5 q hq hqm
        · rw [List.mem_singleton] at hq; subst hq; rw [hm] at hqm; cases hqm
  · rw [Bool.true_and]
    rcases h with ⟨h1, h2, h3⟩ | ⟨i, h1, h2, h3, h4, h5, h6⟩
    · rw [show decide (st.1 < 0) = true by rw [h1]; rfl, Bool.true_or, if_pos rfl]
      have hrf : rwithinB p.data.toList p.data.toList = true := by rw [within_refl]; exact match_pat hm
      refine .inr ⟨k, rfl, .inr ⟨rfl, by simp⟩, hm, fun r hr q hq hqm => ?_, fun q hq hqm => ?_, fun j r' hj hr' hp => ?_⟩
      · rw [h2 r hr q hq] at hqm; cases hqm
      · rcases List.mem_append.1 hq with hq | hq
        · rw [h3 q hq] at hqm; cases hqm
        · rw [List.mem_singleton] at hq; subst hq; exact hrf
      · have := h2 r' (List.mem_of_getElem? (i := j) (by rw [List.getElem?_take, if_pos hj]; exact hr')) p hp
        rw [hm] at this; cases this
    · rw [show decide (st.1 < 0) = false by rw [h1]; simp, Bool.false_or]
      have hik : i ≤ k := by rcases h2 with h2 | h2 <;> omega
      by_cases hc : (!(p.toList == st.2.toList) && rwithinB p.data.toList st.2.data.toList) = true
      · rw [if_pos hc]
        rw [Bool.and_eq_true] at hc
        obtain ⟨hne, hwi⟩ := hc
        have hne' : p ≠ st.2 := fun e => by rw [e] at hne; simp at hne
        have tr : ∀ q : ByteArray, rwithinB st.2.data.toList q.data.toList = true → rwithinB p.data.toList q.data.toList = true := fun q hq => within_trans hwi hq
        refine .inr ⟨k, rfl, .inr ⟨rfl, by simp⟩, hm, fun r hr q hq hqm => tr q (h4 r hr q hq hqm), fun q hq hqm => ?_, fun j r' hj hr' hp => ?_⟩
        · rcases List.mem_append.1 hq with hq | hq
          · exact tr q (h5 q hq hqm)
          · rw [List.mem_singleton] at hq; subst hq; rw [within_refl]; exact match_pat hm
        · have := h4 r' (List.mem_of_getElem? (i := j) (by rw [List.getElem?_take, if_pos hj]; exact hr')) p hp hm
          exact hne' (bytes_eq (within_anti hwi this))
      · rw [if_neg hc]
        refine .inr ⟨i, h1, ?_, h3, h4, fun q hq hqm => ?_, h6⟩
        · rcases h2 with h2 | h2
          · exact .inl h2
          · exact .inr ⟨h2.1, List.mem_append_left _ h2.2⟩
        · rcases List.mem_append.1 hq with hq | hq
          · exact h5 q hq hqm
          · rw [List.mem_singleton] at hq; subst hq
            rw [Bool.and_eq_true, not_and] at hc
            by_cases e : q = st.2
            · rw [e, within_refl]; exact match_pat h3
            · have hne : (!(q.toList == st.2.toList)) = true := by
                rw [Bool.not_eq_true', beq_eq_false_iff_ne, Lib.toList_data, Lib.toList_data]
                exact fun hh => e (bytes_eq hh)
              rcases match_meets hqm h3 with hh | hh
              · exact absurd hh (hc hne)
              · exact hh
theorem DInv.fold {nm : ByteArray} {l : List Rul} {k : Nat} : ∀ (qs : List ByteArray) {ps : List ByteArray} {st : Int × ByteArray}, DInv nm l k ps st → DInv nm l k (ps ++ qs) (qs.foldl (dStep nm k) st)
  | [], ps, st, h => by simpa using h
  | q :: qs, ps, st, h => by
    have := DInv.fold qs (h.step q)
    rw [List.append_assoc] at this
    exact this
theorem DInv.next {nm : ByteArray} {l : List Rul} {k : Nat} {r : Rul} {st : Int × ByteArray} (hr : l[k]? = some r) (h : DInv nm l k r.pats st) : DInv nm l (k + 1) [] st := by
  have ht : l.take (k + 1) = l.take k ++ [r] := by rw [List.take_add_one, hr]; rfl
  rcases h with ⟨h1, h2, h3⟩ | ⟨i, h1, h2, h3, h4, h5, h6⟩
  · refine .inl ⟨h1, fun r' hr' => ?_, by simp⟩
    rw [ht] at hr'
    rcases List.mem_append.1 hr' with hr' | hr'
    · exact h2 r' hr'
    · rw [List.mem_singleton] at hr'; subst hr'; exact h3
  · refine .inr ⟨i, h1, .inl ?_, h3, fun r' hr' => ?_, by simp, h6⟩
    · rcases h2 with ⟨a, b⟩ | ⟨a, b⟩
      · exact ⟨by omega, b⟩
      · exact ⟨by omega, r, by rw [a]; exact hr, b⟩
    · rw [ht] at hr'
      rcases List.mem_append.1 hr' with hr' | hr'
      · exact h4 r' hr'
      · rw [List.mem_singleton] at hr'; subst hr'; exact h5
theorem dUpTo_inv (nm : ByteArray) (l : List Rul) : ∀ (k : Nat), k ≤ l.length → DInv nm l k [] (dUpTo nm l k)
  | 0, _ => .inl ⟨rfl, by simp, by simp⟩
  | k + 1, h => by
    have hr : l[k]? = some (l[k]'(by omega)) := List.getElem?_eq_getElem (by omega)
    have ih := dUpTo_inv nm l k (by omega)
    rw [dUpTo, hr]
    have := DInv.fold (l[k]'(by omega)).pats ih
    rw [List.nil_append] at this
    exact DInv.next hr this
theorem decidesB_spec (l : List Rul) (nm : ByteArray) : DecSpec l nm (decidesB l nm) := by
  have h := dUpTo_inv nm l l.length (Nat.le_refl _)
  unfold decidesB
  rcases h with ⟨h1, h2, _⟩ | ⟨i, h1, h2, h3, h4, _, h6⟩
  · rw [List.take_length] at h2
    exact .inl ⟨h1, h2⟩
  · rw [List.take_length] at h4
    rcases h2 with ⟨_, r, hr, hp⟩ | ⟨_, hp⟩
    · exact .inr ⟨i, r, _, h1, hr, hp, h3, h4, h6⟩
    · cases hp
theorem firstRul_some {l : List Rul} {p : ByteArray} {i : Nat} (h : firstRul l p = some i) : (∃ r, l[i]? = some r ∧ p ∈ r.pats) ∧ ∀ (j : Nat) (r' : Rul), j < i → l[j]? = some r' → p ∉ r'.pats := by
  unfold firstRul at h
  rw [List.findIdx?_eq_some_iff_getElem] at h
  obtain ⟨hlt, h1, h2⟩ := h
  refine ⟨⟨l[i], List.getElem?_eq_getElem hlt, memB_iff.1 h1⟩, fun j r' hj hr' hp => ?_⟩
  obtain ⟨hjl, rfl⟩ := List.getElem?_eq_some_iff.1 hr'
  have := h2 j hj
  rw [memB_iff.2 hp] at this; simp at this
theorem firstRul_none {l : List Rul} {p : ByteArray} (h : firstRul l p = none) : ∀ r ∈ l, p ∉ r.pats := by
  unfold firstRul at h
  rw [List.findIdx?_eq_none_iff] at h
  intro r hr hp
  have := h r hr
  rw [memB_iff.2 hp] at this; cases this
theorem firstSome_spec {α β : Type} {f : α → Option β} : ∀ {l : List α} {y : β}, firstSome f l = some y → ∃ (a b : List α) (x : α), l = a ++ x :: b ∧ f x = some y ∧ ∀ z ∈ a, f z = none
  | [], _, h => by simp [firstSome] at h
  | x :: l, y, h => by
    unfold firstSome at h
    split at h
    · rename_i hx; cases h; exact ⟨[], l, x, rfl, hx, by simp⟩
    · rename_i hx
      obtain ⟨a, b, x', h1, h2, h3⟩ := firstSome_spec h
      refine ⟨x :: a, b, x', by rw [h1]; rfl, h2, fun z hz => ?_⟩
      rcases List.mem_cons.1 hz with rfl | hz
      · exact hx
      · exact h3 z hz
theorem firstSome_none {α β : Type} {f : α → Option β} : ∀ {l : List α}, firstSome f l = none → ∀ z ∈ l, f z = none
  | [], _ => by simp
  | x :: l, h => by
    unfold firstSome at h
    split at h
    · cases h
    · rename_i hx
      intro z hz
      rcases List.mem_cons.1 hz with rfl | hz
      · exact hx
      · exact firstSome_none h z hz
theorem starred_data (u : Str) : (starred u).data.toList = 42 :: 46 :: u := rfl
/-- The patterns that match a name are its candidates. -/
theorem match_cand {p nm : ByteArray} (h : rmatchB p.data.toList nm.data.toList = true) : p ∈ candsOf nm := by
  have hp := match_pat h
  unfold candsOf
  rcases rpat_cases hp with hn | hs
  · rw [rmatch_name hn] at h
    rw [Bool.and_eq_true, beq_iff_eq] at h
    rw [bytes_eq h.2]; simp
  · rw [rmatch_star hs, Bool.and_eq_true] at h
    obtain ⟨a, ha, hb⟩ := star_form hs
    rw [hb] at h
    refine List.mem_cons_of_mem _ (List.mem_map.2 ⟨a, belowB_mem.1 h.2, ?_⟩)
    exact bytes_eq (by rw [starred_data, ha])
theorem cand_match {p nm : ByteArray} (hs : isB nm.data.toList = true) (h : p ∈ candsOf nm) (hp : rpatB p.data.toList = true) : rmatchB p.data.toList nm.data.toList = true := by
  unfold candsOf at h
  rcases List.mem_cons.1 h with rfl | h
  · rw [rmatch_name hs, hs]; simp
  · obtain ⟨a, ha, rfl⟩ := List.mem_map.1 h
    rcases rpat_cases hp with hn | hst
    · rw [starred_data] at hn
      have := isB_star (46 :: a)
      rw [hn] at this; cases this
    · rw [rmatch_star hst, hs, Bool.true_and]
      obtain ⟨b, hb, hb2⟩ := star_form hst
      rw [starred_data] at hb
      cases hb
      rw [hb2]; exact belowB_mem.2 ha
/-- Of two candidates the one ahead is within the other. -/
theorem above_pairwise : ∀ (n : Nat) (s : Str), s.length < n → (aboveQ s).Pairwise fun a b => b ∈ aboveQ a
  | 0, _, h => absurd h (Nat.not_lt_zero _)
  | n + 1, s, h => by
    by_cases hu : up s = []
    · rw [aboveQ_end hu]; exact List.Pairwise.nil
    · rw [aboveQ_step hu]
      have := up_lt s hu
      exact List.pairwise_cons.2 ⟨fun b hb => hb, above_pairwise n (up s) (by omega)⟩
theorem cands_within {nm : ByteArray} {a b : List ByteArray} {p q : ByteArray} (hs : isB nm.data.toList = true) (h : candsOf nm = a ++ p :: b) (hq : q ∈ b) (hp : rpatB p.data.toList = true) (hqp : rpatB q.data.toList = true) : rwithinB p.data.toList q.data.toList = true := by
  unfold candsOf at h
  cases a with
  | nil =>
    rw [List.nil_append] at h
    injection h with h1 h2
    subst h1
    rw [rwithin_name hs hqp]
    refine cand_match hs ?_ hqp
    unfold candsOf; rw [h2]; exact List.mem_cons_of_mem _ hq
  | cons x a =>
    injection h with h1 h2
    have hpw := above_pairwise _ nm.data.toList (Nat.lt_succ_self _)
    obtain ⟨c, d, hc, hca, hcb⟩ := List.map_eq_append_iff.1 h2
    obtain ⟨u, e, rfl, hu, he⟩ := List.map_eq_cons_iff.1 hcb
    subst hu he
    obtain ⟨v, hv, rfl⟩ := List.mem_map.1 hq
    rw [hc] at hpw
    have huv : v ∈ aboveQ u := (List.pairwise_cons.1 (List.pairwise_append.1 hpw).2.1).1 v hv
    have stars : ∀ (t : Str), rpatB (starred t).data.toList = true → starB (42 :: 46 :: t) = true ∧ starOf (42 :: 46 :: t) = t := fun t ht => by
      rw [starred_data] at ht
      rcases rpat_cases ht with hn | hst
      · rw [isB_star] at hn; cases hn
      · obtain ⟨b, hb, hb2⟩ := star_form hst
        cases hb
        exact ⟨hst, hb2⟩
    obtain ⟨s1, s2⟩ := stars u hp
    obtain ⟨s3, s4⟩ := stars v hqp
    rw [starred_data, starred_data] at *
    rw [rwithin_star s1 (by unfold rpatB; rw [s3]; rfl), s3, s2, s4, belowB_mem.2 huv]; simp
theorem candIdx_some {l : List Rul} {p : ByteArray} {i : Nat} (h : candIdx l p = some i) : rpatB p.data.toList = true ∧ firstRul l p = some i := by
  unfold candIdx at h
  split at h
  · rename_i hp; exact ⟨hp, h⟩
  · cases h
theorem decP_spec {l : List Rul} {nm : ByteArray} (hs : isB nm.data.toList = true) : DecSpec l nm (decP l nm) := by
  unfold decP
  cases h : firstSome (candIdx l) (candsOf nm) with
  | none =>
    refine .inl ⟨rfl, fun r hr p hp => ?_⟩
    rw [Bool.eq_false_iff]; intro hm
    have := firstSome_none h p (match_cand hm)
    unfold candIdx at this
    rw [if_pos (match_pat hm)] at this
    exact firstRul_none this r hr hp
  | some i =>
    obtain ⟨a, b, p, h1, h2, h3⟩ := firstSome_spec h
    obtain ⟨hp, hf⟩ := candIdx_some h2
    obtain ⟨⟨r, hr, hpr⟩, hfst⟩ := firstRul_some hf
    refine .inr ⟨i, r, p, rfl, hr, hpr, cand_match hs (by rw [h1]; simp) hp, fun r' hr' q hq hqm => ?_, hfst⟩
    have hc := match_cand hqm
    rw [h1] at hc
    rcases List.mem_append.1 hc with hc | hc
    · have := h3 q hc
      unfold candIdx at this
      rw [if_pos (match_pat hqm)] at this
      exact absurd hq (firstRul_none this r' hr')
    · rcases List.mem_cons.1 hc with rfl | hc
      · rw [within_refl]; exact hp
      · exact cands_within hs h1 hc hp (match_pat hqm)
/-- THE PROGRAM's DECIDER IS THE DOCUMENT's. -/
theorem decP_eq {l : List Rul} {nm : ByteArray} (hs : isB nm.data.toList = true) : decP l nm = decidesB l nm := (decP_spec hs).unique (decidesB_spec l nm)
end Pol
end Go.Proofs.YtmdmbdbbpdojnaaGreatDoor
