/- Walks of the document's functions on rules: Check, Texts. Walks of the document's functions on rules: Few. Walks of the program's functions on rules: named, formed. -/
import Derived.Test.YteemkkmkkgfofaaGreatDoorM09
import Derived.Shelf.Strings.SlTrimAscii
namespace Go.Proofs.YteemkkmkkgfofaaGreatDoor
open Go.RowKit Nam Pol
attribute [local go_sem] gv_of

set_option maxRecDepth 100000 in
set_option maxHeartbeats 4000000 in
theorem r15Check_any (l : List Rul) (a : Option Addr) (cap n : Nat) (w : World) (hn : l.length = n) (hnc : n ≤ cap) (hcm : cap ≤ maxLen) (hl : Ruls w a l) :
    Calls Tryz.prog 13 #[.slice a n cap] w (Ret (.int .i64 (checkE l)) w) := by
  unfold maxLen at hcm
  have HN := Lib.hid hn; have HL := Lib.hid hl; clear hn hl
  go_enter Tryz.func13, Tryz.ntmps13
  go_wp2_with fail
  go_loopw [3] (fun i wr => ∃ k : Nat, k ≤ n ∧ i = .int .i64 k ∧ rulesOk [] (l.take k) = true ∧ Ext w wr) (fun i _ => n - (intOf i).toNat)
  case atStart => exact ⟨0, Nat.zero_le _, rfl, rfl, Below.refl _ _⟩
  case round =>
    obtain ⟨k, hk, rfl, hp, hEr⟩ := hrel
    have HP := Lib.hid hp; clear hp
    by_cases hlt : k < n
    · obtain ⟨r, hr⟩ := get_some HN.out hlt
      obtain ⟨b, off, rfl, d0, d1, ⟨pa, pc, d2, l1, l2, hps⟩, d3, d4, d5, d6, hs, _⟩ := (HL.out.ext hEr) k r hr
      have HT := Lib.hid (rulesOk_take hr)
      have HLR : Hid (Ruls wr (some ⟨b, off, none⟩) l) := Lib.hid (HL.out.ext hEr)
      have HPS := Lib.hid hps; have HSZ := Lib.hid hs; have L2 := Lib.hid l2
      have HER := Lib.hid hEr
      have hkc : k ≤ cap := by omega
      have HLK := Lib.hid (show (l.take k).length = k by rw [List.length_take, HN.out]; omega)
      clear hr hEr hps hs
      unfold maxLen at l2
      go_wp2_with fail
      refine wp_region_S (by kernel_rfl) (by kernel_rfl) (by kernel_rfl) (by kernel_rfl) (by kernel_rfl) (fun w' => Ext wr w') ((Fr.drew (fun _ => False) _).ext (fun _ _ h => h)) ?_
      repeat
        first
        | (refine steps_and rfl rfl rfl rfl ?_; simp only [Act.put, List.setIfInBounds_toArray, List.set_cons_succ, List.set_cons_zero])
        | (refine steps_or rfl rfl rfl rfl ?_; simp only [Act.put, List.setIfInBounds_toArray, List.set_cons_succ, List.set_cons_zero])
        | (refine steps_skip rfl ?_; simp only [Act.put, List.setIfInBounds_toArray, List.set_cons_succ, List.set_cons_zero])
        | (refine steps_guard_and rfl rfl rfl rfl rfl ?_; simp only [Act.put, List.setIfInBounds_toArray, List.set_cons_succ, List.set_cons_zero])
        | (refine steps_guard (v := ?_) rfl rfl (fun hb w' hS => ?_) ?_; rotate_left; (focus (have e0 := ext_cell d0 hS; have e1 := ext_cell d1 hS; have e2 := ext_cell d2 hS; have e3 := ext_cell d3 hS; have e4 := ext_cell d4 hS; have e5 := ext_cell d5 hS; have e6 := ext_cell d6 hS; unfold Gives; go_simp; first | exact is_mk hS | (refine (Form_any r pa pc _ l1 L2.out (HPS.out.ext hS) HSZ.out).mono ?_; rintro e w'' ⟨rfl, h2⟩; exact gave_mk (ext_trans hS h2)) | (refine (r15named_any (l.take k) r.name _ cap k _ HLK.out (by unfold maxLen; omega) ((HLR.out.ext hS).take k)).mono ?_; rintro e w'' ⟨rfl, rfl⟩; exact gave_mk hS))); simp only [Act.put, List.setIfInBounds_toArray, List.set_cons_succ, List.set_cons_zero])
        | (refine steps_guard2 (v := ?_) rfl rfl rfl (fun hb1 hb w' hS => ?_) ?_; rotate_left; (focus (have e0 := ext_cell d0 hS; have e1 := ext_cell d1 hS; have e2 := ext_cell d2 hS; have e3 := ext_cell d3 hS; have e4 := ext_cell d4 hS; have e5 := ext_cell d5 hS; have e6 := ext_cell d6 hS; unfold Gives; go_simp; first | exact is_mk hS | (refine (Form_any r pa pc _ l1 L2.out (HPS.out.ext hS) HSZ.out).mono ?_; rintro e w'' ⟨rfl, h2⟩; exact gave_mk (ext_trans hS h2)) | (refine (r15named_any (l.take k) r.name _ cap k _ HLK.out (by unfold maxLen; omega) ((HLR.out.ext hS).take k)).mono ?_; rintro e w'' ⟨rfl, rfl⟩; exact gave_mk hS))); simp only [Act.put, List.setIfInBounds_toArray, List.set_cons_succ, List.set_cons_zero])
        | (refine steps_run (v := ?_) rfl (fun w' hS => ?_) ?_; rotate_left; (focus (have e0 := ext_cell d0 hS; have e1 := ext_cell d1 hS; have e2 := ext_cell d2 hS; have e3 := ext_cell d3 hS; have e4 := ext_cell d4 hS; have e5 := ext_cell d5 hS; have e6 := ext_cell d6 hS; unfold Gives; go_simp; first | exact is_mk hS | (refine (Form_any r pa pc _ l1 L2.out (HPS.out.ext hS) HSZ.out).mono ?_; rintro e w'' ⟨rfl, h2⟩; exact gave_mk (ext_trans hS h2)) | (refine (r15named_any (l.take k) r.name _ cap k _ HLK.out (by unfold maxLen; omega) ((HLR.out.ext hS).take k)).mono ?_; rintro e w'' ⟨rfl, rfl⟩; exact gave_mk hS))); simp only [Act.put, List.setIfInBounds_toArray, List.set_cons_succ, List.set_cons_zero])
      refine steps_end fun w' hE' => ?_
      cases hq : (!formB r || memB ((l.take k).map (·.name)) r.name)
      · have HQ := Lib.hid (show rulesOk [] (l.take (k + 1)) = true by
          rw [HT.out, HP.out]
          simp only [Bool.or_eq_false_iff, Bool.not_eq_false'] at hq
          rw [hq.1, hq.2]; rfl)
        clear hq
        go_wp2_with fail
        go_roundw
        case rel => exact ⟨k + 1, by omega, by go_num, HQ.out, ext_trans HER.out hE'⟩
        case measure => simp [intOf]; omega
      · have HQ := Lib.hid (show checkE l = 1 by
          have : rulesOk [] (l.take (k + 1)) = false := by
            rw [HT.out, HP.out]
            simp only [Bool.or_eq_true, Bool.not_eq_true'] at hq
            rcases hq with h | h <;> rw [h] <;> simp
          unfold checkE; rw [rulesOk_false this]; rfl)
        clear hq
        go_wp2_with fail
        all_goals
          go_ret
          exact ⟨ret_int HQ.out.symm, ext_trans HER.out hE'⟩
    · obtain rfl : k = n := by omega
      have hpo : rulesOk [] l = true := by have := HP.out; rwa [← HN.out, List.take_length] at this
      have HFB := Lib.hid (show checkE l = if k ≤ 32 then 0 else 2 by unfold checkE; rw [hpo, HN.out]; rfl)
      by_cases h32 : k ≤ 32
      · have t : decide ((32 : Int) < k) = false := by simp; omega
        go_wp2_with fail
        go_ret
        exact ⟨ret_int (by rw [HFB.out, if_pos h32]), hEr⟩
      · have t : decide ((32 : Int) < k) = true := by simp; omega
        go_wp2_with fail
        go_ret
        exact ⟨ret_int (by rw [HFB.out, if_neg h32]), hEr⟩
set_option maxRecDepth 100000 in
set_option maxHeartbeats 2000000 in
theorem Texts_any (l m : List ByteArray) (a c : Option Addr) (cap1 cap2 n1 n2 : Nat) (w : World) (h1 : l.length = n1) (h2 : m.length = n2) (hm1 : n1 ≤ maxLen) (hm2 : n2 ≤ maxLen) (hl : Strs w a l) (hc : Strs w c m) :
    Calls Tryz.prog 25 #[.slice a n1 cap1, .slice c n2 cap2] w (Ret (.bool (decide (l = m))) w) := by
  unfold maxLen at hm1 hm2
  have N1 := Lib.hid h1; have N2 := Lib.hid h2; have HL := Lib.hid hl; have HC := Lib.hid hc; clear h1 h2 hl hc
  by_cases hne : n1 = n2
  rotate_left 1
  · have t : ((n1 : Int) != n2) = true := by rw [bne_iff_ne]; omega
    have HF := Lib.hid (show decide (l = m) = false by rw [decide_eq_false_iff_not]; intro e; exact hne (by rw [← N1.out, ← N2.out, e]))
    clear hne
    go_enter Tryz.func25, Tryz.ntmps25
    go_wp2_with fail
    go_ret
    exact ⟨ret_bool HF.out.symm, Below.refl _ _⟩
  · subst hne
    have t : ((n1 : Int) != n1) = false := by simp
    go_enter Tryz.func25, Tryz.ntmps25
    go_wp2_with fail
    go_loopw [5] (fun i wr => ∃ k : Nat, k ≤ n1 ∧ i = .int .i64 k ∧ l.take k = m.take k ∧ Ext w wr) (fun i _ => n1 - (intOf i).toNat)
    case atStart => exact ⟨0, Nat.zero_le _, rfl, rfl, Below.refl _ _⟩
    case round =>
      obtain ⟨k, hk, rfl, he, hEr⟩ := hrel
      have HEQ := Lib.hid he; clear he
      by_cases hlt : k < n1
      · obtain ⟨x, hx⟩ := get_some N1.out hlt
        obtain ⟨y, hy⟩ := get_some N2.out hlt
        obtain ⟨b, off, rfl, d0, _⟩ := (HL.out.ext hEr) k x hx
        obtain ⟨b', off', rfl, e0, _⟩ := (HC.out.ext hEr) k y hy
        rw [Nat.mul_one] at d0 e0
        have HX := Lib.hid hx; have HY := Lib.hid hy; have HER := Lib.hid hEr
        clear hx hy hEr
        go_wp2_with fail
        refine wp_region_S (by kernel_rfl) (by kernel_rfl) (by kernel_rfl) (by kernel_rfl) (by kernel_rfl) (fun w' => Ext wr w') ((Fr.drew (fun _ => False) _).ext (fun _ _ h => h)) ?_
        repeat
          first
          | (refine steps_and rfl rfl rfl rfl ?_; simp only [Act.put, List.setIfInBounds_toArray, List.set_cons_succ, List.set_cons_zero])
          | (refine steps_or rfl rfl rfl rfl ?_; simp only [Act.put, List.setIfInBounds_toArray, List.set_cons_succ, List.set_cons_zero])
          | (refine steps_skip rfl ?_; simp only [Act.put, List.setIfInBounds_toArray, List.set_cons_succ, List.set_cons_zero])
          | (refine steps_guard_and rfl rfl rfl rfl rfl ?_; simp only [Act.put, List.setIfInBounds_toArray, List.set_cons_succ, List.set_cons_zero])
          | (refine steps_guard (v := ?_) rfl rfl (fun hb w' hS => ?_) ?_; rotate_left; (focus (have f0 := ext_cell d0 hS; have f1 := ext_cell e0 hS; unfold Gives; go_simp; first | exact is_mk hS)); simp only [Act.put, List.setIfInBounds_toArray, List.set_cons_succ, List.set_cons_zero])
          | (refine steps_guard2 (v := ?_) rfl rfl rfl (fun hb1 hb w' hS => ?_) ?_; rotate_left; (focus (have f0 := ext_cell d0 hS; have f1 := ext_cell e0 hS; unfold Gives; go_simp; first | exact is_mk hS)); simp only [Act.put, List.setIfInBounds_toArray, List.set_cons_succ, List.set_cons_zero])
          | (refine steps_run (v := ?_) rfl (fun w' hS => ?_) ?_; rotate_left; (focus (have f0 := ext_cell d0 hS; have f1 := ext_cell e0 hS; unfold Gives; go_simp; first | exact is_mk hS)); simp only [Act.put, List.setIfInBounds_toArray, List.set_cons_succ, List.set_cons_zero])
        refine steps_end fun w' hE' => ?_
        cases hq : (x.toList == y.toList)
        · have HQ := Lib.hid (show decide (l = m) = false by
            rw [decide_eq_false_iff_not]; intro e
            have h1 := HX.out; have h2 := HY.out
            rw [e, h2] at h1; cases h1
            simp at hq)
          clear hq
          go_wp2_with fail
          go_ret
          exact ⟨ret_bool HQ.out.symm, ext_trans HER.out hE'⟩
        · have HQ := Lib.hid (show l.take (k + 1) = m.take (k + 1) by
            have e : x = y := by
              have := beq_iff_eq.1 hq
              rw [Lib.toList_data, Lib.toList_data] at this
              exact bytes_eq this
            rw [take_snoc HX.out, take_snoc HY.out, HEQ.out, e])
          clear hq
          go_wp2_with fail
          go_roundw
          case rel => exact ⟨k + 1, by omega, by go_num, HQ.out, ext_trans HER.out hE'⟩
          case measure => simp [intOf]; omega
      · obtain rfl : k = n1 := by omega
        have HQ := Lib.hid (show decide (l = m) = true by
          have := HEQ.out
          rw [List.take_of_length_le (by rw [N1.out]; exact Nat.le_refl _), List.take_of_length_le (by rw [N2.out]; exact Nat.le_refl _)] at this
          simpa using this)
        go_wp2_with fail
        go_ret
        exact ⟨ret_bool HQ.out.symm, hEr⟩
end Go.Proofs.YteemkkmkkgfofaaGreatDoor
namespace Go.Proofs.YteemkkmkkgfofaaGreatDoor
open Go.RowKit Nam Pol
attribute [local go_sem] gv_of

set_option maxRecDepth 100000 in
set_option maxHeartbeats 4000000 in
theorem Few_any (l : List Rul) (a : Option Addr) (cap n : Nat) (w : World) (hn : l.length = n) (hnc : n ≤ cap) (hcm : cap ≤ maxLen) (hl : Ruls w a l) :
    Calls Tryz.prog 11 #[.slice a n cap] w fun e w' => e = .returned (.bool (fewB l)) ∧ w = w' := by
  have hcm' : n ≤ 9223372036854775807 := by unfold maxLen at hcm; omega
  clear hcm hnc
  have HN := Lib.hid hn; have HL := Lib.hid hl; clear hn hl
  go_enter Tryz.func11, Tryz.ntmps11
  go_wp2_with fail
  go_loop [3] (fun i => ∃ k : Nat, k ≤ n ∧ k ≤ 40 ∧ i = .int .i64 k ∧ (l.take k).all ruleFew = true) (fun i => 40 - (intOf i).toNat)
  case atStart => exact ⟨0, Nat.zero_le _, by omega, rfl, rfl⟩
  case round =>
    obtain ⟨k, hk, hk40, rfl, hp⟩ := hrel
    have HP := Lib.hid hp; clear hp
    by_cases hlt : k < n
    · by_cases h40 : k < 40
      · obtain ⟨r, hr⟩ := get_some HN.out hlt
        obtain ⟨b, off, rfl, d0, d1, ⟨pa, pc, d2, l1, l2, hps⟩, d3, d4, d5, d6, hs, _⟩ := HL.out k r hr
        have HF := Lib.hid (fun h => fewB_false hr h40 h)
        have HT := Lib.hid (all_take_snoc hr ruleFew)
        have HPS := Lib.hid hps
        unfold maxLen at l2 hs
        clear hr hps
        obtain ⟨np, hnp⟩ : ∃ m, r.pats.length = m := ⟨_, rfl⟩
        have NP := Lib.hid hnp
        rw [hnp] at d2 l1
        clear hnp
        cases h1 : decide ((12 : Int) < np)
        · cases h2 : decide ((100 : Int) < r.name.size)
          · go_wp2_with fail
            go_loop [4] (fun i => ∃ j : Nat, j ≤ np ∧ i = .int .i64 j ∧ (r.pats.take j).all (fun p => decide (p.size ≤ 200)) = true) (fun i => np - (intOf i).toNat)
            case atStart => exact ⟨0, Nat.zero_le _, rfl, rfl⟩
            case round =>
              obtain ⟨j, hj, rfl, hq⟩ := hrel
              have HQ := Lib.hid hq; clear hq
              by_cases hlj : j < np
              · obtain ⟨p, hp⟩ := get_some NP.out hlj
                obtain ⟨b', off', rfl, c0, _⟩ := HPS.out j p hp
                rw [Nat.mul_one] at c0
                have HT2 := Lib.hid (all_take_snoc hp (fun p => decide (p.size ≤ 200)))
                have HM := Lib.hid (List.mem_of_getElem? hp)
                clear hp
                cases h3 : decide ((200 : Int) < p.size)
                · have HQ2 := Lib.hid (show (r.pats.take (j + 1)).all (fun p => decide (p.size ≤ 200)) = true by
                    rw [HT2.out, HQ.out]; simp at h3 ⊢; omega)
                  go_wp2_with fail
                  go_round
                  case rel => exact ⟨j + 1, by omega, by go_num, HQ2.out⟩
                  case measure => simp [intOf]; omega
                · have HQ2 := Lib.hid (show fewB l = false by
                    refine HF.out ?_
                    unfold ruleFew
                    rw [Bool.and_eq_false_iff]; right
                    rw [Bool.eq_false_iff]; intro hh
                    have := List.all_eq_true.1 hh p HM.out
                    simp at h3 this; omega)
                  go_wp2_with fail
                  go_ret
                  exact ⟨ret_bool HQ2.out.symm, rfl⟩
              · obtain rfl : j = np := by omega
                have HQ2 := Lib.hid (show (l.take (k + 1)).all ruleFew = true by
                  have h := HQ.out
                  rw [← NP.out, List.take_length] at h
                  rw [HT.out, HP.out]
                  unfold ruleFew
                  rw [h, NP.out]
                  simp at h1 h2 ⊢; omega)
                go_wp2_with fail
                go_round
                case rel => exact ⟨k + 1, by omega, by omega, by go_num, HQ2.out⟩
                case measure => simp [intOf]; omega
          · have HQ := Lib.hid (show fewB l = false by
              refine HF.out ?_
              unfold ruleFew
              rw [show decide (r.name.size ≤ 100) = false by simp at h2 ⊢; omega]; simp)
            go_wp2_with fail
            go_ret
            exact ⟨ret_bool HQ.out.symm, rfl⟩
        · have HQ := Lib.hid (show fewB l = false by
            refine HF.out ?_
            unfold ruleFew
            rw [NP.out, show decide (np ≤ 12) = false by simp at h1 ⊢; omega]; simp)
          go_wp2_with fail
          go_ret
          exact ⟨ret_bool HQ.out.symm, rfl⟩
      · have HQ := Lib.hid (show fewB l = false by
          unfold fewB; rw [HN.out, show decide (n ≤ 40) = (n ≤ 40 : Bool) from rfl]
          by_cases h : n ≤ 40
          · exfalso; omega
          · simp [h])
        have t : decide ((n : Int) ≤ 40) = false := by simp; omega
        go_wp2_with fail
        go_ret
        exact ⟨ret_bool HQ.out.symm, rfl⟩
    · obtain rfl : k = n := by omega
      have HQ := Lib.hid (show fewB l = true by
        have h := HP.out
        unfold fewB
        rw [List.take_of_length_le (by rw [HN.out]; exact Nat.le_refl _)] at h
        rw [List.take_of_length_le (by rw [HN.out]; exact hk40), h, HN.out]; simpa using hk40)
      have t : decide ((k : Int) ≤ 40) = true := by simp; omega
      go_wp2_with fail
      go_ret
      exact ⟨ret_bool HQ.out.symm, rfl⟩
end Go.Proofs.YteemkkmkkgfofaaGreatDoor
namespace Go.Proofs.YteemkkmkkgfofaaGreatDoor
open Go.RowKit Nam Pol
attribute [local go_sem] gv_of

def letters : ByteArray := ⟨#[97, 98, 99, 100, 101, 102, 103, 104, 105, 106, 107, 108, 109, 110, 111, 112, 113, 114, 115, 116, 117, 118, 119, 120, 121, 122, 48, 49, 50, 51, 52, 53, 54, 55, 56, 57, 45]⟩
theorem letters_all : ∀ c : UInt8, letters.data.toList.contains c = nameCh (c.toNat : Int) := by
  have h : ∀ n : Fin 256, letters.data.toList.contains (UInt8.ofNat n.val) = nameCh ((UInt8.ofNat n.val).toNat : Int) := by decide +kernel
  intro c
  have := h ⟨c.toNat, c.toNat_lt⟩
  simpa using this
theorem drop_nil {p : UInt8 → Bool} : ∀ {l : List UInt8}, l.dropWhile p = [] ↔ ∀ c ∈ l, p c = true
  | [] => by simp
  | c :: l => by
    rw [List.dropWhile_cons]
    split
    · rename_i h; rw [drop_nil]; simp [h]
    · rename_i h; simp [h]
theorem trim_nil (l : Str) : Lib.trimS l letters.data.toList = [] ↔ ∀ c ∈ l, nameCh (c.toNat : Int) = true := by
  have hp : (fun c => letters.data.toList.contains c) = fun c : UInt8 => nameCh (c.toNat : Int) := funext letters_all
  unfold Lib.trimS Lib.trimLeftS Lib.trimRightS
  rw [hp, drop_nil]
  constructor
  · intro h c hc
    by_cases hd : (l.reverse.dropWhile fun c : UInt8 => nameCh (c.toNat : Int)) = []
    · exact drop_nil.1 hd c (by simpa using hc)
    · exfalso
      have hne : (l.reverse.dropWhile fun c : UInt8 => nameCh (c.toNat : Int)).head hd ∈ (l.reverse.dropWhile fun c : UInt8 => nameCh (c.toNat : Int)).reverse := by simp
      have h1 := h _ hne
      have h2 := List.head_dropWhile_not (fun c : UInt8 => nameCh (c.toNat : Int)) hd
      rw [h1] at h2; cases h2
  · intro h c hc
    refine h c ?_
    have h1 : c ∈ l.reverse.dropWhile fun c : UInt8 => nameCh (c.toNat : Int) := by simpa using hc
    have := (List.dropWhile_sublist _).subset h1
    simpa using this
theorem ruleName_trim (s : ByteArray) : ruleName s.data.toList = (!(s.toList.isEmpty) && decide ((s.size : Int) ≤ 16) && (Lib.trimS s.data.toList letters.data.toList).isEmpty) := by
  rw [Lib.toList_data, Bool.eq_iff_iff]
  unfold ruleName
  simp only [Bool.and_eq_true, decide_eq_true_eq, List.all_eq_true, Bool.not_eq_true', List.isEmpty_iff]
  rw [trim_nil, ← Lib.size_eq]
  have : s.data.toList.isEmpty = false ↔ 1 ≤ s.size := by
    rw [Lib.size_eq]; cases s.data.toList <;> simp
  rw [this]
  constructor
  · rintro ⟨⟨h1, h2⟩, h3⟩; exact ⟨⟨h1, by omega⟩, h3⟩
  · rintro ⟨⟨h1, h2⟩, h3⟩; exact ⟨⟨h1, by omega⟩, h3⟩
set_option maxHeartbeats 1000000 in
theorem named_any (s : ByteArray) (w : World) (hs : s.size ≤ maxLen) :
    Calls Tryz.prog 38 #[.string s] w (Ret (.bool (ruleName s.data.toList)) w) := by
  unfold maxLen at hs
  have HR := Lib.hid (ruleName_trim s)
  have htr : ∀ w', Calls Tryz.prog 63 #[.string s, .string ⟨#[97, 98, 99, 100, 101, 102, 103, 104, 105, 106, 107, 108, 109, 110, 111, 112, 113, 114, 115, 116, 117, 118, 119, 120, 121, 122, 48, 49, 50, 51, 52, 53, 54, 55, 56, 57, 45]⟩] w' (Ret (.string ⟨(Lib.trimS s.data.toList letters.data.toList).toArray⟩) w') := fun w' =>
    (Any.strings_Trim_laid Tryz.lays160 (by kernel_rfl) s letters w' hs (by decide) (ascii_of_all (by decide))).mono fun _ _ h => h
  have HT := Lib.hid htr
  clear htr
  go_enter Tryz.func38, Tryz.ntmps38
  go_upto_region 1 with (fail)
  refine wp_region_P (fun w' => Ext w w') (Below.refl _ _) ?_
  repeat
    first
    | (refine steps_and rfl rfl rfl rfl ?_; simp only [Act.put, List.setIfInBounds_toArray, List.set_cons_succ, List.set_cons_zero])
    | (refine steps_or rfl rfl rfl rfl ?_; simp only [Act.put, List.setIfInBounds_toArray, List.set_cons_succ, List.set_cons_zero])
    | (refine steps_skip rfl ?_; simp only [Act.put, List.setIfInBounds_toArray, List.set_cons_succ, List.set_cons_zero])
    | (refine steps_guard_and rfl rfl rfl rfl rfl ?_; simp only [Act.put, List.setIfInBounds_toArray, List.set_cons_succ, List.set_cons_zero])
    | (refine steps_guard (v := ?_) rfl rfl (fun hb w' hS => ?_) ?_; rotate_left; (focus (skip; unfold Gives; go_simp; first | exact is_mk hS | (refine (HT.out _).mono ?_; rintro e w'' ⟨rfl, h2⟩; exact gave_mk (ext_trans hS h2)))); simp only [Act.put, List.setIfInBounds_toArray, List.set_cons_succ, List.set_cons_zero])
    | (refine steps_guard2 (v := ?_) rfl rfl rfl (fun hb1 hb w' hS => ?_) ?_; rotate_left; (focus (skip; unfold Gives; go_simp; first | exact is_mk hS | (refine (HT.out _).mono ?_; rintro e w'' ⟨rfl, h2⟩; exact gave_mk (ext_trans hS h2)))); simp only [Act.put, List.setIfInBounds_toArray, List.set_cons_succ, List.set_cons_zero])
    | (refine steps_run (v := ?_) rfl (fun w' hS => ?_) ?_; rotate_left; (focus (skip; unfold Gives; go_simp; first | exact is_mk hS | (refine (HT.out _).mono ?_; rintro e w'' ⟨rfl, h2⟩; exact gave_mk (ext_trans hS h2)))); simp only [Act.put, List.setIfInBounds_toArray, List.set_cons_succ, List.set_cons_zero])
  refine steps_end fun w' hE => ?_
  go_wp2_with fail
  go_ret
  exact ⟨ret_bool (by rw [HR.out]), hE⟩
theorem within_any (n a b : Int) (w : World) :
    Calls Tryz.prog 37 #[.int .i64 n, .int .i64 a, .int .i64 b] w fun e w' => e = .returned (.bool (decide (a ≤ n) && decide (n ≤ b))) ∧ w = w' := by
  go_enter Tryz.func37, Tryz.ntmps37
  go_upto_region 1 with (fail)
  refine wp_region_P (fun w' => w = w') rfl ?_
  repeat
    first
    | (refine steps_and rfl rfl rfl rfl ?_; simp only [Act.put, List.setIfInBounds_toArray, List.set_cons_succ, List.set_cons_zero])
    | (refine steps_or rfl rfl rfl rfl ?_; simp only [Act.put, List.setIfInBounds_toArray, List.set_cons_succ, List.set_cons_zero])
    | (refine steps_skip rfl ?_; simp only [Act.put, List.setIfInBounds_toArray, List.set_cons_succ, List.set_cons_zero])
    | (refine steps_guard_and rfl rfl rfl rfl rfl ?_; simp only [Act.put, List.setIfInBounds_toArray, List.set_cons_succ, List.set_cons_zero])
    | (refine steps_guard (v := ?_) rfl rfl (fun hb w' hS => ?_) ?_; rotate_left; (focus (subst hS; unfold Gives; go_simp; first | exact is_mk rfl)); simp only [Act.put, List.setIfInBounds_toArray, List.set_cons_succ, List.set_cons_zero])
    | (refine steps_guard2 (v := ?_) rfl rfl rfl (fun hb1 hb w' hS => ?_) ?_; rotate_left; (focus (subst hS; unfold Gives; go_simp; first | exact is_mk rfl)); simp only [Act.put, List.setIfInBounds_toArray, List.set_cons_succ, List.set_cons_zero])
    | (refine steps_run (v := ?_) rfl (fun w' hS => ?_) ?_; rotate_left; (focus (subst hS; unfold Gives; go_simp; first | exact is_mk rfl)); simp only [Act.put, List.setIfInBounds_toArray, List.set_cons_succ, List.set_cons_zero])
  refine steps_end fun w' hE => ?_
  subst hE
  go_wp2_with fail
  go_ret
  exact ⟨rfl, rfl⟩
end Go.Proofs.YteemkkmkkgfofaaGreatDoor
