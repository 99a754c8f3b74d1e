/- The law NamesUnder: its walk. -/
import Derived.Test.YtjjkonaopmipoaaDoorNc4
import Derived.Test.YtjjkonaopmipoaaDoorNcR
import Derived.Deep.CutBlock
namespace Go.Proofs.YtjjkonaopmipoaaDoor
open Go.RowKit Nam
attribute [local go_sem] okOr_true okOr_false

theorem Under_nil (s : ByteArray) (w : World) (h : underB s.data.toList [] = true) (hs : s.size ≤ 9223372036854775807) (hw : Env w) :
    Calls Tryd.prog 30 #[.string s, .string ⟨#[]⟩] w (Ret (.bool true) w) := by
  have := Under_any s ⟨#[]⟩ w hs hw
  rw [show (⟨#[]⟩ : ByteArray).data.toList = [] from rfl, h] at this; exact this
/-- The search on the way up: where it stands, and what it has found. -/
def MetAt (w : World) (s apex : ByteArray) (m a i : Value) (wr : World) : Prop :=
  ∃ (k : Nat) (A : ByteArray) (b : Bool), k ≤ 9 ∧ i = .int .i64 k ∧ a = .string A ∧ m = .bool b ∧ A.size ≤ 1000 ∧ metF apex.data.toList (9 - k) A.data.toList b = metF apex.data.toList 9 s.data.toList false ∧ Ext w wr
theorem empty_iff (A : ByteArray) : A.toList.isEmpty = true ↔ A.data.toList = [] := by rw [Lib.toList_data]; simp
theorem met_end {apex : ByteArray} {n : Nat} {A : ByteArray} {b c : Bool} (h : metF apex.data.toList n A.data.toList b = c) (hA : A.toList.isEmpty = true) : b = c := by
  rw [(empty_iff A).1 hA, metF_nil] at h; exact h
theorem met_step {apex : ByteArray} {k : Nat} {A X : ByteArray} {b b' c : Bool} (h : metF apex.data.toList (9 - k) A.data.toList b = c) (hk : k < 9) (hA : A.toList.isEmpty = false)
    (hX : (⟨(up A.data.toList).toArray⟩ : ByteArray) = X) (hb : b' = (b || (A.toList == apex.toList))) : metF apex.data.toList (9 - (k + 1)) X.data.toList b' = c := by
  have hne : A.data.toList ≠ [] := fun e => by rw [(empty_iff A).2 e] at hA; cases hA
  rw [show 9 - k = (9 - (k + 1)) + 1 from by omega, metF, if_neg hne] at h
  rw [hb, ← h, ← hX, Lib.toList_data, Lib.toList_data]
theorem star_data (a : ByteArray) : ((⟨#[42, 46]⟩ : ByteArray) ++ a).data.toList = 42 :: 46 :: a.data.toList := by simp
set_option maxRecDepth 100000 in
set_option maxHeartbeats 4000000 in
theorem NamesUnder_any (s a : ByteArray) (w : World) (hw : Env w) (hs : s.size ≤ 9223372036854775807) (ha : a.size ≤ 9223372036854775807) :
    Calls Tryd.prog 10 #[.string s, .string a] w (Ret (.bool true) w) := by
  have HW := Lib.hid hw; clear hw
  have hE : Ext w w := Below.refl _ _
  cases hsh : shortB s a ⟨#[]⟩
  · go_enter Tryd.func10, Tryd.ntmps10
    go_wp2_with (first
    | (go_at_call 19; refine (live_any _ (HW.out.ext hE)).mono ?_; rintro e w1 ⟨rfl, h2⟩; replace hE := ext_trans hE h2; clear h2)
    | (go_at_call 29; refine (short_any _ _ _ _).mono ?_; rintro e w1 ⟨rfl, h2⟩; replace hE := ext_trans hE h2; clear h2))
    go_ret
    exact ⟨rfl, hE⟩
  cases hb : isB s.data.toList
  · have hu : underB s.data.toList a.data.toList = false := by unfold underB; rw [hb]; rfl
    have hm : rmatchB a.data.toList s.data.toList = false := rmatch_no hb
    go_enter Tryd.func10, Tryd.ntmps10
    go_wp2_with (first
    | (go_at_call 19; refine (live_any _ (HW.out.ext hE)).mono ?_; rintro e w1 ⟨rfl, h2⟩; replace hE := ext_trans hE h2; clear h2)
    | (go_at_call 29; refine (short_any _ _ _ _).mono ?_; rintro e w1 ⟨rfl, h2⟩; replace hE := ext_trans hE h2; clear h2)
    | (go_at_call 20; refine (Check_any _ _ (by assumption)).mono ?_; rintro e w1 ⟨rfl, h2⟩; replace hE := ext_trans hE h2; clear h2)
    | (go_at_call 30; refine (Under_any _ _ _ (by assumption) (HW.out.ext hE)).mono ?_; rintro e w1 ⟨rfl, h2⟩; replace hE := ext_trans hE h2; clear h2)
    | (go_at_call 32; refine (Match_r _ _ _ (by assumption) (by assumption) (HW.out.ext hE)).mono ?_; rintro e w1 ⟨rfl, h2⟩; replace hE := ext_trans hE h2; clear h2))
    go_ret
    exact ⟨rfl, hE⟩
  have hsz : s.size ≤ 1000 := by unfold shortB at hsh; simp at hsh; omega
  have hasz : a.size ≤ 1000 := by unfold shortB at hsh; simp at hsh; omega
  have HU := Lib.hid (under_met (apex := a.data.toList) hb)
  have hun := under_nil hb
  obtain ⟨X, hX⟩ : ∃ X, (⟨#[42, 46]⟩ : ByteArray) ++ a = X := ⟨_, rfl⟩
  have hXs : X.size ≤ 9223372036854775807 := by rw [← hX, ByteArray.size_append]; show 2 + a.size ≤ _; omega
  have HM : Hid (rpatB X.data.toList = true → rmatchB X.data.toList s.data.toList = (metF a.data.toList 9 s.data.toList false && !(s.toList == a.toList))) := by
    rw [← hX, star_data, Lib.toList_data, Lib.toList_data]; exact pat_star _ _ hb
  have HX := Lib.hid hX; clear hX
  obtain ⟨M, hM⟩ : ∃ M, metF a.data.toList 9 s.data.toList false = M := ⟨_, rfl⟩
  rw [hM] at HU HM
  go_enter Tryd.func10, Tryd.ntmps10
  go_upto_block 0 with (first
    | (go_at_call 19; refine (live_any _ (HW.out.ext hE)).mono ?_; rintro e w1 ⟨rfl, h2⟩; replace hE := ext_trans hE h2; clear h2)
    | (go_at_call 29; refine (short_any _ _ _ _).mono ?_; rintro e w1 ⟨rfl, h2⟩; replace hE := ext_trans hE h2; clear h2)
    | (go_at_call 20; refine (Check_any _ _ (by assumption)).mono ?_; rintro e w1 ⟨rfl, h2⟩; replace hE := ext_trans hE h2; clear h2))
  go_cut [5] (fun m wx => m = .bool M ∧ Ext w wx)
  case first =>
    obtain ⟨wB, hwB⟩ : ∃ wB, wB = w1 := ⟨_, rfl⟩
    have hE0 : Ext wB w1 := by rw [hwB]; exact Below.refl _ _
    have HWA := Lib.hid (HW.out.ext hE)
    rw [← hwB] at hE HWA
    have HE0 := Lib.hid hE0; have HEE := Lib.hid hE; have HMM := Lib.hid hM; clear hwB hE0 hE hM
    go_wp2_with fail
    go_loopw [5, 6, 7] (fun m v i wr => MetAt wB s a m v i wr) (fun _ _ i _ => 9 - (intOf i).toNat)
    case atStart => exact ⟨0, s, false, by omega, rfl, rfl, rfl, hsz, rfl, HE0.out⟩
    case round =>
      obtain ⟨k, A, b, hk, rfl, rfl, rfl, hA, hmet, hEr⟩ := hrel
      rw [HMM.out] at hmet
      have HMET := Lib.hid hmet; clear hmet
      by_cases hlt : k < 9
      · cases hae : A.toList.isEmpty
        · obtain ⟨Y, hY⟩ : ∃ Y : ByteArray, ⟨(up A.data.toList).toArray⟩ = Y := ⟨_, rfl⟩
          have hYs : Y.size ≤ 1000 := by rw [← hY]; exact up_size A 1000 hA
          have HY := Lib.hid hY; clear hY
          have HYS := Lib.hid hYs; clear hYs
          cases b
          all_goals cases heq : (A.toList == a.toList)
          all_goals
            have hAs : A.size ≤ 9223372036854775807 := by omega
            have hST := fun b' h => met_step (b' := b') HMET.out hlt hae HY.out h
            have HST := Lib.hid hST; clear hST
            go_wp2_with (go_at_call 27; refine (Up_both _ _ Y (by assumption) (HWA.out.ext hEr) HY.out).mono ?_; rintro e w2 ⟨rfl, h2⟩; replace hEr := ext_trans hEr h2; clear h2)
            go_roundw
            case rel => exact ⟨k + 1, Y, _, by omega, by go_num, rfl, rfl, HYS.out, by rw [HST.out _ (by first | (simp [*]; done) | (simp [*]; rfl)), HMM.out], hEr⟩
            case measure => simp [intOf]; omega
        · obtain rfl := met_end HMET.out hae
          go_wp2_with fail
          go_meet
          exact ⟨rfl, ext_trans HEE.out hEr⟩
      · obtain rfl : k = 9 := by omega
        have hbm : b = M := HMET.out
        subst hbm
        go_wp2_with fail
        go_meet
        exact ⟨rfl, ext_trans HEE.out hEr⟩
  case rest =>
    obtain ⟨rfl, hE⟩ := hcut
    clear hM
    have HN := Lib.hid hun; clear hun
    cases M
    all_goals cases hae : a.toList.isEmpty
    all_goals
      have hu := HU.out
      rw [← Lib.toList_data a, hae] at hu
      simp at hu
      rw [Lib.toList_data] at hu
    all_goals cases hr : rpatB X.data.toList
    all_goals try (have hq := HM.out hr; cases hse : (s.toList == a.toList))
    all_goals try (rw [hse] at hq; simp at hq)
    all_goals
      go_wp2_with fail
      refine (Under_nil _ _ HN.out (by assumption) (HW.out.ext hE)).mono ?_; rintro e w1 ⟨rfl, h2⟩; replace hE := ext_trans hE h2; clear h2
      go_wp2_with (first
    | (go_at_call 22; rw [HX.out]; refine (Pat_both _ _ (by assumption)).mono ?_; rintro e w1 ⟨rfl, h2⟩; replace hE := ext_trans hE h2; clear h2)
    | (go_at_call 30; refine (Under_any _ _ _ (by assumption) (HW.out.ext hE)).mono ?_; rintro e w1 ⟨rfl, h2⟩; replace hE := ext_trans hE h2; clear h2)
    | (go_at_call 32; refine (Match_r _ _ _ (by assumption) (by assumption) (HW.out.ext hE)).mono ?_; rintro e w1 ⟨rfl, h2⟩; replace hE := ext_trans hE h2; clear h2))
      go_ret
      exact ⟨ret_bool (by first | rfl | simp), hE⟩
end Go.Proofs.YtjjkonaopmipoaaDoor
