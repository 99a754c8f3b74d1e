/- The law NamesChecks: its walk. -/
import Derived.Test.YtjjkonaopmipoaaDoorNmW
import Derived.Test.YtjjkonaopmipoaaDoorNcP
namespace Go.Proofs.YtjjkonaopmipoaaDoor
open Go.RowKit Nam
attribute [local go_sem] okOr_true okOr_false

theorem Up_both (s : ByteArray) (w : World) (x : ByteArray) (hs : s.size ≤ 9223372036854775807) (hw : Env w) (hx : (⟨(up s.data.toList).toArray⟩ : ByteArray) = x) :
    Calls Tryd.prog 27 #[.string s] w (Ret (.string x) w) := by rw [← hx]; exact Up_any s w hs hw
theorem rUp_both (s : ByteArray) (w : World) (x : ByteArray) (hs : s.size ≤ 9223372036854775807) (hx : (⟨(up s.data.toList).toArray⟩ : ByteArray) = x) :
    Calls Tryd.prog 28 #[.string s] w (Ret (.string x) w) := by rw [← hx]; exact rUp_any s w hs
theorem Pat_both (s : ByteArray) (w : World) (hs : s.size ≤ 9223372036854775807) :
    Calls Tryd.prog 22 #[.string s] w (Ret (.int .i64 (okOr 110 (rpatB s.data.toList))) w) := by rw [← pattern_ok]; exact Pattern_any s w hs
set_option maxHeartbeats 1000000 in
theorem NamesChecks_any (s : ByteArray) (w : World) (hw : Env w) (hs : s.size ≤ 9223372036854775807) :
    Calls Tryd.prog 4 #[.string s] w (Ret (.bool true) w) := by
  have HW := Lib.hid hw; clear hw
  by_cases hl : 300 < s.size
  · go_enter Tryd.func4, Tryd.ntmps4
    go_wp2_with fail
    refine (live_any w HW.out).mono ?_; rintro e w1 ⟨rfl, hE⟩
    go_wp2
    go_ret
    exact ⟨rfl, hE⟩
  · obtain ⟨x, hx⟩ : ∃ x : ByteArray, ⟨(up s.data.toList).toArray⟩ = x := ⟨_, rfl⟩
    have HX := Lib.hid hx; clear hx
    obtain ⟨c, hc⟩ : ∃ c : Int, okOr 110 (isB s.data.toList) = c := ⟨_, rfl⟩
    obtain ⟨d, hd⟩ : ∃ d : Int, okOr 110 (rpatB s.data.toList) = d := ⟨_, rfl⟩
    have HC := Lib.hid hc; have HD := Lib.hid hd; clear hc hd
    go_enter Tryd.func4, Tryd.ntmps4
    go_wp2_with fail
    refine (live_any w HW.out).mono ?_; rintro e w1 ⟨rfl, hE⟩
    go_wp2_with fail
    refine (Check_any s _ hs).mono ?_; rintro e w2 ⟨rfl, h2⟩; rw [HC.out]; replace hE := ext_trans hE h2; clear h2
    go_wp2_with fail
    refine (rCheck_any s _ hs).mono ?_; rintro e w3 ⟨rfl, h2⟩; rw [HC.out]; replace hE := ext_trans hE h2; clear h2
    go_wp2_with fail
    refine (Pat_both s _ hs).mono ?_; rintro e w4 ⟨rfl, h2⟩; rw [HD.out]; replace hE := ext_trans hE h2; clear h2
    go_wp2_with fail
    refine (rPattern_any s _ hs).mono ?_; rintro e w5 ⟨rfl, h2⟩; rw [HD.out]; replace hE := ext_trans hE h2; clear h2
    go_wp2_with fail
    refine (Labels_any s _ hs (HW.out.ext hE)).mono ?_; rintro e w6 ⟨v, rfl, hv, h2⟩; replace hE := ext_trans hE h2; clear h2
    have HV := Lib.hid hv; clear hv
    go_wp2_with fail
    refine (rLabels_any s _ hs).mono ?_; rintro e w7 ⟨v2, rfl, hv2, h2⟩; replace hE := ext_trans hE h2
    have HV1 := Lib.hid (HV.out.ext h2); have HV2 := Lib.hid hv2; clear hv2 h2
    go_wp2_with fail
    refine (Same_any _ _ v v2 _ HV1.out HV2.out).mono ?_; rintro e w8 ⟨rfl, h2⟩; rw [beq_self_eq_true]; replace hE := ext_trans hE h2; clear h2
    go_wp2_with fail
    refine (Up_both s _ x hs (HW.out.ext hE) HX.out).mono ?_; rintro e w9 ⟨rfl, h2⟩; replace hE := ext_trans hE h2; clear h2
    go_wp2_with fail
    refine (rUp_both s _ x hs HX.out).mono ?_; rintro e wA ⟨rfl, h2⟩; replace hE := ext_trans hE h2; clear h2
    go_wp2
    go_ret
    exact ⟨ret_bool (by simp), hE⟩
end Go.Proofs.YtjjkonaopmipoaaDoor
