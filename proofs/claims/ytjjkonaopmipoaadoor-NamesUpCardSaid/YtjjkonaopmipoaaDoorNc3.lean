/- The laws NamesOrder, NamesMeets: their walks. -/
import Derived.Test.YtjjkonaopmipoaaDoorNc2
namespace Go.Proofs.YtjjkonaopmipoaaDoor
open Go.RowKit Nam
attribute [local go_sem] okOr_true okOr_false

set_option maxHeartbeats 2000000 in
theorem NamesOrder_any (p q o : ByteArray) (w : World) (hw : Env w) (hp : p.size ≤ 9223372036854775807) (hq : q.size ≤ 9223372036854775807) (ho : o.size ≤ 9223372036854775807) :
    Calls Tryd.prog 8 #[.string p, .string q, .string o] w (Ret (.bool true) w) := by
  have HW := Lib.hid hw; clear hw
  have hE : Ext w w := Below.refl _ _
  cases hsh : shortB p q o
  · go_enter Tryd.func8, Tryd.ntmps8
    go_wp2_with (first
    | (go_at_call 19; refine (live_any _ (HW.out.ext hE)).mono ?_; rintro e w1 ⟨rfl, h2⟩; replace hE := ext_trans hE h2; clear h2)
    | (go_at_call 29; refine (short_any _ _ _ _).mono ?_; rintro e w1 ⟨rfl, h2⟩; replace hE := ext_trans hE h2; clear h2))
    go_ret
    exact ⟨rfl, hE⟩
  have hpp := within_refl p.data.toList
  have hall : (rwithinB p.data.toList q.data.toList = false) ∨ (rwithinB p.data.toList q.data.toList = true ∧ ((rwithinB q.data.toList o.data.toList = false) ∨ (rwithinB q.data.toList o.data.toList = true ∧ rwithinB p.data.toList o.data.toList = true))) := by
    cases h1 : rwithinB p.data.toList q.data.toList
    · exact .inl rfl
    · right; refine ⟨rfl, ?_⟩
      cases h2 : rwithinB q.data.toList o.data.toList
      · exact .inl rfl
      · exact .inr ⟨rfl, within_trans h1 h2⟩
  have hqp : (rwithinB p.data.toList q.data.toList = true → rwithinB q.data.toList p.data.toList = true → (p.toList == q.toList) = true) := by
    intro h1 h2
    rw [Lib.toList_data, Lib.toList_data, within_anti h1 h2]; simp
  have HQP := Lib.hid hqp; clear hqp
  cases hr : rpatB p.data.toList
  all_goals rw [hr] at hpp
  all_goals rcases hall with h1 | ⟨h1, h2 | ⟨h2, h3⟩⟩
  all_goals cases h4 : rwithinB q.data.toList p.data.toList
  all_goals
    first
      | (have h5 : (p.toList == q.toList) = true := HQP.out h1 h4
         go_enter Tryd.func8, Tryd.ntmps8
         go_wp2_with (first
             | (go_at_call 19; refine (live_any _ (HW.out.ext hE)).mono ?_; rintro e w1 ⟨rfl, h2⟩; replace hE := ext_trans hE h2; clear h2)
             | (go_at_call 29; refine (short_any _ _ _ _).mono ?_; rintro e w1 ⟨rfl, h2⟩; replace hE := ext_trans hE h2; clear h2)
             | (go_at_call 22; refine (Pat_both _ _ (by assumption)).mono ?_; rintro e w1 ⟨rfl, h2⟩; replace hE := ext_trans hE h2; clear h2)
             | (go_at_call 34; refine (Within_r _ _ _ (by assumption) (by assumption) (HW.out.ext hE)).mono ?_; rintro e w1 ⟨rfl, h2⟩; replace hE := ext_trans hE h2; clear h2))
         go_ret
         exact ⟨ret_bool (by first | rfl | simp), hE⟩)
      | (go_enter Tryd.func8, Tryd.ntmps8
         go_wp2_with (first
             | (go_at_call 19; refine (live_any _ (HW.out.ext hE)).mono ?_; rintro e w1 ⟨rfl, h2⟩; replace hE := ext_trans hE h2; clear h2)
             | (go_at_call 29; refine (short_any _ _ _ _).mono ?_; rintro e w1 ⟨rfl, h2⟩; replace hE := ext_trans hE h2; clear h2)
             | (go_at_call 22; refine (Pat_both _ _ (by assumption)).mono ?_; rintro e w1 ⟨rfl, h2⟩; replace hE := ext_trans hE h2; clear h2)
             | (go_at_call 34; refine (Within_r _ _ _ (by assumption) (by assumption) (HW.out.ext hE)).mono ?_; rintro e w1 ⟨rfl, h2⟩; replace hE := ext_trans hE h2; clear h2))
         go_ret
         exact ⟨ret_bool (by first | rfl | simp), hE⟩)
end Go.Proofs.YtjjkonaopmipoaaDoor
