/- The laws NamesCompares, NamesWithin: their walks. -/
import Derived.Test.YtjjkonaopmipoaaDoorNc1
import Derived.Test.YtjjkonaopmipoaaDoorNcQ
namespace Go.Proofs.YtjjkonaopmipoaaDoor
open Go.RowKit Nam
attribute [local go_sem] okOr_true okOr_false

def shortB (a b c : ByteArray) : Bool := decide (a.size ≤ 300) && decide (b.size ≤ 300) && decide (c.size ≤ 300)
set_option maxHeartbeats 400000 in
theorem short_any (a b c : ByteArray) (w : World) :
    Calls Tryd.prog 29 #[.string a, .string b, .string c] w (Ret (.bool (shortB a b c)) w) := by
  have h : ∀ x : ByteArray, decide ((x.size : Int) ≤ 300) = decide (x.size ≤ 300) := fun x => by rw [Bool.eq_iff_iff]; simp; omega
  have H : Hid (shortB a b c = (decide ((a.size : Int) ≤ 300) && decide ((b.size : Int) ≤ 300) && decide ((c.size : Int) ≤ 300))) := by rw [h, h, h]; rfl
  clear h
  go_enter Tryd.func29, Tryd.ntmps29
  go_wp2
  all_goals
    go_ret
    exact ⟨ret_bool (by rw [H.out]; simp [*] <;> omega), Below.refl _ _⟩
theorem Match_r (p s : ByteArray) (w : World) (hp : p.size ≤ 9223372036854775807) (hs : s.size ≤ 9223372036854775807) (hw : Env w) :
    Calls Tryd.prog 32 #[.string p, .string s] w (Ret (.bool (rmatchB p.data.toList s.data.toList)) w) := by rw [← match_eq]; exact Match_any p s w hp hs hw
theorem Within_r (p q : ByteArray) (w : World) (hp : p.size ≤ 9223372036854775807) (hq : q.size ≤ 9223372036854775807) (hw : Env w) :
    Calls Tryd.prog 34 #[.string p, .string q] w (Ret (.bool (rwithinB p.data.toList q.data.toList)) w) := by rw [← within_eq]; exact Within_any p q w hp hq hw
theorem Meets_r (p q : ByteArray) (w : World) (hp : p.size ≤ 9223372036854775807) (hq : q.size ≤ 9223372036854775807) (hw : Env w) :
    Calls Tryd.prog 36 #[.string p, .string q] w (Ret (.bool (rmeetsB p.data.toList q.data.toList)) w) := by rw [← meets_eq]; exact Meets_any p q w hp hq hw
set_option maxHeartbeats 1000000 in
theorem NamesCompares_any (a b : ByteArray) (w : World) (hw : Env w) (ha : a.size ≤ 9223372036854775807) (hb : b.size ≤ 9223372036854775807) :
    Calls Tryd.prog 5 #[.string a, .string b] w (Ret (.bool true) w) := by
  have HW := Lib.hid hw; clear hw
  have hE : Ext w w := Below.refl _ _
  go_enter Tryd.func5, Tryd.ntmps5
  go_wp2_with (first
    | (go_at_call 19; refine (live_any _ (HW.out.ext hE)).mono ?_; rintro e w1 ⟨rfl, h2⟩; replace hE := ext_trans hE h2; clear h2)
    | (go_at_call 29; refine (short_any _ _ _ _).mono ?_; rintro e w1 ⟨rfl, h2⟩; replace hE := ext_trans hE h2; clear h2)
    | (go_at_call 30; refine (Under_any _ _ _ (by assumption) (HW.out.ext hE)).mono ?_; rintro e w1 ⟨rfl, h2⟩; replace hE := ext_trans hE h2; clear h2)
    | (go_at_call 31; refine (rUnder_any _ _ _ (by assumption)).mono ?_; rintro e w1 ⟨rfl, h2⟩; replace hE := ext_trans hE h2; clear h2)
    | (go_at_call 32; refine (Match_r _ _ _ (by assumption) (by assumption) (HW.out.ext hE)).mono ?_; rintro e w1 ⟨rfl, h2⟩; replace hE := ext_trans hE h2; clear h2)
    | (go_at_call 33; refine (rMatch_any _ _ _ (by assumption) (by assumption)).mono ?_; rintro e w1 ⟨rfl, h2⟩; replace hE := ext_trans hE h2; clear h2)
    | (go_at_call 34; refine (Within_r _ _ _ (by assumption) (by assumption) (HW.out.ext hE)).mono ?_; rintro e w1 ⟨rfl, h2⟩; replace hE := ext_trans hE h2; clear h2)
    | (go_at_call 35; refine (rWithin_any _ _ _ (by assumption) (by assumption)).mono ?_; rintro e w1 ⟨rfl, h2⟩; replace hE := ext_trans hE h2; clear h2)
    | (go_at_call 36; refine (Meets_r _ _ _ (by assumption) (by assumption) (HW.out.ext hE)).mono ?_; rintro e w1 ⟨rfl, h2⟩; replace hE := ext_trans hE h2; clear h2)
    | (go_at_call 37; refine (rMeets_any _ _ _ (by assumption) (by assumption)).mono ?_; rintro e w1 ⟨rfl, h2⟩; replace hE := ext_trans hE h2; clear h2))
  all_goals
    go_ret
    exact ⟨ret_bool (by simp), hE⟩
theorem x_data (c : UInt8) (p : ByteArray) (X : ByteArray) (h : (⟨#[c]⟩ : ByteArray) ++ p.extract 1 p.size = X) : X.data.toList = c :: p.data.toList.drop 1 := by
  have e : ∀ q : ByteArray, ((⟨#[c]⟩ : ByteArray) ++ q).data.toList = c :: q.data.toList := fun q => by simp
  rw [← h, e, Lib.extract_to_end]
theorem star_of {p : ByteArray} (h : rpatB p.data.toList = true) (hn : isB p.data.toList = false) : starB p.data.toList = true := by
  unfold rpatB at h; rw [hn, Bool.or_false] at h; exact h
set_option maxHeartbeats 1000000 in
theorem NamesWithin_any (p q s : ByteArray) (w : World) (hw : Env w) (hp : p.size ≤ 9223372036854775807) (hq : q.size ≤ 9223372036854775807) (hs : s.size ≤ 9223372036854775807) :
    Calls Tryd.prog 6 #[.string p, .string q, .string s] w (Ret (.bool true) w) := by
  have HW := Lib.hid hw; clear hw
  have hE : Ext w w := Below.refl _ _
  cases hsh : shortB p q s
  · go_enter Tryd.func6, Tryd.ntmps6
    go_wp2_with (first
    | (go_at_call 19; refine (live_any _ (HW.out.ext hE)).mono ?_; rintro e w1 ⟨rfl, h2⟩; replace hE := ext_trans hE h2; clear h2)
    | (go_at_call 29; refine (short_any _ _ _ _).mono ?_; rintro e w1 ⟨rfl, h2⟩; replace hE := ext_trans hE h2; clear h2))
    go_ret
    exact ⟨rfl, hE⟩
  by_cases hpq : rpatB p.data.toList = true ∧ rpatB q.data.toList = true
  rotate_left 1
  · have hw : rwithinB p.data.toList q.data.toList = false := by
      rw [Bool.eq_false_iff]; intro h; exact hpq (rwithin_pats h)
    have hc : rpatB p.data.toList = false ∨ (rpatB p.data.toList = true ∧ rpatB q.data.toList = false) := by
      cases h1 : rpatB p.data.toList
      · exact .inl rfl
      · cases h2 : rpatB q.data.toList
        · exact .inr ⟨rfl, rfl⟩
        · exact absurd ⟨h1, h2⟩ hpq
    clear hpq
    rcases hc with hc | ⟨hc, hc2⟩
    all_goals
      go_enter Tryd.func6, Tryd.ntmps6
      go_wp2_with (first
    | (go_at_call 19; refine (live_any _ (HW.out.ext hE)).mono ?_; rintro e w1 ⟨rfl, h2⟩; replace hE := ext_trans hE h2; clear h2)
    | (go_at_call 29; refine (short_any _ _ _ _).mono ?_; rintro e w1 ⟨rfl, h2⟩; replace hE := ext_trans hE h2; clear h2)
    | (go_at_call 22; refine (Pat_both _ _ (by assumption)).mono ?_; rintro e w1 ⟨rfl, h2⟩; replace hE := ext_trans hE h2; clear h2)
    | (go_at_call 34; refine (Within_r _ _ _ (by assumption) (by assumption) (HW.out.ext hE)).mono ?_; rintro e w1 ⟨rfl, h2⟩; replace hE := ext_trans hE h2; clear h2))
      go_ret
      exact ⟨rfl, hE⟩
  obtain ⟨h1, h2⟩ := hpq
  cases hw : rwithinB p.data.toList q.data.toList
  rotate_left 1
  · cases hm : rmatchB p.data.toList s.data.toList
    · go_enter Tryd.func6, Tryd.ntmps6
      go_wp2_with (first
    | (go_at_call 19; refine (live_any _ (HW.out.ext hE)).mono ?_; rintro e w1 ⟨rfl, h2⟩; replace hE := ext_trans hE h2; clear h2)
    | (go_at_call 29; refine (short_any _ _ _ _).mono ?_; rintro e w1 ⟨rfl, h2⟩; replace hE := ext_trans hE h2; clear h2)
    | (go_at_call 22; refine (Pat_both _ _ (by assumption)).mono ?_; rintro e w1 ⟨rfl, h2⟩; replace hE := ext_trans hE h2; clear h2)
    | (go_at_call 34; refine (Within_r _ _ _ (by assumption) (by assumption) (HW.out.ext hE)).mono ?_; rintro e w1 ⟨rfl, h2⟩; replace hE := ext_trans hE h2; clear h2)
    | (go_at_call 32; refine (Match_r _ _ _ (by assumption) (by assumption) (HW.out.ext hE)).mono ?_; rintro e w1 ⟨rfl, h2⟩; replace hE := ext_trans hE h2; clear h2))
      go_ret
      exact ⟨rfl, hE⟩
    · have hm2 := within_match hw hm
      go_enter Tryd.func6, Tryd.ntmps6
      go_wp2_with (first
    | (go_at_call 19; refine (live_any _ (HW.out.ext hE)).mono ?_; rintro e w1 ⟨rfl, h2⟩; replace hE := ext_trans hE h2; clear h2)
    | (go_at_call 29; refine (short_any _ _ _ _).mono ?_; rintro e w1 ⟨rfl, h2⟩; replace hE := ext_trans hE h2; clear h2)
    | (go_at_call 22; refine (Pat_both _ _ (by assumption)).mono ?_; rintro e w1 ⟨rfl, h2⟩; replace hE := ext_trans hE h2; clear h2)
    | (go_at_call 34; refine (Within_r _ _ _ (by assumption) (by assumption) (HW.out.ext hE)).mono ?_; rintro e w1 ⟨rfl, h2⟩; replace hE := ext_trans hE h2; clear h2)
    | (go_at_call 32; refine (Match_r _ _ _ (by assumption) (by assumption) (HW.out.ext hE)).mono ?_; rintro e w1 ⟨rfl, h2⟩; replace hE := ext_trans hE h2; clear h2))
      go_ret
      exact ⟨ret_bool (by simp), hE⟩
  cases hn : isB p.data.toList
  · have hst := star_of h1 hn
    have h3 : 3 ≤ p.size := by rw [Lib.size_eq]; exact star_len hst
    obtain ⟨X, hX⟩ : ∃ X, (⟨#[120]⟩ : ByteArray) ++ p.extract 1 p.size = X := ⟨_, rfl⟩
    obtain ⟨Y, hY⟩ : ∃ Y, (⟨#[121]⟩ : ByteArray) ++ p.extract 1 p.size = Y := ⟨_, rfl⟩
    have hsh2 := within_shown hst h2 hw
    rw [← x_data 120 p X hX, ← x_data 121 p Y hY] at hsh2
    have hXs : X.size ≤ 9223372036854775807 := by rw [Lib.size_eq, x_data 120 p X hX, List.length_cons, List.length_drop, ← Lib.size_eq]; omega
    have hYs : Y.size ≤ 9223372036854775807 := by rw [Lib.size_eq, x_data 121 p Y hY, List.length_cons, List.length_drop, ← Lib.size_eq]; omega
    have HX := Lib.hid hX; have HY := Lib.hid hY; clear hX hY hst
    obtain ⟨m1, m2, m3⟩ := hsh2
    have m4 : rmatchB q.data.toList X.data.toList = false ∨ (rmatchB q.data.toList X.data.toList = true ∧ rmatchB q.data.toList Y.data.toList = false) := by
      cases h : rmatchB q.data.toList X.data.toList
      · exact .inl rfl
      · exact .inr ⟨rfl, m3.resolve_left (by rw [h]; simp)⟩
    clear m3
    rcases m4 with m4 | ⟨m4, m5⟩
    all_goals
      go_enter Tryd.func6, Tryd.ntmps6
      go_wp2_with (first
    | (go_at_call 19; refine (live_any _ (HW.out.ext hE)).mono ?_; rintro e w1 ⟨rfl, h2⟩; replace hE := ext_trans hE h2; clear h2)
    | (go_at_call 29; refine (short_any _ _ _ _).mono ?_; rintro e w1 ⟨rfl, h2⟩; replace hE := ext_trans hE h2; clear h2)
    | (go_at_call 22; (try rw [HX.out]); (try rw [HY.out]); refine (Pat_both _ _ (by assumption)).mono ?_; rintro e w1 ⟨rfl, h2⟩; replace hE := ext_trans hE h2; clear h2)
    | (go_at_call 34; (try rw [HX.out]); (try rw [HY.out]); refine (Within_r _ _ _ (by assumption) (by assumption) (HW.out.ext hE)).mono ?_; rintro e w1 ⟨rfl, h2⟩; replace hE := ext_trans hE h2; clear h2)
    | (go_at_call 20; (try rw [HX.out]); (try rw [HY.out]); refine (Check_any _ _ (by assumption)).mono ?_; rintro e w1 ⟨rfl, h2⟩; replace hE := ext_trans hE h2; clear h2)
    | (go_at_call 32; (try rw [HX.out]); (try rw [HY.out]); refine (Match_r _ _ _ (by assumption) (by assumption) (HW.out.ext hE)).mono ?_; rintro e w1 ⟨rfl, h2⟩; replace hE := ext_trans hE h2; clear h2))
      go_ret
      exact ⟨ret_bool (by first | rfl | simp), hE⟩
  · have m1 : rmatchB p.data.toList p.data.toList = true := by rw [rmatch_name hn, hn]; simp
    have m2 : rmatchB q.data.toList p.data.toList = false := by rw [← rwithin_name hn h2]; exact hw
    go_enter Tryd.func6, Tryd.ntmps6
    go_wp2_with (first
    | (go_at_call 19; refine (live_any _ (HW.out.ext hE)).mono ?_; rintro e w1 ⟨rfl, h2⟩; replace hE := ext_trans hE h2; clear h2)
    | (go_at_call 29; refine (short_any _ _ _ _).mono ?_; rintro e w1 ⟨rfl, h2⟩; replace hE := ext_trans hE h2; clear h2)
    | (go_at_call 22; refine (Pat_both _ _ (by assumption)).mono ?_; rintro e w1 ⟨rfl, h2⟩; replace hE := ext_trans hE h2; clear h2)
    | (go_at_call 34; refine (Within_r _ _ _ (by assumption) (by assumption) (HW.out.ext hE)).mono ?_; rintro e w1 ⟨rfl, h2⟩; replace hE := ext_trans hE h2; clear h2)
    | (go_at_call 20; refine (Check_any _ _ (by assumption)).mono ?_; rintro e w1 ⟨rfl, h2⟩; replace hE := ext_trans hE h2; clear h2)
    | (go_at_call 32; refine (Match_r _ _ _ (by assumption) (by assumption) (HW.out.ext hE)).mono ?_; rintro e w1 ⟨rfl, h2⟩; replace hE := ext_trans hE h2; clear h2))
    go_ret
    exact ⟨ret_bool (by first | rfl | simp), hE⟩
end Go.Proofs.YtjjkonaopmipoaaDoor
