/- Walks: the document's Within, Meets, Same; names.Labels. -/
import Derived.Test.YtjjkonaopmipoaaDoorNmS
import Derived.Deep.QuietTactic
import Derived.BigQuiet
namespace Go.Proofs.YtjjkonaopmipoaaDoor
open Go.RowKit Nam
attribute [local go_sem] okOr_true okOr_false

theorem starOf_size {p : ByteArray} (hp : p.size ≤ 9223372036854775807) : (⟨(starOf p.data.toList).toArray⟩ : ByteArray).size ≤ 9223372036854775807 := by
  rw [size_bs]; rw [Lib.size_eq] at hp
  unfold starOf
  split
  · rw [List.length_drop]; omega
  · simp
set_option maxHeartbeats 1000000 in
theorem rWithin_any (p q : ByteArray) (w : World) (hp : p.size ≤ 9223372036854775807) (hq : q.size ≤ 9223372036854775807) :
    Calls Tryd.prog 35 #[.string p, .string q] w (Ret (.bool (rwithinB p.data.toList q.data.toList)) w) := by
  have hr : rwithinB p.data.toList q.data.toList = if !rpatB p.data.toList || !rpatB q.data.toList then false else if !starB p.data.toList then rmatchB q.data.toList p.data.toList else starB q.data.toList && (starOf p.data.toList == starOf q.data.toList || belowB (starOf p.data.toList) (starOf q.data.toList)) := rfl
  have HR := Lib.hid hr; clear hr
  cases h1 : rpatB p.data.toList
  · have H1 := Lib.hid h1; clear h1
    go_enter Tryd.func35, Tryd.ntmps35
    go_wp2_with fail
    refine (rPattern_any p _ hp).mono ?_; rintro e w1 ⟨rfl, hE1⟩; rw [H1.out]
    go_wp2
    go_ret
    exact ⟨ret_bool (by rw [HR.out, H1.out]; rfl), hE1⟩
  · have H1 := Lib.hid h1; clear h1
    cases h2 : rpatB q.data.toList
    · have H2 := Lib.hid h2; clear h2
      go_enter Tryd.func35, Tryd.ntmps35
      go_wp2_with fail
      refine (rPattern_any p _ hp).mono ?_; rintro e w1 ⟨rfl, hE1⟩; rw [H1.out]
      go_wp2_with fail
      refine (rPattern_any q _ hq).mono ?_; rintro e w2 ⟨rfl, hE2⟩; rw [H2.out]
      go_wp2
      go_ret
      exact ⟨ret_bool (by rw [HR.out, H1.out, H2.out]; rfl), ext_trans hE1 hE2⟩
    · have H2 := Lib.hid h2; clear h2
      cases h3 : starB p.data.toList
      · have H3 := Lib.hid h3; clear h3
        go_enter Tryd.func35, Tryd.ntmps35
        go_wp2_with fail
        refine (rPattern_any p _ hp).mono ?_; rintro e w1 ⟨rfl, hE1⟩; rw [H1.out]
        go_wp2_with fail
        refine (rPattern_any q _ hq).mono ?_; rintro e w2 ⟨rfl, hE2⟩; rw [H2.out]
        go_wp2_with fail
        refine (rStar_any p _ hp).mono ?_; rintro e w3 ⟨rfl, hE3⟩; rw [H3.out]
        go_wp2_with fail
        refine (rMatch_any q p _ hq hp).mono ?_; rintro e w4 ⟨rfl, hE4⟩
        go_wp2
        go_ret
        exact ⟨ret_bool (by rw [HR.out, H1.out, H2.out, H3.out]; rfl), ext_trans (ext_trans (ext_trans hE1 hE2) hE3) hE4⟩
      · have H3 := Lib.hid h3; clear h3
        cases h4 : starB q.data.toList
        all_goals
          have H4 := Lib.hid h4; clear h4
          cases h5 : (starOf p.data.toList == starOf q.data.toList)
        all_goals
          have H5 := Lib.hid h5
          go_enter Tryd.func35, Tryd.ntmps35
          go_wp2_with fail
          refine (rPattern_any p _ hp).mono ?_; rintro e w1 ⟨rfl, hE1⟩; rw [H1.out]
          go_wp2_with fail
          refine (rPattern_any q _ hq).mono ?_; rintro e w2 ⟨rfl, hE2⟩; rw [H2.out]
          go_wp2_with fail
          refine (rStar_any p _ hp).mono ?_; rintro e w3 ⟨rfl, hE3⟩; rw [H3.out]
          go_wp2_with fail
          refine (rStar_any q _ hq).mono ?_; rintro e w4 ⟨rfl, hE4⟩; rw [H4.out]
          go_wp2_with (go_at_call 51; refine (rbelow_any _ _ _ (starOf_size hp)).mono ?_; rintro e w5 ⟨rfl, hE5⟩)
          go_ret
          refine ⟨ret_bool (by rw [HR.out, H1.out, H2.out, H3.out, H4.out, H5.out]; first | rfl | simp), ?_⟩
          first | exact ext_trans (ext_trans (ext_trans (ext_trans hE1 hE2) hE3) hE4) hE5 | exact ext_trans (ext_trans (ext_trans hE1 hE2) hE3) hE4
set_option maxHeartbeats 1000000 in
theorem rMeets_any (p q : ByteArray) (w : World) (hp : p.size ≤ 9223372036854775807) (hq : q.size ≤ 9223372036854775807) :
    Calls Tryd.prog 37 #[.string p, .string q] w (Ret (.bool (rmeetsB p.data.toList q.data.toList)) w) := by
  have hr : rmeetsB p.data.toList q.data.toList = if starB p.data.toList && starB q.data.toList then starOf p.data.toList == starOf q.data.toList || belowB (starOf p.data.toList) (starOf q.data.toList) || belowB (starOf q.data.toList) (starOf p.data.toList) else rmatchB p.data.toList q.data.toList || rmatchB q.data.toList p.data.toList := rfl
  have HR := Lib.hid hr; clear hr
  cases h12 : (starB p.data.toList && starB q.data.toList)
  · have H12 := Lib.hid h12; clear h12
    cases h3 : starB p.data.toList
    all_goals cases h4 : starB q.data.toList
    all_goals have H3 := Lib.hid h3; have H4 := Lib.hid h4; clear h3 h4
    · cases h5 : rmatchB p.data.toList q.data.toList
      all_goals
        have H5 := Lib.hid h5; clear h5
        go_enter Tryd.func37, Tryd.ntmps37
        go_wp2_with fail
        refine (rStar_any p _ hp).mono ?_; rintro e w1 ⟨rfl, hE1⟩; rw [H3.out]
        go_wp2_with fail
        refine (rStar_any q _ hq).mono ?_; rintro e w2 ⟨rfl, hE2⟩; rw [H4.out]
        go_wp2_with fail
        refine (rMatch_any p q _ hp hq).mono ?_; rintro e w3 ⟨rfl, hE3⟩; rw [H5.out]
        go_wp2_with (go_at_call 33; refine (rMatch_any q p _ hq hp).mono ?_; rintro e w4 ⟨rfl, hE4⟩)
        go_ret
        refine ⟨ret_bool (by rw [HR.out, H3.out, H4.out, H5.out]; rfl), ?_⟩
        first | exact ext_trans (ext_trans (ext_trans hE1 hE2) hE3) hE4 | exact ext_trans (ext_trans hE1 hE2) hE3
    · cases h5 : rmatchB p.data.toList q.data.toList
      all_goals
        have H5 := Lib.hid h5; clear h5
        go_enter Tryd.func37, Tryd.ntmps37
        go_wp2_with fail
        refine (rStar_any p _ hp).mono ?_; rintro e w1 ⟨rfl, hE1⟩; rw [H3.out]
        go_wp2_with fail
        refine (rStar_any q _ hq).mono ?_; rintro e w2 ⟨rfl, hE2⟩; rw [H4.out]
        go_wp2_with fail
        refine (rMatch_any p q _ hp hq).mono ?_; rintro e w3 ⟨rfl, hE3⟩; rw [H5.out]
        go_wp2_with (go_at_call 33; refine (rMatch_any q p _ hq hp).mono ?_; rintro e w4 ⟨rfl, hE4⟩)
        go_ret
        refine ⟨ret_bool (by rw [HR.out, H3.out, H4.out, H5.out]; rfl), ?_⟩
        first | exact ext_trans (ext_trans (ext_trans hE1 hE2) hE3) hE4 | exact ext_trans (ext_trans hE1 hE2) hE3
    · cases h5 : rmatchB p.data.toList q.data.toList
      all_goals
        have H5 := Lib.hid h5; clear h5
        go_enter Tryd.func37, Tryd.ntmps37
        go_wp2_with fail
        refine (rStar_any p _ hp).mono ?_; rintro e w1 ⟨rfl, hE1⟩; rw [H3.out]
        go_wp2_with fail
        refine (rStar_any q _ hq).mono ?_; rintro e w2 ⟨rfl, hE2⟩; rw [H4.out]
        go_wp2_with fail
        refine (rMatch_any p q _ hp hq).mono ?_; rintro e w3 ⟨rfl, hE3⟩; rw [H5.out]
        go_wp2_with (go_at_call 33; refine (rMatch_any q p _ hq hp).mono ?_; rintro e w4 ⟨rfl, hE4⟩)
        go_ret
        refine ⟨ret_bool (by rw [HR.out, H3.out, H4.out, H5.out]; rfl), ?_⟩
        first | exact ext_trans (ext_trans (ext_trans hE1 hE2) hE3) hE4 | exact ext_trans (ext_trans hE1 hE2) hE3
    · have := H12.out; rw [H3.out, H4.out] at this; cases this
  · obtain ⟨h3, h4⟩ := Bool.and_eq_true _ _ ▸ h12
    have H12 := Lib.hid h12; have H3 := Lib.hid h3; have H4 := Lib.hid h4; clear h12 h3 h4
    cases h5 : (starOf p.data.toList == starOf q.data.toList)
    all_goals cases h6 : belowB (starOf p.data.toList) (starOf q.data.toList)
    all_goals
      have H5 := Lib.hid h5; have H6 := Lib.hid h6; clear h6
      go_enter Tryd.func37, Tryd.ntmps37
      go_wp2_with fail
      refine (rStar_any p _ hp).mono ?_; rintro e w1 ⟨rfl, hE1⟩; rw [H3.out]
      go_wp2_with fail
      refine (rStar_any q _ hq).mono ?_; rintro e w2 ⟨rfl, hE2⟩; rw [H4.out]
      go_wp2_with fail
    · refine (rbelow_any _ _ _ (starOf_size hp)).mono ?_; rintro e w3 ⟨rfl, hE3⟩; rw [H6.out]
      go_wp2_with fail
      refine (rbelow_any _ _ _ (starOf_size hq)).mono ?_; rintro e w4 ⟨rfl, hE4⟩
      go_wp2
      go_ret
      exact ⟨ret_bool (by rw [HR.out, H3.out, H4.out, H5.out, H6.out]; rfl), ext_trans (ext_trans (ext_trans hE1 hE2) hE3) hE4⟩
    · refine (rbelow_any _ _ _ (starOf_size hp)).mono ?_; rintro e w3 ⟨rfl, hE3⟩; rw [H6.out]
      go_wp2
      go_ret
      exact ⟨ret_bool (by rw [HR.out, H3.out, H4.out, H5.out, H6.out]; rfl), ext_trans (ext_trans hE1 hE2) hE3⟩
    · go_ret
      exact ⟨ret_bool (by rw [HR.out, H3.out, H4.out, H5.out, H6.out]; rfl), ext_trans hE1 hE2⟩
    · go_ret
      exact ⟨ret_bool (by rw [HR.out, H3.out, H4.out, H5.out, H6.out]; rfl), ext_trans hE1 hE2⟩
end Go.Proofs.YtjjkonaopmipoaaDoor
