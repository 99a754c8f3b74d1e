/- Walks: law33's owns and live. -/
import Derived.Test.YtjjkonaopmipoaaDoorAuF
namespace Go.Proofs.YtjjkonaopmipoaaDoor
open Go.RowKit Nam Aud

def ownsL : List Ev := [⟨1, 0, ⟨#[97, 110, 110]⟩, ⟨#[97]⟩, 0, 0⟩, ⟨1, 1, ⟨#[98, 111, 98]⟩, ⟨#[120, 46, 97]⟩, 0, 0⟩]
set_option maxHeartbeats 1000000 in
theorem owns_any (w : World) : Calls Tryd.prog 38 #[] w fun e w' => ∃ b, e = .returned (.slice (some ⟨b, 0, none⟩) 2 2) ∧ Evs w' (some ⟨b, 0, none⟩) ownsL ∧ Ext w w' := by
  go_enter Tryd.func38, Tryd.ntmps38
  go_wp2
  go_ret
  refine ⟨w.heap.size, rfl, ?_, ext_alloc (Below.refl _ _) _⟩
  intro i x hx
  refine ⟨w.heap.size, 0, rfl, ?_⟩
  match i, hx with
  | 0, hx => cases hx; exact ⟨by simp [go_sem], by simp [go_sem], by simp [go_sem], by simp [go_sem], by simp [go_sem], by simp [go_sem]⟩
  | 1, hx => cases hx; exact ⟨by simp [go_sem], by simp [go_sem], by simp [go_sem], by simp [go_sem], by simp [go_sem], by simp [go_sem]⟩
  | i + 2, hx => simp [ownsL] at hx
theorem aOwner_eq (s : ByteArray) (now : Int) (x : ByteArray) (b : Nat) (w : World) (hs : s.size ≤ 9223372036854775807) (hx : ownerB ownsL s.data.toList now = x) (hl : Evs w (some ⟨b, 0, none⟩) ownsL) (hw : Env w) :
    Calls Tryd.prog 15 #[.slice (some ⟨b, 0, none⟩) 2 2, .string s, .int .i64 now] w (Ret (.string x) w) := by
  rw [← hx]; exact aOwner_any ownsL s now _ 2 2 w rfl (by unfold maxLen; omega) hl hs hw
set_option maxHeartbeats 1000000 in
theorem live33_any (w : World) (hw : Env w) : Calls Tryd.prog 13 #[] w (Ret (.bool true) w) := by
  have HW := Lib.hid hw; clear hw
  go_enter Tryd.func13, Tryd.ntmps13
  go_wp2_with fail
  refine (owns_any _).mono ?_; rintro e w1 ⟨b, rfl, hev, hE⟩
  have HV := Lib.hid hev; clear hev
  have h1 : Ext w1 w1 := Below.refl _ _
  go_wp2_with fail
  refine (aOwner_eq ⟨#[121, 46, 120, 46, 97]⟩ 1 ⟨#[98, 111, 98]⟩ b _ (by decide) (by decide +kernel) (HV.out.ext h1) (HW.out.ext (ext_trans hE h1))).mono ?_; rintro e w2 ⟨rfl, h2⟩; replace h1 := ext_trans h1 h2; clear h2
  go_wp2_with fail
  refine (aOwner_eq ⟨#[121, 46, 97]⟩ 1 ⟨#[97, 110, 110]⟩ b _ (by decide) (by decide +kernel) (HV.out.ext h1) (HW.out.ext (ext_trans hE h1))).mono ?_; rintro e w2 ⟨rfl, h2⟩; replace h1 := ext_trans h1 h2; clear h2
  go_wp2_with fail
  refine (aOwner_eq ⟨#[120, 46, 97]⟩ 0 ⟨#[97, 110, 110]⟩ b _ (by decide) (by decide +kernel) (HV.out.ext h1) (HW.out.ext (ext_trans hE h1))).mono ?_; rintro e w2 ⟨rfl, h2⟩; replace h1 := ext_trans h1 h2; clear h2
  go_wp2_with fail
  refine (aOwner_eq ⟨#[98]⟩ 1 ⟨#[]⟩ b _ (by decide) (by decide +kernel) (HV.out.ext h1) (HW.out.ext (ext_trans hE h1))).mono ?_; rintro e w2 ⟨rfl, h2⟩; replace h1 := ext_trans h1 h2; clear h2
  go_wp2_with fail
  go_ret
  exact ⟨rfl, ext_trans hE h1⟩
end Go.Proofs.YtjjkonaopmipoaaDoor
