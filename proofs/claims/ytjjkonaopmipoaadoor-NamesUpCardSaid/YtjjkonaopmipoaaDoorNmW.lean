/- Walk: the chapter's example (live), by a program of mine (gen_live11.py). -/
import Derived.Test.YtjjkonaopmipoaaDoorNmV
namespace Go.Proofs.YtjjkonaopmipoaaDoor
open Go.RowKit Nam

theorem Check_eq (s : ByteArray) (b : Bool) (w : World) (hs : s.size ≤ 9223372036854775807) (hb : isB s.data.toList = b) :
    Calls Tryd.prog 20 #[.string s] w (Ret (.int .i64 (if b then 0 else 110)) w) := by rw [← hb]; exact Check_any s w hs
theorem Pattern_eq (s : ByteArray) (b : Bool) (w : World) (hs : s.size ≤ 9223372036854775807) (hb : (pattern s.data.toList).2.2 = b) :
    Calls Tryd.prog 22 #[.string s] w (Ret (.int .i64 (if b then 0 else 110)) w) := by rw [← hb]; exact Pattern_any s w hs
theorem Up_eq (s x : ByteArray) (w : World) (hs : s.size ≤ 9223372036854775807) (hb : up s.data.toList = x.data.toList) (hw : Env w) :
    Calls Tryd.prog 27 #[.string s] w (Ret (.string x) w) := by
  have := Up_any s w hs hw
  rwa [hb, eta] at this
theorem Under_eq (s o : ByteArray) (b : Bool) (w : World) (hs : s.size ≤ 9223372036854775807) (_ : o.size ≤ 9223372036854775807) (hb : underB s.data.toList o.data.toList = b) (hw : Env w) :
    Calls Tryd.prog 30 #[.string s, .string o] w (Ret (.bool b) w) := by rw [← hb]; exact Under_any s o w hs hw
theorem Match_eq (s o : ByteArray) (b : Bool) (w : World) (hs : s.size ≤ 9223372036854775807) (ho : o.size ≤ 9223372036854775807) (hb : matchB s.data.toList o.data.toList = b) (hw : Env w) :
    Calls Tryd.prog 32 #[.string s, .string o] w (Ret (.bool b) w) := by rw [← hb]; exact Match_any s o w hs ho hw
theorem Within_eq (s o : ByteArray) (b : Bool) (w : World) (hs : s.size ≤ 9223372036854775807) (ho : o.size ≤ 9223372036854775807) (hb : withinB s.data.toList o.data.toList = b) (hw : Env w) :
    Calls Tryd.prog 34 #[.string s, .string o] w (Ret (.bool b) w) := by rw [← hb]; exact Within_any s o w hs ho hw
theorem Meets_eq (s o : ByteArray) (b : Bool) (w : World) (hs : s.size ≤ 9223372036854775807) (ho : o.size ≤ 9223372036854775807) (hb : meetsB s.data.toList o.data.toList = b) (hw : Env w) :
    Calls Tryd.prog 36 #[.string s, .string o] w (Ret (.bool b) w) := by rw [← hb]; exact Meets_any s o w hs ho hw
theorem sl_abc (w : World) : Sl (w.alloc (.cells #[.string ⟨#[97]⟩, .string ⟨#[98]⟩, .string ⟨#[99]⟩] 9)) (.slice (some ⟨w.heap.size, 0, none⟩) 3 3) (([[97], [98], [99]] : List Str).map strV) := by
  refine .inr ⟨w.heap.size, 0, 3, rfl, Nat.le_refl _, by unfold maxLen; omega, ?_⟩
  intro i x hx
  match i, hx with
  | 0, hx => simp [strV] at hx; subst hx; simp [go_sem]
  | 1, hx => simp [strV] at hx; subst hx; simp [go_sem]
  | 2, hx => simp [strV] at hx; subst hx; simp [go_sem]
  | i + 3, hx => simp at hx
theorem sl_labels {w : World} {v : Value} {o : Obj} (h : Sl w v ((if isB (⟨#[97, 46, 98, 46, 99]⟩ : ByteArray).data.toList then cut (⟨#[97, 46, 98, 46, 99]⟩ : ByteArray).data.toList else []).map strV)) : Sl (w.alloc o) v (([[97], [98], [99]] : List Str).map strV) := by
  have e : (if isB (⟨#[97, 46, 98, 46, 99]⟩ : ByteArray).data.toList then cut (⟨#[97, 46, 98, 46, 99]⟩ : ByteArray).data.toList else []) = [[97], [98], [99]] := by decide +kernel
  rw [e] at h
  exact h.ext ((Below.refl _ _).alloc (Nat.le_refl _) _)
set_option maxRecDepth 100000 in
set_option maxHeartbeats 4000000 in
theorem live_any (w : World) (hw : Env w) : Calls Tryd.prog 19 #[] w (Ret (.bool true) w) := by
  have HW := Lib.hid hw; clear hw
  have hE : Ext w w := Below.refl _ _
  go_enter Tryd.func19, Tryd.ntmps19
  go_wp2_with fail
  refine (Check_eq ⟨#[97, 46, 98, 46, 99]⟩ true _ (by decide) (by decide +kernel)).mono ?_; rintro e w0 ⟨rfl, h0⟩; replace hE := ext_trans hE h0; clear h0
  go_wp2_with fail
  refine (Check_eq ⟨#[95, 97]⟩ true _ (by decide) (by decide +kernel)).mono ?_; rintro e w1 ⟨rfl, h1⟩; replace hE := ext_trans hE h1; clear h1
  go_wp2_with fail
  refine (Pattern_eq ⟨#[42, 46, 99]⟩ true _ (by decide) (by decide +kernel)).mono ?_; rintro e w2 ⟨rfl, h2⟩; replace hE := ext_trans hE h2; clear h2
  go_wp2_with fail
  refine (Check_eq ⟨#[42, 46, 99]⟩ false _ (by decide) (by decide +kernel)).mono ?_; rintro e w3 ⟨rfl, h3⟩; replace hE := ext_trans hE h3; clear h3
  go_wp2_with fail
  refine (Check_eq ⟨#[45, 97]⟩ false _ (by decide) (by decide +kernel)).mono ?_; rintro e w4 ⟨rfl, h4⟩; replace hE := ext_trans hE h4; clear h4
  go_wp2_with fail
  refine (Check_eq ⟨#[97, 46, 46, 98]⟩ false _ (by decide) (by decide +kernel)).mono ?_; rintro e w5 ⟨rfl, h5⟩; replace hE := ext_trans hE h5; clear h5
  go_wp2_with fail
  refine (Check_eq ⟨#[97, 45]⟩ false _ (by decide) (by decide +kernel)).mono ?_; rintro e w6 ⟨rfl, h6⟩; replace hE := ext_trans hE h6; clear h6
  go_wp2_with fail
  refine (Check_eq ⟨#[95]⟩ false _ (by decide) (by decide +kernel)).mono ?_; rintro e w7 ⟨rfl, h7⟩; replace hE := ext_trans hE h7; clear h7
  go_wp2_with fail
  refine (Check_eq ⟨#[]⟩ false _ (by decide) (by decide +kernel)).mono ?_; rintro e w8 ⟨rfl, h8⟩; replace hE := ext_trans hE h8; clear h8
  go_wp2_with fail
  refine (Pattern_eq ⟨#[42, 46]⟩ false _ (by decide) (by decide +kernel)).mono ?_; rintro e w9 ⟨rfl, h9⟩; replace hE := ext_trans hE h9; clear h9
  go_wp2_with fail
  refine (Labels_any ⟨#[97, 46, 98, 46, 99]⟩ _ (by decide) (HW.out.ext hE)).mono ?_; rintro e w10 ⟨v, rfl, hv, h10⟩; replace hE := ext_trans hE h10; clear h10; have HV := Lib.hid hv; clear hv
  go_wp2_with fail
  refine (Same_any [[97], [98], [99]] [[97], [98], [99]] v _ _ (sl_labels HV.out) (sl_abc _)).mono ?_; rintro e w11 ⟨rfl, h11⟩; replace hE := ext_trans (ext_trans hE ((Below.refl _ _).alloc (Nat.le_refl _) _)) h11; clear h11; rw [show ([[97], [98], [99]] == ([[97], [98], [99]] : List Str)) = true from by decide]
  go_wp2_with fail
  refine (Up_eq ⟨#[97, 46, 98, 46, 99]⟩ ⟨#[98, 46, 99]⟩ _ (by decide) (by decide +kernel) (HW.out.ext hE)).mono ?_; rintro e w12 ⟨rfl, h12⟩; replace hE := ext_trans hE h12; clear h12
  go_wp2_with fail
  refine (Up_eq ⟨#[99]⟩ ⟨#[]⟩ _ (by decide) (by decide +kernel) (HW.out.ext hE)).mono ?_; rintro e w13 ⟨rfl, h13⟩; replace hE := ext_trans hE h13; clear h13
  go_wp2_with fail
  refine (Under_eq ⟨#[97, 46, 98, 46, 99]⟩ ⟨#[99]⟩ true _ (by decide) (by decide) (by decide +kernel) (HW.out.ext hE)).mono ?_; rintro e w14 ⟨rfl, h14⟩; replace hE := ext_trans hE h14; clear h14
  go_wp2_with fail
  refine (Under_eq ⟨#[99]⟩ ⟨#[99]⟩ true _ (by decide) (by decide) (by decide +kernel) (HW.out.ext hE)).mono ?_; rintro e w15 ⟨rfl, h15⟩; replace hE := ext_trans hE h15; clear h15
  go_wp2_with fail
  refine (Under_eq ⟨#[97, 99]⟩ ⟨#[99]⟩ false _ (by decide) (by decide) (by decide +kernel) (HW.out.ext hE)).mono ?_; rintro e w16 ⟨rfl, h16⟩; replace hE := ext_trans hE h16; clear h16
  go_wp2_with fail
  refine (Match_eq ⟨#[42, 46, 99]⟩ ⟨#[97, 46, 98, 46, 99]⟩ true _ (by decide) (by decide) (by decide +kernel) (HW.out.ext hE)).mono ?_; rintro e w17 ⟨rfl, h17⟩; replace hE := ext_trans hE h17; clear h17
  go_wp2_with fail
  refine (Match_eq ⟨#[42, 46, 99]⟩ ⟨#[99]⟩ false _ (by decide) (by decide) (by decide +kernel) (HW.out.ext hE)).mono ?_; rintro e w18 ⟨rfl, h18⟩; replace hE := ext_trans hE h18; clear h18
  go_wp2_with fail
  refine (Within_eq ⟨#[42, 46, 98, 46, 99]⟩ ⟨#[42, 46, 99]⟩ true _ (by decide) (by decide) (by decide +kernel) (HW.out.ext hE)).mono ?_; rintro e w19 ⟨rfl, h19⟩; replace hE := ext_trans hE h19; clear h19
  go_wp2_with fail
  refine (Within_eq ⟨#[42, 46, 99]⟩ ⟨#[42, 46, 98, 46, 99]⟩ false _ (by decide) (by decide) (by decide +kernel) (HW.out.ext hE)).mono ?_; rintro e w20 ⟨rfl, h20⟩; replace hE := ext_trans hE h20; clear h20
  go_wp2_with fail
  refine (Meets_eq ⟨#[42, 46, 99]⟩ ⟨#[42, 46, 98, 46, 99]⟩ true _ (by decide) (by decide) (by decide +kernel) (HW.out.ext hE)).mono ?_; rintro e w21 ⟨rfl, h21⟩; replace hE := ext_trans hE h21; clear h21
  go_wp2_with fail
  refine (Meets_eq ⟨#[42, 46, 99]⟩ ⟨#[99]⟩ false _ (by decide) (by decide) (by decide +kernel) (HW.out.ext hE)).mono ?_; rintro e w22 ⟨rfl, h22⟩; replace hE := ext_trans hE h22; clear h22
  go_wp2
  go_ret
  exact ⟨rfl, hE⟩
end Go.Proofs.YtjjkonaopmipoaaDoor
