/- The law NamesLabel: its walk. -/
import Derived.Test.YtjjkonaopmipoaaDoorNc5
namespace Go.Proofs.YtjjkonaopmipoaaDoor
open Go.RowKit Nam
attribute [local go_sem] okOr_true okOr_false

/-- A slice of so many. -/
def LenIs (n : Nat) (w : World) (e : Ending) (w' : World) : Prop := ∃ a cap, e = .returned (.slice a n cap) ∧ Ext w w'
/-- A slice of so many, of which the first one is that text. -/
def HeadIs (n : Nat) (x : ByteArray) (w : World) (e : Ending) (w' : World) : Prop := ∃ b off cap, e = .returned (.slice (some ⟨b, off, none⟩) n cap) ∧ w'.cell? ⟨b, off, none⟩ = some (.string x) ∧ cap ≤ maxLen ∧ Ext w w'
theorem Labels_len (s : ByteArray) (w : World) (n : Nat) (hn : (if isB s.data.toList then cut s.data.toList else []).length = n) (hs : s.size ≤ 9223372036854775807) (hw : Env w) :
    Calls Tryd.prog 25 #[.string s] w (LenIs n w) := by
  refine (Labels_any s w hs hw).mono ?_
  rintro e w' ⟨v, rfl, hv, hE⟩
  obtain ⟨a, cap, rfl⟩ := hv.form
  rw [List.length_map, hn]
  exact ⟨a, cap, rfl, hE⟩
theorem Labels_head (s : ByteArray) (w : World) (n : Nat) (x : ByteArray) (r : List Str) (hb : isB s.data.toList = true) (hc : cut s.data.toList = x.data.toList :: r) (hn : r.length + 1 = n) (hs : s.size ≤ 9223372036854775807) (hw : Env w) :
    Calls Tryd.prog 25 #[.string s] w (HeadIs n x w) := by
  refine (Labels_any s w hs hw).mono ?_
  rintro e w' ⟨v, rfl, hv, hE⟩
  rw [hb, if_pos rfl, hc] at hv
  rcases hv with ⟨h0, _⟩ | ⟨b, off, cap, rfl, hcap, hmax, hcell⟩
  · cases h0
  · refine ⟨b, off, cap, ?_, ?_, ?_, hE⟩
    · rw [List.length_map, List.length_cons, hn]
    · have := Cells.at (k := 0) hcell rfl
      rw [Nat.add_zero, eta] at this; exact this
    · first | exact hmax | exact hcap | omega
theorem more_data (x s : ByteArray) : ((x ++ (⟨#[46]⟩ : ByteArray)) ++ s).data.toList = x.data.toList ++ 46 :: s.data.toList := by simp
/-- No dot up to there. -/
def NoDot (x : ByteArray) (k : Nat) : Prop := ∀ (j : Nat) (c : UInt8), j < k → x.data.toList[j]? = some c → c ≠ 46
theorem nodot_all {x : ByteArray} (h : NoDot x x.size) : ∀ c ∈ x.data.toList, c ≠ (46 : UInt8) := by
  intro c hc
  obtain ⟨j, hj⟩ := List.mem_iff_getElem?.1 hc
  refine h j c ?_ hj
  have := (List.getElem?_eq_some_iff.1 hj).1
  rw [Lib.size_eq]; exact this
theorem nodot_step {x : ByteArray} {k : Nat} (hk : k < x.size) (h : NoDot x k) (hc : x[k] ≠ 46) : NoDot x (k + 1) := by
  intro j c hj hx
  by_cases e : j = k
  · subst e
    rw [Lib.data_getElem? x j hk] at hx
    injection hx with hx
    rw [← hx]; exact hc
  · exact h j c (by omega) hx
set_option maxRecDepth 100000 in
set_option maxHeartbeats 1000000 in
theorem NamesLabel_any (x s : ByteArray) (w : World) (hw : Env w) (hx : x.size ≤ 9223372036854775807) (hs : s.size ≤ 9223372036854775807) :
    Calls Tryd.prog 11 #[.string x, .string s] w (Ret (.bool true) w) := by
  have HW := Lib.hid hw; clear hw
  have hE : Ext w w := Below.refl _ _
  cases hsh : shortB x s ⟨#[]⟩
  · go_enter Tryd.func11, Tryd.ntmps11
    go_wp2_with (first
    | (go_at_call 19; refine (live_any _ (HW.out.ext hE)).mono ?_; rintro e w1 ⟨rfl, h2⟩; replace hE := ext_trans hE h2; clear h2)
    | (go_at_call 29; refine (short_any _ _ _ _).mono ?_; rintro e w1 ⟨rfl, h2⟩; replace hE := ext_trans hE h2; clear h2))
    go_ret
    exact ⟨rfl, hE⟩
  cases hb : isB s.data.toList
  · go_enter Tryd.func11, Tryd.ntmps11
    go_wp2_with (first
    | (go_at_call 19; refine (live_any _ (HW.out.ext hE)).mono ?_; rintro e w1 ⟨rfl, h2⟩; replace hE := ext_trans hE h2; clear h2)
    | (go_at_call 29; refine (short_any _ _ _ _).mono ?_; rintro e w1 ⟨rfl, h2⟩; replace hE := ext_trans hE h2; clear h2)
    | (go_at_call 20; refine (Check_any _ _ (by assumption)).mono ?_; rintro e w1 ⟨rfl, h2⟩; replace hE := ext_trans hE h2; clear h2))
    go_ret
    exact ⟨rfl, hE⟩
  have hsz : s.size ≤ 1000 := by unfold shortB at hsh; simp at hsh; omega
  have hxz : x.size ≤ 1000 := by unfold shortB at hsh; simp at hsh; omega
  obtain ⟨X, hX⟩ : ∃ X, (x ++ (⟨#[46]⟩ : ByteArray)) ++ s = X := ⟨_, rfl⟩
  have hXd := more_data x s
  rw [hX] at hXd
  have hXs : X.size ≤ 9223372036854775807 := by rw [Lib.size_eq, hXd, List.length_append, List.length_cons, ← Lib.size_eq, ← Lib.size_eq]; omega
  have HX := Lib.hid hX; have HXD := Lib.hid hXd; clear hX hXd
  obtain ⟨n, hn⟩ : ∃ n, (cut s.data.toList).length = n := ⟨_, rfl⟩
  have hn2 : (if isB s.data.toList then cut s.data.toList else []).length = n := by rw [hb]; exact hn
  have HN := Lib.hid hn; have HN2 := Lib.hid hn2; clear hn hn2
  go_enter Tryd.func11, Tryd.ntmps11
  go_wp2_with (first
    | (go_at_call 19; refine (live_any _ (HW.out.ext hE)).mono ?_; rintro e w1 ⟨rfl, h2⟩; replace hE := ext_trans hE h2; clear h2)
    | (go_at_call 29; refine (short_any _ _ _ _).mono ?_; rintro e w1 ⟨rfl, h2⟩; replace hE := ext_trans hE h2; clear h2)
    | (go_at_call 20; refine (Check_any _ _ (by assumption)).mono ?_; rintro e w1 ⟨rfl, h2⟩; replace hE := ext_trans hE h2; clear h2))
  go_loopw [5] (fun i wr => ∃ k : Nat, k ≤ x.size ∧ i = .int .i64 k ∧ NoDot x k ∧ wr = w1) (fun i _ => x.size - (intOf i).toNat)
  case atStart => exact ⟨0, Nat.zero_le _, rfl, (fun j c hj => by omega), rfl⟩
  case round =>
    obtain ⟨k, hk, rfl, hnone, rfl⟩ := hrel
    have HNO := Lib.hid hnone; clear hnone
    by_cases hlt : k < x.size
    · cases hc : ((x[k].toNat : Int) == 46)
      · go_wp2_with fail
        go_roundw
        case rel => exact ⟨k + 1, by omega, by go_num, nodot_step hlt HNO.out (by rintro h; rw [h] at hc; cases hc), trivial⟩
        case measure => simp [intOf]; omega
      · go_wp2_with fail
        go_ret
        exact ⟨rfl, hE⟩
    · obtain rfl : k = x.size := by omega
      have hx46 := nodot_all HNO.out
      have hmore := more_name hx46 hb
      rw [← HXD.out, ← Lib.size_eq, HN.out] at hmore
      have HMO := Lib.hid hmore; clear hmore
      have HUP : Hid (isB X.data.toList = true → up X.data.toList = s.data.toList) := fun h => by rw [HXD.out] at h ⊢; exact up_cons hx46 h
      have HUN : Hid (isB X.data.toList = true → underB X.data.toList s.data.toList = true) := fun h => by rw [HXD.out] at h ⊢; exact more_under hx46 hb h
      have hcut : cut X.data.toList = x.data.toList :: cut s.data.toList := by rw [HXD.out]; exact cut_cons hx46
      have HC := Lib.hid hcut; clear hcut hx46
      go_upto_region 11 with fail
      rw [HX.out]
      cases hl : isB x.data.toList
      all_goals cases h64 : decide (X.size ≤ 64)
      all_goals cases h8 : decide (n < 8)
      all_goals have hBX := HMO.out
      all_goals
        rw [hl, h64, h8] at hBX
        simp at hBX
      all_goals
        have h64' : decide ((X.size : Int) ≤ 64) = decide (X.size ≤ 64) := by rw [Bool.eq_iff_iff]; simp; omega
        have h8' : decide ((n : Int) < 8) = decide (n < 8) := by rw [Bool.eq_iff_iff]; simp; omega
        rw [h64] at h64'
        rw [h8] at h8'
      iterate 7
        · have HUP0 : Hid (up X.data.toList = (⟨#[]⟩ : ByteArray).data.toList) := up_no hBX
          have HX0 : Hid ((if isB X.data.toList then cut X.data.toList else []).length = 0) := by rw [hBX]; rfl
          go_upto_region 12 with (first
    | (go_at_call 20; refine (Check_any _ _ (by assumption)).mono ?_; rintro e w1 ⟨rfl, h2⟩; replace hE := ext_trans hE h2; clear h2)
    | (go_at_call 25; refine (Labels_len _ _ n HN2.out (by assumption) (HW.out.ext hE)).mono ?_; rintro e w1 ⟨a1, c1, rfl, h2⟩; replace hE := ext_trans hE h2; clear h2))
          go_wp2_with fail
          refine (Check_any _ _ (by assumption)).mono ?_; rintro e w1 ⟨rfl, h2⟩; replace hE := ext_trans hE h2; clear h2
          go_upto_region 15 with fail
          go_wp2_with (first
    | (go_at_call 25; refine (Labels_len _ _ 0 HX0.out (by assumption) (HW.out.ext hE)).mono ?_; rintro e w1 ⟨a1, c1, rfl, h2⟩; replace hE := ext_trans hE h2; clear h2)
    | (go_at_call 27; refine (Up_eq _ ⟨#[]⟩ _ (by assumption) HUP0.out (HW.out.ext hE)).mono ?_; rintro e w1 ⟨rfl, h2⟩; replace hE := ext_trans hE h2; clear h2))
          go_ret
          exact ⟨rfl, hE⟩
      have HUP2 := Lib.hid (HUP.out hBX)
      have hund := HUN.out hBX
      have hn0 : decide ((0 : Int) < ((n + 1 : Nat) : Int)) = true := by simp
      go_upto_region 12 with (first
    | (go_at_call 20; refine (Check_any _ _ (by assumption)).mono ?_; rintro e w1 ⟨rfl, h2⟩; replace hE := ext_trans hE h2; clear h2)
    | (go_at_call 25; refine (Labels_len _ _ n HN2.out (by assumption) (HW.out.ext hE)).mono ?_; rintro e w1 ⟨a1, c1, rfl, h2⟩; replace hE := ext_trans hE h2; clear h2))
      go_wp2_with fail
      refine (Check_any _ _ (by assumption)).mono ?_; rintro e w1 ⟨rfl, h2⟩; replace hE := ext_trans hE h2; clear h2
      go_upto_region 17 with (first
    | (go_at_call 25; refine (Labels_head _ _ (n + 1) x _ (by assumption) HC.out (by rw [HN.out]) (by assumption) (HW.out.ext hE)).mono ?_; rintro e w1 ⟨b1, o1, c1, rfl, hc1, hm1, h2⟩; replace hE := ext_trans hE h2; clear h2))
      go_wp2_with (first
    | (go_at_call 27; refine (Up_eq _ s _ (by assumption) HUP2.out (HW.out.ext hE)).mono ?_; rintro e w1 ⟨rfl, h2⟩; replace hE := ext_trans hE h2; replace hc1 := (h2.cell (cell_lt hc1)).trans hc1; clear h2)
    | (go_at_call 30; refine (Under_any _ _ _ (by assumption) (HW.out.ext hE)).mono ?_; rintro e w1 ⟨rfl, h2⟩; replace hE := ext_trans hE h2; clear h2))
      go_ret
      exact ⟨ret_bool (by simp), hE⟩
end Go.Proofs.YtjjkonaopmipoaaDoor
