/- Walks: names.is, Check, pattern, Pattern, Up, above, below, Under, Match, Within. -/
import Derived.Test.YtjjkonaopmipoaaDoorNmB
namespace Go.Proofs.YtjjkonaopmipoaaDoor
open Go.RowKit Nam
attribute [local go_sem] Oper.semAt_some wide_fn wide_depth wide_some

theorem size_bs (l : Str) : (⟨l.toArray⟩ : ByteArray).size = l.length := by rw [Lib.size_eq]
theorem eqs_of (a b : ByteArray) : (a.toList == b.toList) = (a.data.toList == b.data.toList) := by rw [Lib.toList_data, Lib.toList_data]
set_option maxHeartbeats 400000 in
theorem is_any (s : ByteArray) (w : World) (hs : s.size ≤ 9223372036854775807) :
    Calls Tryd.prog 43 #[.string s] w (Ret (.bool (isB s.data.toList)) w) := by
  go_enter Tryd.func43, Tryd.ntmps43
  go_wp2_with (go_at_call 56; refine (name_any s 8 64 _ hs (by omega) (by omega)).mono ?_; rintro e w' ⟨rfl, hE⟩)
  go_ret
  exact ⟨rfl, hE⟩
set_option maxHeartbeats 400000 in
theorem Check_any (s : ByteArray) (w : World) (hs : s.size ≤ 9223372036854775807) :
    Calls Tryd.prog 20 #[.string s] w (Ret (.int .i64 (okOr 110 (isB s.data.toList))) w) := by
  go_enter Tryd.func20, Tryd.ntmps20
  go_wp2_with (first | (go_at_call 43; refine (is_any s _ hs).mono ?_; rintro e w' ⟨rfl, hE⟩) | (go_at_call 42; refine (told_any _ _).mono ?_; rintro e w' ⟨rfl, rfl⟩))
  go_ret
  exact ⟨rfl, hE⟩
theorem CutPrefix_star (s : ByteArray) (w : World) (b : Bool) (h : Lib.hasPrefix s.data.toList [42, 46] = b) :
    Calls Tryd.prog 58 #[.string s, .string ⟨#[42, 46]⟩] w fun e w' => e = .returned (.tuple #[.string ⟨(if b then s.data.toList.drop 2 else s.data.toList).toArray⟩, .bool b]) ∧ w = w' :=
  (Tryd.strings_CutPrefix s ⟨#[42, 46]⟩ w).mono fun e w' ⟨h1, h2⟩ => ⟨by rw [h1]; simp [Lib.trimPrefix, h], h2.symm⟩
set_option maxHeartbeats 400000 in
theorem pattern_any (s : ByteArray) (w : World) (hs : s.size ≤ 9223372036854775807) :
    Calls Tryd.prog 45 #[.string s] w (Ret (.tuple #[.string ⟨(pattern s.data.toList).1.toArray⟩, .bool (pattern s.data.toList).2.1, .bool (pattern s.data.toList).2.2]) w) := by
  have hd : (⟨(s.data.toList.drop 2).toArray⟩ : ByteArray).size ≤ 9223372036854775807 := by
    rw [size_bs, List.length_drop, ← Lib.size_eq]; omega
  have hp : ∀ b, Lib.hasPrefix s.data.toList [42, 46] = b → isB s.data.toList = false → pattern s.data.toList = if b then (s.data.toList.drop 2, true, nameB (s.data.toList.drop 2) 7 62) else (s.data.toList, false, false) := by
    intro b h1 h2
    unfold pattern; rw [h2, h1]; rfl
  have hq : isB s.data.toList = true → pattern s.data.toList = (s.data.toList, false, true) := by
    intro h; unfold pattern; rw [if_pos h]
  have HP := Lib.hid hp; have HQ := Lib.hid hq; clear hp hq
  cases hb : Lib.hasPrefix s.data.toList [42, 46]
  all_goals
    have HB := Lib.hid hb; clear hb
    go_enter Tryd.func45, Tryd.ntmps45
    go_wp2_with (first | (go_at_call 43; refine (is_any s _ hs).mono ?_; rintro e w' ⟨rfl, hE⟩) | (go_at_call 58; refine (CutPrefix_star _ _ _ HB.out).mono ?_; rintro e w' ⟨rfl, rfl⟩) | (go_at_call 56; refine (name_any _ 7 62 _ hd (by omega) (by omega)).mono ?_; rintro e w' ⟨rfl, hE2⟩))
  · have h : isB s.data.toList = true := by assumption
    go_ret3
    exact ⟨by rw [HQ.out h, eta]; rfl, hE⟩
  · have h : isB s.data.toList = false := by assumption
    go_ret3
    exact ⟨by rw [HP.out _ HB.out h, if_neg (by simp), eta]; rfl, hE⟩
  · have h : isB s.data.toList = true := by assumption
    go_ret3
    exact ⟨by rw [HQ.out h, eta]; rfl, hE⟩
  · have h : isB s.data.toList = false := by assumption
    go_ret3
    exact ⟨by rw [HP.out _ HB.out h, if_pos rfl]; rfl, ext_trans hE hE2⟩
set_option maxHeartbeats 400000 in
theorem Pattern_any (s : ByteArray) (w : World) (hs : s.size ≤ 9223372036854775807) :
    Calls Tryd.prog 22 #[.string s] w (Ret (.int .i64 (okOr 110 (pattern s.data.toList).2.2)) w) := by
  go_enter Tryd.func22, Tryd.ntmps22
  go_wp2_with (first | (go_at_call 45; refine (pattern_any s _ hs).mono ?_; rintro e w' ⟨rfl, hE⟩) | (go_at_call 42; refine (told_any _ _).mono ?_; rintro e w' ⟨rfl, rfl⟩))
  go_ret
  exact ⟨rfl, hE⟩
theorem cut_dot (l : Str) : (Lib.cut l [46]).2.1 = afterDot l := by
  unfold Lib.cut
  rw [Lib.index_one]
  by_cases h : 0 ≤ Lib.indexByte l 46
  · obtain ⟨i, hi⟩ := Int.eq_ofNat_of_zero_le h
    rw [if_pos h, afterDot_some l i hi, hi]; rfl
  · have : Lib.indexByte l 46 = -1 := by have := Lib.indexByte_ge l 46; omega
    rw [if_neg h, afterDot_none l this]
theorem Cut_dot (s : ByteArray) (m : Int) (w : World) (hm : w.cell? ⟨0, 0, none⟩ = some (.int .i64 m)) (hs : s.size ≤ 64) :
    Calls Tryd.prog 49 #[.string s, .string ⟨#[46]⟩] w (Ret (.tuple #[.string ⟨(Lib.cut s.data.toList [46]).1.toArray⟩, .string ⟨(afterDot s.data.toList).toArray⟩, .bool (Lib.cut s.data.toList [46]).2.2]) w) := by
  refine (Tryd.strings_Cut s ⟨#[46]⟩ m w (by omega) hm).mono fun e w' ⟨h1, n, h2⟩ => ⟨?_, ?_⟩
  · rw [h1, ← cut_dot]
  · rw [h2]; exact (Fr.drewN (fun _ => False) w n).ext (by simp)
/-- The library's variable holds a number. -/
def Env (w : World) : Prop := ∃ m, w.cell? ⟨0, 0, none⟩ = some (.int .i64 m)
theorem cell_lt {w : World} {p : Addr} {v : Value} (h : w.cell? p = some v) : p.block < w.heap.size := by
  unfold World.cell? at h
  rcases Nat.lt_or_ge p.block w.heap.size with h1 | h1
  · exact h1
  · rw [Array.getElem?_eq_none h1] at h; cases h
theorem Env.ext {w w' : World} (h : Env w) (hE : Ext w w') : Env w' := by
  obtain ⟨m, hm⟩ := h
  exact ⟨m, (hE.cell (cell_lt hm)).trans hm⟩
set_option maxHeartbeats 400000 in
theorem Up_any (s : ByteArray) (w : World) (hs : s.size ≤ 9223372036854775807) (hw : Env w) :
    Calls Tryd.prog 27 #[.string s] w (Ret (.string ⟨(up s.data.toList).toArray⟩) w) := by
  have HW := Lib.hid hw; clear hw
  cases hb : isB s.data.toList
  · have hu : up s.data.toList = [] := by unfold up; rw [hb]; rfl
    have HB := Lib.hid hb; clear hb
    have HU := Lib.hid hu; clear hu
    go_enter Tryd.func27, Tryd.ntmps27
    go_wp2_with (go_at_call 43; refine (is_any s _ hs).mono ?_; rintro e w' ⟨rfl, hE⟩; rw [HB.out])
    go_ret
    exact ⟨by rw [HU.out]; rfl, hE⟩
  · have h64 : s.size ≤ 64 := by rw [Lib.size_eq]; exact (isB_iff.1 hb).1
    have hu : up s.data.toList = afterDot s.data.toList := by unfold up; rw [hb]; rfl
    have HB := Lib.hid hb; clear hb
    have HU := Lib.hid hu; clear hu
    go_enter Tryd.func27, Tryd.ntmps27
    go_wp2_with (first | (go_at_call 43; refine (is_any s _ hs).mono ?_; rintro e w' ⟨rfl, hE⟩; rw [HB.out]; obtain ⟨m, hm⟩ := HW.out.ext hE; have HM := Lib.hid hm; clear hm) | (go_at_call 49; refine (Cut_dot s _ _ HM.out h64).mono ?_; rintro e w2 ⟨rfl, hE2⟩))
    go_ret
    exact ⟨by rw [HU.out]; rfl, ext_trans hE hE2⟩
end Go.Proofs.YtjjkonaopmipoaaDoor
