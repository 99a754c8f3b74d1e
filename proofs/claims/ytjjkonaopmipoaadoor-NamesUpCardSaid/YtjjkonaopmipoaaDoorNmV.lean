/- Walk: names.Labels. -/
import Derived.Test.YtjjkonaopmipoaaDoorNmU
namespace Go.Proofs.YtjjkonaopmipoaaDoor
open Go.RowKit Nam

theorem indexB_dot (s : ByteArray) : Lib.indexB s ⟨#[46]⟩ = Lib.indexByte s.data.toList 46 := Lib.index_one s.data.toList 46
theorem splitB_cut : ∀ (n : Nat) (s : ByteArray), Lib.countByte s.data.toList 46 = n → Lib.splitB ⟨#[46]⟩ 0 n s = (cut s.data.toList).map fun x => ⟨x.toArray⟩
  | 0, s, h => by
    have hc := cut_length s.data.toList
    rw [h] at hc
    have hi : Lib.indexByte s.data.toList 46 = -1 := by
      by_cases hp : 0 ≤ Lib.indexByte s.data.toList 46
      · obtain ⟨i, hi⟩ := Int.eq_ofNat_of_zero_le hp
        rw [cut_some _ i hi] at hc
        have := cut_ne (s.data.toList.drop (i + 1))
        simp at hc; exact absurd hc this
      · have := Lib.indexByte_ge s.data.toList 46; omega
    rw [Lib.splitB_zero, cut_none _ hi]
    simp
  | n + 1, s, h => by
    have hc := cut_length s.data.toList
    rw [h] at hc
    by_cases hp : 0 ≤ Lib.indexByte s.data.toList 46
    · obtain ⟨i, hi⟩ := Int.eq_ofNat_of_zero_le hp
      have hcut := cut_some _ i hi
      rw [hcut] at hc
      have hd : (s.extract (i + 1) s.size).data.toList = s.data.toList.drop (i + 1) := by rw [drop_eq]
      have hcnt : Lib.countByte (s.extract (i + 1) s.size).data.toList 46 = n := by
        have := cut_length (s.data.toList.drop (i + 1))
        rw [hd]; simp at hc; omega
      unfold Lib.splitB
      rw [indexB_dot, hi, if_neg (by simp), hcut, List.map_cons]
      have ih := splitB_cut n _ hcnt
      rw [hd] at ih
      rw [← ih, ← take_eq]
      rfl
    · have hi : Lib.indexByte s.data.toList 46 = -1 := by have := Lib.indexByte_ge s.data.toList 46; omega
      rw [cut_none _ hi] at hc
      simp at hc
theorem countB_dot (s : ByteArray) : Lib.countB s ⟨#[46]⟩ = Lib.countByte s.data.toList 46 := Lib.count_one 46 s.data.toList
theorem Split_dot (s : ByteArray) (w : World) (hw : Env w) (hs : s.size ≤ 1000) :
    Calls Tryd.prog 47 #[.string s, .string ⟨#[46]⟩] w (RetSl ((cut s.data.toList).map strV) w) := by
  obtain ⟨m, hm⟩ := hw
  refine (Tryd.strings_Split s ⟨#[46]⟩ m w (by omega) hm (by decide)).mono fun e w' ⟨h1, h2⟩ => ?_
  have hv : (Lib.splitB ⟨#[46]⟩ 0 (Lib.countB s ⟨#[46]⟩) s).map Value.string = (cut s.data.toList).map strV := by
    rw [countB_dot, splitB_cut _ s rfl, List.map_map]; rfl
  rw [hv] at h2
  have hl : ((cut s.data.toList).map strV).length = Lib.countB s ⟨#[46]⟩ + 1 := by rw [List.length_map, cut_length, countB_dot]
  refine ⟨_, h1, .inr ⟨w.heap.size, 0, _, by rw [hl], by rw [hl]; exact Nat.le_refl _, ?_, ?_⟩, ?_⟩
  · have := Lib.countB_le ⟨#[46]⟩ (by decide) _ s (Nat.le_refl _)
    unfold maxLen; omega
  · rw [h2]; intro i x hx
    simp [go_sem]; simpa using hx
  · rw [h2]; exact (Below.refl _ _).alloc (Nat.le_refl _) _
set_option maxHeartbeats 400000 in
theorem Labels_any (s : ByteArray) (w : World) (hs : s.size ≤ 9223372036854775807) (hw : Env w) :
    Calls Tryd.prog 25 #[.string s] w (RetSl ((if isB s.data.toList then cut s.data.toList else []).map strV) w) := by
  have HW := Lib.hid hw; clear hw
  cases hb : isB s.data.toList
  · have HB := Lib.hid hb; clear hb
    go_enter Tryd.func25, Tryd.ntmps25
    go_wp2_with (go_at_call 43; refine (is_any s _ hs).mono ?_; rintro e w' ⟨rfl, hE⟩; rw [HB.out])
    go_ret
    exact ⟨_, rfl, Sl.nil _, hE⟩
  · have h64 : s.size ≤ 1000 := by have := (isB_iff.1 hb).1; rw [Lib.size_eq]; omega
    have HB := Lib.hid hb; clear hb
    go_enter Tryd.func25, Tryd.ntmps25
    go_wp2_with (first | (go_at_call 43; refine (is_any s _ hs).mono ?_; rintro e w' ⟨rfl, hE⟩; rw [HB.out]) | (go_at_call 47; refine (Split_dot s _ (HW.out.ext hE) h64).mono ?_; rintro e w2 ⟨v, rfl, hv, hE2⟩; have HV := Lib.hid hv; clear hv))
    go_ret
    exact ⟨v, rfl, HV.out, ext_trans hE hE2⟩
end Go.Proofs.YtjjkonaopmipoaaDoor
