/- The law NamesUp: its walk. -/
import Derived.Test.YtjjkonaopmipoaaDoorNc6
import Derived.Test.YtjjkonaopmipoaaDoorNcT
import Derived.BigQuiet
import Derived.Deep.RegionHeld3
namespace Go.Proofs.YtjjkonaopmipoaaDoor
open Go.RowKit Nam
attribute [local go_sem] okOr_true okOr_false

/-- A slice that reads as those texts. -/
def Holds (l : List Str) (n : Nat) (w : World) (e : Ending) (w' : World) : Prop :=
  ∃ b off cap, e = .returned (.slice (some ⟨b, off, none⟩) n cap) ∧ n ≤ cap ∧ cap ≤ maxLen ∧ Cells w' b off (l.map strV) ∧ Ext w w'
theorem Labels_holds (s : ByteArray) (w : World) (n : Nat) (hb : isB s.data.toList = true) (hn : (cut s.data.toList).length = n) (hs : s.size ≤ 9223372036854775807) (hw : Env w) :
    Calls Tryd.prog 25 #[.string s] w (Holds (cut s.data.toList) n w) := by
  refine (Labels_any s w hs hw).mono ?_
  rintro e w' ⟨v, rfl, hv, hE⟩
  rw [hb, if_pos rfl] at hv
  rcases hv with ⟨h0, _⟩ | ⟨b, off, cap, rfl, hcap, hmax, hcell⟩
  · exact absurd (List.map_eq_nil_iff.1 h0) (cut_ne _)
  · rw [List.length_map, hn] at hcap ⊢
    exact ⟨b, off, cap, rfl, hcap, hmax, hcell, hE⟩
theorem join_size {s : ByteArray} (hb : isB s.data.toList = true) : ∀ k, (joinTo (cut s.data.toList) k).length ≤ 17 * k
  | 0 => by simp [joinTo]
  | 1 => by
    rw [joinTo]
    cases hc : cut s.data.toList with
    | nil => simp
    | cons x r =>
      have := (isB_iff.1 hb).2.2 x (by rw [hc]; simp)
      unfold labelB at this; simp only [Bool.and_eq_true, decide_eq_true_eq] at this
      simp; omega
  | k + 2 => by
    rw [joinTo]
    have ih := join_size hb (k + 1)
    have : ((cut s.data.toList).getD (k + 1) []).length ≤ 16 := by
      rw [List.getD_eq_getElem?_getD]
      cases hc : (cut s.data.toList)[k + 1]? with
      | none => simp
      | some x =>
        have := (isB_iff.1 hb).2.2 x (List.mem_of_getElem? hc)
        unfold labelB at this; simp only [Bool.and_eq_true, decide_eq_true_eq] at this
        simp; omega
    rw [List.length_append, List.length_cons]; omega
theorem Cells.getD {w : World} {b off k : Nat} {l : List Str} (h : Cells w b off (l.map strV)) (hk : k < l.length) : w.cell? ⟨b, off + k, none⟩ = some (.string ⟨(l.getD k []).toArray⟩) := by
  rw [List.getD_eq_getElem?_getD, List.getElem?_eq_getElem hk]
  exact h.at (List.getElem?_eq_getElem hk)
theorem join_step {s : ByteArray} {A y : ByteArray} {k : Nat} (hk : 1 ≤ k) (hA : A.data.toList = joinTo (cut s.data.toList) k) (hy : y = ⟨((cut s.data.toList).getD k []).toArray⟩) :
    ((A ++ (⟨#[46]⟩ : ByteArray)) ++ y).data.toList = joinTo (cut s.data.toList) (k + 1) := by
  obtain ⟨j, rfl⟩ : ∃ j, k = j + 1 := ⟨k - 1, by omega⟩
  rw [more_data, hA, hy, joinTo]
theorem Same_tail (l L : List Str) (v : Value) (w : World) (b o n c : Nat) (hv : Sl w v (l.map strV)) (hC : Cells w b o (L.map strV)) (hL : L.length = n) (hl : l = L.drop 1) (hc : n ≤ c) (hm : c ≤ maxLen) :
    Calls Tryd.prog 24 #[v, .slice (some ⟨b, o + 1, none⟩) (n - 1) (c - 1)] w (Ret (.bool true) w) := by
  have hlen : (l.map strV).length = n - 1 := by rw [List.length_map, hl, List.length_drop, hL]
  have h := Same_any l l v (.slice (some ⟨b, o + 1, none⟩) (n - 1) (c - 1)) w hv (.inr ⟨b, o + 1, c - 1, by rw [hlen], by rw [hlen]; omega, by omega, by rw [hl, List.map_drop]; exact hC.drop 1⟩)
  rw [beq_self_eq_true] at h; exact h
set_option maxRecDepth 100000 in
set_option maxHeartbeats 2000000 in
theorem NamesUp_any (s : ByteArray) (w : World) (hw : Env w) (hs : s.size ≤ 9223372036854775807) :
    Calls Tryd.prog 9 #[.string s] w (Ret (.bool true) w) := by
  have HW := Lib.hid hw; clear hw
  have hE : Ext w w := Below.refl _ _
  by_cases hl : 300 < s.size
  · go_enter Tryd.func9, Tryd.ntmps9
    go_wp2_with (first
    | (go_at_call 19; refine (live_any _ (HW.out.ext hE)).mono ?_; rintro e w1 ⟨rfl, h2⟩; replace hE := ext_trans hE h2; clear h2))
    go_ret
    exact ⟨rfl, hE⟩
  have hl' : decide ((300 : Int) < (s.size : Int)) = false := by simp; omega
  cases hB : isB s.data.toList
  · have HUP : Hid (up s.data.toList = (⟨#[]⟩ : ByteArray).data.toList) := up_no hB
    have HX0 : Hid ((if isB s.data.toList then cut s.data.toList else []).length = 0) := by rw [hB]; rfl
    go_enter Tryd.func9, Tryd.ntmps9
    go_wp2_with (first
    | (go_at_call 19; refine (live_any _ (HW.out.ext hE)).mono ?_; rintro e w1 ⟨rfl, h2⟩; replace hE := ext_trans hE h2; clear h2)
    | (go_at_call 20; refine (Check_any _ _ (by assumption)).mono ?_; rintro e w1 ⟨rfl, h2⟩; replace hE := ext_trans hE h2; clear h2)
    | (go_at_call 25; refine (Labels_len _ _ 0 HX0.out (by assumption) (HW.out.ext hE)).mono ?_; rintro e w1 ⟨a1, c1, rfl, h2⟩; replace hE := ext_trans hE h2; clear h2)
    | (go_at_call 27; refine (Up_eq _ ⟨#[]⟩ _ (by assumption) HUP.out (HW.out.ext hE)).mono ?_; rintro e w1 ⟨rfl, h2⟩; replace hE := ext_trans hE h2; clear h2))
    go_ret
    exact ⟨ret_bool (by first | rfl | simp), hE⟩
  obtain ⟨n, hn⟩ : ∃ n, (cut s.data.toList).length = n := ⟨_, rfl⟩
  have hn8 : n ≤ 8 := by rw [← hn]; exact (isB_iff.1 hB).2.1
  have hn1 : 1 ≤ n := by
    rw [← hn]
    cases hc : cut s.data.toList with
    | nil => exact absurd hc (cut_ne _)
    | cons => simp
  have hd1 : decide ((n : Int) < 1) = false := by simp; omega
  have hd8 : decide ((8 : Int) < (n : Int)) = false := by simp; omega
  obtain ⟨U, hU⟩ : ∃ U : ByteArray, U.data.toList = up s.data.toList := ⟨⟨(up s.data.toList).toArray⟩, by simp⟩
  have HU := Lib.hid hU.symm; clear hU
  have HN := Lib.hid hn; clear hn
  go_enter Tryd.func9, Tryd.ntmps9
  go_upto_region 8 with (first
    | (go_at_call 19; refine (live_any _ (HW.out.ext hE)).mono ?_; rintro e w1 ⟨rfl, h2⟩; replace hE := ext_trans hE h2; clear h2)
    | (go_at_call 20; refine (Check_any _ _ (by assumption)).mono ?_; rintro e w1 ⟨rfl, h2⟩; replace hE := ext_trans hE h2; clear h2)
    | (go_at_call 25; refine (Labels_holds _ _ n (by assumption) HN.out (by assumption) (HW.out.ext hE)).mono ?_; rintro e w1 ⟨b1, o1, c1, rfl, hcap, hmax, hcell, h2⟩; replace hE := ext_trans hE h2; clear h2))
  have HC := Lib.hid hcell; clear hcell
  obtain ⟨x0, hx0⟩ : ∃ x0, (cut s.data.toList)[0]? = some x0 := ⟨_, List.getElem?_eq_getElem (by rw [HN.out]; exact hn1)⟩
  have hc0 : w1.cell? ⟨b1, o1, none⟩ = some (.string ⟨x0.toArray⟩) := HC.out.at hx0
  have HX := Lib.hid hx0; clear hx0
  go_upto_block 0 with fail
  go_cut [4] (fun v wx => v = .string s ∧ wx = w1)
  case first =>
    go_wp2_with fail
    go_loopw [4, 5] (fun v i wr => ∃ (k : Nat) (A : ByteArray), 1 ≤ k ∧ k ≤ n ∧ i = .int .i64 k ∧ v = .string A ∧ A.data.toList = joinTo (cut s.data.toList) k ∧ wr = w1) (fun _ i _ => n - (intOf i).toNat)
    case atStart => exact ⟨1, _, by omega, hn1, rfl, rfl, by rw [joinTo, List.getD_eq_getElem?_getD, HX.out]; simp, rfl⟩
    case round =>
      obtain ⟨k, A, hk1, hk, rfl, rfl, hA, rfl⟩ := hrel
      by_cases hlt : k < n
      · have hcell := HC.out.getD (k := k) (by rw [HN.out]; exact hlt)
        obtain ⟨y, hy⟩ : ∃ y : ByteArray, ⟨((cut s.data.toList).getD k []).toArray⟩ = y := ⟨_, rfl⟩
        rw [hy] at hcell
        have hjoin := join_step hk1 hA hy.symm
        have hjs := join_size hB (k + 1)
        rw [← hjoin, ← Lib.size_eq] at hjs
        have hAs : A.size + 1 + y.size ≤ 1000 := by
          rw [ByteArray.size_append, ByteArray.size_append] at hjs
          have : (⟨#[46]⟩ : ByteArray).size = 1 := rfl
          omega
        have HJ := Lib.hid hjoin; clear hjoin hjs hy hA
        go_wp2_with fail
        go_roundw
        case rel => exact ⟨k + 1, _, by omega, by omega, by go_num, rfl, HJ.out, trivial⟩
        case measure => simp [intOf]; omega
      · obtain rfl : k = n := by omega
        have hAs : A = s := by
          rw [← eta A, hA, ← HN.out, join_all, eta]
        subst hAs
        go_wp2_with fail
        go_meet
        exact ⟨rfl, rfl⟩
  case rest =>
    obtain ⟨rfl, rfl⟩ := hcut
    go_upto_region 14 with (go_at_call 27; refine (Up_eq _ U _ (by assumption) HU.out (HW.out.ext hE)).mono ?_; rintro e w2 ⟨rfl, h2⟩; replace hE := ext_trans hE h2; have hCC := HC.out.ext h2; clear h2)
    go_cut [86] (fun v wx => v = .bool false ∧ Ext w wx)
    case first =>
      by_cases h1 : n = 1
      · have hg : decide ((1 : Int) < (n : Int)) = false := by simp; omega
        have hq : (s.toList != s.toList) = false := by simp
        go_quiet (fail)
        go_wp2_with fail
        go_meet
        exact ⟨rfl, Below.drewN' hE _⟩
      · have hg : decide ((1 : Int) < (n : Int)) = true := by simp; omega
        have hq : (s.toList != s.toList) = false := by simp
        obtain ⟨m1, m2, m3, m4⟩ := up_more hB (by rw [HN.out]; omega)
        rw [HU.out] at m1 m2 m3 m4
        have HM2 := Lib.hid m2; clear m2
        have hUs : U.size ≤ 9223372036854775807 := by
          have := up_size s 1000 (by omega)
          rw [HU.out, eta] at this; omega
        have i1 : (1 : Int) ≤ (n : Int) := by omega
        have i2 : (n : Int) ≤ (c1 : Int) := by omega
        have HCC := Lib.hid hCC; clear hCC
        go_region_held3 (fun w' => Ext w2 w') (first | assumption | exact (Fr.drew (fun _ => False) _).ext (fun _ _ h => h))
          (first
            | (go_at_call 24; refine (Same_tail (cut U.data.toList) (cut s.data.toList) _ _ b1 o1 n c1 (by assumption) (HCC.out.ext (by assumption)) HN.out HM2.out hcap hmax).mono ?_; rintro e w3 ⟨rfl, h2⟩; have h3 := ext_trans (A := w2) (by assumption) h2)
            | (go_at_call 25; refine (Labels_any _ _ (by assumption) (HW.out.ext (ext_trans hE (by assumption)))).mono ?_; rintro e w3 ⟨v, rfl, hv, h2⟩; rw [m1, if_pos rfl] at hv; have h3 := ext_trans (A := w2) (by assumption) h2)
            | (go_at_call 30; refine (Under_any _ _ _ (by assumption) (HW.out.ext (ext_trans hE (by assumption)))).mono ?_; rintro e w3 ⟨rfl, h2⟩; have h3 := ext_trans (A := w2) (by assumption) h2))
        go_wp2_with fail
        go_meet
        exact ⟨rfl, ext_trans hE h3⟩
    case rest =>
      obtain ⟨rfl, hE⟩ := hcut
      have HF := Lib.hid (fun k => upTimes_facts k s.data.toList hB)
      have hs3 : s.size ≤ 1000 := by omega
      obtain ⟨wB, hwB⟩ : ∃ wB, wB = wc := ⟨_, rfl⟩
      have hE0 : Ext wB wc := by rw [hwB]; exact Below.refl _ _
      have HWA := Lib.hid (HW.out.ext hE)
      rw [← hwB] at hE HWA
      have HE0 := Lib.hid hE0; have HEE := Lib.hid hE; clear hwB hE0 hE hCC
      go_wp2_with fail
      go_loopw [0, 7] (fun v i wr => ∃ (k : Nat) (A : ByteArray), k ≤ n ∧ i = .int .i64 k ∧ v = .string A ∧ A.data.toList = upTimes k s.data.toList ∧ A.size ≤ 1000 ∧ Ext wB wr) (fun _ i _ => n - (intOf i).toNat)
      case atStart => exact ⟨0, s, by omega, rfl, rfl, rfl, hs3, HE0.out⟩
      case round =>
        obtain ⟨k, A, hk, rfl, rfl, hA, hAs, hEr⟩ := hrel
        by_cases hlt : k < n
        · have hae : A.toList.isEmpty = false := by
            rw [Bool.eq_false_iff]; intro h
            exact (HF.out k).1 (by rw [HN.out]; exact hlt) (by rw [← hA]; exact (empty_iff A).1 h)
          obtain ⟨Y, hY⟩ : ∃ Y : ByteArray, ⟨(up A.data.toList).toArray⟩ = Y := ⟨_, rfl⟩
          have hYs : Y.size ≤ 1000 := by rw [← hY]; exact up_size A 1000 hAs
          have hYd : Y.data.toList = upTimes (k + 1) s.data.toList := by rw [← hY, upTimes_succ, hA]
          have HY := Lib.hid hY; have HYS := Lib.hid hYs; have HYD := Lib.hid hYd
          have hAs2 : A.size ≤ 9223372036854775807 := by omega
          clear hY hYs hYd hA
          go_wp2_with (go_at_call 27; refine (Up_both _ _ Y (by assumption) (HWA.out.ext hEr) HY.out).mono ?_; rintro e w2 ⟨rfl, h2⟩; replace hEr := ext_trans hEr h2; clear h2)
          go_roundw
          case rel => exact ⟨k + 1, Y, by omega, by go_num, rfl, HYD.out, HYS.out, hEr⟩
          case measure => simp [intOf]; omega
        · obtain rfl : k = n := by omega
          have hae : A.toList.isEmpty = true := (empty_iff A).2 (by rw [hA]; exact (HF.out k).2 HN.out.symm)
          go_wp2_with fail
          go_ret
          exact ⟨rfl, ext_trans HEE.out hEr⟩
end Go.Proofs.YtjjkonaopmipoaaDoor
