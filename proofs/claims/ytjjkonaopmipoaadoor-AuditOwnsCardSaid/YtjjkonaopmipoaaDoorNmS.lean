/- Walks: the document's functions on names, the outer ones; names.Labels. -/
import Derived.Test.YtjjkonaopmipoaaDoorNmR
import Derived.Test.YtjjkonaopmipoaaDoorNmF
namespace Go.Proofs.YtjjkonaopmipoaaDoor
open Go.RowKit Nam

theorem strV_get {l : List Str} {k : Nat} {x : Str} (h : l[k]? = some x) : (l.map strV)[k]? = some (.string ⟨x.toArray⟩) := by
  rw [List.getElem?_map, h]; rfl
theorem name_isB_no {l : Str} {k : Nat} {x : Str} (h : (cut l)[k]? = some x) (hx : labelB x = false) : isB l = false := by
  rw [Bool.eq_false_iff]; intro hb
  have := (isB_iff.1 hb).2.2 x (List.mem_of_getElem? h)
  rw [hx] at this; cases this
set_option maxHeartbeats 1000000 in
theorem rName_any (s : ByteArray) (w : World) (hs : s.size ≤ 9223372036854775807) :
    Calls Tryd.prog 44 #[.string s] w (Ret (.bool (isB s.data.toList)) w) := by
  by_cases h64 : 64 < s.size
  · have hf : isB s.data.toList = false := by
      rw [Bool.eq_false_iff]; intro h
      have := (isB_iff.1 h).1; rw [← Lib.size_eq] at this; omega
    have H := Lib.hid hf; clear hf
    go_enter Tryd.func44, Tryd.ntmps44
    go_wp2
    go_ret
    exact ⟨ret_bool H.out.symm, Below.refl _ _⟩
  · have h1000 : s.size ≤ 1000 := by omega
    have h64' : s.size ≤ 64 := by omega
    go_enter Tryd.func44, Tryd.ntmps44
    go_wp2_with fail
    refine (rcut_any s _ h1000).mono ?_
    rintro e w1 ⟨v, rfl, hv, hE⟩
    rcases hv with ⟨h0, _⟩ | ⟨b, off, cap, rfl, hcap, hmax, hcell⟩
    · exact absurd (List.map_eq_nil_iff.1 h0) (cut_ne _)
    obtain ⟨n, hn⟩ : ∃ n, ((cut s.data.toList).map strV).length = n := ⟨_, rfl⟩
    rw [hn] at hcap ⊢
    have hn' : (cut s.data.toList).length = n := by rw [← hn, List.length_map]
    unfold maxLen at hmax
    have HC := Lib.hid hcell; have HN := Lib.hid hn'; clear hcell hn hn'
    go_wp2
    go_loop [4] (fun i => ∃ k : Nat, k ≤ n ∧ i = .int .i64 k ∧ ((cut s.data.toList).take k).all labelB = true) (fun i => n - (intOf i).toNat)
    case atStart => exact ⟨0, Nat.zero_le _, rfl, rfl⟩
    case round =>
      obtain ⟨k, hk, rfl, hall⟩ := hrel
      have HA := Lib.hid hall; clear hall
      by_cases hlt : k < n
      · obtain ⟨x, hx⟩ : ∃ x, (cut s.data.toList)[k]? = some x := ⟨_, List.getElem?_eq_getElem (by rw [HN.out]; exact hlt)⟩
        have hc : w1.cell? ⟨b, off + k, none⟩ = some (.string ⟨x.toArray⟩) := HC.out k _ (strV_get hx)
        have hxs := label_size hs hx
        have HX := Lib.hid hx; clear hx
        go_wp2_with (go_at_call 57; refine (rlabel_any _ _ hxs).mono ?_; rintro e w' ⟨rfl, rfl⟩)
        · have ht : (!labelB x) = true := by assumption
          go_ret
          exact ⟨ret_bool (name_isB_no HX.out (by simpa using ht)).symm, hE⟩
        · have ht : (!labelB x) = false := by assumption
          go_round
          case rel => exact ⟨k + 1, by omega, by go_num, all_step HX.out (by simpa using ht) HA.out⟩
          case measure => simp [intOf]; omega
      · have hks : k = n := by omega
        have hall := HA.out
        rw [hks, ← HN.out, List.take_length] at hall
        have hfin : isB s.data.toList = decide (n ≤ 8) := by
          rw [← HN.out, Bool.eq_iff_iff, isB_iff, decide_eq_true_eq]
          rw [List.all_eq_true] at hall
          exact ⟨fun h => h.2.1, fun h => ⟨by rw [← Lib.size_eq]; exact h64', h, hall⟩⟩
        have HF := Lib.hid hfin; clear hfin hall
        go_wp2
        go_ret
        exact ⟨ret_bool (by rw [HF.out]; simp; try omega), hE⟩
set_option maxHeartbeats 400000 in
theorem rCheck_any (s : ByteArray) (w : World) (hs : s.size ≤ 9223372036854775807) :
    Calls Tryd.prog 21 #[.string s] w (Ret (.int .i64 (okOr 110 (isB s.data.toList))) w) := by
  cases hb : isB s.data.toList
  all_goals
    have HB := Lib.hid hb; clear hb
    go_enter Tryd.func21, Tryd.ntmps21
    go_wp2_with (go_at_call 44; refine (rName_any s _ hs).mono ?_; rintro e w' ⟨rfl, hE⟩; rw [HB.out])
    go_ret
    exact ⟨rfl, hE⟩
theorem star_no {s : ByteArray} (h : ¬ (3 ≤ s.size ∧ s.size ≤ 64)) : starB s.data.toList = false := by
  unfold starB; rw [← Lib.size_eq]
  have : (decide (3 ≤ s.size) && decide (s.size ≤ 64)) = false := by rw [Bool.and_eq_false_iff]; simp; omega
  rw [this]; rfl
theorem star_eq {s : ByteArray} (h3 : 3 ≤ s.size) (h64 : s.size ≤ 64) : starB s.data.toList = ((s[0].toNat : Int) == 42 && (s[1].toNat : Int) == 46 && isB (s.data.toList.drop 2) && decide ((cut (s.data.toList.drop 2)).length ≤ 7)) := by
  unfold starB; rw [← Lib.size_eq, decide_eq_true h3, decide_eq_true h64, good_get (show 0 < s.size by omega), good_get (show 1 < s.size by omega)]
  have e : ∀ (a b : UInt8), (a == b) = ((a.toNat : Int) == (b.toNat : Int)) := fun a b => by
    rw [Bool.eq_iff_iff, beq_iff_eq, beq_iff_eq]
    exact ⟨fun h => by rw [h], fun h => Lib.byte_eq_of_toNat h⟩
  rw [e, e]; rfl
set_option maxHeartbeats 1000000 in
theorem rStar_any (s : ByteArray) (w : World) (hs : s.size ≤ 9223372036854775807) :
    Calls Tryd.prog 46 #[.string s] w (Ret (.tuple #[.string ⟨(starOf s.data.toList).toArray⟩, .bool (starB s.data.toList)]) w) := by
  have hno : starB s.data.toList = false → (.tuple #[.string ⟨#[]⟩, .bool false] : Value) = .tuple #[.string ⟨(starOf s.data.toList).toArray⟩, .bool (starB s.data.toList)] := by
    intro h; unfold starOf; rw [h]; rfl
  have HNO := Lib.hid hno; clear hno
  by_cases h : 3 ≤ s.size ∧ s.size ≤ 64
  · obtain ⟨h3, h64⟩ := h
    have HS := Lib.hid (star_eq h3 h64)
    have g0 : 0 < s.size := by omega
    have g1 : 1 < s.size := by omega
    by_cases ha : (s[0].toNat : Int) = 42 ∧ (s[1].toNat : Int) = 46
    rotate_left 1
    · have hf : starB s.data.toList = false := by
        rw [HS.out]
        have : ((s[0].toNat : Int) == 42 && (s[1].toNat : Int) == 46) = false := by
          rw [Bool.eq_false_iff]; intro h; rw [Bool.and_eq_true, beq_iff_eq, beq_iff_eq] at h; exact ha h
        rw [this]; rfl
      have HF := Lib.hid hf; clear hf
      by_cases hb : (s[0].toNat : Int) = 42
      · have hb2 : ¬ (s[1].toNat : Int) = 46 := fun h => ha ⟨hb, h⟩
        have t1 : ((s[0].toNat : Int) != 42) = false := by simpa using hb
        have t2 : ((s[1].toNat : Int) != 46) = true := by simpa using hb2
        clear ha hb hb2
        go_enter Tryd.func46, Tryd.ntmps46
        go_wp2
        go_ret2
        exact ⟨congrArg _ (HNO.out HF.out), Below.refl _ _⟩
      · have t1 : ((s[0].toNat : Int) != 42) = true := by simpa using hb
        clear ha hb
        go_enter Tryd.func46, Tryd.ntmps46
        go_wp2
        go_ret2
        exact ⟨congrArg _ (HNO.out HF.out), Below.refl _ _⟩
    · obtain ⟨ha, hb⟩ := ha
      have t1 : ((s[0].toNat : Int) != 42) = false := by simpa using ha
      have t2 : ((s[1].toNat : Int) != 46) = false := by simpa using hb
      have hS : starB s.data.toList = (isB (s.data.toList.drop 2) && decide ((cut (s.data.toList.drop 2)).length ≤ 7)) := by rw [HS.out, beq_iff_eq.2 ha, beq_iff_eq.2 hb]; rfl
      have HSS := Lib.hid hS; clear hS ha hb HS
      obtain ⟨q, hq⟩ : ∃ q, s.extract 2 s.size = q := ⟨_, rfl⟩
      have hqd : q.data.toList = s.data.toList.drop 2 := by rw [← hq, drop_eq]
      have hqs : q.size ≤ 62 := by rw [Lib.size_eq, hqd, List.length_drop, ← Lib.size_eq]; omega
      have HQ := Lib.hid hq; have HQD := Lib.hid hqd; clear hq hqd
      go_enter Tryd.func46, Tryd.ntmps46
      cases hN : isB q.data.toList
      · have HN := Lib.hid hN; clear hN
        go_wp2_with (go_at_call 44; rw [HQ.out]; refine (rName_any q _ (by omega)).mono ?_; rintro e w1 ⟨rfl, hE⟩; rw [HN.out])
        go_ret2
        exact ⟨congrArg _ (HNO.out (by rw [HSS.out, ← HQD.out, HN.out]; rfl)), hE⟩
      · have HN := Lib.hid hN; clear hN
        go_wp2_with (first | (go_at_call 44; rw [HQ.out]; refine (rName_any q _ (by omega)).mono ?_; rintro e w1 ⟨rfl, hE⟩; rw [HN.out]) | (go_at_call 48; rw [HQ.out]; refine (rcut_any q _ (by omega)).mono ?_; rintro e w2 ⟨v, rfl, hv, hE2⟩; obtain ⟨a, cap, rfl⟩ := hv.form; clear hv))
        · have h7 : 7 < (cut q.data.toList).length := by omega
          go_ret2
          exact ⟨congrArg _ (HNO.out (by rw [HSS.out, ← HQD.out, HN.out]; simp; omega)), ext_trans hE hE2⟩
        · have h7 : (cut q.data.toList).length ≤ 7 := by omega
          have hS1 : starB s.data.toList = true := by rw [HSS.out, ← HQD.out, HN.out]; simp; omega
          have HS1 := Lib.hid hS1; clear hS1
          go_ret2
          exact ⟨by rw [starOf, if_pos HS1.out, HS1.out, ← drop_eq]; rfl, ext_trans hE hE2⟩
  · have HF := Lib.hid (star_no h)
    by_cases h3 : s.size < 3
    · have t1 : decide ((s.size : Int) < 3) = true := by simp; omega
      clear h
      go_enter Tryd.func46, Tryd.ntmps46
      go_wp2
      go_ret2
      exact ⟨congrArg _ (HNO.out HF.out), Below.refl _ _⟩
    · have t1 : decide ((s.size : Int) < 3) = false := by simp; omega
      have t2 : decide ((64 : Int) < s.size) = true := by simp; omega
      clear h
      go_enter Tryd.func46, Tryd.ntmps46
      go_wp2
      go_ret2
      exact ⟨congrArg _ (HNO.out HF.out), Below.refl _ _⟩
set_option maxHeartbeats 400000 in
theorem rPattern_any (s : ByteArray) (w : World) (hs : s.size ≤ 9223372036854775807) :
    Calls Tryd.prog 23 #[.string s] w (Ret (.int .i64 (okOr 110 (rpatB s.data.toList))) w) := by
  have hr : rpatB s.data.toList = (starB s.data.toList || isB s.data.toList) := rfl
  have HR := Lib.hid hr; clear hr
  go_enter Tryd.func23, Tryd.ntmps23
  go_wp2_with (first | (go_at_call 46; refine (rStar_any s _ hs).mono ?_; rintro e w1 ⟨rfl, hE⟩) | (go_at_call 44; refine (rName_any s _ hs).mono ?_; rintro e w2 ⟨rfl, hE2⟩))
  · go_ret
    exact ⟨by rw [HR.out, show starB s.data.toList = true by assumption]; rfl, hE⟩
  · have h1 : starB s.data.toList = false := by rw [Bool.eq_false_iff]; assumption
    have h2 : (!isB s.data.toList) = true := by assumption
    go_ret
    exact ⟨by rw [HR.out, h1, show isB s.data.toList = false by simpa using h2]; rfl, ext_trans hE hE2⟩
  · have h2 : (!isB s.data.toList) = false := by assumption
    go_ret
    exact ⟨by rw [HR.out, show isB s.data.toList = true by simpa using h2, Bool.or_true]; rfl, ext_trans hE hE2⟩
set_option maxHeartbeats 400000 in
theorem rLabels_any (s : ByteArray) (w : World) (hs : s.size ≤ 9223372036854775807) :
    Calls Tryd.prog 26 #[.string s] w (RetSl ((if isB s.data.toList then cut s.data.toList else []).map strV) w) := by
  cases hb : isB s.data.toList
  · have HB := Lib.hid hb; clear hb
    go_enter Tryd.func26, Tryd.ntmps26
    go_wp2_with (go_at_call 44; refine (rName_any s _ hs).mono ?_; rintro e w' ⟨rfl, hE⟩; rw [HB.out])
    go_ret
    exact ⟨_, rfl, Sl.nil _, hE⟩
  · have h64 : s.size ≤ 1000 := by have := (isB_iff.1 hb).1; rw [Lib.size_eq]; omega
    have HB := Lib.hid hb; clear hb
    go_enter Tryd.func26, Tryd.ntmps26
    go_wp2_with (first | (go_at_call 44; refine (rName_any s _ hs).mono ?_; rintro e w' ⟨rfl, hE⟩; rw [HB.out]) | (go_at_call 48; refine (rcut_any s _ h64).mono ?_; rintro e w2 ⟨v, rfl, hv, hE2⟩; have HV := Lib.hid hv; clear hv))
    go_ret
    exact ⟨v, rfl, HV.out, ext_trans hE hE2⟩
def NoDotTo (l : Str) (k : Nat) : Prop := ∀ j : Nat, j < k → l[j]? ≠ some (46 : UInt8)
theorem afterDot_hit : ∀ (m : Nat) (l : Str), NoDotTo l m → l[m]? = some (46 : UInt8) → afterDot l = l.drop (m + 1)
  | _, [], _, h => by simp at h
  | 0, c :: t, _, h => by simp at h; subst h; simp [afterDot]
  | m + 1, c :: t, h1, h => by
    have hc : c ≠ 46 := fun e => h1 0 (by omega) (by simp [e])
    rw [afterDot, if_neg hc, afterDot_hit m t (fun j hj => by have := h1 (j + 1) (by omega); simpa using this) (by simpa using h)]
    simp
theorem afterDot_free : ∀ (l : Str), NoDotTo l l.length → afterDot l = []
  | [], _ => rfl
  | c :: t, h => by
    have hc : c ≠ 46 := fun e => h 0 (by simp) (by simp [e])
    rw [afterDot, if_neg hc, afterDot_free t (fun j hj => by have := h (j + 1) (by simpa using hj); simpa using this)]
set_option maxHeartbeats 400000 in
theorem rUp_any (s : ByteArray) (w : World) (hs : s.size ≤ 9223372036854775807) :
    Calls Tryd.prog 28 #[.string s] w (Ret (.string ⟨(up s.data.toList).toArray⟩) w) := by
  cases hb : isB s.data.toList
  · have hu : up s.data.toList = [] := by unfold up; rw [hb]; rfl
    have HB := Lib.hid hb; have HU := Lib.hid hu; clear hb hu
    go_enter Tryd.func28, Tryd.ntmps28
    go_wp2_with (go_at_call 44; refine (rName_any s _ hs).mono ?_; rintro e w' ⟨rfl, hE⟩; rw [HB.out])
    go_ret
    exact ⟨by rw [HU.out]; rfl, hE⟩
  · have hu : up s.data.toList = afterDot s.data.toList := by unfold up; rw [hb]; rfl
    have HB := Lib.hid hb; have HU := Lib.hid hu; clear hb hu
    go_enter Tryd.func28, Tryd.ntmps28
    go_wp2_with (go_at_call 44; refine (rName_any s _ hs).mono ?_; rintro e w1 ⟨rfl, hE⟩; rw [HB.out])
    go_loop [3] (fun i => ∃ k : Nat, k ≤ s.size ∧ i = .int .i64 k ∧ NoDotTo s.data.toList k) (fun i => s.size - (intOf i).toNat)
    case atStart => exact ⟨0, Nat.zero_le _, rfl, fun j hj => by omega⟩
    case round =>
      obtain ⟨k, hk, rfl, hno⟩ := hrel
      have HN := Lib.hid hno; clear hno
      by_cases hlt : k < s.size
      · by_cases hdot : s[k] = 46
        · have hb : ((s[k].toNat : Int) == 46) = true := by rw [hdot]; rfl
          have hfin := afterDot_hit k _ HN.out (by rw [Lib.data_getElem? s k hlt, hdot])
          rw [← HU.out] at hfin
          have HF := Lib.hid hfin; clear hfin
          have HD := Lib.hid hdot; clear hdot
          go_wp2
          go_ret
          exact ⟨by rw [HF.out, ← drop_eq]; rfl, hE⟩
        · have hb : ((s[k].toNat : Int) == 46) = false := by
            rw [beq_eq_false_iff_ne]; intro h; exact hdot (Lib.byte_eq_of_toNat (by rw [h]; rfl))
          have hnext : NoDotTo s.data.toList (k + 1) := fun j hj => by
            by_cases e : j = k
            · subst e; rw [Lib.data_getElem? s j hlt]; simpa using hdot
            · exact HN.out j (by omega)
          have HX := Lib.hid hnext; have HD := Lib.hid hdot; clear hnext hdot
          go_wp2
          go_round
          case rel => exact ⟨k + 1, by omega, by go_num, HX.out⟩
          case measure => simp [intOf]; omega
      · have hks : k = s.size := by omega
        have hfin := afterDot_free s.data.toList (by rw [← Lib.size_eq, ← hks]; exact HN.out)
        rw [← HU.out] at hfin
        have HF := Lib.hid hfin; clear hfin hks
        go_wp2
        go_ret
        exact ⟨by rw [HF.out]; rfl, hE⟩
def vlen (v : Value) : Nat := match v with | .string s => s.size | _ => 0
set_option maxHeartbeats 400000 in
theorem rbelow_any (s o : ByteArray) (w : World) (hs : s.size ≤ 9223372036854775807) :
    Calls Tryd.prog 51 #[.string s, .string o] w (Ret (.bool (belowB s.data.toList o.data.toList)) w) := by
  go_enter Tryd.func51, Tryd.ntmps51
  go_wp2
  go_loopw [0] (fun v wr => ∃ (k : Nat) (q : ByteArray), v = .string q ∧ q.size ≤ s.size ∧ k ≤ (aboveL s.data.toList).length ∧ (aboveL s.data.toList).drop k = aboveL q.data.toList ∧ ((aboveL s.data.toList).take k).contains o.data.toList = false ∧ Ext w wr) (fun v _ => vlen v)
  case atStart => exact ⟨0, s, rfl, Nat.le_refl _, Nat.zero_le _, rfl, rfl, Below.refl _ _⟩
  case round =>
    obtain ⟨k, q, rfl, hq, hk, hdrop, hno, hE⟩ := hrel
    have hqs : q.size ≤ 9223372036854775807 := by omega
    have hqe := isEmpty_of (s := q)
    have HD := Lib.hid hdrop; have HN := Lib.hid hno; clear hdrop hno
    by_cases h0 : q.size = 0
    · have e0 : q.toList.isEmpty = true := by rw [hqe]; simp [h0]
      have hq0 : q.data.toList = [] := by have := Lib.size_eq q; rw [h0] at this; exact List.eq_nil_of_length_eq_zero this.symm
      have hu : up q.data.toList = [] := by rw [hq0]; unfold up; split <;> rfl
      have hend : k = (aboveL s.data.toList).length := aboveL_end _ _ _ HD.out hk hu
      have hfin : belowB s.data.toList o.data.toList = false := by have := HN.out; rw [hend, List.take_length] at this; exact this
      have HF := Lib.hid hfin; clear hfin hqe h0 hq0 hu hend
      go_wp2
      go_ret
      exact ⟨ret_bool HF.out.symm, hE⟩
    · have e0 : q.toList.isEmpty = false := by rw [hqe]; simp [h0]
      clear hqe
      obtain ⟨q2, hq2⟩ : ∃ q2 : ByteArray, ⟨(up q.data.toList).toArray⟩ = q2 := ⟨_, rfl⟩
      have hq2d : q2.data.toList = up q.data.toList := by rw [← hq2]
      have hq2s : q2.size ≤ s.size := by rw [← hq2]; exact up_size q s.size hq
      have hq2e := isEmpty_of (s := q2)
      have HQ2 := Lib.hid hq2; have HQD := Lib.hid hq2d; clear hq2 hq2d
      by_cases hu0 : q2.size = 0
      · have e2 : q2.toList.isEmpty = true := by rw [hq2e]; simp [hu0]
        have e2' : q2.toList = [] := by simpa using e2
        have hu : up q.data.toList = [] := by rw [← HQD.out, ← Lib.toList_data]; exact e2'
        have hnew : (aboveL s.data.toList).drop k = aboveL q2.data.toList := by
          rw [HD.out, HQD.out, hu]; rw [aboveL, above_end _ hu]; rw [aboveL, above_end]; unfold up; split <;> rfl
        have hlen : q2.size < q.size := by omega
        have HX := Lib.hid hnew; have HL := Lib.hid hlen; clear hnew hu hq2e hu0 e2' hlen
        cases ho : (q2.toList == o.toList)
        all_goals
          go_wp2_with (go_at_call 28; refine (rUp_any q _ hqs).mono ?_; rintro e w1 ⟨rfl, hE1⟩; rw [HQ2.out])
          go_roundw
          case rel => exact ⟨k, q2, rfl, hq2s, hk, HX.out, HN.out, ext_trans hE hE1⟩
          case measure => simp [vlen]; exact HL.out
      · have e2 : q2.toList.isEmpty = false := by rw [hq2e]; simp [hu0]
        have hu : up q.data.toList ≠ [] := by rw [← HQD.out]; intro h; exact hu0 (by rw [Lib.size_eq, h]; rfl)
        obtain ⟨hx, hd⟩ := aboveL_drop _ _ _ HD.out hu
        have hlt := (List.getElem?_eq_some_iff.1 hx).1
        have hlen : q2.size < q.size := by rw [Lib.size_eq, Lib.size_eq, HQD.out]; exact up_lt _ hu
        rw [← HQD.out] at hx hd
        have HX := Lib.hid hx; have HD2 := Lib.hid hd; have HL := Lib.hid hlen; clear hx hd hlen hu hq2e hu0
        cases ho : (q2.toList == o.toList)
        · have HO := Lib.hid ho
          go_wp2_with (go_at_call 28; refine (rUp_any q _ hqs).mono ?_; rintro e w1 ⟨rfl, hE1⟩; rw [HQ2.out])
          go_roundw
          case rel => exact ⟨k + 1, q2, rfl, hq2s, by omega, HD2.out, contains_step HX.out (by rw [← Lib.toList_data]; exact HO.out) HN.out, ext_trans hE hE1⟩
          case measure => simp [vlen]; exact HL.out
        · have HO := Lib.hid ho
          go_wp2_with (go_at_call 28; refine (rUp_any q _ hqs).mono ?_; rintro e w1 ⟨rfl, hE1⟩; rw [HQ2.out])
          go_ret
          exact ⟨ret_bool (contains_hit HX.out (by rw [← Lib.toList_data]; exact HO.out)).symm, ext_trans hE hE1⟩
theorem runder_eq (s o : ByteArray) : underB s.data.toList o.data.toList = (isB s.data.toList && (o.toList.isEmpty || s.toList == o.toList || belowB s.data.toList o.data.toList)) := under_eq s o
set_option maxHeartbeats 400000 in
theorem rUnder_any (s o : ByteArray) (w : World) (hs : s.size ≤ 9223372036854775807) :
    Calls Tryd.prog 31 #[.string s, .string o] w (Ret (.bool (underB s.data.toList o.data.toList)) w) := by
  have HU := Lib.hid (under_eq s o)
  cases h1 : isB s.data.toList
  · have H1 := Lib.hid h1; clear h1
    go_enter Tryd.func31, Tryd.ntmps31
    go_wp2_with (go_at_call 44; refine (rName_any s _ hs).mono ?_; rintro e w' ⟨rfl, hE⟩; rw [H1.out])
    go_ret
    exact ⟨ret_bool (by rw [HU.out, H1.out]; rfl), hE⟩
  · have H1 := Lib.hid h1; clear h1
    cases h2 : o.toList.isEmpty
    all_goals cases h3 : (s.toList == o.toList)
    all_goals
      have H2 := Lib.hid h2; have H3 := Lib.hid h3
      go_enter Tryd.func31, Tryd.ntmps31
      go_wp2_with (first | (go_at_call 44; refine (rName_any s _ hs).mono ?_; rintro e w' ⟨rfl, hE⟩; rw [H1.out]) | (go_at_call 51; refine (rbelow_any s o _ hs).mono ?_; rintro e w2 ⟨rfl, hE2⟩))
      go_ret
      refine ⟨ret_bool (by rw [HU.out, H1.out, H2.out, H3.out]; first | rfl | simp), ?_⟩
      first | exact ext_trans hE hE2 | exact hE
set_option maxHeartbeats 400000 in
theorem rMatch_any (p s : ByteArray) (w : World) (hp : p.size ≤ 9223372036854775807) (hs : s.size ≤ 9223372036854775807) :
    Calls Tryd.prog 33 #[.string p, .string s] w (Ret (.bool (rmatchB p.data.toList s.data.toList)) w) := by
  have hr : rmatchB p.data.toList s.data.toList = if !isB s.data.toList then false else if starB p.data.toList then belowB s.data.toList (starOf p.data.toList) else p.toList == s.toList := by rw [Lib.toList_data, Lib.toList_data]; rfl
  have HR := Lib.hid hr; clear hr
  cases h1 : isB s.data.toList
  all_goals cases h2 : starB p.data.toList
  all_goals
    have H1 := Lib.hid h1; have H2 := Lib.hid h2; clear h1 h2
    go_enter Tryd.func33, Tryd.ntmps33
    go_wp2_with (first | (go_at_call 44; refine (rName_any s _ hs).mono ?_; rintro e w1 ⟨rfl, hE⟩; rw [H1.out]) | (go_at_call 46; refine (rStar_any p _ hp).mono ?_; rintro e w2 ⟨rfl, hE2⟩; rw [H2.out]) | (go_at_call 51; refine (rbelow_any s _ _ hs).mono ?_; rintro e w3 ⟨rfl, hE3⟩))
    go_ret
    refine ⟨ret_bool (by rw [HR.out, H1.out, H2.out]; rfl), ?_⟩
    first | exact ext_trans (ext_trans hE hE2) hE3 | exact ext_trans hE hE2 | exact hE
end Go.Proofs.YtjjkonaopmipoaaDoor
