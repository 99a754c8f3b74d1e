/- Walks: names.below, Under, Match, Within. Walks: names.Meets (over slices.ContainsFunc), names.Labels. Walks: the document's functions on names, the outer ones; names.Labels. Walks: the document's Within, Meets, Same; names.Labels. Walks: the document's Same; names.Labels. Slices of elements of several cells: how a value reads as a list. -/
import Derived.Test.YteemkkmkkgfofaaGreatDoorM06
import Derived.Deep.QuietTactic
import Derived.BigQuiet
import Derived.WalkKit
namespace Go.Proofs.YteemkkmkkgfofaaGreatDoor
open Go.RowKit Nam
attribute [local go_sem] Oper.semAt_some wide_fn wide_depth wide_some

theorem contains_step {l : List Str} {k : Nat} {x : Str} {o : ByteArray} (h : l[k]? = some x) (hx : (x == o.toList) = false) (hk : (l.take k).contains o.data.toList = false) : (l.take (k + 1)).contains o.data.toList = false := by
  obtain ⟨h1, h2⟩ := List.getElem?_eq_some_iff.1 h
  rw [Lib.toList_data] at hx
  rw [List.take_succ_eq_append_getElem h1, h2]
  have hx' : ¬ o.data.toList = x := by intro e; rw [e] at hx; simp at hx
  simp only [List.contains_eq_mem, decide_eq_false_iff_not] at hk ⊢
  simp [hk, hx']
theorem contains_hit {l : List Str} {k : Nat} {x : Str} {o : ByteArray} (h : l[k]? = some x) (hx : (x == o.toList) = true) : l.contains o.data.toList = true := by
  rw [Lib.toList_data, beq_iff_eq] at hx
  rw [List.contains_eq_mem, decide_eq_true_eq, ← hx]
  exact List.mem_of_getElem? h
theorem under_eq (s o : ByteArray) : underB s.data.toList o.data.toList = (isB s.data.toList && (o.toList.isEmpty || s.toList == o.toList || belowB s.data.toList o.data.toList)) := by
  rw [Lib.toList_data, Lib.toList_data]; rfl
theorem pattern_size {p : ByteArray} (hp : p.size ≤ 9223372036854775807) : (⟨(pattern p.data.toList).1.toArray⟩ : ByteArray).size ≤ 9223372036854775807 := by
  rw [size_bs]; rw [Lib.size_eq] at hp
  unfold pattern
  split
  · exact hp
  · split
    · show (p.data.toList.drop 2).length ≤ _
      rw [List.length_drop]; omega
    · exact hp
/-- Cell i of block b is v. -/
def CellIs (w : World) (b i : Nat) (v : Value) : Prop := w.cell? ⟨b, i, none⟩ = some v
theorem CellIs.ext {w w' : World} {b i : Nat} {v : Value} (h : CellIs w b i v) (hE : Ext w w') : CellIs w' b i v := (hE.cell (p := ⟨b, i, none⟩) (cell_lt h)).trans h
def pairIs (w : World) (b : Nat) (p q : ByteArray) : Prop := CellIs w b 0 (.string p) ∧ CellIs w b 1 (.string q)
end Go.Proofs.YteemkkmkkgfofaaGreatDoor
namespace Go.Proofs.YteemkkmkkgfofaaGreatDoor
open Go.RowKit Nam
attribute [local go_sem] Oper.semAt_some wide_fn wide_depth wide_some

theorem pairIs.ext {w w' : World} {b : Nat} {p q : ByteArray} (h : pairIs w b p q) (hE : Ext w w') : pairIs w' b p q := ⟨h.1.ext hE, h.2.ext hE⟩
structure MeetArgs (w : World) (B b0 b1 : Nat) (p q : ByteArray) : Prop where
  env : Env w
  c0 : CellIs w B 0 (.slice (some ⟨b0, 0, none⟩) 2 2)
  c1 : CellIs w B 1 (.slice (some ⟨b1, 0, none⟩) 2 2)
  p0 : pairIs w b0 p q
  p1 : pairIs w b1 q p
theorem MeetArgs.ext {w w' : World} {B b0 b1 : Nat} {p q : ByteArray} (h : MeetArgs w B b0 b1 p q) (hE : Ext w w') : MeetArgs w' B b0 b1 p q :=
  ⟨h.env.ext hE, h.c0.ext hE, h.c1.ext hE, h.p0.ext hE, h.p1.ext hE⟩
def two (a b : Bool) : Int := if a then 0 else if b then 1 else -1
theorem two_ge (a b : Bool) : decide (0 ≤ two a b) = (a || b) := by cases a <;> cases b <;> rfl
end Go.Proofs.YteemkkmkkgfofaaGreatDoor
namespace Go.Proofs.YteemkkmkkgfofaaGreatDoor
open Go.RowKit Nam

theorem strV_get {l : List Str} {k : Nat} {x : Str} (h : l[k]? = some x) : (l.map strV)[k]? = some (.string ⟨x.toArray⟩) := by
  rw [List.getElem?_map, h]; rfl
theorem name_isB_no {l : Str} {k : Nat} {x : Str} (h : (cut l)[k]? = some x) (hx : labelB x = false) : isB l = false := by
  rw [Bool.eq_false_iff]; intro hb
  have := (isB_iff.1 hb).2.2 x (List.mem_of_getElem? h)
  rw [hx] at this; cases this
set_option maxHeartbeats 1000000 in
theorem rName_any (s : ByteArray) (w : World) (hs : s.size ≤ 9223372036854775807) :
    Calls Tryz.prog 66 #[.string s] w (Ret (.bool (isB s.data.toList)) w) := by
  by_cases h64 : 64 < s.size
  · have hf : isB s.data.toList = false := by
      rw [Bool.eq_false_iff]; intro h
      have := (isB_iff.1 h).1; rw [← Lib.size_eq] at this; omega
    have H := Lib.hid hf; clear hf
    go_enter Tryz.func66, Tryz.ntmps66
    go_wp2
    go_ret
    exact ⟨ret_bool H.out.symm, Below.refl _ _⟩
  · have h1000 : s.size ≤ 1000 := by omega
    have h64' : s.size ≤ 64 := by omega
    go_enter Tryz.func66, Tryz.ntmps66
    go_wp2_with fail
    refine (rcut_any s _ h1000).mono ?_
    rintro e w1 ⟨v, rfl, hv, hE⟩
    rcases hv with ⟨h0, _⟩ | ⟨b, off, cap, rfl, hcap, hmax, hcell⟩
    · exact absurd (List.map_eq_nil_iff.1 h0) (cut_ne _)
    obtain ⟨n, hn⟩ : ∃ n, ((cut s.data.toList).map strV).length = n := ⟨_, rfl⟩
    rw [hn] at hcap ⊢
    have hn' : (cut s.data.toList).length = n := by rw [← hn, List.length_map]
    unfold maxLen at hmax
    have HC := Lib.hid hcell; have HN := Lib.hid hn'; clear hcell hn hn'
    go_wp2
    go_loop [4] (fun i => ∃ k : Nat, k ≤ n ∧ i = .int .i64 k ∧ ((cut s.data.toList).take k).all labelB = true) (fun i => n - (intOf i).toNat)
    case atStart => exact ⟨0, Nat.zero_le _, rfl, rfl⟩
    case round =>
      obtain ⟨k, hk, rfl, hall⟩ := hrel
      have HA := Lib.hid hall; clear hall
      by_cases hlt : k < n
      · obtain ⟨x, hx⟩ : ∃ x, (cut s.data.toList)[k]? = some x := ⟨_, List.getElem?_eq_getElem (by rw [HN.out]; exact hlt)⟩
        have hc : w1.cell? ⟨b, off + k, none⟩ = some (.string ⟨x.toArray⟩) := HC.out k _ (strV_get hx)
        have hxs := label_size hs hx
        have HX := Lib.hid hx; clear hx
        go_wp2_with (go_at_call 96; refine (rlabel_any _ _ hxs).mono ?_; rintro e w' ⟨rfl, rfl⟩)
        · have ht : (!labelB x) = true := by assumption
          go_ret
          exact ⟨ret_bool (name_isB_no HX.out (by simpa using ht)).symm, hE⟩
        · have ht : (!labelB x) = false := by assumption
          go_round
          case rel => exact ⟨k + 1, by omega, by go_num, all_step HX.out (by simpa using ht) HA.out⟩
          case measure => simp [intOf]; omega
      · have hks : k = n := by omega
        have hall := HA.out
        rw [hks, ← HN.out, List.take_length] at hall
        have hfin : isB s.data.toList = decide (n ≤ 8) := by
          rw [← HN.out, Bool.eq_iff_iff, isB_iff, decide_eq_true_eq]
          rw [List.all_eq_true] at hall
          exact ⟨fun h => h.2.1, fun h => ⟨by rw [← Lib.size_eq]; exact h64', h, hall⟩⟩
        have HF := Lib.hid hfin; clear hfin hall
        go_wp2
        go_ret
        exact ⟨ret_bool (by rw [HF.out]; simp; try omega), hE⟩
theorem star_no {s : ByteArray} (h : ¬ (3 ≤ s.size ∧ s.size ≤ 64)) : starB s.data.toList = false := by
  unfold starB; rw [← Lib.size_eq]
  have : (decide (3 ≤ s.size) && decide (s.size ≤ 64)) = false := by rw [Bool.and_eq_false_iff]; simp; omega
  rw [this]; rfl
theorem star_eq {s : ByteArray} (h3 : 3 ≤ s.size) (h64 : s.size ≤ 64) : starB s.data.toList = ((s[0].toNat : Int) == 42 && (s[1].toNat : Int) == 46 && isB (s.data.toList.drop 2) && decide ((cut (s.data.toList.drop 2)).length ≤ 7)) := by
  unfold starB; rw [← Lib.size_eq, decide_eq_true h3, decide_eq_true h64, good_get (show 0 < s.size by omega), good_get (show 1 < s.size by omega)]
  have e : ∀ (a b : UInt8), (a == b) = ((a.toNat : Int) == (b.toNat : Int)) := fun a b => by
    rw [Bool.eq_iff_iff, beq_iff_eq, beq_iff_eq]
    exact ⟨fun h => by rw [h], fun h => Lib.byte_eq_of_toNat h⟩
  rw [e, e]; rfl
set_option maxHeartbeats 1000000 in
theorem rStar_any (s : ByteArray) (w : World) (hs : s.size ≤ 9223372036854775807) :
    Calls Tryz.prog 65 #[.string s] w (Ret (.tuple #[.string ⟨(starOf s.data.toList).toArray⟩, .bool (starB s.data.toList)]) w) := by
  have hno : starB s.data.toList = false → (.tuple #[.string ⟨#[]⟩, .bool false] : Value) = .tuple #[.string ⟨(starOf s.data.toList).toArray⟩, .bool (starB s.data.toList)] := by
    intro h; unfold starOf; rw [h]; rfl
  have HNO := Lib.hid hno; clear hno
  by_cases h : 3 ≤ s.size ∧ s.size ≤ 64
  · obtain ⟨h3, h64⟩ := h
    have HS := Lib.hid (star_eq h3 h64)
    have g0 : 0 < s.size := by omega
    have g1 : 1 < s.size := by omega
    by_cases ha : (s[0].toNat : Int) = 42 ∧ (s[1].toNat : Int) = 46
    rotate_left 1
    · have hf : starB s.data.toList = false := by
        rw [HS.out]
        have : ((s[0].toNat : Int) == 42 && (s[1].toNat : Int) == 46) = false := by
          rw [Bool.eq_false_iff]; intro h; rw [Bool.and_eq_true, beq_iff_eq, beq_iff_eq] at h; exact ha h
        rw [this]; rfl
      have HF := Lib.hid hf; clear hf
      by_cases hb : (s[0].toNat : Int) = 42
      · have hb2 : ¬ (s[1].toNat : Int) = 46 := fun h => ha ⟨hb, h⟩
        have t1 : ((s[0].toNat : Int) != 42) = false := by simpa using hb
        have t2 : ((s[1].toNat : Int) != 46) = true := by simpa using hb2
        clear ha hb hb2
        go_enter Tryz.func65, Tryz.ntmps65
        go_wp2
        go_ret2
        exact ⟨congrArg _ (HNO.out HF.out), Below.refl _ _⟩
      · have t1 : ((s[0].toNat : Int) != 42) = true := by simpa using hb
        clear ha hb
        go_enter Tryz.func65, Tryz.ntmps65
        go_wp2
        go_ret2
        exact ⟨congrArg _ (HNO.out HF.out), Below.refl _ _⟩
    · obtain ⟨ha, hb⟩ := ha
      have t1 : ((s[0].toNat : Int) != 42) = false := by simpa using ha
      have t2 : ((s[1].toNat : Int) != 46) = false := by simpa using hb
      have hS : starB s.data.toList = (isB (s.data.toList.drop 2) && decide ((cut (s.data.toList.drop 2)).length ≤ 7)) := by rw [HS.out, beq_iff_eq.2 ha, beq_iff_eq.2 hb]; rfl
      have HSS := Lib.hid hS; clear hS ha hb HS
      obtain ⟨q, hq⟩ : ∃ q, s.extract 2 s.size = q := ⟨_, rfl⟩
      have hqd : q.data.toList = s.data.toList.drop 2 := by rw [← hq, drop_eq]
      have hqs : q.size ≤ 62 := by rw [Lib.size_eq, hqd, List.length_drop, ← Lib.size_eq]; omega
      have HQ := Lib.hid hq; have HQD := Lib.hid hqd; clear hq hqd
      go_enter Tryz.func65, Tryz.ntmps65
      cases hN : isB q.data.toList
      · have HN := Lib.hid hN; clear hN
        go_wp2_with (go_at_call 66; rw [HQ.out]; refine (rName_any q _ (by omega)).mono ?_; rintro e w1 ⟨rfl, hE⟩; rw [HN.out])
        go_ret2
        exact ⟨congrArg _ (HNO.out (by rw [HSS.out, ← HQD.out, HN.out]; rfl)), hE⟩
      · have HN := Lib.hid hN; clear hN
        go_wp2_with (first | (go_at_call 66; rw [HQ.out]; refine (rName_any q _ (by omega)).mono ?_; rintro e w1 ⟨rfl, hE⟩; rw [HN.out]) | (go_at_call 95; rw [HQ.out]; refine (rcut_any q _ (by omega)).mono ?_; rintro e w2 ⟨v, rfl, hv, hE2⟩; obtain ⟨a, cap, rfl⟩ := hv.form; clear hv))
        · have h7 : 7 < (cut q.data.toList).length := by omega
          go_ret2
          exact ⟨congrArg _ (HNO.out (by rw [HSS.out, ← HQD.out, HN.out]; simp; omega)), ext_trans hE hE2⟩
        · have h7 : (cut q.data.toList).length ≤ 7 := by omega
          have hS1 : starB s.data.toList = true := by rw [HSS.out, ← HQD.out, HN.out]; simp; omega
          have HS1 := Lib.hid hS1; clear hS1
          go_ret2
          exact ⟨by rw [starOf, if_pos HS1.out, HS1.out, ← drop_eq]; rfl, ext_trans hE hE2⟩
  · have HF := Lib.hid (star_no h)
    by_cases h3 : s.size < 3
    · have t1 : decide ((s.size : Int) < 3) = true := by simp; omega
      clear h
      go_enter Tryz.func65, Tryz.ntmps65
      go_wp2
      go_ret2
      exact ⟨congrArg _ (HNO.out HF.out), Below.refl _ _⟩
    · have t1 : decide ((s.size : Int) < 3) = false := by simp; omega
      have t2 : decide ((64 : Int) < s.size) = true := by simp; omega
      clear h
      go_enter Tryz.func65, Tryz.ntmps65
      go_wp2
      go_ret2
      exact ⟨congrArg _ (HNO.out HF.out), Below.refl _ _⟩
set_option maxHeartbeats 400000 in
theorem rPattern_any (s : ByteArray) (w : World) (hs : s.size ≤ 9223372036854775807) :
    Calls Tryz.prog 40 #[.string s] w (Ret (.int .i64 (okOr 110 (rpatB s.data.toList))) w) := by
  have hr : rpatB s.data.toList = (starB s.data.toList || isB s.data.toList) := rfl
  have HR := Lib.hid hr; clear hr
  go_enter Tryz.func40, Tryz.ntmps40
  go_wp2_with (first | (go_at_call 65; refine (rStar_any s _ hs).mono ?_; rintro e w1 ⟨rfl, hE⟩) | (go_at_call 66; refine (rName_any s _ hs).mono ?_; rintro e w2 ⟨rfl, hE2⟩))
  · go_ret
    exact ⟨by rw [HR.out, show starB s.data.toList = true by assumption]; rfl, hE⟩
  · have h1 : starB s.data.toList = false := by rw [Bool.eq_false_iff]; assumption
    have h2 : (!isB s.data.toList) = true := by assumption
    go_ret
    exact ⟨by rw [HR.out, h1, show isB s.data.toList = false by simpa using h2]; rfl, ext_trans hE hE2⟩
  · have h2 : (!isB s.data.toList) = false := by assumption
    go_ret
    exact ⟨by rw [HR.out, show isB s.data.toList = true by simpa using h2, Bool.or_true]; rfl, ext_trans hE hE2⟩
def NoDotTo (l : Str) (k : Nat) : Prop := ∀ j : Nat, j < k → l[j]? ≠ some (46 : UInt8)
theorem afterDot_hit : ∀ (m : Nat) (l : Str), NoDotTo l m → l[m]? = some (46 : UInt8) → afterDot l = l.drop (m + 1)
  | _, [], _, h => by simp at h
  | 0, c :: t, _, h => by simp at h; subst h; simp [afterDot]
  | m + 1, c :: t, h1, h => by
    have hc : c ≠ 46 := fun e => h1 0 (by omega) (by simp [e])
    rw [afterDot, if_neg hc, afterDot_hit m t (fun j hj => by have := h1 (j + 1) (by omega); simpa using this) (by simpa using h)]
    simp
theorem afterDot_free : ∀ (l : Str), NoDotTo l l.length → afterDot l = []
  | [], _ => rfl
  | c :: t, h => by
    have hc : c ≠ 46 := fun e => h 0 (by simp) (by simp [e])
    rw [afterDot, if_neg hc, afterDot_free t (fun j hj => by have := h (j + 1) (by simpa using hj); simpa using this)]
def vlen (v : Value) : Nat := match v with | .string s => s.size | _ => 0
theorem runder_eq (s o : ByteArray) : underB s.data.toList o.data.toList = (isB s.data.toList && (o.toList.isEmpty || s.toList == o.toList || belowB s.data.toList o.data.toList)) := under_eq s o
end Go.Proofs.YteemkkmkkgfofaaGreatDoor
namespace Go.Proofs.YteemkkmkkgfofaaGreatDoor
open Go.RowKit Nam
attribute [local go_sem] okOr_true okOr_false

theorem starOf_size {p : ByteArray} (hp : p.size ≤ 9223372036854775807) : (⟨(starOf p.data.toList).toArray⟩ : ByteArray).size ≤ 9223372036854775807 := by
  rw [size_bs]; rw [Lib.size_eq] at hp
  unfold starOf
  split
  · rw [List.length_drop]; omega
  · simp
end Go.Proofs.YteemkkmkkgfofaaGreatDoor
namespace Go.Proofs.YteemkkmkkgfofaaGreatDoor
open Go.RowKit Nam

theorem strV_inj {a b : Str} (h : strV a = strV b) : a = b := by
  unfold strV at h
  injection h with h
  injection h with h
  have := congrArg Array.toList h
  simpa using this
theorem Cells.at {w : World} {b off k : Nat} {l : List Str} {x : Str} (h : Cells w b off (l.map strV)) (hx : l[k]? = some x) : w.cell? ⟨b, off + k, none⟩ = some (.string ⟨x.toArray⟩) := h k _ (strV_get hx)
def SameTo (a b : List Str) (k : Nat) : Prop := ∀ j : Nat, j < k → a[j]? = b[j]?
theorem sameTo_all {a b : List Str} {n : Nat} (ha : a.length = n) (hb : b.length = n) (h : SameTo a b n) : (a == b) = true := by
  rw [beq_iff_eq]
  refine List.ext_getElem? fun j => ?_
  by_cases hj : j < n
  · exact h j hj
  · rw [List.getElem?_eq_none (by omega), List.getElem?_eq_none (by omega)]
theorem sameTo_no {a b : List Str} {k : Nat} {x y : Str} (ha : a[k]? = some x) (hb : b[k]? = some y) (h : (x == y) = false) : (a == b) = false := by
  rw [beq_eq_false_iff_ne]; intro e
  rw [e, hb] at ha
  injection ha with ha
  rw [ha] at h; simp at h
theorem sameTo_step {a b : List Str} {k : Nat} {x y : Str} (h0 : SameTo a b k) (ha : a[k]? = some x) (hb : b[k]? = some y) (h : (x == y) = true) : SameTo a b (k + 1) := fun j hj => by
  by_cases e : j = k
  · subst e; rw [ha, hb, beq_iff_eq.1 h]
  · exact h0 j (by omega)
theorem same_len {a b : List Str} (h : a.length ≠ b.length) : (a == b) = false := by
  rw [beq_eq_false_iff_ne]; intro e; exact h (by rw [e])
end Go.Proofs.YteemkkmkkgfofaaGreatDoor
namespace Go.Proofs.YteemkkmkkgfofaaGreatDoor
open Go.RowKit

/-- How one element lies in memory: at a block, from an offset on. -/
abbrev ElR (α : Type) := World → Nat → Nat → α → Prop
/-- A reading that no new block and no foreign store turns. -/
class Firm {α : Type} (R : ElR α) : Prop where
  ext : ∀ {w w' : World} {b o : Nat} {x : α}, R w b o x → Ext w w' → R w' b o x
/-- From address a on there lie l, each of n cells. -/
def SlA {α : Type} (n : Nat) (R : ElR α) (w : World) (a : Option Addr) (l : List α) : Prop :=
  ∀ i x, l[i]? = some x → ∃ b off, a = some ⟨b, off, none⟩ ∧ R w b (off + i * n) x
theorem SlA.ext {α : Type} {n : Nat} {R : ElR α} [Firm R] {w w' : World} {a : Option Addr} {l : List α} (h : SlA n R w a l) (hE : Ext w w') : SlA n R w' a l := fun i x hx => by
  obtain ⟨b, off, ha, hR⟩ := h i x hx
  exact ⟨b, off, ha, Firm.ext hR hE⟩
theorem SlA.nil {α : Type} (n : Nat) (R : ElR α) (w : World) (a : Option Addr) : SlA n R w a [] := fun i x hx => by simp at hx
theorem SlA.take {α : Type} {n : Nat} {R : ElR α} {w : World} {a : Option Addr} {l : List α} (h : SlA n R w a l) (k : Nat) : SlA n R w a (l.take k) := fun i x hx => by
  rw [List.getElem?_take] at hx
  split at hx
  · exact h i x hx
  · cases hx
/-- v is a slice that reads as l. -/
def SlV {α : Type} (n : Nat) (R : ElR α) (w : World) (v : Value) (l : List α) : Prop :=
  ∃ a cap, v = .slice a l.length cap ∧ l.length ≤ cap ∧ cap ≤ maxLen ∧ SlA n R w a l
theorem SlV.ext {α : Type} {n : Nat} {R : ElR α} [Firm R] {w w' : World} {v : Value} {l : List α} (h : SlV n R w v l) (hE : Ext w w') : SlV n R w' v l := by
  obtain ⟨a, cap, h1, h2, h3, h4⟩ := h
  exact ⟨a, cap, h1, h2, h3, h4.ext hE⟩
theorem ext_alloc {w w' : World} (h : Ext w w') (o : Obj) : Ext w (w'.alloc o) := h.alloc h.size o
theorem ext_drewN {w w' : World} (h : Ext w w') (n : Nat) : Ext w (w'.drewN n) := Below.drewN' h n
theorem take_snoc {α : Type} {l : List α} {k : Nat} {e : α} (h : l[k]? = some e) : l.take (k + 1) = l.take k ++ [e] := by
  rw [List.take_add_one, h]; rfl
theorem get_some {α : Type} {l : List α} {k n : Nat} (hn : l.length = n) (h : k < n) : ∃ e, l[k]? = some e := ⟨_, List.getElem?_eq_getElem (by rw [hn]; exact h)⟩
end Go.Proofs.YteemkkmkkgfofaaGreatDoor
