/- Walks of the program's functions on names: the inner ones. -/
import Derived.Test.YtjjkonaopmipoaaDoorBase
import Derived.Test.YtjjkonaopmipoaaDoorNmP
import Derived.Test.YtjjkonaopmipoaaDoorShelf
import Derived.Lib.Hide
namespace Go.Proofs.YtjjkonaopmipoaaDoor
open Go.RowKit Nam
attribute [local go_sem] Oper.semAt_some

set_option maxHeartbeats 400000 in
theorem edge_any (r : Int) (w : World) :
    Calls Tryd.prog 75 #[.int .i32 r] w fun e w' => e = .returned (.bool (edgeR r)) ∧ w' = w := by
  go_enter Tryd.func75, Tryd.ntmps75
  go_wp2
  all_goals (go_ret; refine ⟨ret_bool ?_, rfl⟩; rw [Bool.eq_iff_iff]; simp [edgeR]; try omega)
set_option maxHeartbeats 400000 in
theorem inner_any (r : Int) (w : World) :
    Calls Tryd.prog 76 #[.int .i32 r] w fun e w' => e = .returned (.bool (innerR r)) ∧ w' = w := by
  by_cases h : r = 45
  all_goals
    have h2 : (r == 45) = decide (r = 45) := rfl
    simp only [h, decide_true, decide_false] at h2
    go_enter Tryd.func76, Tryd.ntmps76
    go_wp2_with (go_at_call 75; refine (edge_any _ _).mono ?_; rintro e w' ⟨rfl, rfl⟩)
    go_ret
    exact ⟨ret_bool (by simp [innerR, h]), rfl⟩
set_option maxHeartbeats 400000 in
theorem told_any (b : Bool) (w : World) :
    Calls Tryd.prog 42 #[.bool b] w fun e w' => e = .returned (.int .i64 (okOr 110 b)) ∧ w = w' := by
  cases b
  all_goals
    go_enter Tryd.func42, Tryd.ntmps42
    go_wp2
    go_ret
    exact ⟨rfl, rfl⟩

theorem width_pos (s : ByteArray) (pos : Nat) (h : pos < s.size) : 1 ≤ (Utf8.decode s pos).2 := by
  by_cases ha : (s[pos]'h).toNat < 128
  · rw [decode_ascii s pos h ha]
    exact Nat.le_refl _
  · exact (decode_high s pos h (by omega)).2
theorem okR_high {n k : Nat} {r : Int} (h : 128 ≤ r) : okR n k r = false := by
  have h1 : edgeR r = false := by unfold edgeR; rw [Bool.eq_false_iff]; simp; omega
  have h2 : (r == 45) = false := by rw [beq_eq_false_iff_ne]; omega
  have h3 : (r == 95) = false := by rw [beq_eq_false_iff_ne]; omega
  unfold okR innerR; rw [h1, h2, h3]; simp
/-- Up to here all is well. -/
def Good (s : ByteArray) (k : Nat) : Prop := ∀ j, j < k → okR s.size j ((s.data.toList.getD j 0).toNat : Int) = true
def GoodAt (s : ByteArray) (k : Nat) (b : Bool) : Prop := okR s.size k (Utf8.decode s k).1 = b
theorem good_get {s : ByteArray} {k : Nat} (h : k < s.size) : s.data.toList.getD k 0 = s[k] := by
  rw [List.getD_eq_getElem?_getD, Lib.data_getElem? s k h]; rfl
theorem good_step {s : ByteArray} {k : Nat} (hk : k < s.size) (h : Good s k) (ha : GoodAt s k true) : (Utf8.decode s k).2 = 1 ∧ Good s (k + 1) := by
  by_cases hb : (s[k]'hk).toNat < 128
  · have e := decode_ascii s k hk hb
    refine ⟨by rw [e], fun j hj => ?_⟩
    by_cases hjk : j = k
    · subst hjk; unfold GoodAt at ha; rw [e] at ha; rw [good_get hk]; exact ha
    · exact h j (by omega)
  · have := (decode_high s k hk (by omega)).1
    unfold GoodAt at ha
    rw [okR_high (by omega)] at ha; cases ha
theorem good_bad {s : ByteArray} {k : Nat} (hk : k < s.size) (ha : GoodAt s k false) : labelB s.data.toList = false := by
  have hn : okR s.data.toList.length k ((s.data.toList.getD k 0).toNat : Int) = false := by
    rw [good_get hk, ← Lib.size_eq]
    by_cases hb : (s[k]'hk).toNat < 128
    · unfold GoodAt at ha; rw [decode_ascii s k hk hb] at ha; exact ha
    · exact okR_high (by omega)
  unfold labelB
  rw [Bool.and_eq_false_iff]; right
  rw [List.all_eq_false]
  exact ⟨k, by rw [List.mem_range, ← Lib.size_eq]; exact hk, by rw [hn]; simp⟩
theorem good_all {s : ByteArray} (h1 : 1 ≤ s.size) (h2 : s.size ≤ 16) (h : Good s s.size) : labelB s.data.toList = true := by
  unfold labelB
  rw [← Lib.size_eq]
  simp only [Bool.and_eq_true, decide_eq_true_eq, List.all_eq_true, List.mem_range]
  exact ⟨⟨h1, h2⟩, h⟩
theorem label_short {s : ByteArray} (h : s.size = 0 ∨ 16 < s.size) : labelB s.data.toList = false := by
  unfold labelB
  rw [← Lib.size_eq]
  rw [Bool.and_eq_false_iff]; left
  simp; omega
theorem isEmpty_of {s : ByteArray} : s.toList.isEmpty = decide (s.size = 0) := by
  rw [Lib.toList_data, Lib.size_eq]
  cases s.data.toList <;> simp

def LabelEnd (s : ByteArray) (w : World) (e : Ending) (w' : World) : Prop := e = .returned (.bool (labelB s.data.toList)) ∧ Ext w w'
set_option maxHeartbeats 1000000 in
theorem label_any (s : ByteArray) (w : World) (hs : s.size ≤ 9223372036854775807) :
    Calls Tryd.prog 65 #[.string s] w (LabelEnd s w) := by
  have hem := isEmpty_of (s := s)
  by_cases h0 : s.size = 0
  · have e0 : s.toList.isEmpty = true := by rw [hem]; simp [h0]
    clear hem
    have H := Lib.hid h0; clear h0
    go_enter Tryd.func65, Tryd.ntmps65
    go_wp2
    go_ret
    exact ⟨ret_bool (label_short (.inl H.out)).symm, Below.refl _ _⟩
  · by_cases h1 : 16 < s.size
    · have e0 : s.toList.isEmpty = false := by rw [hem]; simp [h0]
      clear hem
      have e2 : 16 < (s.size : Int) := by omega
      go_enter Tryd.func65, Tryd.ntmps65
      go_wp2
      go_ret
      exact ⟨ret_bool (label_short (.inr h1)).symm, Below.refl _ _⟩
    · have e0 : s.toList.isEmpty = false := by rw [hem]; simp [h0]
      clear hem
      have e2 : (s.size : Int) ≤ 16 := by omega
      have e3 : 1 ≤ s.size := by omega
      clear h1 h0 
      go_enter Tryd.func65, Tryd.ntmps65
      go_wp2
      go_loopw [3, 4] (fun i c wr => ∃ k : Nat, k ≤ s.size ∧ wr = w.iter s k ∧ Good s k) (fun _ _ wr => s.size - wr.iterPos w.heap.size)
      case atStart => exact ⟨0, by omega, rfl, fun j hj => absurd hj (Nat.not_lt_zero _)⟩
      case round =>
        obtain ⟨k, hk, rfl, hg⟩ := hrel
        have HG := Lib.hid hg; clear hg
        by_cases hlt : k < s.size
        · have hnx : ∀ ty, (Instr.next (.pointer (some ⟨w.heap.size, 0, none⟩)) true ty).run Tryd.prog (w.iter s k) = _ := fun ty => run_next_any w s k ty hlt
          have hst : GoodAt s k true → (Utf8.decode s k).2 = 1 ∧ Good s (k + 1) := good_step hlt HG.out
          have hbad : GoodAt s k false → labelB s.data.toList = false := good_bad hlt
          obtain ⟨r, hr⟩ : ∃ r : Nat, (Utf8.decode s k).1 = r := ⟨_, rfl⟩
          obtain ⟨d, hd⟩ : ∃ d : Nat, (Utf8.decode s k).2 = d := ⟨_, rfl⟩
          unfold GoodAt at hst hbad
          simp only [hr, hd] at hst hbad hnx
          clear hr hd
          unfold okR at hst hbad
          by_cases hlast : k + 1 = s.size
          · have t1 : ((k : Int) == (s.size : Int) - 1) = true := by rw [beq_iff_eq]; omega
            simp only [hlast, if_true] at hst hbad
            have Hst := Lib.hid hst; have Hbad := Lib.hid hbad; have HL := Lib.hid hlast; clear hst hbad hlast
            go_wp2_with (first | (go_at_call 75; refine (edge_any _ _).mono ?_; rintro e w' ⟨rfl, rfl⟩) | (go_at_call 76; refine (inner_any _ _).mono ?_; rintro e w' ⟨rfl, rfl⟩))
            · have ht : edgeR (r : Int) = true := by assumption
              obtain ⟨hd, hg⟩ := Hst.out ht
              go_roundw
              case rel => exact ⟨k + 1, by omega, by rw [hd], by rw [HL.out]; exact hg⟩
              case measure => simp; omega
            · have ht : edgeR (r : Int) = false := by assumption
              go_ret
              exact ⟨ret_bool (Hbad.out ht).symm, (Below.refl _ _).alloc (Nat.le_refl _) _⟩
          · have t1 : ((k : Int) == (s.size : Int) - 1) = false := by rw [beq_eq_false_iff_ne]; omega
            simp only [hlast, if_false] at hst hbad
            by_cases hz : k = 0
            · subst hz
              have t3 : ((0 : Int) == (s.size : Int) - 1) = false := by rw [beq_eq_false_iff_ne]; omega
              simp only [if_true] at hst hbad
              have Hst := Lib.hid hst; have Hbad := Lib.hid hbad; have HL := Lib.hid hlast; clear hst hbad hlast
              go_wp2_with (first | (go_at_call 75; refine (edge_any _ _).mono ?_; rintro e w' ⟨rfl, rfl⟩) | (go_at_call 76; refine (inner_any _ _).mono ?_; rintro e w' ⟨rfl, rfl⟩))
              · have ht : edgeR (r : Int) = true := by assumption
                obtain ⟨hd, hg⟩ := Hst.out (by rw [ht]; rfl)
                go_roundw
                case rel => exact ⟨1, by omega, by rw [hd], hg⟩
                case measure => simp; omega
              · have ht : ((r : Int) == 95) = true := by assumption
                obtain ⟨hd, hg⟩ := Hst.out (by rw [ht]; simp)
                go_roundw
                case rel => exact ⟨1, by omega, by rw [hd], hg⟩
                case measure => simp; omega
              · have ht : ¬ edgeR (r : Int) = true := by assumption
                have ht2 : ((r : Int) == 95) = false := by assumption
                go_ret
                exact ⟨ret_bool (Hbad.out (by rw [ht2]; simpa using ht)).symm, (Below.refl _ _).alloc (Nat.le_refl _) _⟩
            · have t2 : ((k : Int) == 0) = false := by rw [beq_eq_false_iff_ne]; omega
              simp only [hz, if_false] at hst hbad
              have Hst := Lib.hid hst; have Hbad := Lib.hid hbad; have HL := Lib.hid hlast; clear hst hbad hlast
              go_wp2_with (first | (go_at_call 75; refine (edge_any _ _).mono ?_; rintro e w' ⟨rfl, rfl⟩) | (go_at_call 76; refine (inner_any _ _).mono ?_; rintro e w' ⟨rfl, rfl⟩))
              · have ht : (!innerR (r : Int)) = true := by assumption
                go_ret
                exact ⟨ret_bool (Hbad.out (by simpa using ht)).symm, (Below.refl _ _).alloc (Nat.le_refl _) _⟩
              · have ht : (!innerR (r : Int)) = false := by assumption
                obtain ⟨hd, hg⟩ := Hst.out (by simpa using ht)
                go_roundw
                case rel => exact ⟨k + 1, by omega, by rw [hd], hg⟩
                case measure => simp; omega
        · have hks : k = s.size := by omega
          have hfin : labelB s.data.toList = true := good_all e3 (by omega) (by rw [← hks]; exact HG.out)
          have Hfin := Lib.hid hfin; clear hfin hks
          have hne := fun ty => run_next_end (P := Tryd.prog) w s k ty hlt
          go_wp2
          go_ret
          exact ⟨ret_bool Hfin.out.symm, (Below.refl _ _).alloc (Nat.le_refl _) _⟩
end Go.Proofs.YtjjkonaopmipoaaDoor
