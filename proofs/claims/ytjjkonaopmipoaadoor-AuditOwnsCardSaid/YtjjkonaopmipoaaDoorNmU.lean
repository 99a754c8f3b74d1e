/- Walks: the document's Same; names.Labels. -/
import Derived.Test.YtjjkonaopmipoaaDoorNmT
import Derived.WalkKit
namespace Go.Proofs.YtjjkonaopmipoaaDoor
open Go.RowKit Nam

theorem strV_inj {a b : Str} (h : strV a = strV b) : a = b := by
  unfold strV at h
  injection h with h
  injection h with h
  have := congrArg Array.toList h
  simpa using this
theorem Cells.at {w : World} {b off k : Nat} {l : List Str} {x : Str} (h : Cells w b off (l.map strV)) (hx : l[k]? = some x) : w.cell? ⟨b, off + k, none⟩ = some (.string ⟨x.toArray⟩) := h k _ (strV_get hx)
def SameTo (a b : List Str) (k : Nat) : Prop := ∀ j : Nat, j < k → a[j]? = b[j]?
theorem sameTo_all {a b : List Str} {n : Nat} (ha : a.length = n) (hb : b.length = n) (h : SameTo a b n) : (a == b) = true := by
  rw [beq_iff_eq]
  refine List.ext_getElem? fun j => ?_
  by_cases hj : j < n
  · exact h j hj
  · rw [List.getElem?_eq_none (by omega), List.getElem?_eq_none (by omega)]
theorem sameTo_no {a b : List Str} {k : Nat} {x y : Str} (ha : a[k]? = some x) (hb : b[k]? = some y) (h : (x == y) = false) : (a == b) = false := by
  rw [beq_eq_false_iff_ne]; intro e
  rw [e, hb] at ha
  injection ha with ha
  rw [ha] at h; simp at h
theorem sameTo_step {a b : List Str} {k : Nat} {x y : Str} (h0 : SameTo a b k) (ha : a[k]? = some x) (hb : b[k]? = some y) (h : (x == y) = true) : SameTo a b (k + 1) := fun j hj => by
  by_cases e : j = k
  · subst e; rw [ha, hb, beq_iff_eq.1 h]
  · exact h0 j (by omega)
theorem same_len {a b : List Str} (h : a.length ≠ b.length) : (a == b) = false := by
  rw [beq_eq_false_iff_ne]; intro e; exact h (by rw [e])
set_option maxHeartbeats 1000000 in
theorem Same_any (a b : List Str) (va vb : Value) (w : World) (ha : Sl w va (a.map strV)) (hb : Sl w vb (b.map strV)) :
    Calls Tryd.prog 24 #[va, vb] w (Ret (.bool (a == b)) w) := by
  by_cases hl : a.length = b.length
  rotate_left 1
  · obtain ⟨a1, c1, rfl⟩ := ha.form
    obtain ⟨a2, c2, rfl⟩ := hb.form
    rw [List.length_map, List.length_map]
    have H := Lib.hid (same_len hl)
    have t : ((a.length : Int) != (b.length : Int)) = true := by rw [bne_iff_ne]; omega
    clear ha hb hl
    go_enter Tryd.func24, Tryd.ntmps24
    go_wp2
    go_ret
    exact ⟨ret_bool H.out.symm, Below.refl _ _⟩
  obtain ⟨n, hn⟩ : ∃ n, a.length = n := ⟨_, rfl⟩
  have hn2 : b.length = n := by omega
  by_cases h0 : n = 0
  · have hea : a = [] := List.eq_nil_of_length_eq_zero (by omega)
    have heb : b = [] := List.eq_nil_of_length_eq_zero (by omega)
    obtain ⟨a1, c1, rfl⟩ := ha.form
    obtain ⟨a2, c2, rfl⟩ := hb.form
    clear ha hb
    subst hea heb
    clear hl hn hn2 h0
    go_enter Tryd.func24, Tryd.ntmps24
    go_wp2
    refine wp_loop_rounds 1 ?_; rw [rounds_succ]
    go_wp2
    go_ret
    exact ⟨ret_bool rfl, Below.refl _ _⟩
  rcases ha with ⟨h1, _⟩ | ⟨b1, o1, c1, rfl, hc1, hm1, g1⟩
  · exact absurd (by rw [← hn]; simpa using congrArg List.length h1) h0
  rcases hb with ⟨h1, _⟩ | ⟨b2, o2, c2, rfl, hc2, hm2, g2⟩
  · exact absurd (by rw [← hn2]; simpa using congrArg List.length h1) h0
  rw [List.length_map, hn] at hc1 ⊢
  rw [List.length_map, hn2] at hc2 ⊢
  unfold maxLen at hm1 hm2
  have G1 := Lib.hid g1; have G2 := Lib.hid g2; have HN := Lib.hid hn; have HN2 := Lib.hid hn2
  clear g1 g2 hn hn2 hl
  go_enter Tryd.func24, Tryd.ntmps24
  go_wp2
  go_loopw [5] (fun i wr => ∃ k : Nat, k ≤ n ∧ i = .int .i64 k ∧ SameTo a b k ∧ Ext w wr) (fun i _ => n - (intOf i).toNat)
  case atStart => exact ⟨0, Nat.zero_le _, rfl, fun j hj => by omega, Below.refl _ _⟩
  case round =>
    obtain ⟨k, hk, rfl, hsame, hE⟩ := hrel
    have HS := Lib.hid hsame; clear hsame
    by_cases hlt : k < n
    · obtain ⟨x, hx⟩ : ∃ x, a[k]? = some x := ⟨_, List.getElem?_eq_getElem (by rw [HN.out]; exact hlt)⟩
      obtain ⟨y, hy⟩ : ∃ y, b[k]? = some y := ⟨_, List.getElem?_eq_getElem (by rw [HN2.out]; exact hlt)⟩
      have e1 := (G1.out.ext hE).at hx
      have e2 := (G2.out.ext hE).at hy
      have HX := Lib.hid hx; have HY := Lib.hid hy; clear hx hy
      have p1 : (0 : Int) ≤ k := by omega
      have p2 : (k : Int) < n := by omega
      cases hxy : (x == y)
      all_goals
        have HXY := Lib.hid hxy
        have hne : (x != y) = !(x == y) := rfl
        rw [hxy] at hne
        go_wp2
        go_quiet (fail)
        go_wp2
      · go_ret
        exact ⟨ret_bool (sameTo_no HX.out HY.out HXY.out).symm, Below.drewN' hE _⟩
      · go_roundw
        case rel => exact ⟨k + 1, by omega, by go_num, sameTo_step HS.out HX.out HY.out HXY.out, Below.drewN' hE _⟩
        case measure => simp [intOf]; omega
    · have hks : k = n := by omega
      have hfin := sameTo_all HN.out HN2.out (by rw [← hks]; exact HS.out)
      have HF := Lib.hid hfin; clear hfin hks
      go_wp2
      go_ret
      exact ⟨ret_bool HF.out.symm, hE⟩
end Go.Proofs.YtjjkonaopmipoaaDoor
