/- Walks: the document's different and Fair (greatsealref33). -/
import Derived.Test.YtjjkonaopmipoaaDoorAuA
namespace Go.Proofs.YtjjkonaopmipoaaDoor
open Go.RowKit Nam Aud

theorem seenB_snoc (l : List Ev) (x : Ev) (kind n : Int) : seenB (l ++ [x]) kind n = (seenB l kind n || (x.kind == kind && x.n == n)) := by
  unfold seenB; simp
/-- Is it, so far, the first one of its number? -/
def firstB (l : List Ev) (kind : Int) (e : Ev) : Bool := e.kind == kind && !seenB l kind e.n
theorem firstB_nil (kind : Int) (e : Ev) : firstB [] kind e = (e.kind == kind) := by simp [firstB, seenB]
theorem firstB_snoc {T l : List Ev} {x : Ev} (hT : T = l ++ [x]) (kind : Int) (e : Ev) : firstB T kind e = (firstB l kind e && !(x.kind == kind && x.n == e.n)) := by
  rw [hT]; unfold firstB; rw [seenB_snoc]; cases e.kind == kind <;> cases seenB l kind e.n <;> simp
theorem diffB_next {T l : List Ev} {e : Ev} (hT : T = l ++ [e]) (kind : Int) : diffB T kind = diffB l kind + (if firstB l kind e then 1 else 0) := by
  rw [hT, diffB_snoc]; rfl
set_option maxRecDepth 100000 in
set_option maxHeartbeats 2000000 in
theorem rDiff_any (l : List Ev) (kind : Int) (a : Option Addr) (cap n : Nat) (w : World) (hn : l.length = n) (hnc : n ≤ cap) (hnm : cap ≤ maxLen) (hl : Evs w a l) :
    Calls Tryd.prog 41 #[.slice a n cap, .int .i64 kind] w (Ret (.int .i64 (diffB l kind)) w) := by
  unfold maxLen at hnm
  have HN := Lib.hid hn; have HL := Lib.hid hl; clear hn hl
  go_enter Tryd.func41, Tryd.ntmps41
  go_wp2_with fail
  go_loopw [5, 6, 8, 13] (fun d _ _ i wr => ∃ k : Nat, k ≤ n ∧ i = .int .i64 k ∧ d = .int .i64 (diffB (l.take k) kind) ∧ Ext w wr) (fun _ _ _ i _ => n - (intOf i).toNat)
  case atStart => exact ⟨0, Nat.zero_le _, rfl, rfl, Below.refl _ _⟩
  case round =>
    obtain ⟨k, hk, rfl, rfl, hEr⟩ := hrel
    by_cases hlt : k < n
    · obtain ⟨e, he⟩ := get_some HN.out hlt
      have HLL : Hid (Evs wr a l) := Lib.hid (HL.out.ext hEr)
      obtain ⟨b, off, hab, c0, c1, c2, c3, c4, c5⟩ := HLL.out k e he
      subst hab
      have HT := Lib.hid (take_snoc he)
      have hdl : diffB (l.take k) kind ≤ k := Nat.le_trans (diffB_le _ _) (by simp; omega)
      clear he
      have HEr := Lib.hid hEr; clear hEr
      have HD := Lib.hid (diffB_next HT.out kind)
      have H0 : Hid (firstB (l.take 0) kind e = (e.kind == kind)) := Lib.hid (by rw [List.take_zero, firstB_nil])
      have HA : Hid (Evs (wr.alloc (.cells #[.int .i64 e.kind, .int .i64 e.at_, .string e.who, .string e.name, .int .i64 e.n, .int .i64 e.m] 100)) (some ⟨b, off, none⟩) l) := Lib.hid (HLL.out.ext (ext_alloc (Below.refl _ _) _))
      cases hf0 : (e.kind == kind)
      all_goals
        obtain ⟨wo, rfl⟩ : ∃ wo : World, wo = wr := ⟨_, rfl⟩
        go_wp2_with fail
        go_loopw [8, 26] (fun f i wi => ∃ j : Nat, j ≤ k ∧ i = .int .i64 j ∧ f = .bool (firstB (l.take j) kind e) ∧ Ext wo wi ∧ wi.cell? ⟨wo.heap.size, 4, none⟩ = some (.int .i64 e.n)) (fun _ i _ => k - (intOf i).toNat)
        case atStart => exact ⟨0, Nat.zero_le _, rfl, by rw [H0.out, hf0], ext_alloc (Below.refl _ _) _, by simp [go_sem]⟩
        case round =>
          obtain ⟨j, hj, rfl, rfl, hEi, hen⟩ := hrel
          by_cases hlj : j < k
          · obtain ⟨x, hx⟩ := get_some HN.out (show j < n by omega)
            obtain ⟨b', off', hab, d0, d1, d2, d3, d4, d5⟩ := (HLL.out.ext hEi) j x hx
            cases hab
            have hbl : wo.heap.size < _ := cell_lt hen
            have HTJ := Lib.hid (take_snoc hx)
            have HS := Lib.hid (firstB_snoc HTJ.out kind e)
            clear hx
            cases hfj : firstB (l.take j) kind e
            all_goals cases hk1 : (x.kind == kind)
            all_goals cases hk2 : (x.n == e.n)
            all_goals
              go_wp2_with fail
              go_roundw
              case rel => exact ⟨j + 1, by omega, by go_num, by rw [HS.out, hfj, hk1, hk2]; rfl, ext_alloc hEi _, by rw [(Below.alloc (Below.refl _ _) (Nat.le_refl _) _ : Ext _ _).cell (cell_lt hen)]; exact hen⟩
              case measure => simp [intOf]; omega
          · obtain rfl : j = k := by omega
            cases hfj : firstB (l.take j) kind e
            all_goals
              go_wp2_with fail
              go_roundw
              case rel => exact ⟨j + 1, by omega, by go_num, by rw [HD.out, hfj]; first | rfl | simp, ext_trans HEr.out hEi⟩
              case measure => simp [intOf]; omega
    · obtain rfl : k = n := by omega
      have hfull : l.take k = l := by rw [← HN.out, List.take_length]
      have HF := Lib.hid hfull; clear hfull
      go_wp2_with fail
      go_ret
      exact ⟨ret_int (by rw [HF.out]), hEr⟩
end Go.Proofs.YtjjkonaopmipoaaDoor
