/- Walks: the document's Fair (greatsealref33.Fair). -/
import Derived.Test.YtjjkonaopmipoaaDoorAuB
import Derived.Deep.RegionHeld3
namespace Go.Proofs.YtjjkonaopmipoaaDoor
open Go.RowKit Nam Aud

/-- Cell o of block b is v. -/
theorem ext_cell {w w' : World} {b o : Nat} {v : Value} (h : w.cell? ⟨b, o, none⟩ = some v) (hE : Ext w w') : w'.cell? ⟨b, o, none⟩ = some v := (hE.cell (p := ⟨b, o, none⟩) (cell_lt h)).trans h
/-- No event was seen by too many. -/
def calmB (l : List Ev) (need : Int) : Bool := l.all fun e => !(e.kind == 3 && decide (need ≤ e.m))
theorem fairB_eq (l : List Ev) (need t : Int) : fairB l need t = (calmB l need && decide ((diffB l 7 : Int) < t) && decide (diffB l 8 ≤ 1)) := rfl
theorem calmB_snoc {T l : List Ev} {e : Ev} (hT : T = l ++ [e]) (need : Int) : calmB T need = (calmB l need && !(e.kind == 3 && decide (need ≤ e.m))) := by rw [hT]; simp [calmB]
theorem calmB_hit {l : List Ev} {need : Int} {k : Nat} {e : Ev} (he : l[k]? = some e) (h1 : (e.kind == 3) = true) (h2 : decide (need ≤ e.m) = true) : calmB l need = false := by
  rw [Bool.eq_false_iff]; intro h
  have := List.all_eq_true.1 h e (List.mem_of_getElem? he)
  rw [h1, h2] at this; cases this
set_option maxRecDepth 100000 in
set_option maxHeartbeats 2000000 in
theorem rFair_any (l : List Ev) (cs : Array Value) (need t : Int) (a : Option Addr) (cap n : Nat) (w : World) (hn : l.length = n) (hnc : n ≤ cap) (hnm : cap ≤ maxLen) (hl : Evs w a l)
    (k6 : cs[6]? = some (.int .i64 need)) (k16 : cs[16]? = some (.int .i64 t)) (k42 : cs[42]? = some (.slice a n cap)) :
    Calls Tryd.prog 18 #[.agg cs] w (Ret (.bool (fairB l need t)) w) := by
  have HM := Lib.hid hnm
  unfold maxLen at hnm
  have HN := Lib.hid hn; have HL := Lib.hid hl; clear hn hl
  go_enter Tryd.func18, Tryd.ntmps18
  go_wp2_with fail
  obtain ⟨W0, hW0⟩ : ∃ W0, w.alloc (Obj.cells cs 62) = W0 := ⟨_, rfl⟩
  have c6 : W0.cell? ⟨w.heap.size, 6, none⟩ = some (.int .i64 need) := by rw [← hW0]; simpa [go_sem] using k6
  have c16 : W0.cell? ⟨w.heap.size, 16, none⟩ = some (.int .i64 t) := by rw [← hW0]; simpa [go_sem] using k16
  have c42 : W0.cell? ⟨w.heap.size, 42, none⟩ = some (.slice a n cap) := by rw [← hW0]; simpa [go_sem] using k42
  have hE0 : Ext w W0 := by rw [← hW0]; exact ext_alloc (Below.refl _ _) _
  rw [hW0]
  have K6 := Lib.hid k6; have K16 := Lib.hid k16; have K42 := Lib.hid k42
  have C6 := Lib.hid c6; have C16 := Lib.hid c16; have C42 := Lib.hid c42; have HE0 := Lib.hid hE0
  clear hW0 k6 k16 k42 c6 c16 c42 hE0
  go_loopw [8] (fun i wr => ∃ k : Nat, k ≤ n ∧ i = .int .i64 k ∧ calmB (l.take k) need = true ∧ Ext W0 wr) (fun i _ => n - (intOf i).toNat)
  case atStart => exact ⟨0, Nat.zero_le _, rfl, rfl, Below.refl _ _⟩
  case round =>
    obtain ⟨k, hk, rfl, hcm, hEr⟩ := hrel
    have HCM := Lib.hid hcm; clear hcm
    by_cases hlt : k < n
    · obtain ⟨e, he⟩ := get_some HN.out hlt
      obtain ⟨b, off, rfl, c0, c1, c2, c3, c4, c5⟩ := (HL.out.ext (ext_trans HE0.out hEr)) k e he
      have HS := Lib.hid (calmB_snoc (take_snoc he) need)
      have HH := Lib.hid (fun h1 h2 => calmB_hit (need := need) he h1 h2)
      have c6 := ext_cell C6.out hEr
      have hbl : w.heap.size < _ := cell_lt c6
      clear he
      cases h1 : (e.kind == 3)
      all_goals cases h2 : decide (need ≤ e.m)
      all_goals
        go_wp2_with fail
        first
        | (go_roundw
           case rel => exact ⟨k + 1, by omega, by go_num, by rw [HS.out, HCM.out, h1, h2]; rfl, ext_alloc hEr _⟩
           case measure => simp [intOf]; omega)
        | (go_ret
           exact ⟨ret_bool (by rw [fairB_eq, HH.out h1 h2]; rfl), ext_alloc (ext_trans HE0.out hEr) _⟩)
    · obtain rfl : k = n := by omega
      have hfull : l.take k = l := by rw [← HN.out, List.take_length]
      have hcm := HCM.out
      rw [hfull] at hcm
      have HF := Lib.hid (show fairB l need t = (decide ((diffB l 7 : Int) < t) && decide ((diffB l 8 : Int) ≤ 1)) by rw [fairB_eq, hcm, show decide (diffB l 8 ≤ 1) = decide ((diffB l 8 : Int) ≤ 1) from by congr 1; apply propext; omega]; rfl)
      clear hfull hcm
      have c6 := ext_cell C6.out hEr
      have c16 := ext_cell C16.out hEr
      have c42 := ext_cell C42.out hEr
      have HLR : Hid (Evs wr a l) := Lib.hid (HL.out.ext (ext_trans HE0.out hEr))
      have HER := Lib.hid (ext_trans HE0.out hEr); clear hEr
      have hr : ∀ kd w', Evs w' a l → Calls Tryd.prog 41 #[.slice a k cap, .int .i64 kd] w' (Ret (.int .i64 (diffB l kd)) w') := fun kd w' h => rDiff_any l kd a cap k w' HN.out hnc HM.out h
      have R := Lib.hid hr
      clear hr
      cases h7 : decide ((diffB l 7 : Int) < t)
      · go_wp2_with fail
        first | (go_region_with (go_at_call 41; refine (R.out _ _ (HLR.out.ext (by first | assumption | exact (Fr.drew (fun _ => False) _).ext (fun _ _ h => h)))).mono ?_; rintro e w3 ⟨rfl, h2⟩; have h3 := ext_trans (A := wr) ((Fr.drew (fun _ => False) _).ext (fun _ _ h => h)) h2; have q42 := ext_cell c42 h3; have q16 := ext_cell c16 h3)) | fail
        all_goals
          go_wp2_with fail
          go_ret
          exact ⟨ret_bool (by rw [HF.out, h7]; first | rfl | simp), ext_trans HER.out h3⟩
      · cases h8 : decide ((diffB l 8 : Int) ≤ 1)
        all_goals
          go_wp2_with fail
          first | (go_region_with (go_at_call 41; refine (R.out _ _ (HLR.out.ext (by first | assumption | exact (Fr.drew (fun _ => False) _).ext (fun _ _ h => h)))).mono ?_; rintro e w3 ⟨rfl, h2⟩; have h3 := ext_trans (A := wr) (by first | assumption | exact (Fr.drew (fun _ => False) _).ext (fun _ _ h => h)) h2; have q42 := ext_cell c42 h3; have q16 := ext_cell c16 h3)) | fail
          all_goals
            go_wp2_with fail
            go_ret
            exact ⟨ret_bool (by rw [HF.out, h7, h8]; first | rfl | simp), ext_trans HER.out (by assumption)⟩
end Go.Proofs.YtjjkonaopmipoaaDoor
