/- The law AuditOwns: its walk, given that Few tells something. -/
import Derived.Test.YtjjkonaopmipoaaDoorAuH
import Derived.Test.YtjjkonaopmipoaaDoorAuG
import Derived.Deep.RegionHeld3
import Derived.Deep.MidRow
namespace Go.Proofs.YtjjkonaopmipoaaDoor
open Go.RowKit Nam Aud

/-- The cells of a block. -/
def rowOf (w : World) (b : Nat) : Array Value := match w.heap[b]? with
  | some (.cells cs _ _) => cs
  | _ => #[]
/-- Does a world's row lie there? -/
def rowThere (w : World) (b : Nat) : Bool := match w.heap[b]? with
  | some (.cells cs _ _) => cs.size == 43
  | _ => false
def thereAt (w : World) : Value → Bool
  | .pointer (some ⟨b, 0, none⟩) => rowThere w b
  | _ => false
def rowAt (w : World) : Value → Array Value
  | .pointer (some ⟨b, 0, none⟩) => rowOf w b
  | _ => #[]
theorem thereAt_ptr (w : World) (b : Nat) : thereAt w (.pointer (some ⟨b, 0, none⟩)) = rowThere w b := rfl
theorem rowAt_ptr (w : World) (b : Nat) : rowAt w (.pointer (some ⟨b, 0, none⟩)) = rowOf w b := rfl
theorem ld_world (w' : World) (v : Value) (h : thereAt w' v = true) : (Instr.loadAt 62 v).run Tryd.prog w' = .ok (.agg (rowAt w' v)) w' := by
  unfold thereAt at h
  split at h
  · rename_i b
    rw [rowAt_ptr]
    unfold rowThere at h
    cases hb : w'.heap[b]? with
    | none => rw [hb] at h; cases h
    | some o =>
      rw [hb] at h
      cases o with
      | cells cs t fr =>
        have hsz : cs.size = 43 := by simpa using h
        have hr : rowOf w' b = cs := by unfold rowOf; rw [hb]
        rw [hr]
        simp only [Instr.loadAt, Instr.sureAddr, Sem.run_bind, Sem.run_pure, Result.andThen]
        exact run_loadVar_row w' b t 62 cs fr _ hb Tryd.underlying62 rfl (by rw [hsz]; kernel_rfl)
      | _ => cases h
  · cases h
/-- The load of a world's row, kept shut. -/
def ldW (v : Value) : Sem Value := Instr.loadAt 62 v
theorem ldW_eq (v : Value) : Instr.loadAt 62 v = ldW v := rfl
theorem run_ldW (w' : World) (v : Value) (h : thereAt w' v = true) : (ldW v).run Tryd.prog w' = .ok (.agg (rowAt w' v)) w' := ld_world w' v h
attribute [local go_sem ↓] ldW_eq
attribute [local go_sem] thereAt_ptr rowAt_ptr run_ldW
set_option maxRecDepth 100000 in
set_option maxHeartbeats 4000000 in
theorem AuditOwns_of (l : List Ev) (cs : Array Value) (need t : Int) (a : Option Addr) (cap n : Nat) (s : ByteArray) (now : Int) (w : World) (hw : Env w) (hs : s.size ≤ 9223372036854775807) (hsz : cs.size = 43)
    (hn : l.length = n) (hnc : n ≤ cap) (hnm : cap ≤ maxLen) (hl : Evs w a l) (hwf : ∀ e ∈ l, (Lit.int .i64 e.n).wf = true)
    (k6 : cs[6]? = some (.int .i64 need)) (k16 : cs[16]? = some (.int .i64 t)) (k42 : cs[42]? = some (.slice a n cap))
    (hfew : ∀ w', Ext w w' → Calls Tryd.prog 14 #[.agg cs] w' (RetB w')) :
    Calls Tryd.prog 3 #[.agg cs, .string s, .int .i64 now] w (Ret (.bool true) w) := by
  have HW := Lib.hid hw; have HL := Lib.hid hl; have HN := Lib.hid hn; have HFEW := Lib.hid hfew; have HWF := Lib.hid hwf; have HM := Lib.hid hnm; have HNC := Lib.hid hnc
  have K6 := Lib.hid k6; have K16 := Lib.hid k16; have K42 := Lib.hid k42; have HSZ := Lib.hid hsz
  clear hw hl hn hfew hwf hnm hnc k6 k16 k42 hsz
  go_enter Tryd.func3, Tryd.ntmps3
  go_wp2_with fail
  obtain ⟨W0, hW0⟩ : ∃ W0, w.alloc (Obj.cells cs 62) = W0 := ⟨_, rfl⟩
  have hE0 : Ext w W0 := by rw [← hW0]; exact ext_alloc (Below.refl _ _) _
  have hb : W0.heap[w.heap.size]? = some (.cells cs 62 (0, 0)) := by rw [← hW0]; exact World.alloc_heap_new w _
  rw [hW0]
  have HE0 := Lib.hid hE0; have HB := Lib.hid hb
  clear hW0 hE0 hb
  refine (live33_any _ (HW.out.ext HE0.out)).mono ?_; rintro e W1 ⟨rfl, hE1⟩
  have hb1 : W1.heap[w.heap.size]? = some (.cells cs 62 (0, 0)) := (hE1.block _ (Array.getElem?_eq_some_iff.1 HB.out).1).trans HB.out
  have HB1 := Lib.hid hb1; have HE1 := Lib.hid (ext_trans HE0.out hE1)
  clear hb1 hE1
  have hsi : (Tryd.prog.info? 62).map (·.size) = some cs.size := by rw [HSZ.out]; kernel_rfl
  have HSI := Lib.hid hsi; clear hsi
  go_wp2_with (refine wpList_load_row rfl 62 _ rfl w.heap.size rfl 62 cs (0, 0) _ HB1.out Tryd.underlying62 rfl HSI.out ?_)
  refine (HFEW.out _ HE1.out).mono ?_; rintro e W2 ⟨bf, rfl, hE2⟩
  have hb2 : W2.heap[w.heap.size]? = some (.cells cs 62 (0, 0)) := (hE2.block _ (Array.getElem?_eq_some_iff.1 HB1.out).1).trans HB1.out
  have hE2 := ext_trans HE1.out hE2
  cases bf
  · go_wp2_with fail
    go_ret
    exact ⟨rfl, hE2⟩
  cases h5 : decide ((500 : Int) < s.size)
  rotate_left 1
  · go_wp2_with fail
    go_ret
    exact ⟨rfl, hE2⟩
  obtain ⟨O, hO⟩ : ∃ O, ownerB l s.data.toList now = O := ⟨_, rfl⟩
  obtain ⟨F, hF⟩ : ∃ F, fairB l need t = F := ⟨_, rfl⟩
  have hevs : ∀ w', Ext W2 w' → Evs w' a l := fun w' h => HL.out.ext (ext_trans hE2 h)
  have RA : ∀ w', Ext W2 w' → Calls Tryd.prog 15 #[.slice a n cap, .string s, .int .i64 now] w' (Ret (.string O) w') := fun w' h => by
    rw [← hO]; exact aOwner_any l s now a cap n w' HN.out (Nat.le_trans HNC.out HM.out) (hevs w' h) hs (HW.out.ext (ext_trans hE2 h))
  have RB : ∀ w', Ext W2 w' → Calls Tryd.prog 16 #[.slice a n cap, .string s, .int .i64 now] w' (Ret (.string O) w') := fun w' h => by
    rw [← hO]; exact rOwner_any l s now a cap n w' HN.out (Nat.le_trans HNC.out HM.out) (hevs w' h) hs
  have RC : ∀ w', Ext W2 w' → Calls Tryd.prog 17 #[.agg cs] w' (Ret (.bool F) w') := fun w' h => by
    rw [← hF]; exact aFair_any l cs need t a cap n w' HN.out (Nat.le_trans HNC.out HM.out) (hevs w' h) HWF.out K6.out K16.out K42.out
  have RD : ∀ w', Ext W2 w' → Calls Tryd.prog 18 #[.agg cs] w' (Ret (.bool F) w') := fun w' h => by
    rw [← hF]; exact rFair_any l cs need t a cap n w' HN.out HNC.out HM.out (hevs w' h) K6.out K16.out K42.out
  have hc2 : W2.cell? ⟨w.heap.size, 42, none⟩ = some (.slice a n cap) := by simp only [World.cell?, hb2]; simpa using K42.out
  have HRA := Lib.hid RA; have HRB := Lib.hid RB; have HRC := Lib.hid RC; have HRD := Lib.hid RD; have HE2 := Lib.hid hE2; have HB2 := Lib.hid hb2
  have hblk : ∀ w', Ext W2 w' → rowOf w' w.heap.size = cs ∧ rowThere w' w.heap.size = true := fun w' h => by
    have hq := (h.block _ (Array.getElem?_eq_some_iff.1 hb2).1).trans hb2
    exact ⟨by unfold rowOf; rw [hq], by unfold rowThere; rw [hq]; simp [HSZ.out]⟩
  have HBLK := Lib.hid hblk
  obtain ⟨qr0, qt0⟩ := hblk _ (Below.refl _ _)
  have hdr : Ext W2 W2.drew := (Fr.drew (fun _ => False) _).ext (fun _ _ h => h)
  clear RA RB RC RD hO hF hevs hE2 hblk hb2
  go_wp2_with fail
  first
  | (go_region_with (first
          | (go_at_call 15; refine (HRA.out _ (by assumption)).mono ?_; rintro e w3 ⟨rfl, h2⟩; have h3 := ext_trans (A := W2) (by assumption) h2; have q42 := ext_cell hc2 h3; obtain ⟨qr, qt⟩ := HBLK.out _ h3; clear h2)
          | (go_at_call 16; refine (HRB.out _ (by assumption)).mono ?_; rintro e w3 ⟨rfl, h2⟩; have h3 := ext_trans (A := W2) (by assumption) h2; have q42 := ext_cell hc2 h3; obtain ⟨qr, qt⟩ := HBLK.out _ h3; clear h2)
          | (go_at_call 17; refine (HRC.out _ (by assumption)).mono ?_; rintro e w3 ⟨rfl, h2⟩; have h3 := ext_trans (A := W2) (by assumption) h2; have q42 := ext_cell hc2 h3; obtain ⟨qr, qt⟩ := HBLK.out _ h3; clear h2)
          | (go_at_call 18; refine (HRD.out _ (by assumption)).mono ?_; rintro e w3 ⟨rfl, h2⟩; have h3 := ext_trans (A := W2) (by assumption) h2; have q42 := ext_cell hc2 h3; obtain ⟨qr, qt⟩ := HBLK.out _ h3; clear h2)))
  | fail
  all_goals
    go_wp2_with fail
    go_ret
    exact ⟨rfl, ext_trans HE2.out (by assumption)⟩
end Go.Proofs.YtjjkonaopmipoaaDoor
