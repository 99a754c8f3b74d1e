/- Walks: names.below, Under, Match, Within. -/
import Derived.Test.YtjjkonaopmipoaaDoorNmD
namespace Go.Proofs.YtjjkonaopmipoaaDoor
open Go.RowKit Nam
attribute [local go_sem] Oper.semAt_some wide_fn wide_depth wide_some

theorem contains_step {l : List Str} {k : Nat} {x : Str} {o : ByteArray} (h : l[k]? = some x) (hx : (x == o.toList) = false) (hk : (l.take k).contains o.data.toList = false) : (l.take (k + 1)).contains o.data.toList = false := by
  obtain ⟨h1, h2⟩ := List.getElem?_eq_some_iff.1 h
  rw [Lib.toList_data] at hx
  rw [List.take_succ_eq_append_getElem h1, h2]
  have hx' : ¬ o.data.toList = x := by intro e; rw [e] at hx; simp at hx
  simp only [List.contains_eq_mem, decide_eq_false_iff_not] at hk ⊢
  simp [hk, hx']
theorem contains_hit {l : List Str} {k : Nat} {x : Str} {o : ByteArray} (h : l[k]? = some x) (hx : (x == o.toList) = true) : l.contains o.data.toList = true := by
  rw [Lib.toList_data, beq_iff_eq] at hx
  rw [List.contains_eq_mem, decide_eq_true_eq, ← hx]
  exact List.mem_of_getElem? h
set_option maxHeartbeats 1000000 in
theorem below_any (s o : ByteArray) (w : World) (hs : s.size ≤ 9223372036854775807) (hw : Env w) :
    Calls Tryd.prog 50 #[.string s, .string o] w (Ret (.bool (belowB s.data.toList o.data.toList)) w) := by
  refine (callsIn_wide (n := 0)).1 ?_
  refine callsIn_of_wp_marks Tryd.func50 rfl trivial ?_ rfl
  simp only [Tryd.ntmps50, List.size_toArray, List.length_cons, List.length_nil, Nat.reduceAdd, Nat.reduceSub, Array.replicate_succ, Array.replicate_zero, List.push_toArray, List.append_toArray, List.nil_append, List.cons_append]
  have HW := Lib.hid hw; clear hw
  gi_wp2_with (gi_at_call 61; refine (callsIn_wide.2 (above_any _ _)).mono ?_; rintro e w' ⟨rfl, rfl⟩)
  obtain ⟨W0, hW0⟩ : ∃ W0, (((w.alloc (Obj.cells #[Value.string o] 9)).alloc (Obj.cells #[Value.bool false] 4)).alloc (Obj.cells #[Value.string s] 9)) = W0 := ⟨_, rfl⟩
  have hB : Below w.heap.size w W0 := by rw [← hW0]; exact (((Below.refl _ _).alloc (Nat.le_refl _) _).alloc (by simp) _).alloc (by simp; omega) _
  have b0 : Boxed W0 w.heap.size 9 (.string o) := by rw [← hW0]; exact ((Boxed.new _ _ _).alloc _).alloc _
  have b1 : Boxed W0 (w.heap.size + 1) 4 (.bool false) := by rw [← hW0]; have := (Boxed.new (w.alloc (Obj.cells #[Value.string o] 9)) 4 (.bool false)).alloc (Obj.cells #[Value.string s] 9); rwa [World.size_alloc] at this
  have b2 : Boxed W0 (w.heap.size + 1 + 1) 9 (.string s) := by rw [← hW0]; have := Boxed.new ((w.alloc (Obj.cells #[Value.string o] 9)).alloc (Obj.cells #[Value.bool false] 4)) 9 (.string s); rwa [World.size_alloc, World.size_alloc] at this
  have hz : W0.heap.size = w.heap.size + 3 := by rw [← hW0]; simp
  have hg : 0 < w.heap.size := by obtain ⟨m, hm⟩ := HW.out; exact cell_lt hm
  rw [hW0]
  clear hW0
  have Hz := Lib.hid hz; clear hz
  have hz := Hz.out
  refine range_law rfl (enters_of Tryd.func71 (by kernel_rfl) rfl) (above_iter s (w.heap.size + 1 + 1) hs)
    (fun o1 o2 => ⟨(b2.alloc _).alloc _, (HW.out.ext hB).ext (((Below.refl _ _).alloc (Nat.le_refl _) _).alloc (by simp) _), by omega⟩) (fun b hb => by omega) (fun b hb => by omega) (fun x => rfl)
    (fun b => b = w.heap.size + 1) (fun b hb => by omega) (fun b hb => by omega)
    (fun k W => ((aboveL s.data.toList).take k).contains o.data.toList = false ∧ Boxed W w.heap.size 9 (.string o) ∧ Boxed W (w.heap.size + 1) 4 (.bool false) ∧ Below w.heap.size w W)
    (fun c k W => c = .ret ∧ (aboveL s.data.toList).contains o.data.toList = true ∧ Boxed W (w.heap.size + 1) 4 (.bool true) ∧ Below w.heap.size w W)
    ?stI ?stX ⟨rfl, b0, b1, hB⟩ ?round ?done ?stop
  case stI =>
    intro k A B ⟨h1, h2, h2', h3⟩ hf
    exact ⟨h1, hf.boxed h2 (by omega), hf.boxed h2' (by omega), h3.trans (hf.below h3.size (by omega))⟩
  case stX =>
    intro c k A B ⟨h0, h1, h2, h3⟩ hf
    exact ⟨h0, h1, hf.boxed h2 (by omega), h3.trans (hf.below h3.size (by omega))⟩
  case round =>
    rintro l k x W hx rfl hW ⟨hi1, hi2, hi2', hi3⟩
    have HX := Lib.hid hx; clear hx hz
    unfold encStr
    gi_wp2
    refine ⟨Fr.refl _ _, ⟨hi1, hi2, hi2', hi3⟩, ?_⟩
    rintro Wb ⟨j1, j2, j2', j3⟩ hf hzz
    have J1 := Lib.hid j1; clear j1
    have hc := j2.cell; have hfz := j2'.frozen; have hc' := j2'.cell
    have H2 := Lib.hid j2; have H2' := Lib.hid j2'; clear j2 j2' hi1 hi2 hi2' hi3 hf hzz hW
    gi_wp2
    · have ht : (x == o.toList) = true := by assumption
      have hst : Fr (fun b => b = w.heap.size + 1) Wb (Wb.setCell ⟨w.heap.size + 1, 0, none⟩ (.bool true)) := Fr.setCell _ _ _ rfl
      exact ⟨hst, rfl, contains_hit HX.out ht, H2'.out.set _, j3.trans (hst.below j3.size (by omega))⟩
    · have ht : (x == o.toList) = false := by assumption
      exact ⟨Fr.refl _ _, contains_step HX.out ht J1.out, H2.out, H2'.out, j3⟩
  case done =>
    intro W ⟨hi1, hi2, hi2', hi3⟩ hK
    have hr : belowB s.data.toList o.data.toList = false := by rw [List.take_length] at hi1; exact hi1
    have hc := hi2'.cell; have hfz := hi2'.frozen
    have HB := Lib.hid hi2'; have HR := Lib.hid hr; have HK := Lib.hid hK
    clear hi1 hi2 hi2' hr hK hz b0 b1 b2 hB
    gi_wp2
    have hk2 : (W.setCell ⟨w.heap.size + 1, 0, none⟩ (.bool false)).heap[W0.heap.size]? = some (.deferred (some [])) := (Below.heap_setCell _ _ _ _ (by have := Hz.out; simp; omega)).trans HK.out
    have hq := boxed_putObj (HB.out.set (.bool false)) (D := W0.heap.size) (by have := Hz.out; omega) (.deferred none)
    have hqc := hq.cell
    refine leave_mark hk2 (v := .bool false) (by simp [results, Tryd.results50, go_sem, hqc]) ⟨by rw [HR.out], ?_⟩
    exact below_putObj (hi3.setCell (p := ⟨w.heap.size + 1, 0, none⟩) (by simp) _) (by have := Hz.out; omega) (by have := hi3.size; simp [World.setCell]; omega) _
  case stop =>
    rintro c k W hk ⟨rfl, hi1, hi2, hi3⟩ hK
    have hr : belowB s.data.toList o.data.toList = true := hi1
    have hq := boxed_putObj hi2 (D := W0.heap.size) (by have := Hz.out; omega) (.deferred none)
    have hqc := hq.cell
    have HR := Lib.hid hr; have HK := Lib.hid hK; have HQ := Lib.hid hqc
    clear hi1 hi2 hr hK hz b0 b1 b2 hB hqc
    gi_wp2
    have hqc := HQ.out
    refine leave_mark HK.out (v := .bool true) (by simp [results, Tryd.results50, go_sem, hqc]) ⟨by rw [HR.out], ?_⟩
    exact below_putObj hi3 (by have := Hz.out; omega) (by have := hi3.size; omega) _
theorem under_eq (s o : ByteArray) : underB s.data.toList o.data.toList = (isB s.data.toList && (o.toList.isEmpty || s.toList == o.toList || belowB s.data.toList o.data.toList)) := by
  rw [Lib.toList_data, Lib.toList_data]; rfl
set_option maxHeartbeats 400000 in
theorem Under_any (s o : ByteArray) (w : World) (hs : s.size ≤ 9223372036854775807) (hw : Env w) :
    Calls Tryd.prog 30 #[.string s, .string o] w (Ret (.bool (underB s.data.toList o.data.toList)) w) := by
  have HU := Lib.hid (under_eq s o); have HW := Lib.hid hw; clear hw
  go_enter Tryd.func30, Tryd.ntmps30
  go_wp2_with (first | (go_at_call 43; refine (is_any s _ hs).mono ?_; rintro e w' ⟨rfl, hE⟩) | (go_at_call 50; refine (below_any s o _ hs (HW.out.ext hE)).mono ?_; rintro e w2 ⟨rfl, hE2⟩))
  · go_ret
    exact ⟨ret_bool (by rw [HU.out]; simp [*]), hE⟩
  · go_ret
    exact ⟨ret_bool (by rw [HU.out]; simp [*]), hE⟩
  · go_ret
    exact ⟨ret_bool (by rw [HU.out]; simp [*]), ext_trans hE hE2⟩
  · go_ret
    exact ⟨ret_bool (by rw [HU.out]; simp [*]), hE⟩
set_option maxHeartbeats 400000 in
theorem Match_any (p s : ByteArray) (w : World) (hp : p.size ≤ 9223372036854775807) (hs : s.size ≤ 9223372036854775807) (hw : Env w) :
    Calls Tryd.prog 32 #[.string p, .string s] w (Ret (.bool (matchB p.data.toList s.data.toList)) w) := by
  have HW := Lib.hid hw; clear hw
  go_enter Tryd.func32, Tryd.ntmps32
  go_wp2_with (first | (go_at_call 43; refine (is_any s _ hs).mono ?_; rintro e w2 ⟨rfl, hE2⟩) | (go_at_call 45; refine (pattern_any p _ hp).mono ?_; rintro e w1 ⟨rfl, hE⟩) | (go_at_call 50; refine (below_any s _ _ hs ((HW.out.ext hE).ext hE2)).mono ?_; rintro e w3 ⟨rfl, hE3⟩))
  · go_ret
    exact ⟨ret_bool (by simp [matchB, *]), ext_trans hE hE2⟩
  · go_ret
    exact ⟨ret_bool (by simp [matchB, *]), ext_trans (ext_trans hE hE2) hE3⟩
  · go_ret
    exact ⟨ret_bool (by rw [Lib.toList_data]; simp [matchB, *]), ext_trans hE hE2⟩
  · go_ret
    exact ⟨ret_bool (by simp [matchB, *]), hE⟩
theorem pattern_size {p : ByteArray} (hp : p.size ≤ 9223372036854775807) : (⟨(pattern p.data.toList).1.toArray⟩ : ByteArray).size ≤ 9223372036854775807 := by
  rw [size_bs]; rw [Lib.size_eq] at hp
  unfold pattern
  split
  · exact hp
  · split
    · show (p.data.toList.drop 2).length ≤ _
      rw [List.length_drop]; omega
    · exact hp
set_option maxHeartbeats 400000 in
theorem Within_any (p q : ByteArray) (w : World) (hp : p.size ≤ 9223372036854775807) (hq : q.size ≤ 9223372036854775807) (hw : Env w) :
    Calls Tryd.prog 34 #[.string p, .string q] w (Ret (.bool (withinB p.data.toList q.data.toList)) w) := by
  have HW := Lib.hid hw; clear hw
  have tok : True := trivial
  go_enter Tryd.func34, Tryd.ntmps34
  go_wp2_with fail
  refine (pattern_any p _ hp).mono ?_; rintro e w1 ⟨rfl, hE1⟩
  go_wp2_with fail
  refine (pattern_any q _ hq).mono ?_; rintro e w2 ⟨rfl, hE2⟩
  go_wp2_with (first | (go_at_call 32; refine (Match_any q _ _ hq (pattern_size hp) ((HW.out.ext hE1).ext hE2)).mono ?_; rintro e w3 ⟨rfl, hE3⟩) | (go_at_call 30; refine (Under_any _ _ _ (pattern_size hp) ((HW.out.ext hE1).ext hE2)).mono ?_; rintro e w3 ⟨rfl, hE3⟩))
  · go_ret
    exact ⟨ret_bool (by simp [withinB, *]), ext_trans hE1 hE2⟩
  · go_ret
    exact ⟨ret_bool (by simp_all [withinB]), ext_trans (ext_trans hE1 hE2) hE3⟩
  · go_ret
    exact ⟨ret_bool (by simp_all [withinB]), ext_trans (ext_trans hE1 hE2) hE3⟩
  · go_ret
    exact ⟨ret_bool (by simp_all [withinB]), ext_trans hE1 hE2⟩
  · go_ret
    exact ⟨ret_bool (by simp [withinB, *]), ext_trans hE1 hE2⟩
/-- Cell i of block b is v. -/
def CellIs (w : World) (b i : Nat) (v : Value) : Prop := w.cell? ⟨b, i, none⟩ = some v
theorem CellIs.ext {w w' : World} {b i : Nat} {v : Value} (h : CellIs w b i v) (hE : Ext w w') : CellIs w' b i v := (hE.cell (p := ⟨b, i, none⟩) (cell_lt h)).trans h
def pairIs (w : World) (b : Nat) (p q : ByteArray) : Prop := CellIs w b 0 (.string p) ∧ CellIs w b 1 (.string q)
set_option maxHeartbeats 400000 in
theorem Meets1_any (p q : ByteArray) (b : Nat) (w : World) (hp : p.size ≤ 9223372036854775807) (hq : q.size ≤ 9223372036854775807) (hw : Env w) (hb : pairIs w b p q) :
    Calls Tryd.prog 52 #[.slice (some ⟨b, 0, none⟩) 2 2] w (Ret (.bool (withinB p.data.toList q.data.toList)) w) := by
  have HW := Lib.hid hw; clear hw
  obtain ⟨c0, c1⟩ := hb
  unfold CellIs at c0 c1
  go_enter Tryd.func52, Tryd.ntmps52
  go_wp2
  go_region_with (go_at_call 34; refine (Within_any p q _ hp hq (HW.out.ext (Fr.drew (fun _ => False) _ |>.ext (by simp)))).mono ?_; rintro e w3 ⟨rfl, hE3⟩)
  all_goals
    go_wp2
    go_ret
    exact ⟨rfl, hE3.mono (Nat.le_refl _) |> fun h => (Fr.drew (fun _ => False) w).ext (by simp) |>.trans h⟩
end Go.Proofs.YtjjkonaopmipoaaDoor
