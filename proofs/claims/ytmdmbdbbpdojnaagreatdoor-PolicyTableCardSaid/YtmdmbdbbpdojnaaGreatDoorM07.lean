/- Walks: names.above, below, Under, Match, Within. Walks: names.below, Under, Match, Within. Walks: names.Meets (over slices.ContainsFunc), names.Labels. Walks: the document's functions on names, the outer ones; names.Labels. -/
import Derived.Test.YtmdmbdbbpdojnaaGreatDoorM06
namespace Go.Proofs.YtmdmbdbbpdojnaaGreatDoor
open Go.RowKit Nam
attribute [local go_sem] Oper.semAt_some wide_fn wide_depth wide_some

set_option maxHeartbeats 400000 in
theorem above_any (s : ByteArray) (w : World) :
    Calls Tryz.prog 100 #[.string s] w fun e w' =>
      e = .returned (.func (.func 127) #[] #[.pointer (some ⟨w.heap.size, 0, none⟩)]) ∧ w' = w.alloc (.cells #[.string s] 9) := by
  go_enter Tryz.func100, Tryz.ntmps100
  go_wp2
  go_ret
  exact ⟨rfl, rfl⟩
/-- What is above behind k steps. -/
def upN : Nat → Str → Str
  | 0, l => l
  | k + 1, l => up (upN k l)
def aboveL (l : Str) : List Str := above (l.length + 1) l
theorem aboveL_drop (k : Nat) (l : Str) (r : Str) (h : (aboveL l).drop k = aboveL r) (hu : up r ≠ []) : (aboveL l)[k]? = some (up r) ∧ (aboveL l).drop (k + 1) = aboveL (up r) := by
  have he : aboveL r = up r :: aboveL (up r) := above_step r hu
  rw [he] at h
  have h1 : (aboveL l)[k]? = some (up r) := by
    have := congrArg (fun l => l[0]?) h
    simpa using this
  refine ⟨h1, ?_⟩
  rw [← List.drop_drop, h]; rfl
theorem aboveL_end (k : Nat) (l : Str) (r : Str) (h : (aboveL l).drop k = aboveL r) (hk : k ≤ (aboveL l).length) (hu : up r = []) : k = (aboveL l).length := by
  have he : aboveL r = [] := above_end r hu
  rw [he] at h
  have := congrArg List.length h
  simp at this; omega
theorem up_size (r : ByteArray) (n : Nat) (h : r.size ≤ n) : (⟨(up r.data.toList).toArray⟩ : ByteArray).size ≤ n := by
  rw [size_bs]; rw [Lib.size_eq] at h
  by_cases hu : up r.data.toList = []
  · rw [hu]; simp
  · have := up_lt _ hu; omega
theorem env_fr {S : Nat → Prop} {w w' : World} (h : Env w) (hf : Fr S w w') (hs : ¬ S 0) : Env w' := by
  obtain ⟨m, hm⟩ := h
  exact ⟨m, (hf.cell (cell_lt hm) hs).trans hm⟩
set_option maxHeartbeats 1000000 in
theorem above_iter (s : ByteArray) (b : Nat) (hs : s.size ≤ 9223372036854775807) :
    Iter Tryz.prog 127 #[.pointer (some ⟨b, 0, none⟩)] encStr (aboveL s.data.toList)
      (fun W => Boxed W b 9 (.string s) ∧ Env W ∧ 0 < b)
      (fun k => k = b) (fun k => k = b ∨ k = 0) := by
  intro l J Jx W hOk hJ hJx hY h0
  refine callsIn_of_wp Tryz.func127 rfl trivial ?_ rfl
  simp only [Tryz.ntmps127, List.size_toArray, List.length_cons, List.length_nil, Nat.reduceAdd, Nat.reduceSub, Array.replicate_succ, Array.replicate_zero, List.push_toArray, List.append_toArray, List.nil_append, List.cons_append]
  obtain ⟨hb0, hen, hgb⟩ := hOk
  have c0 := hb0.cell
  have B0 := Lib.hid hb0; have EN := Lib.hid hen
  have HJ := Lib.hid hJ; have HJx := Lib.hid hJx; have HY := Lib.hid hY; have H0 := Lib.hid h0
  clear hJ hJx hY h0 hb0 hen
  gi_wp2_with (gi_at_call 73; refine (callsIn_wide.2 (Up_any s _ hs EN.out)).mono ?_; rintro e W2 ⟨rfl, hE⟩; have q := ext_boxed hE B0.out; have hc := q.cell; have hf := q.frozen; have Q := Lib.hid q; clear q)
  gi_loopw [5] (fun i wr => ∃ (k : Nat) (r q : ByteArray), r.size ≤ s.size ∧ k ≤ (aboveL s.data.toList).length ∧ (aboveL s.data.toList).drop k = aboveL r.data.toList ∧ q = ⟨(up r.data.toList).toArray⟩ ∧ Boxed wr b 9 (.string q) ∧ Env wr ∧ J k wr) (fun _ wr => strLen wr b)
  case atStart =>
    have hF : Fr (fun k => k = b) W (W2.setCell ⟨b, 0, none⟩ (.string ⟨(up s.data.toList).toArray⟩)) := (Fr.of_ext hE).trans (Fr.setCell W2 ⟨b, 0, none⟩ _ rfl)
    exact ⟨0, s, _, Nat.le_refl _, Nat.zero_le _, rfl, rfl, Q.out.set _, env_fr EN.out hF (by omega), HJ.out _ _ _ H0.out hF⟩
  case round =>
    obtain ⟨k, r, q, hr, hk, hdrop, hq, g0, hen, hj⟩ := hrel
    have hqs : q.size ≤ 9223372036854775807 := by rw [hq]; exact Nat.le_trans (up_size r s.size hr) hs
    have hqd : q.data.toList = up r.data.toList := by rw [hq]
    have hqe := isEmpty_of (s := q)
    have d0 := g0.cell
    have G0 := Lib.hid g0; have HEN := Lib.hid hen; have Hj := Lib.hid hj; have HD := Lib.hid hdrop; have HQ := Lib.hid hq; have HQD := Lib.hid hqd
    clear g0 hen hj hdrop hq hqd c0 hc hf hE
    by_cases hu : q.size = 0
    · have e0 : q.toList.isEmpty = true := by rw [hqe]; simp [hu]
      have hend : k = (aboveL s.data.toList).length := aboveL_end _ _ _ HD.out hk (by rw [← HQD.out]; have := Lib.size_eq q; rw [hu] at this; exact List.eq_nil_of_length_eq_zero this.symm)
      have HE := Lib.hid hend; clear hqe hu hend
      gi_wp2
      go_end0
      exact ⟨⟨_, rfl⟩, .inl (by rw [← HE.out]; exact Hj.out)⟩
    · have e0 : q.toList.isEmpty = false := by rw [hqe]; simp [hu]
      have hne : up r.data.toList ≠ [] := by rw [← HQD.out]; intro h; exact hu (by rw [Lib.size_eq, h]; rfl)
      obtain ⟨hx, hd⟩ := aboveL_drop _ _ _ HD.out hne
      have hlt := (List.getElem?_eq_some_iff.1 hx).1
      have hlq : r.size ≤ s.size ∧ q.size < r.size := ⟨hr, by rw [Lib.size_eq, Lib.size_eq, HQD.out]; exact up_lt _ hne⟩
      obtain ⟨fn, tmps, assign, body, hy, hR⟩ := HY.out k _ wr hx Hj.out
      have HR := Lib.hid hR; have HX := Lib.hid hd; clear hR hx hd hqe hne
      unfold encStr at hy; rw [← HQ.out] at hy
      gi_wp2
      refine HR.out.mono ?_
      rintro e W' (⟨rfl, hJ', hkeep⟩ | ⟨rfl, hJx'⟩)
      · have g0 := hkeep.boxed G0.out (by simp)
        have hen' : Env W' := by obtain ⟨m, hm⟩ := HEN.out; exact ⟨m, (hkeep.cell (cell_lt hm) (by simp)).trans hm⟩
        have c0 := g0.cell
        have K0 := Lib.hid g0; have KE := Lib.hid hen'; have KJ := Lib.hid hJ'; clear g0 hen' hJ' hkeep
        gi_wp2_with (gi_at_call 73; refine (callsIn_wide.2 (Up_any q _ hqs KE.out)).mono ?_; rintro e W3 ⟨rfl, hE⟩; have q1 := ext_boxed hE K0.out; have hc := q1.cell; have hf := q1.frozen; have Q1 := Lib.hid q1; clear q1)
        go_roundw
        case rel =>
          have hF : Fr (fun k => k = b) W' (W3.setCell ⟨b, 0, none⟩ (.string ⟨(up q.data.toList).toArray⟩)) := (Fr.of_ext hE).trans (Fr.setCell W3 ⟨b, 0, none⟩ _ rfl)
          exact ⟨k + 1, q, _, by omega, by omega, by rw [HQD.out]; exact HX.out, rfl, Q1.out.set _, env_fr KE.out hF (by omega), HJ.out _ _ _ KJ.out hF⟩
        case measure =>
          rw [strLen_boxed (Q1.out.set _), strLen_boxed G0.out, size_bs]
          by_cases hu2 : up q.data.toList = []
          · rw [hu2]; simp; omega
          · have := up_lt _ hu2; rw [← Lib.size_eq] at this; exact this
      · gi_wp2
        go_end0
        exact ⟨⟨_, rfl⟩, .inr ⟨k + 1, by omega, hJx'⟩⟩
end Go.Proofs.YtmdmbdbbpdojnaaGreatDoor
namespace Go.Proofs.YtmdmbdbbpdojnaaGreatDoor
open Go.RowKit Nam
attribute [local go_sem] Oper.semAt_some wide_fn wide_depth wide_some

theorem contains_step {l : List Str} {k : Nat} {x : Str} {o : ByteArray} (h : l[k]? = some x) (hx : (x == o.toList) = false) (hk : (l.take k).contains o.data.toList = false) : (l.take (k + 1)).contains o.data.toList = false := by
  obtain ⟨h1, h2⟩ := List.getElem?_eq_some_iff.1 h
  rw [Lib.toList_data] at hx
  rw [List.take_succ_eq_append_getElem h1, h2]
  have hx' : ¬ o.data.toList = x := by intro e; rw [e] at hx; simp at hx
  simp only [List.contains_eq_mem, decide_eq_false_iff_not] at hk ⊢
  simp [hk, hx']
theorem contains_hit {l : List Str} {k : Nat} {x : Str} {o : ByteArray} (h : l[k]? = some x) (hx : (x == o.toList) = true) : l.contains o.data.toList = true := by
  rw [Lib.toList_data, beq_iff_eq] at hx
  rw [List.contains_eq_mem, decide_eq_true_eq, ← hx]
  exact List.mem_of_getElem? h
set_option maxHeartbeats 1000000 in
theorem below_any (s o : ByteArray) (w : World) (hs : s.size ≤ 9223372036854775807) (hw : Env w) :
    Calls Tryz.prog 69 #[.string s, .string o] w (Ret (.bool (belowB s.data.toList o.data.toList)) w) := by
  refine (callsIn_wide (n := 0)).1 ?_
  refine callsIn_of_wp_marks Tryz.func69 rfl trivial ?_ rfl
  simp only [Tryz.ntmps69, List.size_toArray, List.length_cons, List.length_nil, Nat.reduceAdd, Nat.reduceSub, Array.replicate_succ, Array.replicate_zero, List.push_toArray, List.append_toArray, List.nil_append, List.cons_append]
  have HW := Lib.hid hw; clear hw
  gi_wp2_with (gi_at_call 100; refine (callsIn_wide.2 (above_any _ _)).mono ?_; rintro e w' ⟨rfl, rfl⟩)
  obtain ⟨W0, hW0⟩ : ∃ W0, (((w.alloc (Obj.cells #[Value.string o] 9)).alloc (Obj.cells #[Value.bool false] 4)).alloc (Obj.cells #[Value.string s] 9)) = W0 := ⟨_, rfl⟩
  have hB : Below w.heap.size w W0 := by rw [← hW0]; exact (((Below.refl _ _).alloc (Nat.le_refl _) _).alloc (by simp) _).alloc (by simp; omega) _
  have b0 : Boxed W0 w.heap.size 9 (.string o) := by rw [← hW0]; exact ((Boxed.new _ _ _).alloc _).alloc _
  have b1 : Boxed W0 (w.heap.size + 1) 4 (.bool false) := by rw [← hW0]; have := (Boxed.new (w.alloc (Obj.cells #[Value.string o] 9)) 4 (.bool false)).alloc (Obj.cells #[Value.string s] 9); rwa [World.size_alloc] at this
  have b2 : Boxed W0 (w.heap.size + 1 + 1) 9 (.string s) := by rw [← hW0]; have := Boxed.new ((w.alloc (Obj.cells #[Value.string o] 9)).alloc (Obj.cells #[Value.bool false] 4)) 9 (.string s); rwa [World.size_alloc, World.size_alloc] at this
  have hz : W0.heap.size = w.heap.size + 3 := by rw [← hW0]; simp
  have hg : 0 < w.heap.size := by obtain ⟨m, hm⟩ := HW.out; exact cell_lt hm
  rw [hW0]
  clear hW0
  have Hz := Lib.hid hz; clear hz
  have hz := Hz.out
  refine range_law rfl (enters_of Tryz.func127 (by kernel_rfl) rfl) (above_iter s (w.heap.size + 1 + 1) hs)
    (fun o1 o2 => ⟨(b2.alloc _).alloc _, (HW.out.ext hB).ext (((Below.refl _ _).alloc (Nat.le_refl _) _).alloc (by simp) _), by omega⟩) (fun b hb => by omega) (fun b hb => by omega) (fun x => rfl)
    (fun b => b = w.heap.size + 1) (fun b hb => by omega) (fun b hb => by omega)
    (fun k W => ((aboveL s.data.toList).take k).contains o.data.toList = false ∧ Boxed W w.heap.size 9 (.string o) ∧ Boxed W (w.heap.size + 1) 4 (.bool false) ∧ Below w.heap.size w W)
    (fun c k W => c = .ret ∧ (aboveL s.data.toList).contains o.data.toList = true ∧ Boxed W (w.heap.size + 1) 4 (.bool true) ∧ Below w.heap.size w W)
    ?stI ?stX ⟨rfl, b0, b1, hB⟩ ?round ?done ?stop
  case stI =>
    intro k A B ⟨h1, h2, h2', h3⟩ hf
    exact ⟨h1, hf.boxed h2 (by omega), hf.boxed h2' (by omega), h3.trans (hf.below h3.size (by omega))⟩
  case stX =>
    intro c k A B ⟨h0, h1, h2, h3⟩ hf
    exact ⟨h0, h1, hf.boxed h2 (by omega), h3.trans (hf.below h3.size (by omega))⟩
  case round =>
    rintro l k x W hx rfl hW ⟨hi1, hi2, hi2', hi3⟩
    have HX := Lib.hid hx; clear hx hz
    unfold encStr
    gi_wp2
    refine ⟨Fr.refl _ _, ⟨hi1, hi2, hi2', hi3⟩, ?_⟩
    rintro Wb ⟨j1, j2, j2', j3⟩ hf hzz
    have J1 := Lib.hid j1; clear j1
    have hc := j2.cell; have hfz := j2'.frozen; have hc' := j2'.cell
    have H2 := Lib.hid j2; have H2' := Lib.hid j2'; clear j2 j2' hi1 hi2 hi2' hi3 hf hzz hW
    gi_wp2
    · have ht : (x == o.toList) = true := by assumption
      have hst : Fr (fun b => b = w.heap.size + 1) Wb (Wb.setCell ⟨w.heap.size + 1, 0, none⟩ (.bool true)) := Fr.setCell _ _ _ rfl
      exact ⟨hst, rfl, contains_hit HX.out ht, H2'.out.set _, j3.trans (hst.below j3.size (by omega))⟩
    · have ht : (x == o.toList) = false := by assumption
      exact ⟨Fr.refl _ _, contains_step HX.out ht J1.out, H2.out, H2'.out, j3⟩
  case done =>
    intro W ⟨hi1, hi2, hi2', hi3⟩ hK
    have hr : belowB s.data.toList o.data.toList = false := by rw [List.take_length] at hi1; exact hi1
    have hc := hi2'.cell; have hfz := hi2'.frozen
    have HB := Lib.hid hi2'; have HR := Lib.hid hr; have HK := Lib.hid hK
    clear hi1 hi2 hi2' hr hK hz b0 b1 b2 hB
    gi_wp2
    have hk2 : (W.setCell ⟨w.heap.size + 1, 0, none⟩ (.bool false)).heap[W0.heap.size]? = some (.deferred (some [])) := (Below.heap_setCell _ _ _ _ (by have := Hz.out; simp; omega)).trans HK.out
    have hq := boxed_putObj (HB.out.set (.bool false)) (D := W0.heap.size) (by have := Hz.out; omega) (.deferred none)
    have hqc := hq.cell
    refine leave_mark hk2 (v := .bool false) (by simp [results, Tryz.results69, go_sem, hqc]) ⟨by rw [HR.out], ?_⟩
    exact below_putObj (hi3.setCell (p := ⟨w.heap.size + 1, 0, none⟩) (by simp) _) (by have := Hz.out; omega) (by have := hi3.size; simp [World.setCell]; omega) _
  case stop =>
    rintro c k W hk ⟨rfl, hi1, hi2, hi3⟩ hK
    have hr : belowB s.data.toList o.data.toList = true := hi1
    have hq := boxed_putObj hi2 (D := W0.heap.size) (by have := Hz.out; omega) (.deferred none)
    have hqc := hq.cell
    have HR := Lib.hid hr; have HK := Lib.hid hK; have HQ := Lib.hid hqc
    clear hi1 hi2 hr hK hz b0 b1 b2 hB hqc
    gi_wp2
    have hqc := HQ.out
    refine leave_mark HK.out (v := .bool true) (by simp [results, Tryz.results69, go_sem, hqc]) ⟨by rw [HR.out], ?_⟩
    exact below_putObj hi3 (by have := Hz.out; omega) (by have := hi3.size; omega) _
theorem under_eq (s o : ByteArray) : underB s.data.toList o.data.toList = (isB s.data.toList && (o.toList.isEmpty || s.toList == o.toList || belowB s.data.toList o.data.toList)) := by
  rw [Lib.toList_data, Lib.toList_data]; rfl
set_option maxHeartbeats 400000 in
theorem Under_any (s o : ByteArray) (w : World) (hs : s.size ≤ 9223372036854775807) (hw : Env w) :
    Calls Tryz.prog 101 #[.string s, .string o] w (Ret (.bool (underB s.data.toList o.data.toList)) w) := by
  have HU := Lib.hid (under_eq s o); have HW := Lib.hid hw; clear hw
  go_enter Tryz.func101, Tryz.ntmps101
  go_wp2_with (first | (go_at_call 67; refine (is_any s _ hs).mono ?_; rintro e w' ⟨rfl, hE⟩) | (go_at_call 69; refine (below_any s o _ hs (HW.out.ext hE)).mono ?_; rintro e w2 ⟨rfl, hE2⟩))
  · go_ret
    exact ⟨ret_bool (by rw [HU.out]; simp [*]), hE⟩
  · go_ret
    exact ⟨ret_bool (by rw [HU.out]; simp [*]), hE⟩
  · go_ret
    exact ⟨ret_bool (by rw [HU.out]; simp [*]), ext_trans hE hE2⟩
  · go_ret
    exact ⟨ret_bool (by rw [HU.out]; simp [*]), hE⟩
set_option maxHeartbeats 400000 in
theorem Match_any (p s : ByteArray) (w : World) (hp : p.size ≤ 9223372036854775807) (hs : s.size ≤ 9223372036854775807) (hw : Env w) :
    Calls Tryz.prog 36 #[.string p, .string s] w (Ret (.bool (matchB p.data.toList s.data.toList)) w) := by
  have HW := Lib.hid hw; clear hw
  go_enter Tryz.func36, Tryz.ntmps36
  go_wp2_with (first | (go_at_call 67; refine (is_any s _ hs).mono ?_; rintro e w2 ⟨rfl, hE2⟩) | (go_at_call 68; refine (pattern_any p _ hp).mono ?_; rintro e w1 ⟨rfl, hE⟩) | (go_at_call 69; refine (below_any s _ _ hs ((HW.out.ext hE).ext hE2)).mono ?_; rintro e w3 ⟨rfl, hE3⟩))
  · go_ret
    exact ⟨ret_bool (by simp [matchB, *]), ext_trans hE hE2⟩
  · go_ret
    exact ⟨ret_bool (by simp [matchB, *]), ext_trans (ext_trans hE hE2) hE3⟩
  · go_ret
    exact ⟨ret_bool (by rw [Lib.toList_data]; simp [matchB, *]), ext_trans hE hE2⟩
  · go_ret
    exact ⟨ret_bool (by simp [matchB, *]), hE⟩
theorem pattern_size {p : ByteArray} (hp : p.size ≤ 9223372036854775807) : (⟨(pattern p.data.toList).1.toArray⟩ : ByteArray).size ≤ 9223372036854775807 := by
  rw [size_bs]; rw [Lib.size_eq] at hp
  unfold pattern
  split
  · exact hp
  · split
    · show (p.data.toList.drop 2).length ≤ _
      rw [List.length_drop]; omega
    · exact hp
set_option maxHeartbeats 400000 in
theorem Within_any (p q : ByteArray) (w : World) (hp : p.size ≤ 9223372036854775807) (hq : q.size ≤ 9223372036854775807) (hw : Env w) :
    Calls Tryz.prog 70 #[.string p, .string q] w (Ret (.bool (withinB p.data.toList q.data.toList)) w) := by
  have HW := Lib.hid hw; clear hw
  have tok : True := trivial
  go_enter Tryz.func70, Tryz.ntmps70
  go_wp2_with fail
  refine (pattern_any p _ hp).mono ?_; rintro e w1 ⟨rfl, hE1⟩
  go_wp2_with fail
  refine (pattern_any q _ hq).mono ?_; rintro e w2 ⟨rfl, hE2⟩
  go_wp2_with (first | (go_at_call 36; refine (Match_any q _ _ hq (pattern_size hp) ((HW.out.ext hE1).ext hE2)).mono ?_; rintro e w3 ⟨rfl, hE3⟩) | (go_at_call 101; refine (Under_any _ _ _ (pattern_size hp) ((HW.out.ext hE1).ext hE2)).mono ?_; rintro e w3 ⟨rfl, hE3⟩))
  · go_ret
    exact ⟨ret_bool (by simp [withinB, *]), ext_trans hE1 hE2⟩
  · go_ret
    exact ⟨ret_bool (by simp_all [withinB]), ext_trans (ext_trans hE1 hE2) hE3⟩
  · go_ret
    exact ⟨ret_bool (by simp_all [withinB]), ext_trans (ext_trans hE1 hE2) hE3⟩
  · go_ret
    exact ⟨ret_bool (by simp_all [withinB]), ext_trans hE1 hE2⟩
  · go_ret
    exact ⟨ret_bool (by simp [withinB, *]), ext_trans hE1 hE2⟩
/-- Cell i of block b is v. -/
def CellIs (w : World) (b i : Nat) (v : Value) : Prop := w.cell? ⟨b, i, none⟩ = some v
theorem CellIs.ext {w w' : World} {b i : Nat} {v : Value} (h : CellIs w b i v) (hE : Ext w w') : CellIs w' b i v := (hE.cell (p := ⟨b, i, none⟩) (cell_lt h)).trans h
def pairIs (w : World) (b : Nat) (p q : ByteArray) : Prop := CellIs w b 0 (.string p) ∧ CellIs w b 1 (.string q)
end Go.Proofs.YtmdmbdbbpdojnaaGreatDoor
namespace Go.Proofs.YtmdmbdbbpdojnaaGreatDoor
open Go.RowKit Nam
attribute [local go_sem] Oper.semAt_some wide_fn wide_depth wide_some

theorem pairIs.ext {w w' : World} {b : Nat} {p q : ByteArray} (h : pairIs w b p q) (hE : Ext w w') : pairIs w' b p q := ⟨h.1.ext hE, h.2.ext hE⟩
structure MeetArgs (w : World) (B b0 b1 : Nat) (p q : ByteArray) : Prop where
  env : Env w
  c0 : CellIs w B 0 (.slice (some ⟨b0, 0, none⟩) 2 2)
  c1 : CellIs w B 1 (.slice (some ⟨b1, 0, none⟩) 2 2)
  p0 : pairIs w b0 p q
  p1 : pairIs w b1 q p
theorem MeetArgs.ext {w w' : World} {B b0 b1 : Nat} {p q : ByteArray} (h : MeetArgs w B b0 b1 p q) (hE : Ext w w') : MeetArgs w' B b0 b1 p q :=
  ⟨h.env.ext hE, h.c0.ext hE, h.c1.ext hE, h.p0.ext hE, h.p1.ext hE⟩
def two (a b : Bool) : Int := if a then 0 else if b then 1 else -1
theorem two_ge (a b : Bool) : decide (0 ≤ two a b) = (a || b) := by cases a <;> cases b <;> rfl
end Go.Proofs.YtmdmbdbbpdojnaaGreatDoor
namespace Go.Proofs.YtmdmbdbbpdojnaaGreatDoor
open Go.RowKit Nam

theorem strV_get {l : List Str} {k : Nat} {x : Str} (h : l[k]? = some x) : (l.map strV)[k]? = some (.string ⟨x.toArray⟩) := by
  rw [List.getElem?_map, h]; rfl
theorem name_isB_no {l : Str} {k : Nat} {x : Str} (h : (cut l)[k]? = some x) (hx : labelB x = false) : isB l = false := by
  rw [Bool.eq_false_iff]; intro hb
  have := (isB_iff.1 hb).2.2 x (List.mem_of_getElem? h)
  rw [hx] at this; cases this
set_option maxHeartbeats 1000000 in
theorem rName_any (s : ByteArray) (w : World) (hs : s.size ≤ 9223372036854775807) :
    Calls Tryz.prog 53 #[.string s] w (Ret (.bool (isB s.data.toList)) w) := by
  by_cases h64 : 64 < s.size
  · have hf : isB s.data.toList = false := by
      rw [Bool.eq_false_iff]; intro h
      have := (isB_iff.1 h).1; rw [← Lib.size_eq] at this; omega
    have H := Lib.hid hf; clear hf
    go_enter Tryz.func53, Tryz.ntmps53
    go_wp2
    go_ret
    exact ⟨ret_bool H.out.symm, Below.refl _ _⟩
  · have h1000 : s.size ≤ 1000 := by omega
    have h64' : s.size ≤ 64 := by omega
    go_enter Tryz.func53, Tryz.ntmps53
    go_wp2_with fail
    refine (rcut_any s _ h1000).mono ?_
    rintro e w1 ⟨v, rfl, hv, hE⟩
    rcases hv with ⟨h0, _⟩ | ⟨b, off, cap, rfl, hcap, hmax, hcell⟩
    · exact absurd (List.map_eq_nil_iff.1 h0) (cut_ne _)
    obtain ⟨n, hn⟩ : ∃ n, ((cut s.data.toList).map strV).length = n := ⟨_, rfl⟩
    rw [hn] at hcap ⊢
    have hn' : (cut s.data.toList).length = n := by rw [← hn, List.length_map]
    unfold maxLen at hmax
    have HC := Lib.hid hcell; have HN := Lib.hid hn'; clear hcell hn hn'
    go_wp2
    go_loop [4] (fun i => ∃ k : Nat, k ≤ n ∧ i = .int .i64 k ∧ ((cut s.data.toList).take k).all labelB = true) (fun i => n - (intOf i).toNat)
    case atStart => exact ⟨0, Nat.zero_le _, rfl, rfl⟩
    case round =>
      obtain ⟨k, hk, rfl, hall⟩ := hrel
      have HA := Lib.hid hall; clear hall
      by_cases hlt : k < n
      · obtain ⟨x, hx⟩ : ∃ x, (cut s.data.toList)[k]? = some x := ⟨_, List.getElem?_eq_getElem (by rw [HN.out]; exact hlt)⟩
        have hc : w1.cell? ⟨b, off + k, none⟩ = some (.string ⟨x.toArray⟩) := HC.out k _ (strV_get hx)
        have hxs := label_size hs hx
        have HX := Lib.hid hx; clear hx
        go_wp2_with (go_at_call 82; refine (rlabel_any _ _ hxs).mono ?_; rintro e w' ⟨rfl, rfl⟩)
        · have ht : (!labelB x) = true := by assumption
          go_ret
          exact ⟨ret_bool (name_isB_no HX.out (by simpa using ht)).symm, hE⟩
        · have ht : (!labelB x) = false := by assumption
          go_round
          case rel => exact ⟨k + 1, by omega, by go_num, all_step HX.out (by simpa using ht) HA.out⟩
          case measure => simp [intOf]; omega
      · have hks : k = n := by omega
        have hall := HA.out
        rw [hks, ← HN.out, List.take_length] at hall
        have hfin : isB s.data.toList = decide (n ≤ 8) := by
          rw [← HN.out, Bool.eq_iff_iff, isB_iff, decide_eq_true_eq]
          rw [List.all_eq_true] at hall
          exact ⟨fun h => h.2.1, fun h => ⟨by rw [← Lib.size_eq]; exact h64', h, hall⟩⟩
        have HF := Lib.hid hfin; clear hfin hall
        go_wp2
        go_ret
        exact ⟨ret_bool (by rw [HF.out]; simp; try omega), hE⟩
theorem star_no {s : ByteArray} (h : ¬ (3 ≤ s.size ∧ s.size ≤ 64)) : starB s.data.toList = false := by
  unfold starB; rw [← Lib.size_eq]
  have : (decide (3 ≤ s.size) && decide (s.size ≤ 64)) = false := by rw [Bool.and_eq_false_iff]; simp; omega
  rw [this]; rfl
theorem star_eq {s : ByteArray} (h3 : 3 ≤ s.size) (h64 : s.size ≤ 64) : starB s.data.toList = ((s[0].toNat : Int) == 42 && (s[1].toNat : Int) == 46 && isB (s.data.toList.drop 2) && decide ((cut (s.data.toList.drop 2)).length ≤ 7)) := by
  unfold starB; rw [← Lib.size_eq, decide_eq_true h3, decide_eq_true h64, good_get (show 0 < s.size by omega), good_get (show 1 < s.size by omega)]
  have e : ∀ (a b : UInt8), (a == b) = ((a.toNat : Int) == (b.toNat : Int)) := fun a b => by
    rw [Bool.eq_iff_iff, beq_iff_eq, beq_iff_eq]
    exact ⟨fun h => by rw [h], fun h => Lib.byte_eq_of_toNat h⟩
  rw [e, e]; rfl
set_option maxHeartbeats 1000000 in
theorem rStar_any (s : ByteArray) (w : World) (hs : s.size ≤ 9223372036854775807) :
    Calls Tryz.prog 91 #[.string s] w (Ret (.tuple #[.string ⟨(starOf s.data.toList).toArray⟩, .bool (starB s.data.toList)]) w) := by
  have hno : starB s.data.toList = false → (.tuple #[.string ⟨#[]⟩, .bool false] : Value) = .tuple #[.string ⟨(starOf s.data.toList).toArray⟩, .bool (starB s.data.toList)] := by
    intro h; unfold starOf; rw [h]; rfl
  have HNO := Lib.hid hno; clear hno
  by_cases h : 3 ≤ s.size ∧ s.size ≤ 64
  · obtain ⟨h3, h64⟩ := h
    have HS := Lib.hid (star_eq h3 h64)
    have g0 : 0 < s.size := by omega
    have g1 : 1 < s.size := by omega
    by_cases ha : (s[0].toNat : Int) = 42 ∧ (s[1].toNat : Int) = 46
    rotate_left 1
    · have hf : starB s.data.toList = false := by
        rw [HS.out]
        have : ((s[0].toNat : Int) == 42 && (s[1].toNat : Int) == 46) = false := by
          rw [Bool.eq_false_iff]; intro h; rw [Bool.and_eq_true, beq_iff_eq, beq_iff_eq] at h; exact ha h
        rw [this]; rfl
      have HF := Lib.hid hf; clear hf
      by_cases hb : (s[0].toNat : Int) = 42
      · have hb2 : ¬ (s[1].toNat : Int) = 46 := fun h => ha ⟨hb, h⟩
        have t1 : ((s[0].toNat : Int) != 42) = false := by simpa using hb
        have t2 : ((s[1].toNat : Int) != 46) = true := by simpa using hb2
        clear ha hb hb2
        go_enter Tryz.func91, Tryz.ntmps91
        go_wp2
        go_ret2
        exact ⟨congrArg _ (HNO.out HF.out), Below.refl _ _⟩
      · have t1 : ((s[0].toNat : Int) != 42) = true := by simpa using hb
        clear ha hb
        go_enter Tryz.func91, Tryz.ntmps91
        go_wp2
        go_ret2
        exact ⟨congrArg _ (HNO.out HF.out), Below.refl _ _⟩
    · obtain ⟨ha, hb⟩ := ha
      have t1 : ((s[0].toNat : Int) != 42) = false := by simpa using ha
      have t2 : ((s[1].toNat : Int) != 46) = false := by simpa using hb
      have hS : starB s.data.toList = (isB (s.data.toList.drop 2) && decide ((cut (s.data.toList.drop 2)).length ≤ 7)) := by rw [HS.out, beq_iff_eq.2 ha, beq_iff_eq.2 hb]; rfl
      have HSS := Lib.hid hS; clear hS ha hb HS
      obtain ⟨q, hq⟩ : ∃ q, s.extract 2 s.size = q := ⟨_, rfl⟩
      have hqd : q.data.toList = s.data.toList.drop 2 := by rw [← hq, drop_eq]
      have hqs : q.size ≤ 62 := by rw [Lib.size_eq, hqd, List.length_drop, ← Lib.size_eq]; omega
      have HQ := Lib.hid hq; have HQD := Lib.hid hqd; clear hq hqd
      go_enter Tryz.func91, Tryz.ntmps91
      cases hN : isB q.data.toList
      · have HN := Lib.hid hN; clear hN
        go_wp2_with (go_at_call 53; rw [HQ.out]; refine (rName_any q _ (by omega)).mono ?_; rintro e w1 ⟨rfl, hE⟩; rw [HN.out])
        go_ret2
        exact ⟨congrArg _ (HNO.out (by rw [HSS.out, ← HQD.out, HN.out]; rfl)), hE⟩
      · have HN := Lib.hid hN; clear hN
        go_wp2_with (first | (go_at_call 53; rw [HQ.out]; refine (rName_any q _ (by omega)).mono ?_; rintro e w1 ⟨rfl, hE⟩; rw [HN.out]) | (go_at_call 81; rw [HQ.out]; refine (rcut_any q _ (by omega)).mono ?_; rintro e w2 ⟨v, rfl, hv, hE2⟩; obtain ⟨a, cap, rfl⟩ := hv.form; clear hv))
        · have h7 : 7 < (cut q.data.toList).length := by omega
          go_ret2
          exact ⟨congrArg _ (HNO.out (by rw [HSS.out, ← HQD.out, HN.out]; simp; omega)), ext_trans hE hE2⟩
        · have h7 : (cut q.data.toList).length ≤ 7 := by omega
          have hS1 : starB s.data.toList = true := by rw [HSS.out, ← HQD.out, HN.out]; simp; omega
          have HS1 := Lib.hid hS1; clear hS1
          go_ret2
          exact ⟨by rw [starOf, if_pos HS1.out, HS1.out, ← drop_eq]; rfl, ext_trans hE hE2⟩
  · have HF := Lib.hid (star_no h)
    by_cases h3 : s.size < 3
    · have t1 : decide ((s.size : Int) < 3) = true := by simp; omega
      clear h
      go_enter Tryz.func91, Tryz.ntmps91
      go_wp2
      go_ret2
      exact ⟨congrArg _ (HNO.out HF.out), Below.refl _ _⟩
    · have t1 : decide ((s.size : Int) < 3) = false := by simp; omega
      have t2 : decide ((64 : Int) < s.size) = true := by simp; omega
      clear h
      go_enter Tryz.func91, Tryz.ntmps91
      go_wp2
      go_ret2
      exact ⟨congrArg _ (HNO.out HF.out), Below.refl _ _⟩
set_option maxHeartbeats 400000 in
theorem rPattern_any (s : ByteArray) (w : World) (hs : s.size ≤ 9223372036854775807) :
    Calls Tryz.prog 118 #[.string s] w (Ret (.int .i64 (okOr 110 (rpatB s.data.toList))) w) := by
  have hr : rpatB s.data.toList = (starB s.data.toList || isB s.data.toList) := rfl
  have HR := Lib.hid hr; clear hr
  go_enter Tryz.func118, Tryz.ntmps118
  go_wp2_with (first | (go_at_call 91; refine (rStar_any s _ hs).mono ?_; rintro e w1 ⟨rfl, hE⟩) | (go_at_call 53; refine (rName_any s _ hs).mono ?_; rintro e w2 ⟨rfl, hE2⟩))
  · go_ret
    exact ⟨by rw [HR.out, show starB s.data.toList = true by assumption]; rfl, hE⟩
  · have h1 : starB s.data.toList = false := by rw [Bool.eq_false_iff]; assumption
    have h2 : (!isB s.data.toList) = true := by assumption
    go_ret
    exact ⟨by rw [HR.out, h1, show isB s.data.toList = false by simpa using h2]; rfl, ext_trans hE hE2⟩
  · have h2 : (!isB s.data.toList) = false := by assumption
    go_ret
    exact ⟨by rw [HR.out, show isB s.data.toList = true by simpa using h2, Bool.or_true]; rfl, ext_trans hE hE2⟩
set_option maxHeartbeats 400000 in
theorem rLabels_any (s : ByteArray) (w : World) (hs : s.size ≤ 9223372036854775807) :
    Calls Tryz.prog 92 #[.string s] w (RetSl ((if isB s.data.toList then cut s.data.toList else []).map strV) w) := by
  cases hb : isB s.data.toList
  · have HB := Lib.hid hb; clear hb
    go_enter Tryz.func92, Tryz.ntmps92
    go_wp2_with (go_at_call 53; refine (rName_any s _ hs).mono ?_; rintro e w' ⟨rfl, hE⟩; rw [HB.out])
    go_ret
    exact ⟨_, rfl, Sl.nil _, hE⟩
  · have h64 : s.size ≤ 1000 := by have := (isB_iff.1 hb).1; rw [Lib.size_eq]; omega
    have HB := Lib.hid hb; clear hb
    go_enter Tryz.func92, Tryz.ntmps92
    go_wp2_with (first | (go_at_call 53; refine (rName_any s _ hs).mono ?_; rintro e w' ⟨rfl, hE⟩; rw [HB.out]) | (go_at_call 81; refine (rcut_any s _ h64).mono ?_; rintro e w2 ⟨v, rfl, hv, hE2⟩; have HV := Lib.hid hv; clear hv))
    go_ret
    exact ⟨v, rfl, HV.out, ext_trans hE hE2⟩
def NoDotTo (l : Str) (k : Nat) : Prop := ∀ j : Nat, j < k → l[j]? ≠ some (46 : UInt8)
theorem afterDot_hit : ∀ (m : Nat) (l : Str), NoDotTo l m → l[m]? = some (46 : UInt8) → afterDot l = l.drop (m + 1)
  | _, [], _, h => by simp at h
  | 0, c :: t, _, h => by simp at h; subst h; simp [afterDot]
  | m + 1, c :: t, h1, h => by
    have hc : c ≠ 46 := fun e => h1 0 (by omega) (by simp [e])
    rw [afterDot, if_neg hc, afterDot_hit m t (fun j hj => by have := h1 (j + 1) (by omega); simpa using this) (by simpa using h)]
    simp
theorem afterDot_free : ∀ (l : Str), NoDotTo l l.length → afterDot l = []
  | [], _ => rfl
  | c :: t, h => by
    have hc : c ≠ 46 := fun e => h 0 (by simp) (by simp [e])
    rw [afterDot, if_neg hc, afterDot_free t (fun j hj => by have := h (j + 1) (by simpa using hj); simpa using this)]
set_option maxHeartbeats 400000 in
theorem rUp_any (s : ByteArray) (w : World) (hs : s.size ≤ 9223372036854775807) :
    Calls Tryz.prog 136 #[.string s] w (Ret (.string ⟨(up s.data.toList).toArray⟩) w) := by
  cases hb : isB s.data.toList
  · have hu : up s.data.toList = [] := by unfold up; rw [hb]; rfl
    have HB := Lib.hid hb; have HU := Lib.hid hu; clear hb hu
    go_enter Tryz.func136, Tryz.ntmps136
    go_wp2_with (go_at_call 53; refine (rName_any s _ hs).mono ?_; rintro e w' ⟨rfl, hE⟩; rw [HB.out])
    go_ret
    exact ⟨by rw [HU.out]; rfl, hE⟩
  · have hu : up s.data.toList = afterDot s.data.toList := by unfold up; rw [hb]; rfl
    have HB := Lib.hid hb; have HU := Lib.hid hu; clear hb hu
    go_enter Tryz.func136, Tryz.ntmps136
    go_wp2_with (go_at_call 53; refine (rName_any s _ hs).mono ?_; rintro e w1 ⟨rfl, hE⟩; rw [HB.out])
    go_loop [3] (fun i => ∃ k : Nat, k ≤ s.size ∧ i = .int .i64 k ∧ NoDotTo s.data.toList k) (fun i => s.size - (intOf i).toNat)
    case atStart => exact ⟨0, Nat.zero_le _, rfl, fun j hj => by omega⟩
    case round =>
      obtain ⟨k, hk, rfl, hno⟩ := hrel
      have HN := Lib.hid hno; clear hno
      by_cases hlt : k < s.size
      · by_cases hdot : s[k] = 46
        · have hb : ((s[k].toNat : Int) == 46) = true := by rw [hdot]; rfl
          have hfin := afterDot_hit k _ HN.out (by rw [Lib.data_getElem? s k hlt, hdot])
          rw [← HU.out] at hfin
          have HF := Lib.hid hfin; clear hfin
          have HD := Lib.hid hdot; clear hdot
          go_wp2
          go_ret
          exact ⟨by rw [HF.out, ← drop_eq]; rfl, hE⟩
        · have hb : ((s[k].toNat : Int) == 46) = false := by
            rw [beq_eq_false_iff_ne]; intro h; exact hdot (Lib.byte_eq_of_toNat (by rw [h]; rfl))
          have hnext : NoDotTo s.data.toList (k + 1) := fun j hj => by
            by_cases e : j = k
            · subst e; rw [Lib.data_getElem? s j hlt]; simpa using hdot
            · exact HN.out j (by omega)
          have HX := Lib.hid hnext; have HD := Lib.hid hdot; clear hnext hdot
          go_wp2
          go_round
          case rel => exact ⟨k + 1, by omega, by go_num, HX.out⟩
          case measure => simp [intOf]; omega
      · have hks : k = s.size := by omega
        have hfin := afterDot_free s.data.toList (by rw [← Lib.size_eq, ← hks]; exact HN.out)
        rw [← HU.out] at hfin
        have HF := Lib.hid hfin; clear hfin hks
        go_wp2
        go_ret
        exact ⟨by rw [HF.out]; rfl, hE⟩
def vlen (v : Value) : Nat := match v with | .string s => s.size | _ => 0
set_option maxHeartbeats 400000 in
theorem rbelow_any (s o : ByteArray) (w : World) (hs : s.size ≤ 9223372036854775807) :
    Calls Tryz.prog 117 #[.string s, .string o] w (Ret (.bool (belowB s.data.toList o.data.toList)) w) := by
  go_enter Tryz.func117, Tryz.ntmps117
  go_wp2
  go_loopw [0] (fun v wr => ∃ (k : Nat) (q : ByteArray), v = .string q ∧ q.size ≤ s.size ∧ k ≤ (aboveL s.data.toList).length ∧ (aboveL s.data.toList).drop k = aboveL q.data.toList ∧ ((aboveL s.data.toList).take k).contains o.data.toList = false ∧ Ext w wr) (fun v _ => vlen v)
  case atStart => exact ⟨0, s, rfl, Nat.le_refl _, Nat.zero_le _, rfl, rfl, Below.refl _ _⟩
  case round =>
    obtain ⟨k, q, rfl, hq, hk, hdrop, hno, hE⟩ := hrel
    have hqs : q.size ≤ 9223372036854775807 := by omega
    have hqe := isEmpty_of (s := q)
    have HD := Lib.hid hdrop; have HN := Lib.hid hno; clear hdrop hno
    by_cases h0 : q.size = 0
    · have e0 : q.toList.isEmpty = true := by rw [hqe]; simp [h0]
      have hq0 : q.data.toList = [] := by have := Lib.size_eq q; rw [h0] at this; exact List.eq_nil_of_length_eq_zero this.symm
      have hu : up q.data.toList = [] := by rw [hq0]; unfold up; split <;> rfl
      have hend : k = (aboveL s.data.toList).length := aboveL_end _ _ _ HD.out hk hu
      have hfin : belowB s.data.toList o.data.toList = false := by have := HN.out; rw [hend, List.take_length] at this; exact this
      have HF := Lib.hid hfin; clear hfin hqe h0 hq0 hu hend
      go_wp2
      go_ret
      exact ⟨ret_bool HF.out.symm, hE⟩
    · have e0 : q.toList.isEmpty = false := by rw [hqe]; simp [h0]
      clear hqe
      obtain ⟨q2, hq2⟩ : ∃ q2 : ByteArray, ⟨(up q.data.toList).toArray⟩ = q2 := ⟨_, rfl⟩
      have hq2d : q2.data.toList = up q.data.toList := by rw [← hq2]
      have hq2s : q2.size ≤ s.size := by rw [← hq2]; exact up_size q s.size hq
      have hq2e := isEmpty_of (s := q2)
      have HQ2 := Lib.hid hq2; have HQD := Lib.hid hq2d; clear hq2 hq2d
      by_cases hu0 : q2.size = 0
      · have e2 : q2.toList.isEmpty = true := by rw [hq2e]; simp [hu0]
        have e2' : q2.toList = [] := by simpa using e2
        have hu : up q.data.toList = [] := by rw [← HQD.out, ← Lib.toList_data]; exact e2'
        have hnew : (aboveL s.data.toList).drop k = aboveL q2.data.toList := by
          rw [HD.out, HQD.out, hu]; rw [aboveL, above_end _ hu]; rw [aboveL, above_end]; unfold up; split <;> rfl
        have hlen : q2.size < q.size := by omega
        have HX := Lib.hid hnew; have HL := Lib.hid hlen; clear hnew hu hq2e hu0 e2' hlen
        cases ho : (q2.toList == o.toList)
        all_goals
          go_wp2_with (go_at_call 136; refine (rUp_any q _ hqs).mono ?_; rintro e w1 ⟨rfl, hE1⟩; rw [HQ2.out])
          go_roundw
          case rel => exact ⟨k, q2, rfl, hq2s, hk, HX.out, HN.out, ext_trans hE hE1⟩
          case measure => simp [vlen]; exact HL.out
      · have e2 : q2.toList.isEmpty = false := by rw [hq2e]; simp [hu0]
        have hu : up q.data.toList ≠ [] := by rw [← HQD.out]; intro h; exact hu0 (by rw [Lib.size_eq, h]; rfl)
        obtain ⟨hx, hd⟩ := aboveL_drop _ _ _ HD.out hu
        have hlt := (List.getElem?_eq_some_iff.1 hx).1
        have hlen : q2.size < q.size := by rw [Lib.size_eq, Lib.size_eq, HQD.out]; exact up_lt _ hu
        rw [← HQD.out] at hx hd
        have HX := Lib.hid hx; have HD2 := Lib.hid hd; have HL := Lib.hid hlen; clear hx hd hlen hu hq2e hu0
        cases ho : (q2.toList == o.toList)
        · have HO := Lib.hid ho
          go_wp2_with (go_at_call 136; refine (rUp_any q _ hqs).mono ?_; rintro e w1 ⟨rfl, hE1⟩; rw [HQ2.out])
          go_roundw
          case rel => exact ⟨k + 1, q2, rfl, hq2s, by omega, HD2.out, contains_step HX.out (by rw [← Lib.toList_data]; exact HO.out) HN.out, ext_trans hE hE1⟩
          case measure => simp [vlen]; exact HL.out
        · have HO := Lib.hid ho
          go_wp2_with (go_at_call 136; refine (rUp_any q _ hqs).mono ?_; rintro e w1 ⟨rfl, hE1⟩; rw [HQ2.out])
          go_ret
          exact ⟨ret_bool (contains_hit HX.out (by rw [← Lib.toList_data]; exact HO.out)).symm, ext_trans hE hE1⟩
theorem runder_eq (s o : ByteArray) : underB s.data.toList o.data.toList = (isB s.data.toList && (o.toList.isEmpty || s.toList == o.toList || belowB s.data.toList o.data.toList)) := under_eq s o
set_option maxHeartbeats 400000 in
theorem rMatch_any (p s : ByteArray) (w : World) (hp : p.size ≤ 9223372036854775807) (hs : s.size ≤ 9223372036854775807) :
    Calls Tryz.prog 83 #[.string p, .string s] w (Ret (.bool (rmatchB p.data.toList s.data.toList)) w) := by
  have hr : rmatchB p.data.toList s.data.toList = if !isB s.data.toList then false else if starB p.data.toList then belowB s.data.toList (starOf p.data.toList) else p.toList == s.toList := by rw [Lib.toList_data, Lib.toList_data]; rfl
  have HR := Lib.hid hr; clear hr
  cases h1 : isB s.data.toList
  all_goals cases h2 : starB p.data.toList
  all_goals
    have H1 := Lib.hid h1; have H2 := Lib.hid h2; clear h1 h2
    go_enter Tryz.func83, Tryz.ntmps83
    go_wp2_with (first | (go_at_call 53; refine (rName_any s _ hs).mono ?_; rintro e w1 ⟨rfl, hE⟩; rw [H1.out]) | (go_at_call 91; refine (rStar_any p _ hp).mono ?_; rintro e w2 ⟨rfl, hE2⟩; rw [H2.out]) | (go_at_call 117; refine (rbelow_any s _ _ hs).mono ?_; rintro e w3 ⟨rfl, hE3⟩))
    go_ret
    refine ⟨ret_bool (by rw [HR.out, H1.out, H2.out]; rfl), ?_⟩
    first | exact ext_trans (ext_trans hE hE2) hE3 | exact ext_trans hE hE2 | exact hE
end Go.Proofs.YtmdmbdbbpdojnaaGreatDoor
