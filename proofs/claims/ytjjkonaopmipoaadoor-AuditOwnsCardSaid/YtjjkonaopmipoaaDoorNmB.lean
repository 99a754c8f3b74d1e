/- Walks: strings.SplitSeq, its iterator, names.name, names.is, names.Check. -/
import Derived.Test.YtjjkonaopmipoaaDoorNmA
namespace Go.Proofs.YtjjkonaopmipoaaDoor
open Go.RowKit Nam
attribute [local go_sem] Oper.semAt_some wide_fn wide_depth wide_some

def strLen (w : World) (b : Nat) : Nat := match w.cell? ⟨b, 0, none⟩ with | some (.string r) => r.size | _ => 0
theorem strLen_boxed {w : World} {b t : Nat} {r : ByteArray} (h : Boxed w b t (.string r)) : strLen w b = r.size := by
  unfold strLen; rw [h.cell]
def encStr (x : Str) : Array Value := #[Value.string ⟨x.toArray⟩]
set_option maxHeartbeats 400000 in
theorem SplitSeq_any (s sep : ByteArray) (w : World) :
    Calls Tryd.prog 64 #[.string s, .string sep] w fun e w' =>
      e = .returned (.func (.func 83) #[] #[.pointer (some ⟨w.heap.size + 1, 0, none⟩), .pointer (some ⟨w.heap.size, 0, none⟩), .pointer (some ⟨w.heap.size + 2, 0, none⟩)]) ∧
      w' = ((w.alloc (.cells #[.string s] 9)).alloc (.cells #[.string sep] 9)).alloc (.cells #[.int .i64 0] 3) := by
  go_enter Tryd.func64, Tryd.ntmps64
  go_wp2
  go_ret
  exact ⟨rfl, rfl⟩
theorem Count_dot (s : ByteArray) (w : World) :
    Calls Tryd.prog 63 #[.string s, .string ⟨#[46]⟩] w fun e w' => e = .returned (.int .i64 (Lib.countByte s.data.toList 46)) ∧ w = w' :=
  (Tryd.strings_Count_one s 46 w).mono fun _ _ ⟨h1, h2⟩ => ⟨h1, h2.symm⟩
theorem Index_dot (s : ByteArray) (x : Int) (h : Lib.indexByte s.data.toList 46 = x) (w : World) :
    Calls Tryd.prog 69 #[.string s, .string ⟨#[46]⟩] w fun e w' => e = .returned (.int .i64 x) ∧ w = w' :=
  (Tryd.strings_Index_one s 46 w).mono fun _ _ ⟨h1, h2⟩ => ⟨by rw [h1, h], h2.symm⟩
theorem index_lt {l : Str} {i : Nat} (h : Lib.indexByte l 46 = i) : i < l.length := by
  have := (Lib.indexByte_some h).1
  exact (List.getElem?_eq_some_iff.1 this).1
theorem cut_at {s r : ByteArray} {k : Nat} {x : Str} {t : List Str} (h : (cut s.data.toList).drop k = cut r.data.toList) (hr : cut r.data.toList = x :: t) :
    (cut s.data.toList)[k]? = some x ∧ (cut s.data.toList).drop (k + 1) = t ∧ (cut s.data.toList).length = k + 1 + t.length := by
  rw [hr] at h
  have h1 : (cut s.data.toList)[k]? = some x := by
    have := congrArg (fun l => l[0]?) h
    simpa using this
  have hk := (List.getElem?_eq_some_iff.1 h1).1
  have hl := congrArg List.length h
  simp at hl
  refine ⟨h1, ?_, by omega⟩
  rw [← List.drop_drop, h]; rfl
set_option maxHeartbeats 1000000 in
theorem splitSeq_iter (s : ByteArray) (b : Nat) (hs : s.size ≤ 9223372036854775807) :
    Iter Tryd.prog 83 #[.pointer (some ⟨b + 1, 0, none⟩), .pointer (some ⟨b, 0, none⟩), .pointer (some ⟨b + 2, 0, none⟩)] encStr (cut s.data.toList)
      (fun W => Boxed W b 9 (.string s) ∧ Boxed W (b + 1) 9 (.string ⟨#[46]⟩) ∧ Boxed W (b + 2) 3 (.int .i64 0))
      (fun k => k = b) (fun k => k = b ∨ k = b + 1 ∨ k = b + 2) := by
  intro l J Jx W hOk hJ hJx hY h0
  refine callsIn_of_wp Tryd.func83 rfl trivial ?_ rfl
  simp only [Tryd.ntmps83, List.size_toArray, List.length_cons, List.length_nil, Nat.reduceAdd, Nat.reduceSub, Array.replicate_succ, Array.replicate_zero, List.push_toArray, List.append_toArray, List.nil_append, List.cons_append]
  have HOk := Lib.hid hOk
  obtain ⟨hb0, hb1, hb2⟩ := hOk
  have c0 := hb0.cell; have c1 := hb1.cell; have c2 := hb2.cell
  have hsz : b + 2 < W.heap.size := hb2.lt
  clear hb0 hb1 hb2
  have HJ := Lib.hid hJ; have HJx := Lib.hid hJx; have HY := Lib.hid hY; have H0 := Lib.hid h0
  clear hJ hJx hY h0
  gi_wp2
  gi_loopw [7] (fun i wr => ∃ (k : Nat) (r : ByteArray), r.size ≤ s.size ∧ (cut s.data.toList).drop k = cut r.data.toList ∧ Boxed wr b 9 (.string r) ∧ Boxed wr (b + 1) 9 (.string ⟨#[46]⟩) ∧ Boxed wr (b + 2) 3 (.int .i64 0) ∧ J k wr) (fun _ wr => strLen wr b)
  case atStart => exact ⟨0, s, Nat.le_refl _, rfl, HOk.out.1, HOk.out.2.1, HOk.out.2.2, H0.out⟩
  case round =>
    obtain ⟨k, r, hr, hcut, g0, g1, g2, hj⟩ := hrel
    have Hcut := Lib.hid hcut; have Hj := Lib.hid hj
    clear hcut hj c0 c1 c2
    have d0 := g0.cell; have d1 := g1.cell; have d2 := g2.cell
    have G0 := Lib.hid g0; have G1 := Lib.hid g1; have G2 := Lib.hid g2; clear g0 g1 g2
    rcases (show Lib.indexByte r.data.toList 46 < 0 ∨ 0 ≤ Lib.indexByte r.data.toList 46 by omega) with hneg | hpos
    · have hix : Lib.indexByte r.data.toList 46 = -1 := by have := Lib.indexByte_ge r.data.toList 46; omega
      obtain ⟨hx, hd, hl⟩ := cut_at Hcut.out (cut_none _ hix)
      have HX := Lib.hid hx; have HL := Lib.hid hl; have HI := Lib.hid hix
      clear hx hd hl hix hneg
      obtain ⟨fn, tmps, assign, body, hy, hR⟩ := HY.out k _ wr HX.out Hj.out
      have HR := Lib.hid hR; clear hR
      unfold encStr at hy; rw [eta] at hy
      gi_wp2_with (gi_at_call 69; refine (callsIn_wide.2 (Index_dot _ _ HI.out _)).mono ?_; rintro e w' ⟨rfl, rfl⟩)
      refine HR.out.mono ?_
      rintro e W' (⟨rfl, hJ', hk⟩ | ⟨rfl, hJx'⟩)
      · gi_wp2
        go_end0
        exact ⟨⟨_, rfl⟩, .inl (by rw [HL.out]; exact hJ')⟩
      · gi_wp2
        go_end0
        exact ⟨⟨_, rfl⟩, .inr ⟨k + 1, by rw [HL.out]; simp, hJx'⟩⟩
    · obtain ⟨i, hix⟩ := Int.eq_ofNat_of_zero_le hpos
      have hlt := index_lt hix
      rw [← Lib.size_eq] at hlt
      obtain ⟨hx, hd, hl⟩ := cut_at Hcut.out (cut_some _ i hix)
      have HX := Lib.hid hx; have HL := Lib.hid hl; have HI := Lib.hid hix; have HD := Lib.hid hd
      clear hx hd hl hix hpos
      obtain ⟨fn, tmps, assign, body, hy, hR⟩ := HY.out k _ wr HX.out Hj.out
      have HR := Lib.hid hR; clear hR
      unfold encStr at hy; rw [← take_eq] at hy
      gi_wp2_with (gi_at_call 69; refine (callsIn_wide.2 (Index_dot _ _ HI.out _)).mono ?_; rintro e w' ⟨rfl, rfl⟩)
      refine HR.out.mono ?_
      rintro e W' (⟨rfl, hJ', hk⟩ | ⟨rfl, hJx'⟩)
      · have g0 := hk.boxed G0.out (by simp); have g1 := hk.boxed G1.out (by simp); have g2 := hk.boxed G2.out (by simp)
        have e0 := g0.cell; have e1 := g1.cell; have e2 := g2.cell; have f0 := g0.frozen
        have K0 := Lib.hid g0; have K1 := Lib.hid g1; have K2 := Lib.hid g2; have HJ' := Lib.hid hJ'; clear g0 g1 g2 hk hJ'
        gi_wp2
        go_roundw
        case rel =>
          have hF : Fr (fun k => k = b) W' (W'.setCell ⟨b, 0, none⟩ (.string (r.extract (i + 1) r.size))) := Fr.setCell W' ⟨b, 0, none⟩ _ rfl
          exact ⟨k + 1, r.extract (i + 1) r.size, by simp; omega, by rw [drop_eq]; exact HD.out, K0.out.set _, hF.boxed K1.out (by omega), hF.boxed K2.out (by omega), HJ.out _ _ _ HJ'.out hF⟩
        case measure =>
          rw [strLen_boxed (K0.out.set _), strLen_boxed G0.out]
          simp; omega
      · gi_wp2
        refine bodyPost_ret (results_none rfl _ _ _) rfl ?_
        exact ⟨⟨_, rfl⟩, .inr ⟨k + 1, by rw [HL.out]; omega, hJx'⟩⟩
theorem name_no {s : ByteArray} {labels bytes : Nat} (h : bytes < s.size ∨ labels ≤ Lib.countByte s.data.toList 46) : nameB s.data.toList labels bytes = false := by
  have := cut_length s.data.toList
  rw [Lib.size_eq] at h
  unfold nameB
  rcases h with h | h
  · rw [decide_eq_false (by omega)]; rfl
  · rw [decide_eq_false (p := (cut s.data.toList).length ≤ labels) (by omega)]; simp
theorem name_yes {s : ByteArray} {labels bytes : Nat} (h1 : s.size ≤ bytes) (h2 : ¬ labels ≤ Lib.countByte s.data.toList 46) : nameB s.data.toList labels bytes = (cut s.data.toList).all labelB := by
  have := cut_length s.data.toList
  rw [Lib.size_eq] at h1
  unfold nameB
  rw [decide_eq_true h1, decide_eq_true (by omega)]; rfl
theorem all_no {l : List Str} {k : Nat} {x : Str} (h : l[k]? = some x) (hx : labelB x = false) : l.all labelB = false := by
  rw [List.all_eq_false]; exact ⟨x, List.mem_of_getElem? h, by rw [hx]; simp⟩
theorem all_step {l : List Str} {k : Nat} {x : Str} (h : l[k]? = some x) (hx : labelB x = true) (hk : (l.take k).all labelB = true) : (l.take (k + 1)).all labelB = true := by
  have hk' := (List.getElem?_eq_some_iff.1 h)
  obtain ⟨h1, h2⟩ := hk'
  rw [List.take_succ_eq_append_getElem h1, List.all_append, hk, h2]; simp [hx]
theorem mem_cut_len : ∀ (l : Str) (x : Str), x ∈ cut l → x.length ≤ l.length
  | [], x, h => by simp [cut] at h; simp [h]
  | c :: t, x, h => by
    unfold cut at h
    split at h
    · rcases List.mem_cons.1 h with rfl | h
      · simp
      · have := mem_cut_len t x h; simp; omega
    · split at h
      · simp at h; simp [h]
      · rename_i h0 r0 he
        rcases List.mem_cons.1 h with rfl | h
        · have := mem_cut_len t h0 (by rw [he]; simp); simp; omega
        · have := mem_cut_len t x (by rw [he]; simp [h]); simp; omega
theorem label_size {s : ByteArray} {k : Nat} {x : Str} (hs : s.size ≤ 9223372036854775807) (h : (cut s.data.toList)[k]? = some x) : (⟨x.toArray⟩ : ByteArray).size ≤ 9223372036854775807 := by
  have := mem_cut_len _ x (List.mem_of_getElem? h)
  rw [← Lib.size_eq] at this
  show x.toArray.size ≤ _
  simp; omega
def NameEnd (s : ByteArray) (labels bytes : Nat) (w : World) (e : Ending) (w' : World) : Prop := e = .returned (.bool (nameB s.data.toList labels bytes)) ∧ Ext w w'
set_option maxHeartbeats 1000000 in
theorem name_any (s : ByteArray) (labels bytes : Nat) (w : World) (hs : s.size ≤ 9223372036854775807) (_ : bytes ≤ 1000) (_ : labels ≤ 1000) :
    Calls Tryd.prog 56 #[.string s, .int .i64 labels, .int .i64 bytes] w (NameEnd s labels bytes w) := by
  refine (callsIn_wide (n := 0)).1 ?_
  refine callsIn_of_wp_marks Tryd.func56 rfl trivial ?_ rfl
  simp only [Tryd.ntmps56, List.size_toArray, List.length_cons, List.length_nil, Nat.reduceAdd, Nat.reduceSub, Array.replicate_succ, Array.replicate_zero, List.push_toArray, List.append_toArray, List.nil_append, List.cons_append]
  gi_wp2_with (first | (gi_at_call 63; refine (callsIn_wide.2 (Count_dot _ _)).mono ?_; rintro e w' ⟨rfl, rfl⟩) | (gi_at_call 64; refine (callsIn_wide.2 (SplitSeq_any _ _ _)).mono ?_; rintro e w' ⟨rfl, rfl⟩))
  · have h : labels ≤ Lib.countByte s.data.toList 46 := by omega
    exact ⟨.bool false, by simp [results, Tryd.results56, go_sem], by rw [name_no (.inr h)], (Below.refl _ _).alloc (Nat.le_refl _) _⟩
  · have h1 : s.size ≤ bytes := by assumption
    have h2 : ¬ labels ≤ Lib.countByte s.data.toList 46 := by omega
    have Hn := Lib.hid (name_yes h1 h2)
    obtain ⟨W0, hW0⟩ : ∃ W0, (((w.alloc (Obj.cells #[Value.bool false] 4)).alloc (Obj.cells #[Value.string s] 9)).alloc (Obj.cells #[Value.string { data := #[46] }] 9)).alloc (Obj.cells #[Value.int IntKind.i64 0] 3) = W0 := ⟨_, rfl⟩
    have hB : Below w.heap.size w W0 := by rw [← hW0]; exact ((((Below.refl _ _).alloc (Nat.le_refl _) _).alloc (by simp) _).alloc (by simp; omega) _).alloc (by simp; omega) _
    have b0 : Boxed W0 w.heap.size 4 (.bool false) := by rw [← hW0]; exact (((Boxed.new _ _ _).alloc _).alloc _).alloc _
    have b1 : Boxed W0 (w.heap.size + 1) 9 (.string s) := by rw [← hW0]; have := ((Boxed.new (w.alloc (Obj.cells #[Value.bool false] 4)) 9 (.string s)).alloc (Obj.cells #[Value.string { data := #[46] }] 9)).alloc (Obj.cells #[Value.int IntKind.i64 0] 3); rwa [World.size_alloc] at this
    have b2 : Boxed W0 (w.heap.size + 1 + 1) 9 (.string ⟨#[46]⟩) := by rw [← hW0]; have := (Boxed.new ((w.alloc (Obj.cells #[Value.bool false] 4)).alloc (Obj.cells #[Value.string s] 9)) 9 (.string ⟨#[46]⟩)).alloc (Obj.cells #[Value.int IntKind.i64 0] 3); rwa [World.size_alloc, World.size_alloc] at this
    have b3 : Boxed W0 (w.heap.size + 1 + 2) 3 (.int .i64 0) := by rw [← hW0]; have := Boxed.new (((w.alloc (Obj.cells #[Value.bool false] 4)).alloc (Obj.cells #[Value.string s] 9)).alloc (Obj.cells #[Value.string { data := #[46] }] 9)) 3 (.int .i64 0); rwa [World.size_alloc, World.size_alloc, World.size_alloc] at this
    have hz : W0.heap.size = w.heap.size + 4 := by rw [← hW0]; simp
    rw [hW0]
    clear hW0
    have Hz := Lib.hid hz; clear hz
    have hz := Hz.out
    refine range_law rfl (enters_of Tryd.func83 (by kernel_rfl) rfl) (splitSeq_iter s (w.heap.size + 1) hs)
      (fun o1 o2 => ⟨(b1.alloc _).alloc _, (b2.alloc _).alloc _, (b3.alloc _).alloc _⟩) (fun b hb => by omega) (fun b hb => by omega) (fun x => rfl)
      (fun b => b = w.heap.size) (fun b hb => by omega) (fun b hb => by omega)
      (fun k W => ((cut s.data.toList).take k).all labelB = true ∧ Boxed W w.heap.size 4 (.bool false) ∧ Below w.heap.size w W)
      (fun c k W => c = .ret ∧ (cut s.data.toList).all labelB = false ∧ Boxed W w.heap.size 4 (.bool false) ∧ Below w.heap.size w W)
      ?stI ?stX ⟨rfl, b0, hB⟩ ?round ?done ?stop
    case stI =>
      intro k A B ⟨h1, h2, h3⟩ hf
      exact ⟨h1, hf.boxed h2 (by omega), h3.trans (hf.below h3.size (by omega))⟩
    case stX =>
      intro c k A B ⟨h0, h1, h2, h3⟩ hf
      exact ⟨h0, h1, hf.boxed h2 (by omega), h3.trans (hf.below h3.size (by omega))⟩
    case round =>
      rintro l k x W hx rfl hW ⟨hi1, hi2, hi3⟩
      have HX := Lib.hid hx; clear hx hz
      have hxs := label_size hs HX.out
      unfold encStr
      gi_wp2
      refine ⟨Fr.refl _ _, ⟨hi1, hi2, hi3⟩, ?_⟩
      rintro Wb ⟨j1, j2, j3⟩ hf hzz
      have J1 := Lib.hid j1; clear j1
      have hc := j2.cell; have hfz := j2.frozen
      have H2 := Lib.hid j2; clear j2 hi1 hi2 hi3 hf hzz hW
      gi_wp2_with (gi_at_call 65; refine (CallsIn.inRound _ (callsIn_wide.2 (label_any _ _ hxs))).mono ?_; rintro e W2 ⟨rfl, hE⟩; have q2 := ext_boxed hE H2.out; have hc2 := q2.cell; have hf2 := q2.frozen; have Q2 := Lib.hid q2; clear q2)
      · have ht : (!labelB x) = true := by assumption
        have hst : Fr (fun b => b = w.heap.size) Wb (W2.setCell ⟨w.heap.size, 0, none⟩ (.bool false)) := (Fr.of_ext hE).trans (Fr.setCell _ _ _ rfl)
        exact ⟨hst, rfl, all_no HX.out (by simpa using ht), Q2.out.set _, j3.trans (hst.below j3.size (by omega))⟩
      · have ht : (!labelB x) = false := by assumption
        exact ⟨Fr.of_ext hE, all_step HX.out (by simpa using ht) J1.out, Q2.out, j3.trans (hE.mono j3.size)⟩
    case done =>
      intro W ⟨hi1, hi2, hi3⟩ hK
      have hr : nameB s.data.toList labels bytes = true := by rw [Hn.out, ← hi1, List.take_length]
      have hc := hi2.cell; have hfz := hi2.frozen
      have HB := Lib.hid hi2; have HR := Lib.hid hr; have HK := Lib.hid hK
      clear hi1 hi2 hr hK hz b0 b1 b2 b3 hB
      gi_wp2
      have hk2 : (W.setCell ⟨w.heap.size, 0, none⟩ (.bool true)).heap[W0.heap.size]? = some (.deferred (some [])) := (Below.heap_setCell _ _ _ _ (by have := Hz.out; simp; omega)).trans HK.out
      have hq := boxed_putObj (HB.out.set (.bool true)) (D := W0.heap.size) (by have := Hz.out; omega) (.deferred none)
      have hqc := hq.cell
      refine leave_mark hk2 (v := .bool true) (by simp [results, Tryd.results56, go_sem, hqc]) ⟨by rw [HR.out], ?_⟩
      exact below_putObj (hi3.setCell (p := ⟨w.heap.size, 0, none⟩) (Nat.le_refl _) _) (by have := Hz.out; omega) (by have := hi3.size; simp [World.setCell]; omega) _
    case stop =>
      rintro c k W hk ⟨rfl, hi1, hi2, hi3⟩ hK
      have hr : nameB s.data.toList labels bytes = false := by rw [Hn.out, hi1]
      have hq := boxed_putObj hi2 (D := W0.heap.size) (by have := Hz.out; omega) (.deferred none)
      have hqc := hq.cell
      have HR := Lib.hid hr; have HK := Lib.hid hK; have HQ := Lib.hid hqc
      clear hi1 hi2 hr hK hz b0 b1 b2 b3 hB hqc
      gi_wp2
      have hqc := HQ.out
      refine leave_mark HK.out (v := .bool false) (by simp [results, Tryd.results56, go_sem, hqc]) ⟨by rw [HR.out], ?_⟩
      exact below_putObj hi3 (by have := Hz.out; omega) (by have := hi3.size; omega) _
  · have h : bytes < s.size := by omega
    exact ⟨.bool false, by simp [results, Tryd.results56, go_sem], by rw [name_no (.inl h)], (Below.refl _ _).alloc (Nat.le_refl _) _⟩
end Go.Proofs.YtjjkonaopmipoaaDoor
