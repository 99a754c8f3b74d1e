/- Walks of the program's functions on names: the inner ones. Walks: strings.SplitSeq, its iterator, names.name, names.is, names.Check. Walks: names.is, Check, pattern, Pattern, Up, above, below, Under, Match, Within. Slices of one-cell elements: what a value reads as, and how an append of one's own grows it. Walks: the document's functions on names. Walks: names.above, below, Under, Match, Within. -/
import Derived.Test.YteemkkmkkgfofaaGreatDoorM01
import Derived.Test.YteemkkmkkgfofaaGreatDoorM03
import Derived.Test.YteemkkmkkgfofaaGreatDoorM05
import Derived.Lib.Hide
namespace Go.Proofs.YteemkkmkkgfofaaGreatDoor
open Go.RowKit Nam
attribute [local go_sem] Oper.semAt_some

set_option maxHeartbeats 400000 in
theorem edge_any (r : Int) (w : World) :
    Calls Tryz.prog 133 #[.int .i32 r] w fun e w' => e = .returned (.bool (edgeR r)) ∧ w' = w := by
  go_enter Tryz.func133, Tryz.ntmps133
  go_wp2
  all_goals (go_ret; refine ⟨ret_bool ?_, rfl⟩; rw [Bool.eq_iff_iff]; simp [edgeR]; try omega)
set_option maxHeartbeats 400000 in
theorem inner_any (r : Int) (w : World) :
    Calls Tryz.prog 134 #[.int .i32 r] w fun e w' => e = .returned (.bool (innerR r)) ∧ w' = w := by
  by_cases h : r = 45
  all_goals
    have h2 : (r == 45) = decide (r = 45) := rfl
    simp only [h, decide_true, decide_false] at h2
    go_enter Tryz.func134, Tryz.ntmps134
    go_wp2_with (go_at_call 133; refine (edge_any _ _).mono ?_; rintro e w' ⟨rfl, rfl⟩)
    go_ret
    exact ⟨ret_bool (by simp [innerR, h]), rfl⟩
set_option maxHeartbeats 400000 in
theorem told_any (b : Bool) (w : World) :
    Calls Tryz.prog 61 #[.bool b] w fun e w' => e = .returned (.int .i64 (okOr 110 b)) ∧ w = w' := by
  cases b
  all_goals
    go_enter Tryz.func61, Tryz.ntmps61
    go_wp2
    go_ret
    exact ⟨rfl, rfl⟩

theorem width_pos (s : ByteArray) (pos : Nat) (h : pos < s.size) : 1 ≤ (Utf8.decode s pos).2 := by
  by_cases ha : (s[pos]'h).toNat < 128
  · rw [decode_ascii s pos h ha]
    exact Nat.le_refl _
  · exact (decode_high s pos h (by omega)).2
theorem okR_high {n k : Nat} {r : Int} (h : 128 ≤ r) : okR n k r = false := by
  have h1 : edgeR r = false := by unfold edgeR; rw [Bool.eq_false_iff]; simp; omega
  have h2 : (r == 45) = false := by rw [beq_eq_false_iff_ne]; omega
  have h3 : (r == 95) = false := by rw [beq_eq_false_iff_ne]; omega
  unfold okR innerR; rw [h1, h2, h3]; simp
/-- Up to here all is well. -/
def Good (s : ByteArray) (k : Nat) : Prop := ∀ j, j < k → okR s.size j ((s.data.toList.getD j 0).toNat : Int) = true
def GoodAt (s : ByteArray) (k : Nat) (b : Bool) : Prop := okR s.size k (Utf8.decode s k).1 = b
theorem good_get {s : ByteArray} {k : Nat} (h : k < s.size) : s.data.toList.getD k 0 = s[k] := by
  rw [List.getD_eq_getElem?_getD, Lib.data_getElem? s k h]; rfl
theorem good_step {s : ByteArray} {k : Nat} (hk : k < s.size) (h : Good s k) (ha : GoodAt s k true) : (Utf8.decode s k).2 = 1 ∧ Good s (k + 1) := by
  by_cases hb : (s[k]'hk).toNat < 128
  · have e := decode_ascii s k hk hb
    refine ⟨by rw [e], fun j hj => ?_⟩
    by_cases hjk : j = k
    · subst hjk; unfold GoodAt at ha; rw [e] at ha; rw [good_get hk]; exact ha
    · exact h j (by omega)
  · have := (decode_high s k hk (by omega)).1
    unfold GoodAt at ha
    rw [okR_high (by omega)] at ha; cases ha
theorem good_bad {s : ByteArray} {k : Nat} (hk : k < s.size) (ha : GoodAt s k false) : labelB s.data.toList = false := by
  have hn : okR s.data.toList.length k ((s.data.toList.getD k 0).toNat : Int) = false := by
    rw [good_get hk, ← Lib.size_eq]
    by_cases hb : (s[k]'hk).toNat < 128
    · unfold GoodAt at ha; rw [decode_ascii s k hk hb] at ha; exact ha
    · exact okR_high (by omega)
  unfold labelB
  rw [Bool.and_eq_false_iff]; right
  rw [List.all_eq_false]
  exact ⟨k, by rw [List.mem_range, ← Lib.size_eq]; exact hk, by rw [hn]; simp⟩
theorem good_all {s : ByteArray} (h1 : 1 ≤ s.size) (h2 : s.size ≤ 16) (h : Good s s.size) : labelB s.data.toList = true := by
  unfold labelB
  rw [← Lib.size_eq]
  simp only [Bool.and_eq_true, decide_eq_true_eq, List.all_eq_true, List.mem_range]
  exact ⟨⟨h1, h2⟩, h⟩
theorem label_short {s : ByteArray} (h : s.size = 0 ∨ 16 < s.size) : labelB s.data.toList = false := by
  unfold labelB
  rw [← Lib.size_eq]
  rw [Bool.and_eq_false_iff]; left
  simp; omega
theorem isEmpty_of {s : ByteArray} : s.toList.isEmpty = decide (s.size = 0) := by
  rw [Lib.toList_data, Lib.size_eq]
  cases s.data.toList <;> simp

def LabelEnd (s : ByteArray) (w : World) (e : Ending) (w' : World) : Prop := e = .returned (.bool (labelB s.data.toList)) ∧ Ext w w'
set_option maxHeartbeats 1000000 in
theorem label_any (s : ByteArray) (w : World) (hs : s.size ≤ 9223372036854775807) :
    Calls Tryz.prog 113 #[.string s] w (LabelEnd s w) := by
  have hem := isEmpty_of (s := s)
  by_cases h0 : s.size = 0
  · have e0 : s.toList.isEmpty = true := by rw [hem]; simp [h0]
    clear hem
    have H := Lib.hid h0; clear h0
    go_enter Tryz.func113, Tryz.ntmps113
    go_wp2
    go_ret
    exact ⟨ret_bool (label_short (.inl H.out)).symm, Below.refl _ _⟩
  · by_cases h1 : 16 < s.size
    · have e0 : s.toList.isEmpty = false := by rw [hem]; simp [h0]
      clear hem
      have e2 : 16 < (s.size : Int) := by omega
      go_enter Tryz.func113, Tryz.ntmps113
      go_wp2
      go_ret
      exact ⟨ret_bool (label_short (.inr h1)).symm, Below.refl _ _⟩
    · have e0 : s.toList.isEmpty = false := by rw [hem]; simp [h0]
      clear hem
      have e2 : (s.size : Int) ≤ 16 := by omega
      have e3 : 1 ≤ s.size := by omega
      clear h1 h0 
      go_enter Tryz.func113, Tryz.ntmps113
      go_wp2
      go_loopw [3, 4] (fun i c wr => ∃ k : Nat, k ≤ s.size ∧ wr = w.iter s k ∧ Good s k) (fun _ _ wr => s.size - wr.iterPos w.heap.size)
      case atStart => exact ⟨0, by omega, rfl, fun j hj => absurd hj (Nat.not_lt_zero _)⟩
      case round =>
        obtain ⟨k, hk, rfl, hg⟩ := hrel
        have HG := Lib.hid hg; clear hg
        by_cases hlt : k < s.size
        · have hnx : ∀ ty, (Instr.next (.pointer (some ⟨w.heap.size, 0, none⟩)) true ty).run Tryz.prog (w.iter s k) = _ := fun ty => run_next_any w s k ty hlt
          have hst : GoodAt s k true → (Utf8.decode s k).2 = 1 ∧ Good s (k + 1) := good_step hlt HG.out
          have hbad : GoodAt s k false → labelB s.data.toList = false := good_bad hlt
          obtain ⟨r, hr⟩ : ∃ r : Nat, (Utf8.decode s k).1 = r := ⟨_, rfl⟩
          obtain ⟨d, hd⟩ : ∃ d : Nat, (Utf8.decode s k).2 = d := ⟨_, rfl⟩
          unfold GoodAt at hst hbad
          simp only [hr, hd] at hst hbad hnx
          clear hr hd
          unfold okR at hst hbad
          by_cases hlast : k + 1 = s.size
          · have t1 : ((k : Int) == (s.size : Int) - 1) = true := by rw [beq_iff_eq]; omega
            simp only [hlast, if_true] at hst hbad
            have Hst := Lib.hid hst; have Hbad := Lib.hid hbad; have HL := Lib.hid hlast; clear hst hbad hlast
            go_wp2_with (first | (go_at_call 133; refine (edge_any _ _).mono ?_; rintro e w' ⟨rfl, rfl⟩) | (go_at_call 134; refine (inner_any _ _).mono ?_; rintro e w' ⟨rfl, rfl⟩))
            · have ht : edgeR (r : Int) = true := by assumption
              obtain ⟨hd, hg⟩ := Hst.out ht
              go_roundw
              case rel => exact ⟨k + 1, by omega, by rw [hd], by rw [HL.out]; exact hg⟩
              case measure => simp; omega
            · have ht : edgeR (r : Int) = false := by assumption
              go_ret
              exact ⟨ret_bool (Hbad.out ht).symm, (Below.refl _ _).alloc (Nat.le_refl _) _⟩
          · have t1 : ((k : Int) == (s.size : Int) - 1) = false := by rw [beq_eq_false_iff_ne]; omega
            simp only [hlast, if_false] at hst hbad
            by_cases hz : k = 0
            · subst hz
              have t3 : ((0 : Int) == (s.size : Int) - 1) = false := by rw [beq_eq_false_iff_ne]; omega
              simp only [if_true] at hst hbad
              have Hst := Lib.hid hst; have Hbad := Lib.hid hbad; have HL := Lib.hid hlast; clear hst hbad hlast
              go_wp2_with (first | (go_at_call 133; refine (edge_any _ _).mono ?_; rintro e w' ⟨rfl, rfl⟩) | (go_at_call 134; refine (inner_any _ _).mono ?_; rintro e w' ⟨rfl, rfl⟩))
              · have ht : edgeR (r : Int) = true := by assumption
                obtain ⟨hd, hg⟩ := Hst.out (by rw [ht]; rfl)
                go_roundw
                case rel => exact ⟨1, by omega, by rw [hd], hg⟩
                case measure => simp; omega
              · have ht : ((r : Int) == 95) = true := by assumption
                obtain ⟨hd, hg⟩ := Hst.out (by rw [ht]; simp)
                go_roundw
                case rel => exact ⟨1, by omega, by rw [hd], hg⟩
                case measure => simp; omega
              · have ht : ¬ edgeR (r : Int) = true := by assumption
                have ht2 : ((r : Int) == 95) = false := by assumption
                go_ret
                exact ⟨ret_bool (Hbad.out (by rw [ht2]; simpa using ht)).symm, (Below.refl _ _).alloc (Nat.le_refl _) _⟩
            · have t2 : ((k : Int) == 0) = false := by rw [beq_eq_false_iff_ne]; omega
              simp only [hz, if_false] at hst hbad
              have Hst := Lib.hid hst; have Hbad := Lib.hid hbad; have HL := Lib.hid hlast; clear hst hbad hlast
              go_wp2_with (first | (go_at_call 133; refine (edge_any _ _).mono ?_; rintro e w' ⟨rfl, rfl⟩) | (go_at_call 134; refine (inner_any _ _).mono ?_; rintro e w' ⟨rfl, rfl⟩))
              · have ht : (!innerR (r : Int)) = true := by assumption
                go_ret
                exact ⟨ret_bool (Hbad.out (by simpa using ht)).symm, (Below.refl _ _).alloc (Nat.le_refl _) _⟩
              · have ht : (!innerR (r : Int)) = false := by assumption
                obtain ⟨hd, hg⟩ := Hst.out (by simpa using ht)
                go_roundw
                case rel => exact ⟨k + 1, by omega, by rw [hd], hg⟩
                case measure => simp; omega
        · have hks : k = s.size := by omega
          have hfin : labelB s.data.toList = true := good_all e3 (by omega) (by rw [← hks]; exact HG.out)
          have Hfin := Lib.hid hfin; clear hfin hks
          have hne := fun ty => run_next_end (P := Tryz.prog) w s k ty hlt
          go_wp2
          go_ret
          exact ⟨ret_bool Hfin.out.symm, (Below.refl _ _).alloc (Nat.le_refl _) _⟩
end Go.Proofs.YteemkkmkkgfofaaGreatDoor
namespace Go.Proofs.YteemkkmkkgfofaaGreatDoor
open Go.RowKit Nam
attribute [local go_sem] Oper.semAt_some wide_fn wide_depth wide_some

def strLen (w : World) (b : Nat) : Nat := match w.cell? ⟨b, 0, none⟩ with | some (.string r) => r.size | _ => 0
theorem strLen_boxed {w : World} {b t : Nat} {r : ByteArray} (h : Boxed w b t (.string r)) : strLen w b = r.size := by
  unfold strLen; rw [h.cell]
def encStr (x : Str) : Array Value := #[Value.string ⟨x.toArray⟩]
set_option maxHeartbeats 400000 in
theorem SplitSeq_any (s sep : ByteArray) (w : World) :
    Calls Tryz.prog 112 #[.string s, .string sep] w fun e w' =>
      e = .returned (.func (.func 141) #[] #[.pointer (some ⟨w.heap.size + 1, 0, none⟩), .pointer (some ⟨w.heap.size, 0, none⟩), .pointer (some ⟨w.heap.size + 2, 0, none⟩)]) ∧
      w' = ((w.alloc (.cells #[.string s] 9)).alloc (.cells #[.string sep] 9)).alloc (.cells #[.int .i64 0] 3) := by
  go_enter Tryz.func112, Tryz.ntmps112
  go_wp2
  go_ret
  exact ⟨rfl, rfl⟩
theorem Count_dot (s : ByteArray) (w : World) :
    Calls Tryz.prog 111 #[.string s, .string ⟨#[46]⟩] w fun e w' => e = .returned (.int .i64 (Lib.countByte s.data.toList 46)) ∧ w = w' :=
  (Tryz.strings_Count_one s 46 w).mono fun _ _ ⟨h1, h2⟩ => ⟨h1, h2.symm⟩
theorem Index_dot (s : ByteArray) (x : Int) (h : Lib.indexByte s.data.toList 46 = x) (w : World) :
    Calls Tryz.prog 131 #[.string s, .string ⟨#[46]⟩] w fun e w' => e = .returned (.int .i64 x) ∧ w = w' :=
  (Tryz.strings_Index_one s 46 w).mono fun _ _ ⟨h1, h2⟩ => ⟨by rw [h1, h], h2.symm⟩
theorem index_lt {l : Str} {i : Nat} (h : Lib.indexByte l 46 = i) : i < l.length := by
  have := (Lib.indexByte_some h).1
  exact (List.getElem?_eq_some_iff.1 this).1
theorem cut_at {s r : ByteArray} {k : Nat} {x : Str} {t : List Str} (h : (cut s.data.toList).drop k = cut r.data.toList) (hr : cut r.data.toList = x :: t) :
    (cut s.data.toList)[k]? = some x ∧ (cut s.data.toList).drop (k + 1) = t ∧ (cut s.data.toList).length = k + 1 + t.length := by
  rw [hr] at h
  have h1 : (cut s.data.toList)[k]? = some x := by
    have := congrArg (fun l => l[0]?) h
    simpa using this
  have hk := (List.getElem?_eq_some_iff.1 h1).1
  have hl := congrArg List.length h
  simp at hl
  refine ⟨h1, ?_, by omega⟩
  rw [← List.drop_drop, h]; rfl
set_option maxHeartbeats 1000000 in
theorem splitSeq_iter (s : ByteArray) (b : Nat) (hs : s.size ≤ 9223372036854775807) :
    Iter Tryz.prog 141 #[.pointer (some ⟨b + 1, 0, none⟩), .pointer (some ⟨b, 0, none⟩), .pointer (some ⟨b + 2, 0, none⟩)] encStr (cut s.data.toList)
      (fun W => Boxed W b 9 (.string s) ∧ Boxed W (b + 1) 9 (.string ⟨#[46]⟩) ∧ Boxed W (b + 2) 3 (.int .i64 0))
      (fun k => k = b) (fun k => k = b ∨ k = b + 1 ∨ k = b + 2) := by
  intro l J Jx W hOk hJ hJx hY h0
  refine callsIn_of_wp Tryz.func141 rfl trivial ?_ rfl
  simp only [Tryz.ntmps141, List.size_toArray, List.length_cons, List.length_nil, Nat.reduceAdd, Nat.reduceSub, Array.replicate_succ, Array.replicate_zero, List.push_toArray, List.append_toArray, List.nil_append, List.cons_append]
  have HOk := Lib.hid hOk
  obtain ⟨hb0, hb1, hb2⟩ := hOk
  have c0 := hb0.cell; have c1 := hb1.cell; have c2 := hb2.cell
  have hsz : b + 2 < W.heap.size := hb2.lt
  clear hb0 hb1 hb2
  have HJ := Lib.hid hJ; have HJx := Lib.hid hJx; have HY := Lib.hid hY; have H0 := Lib.hid h0
  clear hJ hJx hY h0
  gi_wp2
  gi_loopw [7] (fun i wr => ∃ (k : Nat) (r : ByteArray), r.size ≤ s.size ∧ (cut s.data.toList).drop k = cut r.data.toList ∧ Boxed wr b 9 (.string r) ∧ Boxed wr (b + 1) 9 (.string ⟨#[46]⟩) ∧ Boxed wr (b + 2) 3 (.int .i64 0) ∧ J k wr) (fun _ wr => strLen wr b)
  case atStart => exact ⟨0, s, Nat.le_refl _, rfl, HOk.out.1, HOk.out.2.1, HOk.out.2.2, H0.out⟩
  case round =>
    obtain ⟨k, r, hr, hcut, g0, g1, g2, hj⟩ := hrel
    have Hcut := Lib.hid hcut; have Hj := Lib.hid hj
    clear hcut hj c0 c1 c2
    have d0 := g0.cell; have d1 := g1.cell; have d2 := g2.cell
    have G0 := Lib.hid g0; have G1 := Lib.hid g1; have G2 := Lib.hid g2; clear g0 g1 g2
    rcases (show Lib.indexByte r.data.toList 46 < 0 ∨ 0 ≤ Lib.indexByte r.data.toList 46 by omega) with hneg | hpos
    · have hix : Lib.indexByte r.data.toList 46 = -1 := by have := Lib.indexByte_ge r.data.toList 46; omega
      obtain ⟨hx, hd, hl⟩ := cut_at Hcut.out (cut_none _ hix)
      have HX := Lib.hid hx; have HL := Lib.hid hl; have HI := Lib.hid hix
      clear hx hd hl hix hneg
      obtain ⟨fn, tmps, assign, body, hy, hR⟩ := HY.out k _ wr HX.out Hj.out
      have HR := Lib.hid hR; clear hR
      unfold encStr at hy; rw [eta] at hy
      gi_wp2_with (gi_at_call 131; refine (callsIn_wide.2 (Index_dot _ _ HI.out _)).mono ?_; rintro e w' ⟨rfl, rfl⟩)
      refine HR.out.mono ?_
      rintro e W' (⟨rfl, hJ', hk⟩ | ⟨rfl, hJx'⟩)
      · gi_wp2
        go_end0
        exact ⟨⟨_, rfl⟩, .inl (by rw [HL.out]; exact hJ')⟩
      · gi_wp2
        go_end0
        exact ⟨⟨_, rfl⟩, .inr ⟨k + 1, by rw [HL.out]; simp, hJx'⟩⟩
    · obtain ⟨i, hix⟩ := Int.eq_ofNat_of_zero_le hpos
      have hlt := index_lt hix
      rw [← Lib.size_eq] at hlt
      obtain ⟨hx, hd, hl⟩ := cut_at Hcut.out (cut_some _ i hix)
      have HX := Lib.hid hx; have HL := Lib.hid hl; have HI := Lib.hid hix; have HD := Lib.hid hd
      clear hx hd hl hix hpos
      obtain ⟨fn, tmps, assign, body, hy, hR⟩ := HY.out k _ wr HX.out Hj.out
      have HR := Lib.hid hR; clear hR
      unfold encStr at hy; rw [← take_eq] at hy
      gi_wp2_with (gi_at_call 131; refine (callsIn_wide.2 (Index_dot _ _ HI.out _)).mono ?_; rintro e w' ⟨rfl, rfl⟩)
      refine HR.out.mono ?_
      rintro e W' (⟨rfl, hJ', hk⟩ | ⟨rfl, hJx'⟩)
      · have g0 := hk.boxed G0.out (by simp); have g1 := hk.boxed G1.out (by simp); have g2 := hk.boxed G2.out (by simp)
        have e0 := g0.cell; have e1 := g1.cell; have e2 := g2.cell; have f0 := g0.frozen
        have K0 := Lib.hid g0; have K1 := Lib.hid g1; have K2 := Lib.hid g2; have HJ' := Lib.hid hJ'; clear g0 g1 g2 hk hJ'
        gi_wp2
        go_roundw
        case rel =>
          have hF : Fr (fun k => k = b) W' (W'.setCell ⟨b, 0, none⟩ (.string (r.extract (i + 1) r.size))) := Fr.setCell W' ⟨b, 0, none⟩ _ rfl
          exact ⟨k + 1, r.extract (i + 1) r.size, by simp; omega, by rw [drop_eq]; exact HD.out, K0.out.set _, hF.boxed K1.out (by omega), hF.boxed K2.out (by omega), HJ.out _ _ _ HJ'.out hF⟩
        case measure =>
          rw [strLen_boxed (K0.out.set _), strLen_boxed G0.out]
          simp; omega
      · gi_wp2
        refine bodyPost_ret (results_none rfl _ _ _) rfl ?_
        exact ⟨⟨_, rfl⟩, .inr ⟨k + 1, by rw [HL.out]; omega, hJx'⟩⟩
theorem name_no {s : ByteArray} {labels bytes : Nat} (h : bytes < s.size ∨ labels ≤ Lib.countByte s.data.toList 46) : nameB s.data.toList labels bytes = false := by
  have := cut_length s.data.toList
  rw [Lib.size_eq] at h
  unfold nameB
  rcases h with h | h
  · rw [decide_eq_false (by omega)]; rfl
  · rw [decide_eq_false (p := (cut s.data.toList).length ≤ labels) (by omega)]; simp
theorem name_yes {s : ByteArray} {labels bytes : Nat} (h1 : s.size ≤ bytes) (h2 : ¬ labels ≤ Lib.countByte s.data.toList 46) : nameB s.data.toList labels bytes = (cut s.data.toList).all labelB := by
  have := cut_length s.data.toList
  rw [Lib.size_eq] at h1
  unfold nameB
  rw [decide_eq_true h1, decide_eq_true (by omega)]; rfl
theorem all_no {l : List Str} {k : Nat} {x : Str} (h : l[k]? = some x) (hx : labelB x = false) : l.all labelB = false := by
  rw [List.all_eq_false]; exact ⟨x, List.mem_of_getElem? h, by rw [hx]; simp⟩
theorem all_step {l : List Str} {k : Nat} {x : Str} (h : l[k]? = some x) (hx : labelB x = true) (hk : (l.take k).all labelB = true) : (l.take (k + 1)).all labelB = true := by
  have hk' := (List.getElem?_eq_some_iff.1 h)
  obtain ⟨h1, h2⟩ := hk'
  rw [List.take_succ_eq_append_getElem h1, List.all_append, hk, h2]; simp [hx]
theorem mem_cut_len : ∀ (l : Str) (x : Str), x ∈ cut l → x.length ≤ l.length
  | [], x, h => by simp [cut] at h; simp [h]
  | c :: t, x, h => by
    unfold cut at h
    split at h
    · rcases List.mem_cons.1 h with rfl | h
      · simp
      · have := mem_cut_len t x h; simp; omega
    · split at h
      · simp at h; simp [h]
      · rename_i h0 r0 he
        rcases List.mem_cons.1 h with rfl | h
        · have := mem_cut_len t h0 (by rw [he]; simp); simp; omega
        · have := mem_cut_len t x (by rw [he]; simp [h]); simp; omega
theorem label_size {s : ByteArray} {k : Nat} {x : Str} (hs : s.size ≤ 9223372036854775807) (h : (cut s.data.toList)[k]? = some x) : (⟨x.toArray⟩ : ByteArray).size ≤ 9223372036854775807 := by
  have := mem_cut_len _ x (List.mem_of_getElem? h)
  rw [← Lib.size_eq] at this
  show x.toArray.size ≤ _
  simp; omega
def NameEnd (s : ByteArray) (labels bytes : Nat) (w : World) (e : Ending) (w' : World) : Prop := e = .returned (.bool (nameB s.data.toList labels bytes)) ∧ Ext w w'
set_option maxHeartbeats 1000000 in
theorem name_any (s : ByteArray) (labels bytes : Nat) (w : World) (hs : s.size ≤ 9223372036854775807) (_ : bytes ≤ 1000) (_ : labels ≤ 1000) :
    Calls Tryz.prog 87 #[.string s, .int .i64 labels, .int .i64 bytes] w (NameEnd s labels bytes w) := by
  refine (callsIn_wide (n := 0)).1 ?_
  refine callsIn_of_wp_marks Tryz.func87 rfl trivial ?_ rfl
  simp only [Tryz.ntmps87, List.size_toArray, List.length_cons, List.length_nil, Nat.reduceAdd, Nat.reduceSub, Array.replicate_succ, Array.replicate_zero, List.push_toArray, List.append_toArray, List.nil_append, List.cons_append]
  gi_wp2_with (first | (gi_at_call 111; refine (callsIn_wide.2 (Count_dot _ _)).mono ?_; rintro e w' ⟨rfl, rfl⟩) | (gi_at_call 112; refine (callsIn_wide.2 (SplitSeq_any _ _ _)).mono ?_; rintro e w' ⟨rfl, rfl⟩))
  · have h : labels ≤ Lib.countByte s.data.toList 46 := by omega
    exact ⟨.bool false, by simp [results, Tryz.results87, go_sem], by rw [name_no (.inr h)], (Below.refl _ _).alloc (Nat.le_refl _) _⟩
  · have h1 : s.size ≤ bytes := by assumption
    have h2 : ¬ labels ≤ Lib.countByte s.data.toList 46 := by omega
    have Hn := Lib.hid (name_yes h1 h2)
    obtain ⟨W0, hW0⟩ : ∃ W0, (((w.alloc (Obj.cells #[Value.bool false] 4)).alloc (Obj.cells #[Value.string s] 9)).alloc (Obj.cells #[Value.string { data := #[46] }] 9)).alloc (Obj.cells #[Value.int IntKind.i64 0] 3) = W0 := ⟨_, rfl⟩
    have hB : Below w.heap.size w W0 := by rw [← hW0]; exact ((((Below.refl _ _).alloc (Nat.le_refl _) _).alloc (by simp) _).alloc (by simp; omega) _).alloc (by simp; omega) _
    have b0 : Boxed W0 w.heap.size 4 (.bool false) := by rw [← hW0]; exact (((Boxed.new _ _ _).alloc _).alloc _).alloc _
    have b1 : Boxed W0 (w.heap.size + 1) 9 (.string s) := by rw [← hW0]; have := ((Boxed.new (w.alloc (Obj.cells #[Value.bool false] 4)) 9 (.string s)).alloc (Obj.cells #[Value.string { data := #[46] }] 9)).alloc (Obj.cells #[Value.int IntKind.i64 0] 3); rwa [World.size_alloc] at this
    have b2 : Boxed W0 (w.heap.size + 1 + 1) 9 (.string ⟨#[46]⟩) := by rw [← hW0]; have := (Boxed.new ((w.alloc (Obj.cells #[Value.bool false] 4)).alloc (Obj.cells #[Value.string s] 9)) 9 (.string ⟨#[46]⟩)).alloc (Obj.cells #[Value.int IntKind.i64 0] 3); rwa [World.size_alloc, World.size_alloc] at this
    have b3 : Boxed W0 (w.heap.size + 1 + 2) 3 (.int .i64 0) := by rw [← hW0]; have := Boxed.new (((w.alloc (Obj.cells #[Value.bool false] 4)).alloc (Obj.cells #[Value.string s] 9)).alloc (Obj.cells #[Value.string { data := #[46] }] 9)) 3 (.int .i64 0); rwa [World.size_alloc, World.size_alloc, World.size_alloc] at this
    have hz : W0.heap.size = w.heap.size + 4 := by rw [← hW0]; simp
    rw [hW0]
    clear hW0
    have Hz := Lib.hid hz; clear hz
    have hz := Hz.out
    refine range_law rfl (enters_of Tryz.func141 (by kernel_rfl) rfl) (splitSeq_iter s (w.heap.size + 1) hs)
      (fun o1 o2 => ⟨(b1.alloc _).alloc _, (b2.alloc _).alloc _, (b3.alloc _).alloc _⟩) (fun b hb => by omega) (fun b hb => by omega) (fun x => rfl)
      (fun b => b = w.heap.size) (fun b hb => by omega) (fun b hb => by omega)
      (fun k W => ((cut s.data.toList).take k).all labelB = true ∧ Boxed W w.heap.size 4 (.bool false) ∧ Below w.heap.size w W)
      (fun c k W => c = .ret ∧ (cut s.data.toList).all labelB = false ∧ Boxed W w.heap.size 4 (.bool false) ∧ Below w.heap.size w W)
      ?stI ?stX ⟨rfl, b0, hB⟩ ?round ?done ?stop
    case stI =>
      intro k A B ⟨h1, h2, h3⟩ hf
      exact ⟨h1, hf.boxed h2 (by omega), h3.trans (hf.below h3.size (by omega))⟩
    case stX =>
      intro c k A B ⟨h0, h1, h2, h3⟩ hf
      exact ⟨h0, h1, hf.boxed h2 (by omega), h3.trans (hf.below h3.size (by omega))⟩
    case round =>
      rintro l k x W hx rfl hW ⟨hi1, hi2, hi3⟩
      have HX := Lib.hid hx; clear hx hz
      have hxs := label_size hs HX.out
      unfold encStr
      gi_wp2
      refine ⟨Fr.refl _ _, ⟨hi1, hi2, hi3⟩, ?_⟩
      rintro Wb ⟨j1, j2, j3⟩ hf hzz
      have J1 := Lib.hid j1; clear j1
      have hc := j2.cell; have hfz := j2.frozen
      have H2 := Lib.hid j2; clear j2 hi1 hi2 hi3 hf hzz hW
      gi_wp2_with (gi_at_call 113; refine (CallsIn.inRound _ (callsIn_wide.2 (label_any _ _ hxs))).mono ?_; rintro e W2 ⟨rfl, hE⟩; have q2 := ext_boxed hE H2.out; have hc2 := q2.cell; have hf2 := q2.frozen; have Q2 := Lib.hid q2; clear q2)
      · have ht : (!labelB x) = true := by assumption
        have hst : Fr (fun b => b = w.heap.size) Wb (W2.setCell ⟨w.heap.size, 0, none⟩ (.bool false)) := (Fr.of_ext hE).trans (Fr.setCell _ _ _ rfl)
        exact ⟨hst, rfl, all_no HX.out (by simpa using ht), Q2.out.set _, j3.trans (hst.below j3.size (by omega))⟩
      · have ht : (!labelB x) = false := by assumption
        exact ⟨Fr.of_ext hE, all_step HX.out (by simpa using ht) J1.out, Q2.out, j3.trans (hE.mono j3.size)⟩
    case done =>
      intro W ⟨hi1, hi2, hi3⟩ hK
      have hr : nameB s.data.toList labels bytes = true := by rw [Hn.out, ← hi1, List.take_length]
      have hc := hi2.cell; have hfz := hi2.frozen
      have HB := Lib.hid hi2; have HR := Lib.hid hr; have HK := Lib.hid hK
      clear hi1 hi2 hr hK hz b0 b1 b2 b3 hB
      gi_wp2
      have hk2 : (W.setCell ⟨w.heap.size, 0, none⟩ (.bool true)).heap[W0.heap.size]? = some (.deferred (some [])) := (Below.heap_setCell _ _ _ _ (by have := Hz.out; simp; omega)).trans HK.out
      have hq := boxed_putObj (HB.out.set (.bool true)) (D := W0.heap.size) (by have := Hz.out; omega) (.deferred none)
      have hqc := hq.cell
      refine leave_mark hk2 (v := .bool true) (by simp [results, Tryz.results87, go_sem, hqc]) ⟨by rw [HR.out], ?_⟩
      exact below_putObj (hi3.setCell (p := ⟨w.heap.size, 0, none⟩) (Nat.le_refl _) _) (by have := Hz.out; omega) (by have := hi3.size; simp [World.setCell]; omega) _
    case stop =>
      rintro c k W hk ⟨rfl, hi1, hi2, hi3⟩ hK
      have hr : nameB s.data.toList labels bytes = false := by rw [Hn.out, hi1]
      have hq := boxed_putObj hi2 (D := W0.heap.size) (by have := Hz.out; omega) (.deferred none)
      have hqc := hq.cell
      have HR := Lib.hid hr; have HK := Lib.hid hK; have HQ := Lib.hid hqc
      clear hi1 hi2 hr hK hz b0 b1 b2 b3 hB hqc
      gi_wp2
      have hqc := HQ.out
      refine leave_mark HK.out (v := .bool false) (by simp [results, Tryz.results87, go_sem, hqc]) ⟨by rw [HR.out], ?_⟩
      exact below_putObj hi3 (by have := Hz.out; omega) (by have := hi3.size; omega) _
  · have h : bytes < s.size := by omega
    exact ⟨.bool false, by simp [results, Tryz.results87, go_sem], by rw [name_no (.inl h)], (Below.refl _ _).alloc (Nat.le_refl _) _⟩
end Go.Proofs.YteemkkmkkgfofaaGreatDoor
namespace Go.Proofs.YteemkkmkkgfofaaGreatDoor
open Go.RowKit Nam
attribute [local go_sem] Oper.semAt_some wide_fn wide_depth wide_some

theorem size_bs (l : Str) : (⟨l.toArray⟩ : ByteArray).size = l.length := by rw [Lib.size_eq]
theorem eqs_of (a b : ByteArray) : (a.toList == b.toList) = (a.data.toList == b.data.toList) := by rw [Lib.toList_data, Lib.toList_data]
set_option maxHeartbeats 400000 in
theorem is_any (s : ByteArray) (w : World) (hs : s.size ≤ 9223372036854775807) :
    Calls Tryz.prog 85 #[.string s] w (Ret (.bool (isB s.data.toList)) w) := by
  go_enter Tryz.func85, Tryz.ntmps85
  go_wp2_with (go_at_call 87; refine (name_any s 8 64 _ hs (by omega) (by omega)).mono ?_; rintro e w' ⟨rfl, hE⟩)
  go_ret
  exact ⟨rfl, hE⟩
theorem CutPrefix_star (s : ByteArray) (w : World) (b : Bool) (h : Lib.hasPrefix s.data.toList [42, 46] = b) :
    Calls Tryz.prog 86 #[.string s, .string ⟨#[42, 46]⟩] w fun e w' => e = .returned (.tuple #[.string ⟨(if b then s.data.toList.drop 2 else s.data.toList).toArray⟩, .bool b]) ∧ w = w' :=
  (Tryz.strings_CutPrefix s ⟨#[42, 46]⟩ w).mono fun e w' ⟨h1, h2⟩ => ⟨by rw [h1]; simp [Lib.trimPrefix, h], h2.symm⟩
set_option maxHeartbeats 400000 in
theorem pattern_any (s : ByteArray) (w : World) (hs : s.size ≤ 9223372036854775807) :
    Calls Tryz.prog 60 #[.string s] w (Ret (.tuple #[.string ⟨(pattern s.data.toList).1.toArray⟩, .bool (pattern s.data.toList).2.1, .bool (pattern s.data.toList).2.2]) w) := by
  have hd : (⟨(s.data.toList.drop 2).toArray⟩ : ByteArray).size ≤ 9223372036854775807 := by
    rw [size_bs, List.length_drop, ← Lib.size_eq]; omega
  have hp : ∀ b, Lib.hasPrefix s.data.toList [42, 46] = b → isB s.data.toList = false → pattern s.data.toList = if b then (s.data.toList.drop 2, true, nameB (s.data.toList.drop 2) 7 62) else (s.data.toList, false, false) := by
    intro b h1 h2
    unfold pattern; rw [h2, h1]; rfl
  have hq : isB s.data.toList = true → pattern s.data.toList = (s.data.toList, false, true) := by
    intro h; unfold pattern; rw [if_pos h]
  have HP := Lib.hid hp; have HQ := Lib.hid hq; clear hp hq
  cases hb : Lib.hasPrefix s.data.toList [42, 46]
  all_goals
    have HB := Lib.hid hb; clear hb
    go_enter Tryz.func60, Tryz.ntmps60
    go_wp2_with (first | (go_at_call 85; refine (is_any s _ hs).mono ?_; rintro e w' ⟨rfl, hE⟩) | (go_at_call 86; refine (CutPrefix_star _ _ _ HB.out).mono ?_; rintro e w' ⟨rfl, rfl⟩) | (go_at_call 87; refine (name_any _ 7 62 _ hd (by omega) (by omega)).mono ?_; rintro e w' ⟨rfl, hE2⟩))
  · have h : isB s.data.toList = true := by assumption
    go_ret3
    exact ⟨by rw [HQ.out h, eta]; rfl, hE⟩
  · have h : isB s.data.toList = false := by assumption
    go_ret3
    exact ⟨by rw [HP.out _ HB.out h, if_neg (by simp), eta]; rfl, hE⟩
  · have h : isB s.data.toList = true := by assumption
    go_ret3
    exact ⟨by rw [HQ.out h, eta]; rfl, hE⟩
  · have h : isB s.data.toList = false := by assumption
    go_ret3
    exact ⟨by rw [HP.out _ HB.out h, if_pos rfl]; rfl, ext_trans hE hE2⟩
set_option maxHeartbeats 400000 in
theorem Pattern_any (s : ByteArray) (w : World) (hs : s.size ≤ 9223372036854775807) :
    Calls Tryz.prog 35 #[.string s] w (Ret (.int .i64 (okOr 110 (pattern s.data.toList).2.2)) w) := by
  go_enter Tryz.func35, Tryz.ntmps35
  go_wp2_with (first | (go_at_call 60; refine (pattern_any s _ hs).mono ?_; rintro e w' ⟨rfl, hE⟩) | (go_at_call 61; refine (told_any _ _).mono ?_; rintro e w' ⟨rfl, rfl⟩))
  go_ret
  exact ⟨rfl, hE⟩
theorem cut_dot (l : Str) : (Lib.cut l [46]).2.1 = afterDot l := by
  unfold Lib.cut
  rw [Lib.index_one]
  by_cases h : 0 ≤ Lib.indexByte l 46
  · obtain ⟨i, hi⟩ := Int.eq_ofNat_of_zero_le h
    rw [if_pos h, afterDot_some l i hi, hi]; rfl
  · have : Lib.indexByte l 46 = -1 := by have := Lib.indexByte_ge l 46; omega
    rw [if_neg h, afterDot_none l this]
/-- The library's variable holds a number. -/
def Env (w : World) : Prop := ∃ m, w.cell? ⟨2, 0, none⟩ = some (.int .i64 m)
theorem cell_lt {w : World} {p : Addr} {v : Value} (h : w.cell? p = some v) : p.block < w.heap.size := by
  unfold World.cell? at h
  rcases Nat.lt_or_ge p.block w.heap.size with h1 | h1
  · exact h1
  · rw [Array.getElem?_eq_none h1] at h; cases h
theorem Env.ext {w w' : World} (h : Env w) (hE : Ext w w') : Env w' := by
  obtain ⟨m, hm⟩ := h
  exact ⟨m, (hE.cell (cell_lt hm)).trans hm⟩
end Go.Proofs.YteemkkmkkgfofaaGreatDoor
namespace Go.Proofs.YteemkkmkkgfofaaGreatDoor
open Go.RowKit

/-- From cell off of block b on there lie vs. -/
def Cells (w : World) (b off : Nat) (vs : List Value) : Prop := ∀ i x, vs[i]? = some x → w.cell? ⟨b, off + i, none⟩ = some x
theorem cell_lt' {w : World} {p : Addr} {v : Value} (h : w.cell? p = some v) : p.block < w.heap.size := by
  unfold World.cell? at h
  rcases Nat.lt_or_ge p.block w.heap.size with h1 | h1
  · exact h1
  · rw [Array.getElem?_eq_none h1] at h; cases h
theorem Cells.ext {w w' : World} {b off : Nat} {vs : List Value} (h : Cells w b off vs) (hE : Ext w w') : Cells w' b off vs :=
  fun i x hx => (hE.cell (p := ⟨b, off + i, none⟩) (cell_lt' (h i x hx))).trans (h i x hx)
theorem Cells.fr {S : Nat → Prop} {w w' : World} {b off : Nat} {vs : List Value} (h : Cells w b off vs) (hF : Fr S w w') (hb : ¬ S b) : Cells w' b off vs :=
  fun i x hx => (hF.cell (p := ⟨b, off + i, none⟩) (cell_lt' (h i x hx)) hb).trans (h i x hx)
theorem Cells.drop {w : World} {b off : Nat} {vs : List Value} (h : Cells w b off vs) (k : Nat) : Cells w b (off + k) (vs.drop k) := fun i x hx => by
  rw [List.getElem?_drop] at hx
  have := h (k + i) x hx
  rwa [← Nat.add_assoc] at this
/-- v is a slice that reads as vs. -/
def Sl (w : World) (v : Value) (vs : List Value) : Prop :=
  (vs = [] ∧ v = .slice none 0 0) ∨ ∃ b off cap, v = .slice (some ⟨b, off, none⟩) vs.length cap ∧ vs.length ≤ cap ∧ cap ≤ maxLen ∧ Cells w b off vs
theorem Sl.nil (w : World) : Sl w (.slice none 0 0) [] := .inl ⟨rfl, rfl⟩
theorem Sl.ext {w w' : World} {v : Value} {vs : List Value} (h : Sl w v vs) (hE : Ext w w') : Sl w' v vs := by
  rcases h with h | ⟨b, off, cap, h1, h2, h3, h4⟩
  · exact .inl h
  · exact .inr ⟨b, off, cap, h1, h2, h3, h4.ext hE⟩
theorem Sl.own {w : World} {base : Nat} {e : TypeId} {v : Value} {n : Nat} {xs : List Value} (h : w.ownsRow base e 1 v n xs) : Sl w v xs := by
  obtain ⟨h0, h1⟩ := h
  rcases h1 with ⟨hv, hn⟩ | ⟨g, cap, cur, hv, hg, hh, hc, hm, hcs, hx⟩
  · subst hn; exact .inl ⟨List.eq_nil_of_length_eq_zero (by omega), hv⟩
  · refine .inr ⟨g, 0, cap, by rw [hv]; congr 1; omega, by omega, hm, fun i x hi => ?_⟩
    rw [← hx, List.getElem?_take] at hi
    split at hi
    · simp only [World.cell?, hh]; simpa using hi
    · cases hi
theorem Sl.form {w : World} {v : Value} {vs : List Value} (h : Sl w v vs) : ∃ a cap, v = .slice a vs.length cap := by
  rcases h with ⟨rfl, rfl⟩ | ⟨b, off, cap, rfl, _⟩
  · exact ⟨_, _, rfl⟩
  · exact ⟨_, _, rfl⟩
theorem Ext.grown {A w w' : World} {row : Option Nat} (h : Ext A w) (hg : w.grownBy w' row) (hr : ∀ k, row = some k → A.heap.size ≤ k) : Ext A w' := Below.grown h hg h.size hr
theorem own_ge {w : World} {base : Nat} {e : TypeId} {size : Nat} {v : Value} {n : Nat} {xs : List Value} (h : w.ownsRow base e size v n xs) : ∀ k, v.ownBlock = some k → base ≤ k :=
  fun k hk => (h.lt k hk).1
theorem one_cell_new (w : World) (v : Value) (t : TypeId) : ∀ (j : Nat) (u : Value), [v][j]? = some u → (w.alloc (.cells #[v] t)).cell? ((⟨w.heap.size, 0, none⟩ : Addr).add j) = some u := by
  intro j u h
  cases j with
  | zero => simp at h; subst h; simp [Addr.add, go_sem]
  | succ j => simp at h
end Go.Proofs.YteemkkmkkgfofaaGreatDoor
namespace Go.Proofs.YteemkkmkkgfofaaGreatDoor
open Go.RowKit Nam

set_option maxHeartbeats 400000 in
theorem word_any (r : Int) (w : World) :
    Calls Tryz.prog 118 #[.int .u8 r] w fun e w' => e = .returned (.bool (edgeR r)) ∧ w = w' := by
  go_enter Tryz.func118, Tryz.ntmps118
  go_wp2
  all_goals (go_ret; refine ⟨ret_bool ?_, rfl⟩; rw [Bool.eq_iff_iff]; simp [edgeR]; try omega)
theorem inner_of_edge {r : Int} (h : edgeR r = true) : innerR r = true := by unfold innerR; rw [h]; simp
theorem labelB_iff {s : ByteArray} (g1 : 1 ≤ s.size) (g2 : s.size ≤ 16) : labelB s.data.toList = true ↔
    edgeR (((s.data.toList.getD (s.size - 1) 0).toNat : Nat) : Int) = true ∧ (edgeR (((s.data.toList.getD 0 0).toNat : Nat) : Int) = true ∨ (s.data.toList.getD 0 0).toNat = 95) ∧
    ∀ j, 1 ≤ j → j < s.size → innerR (((s.data.toList.getD j 0).toNat : Nat) : Int) = true := by
  have hiff : labelB s.data.toList = true ↔ ∀ j, j < s.size → okR s.size j ((s.data.toList.getD j 0).toNat : Int) = true := by
    unfold labelB
    rw [← Lib.size_eq]
    simp only [Bool.and_eq_true, decide_eq_true_eq, List.all_eq_true, List.mem_range]
    exact ⟨fun h => h.2, fun h => ⟨⟨g1, g2⟩, h⟩⟩
  rw [hiff]
  constructor
  · intro h
    refine ⟨?_, ?_, fun j h1 h2 => ?_⟩
    · have := h (s.size - 1) (by omega)
      unfold okR at this; rwa [if_pos (by omega)] at this
    · have := h 0 (by omega)
      unfold okR at this
      split at this
      · exact .inl this
      · rw [if_pos rfl] at this
        rcases Bool.or_eq_true _ _ ▸ this with h | h
        · exact .inl h
        · right; have := beq_iff_eq.1 h; omega
    · have := h j h2
      unfold okR at this
      split at this
      · exact inner_of_edge this
      · rwa [if_neg (by omega)] at this
  · rintro ⟨h1, h2, h3⟩ j hj
    unfold okR
    split
    · rename_i he
      obtain rfl : j = s.size - 1 := by omega
      exact h1
    · split
      · rename_i h0; subst h0
        rcases h2 with h2 | h2
        · rw [h2]; rfl
        · rw [h2]; simp
      · exact h3 j (by omega) hj
def InnerTo (s : ByteArray) (k : Nat) : Prop := ∀ j, 1 ≤ j → j < k → innerR (((s.data.toList.getD j 0).toNat : Nat) : Int) = true
theorem innerTo_step {s : ByteArray} {k : Nat} (hk : k < s.size) (h : InnerTo s k) (hi : innerR (((s[k].toNat : Nat)) : Int) = true) : InnerTo s (k + 1) := by
  intro j h1 h2
  by_cases e : j = k
  · subst e; rw [good_get hk]; exact hi
  · exact h j h1 (by omega)
theorem label_not_inner {s : ByteArray} (g1 : 1 ≤ s.size) (g2 : s.size ≤ 16) {k : Nat} (h1 : 1 ≤ k) (hk : k < s.size) (hi : innerR (((s[k].toNat : Nat)) : Int) = false) : labelB s.data.toList = false := by
  rw [Bool.eq_false_iff]; intro h
  have := ((labelB_iff g1 g2).1 h).2.2 k h1 hk
  rw [good_get hk, hi] at this; cases this
set_option maxHeartbeats 1000000 in
theorem rlabel_any (s : ByteArray) (w : World) (hs : s.size ≤ 9223372036854775807) :
    Calls Tryz.prog 96 #[.string s] w fun e w' => e = .returned (.bool (labelB s.data.toList)) ∧ w = w' := by
  by_cases h0 : s.size < 1 ∨ 16 < s.size
  · have h := label_short (s := s) (by omega)
    have H := Lib.hid h; clear h
    rcases h0 with h0 | h0
    all_goals
      go_enter Tryz.func96, Tryz.ntmps96
      go_wp2
      go_ret
      exact ⟨ret_bool H.out.symm, rfl⟩
  · have g1 : 1 ≤ s.size := by omega
    have g2 : s.size ≤ 16 := by omega
    clear h0
    have HI := Lib.hid (labelB_iff g1 g2)
    have HG : ∀ k (h : k < s.size), Hid (s.data.toList.getD k 0 = s[k]) := fun k h => Lib.hid (good_get h)
    have HGG := Lib.hid HG; clear HG
    have t1 : decide ((s.size : Int) < 1) = false := by simp; omega
    have t2 : decide ((16 : Int) < s.size) = false := by simp; omega
    have g0 : 0 < s.size := by omega
    have gl : s.size - 1 < s.size := by omega
    by_cases hA : edgeR (s[s.size - 1].toNat : Int) = true
    rotate_left 1
    · have hf : labelB s.data.toList = false := by
        rw [Bool.eq_false_iff]; intro h
        have := (HI.out.1 h).1
        rw [(HGG.out _ (by omega)).out] at this
        exact hA this
      have hA' : edgeR (s[s.size - 1].toNat : Int) = false := by simpa using hA
      have HF := Lib.hid hf; clear hf hA
      go_enter Tryz.func96, Tryz.ntmps96
      go_wp2_with (go_at_call 118; refine (word_any _ _).mono ?_; rintro e w' ⟨rfl, rfl⟩)
      go_ret
      exact ⟨ret_bool HF.out.symm, rfl⟩
    by_cases hB : edgeR (s[0].toNat : Int) = true ∨ s[0].toNat = 95
    rotate_left 1
    · have hf : labelB s.data.toList = false := by
        rw [Bool.eq_false_iff]; intro h
        have := (HI.out.1 h).2.1
        rw [(HGG.out 0 (by omega)).out] at this
        exact hB this
      have hB' : edgeR (s[0].toNat : Int) = false := by rw [Bool.eq_false_iff]; exact fun h => hB (.inl h)
      have hC' : ((s[0].toNat : Int) != 95) = true := by rw [bne_iff_ne]; intro h; exact hB (.inr (by omega))
      have HF := Lib.hid hf; clear hf hB
      go_enter Tryz.func96, Tryz.ntmps96
      go_wp2_with (go_at_call 118; refine (word_any _ _).mono ?_; rintro e w' ⟨rfl, rfl⟩)
      go_ret
      exact ⟨ret_bool HF.out.symm, rfl⟩
    have HL := Lib.hid hA; have HF := Lib.hid hB
    have hX : edgeR (s[0].toNat : Int) = true ∨ (edgeR (s[0].toNat : Int) = false ∧ ((s[0].toNat : Int) != 95) = false) := by
      cases h : edgeR (s[0].toNat : Int)
      · right; exact ⟨rfl, by have := hB.resolve_left (by rw [h]; simp); simp; omega⟩
      · exact .inl rfl
    clear hB
    rcases hX with hB | ⟨hB, hC⟩
    all_goals
      go_enter Tryz.func96, Tryz.ntmps96
      go_wp2_with (go_at_call 118; refine (word_any _ _).mono ?_; rintro e w' ⟨rfl, rfl⟩)
      go_loop [4] (fun i => ∃ k : Nat, 1 ≤ k ∧ k ≤ s.size ∧ i = .int .i64 k ∧ InnerTo s k) (fun i => s.size - (intOf i).toNat)
      case atStart => exact ⟨1, by omega, g1, rfl, fun j h1 h2 => by omega⟩
      case round =>
        obtain ⟨k, h1k, hk, rfl, hin⟩ := hrel
        have HIN := Lib.hid hin; clear hin
        by_cases hlt : k < s.size
        · go_wp2_with (go_at_call 118; refine (word_any _ _).mono ?_; rintro e w' ⟨rfl, rfl⟩)
          · have ht : edgeR (s[k].toNat : Int) = true := by assumption
            go_round
            case rel => exact ⟨k + 1, by omega, by omega, by go_num, innerTo_step hlt HIN.out (inner_of_edge ht)⟩
            case measure => simp [intOf]; omega
          · have ht : ¬ edgeR (s[k].toNat : Int) = true := by assumption
            have ht2 : ((s[k].toNat : Int) != 45) = true := by assumption
            have hf : labelB s.data.toList = false := label_not_inner g1 g2 h1k hlt (by unfold innerR; rw [Bool.eq_false_iff.2 ht]; simpa using ht2)
            go_ret
            exact ⟨ret_bool hf.symm, rfl⟩
          · have ht2 : ((s[k].toNat : Int) != 45) = false := by assumption
            have hin : innerR (s[k].toNat : Int) = true := by unfold innerR; rw [show ((s[k].toNat : Int) == 45) = true from by simpa using ht2]; rfl
            go_round
            case rel => exact ⟨k + 1, by omega, by omega, by go_num, innerTo_step hlt HIN.out hin⟩
            case measure => simp [intOf]; omega
        · have hf : labelB s.data.toList = true := HI.out.2 ⟨by rw [(HGG.out _ (by omega)).out]; exact HL.out, by rw [(HGG.out _ (by omega)).out]; exact HF.out, fun j h1 h2 => HIN.out j h1 (by omega)⟩
          have HT := Lib.hid hf; clear hf
          go_wp2
          go_ret
          exact ⟨ret_bool HT.out.symm, rfl⟩
theorem cut_first : ∀ (m : Nat) (l : Str), (∀ j : Nat, j < m → l[j]? ≠ some (46 : UInt8)) → l[m]? = some (46 : UInt8) → cut l = l.take m :: cut (l.drop (m + 1))
  | _, [], _, h => by simp at h
  | 0, c :: t, _, h => by simp at h; subst h; simp [cut]
  | m + 1, c :: t, h1, h => by
    have hc : c ≠ 46 := fun e => h1 0 (by omega) (by simp [e])
    rw [cut, if_neg hc, cut_first m t (fun j hj => by have := h1 (j + 1) (by omega); simpa using this) (by simpa using h)]
    simp
theorem cut_free : ∀ (l : Str), (∀ j : Nat, l[j]? ≠ some (46 : UInt8)) → cut l = [l]
  | [], _ => rfl
  | c :: t, h => by
    have hc : c ≠ 46 := fun e => h 0 (by simp [e])
    rw [cut, if_neg hc, cut_free t (fun j => by have := h (j + 1); simpa using this)]
def strV (x : Str) : Value := .string ⟨x.toArray⟩
theorem Tryz.infoStr : (Tryz.prog.info? 9).map (fun i => (i.zero, i.size, i.bytes)) = some (some (.string ⟨#[]⟩), 1, 16) := by kernel_rfl
theorem piece_eq (s : ByteArray) (a b : Nat) : s.extract a b = ⟨((s.data.toList.drop a).take (b - a)).toArray⟩ := by
  apply ByteArray.ext; apply Array.ext'
  simp
/-- Where the loop of cut stands: pieces out, from f on none is closed, at i. -/
structure CutAt (l : Str) (outs : List Str) (f i : Nat) : Prop where
  le : f ≤ i
  cut : cut l = outs ++ cut (l.drop f)
  free : ∀ j : Nat, f ≤ j → j < i → l[j]? ≠ some (46 : UInt8)
theorem CutAt.start (l : Str) : CutAt l [] 0 0 := ⟨Nat.le_refl _, by simp, fun j h1 h2 => by omega⟩
theorem CutAt.next {l : Str} {outs : List Str} {f i : Nat} (h : CutAt l outs f i) (hi : l[i]? ≠ some (46 : UInt8)) : CutAt l outs f (i + 1) :=
  ⟨by have := h.le; omega, h.cut, fun j h1 h2 => by
    by_cases e : j = i
    · subst e; exact hi
    · exact h.free j h1 (by omega)⟩
theorem CutAt.hit {l : Str} {outs : List Str} {f i : Nat} (h : CutAt l outs f i) (hi : l[i]? = some (46 : UInt8)) : CutAt l (outs ++ [(l.drop f).take (i - f)]) (i + 1) (i + 1) := by
  have hle := h.le
  refine ⟨Nat.le_refl _, ?_, fun j h1 h2 => by omega⟩
  rw [h.cut, cut_first (i - f) (l.drop f) (fun j hj => by rw [List.getElem?_drop]; exact h.free _ (by omega) (by omega)) (by rw [List.getElem?_drop, show f + (i - f) = i by omega]; exact hi), List.drop_drop, List.append_assoc]
  rw [show f + (i - f + 1) = i + 1 by omega]; rfl
theorem CutAt.stop {l : Str} {outs : List Str} {f i : Nat} (h : CutAt l outs f i) (hi : l.length ≤ i) : Nam.cut l = outs ++ [l.drop f] := by
  rw [h.cut, cut_free (l.drop f) (fun j => by
    rw [List.getElem?_drop]
    by_cases e : f + j < i
    · exact h.free _ (by omega) e
    · rw [List.getElem?_eq_none (by omega)]; simp)]
def RetSl (l : List Value) (w : World) (e : Ending) (w' : World) : Prop := ∃ v, e = .returned v ∧ Sl w' v l ∧ Ext w w'
def CutRel (s : ByteArray) (B : Nat) (w : World) (o fr i : Value) (wr : World) : Prop :=
  ∃ (k f : Nat) (outs : List Str), k ≤ s.size ∧ i = .int .i64 k ∧ fr = .int .i64 f ∧ CutAt s.data.toList outs f k ∧ outs.length ≤ k ∧ wr.ownsRow B 9 1 o outs.length (outs.map strV) ∧ Ext w wr
set_option maxHeartbeats 1000000 in
theorem rcut_any (s : ByteArray) (w : World) (hs : s.size ≤ 1000) :
    Calls Tryz.prog 95 #[.string s] w (RetSl ((cut s.data.toList).map strV) w) := by
  obtain ⟨i0, hi, hz0, hz1, hz2⟩ := info_parts Tryz.infoStr
  go_enter Tryz.func95, Tryz.ntmps95
  go_wp2
  go_loopw [3, 4, 5] (fun o fr i wr => CutRel s w.heap.size w o fr i wr) (fun _ _ i _ => s.size - (intOf i).toNat)
  case atStart => exact ⟨0, 0, [], Nat.zero_le _, rfl, rfl, CutAt.start _, Nat.le_refl _, World.ownsRow_nil _ _ _ _, Below.refl _ _⟩
  case round =>
    obtain ⟨k, f, outs, hk, rfl, rfl, hcut, hol, hown, hE⟩ := hrel
    have hf := hcut.le
    have HC := Lib.hid hcut; clear hcut
    have hsz := hE.size
    by_cases hlt : k < s.size
    · by_cases hdot : s[k] = 46
      · have hb : ((s[k].toNat : Int) == 46) = true := by rw [hdot]; rfl
        have hnext := HC.out.hit (by rw [Lib.data_getElem? s k hlt, hdot])
        have HN := Lib.hid hnext; clear hnext
        have HD := Lib.hid hdot; clear hdot
        go_wp2_with (at_builtin; refine wpList_append_own _ rfl _ _ 37 rfl w.heap.size 9 i0 (.string ⟨#[]⟩) 1 16 Tryz.underlying37 hi hz0 hz1 hz2 rfl (by decide) u3 _ _ rfl (hown.alloc _) ⟨wr.heap.size, 0, none⟩ 1 1 [.string (s.extract f k)] rfl rfl (one_cell_new _ _ _) (by simp [Value.oneCell']) (by unfold maxLen; omega) (by omega) (by simp; omega) ?_; intro v' w1 hown1 hgrow1 _)
        go_roundw
        case rel =>
          refine ⟨k + 1, k + 1, _, by omega, by go_num, by go_num, HN.out, by simp; omega, ?_, (hE.alloc hsz _).grown hgrow1 (by simp; omega) (own_ge hown)⟩
          rw [List.map_append, List.length_append]
          simp only [List.map_cons, List.map_nil, strV, List.length_singleton]
          rw [← piece_eq]; exact hown1
        case measure => simp [intOf]; omega
      · have hb : ((s[k].toNat : Int) == 46) = false := by
          rw [beq_eq_false_iff_ne]; intro h; exact hdot (Lib.byte_eq_of_toNat (by rw [h]; rfl))
        have hnext := HC.out.next (by rw [Lib.data_getElem? s k hlt]; simpa using hdot)
        have HN := Lib.hid hnext; clear hnext
        have HD := Lib.hid hdot; clear hdot
        go_wp2
        go_roundw
        case rel => exact ⟨k + 1, f, outs, by omega, by go_num, rfl, HN.out, by omega, hown, hE⟩
        case measure => simp [intOf]; omega
    · have hfin := HC.out.stop (by rw [← Lib.size_eq]; omega)
      have HFin := Lib.hid hfin; clear hfin
      go_wp2_with (at_builtin; refine wpList_append_own _ rfl _ _ 37 rfl w.heap.size 9 i0 (.string ⟨#[]⟩) 1 16 Tryz.underlying37 hi hz0 hz1 hz2 rfl (by decide) u3 _ _ rfl (hown.alloc _) ⟨wr.heap.size, 0, none⟩ 1 1 [.string (s.extract f s.size)] rfl rfl (one_cell_new _ _ _) (by simp [Value.oneCell']) (by unfold maxLen; omega) (by omega) (by simp; omega) ?_; intro v' w1 hown1 hgrow1 _)
      go_ret
      refine ⟨v', rfl, ?_, (hE.alloc hsz _).grown hgrow1 (by simp; omega) (own_ge hown)⟩
      rw [HFin.out, List.map_append]
      simp only [List.map_cons, List.map_nil, strV]
      rw [← drop_eq]; exact Sl.own hown1
end Go.Proofs.YteemkkmkkgfofaaGreatDoor
namespace Go.Proofs.YteemkkmkkgfofaaGreatDoor
open Go.RowKit Nam
attribute [local go_sem] Oper.semAt_some wide_fn wide_depth wide_some

/-- What is above behind k steps. -/
def upN : Nat → Str → Str
  | 0, l => l
  | k + 1, l => up (upN k l)
def aboveL (l : Str) : List Str := above (l.length + 1) l
theorem aboveL_drop (k : Nat) (l : Str) (r : Str) (h : (aboveL l).drop k = aboveL r) (hu : up r ≠ []) : (aboveL l)[k]? = some (up r) ∧ (aboveL l).drop (k + 1) = aboveL (up r) := by
  have he : aboveL r = up r :: aboveL (up r) := above_step r hu
  rw [he] at h
  have h1 : (aboveL l)[k]? = some (up r) := by
    have := congrArg (fun l => l[0]?) h
    simpa using this
  refine ⟨h1, ?_⟩
  rw [← List.drop_drop, h]; rfl
theorem aboveL_end (k : Nat) (l : Str) (r : Str) (h : (aboveL l).drop k = aboveL r) (hk : k ≤ (aboveL l).length) (hu : up r = []) : k = (aboveL l).length := by
  have he : aboveL r = [] := above_end r hu
  rw [he] at h
  have := congrArg List.length h
  simp at this; omega
theorem up_size (r : ByteArray) (n : Nat) (h : r.size ≤ n) : (⟨(up r.data.toList).toArray⟩ : ByteArray).size ≤ n := by
  rw [size_bs]; rw [Lib.size_eq] at h
  by_cases hu : up r.data.toList = []
  · rw [hu]; simp
  · have := up_lt _ hu; omega
theorem env_fr {S : Nat → Prop} {w w' : World} (h : Env w) (hf : Fr S w w') (hs : ¬ S 2) : Env w' := by
  obtain ⟨m, hm⟩ := h
  exact ⟨m, (hf.cell (cell_lt hm) hs).trans hm⟩
end Go.Proofs.YteemkkmkkgfofaaGreatDoor
