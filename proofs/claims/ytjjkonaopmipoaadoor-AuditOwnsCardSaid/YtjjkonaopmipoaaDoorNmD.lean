/- Walks: names.above, below, Under, Match, Within. -/
import Derived.Test.YtjjkonaopmipoaaDoorNmC
namespace Go.Proofs.YtjjkonaopmipoaaDoor
open Go.RowKit Nam
attribute [local go_sem] Oper.semAt_some wide_fn wide_depth wide_some

set_option maxHeartbeats 400000 in
theorem above_any (s : ByteArray) (w : World) :
    Calls Tryd.prog 61 #[.string s] w fun e w' =>
      e = .returned (.func (.func 71) #[] #[.pointer (some ⟨w.heap.size, 0, none⟩)]) ∧ w' = w.alloc (.cells #[.string s] 9) := by
  go_enter Tryd.func61, Tryd.ntmps61
  go_wp2
  go_ret
  exact ⟨rfl, rfl⟩
/-- What is above behind k steps. -/
def upN : Nat → Str → Str
  | 0, l => l
  | k + 1, l => up (upN k l)
def aboveL (l : Str) : List Str := above (l.length + 1) l
theorem aboveL_drop (k : Nat) (l : Str) (r : Str) (h : (aboveL l).drop k = aboveL r) (hu : up r ≠ []) : (aboveL l)[k]? = some (up r) ∧ (aboveL l).drop (k + 1) = aboveL (up r) := by
  have he : aboveL r = up r :: aboveL (up r) := above_step r hu
  rw [he] at h
  have h1 : (aboveL l)[k]? = some (up r) := by
    have := congrArg (fun l => l[0]?) h
    simpa using this
  refine ⟨h1, ?_⟩
  rw [← List.drop_drop, h]; rfl
theorem aboveL_end (k : Nat) (l : Str) (r : Str) (h : (aboveL l).drop k = aboveL r) (hk : k ≤ (aboveL l).length) (hu : up r = []) : k = (aboveL l).length := by
  have he : aboveL r = [] := above_end r hu
  rw [he] at h
  have := congrArg List.length h
  simp at this; omega
theorem up_size (r : ByteArray) (n : Nat) (h : r.size ≤ n) : (⟨(up r.data.toList).toArray⟩ : ByteArray).size ≤ n := by
  rw [size_bs]; rw [Lib.size_eq] at h
  by_cases hu : up r.data.toList = []
  · rw [hu]; simp
  · have := up_lt _ hu; omega
theorem env_fr {S : Nat → Prop} {w w' : World} (h : Env w) (hf : Fr S w w') (hs : ¬ S 0) : Env w' := by
  obtain ⟨m, hm⟩ := h
  exact ⟨m, (hf.cell (cell_lt hm) hs).trans hm⟩
set_option maxHeartbeats 1000000 in
theorem above_iter (s : ByteArray) (b : Nat) (hs : s.size ≤ 9223372036854775807) :
    Iter Tryd.prog 71 #[.pointer (some ⟨b, 0, none⟩)] encStr (aboveL s.data.toList)
      (fun W => Boxed W b 9 (.string s) ∧ Env W ∧ 0 < b)
      (fun k => k = b) (fun k => k = b ∨ k = 0) := by
  intro l J Jx W hOk hJ hJx hY h0
  refine callsIn_of_wp Tryd.func71 rfl trivial ?_ rfl
  simp only [Tryd.ntmps71, List.size_toArray, List.length_cons, List.length_nil, Nat.reduceAdd, Nat.reduceSub, Array.replicate_succ, Array.replicate_zero, List.push_toArray, List.append_toArray, List.nil_append, List.cons_append]
  obtain ⟨hb0, hen, hgb⟩ := hOk
  have c0 := hb0.cell
  have B0 := Lib.hid hb0; have EN := Lib.hid hen
  have HJ := Lib.hid hJ; have HJx := Lib.hid hJx; have HY := Lib.hid hY; have H0 := Lib.hid h0
  clear hJ hJx hY h0 hb0 hen
  gi_wp2_with (gi_at_call 27; refine (callsIn_wide.2 (Up_any s _ hs EN.out)).mono ?_; rintro e W2 ⟨rfl, hE⟩; have q := ext_boxed hE B0.out; have hc := q.cell; have hf := q.frozen; have Q := Lib.hid q; clear q)
  gi_loopw [5] (fun i wr => ∃ (k : Nat) (r q : ByteArray), r.size ≤ s.size ∧ k ≤ (aboveL s.data.toList).length ∧ (aboveL s.data.toList).drop k = aboveL r.data.toList ∧ q = ⟨(up r.data.toList).toArray⟩ ∧ Boxed wr b 9 (.string q) ∧ Env wr ∧ J k wr) (fun _ wr => strLen wr b)
  case atStart =>
    have hF : Fr (fun k => k = b) W (W2.setCell ⟨b, 0, none⟩ (.string ⟨(up s.data.toList).toArray⟩)) := (Fr.of_ext hE).trans (Fr.setCell W2 ⟨b, 0, none⟩ _ rfl)
    exact ⟨0, s, _, Nat.le_refl _, Nat.zero_le _, rfl, rfl, Q.out.set _, env_fr EN.out hF (by omega), HJ.out _ _ _ H0.out hF⟩
  case round =>
    obtain ⟨k, r, q, hr, hk, hdrop, hq, g0, hen, hj⟩ := hrel
    have hqs : q.size ≤ 9223372036854775807 := by rw [hq]; exact Nat.le_trans (up_size r s.size hr) hs
    have hqd : q.data.toList = up r.data.toList := by rw [hq]
    have hqe := isEmpty_of (s := q)
    have d0 := g0.cell
    have G0 := Lib.hid g0; have HEN := Lib.hid hen; have Hj := Lib.hid hj; have HD := Lib.hid hdrop; have HQ := Lib.hid hq; have HQD := Lib.hid hqd
    clear g0 hen hj hdrop hq hqd c0 hc hf hE
    by_cases hu : q.size = 0
    · have e0 : q.toList.isEmpty = true := by rw [hqe]; simp [hu]
      have hend : k = (aboveL s.data.toList).length := aboveL_end _ _ _ HD.out hk (by rw [← HQD.out]; have := Lib.size_eq q; rw [hu] at this; exact List.eq_nil_of_length_eq_zero this.symm)
      have HE := Lib.hid hend; clear hqe hu hend
      gi_wp2
      go_end0
      exact ⟨⟨_, rfl⟩, .inl (by rw [← HE.out]; exact Hj.out)⟩
    · have e0 : q.toList.isEmpty = false := by rw [hqe]; simp [hu]
      have hne : up r.data.toList ≠ [] := by rw [← HQD.out]; intro h; exact hu (by rw [Lib.size_eq, h]; rfl)
      obtain ⟨hx, hd⟩ := aboveL_drop _ _ _ HD.out hne
      have hlt := (List.getElem?_eq_some_iff.1 hx).1
      have hlq : r.size ≤ s.size ∧ q.size < r.size := ⟨hr, by rw [Lib.size_eq, Lib.size_eq, HQD.out]; exact up_lt _ hne⟩
      obtain ⟨fn, tmps, assign, body, hy, hR⟩ := HY.out k _ wr hx Hj.out
      have HR := Lib.hid hR; have HX := Lib.hid hd; clear hR hx hd hqe hne
      unfold encStr at hy; rw [← HQ.out] at hy
      gi_wp2
      refine HR.out.mono ?_
      rintro e W' (⟨rfl, hJ', hkeep⟩ | ⟨rfl, hJx'⟩)
      · have g0 := hkeep.boxed G0.out (by simp)
        have hen' : Env W' := by obtain ⟨m, hm⟩ := HEN.out; exact ⟨m, (hkeep.cell (cell_lt hm) (by simp)).trans hm⟩
        have c0 := g0.cell
        have K0 := Lib.hid g0; have KE := Lib.hid hen'; have KJ := Lib.hid hJ'; clear g0 hen' hJ' hkeep
        gi_wp2_with (gi_at_call 27; refine (callsIn_wide.2 (Up_any q _ hqs KE.out)).mono ?_; rintro e W3 ⟨rfl, hE⟩; have q1 := ext_boxed hE K0.out; have hc := q1.cell; have hf := q1.frozen; have Q1 := Lib.hid q1; clear q1)
        go_roundw
        case rel =>
          have hF : Fr (fun k => k = b) W' (W3.setCell ⟨b, 0, none⟩ (.string ⟨(up q.data.toList).toArray⟩)) := (Fr.of_ext hE).trans (Fr.setCell W3 ⟨b, 0, none⟩ _ rfl)
          exact ⟨k + 1, q, _, by omega, by omega, by rw [HQD.out]; exact HX.out, rfl, Q1.out.set _, env_fr KE.out hF (by omega), HJ.out _ _ _ KJ.out hF⟩
        case measure =>
          rw [strLen_boxed (Q1.out.set _), strLen_boxed G0.out, size_bs]
          by_cases hu2 : up q.data.toList = []
          · rw [hu2]; simp; omega
          · have := up_lt _ hu2; rw [← Lib.size_eq] at this; exact this
      · gi_wp2
        go_end0
        exact ⟨⟨_, rfl⟩, .inr ⟨k + 1, by omega, hJx'⟩⟩
end Go.Proofs.YtjjkonaopmipoaaDoor
