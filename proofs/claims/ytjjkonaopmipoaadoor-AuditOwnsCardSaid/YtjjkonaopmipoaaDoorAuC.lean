/- Walks: audit.above's iterator, slices.Backward's over events. -/
import Derived.Test.YtjjkonaopmipoaaDoorAuA
import Derived.Test.YtjjkonaopmipoaaDoorRng
import Derived.Test.YtjjkonaopmipoaaDoorBk
namespace Go.Proofs.YtjjkonaopmipoaaDoor
open Go.RowKit Nam Aud
attribute [local go_sem] Oper.semAt_some wide_fn wide_depth wide_some

/-- A name, and all above it. -/
def selfL (l : Str) : List Str := if l = [] then [] else l :: aboveL l
theorem aboveL_self (r : Str) : aboveL r = selfL (up r) := by
  unfold selfL
  split
  · rename_i h; exact above_end r h
  · rename_i h; exact above_step r h
theorem selfL_step {l r : Str} {k : Nat} (h : (selfL l).drop k = selfL r) (hr : r ≠ []) : (selfL l)[k]? = some r ∧ (selfL l).drop (k + 1) = selfL (up r) := by
  have he : selfL r = r :: aboveL r := by unfold selfL; rw [if_neg hr]
  rw [he] at h
  have h1 : (selfL l)[k]? = some r := by
    have := congrArg (fun l => l[0]?) h
    simpa using this
  refine ⟨h1, ?_⟩
  rw [← List.drop_drop, h, ← aboveL_self]; rfl
theorem selfL_end {l r : Str} {k : Nat} (h : (selfL l).drop k = selfL r) (hk : k ≤ (selfL l).length) (hr : r = []) : k = (selfL l).length := by
  have he : selfL r = [] := by unfold selfL; rw [if_pos hr]
  rw [he] at h
  have := congrArg List.length h
  simp at this; omega
set_option maxHeartbeats 400000 in
theorem aabove_any (s : ByteArray) (w : World) :
    Calls Tryd.prog 39 #[.string s] w fun e w' =>
      e = .returned (.func (.func 54) #[] #[.pointer (some ⟨w.heap.size, 0, none⟩)]) ∧ w' = w.alloc (.cells #[.string s] 9) := by
  go_enter Tryd.func39, Tryd.ntmps39
  go_wp2
  go_ret
  exact ⟨rfl, rfl⟩
set_option maxHeartbeats 1000000 in
theorem aabove_iter (s : ByteArray) (b : Nat) (hs : s.size ≤ 9223372036854775807) :
    Iter Tryd.prog 54 #[.pointer (some ⟨b, 0, none⟩)] encStr (selfL s.data.toList)
      (fun W => Boxed W b 9 (.string s) ∧ Env W ∧ 0 < b)
      (fun k => k = b) (fun k => k = b ∨ k = 0) := by
  intro l J Jx W hOk hJ hJx hY h0
  refine callsIn_of_wp Tryd.func54 rfl trivial ?_ rfl
  simp only [Tryd.ntmps54, List.size_toArray, List.length_cons, List.length_nil, Nat.reduceAdd, Nat.reduceSub, Array.replicate_succ, Array.replicate_zero, List.push_toArray, List.append_toArray, List.nil_append, List.cons_append]
  obtain ⟨hb0, hen, hgb⟩ := hOk
  have B0 := Lib.hid hb0; have EN := Lib.hid hen
  have HJ := Lib.hid hJ; have HJx := Lib.hid hJx; have HY := Lib.hid hY; have H0 := Lib.hid h0
  clear hJ hJx hY h0 hb0 hen
  gi_wp2
  gi_loopw [3] (fun _ wr => ∃ (k : Nat) (r : ByteArray), r.size ≤ s.size ∧ k ≤ (selfL s.data.toList).length ∧ (selfL s.data.toList).drop k = selfL r.data.toList ∧ Boxed wr b 9 (.string r) ∧ Env wr ∧ J k wr) (fun _ wr => strLen wr b)
  case atStart => exact ⟨0, s, Nat.le_refl _, Nat.zero_le _, rfl, B0.out, EN.out, H0.out⟩
  case round =>
    obtain ⟨k, r, hr, hk, hdrop, g0, hen, hj⟩ := hrel
    have hrs : r.size ≤ 9223372036854775807 := Nat.le_trans hr hs
    have hqe := isEmpty_of (s := r)
    have d0 := g0.cell
    have G0 := Lib.hid g0; have HEN := Lib.hid hen; have Hj := Lib.hid hj; have HD := Lib.hid hdrop
    clear g0 hen hj hdrop
    by_cases hu : r.size = 0
    · have e0 : r.toList.isEmpty = true := by rw [hqe]; simp [hu]
      have hend : k = (selfL s.data.toList).length := selfL_end HD.out hk (by have := Lib.size_eq r; rw [hu] at this; exact List.eq_nil_of_length_eq_zero this.symm)
      have HE := Lib.hid hend; clear hqe hu hend
      gi_wp2
      go_end0
      exact ⟨⟨_, rfl⟩, .inl (by rw [← HE.out]; exact Hj.out)⟩
    · have e0 : r.toList.isEmpty = false := by rw [hqe]; simp [hu]
      have hne : r.data.toList ≠ [] := by intro h; exact hu (by rw [Lib.size_eq, h]; rfl)
      obtain ⟨hx, hd⟩ := selfL_step HD.out hne
      have hlt := (List.getElem?_eq_some_iff.1 hx).1
      obtain ⟨fn, tmps, assign, body, hy, hR⟩ := HY.out k _ wr hx Hj.out
      have HR := Lib.hid hR; have HX := Lib.hid hd; have HPOS := Lib.hid hu; clear hR hx hd hqe hne hu
      unfold encStr at hy; rw [eta_bs] at hy
      gi_wp2
      refine HR.out.mono ?_
      rintro e W' (⟨rfl, hJ', hkeep⟩ | ⟨rfl, hJx'⟩)
      · have g0 := hkeep.boxed G0.out (by simp)
        have hen' : Env W' := by obtain ⟨m, hm⟩ := HEN.out; exact ⟨m, (hkeep.cell (cell_lt hm) (by simp)).trans hm⟩
        have c0 := g0.cell
        have K0 := Lib.hid g0; have KE := Lib.hid hen'; have KJ := Lib.hid hJ'; clear g0 hen' hJ' hkeep
        gi_wp2_with (gi_at_call 27; refine (callsIn_wide.2 (Up_any r _ hrs KE.out)).mono ?_; rintro e W3 ⟨rfl, hE⟩; have q1 := ext_boxed hE K0.out; have hc := q1.cell; have hf := q1.frozen; have Q1 := Lib.hid q1; clear q1)
        go_roundw
        case rel =>
          have hF : Fr (fun k => k = b) W' (W3.setCell ⟨b, 0, none⟩ (.string ⟨(up r.data.toList).toArray⟩)) := (Fr.of_ext hE).trans (Fr.setCell W3 ⟨b, 0, none⟩ _ rfl)
          exact ⟨k + 1, _, up_size r _ hr, by omega, HX.out, Q1.out.set _, env_fr KE.out hF (by omega), HJ.out _ _ _ KJ.out hF⟩
        case measure =>
          rw [strLen_boxed (Q1.out.set _), strLen_boxed G0.out, size_bs]
          have := HPOS.out
          by_cases hu2 : up r.data.toList = []
          · rw [hu2]; simp; omega
          · have := up_lt _ hu2; rw [← Lib.size_eq] at this; exact this
      · gi_wp2
        go_end0
        exact ⟨⟨_, rfl⟩, .inr ⟨k + 1, by omega, hJx'⟩⟩
/-- An event as a value. -/
def evV (e : Ev) : Value := .agg #[.int .i64 e.kind, .int .i64 e.at_, .string e.who, .string e.name, .int .i64 e.n, .int .i64 e.m]
def encEv (p : Nat × Ev) : Array Value := #[.int .i64 p.1, evV p.2]
set_option maxHeartbeats 400000 in
theorem bkEv_any (a : Option Addr) (n cap : Nat) (w : World) :
    Calls Tryd.prog 40 #[.slice a n cap] w fun e w' =>
      e = .returned (.func (.func 55) #[] #[.pointer (some ⟨w.heap.size, 0, none⟩)]) ∧ w' = w.alloc (.cells #[.slice a n cap] 60) := by
  go_enter Tryd.func40, Tryd.ntmps40
  go_wp2
  go_ret
  exact ⟨rfl, rfl⟩
set_option maxRecDepth 100000 in
set_option maxHeartbeats 1000000 in
theorem bkEv_iter (l : List Ev) (a : Option Addr) (n cap : Nat) (b : Nat) (hn : l.length = n) (hnm : n ≤ maxLen) :
    Iter Tryd.prog 55 #[.pointer (some ⟨b, 0, none⟩)] encEv (backL l)
      (fun W => Boxed W b 60 (.slice a n cap) ∧ Evs W a l)
      (fun _ => False) (fun k => k = b ∨ (l ≠ [] ∧ ∃ o, a = some ⟨k, o, none⟩)) := by
  unfold maxLen at hnm
  intro y J Jx W hOk hJ hJx hY h0
  refine callsIn_of_wp Tryd.func55 rfl trivial ?_ rfl
  simp only [Tryd.ntmps55, List.size_toArray, List.length_cons, List.length_nil, Nat.reduceAdd, Nat.reduceSub, Array.replicate_succ, Array.replicate_zero, List.push_toArray, List.append_toArray, List.nil_append, List.cons_append]
  obtain ⟨hb0, hev⟩ := hOk
  have c0 := hb0.cell
  have B0 := Lib.hid hb0; have EV := Lib.hid hev; have HN := Lib.hid hn
  have HY := Lib.hid hY; have H0 := Lib.hid h0
  clear hJ hJx hY h0 hb0 hev hn
  gi_wp2
  gi_loopw [3] (fun i wr => ∃ m : Nat, m ≤ n ∧ BkI i m ∧ Boxed wr b 60 (.slice a n cap) ∧ Evs wr a l ∧ J (n - m) wr) (fun i _ => (intOf i + 1).toNat)
  case atStart => exact ⟨n, Nat.le_refl _, bkI_pred n, B0.out, EV.out, by rw [Nat.sub_self]; exact H0.out⟩
  case round =>
    obtain ⟨m, hm, hi, g0, hev, hj⟩ := hrel
    rcases hi with ⟨rfl, rfl⟩ | ⟨j, rfl, rfl⟩
    · have HJ := Lib.hid hj; clear hj
      gi_wp2
      go_end0
      exact ⟨⟨_, rfl⟩, .inl (by rw [backL_length, HN.out]; exact HJ.out)⟩
    · obtain ⟨e, he⟩ := get_some HN.out (show j < n by omega)
      obtain ⟨blk, off, rfl, c0, c1, c2, c3, c4, c5⟩ := hev j e he
      have d0 := g0.cell
      have hx := backL_get (k := n - (j + 1)) (by rw [HN.out]; omega) he
      obtain ⟨fn, tmps, assign, body, hy, hR⟩ := HY.out _ _ wr hx hj
      have G0 := Lib.hid g0; have HEV := Lib.hid hev
      have HR := Lib.hid hR; have hne : l ≠ [] := by intro h; rw [h] at he; simp at he
      have HNE := Lib.hid hne
      clear hR hx g0 hev hj he hne
      unfold encEv evV at hy
      gi_wp2
      refine HR.out.mono ?_
      rintro e' W' (⟨rfl, hJ', hkeep⟩ | ⟨rfl, hJx'⟩)
      · have g0 := hkeep.boxed G0.out (by simp)
        have hev' : Evs W' (some ⟨blk, off, none⟩) l := fun i x hx => by
          obtain ⟨b', off', hab, hR⟩ := HEV.out i x hx
          cases hab
          have hbk : ∀ o v, wr.cell? ⟨blk, o, none⟩ = some v → W'.cell? ⟨blk, o, none⟩ = some v := fun o v h => (hkeep.cell (cell_lt h) (by simp [HNE.out])).trans h
          obtain ⟨r0, r1, r2, r3, r4, r5⟩ := hR
          exact ⟨blk, off, rfl, hbk _ _ r0, hbk _ _ r1, hbk _ _ r2, hbk _ _ r3, hbk _ _ r4, hbk _ _ r5⟩
        have K0 := Lib.hid g0; have KE := Lib.hid hev'; have KJ := Lib.hid hJ'; clear g0 hev' hJ' hkeep
        gi_wp2
        go_roundw
        case rel => exact ⟨j, by omega, bkI_pred j, K0.out, KE.out, by have := KJ.out; rwa [show n - (j + 1) + 1 = n - j by omega] at this⟩
        case measure => simp [intOf]
      · gi_wp2
        exact bodyPost_ret (results_none (fn := Tryd.f55) rfl _ _ _) rfl ⟨⟨_, rfl⟩, .inr ⟨n - (j + 1) + 1, by rw [backL_length, HN.out]; omega, hJx'⟩⟩
end Go.Proofs.YtjjkonaopmipoaaDoor
