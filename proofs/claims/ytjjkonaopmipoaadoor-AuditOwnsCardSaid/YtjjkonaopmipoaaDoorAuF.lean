/- Walk: audit.Fair (two maps as sets). -/
import Derived.Test.YtjjkonaopmipoaaDoorAuD
import Derived.Test.YtjjkonaopmipoaaDoorAuE
import Derived.Test.YtjjkonaopmipoaaDoorMap
namespace Go.Proofs.YtjjkonaopmipoaaDoor
open Go.RowKit Nam Aud

/-- A map that holds the numbers of a kind's events. -/
def SetOk (m : List (Int × Value)) (kind : Int) (l : List Ev) : Prop := m.length = diffB l kind ∧ ∀ n, (look m n).isSome = seenB l kind n
theorem setOk_nil (kind : Int) : SetOk [] kind [] := ⟨rfl, fun _ => rfl⟩
theorem setOk_hit {m : List (Int × Value)} {kind : Int} {l T : List Ev} {e : Ev} (h : SetOk m kind l) (hT : T = l ++ [e]) (hk : (e.kind == kind) = true) (v : Value) : SetOk (mput m e.n v) kind T := by
  subst hT
  refine ⟨?_, fun n => ?_⟩
  · rw [mput_length, diffB_snoc, hk, h.2, h.1]
    cases seenB l kind e.n <;> simp
  · rw [look_mput, seenB_snoc, hk]
    by_cases hn : e.n = n
    · simp [hn]
    · have : (e.n == n) = false := by simpa using hn
      rw [if_neg hn, h.2, this]; simp
theorem setOk_miss {m : List (Int × Value)} {kind : Int} {l T : List Ev} {e : Ev} (h : SetOk m kind l) (hT : T = l ++ [e]) (hk : (e.kind == kind) = false) : SetOk m kind T := by
  subst hT
  refine ⟨?_, fun n => ?_⟩
  · rw [diffB_snoc, hk, h.1]; simp
  · rw [seenB_snoc, hk, h.2]; simp
theorem evs_fr2 {S : Nat → Prop} {w W0 wr : World} {a : Option Addr} {l : List Ev} (h : Evs w a l) (hE : Ext w W0) (hf : Fr S W0 wr) (hs : ∀ k, k < w.heap.size → ¬ S k) : Evs wr a l := fun i x hx => by
  obtain ⟨blk, off, hab, r0, r1, r2, r3, r4, r5⟩ := h i x hx
  have hbk : ∀ o v, w.cell? ⟨blk, o, none⟩ = some v → wr.cell? ⟨blk, o, none⟩ = some v := fun o v h => (hf.cell (p := ⟨blk, o, none⟩) (Nat.lt_of_lt_of_le (cell_lt h) hE.size) (hs _ (cell_lt h))).trans ((hE.cell (cell_lt h)).trans h)
  exact ⟨blk, off, hab, hbk _ _ r0, hbk _ _ r1, hbk _ _ r2, hbk _ _ r3, hbk _ _ r4, hbk _ _ r5⟩
abbrev IMap (w : World) (b : Nat) (m : List (Int × Value)) : Prop := MapIs Tryd.prog 3 (Value.int .i64) (fun n : Int => (Lit.int .i64 n).wf = true) w b m
set_option maxRecDepth 100000 in
set_option maxHeartbeats 2000000 in
theorem aFair_any (l : List Ev) (cs : Array Value) (need t : Int) (a : Option Addr) (cap n : Nat) (w : World) (hn : l.length = n) (hnm : n ≤ maxLen) (hl : Evs w a l) (hwf : ∀ e ∈ l, (Lit.int .i64 e.n).wf = true)
    (k6 : cs[6]? = some (.int .i64 need)) (k16 : cs[16]? = some (.int .i64 t)) (k42 : cs[42]? = some (.slice a n cap)) :
    Calls Tryd.prog 17 #[.agg cs] w (Ret (.bool (fairB l need t)) w) := by
  unfold maxLen at hnm
  have HN := Lib.hid hn; have HL := Lib.hid hl; have HWF := Lib.hid hwf; clear hn hl hwf
  have hmm := @run_makeMap Tryd.prog
  go_enter Tryd.func17, Tryd.ntmps17
  go_wp2_with fail
  obtain ⟨W0, hW0⟩ : ∃ W0, ((w.alloc (Obj.cells cs 62)).alloc (Obj.map #[] 0)).alloc (Obj.map #[] 0) = W0 := ⟨_, rfl⟩
  have c6 : W0.cell? ⟨w.heap.size, 6, none⟩ = some (.int .i64 need) := by rw [← hW0]; simpa [go_sem] using k6
  have c16 : W0.cell? ⟨w.heap.size, 16, none⟩ = some (.int .i64 t) := by rw [← hW0]; simpa [go_sem] using k16
  have hE0 : Ext w W0 := by rw [← hW0]; exact ext_alloc (ext_alloc (ext_alloc (Below.refl _ _) _) _) _
  have m7 : IMap W0 (w.heap.size + 1) [] := by rw [← hW0]; have := (MapIs.made Tryd.prog 3 (Value.int .i64) (fun n : Int => (Lit.int .i64 n).wf = true) (w.alloc (Obj.cells cs 62))).ext (ext_alloc (Below.refl _ _) (Obj.map #[] 0)); rwa [World.size_alloc] at this
  have m8 : IMap W0 (w.heap.size + 1 + 1) [] := by rw [← hW0]; have := MapIs.made Tryd.prog 3 (Value.int .i64) (fun n : Int => (Lit.int .i64 n).wf = true) ((w.alloc (Obj.cells cs 62)).alloc (Obj.map #[] 0)); rwa [World.size_alloc, World.size_alloc] at this
  have hz : W0.heap.size = w.heap.size + 3 := by rw [← hW0]; simp
  rw [hW0]
  have K6 := Lib.hid k6; have K16 := Lib.hid k16; have K42 := Lib.hid k42; have M7 := Lib.hid m7; have M8 := Lib.hid m8; have HZ := Lib.hid hz
  have C6 := Lib.hid c6; have C16 := Lib.hid c16; have HE0 := Lib.hid hE0
  clear hW0 k6 k16 k42 c6 c16 hE0 m7 m8 hz hmm
  have E : KEnc Tryd.prog 3 (Value.int .i64) (fun n : Int => (Lit.int .i64 n).wf = true) := intKEnc Tryd.underlying3
  go_loopw [12] (fun i wr => ∃ (k : Nat) (m7 m8 : List (Int × Value)), k ≤ n ∧ i = .int .i64 k ∧ calmB (l.take k) need = true ∧ SetOk m7 7 (l.take k) ∧ SetOk m8 8 (l.take k) ∧
    IMap wr (w.heap.size + 1) m7 ∧ IMap wr (w.heap.size + 1 + 1) m8 ∧ Fr (fun b => b = w.heap.size + 1 ∨ b = w.heap.size + 1 + 1) W0 wr) (fun i _ => n - (intOf i).toNat)
  case atStart => exact ⟨0, [], [], Nat.zero_le _, rfl, rfl, setOk_nil _, setOk_nil _, M7.out, M8.out, Fr.refl _ _⟩
  case round =>
    obtain ⟨k, m7, m8, hk, rfl, hcm, hs7, hs8, hm7, hm8, hF⟩ := hrel
    have HCM := Lib.hid hcm; have S7 := Lib.hid hs7; have S8 := Lib.hid hs8; have P7 := Lib.hid hm7; have P8 := Lib.hid hm8
    have c6 := (hF.cell (p := ⟨w.heap.size, 6, none⟩) (cell_lt C6.out) (by simp; omega)).trans C6.out
    have c16 := (hF.cell (p := ⟨w.heap.size, 16, none⟩) (cell_lt C16.out) (by simp; omega)).trans C16.out
    have hbl : w.heap.size < _ := cell_lt c6
    have hev := evs_fr2 HL.out HE0.out hF (fun k hk => by omega)
    have HF := Lib.hid hF
    clear hcm hs7 hs8 hm7 hm8 hF
    by_cases hlt : k < n
    · obtain ⟨e, he⟩ := get_some HN.out hlt
      have hwe := HWF.out e (List.mem_of_getElem? he)
      have HWE := Lib.hid hwe; clear hwe
      obtain ⟨b, off, rfl, c0, c1, c2, c3, c4, c5⟩ := hev k e he
      have HT := Lib.hid (take_snoc he)
      have HS := Lib.hid (calmB_snoc (take_snoc he) need)
      have HH := Lib.hid (fun h1 h2 => calmB_hit (need := need) he h1 h2)
      clear he hev
      cases h3 : (e.kind == 3)
      · cases h7 : (e.kind == 7)
        · cases h8 : (e.kind == 8)
          · go_wp2_with fail
            go_roundw
            case rel => exact ⟨k + 1, m7, m8, by omega, by go_num, by rw [HS.out, HCM.out, h3]; rfl, setOk_miss S7.out HT.out h7, setOk_miss S8.out HT.out h8, P7.out.ext (ext_alloc (Below.refl _ _) _), P8.out.ext (ext_alloc (Below.refl _ _) _), HF.out.trans (Fr.alloc _ _ _)⟩
            case measure => simp [intOf]; omega
          · go_wp2_with (at_mapUpdate; refine wpList_mapUpdate_is rfl _ _ _ 101 rfl E Tryd.underlying101 rfl (P8.out.ext (ext_alloc (Below.refl _ _) _)) e.n _ rfl rfl HWE.out ?_; intro w1 hm8' hf1 hz1; have Q8 := Lib.hid hm8'; have QF := Lib.hid hf1; have QZ := Lib.hid hz1; clear hm8' hf1 hz1)
            go_roundw
            case rel => exact ⟨k + 1, m7, _, by omega, by go_num, by rw [HS.out, HCM.out, h3]; rfl, setOk_miss S7.out HT.out h7, setOk_hit S8.out HT.out h8 _, (P7.out.ext (ext_alloc (Below.refl _ _) _)).fr QF.out (by omega), Q8.out, (HF.out.trans (Fr.alloc _ _ _)).trans (QF.out.mono fun _ _ h => .inr h)⟩
            case measure => simp [intOf]; omega
        · have h8 : (e.kind == 8) = false := by rw [beq_iff_eq] at h7; rw [h7]; rfl
          go_wp2_with (at_mapUpdate; refine wpList_mapUpdate_is rfl _ _ _ 101 rfl E Tryd.underlying101 rfl (P7.out.ext (ext_alloc (Below.refl _ _) _)) e.n _ rfl rfl HWE.out ?_; intro w1 hm8' hf1 hz1; have Q8 := Lib.hid hm8'; have QF := Lib.hid hf1; have QZ := Lib.hid hz1; clear hm8' hf1 hz1)
          go_roundw
          case rel => exact ⟨k + 1, _, m8, by omega, by go_num, by rw [HS.out, HCM.out, h3]; rfl, setOk_hit S7.out HT.out h7 _, setOk_miss S8.out HT.out h8, Q8.out, (P8.out.ext (ext_alloc (Below.refl _ _) _)).fr QF.out (by omega), (HF.out.trans (Fr.alloc _ _ _)).trans (QF.out.mono fun _ _ h => .inl h)⟩
          case measure => simp [intOf]; omega
      · have h7 : (e.kind == 7) = false := by rw [beq_iff_eq] at h3; rw [h3]; rfl
        have h8 : (e.kind == 8) = false := by rw [beq_iff_eq] at h3; rw [h3]; rfl
        cases h2 : decide (need ≤ e.m)
        · go_wp2_with fail
          go_roundw
          case rel => exact ⟨k + 1, m7, m8, by omega, by go_num, by rw [HS.out, HCM.out, h3, h2]; rfl, setOk_miss S7.out HT.out h7, setOk_miss S8.out HT.out h8, P7.out.ext (ext_alloc (Below.refl _ _) _), P8.out.ext (ext_alloc (Below.refl _ _) _), HF.out.trans (Fr.alloc _ _ _)⟩
          case measure => simp [intOf]; omega
        · go_wp2_with fail
          go_ret
          exact ⟨ret_bool (by rw [fairB_eq, HH.out h3 h2]; rfl), ext_alloc (HE0.out.trans (HF.out.below HE0.out.size (fun k hk => by omega))) _⟩
    · obtain rfl : k = n := by omega
      have hfull : l.take k = l := by rw [← HN.out, List.take_length]
      have hcm := HCM.out; have hs7 := S7.out.1; have hs8 := S8.out.1
      rw [hfull] at hcm hs7 hs8
      have HFB := Lib.hid (show fairB l need t = (decide ((m7.length : Int) < t) && decide ((m8.length : Int) ≤ 1)) by rw [fairB_eq, hcm, hs7, hs8, show decide (diffB l 8 ≤ 1) = decide ((diffB l 8 : Int) ≤ 1) from by congr 1; apply propext; omega]; rfl)
      clear hfull hcm hs7 hs8
      have hl7 := fun ty => P7.out.run_len (mt := 101) Tryd.underlying101 ty
      have hl8 := fun ty => P8.out.run_len (mt := 101) Tryd.underlying101 ty
      have HX := Lib.hid (HE0.out.trans (HF.out.below HE0.out.size (fun k hk => by omega)))
      cases h7 : decide ((m7.length : Int) < t)
      all_goals cases h8 : decide ((m8.length : Int) ≤ 1)
      all_goals
        go_wp2_with fail
        go_ret
        exact ⟨ret_bool (by rw [HFB.out, h7, h8]; rfl), HX.out⟩
end Go.Proofs.YtjjkonaopmipoaaDoor
