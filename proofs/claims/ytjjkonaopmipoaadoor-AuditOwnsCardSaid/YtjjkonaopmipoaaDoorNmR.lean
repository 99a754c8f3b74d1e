/- Walks: the document's functions on names. -/
import Derived.Test.YtjjkonaopmipoaaDoorNmC
import Derived.Test.YtjjkonaopmipoaaDoorSl
namespace Go.Proofs.YtjjkonaopmipoaaDoor
open Go.RowKit Nam

set_option maxHeartbeats 400000 in
theorem word_any (r : Int) (w : World) :
    Calls Tryd.prog 66 #[.int .u8 r] w fun e w' => e = .returned (.bool (edgeR r)) ∧ w = w' := by
  go_enter Tryd.func66, Tryd.ntmps66
  go_wp2
  all_goals (go_ret; refine ⟨ret_bool ?_, rfl⟩; rw [Bool.eq_iff_iff]; simp [edgeR]; try omega)
theorem inner_of_edge {r : Int} (h : edgeR r = true) : innerR r = true := by unfold innerR; rw [h]; simp
theorem labelB_iff {s : ByteArray} (g1 : 1 ≤ s.size) (g2 : s.size ≤ 16) : labelB s.data.toList = true ↔
    edgeR (((s.data.toList.getD (s.size - 1) 0).toNat : Nat) : Int) = true ∧ (edgeR (((s.data.toList.getD 0 0).toNat : Nat) : Int) = true ∨ (s.data.toList.getD 0 0).toNat = 95) ∧
    ∀ j, 1 ≤ j → j < s.size → innerR (((s.data.toList.getD j 0).toNat : Nat) : Int) = true := by
  have hiff : labelB s.data.toList = true ↔ ∀ j, j < s.size → okR s.size j ((s.data.toList.getD j 0).toNat : Int) = true := by
    unfold labelB
    rw [← Lib.size_eq]
    simp only [Bool.and_eq_true, decide_eq_true_eq, List.all_eq_true, List.mem_range]
    exact ⟨fun h => h.2, fun h => ⟨⟨g1, g2⟩, h⟩⟩
  rw [hiff]
  constructor
  · intro h
    refine ⟨?_, ?_, fun j h1 h2 => ?_⟩
    · have := h (s.size - 1) (by omega)
      unfold okR at this; rwa [if_pos (by omega)] at this
    · have := h 0 (by omega)
      unfold okR at this
      split at this
      · exact .inl this
      · rw [if_pos rfl] at this
        rcases Bool.or_eq_true _ _ ▸ this with h | h
        · exact .inl h
        · right; have := beq_iff_eq.1 h; omega
    · have := h j h2
      unfold okR at this
      split at this
      · exact inner_of_edge this
      · rwa [if_neg (by omega)] at this
  · rintro ⟨h1, h2, h3⟩ j hj
    unfold okR
    split
    · rename_i he
      obtain rfl : j = s.size - 1 := by omega
      exact h1
    · split
      · rename_i h0; subst h0
        rcases h2 with h2 | h2
        · rw [h2]; rfl
        · rw [h2]; simp
      · exact h3 j (by omega) hj
def InnerTo (s : ByteArray) (k : Nat) : Prop := ∀ j, 1 ≤ j → j < k → innerR (((s.data.toList.getD j 0).toNat : Nat) : Int) = true
theorem innerTo_step {s : ByteArray} {k : Nat} (hk : k < s.size) (h : InnerTo s k) (hi : innerR (((s[k].toNat : Nat)) : Int) = true) : InnerTo s (k + 1) := by
  intro j h1 h2
  by_cases e : j = k
  · subst e; rw [good_get hk]; exact hi
  · exact h j h1 (by omega)
theorem label_not_inner {s : ByteArray} (g1 : 1 ≤ s.size) (g2 : s.size ≤ 16) {k : Nat} (h1 : 1 ≤ k) (hk : k < s.size) (hi : innerR (((s[k].toNat : Nat)) : Int) = false) : labelB s.data.toList = false := by
  rw [Bool.eq_false_iff]; intro h
  have := ((labelB_iff g1 g2).1 h).2.2 k h1 hk
  rw [good_get hk, hi] at this; cases this
set_option maxHeartbeats 1000000 in
theorem rlabel_any (s : ByteArray) (w : World) (hs : s.size ≤ 9223372036854775807) :
    Calls Tryd.prog 57 #[.string s] w fun e w' => e = .returned (.bool (labelB s.data.toList)) ∧ w = w' := by
  by_cases h0 : s.size < 1 ∨ 16 < s.size
  · have h := label_short (s := s) (by omega)
    have H := Lib.hid h; clear h
    rcases h0 with h0 | h0
    all_goals
      go_enter Tryd.func57, Tryd.ntmps57
      go_wp2
      go_ret
      exact ⟨ret_bool H.out.symm, rfl⟩
  · have g1 : 1 ≤ s.size := by omega
    have g2 : s.size ≤ 16 := by omega
    clear h0
    have HI := Lib.hid (labelB_iff g1 g2)
    have HG : ∀ k (h : k < s.size), Hid (s.data.toList.getD k 0 = s[k]) := fun k h => Lib.hid (good_get h)
    have HGG := Lib.hid HG; clear HG
    have t1 : decide ((s.size : Int) < 1) = false := by simp; omega
    have t2 : decide ((16 : Int) < s.size) = false := by simp; omega
    have g0 : 0 < s.size := by omega
    have gl : s.size - 1 < s.size := by omega
    by_cases hA : edgeR (s[s.size - 1].toNat : Int) = true
    rotate_left 1
    · have hf : labelB s.data.toList = false := by
        rw [Bool.eq_false_iff]; intro h
        have := (HI.out.1 h).1
        rw [(HGG.out _ (by omega)).out] at this
        exact hA this
      have hA' : edgeR (s[s.size - 1].toNat : Int) = false := by simpa using hA
      have HF := Lib.hid hf; clear hf hA
      go_enter Tryd.func57, Tryd.ntmps57
      go_wp2_with (go_at_call 66; refine (word_any _ _).mono ?_; rintro e w' ⟨rfl, rfl⟩)
      go_ret
      exact ⟨ret_bool HF.out.symm, rfl⟩
    by_cases hB : edgeR (s[0].toNat : Int) = true ∨ s[0].toNat = 95
    rotate_left 1
    · have hf : labelB s.data.toList = false := by
        rw [Bool.eq_false_iff]; intro h
        have := (HI.out.1 h).2.1
        rw [(HGG.out 0 (by omega)).out] at this
        exact hB this
      have hB' : edgeR (s[0].toNat : Int) = false := by rw [Bool.eq_false_iff]; exact fun h => hB (.inl h)
      have hC' : ((s[0].toNat : Int) != 95) = true := by rw [bne_iff_ne]; intro h; exact hB (.inr (by omega))
      have HF := Lib.hid hf; clear hf hB
      go_enter Tryd.func57, Tryd.ntmps57
      go_wp2_with (go_at_call 66; refine (word_any _ _).mono ?_; rintro e w' ⟨rfl, rfl⟩)
      go_ret
      exact ⟨ret_bool HF.out.symm, rfl⟩
    have HL := Lib.hid hA; have HF := Lib.hid hB
    have hX : edgeR (s[0].toNat : Int) = true ∨ (edgeR (s[0].toNat : Int) = false ∧ ((s[0].toNat : Int) != 95) = false) := by
      cases h : edgeR (s[0].toNat : Int)
      · right; exact ⟨rfl, by have := hB.resolve_left (by rw [h]; simp); simp; omega⟩
      · exact .inl rfl
    clear hB
    rcases hX with hB | ⟨hB, hC⟩
    all_goals
      go_enter Tryd.func57, Tryd.ntmps57
      go_wp2_with (go_at_call 66; refine (word_any _ _).mono ?_; rintro e w' ⟨rfl, rfl⟩)
      go_loop [4] (fun i => ∃ k : Nat, 1 ≤ k ∧ k ≤ s.size ∧ i = .int .i64 k ∧ InnerTo s k) (fun i => s.size - (intOf i).toNat)
      case atStart => exact ⟨1, by omega, g1, rfl, fun j h1 h2 => by omega⟩
      case round =>
        obtain ⟨k, h1k, hk, rfl, hin⟩ := hrel
        have HIN := Lib.hid hin; clear hin
        by_cases hlt : k < s.size
        · go_wp2_with (go_at_call 66; refine (word_any _ _).mono ?_; rintro e w' ⟨rfl, rfl⟩)
          · have ht : edgeR (s[k].toNat : Int) = true := by assumption
            go_round
            case rel => exact ⟨k + 1, by omega, by omega, by go_num, innerTo_step hlt HIN.out (inner_of_edge ht)⟩
            case measure => simp [intOf]; omega
          · have ht : ¬ edgeR (s[k].toNat : Int) = true := by assumption
            have ht2 : ((s[k].toNat : Int) != 45) = true := by assumption
            have hf : labelB s.data.toList = false := label_not_inner g1 g2 h1k hlt (by unfold innerR; rw [Bool.eq_false_iff.2 ht]; simpa using ht2)
            go_ret
            exact ⟨ret_bool hf.symm, rfl⟩
          · have ht2 : ((s[k].toNat : Int) != 45) = false := by assumption
            have hin : innerR (s[k].toNat : Int) = true := by unfold innerR; rw [show ((s[k].toNat : Int) == 45) = true from by simpa using ht2]; rfl
            go_round
            case rel => exact ⟨k + 1, by omega, by omega, by go_num, innerTo_step hlt HIN.out hin⟩
            case measure => simp [intOf]; omega
        · have hf : labelB s.data.toList = true := HI.out.2 ⟨by rw [(HGG.out _ (by omega)).out]; exact HL.out, by rw [(HGG.out _ (by omega)).out]; exact HF.out, fun j h1 h2 => HIN.out j h1 (by omega)⟩
          have HT := Lib.hid hf; clear hf
          go_wp2
          go_ret
          exact ⟨ret_bool HT.out.symm, rfl⟩
theorem cut_first : ∀ (m : Nat) (l : Str), (∀ j : Nat, j < m → l[j]? ≠ some (46 : UInt8)) → l[m]? = some (46 : UInt8) → cut l = l.take m :: cut (l.drop (m + 1))
  | _, [], _, h => by simp at h
  | 0, c :: t, _, h => by simp at h; subst h; simp [cut]
  | m + 1, c :: t, h1, h => by
    have hc : c ≠ 46 := fun e => h1 0 (by omega) (by simp [e])
    rw [cut, if_neg hc, cut_first m t (fun j hj => by have := h1 (j + 1) (by omega); simpa using this) (by simpa using h)]
    simp
theorem cut_free : ∀ (l : Str), (∀ j : Nat, l[j]? ≠ some (46 : UInt8)) → cut l = [l]
  | [], _ => rfl
  | c :: t, h => by
    have hc : c ≠ 46 := fun e => h 0 (by simp [e])
    rw [cut, if_neg hc, cut_free t (fun j => by have := h (j + 1); simpa using this)]
def strV (x : Str) : Value := .string ⟨x.toArray⟩
theorem Tryd.infoStr : (Tryd.prog.info? 9).map (fun i => (i.zero, i.size, i.bytes)) = some (some (.string ⟨#[]⟩), 1, 16) := by kernel_rfl
theorem piece_eq (s : ByteArray) (a b : Nat) : s.extract a b = ⟨((s.data.toList.drop a).take (b - a)).toArray⟩ := by
  apply ByteArray.ext; apply Array.ext'
  simp
/-- Where the loop of cut stands: pieces out, from f on none is closed, at i. -/
structure CutAt (l : Str) (outs : List Str) (f i : Nat) : Prop where
  le : f ≤ i
  cut : cut l = outs ++ cut (l.drop f)
  free : ∀ j : Nat, f ≤ j → j < i → l[j]? ≠ some (46 : UInt8)
theorem CutAt.start (l : Str) : CutAt l [] 0 0 := ⟨Nat.le_refl _, by simp, fun j h1 h2 => by omega⟩
theorem CutAt.next {l : Str} {outs : List Str} {f i : Nat} (h : CutAt l outs f i) (hi : l[i]? ≠ some (46 : UInt8)) : CutAt l outs f (i + 1) :=
  ⟨by have := h.le; omega, h.cut, fun j h1 h2 => by
    by_cases e : j = i
    · subst e; exact hi
    · exact h.free j h1 (by omega)⟩
theorem CutAt.hit {l : Str} {outs : List Str} {f i : Nat} (h : CutAt l outs f i) (hi : l[i]? = some (46 : UInt8)) : CutAt l (outs ++ [(l.drop f).take (i - f)]) (i + 1) (i + 1) := by
  have hle := h.le
  refine ⟨Nat.le_refl _, ?_, fun j h1 h2 => by omega⟩
  rw [h.cut, cut_first (i - f) (l.drop f) (fun j hj => by rw [List.getElem?_drop]; exact h.free _ (by omega) (by omega)) (by rw [List.getElem?_drop, show f + (i - f) = i by omega]; exact hi), List.drop_drop, List.append_assoc]
  rw [show f + (i - f + 1) = i + 1 by omega]; rfl
theorem CutAt.stop {l : Str} {outs : List Str} {f i : Nat} (h : CutAt l outs f i) (hi : l.length ≤ i) : Nam.cut l = outs ++ [l.drop f] := by
  rw [h.cut, cut_free (l.drop f) (fun j => by
    rw [List.getElem?_drop]
    by_cases e : f + j < i
    · exact h.free _ (by omega) e
    · rw [List.getElem?_eq_none (by omega)]; simp)]
def RetSl (l : List Value) (w : World) (e : Ending) (w' : World) : Prop := ∃ v, e = .returned v ∧ Sl w' v l ∧ Ext w w'
def CutRel (s : ByteArray) (B : Nat) (w : World) (o fr i : Value) (wr : World) : Prop :=
  ∃ (k f : Nat) (outs : List Str), k ≤ s.size ∧ i = .int .i64 k ∧ fr = .int .i64 f ∧ CutAt s.data.toList outs f k ∧ outs.length ≤ k ∧ wr.ownsRow B 9 1 o outs.length (outs.map strV) ∧ Ext w wr
set_option maxHeartbeats 1000000 in
theorem rcut_any (s : ByteArray) (w : World) (hs : s.size ≤ 1000) :
    Calls Tryd.prog 48 #[.string s] w (RetSl ((cut s.data.toList).map strV) w) := by
  obtain ⟨i0, hi, hz0, hz1, hz2⟩ := info_parts Tryd.infoStr
  go_enter Tryd.func48, Tryd.ntmps48
  go_wp2
  go_loopw [3, 4, 5] (fun o fr i wr => CutRel s w.heap.size w o fr i wr) (fun _ _ i _ => s.size - (intOf i).toNat)
  case atStart => exact ⟨0, 0, [], Nat.zero_le _, rfl, rfl, CutAt.start _, Nat.le_refl _, World.ownsRow_nil _ _ _ _, Below.refl _ _⟩
  case round =>
    obtain ⟨k, f, outs, hk, rfl, rfl, hcut, hol, hown, hE⟩ := hrel
    have hf := hcut.le
    have HC := Lib.hid hcut; clear hcut
    have hsz := hE.size
    by_cases hlt : k < s.size
    · by_cases hdot : s[k] = 46
      · have hb : ((s[k].toNat : Int) == 46) = true := by rw [hdot]; rfl
        have hnext := HC.out.hit (by rw [Lib.data_getElem? s k hlt, hdot])
        have HN := Lib.hid hnext; clear hnext
        have HD := Lib.hid hdot; clear hdot
        go_wp2_with (at_builtin; refine wpList_append_own _ rfl _ _ 47 rfl w.heap.size 9 i0 (.string ⟨#[]⟩) 1 16 Tryd.underlying47 hi hz0 hz1 hz2 rfl (by decide) u3 _ _ rfl (hown.alloc _) ⟨wr.heap.size, 0, none⟩ 1 1 [.string (s.extract f k)] rfl rfl (one_cell_new _ _ _) (by simp [Value.oneCell']) (by unfold maxLen; omega) (by omega) (by simp; omega) ?_; intro v' w1 hown1 hgrow1 _)
        go_roundw
        case rel =>
          refine ⟨k + 1, k + 1, _, by omega, by go_num, by go_num, HN.out, by simp; omega, ?_, (hE.alloc hsz _).grown hgrow1 (by simp; omega) (own_ge hown)⟩
          rw [List.map_append, List.length_append]
          simp only [List.map_cons, List.map_nil, strV, List.length_singleton]
          rw [← piece_eq]; exact hown1
        case measure => simp [intOf]; omega
      · have hb : ((s[k].toNat : Int) == 46) = false := by
          rw [beq_eq_false_iff_ne]; intro h; exact hdot (Lib.byte_eq_of_toNat (by rw [h]; rfl))
        have hnext := HC.out.next (by rw [Lib.data_getElem? s k hlt]; simpa using hdot)
        have HN := Lib.hid hnext; clear hnext
        have HD := Lib.hid hdot; clear hdot
        go_wp2
        go_roundw
        case rel => exact ⟨k + 1, f, outs, by omega, by go_num, rfl, HN.out, by omega, hown, hE⟩
        case measure => simp [intOf]; omega
    · have hfin := HC.out.stop (by rw [← Lib.size_eq]; omega)
      have HFin := Lib.hid hfin; clear hfin
      go_wp2_with (at_builtin; refine wpList_append_own _ rfl _ _ 47 rfl w.heap.size 9 i0 (.string ⟨#[]⟩) 1 16 Tryd.underlying47 hi hz0 hz1 hz2 rfl (by decide) u3 _ _ rfl (hown.alloc _) ⟨wr.heap.size, 0, none⟩ 1 1 [.string (s.extract f s.size)] rfl rfl (one_cell_new _ _ _) (by simp [Value.oneCell']) (by unfold maxLen; omega) (by omega) (by simp; omega) ?_; intro v' w1 hown1 hgrow1 _)
      go_ret
      refine ⟨v', rfl, ?_, (hE.alloc hsz _).grown hgrow1 (by simp; omega) (own_ge hown)⟩
      rw [HFin.out, List.map_append]
      simp only [List.map_cons, List.map_nil, strV]
      rw [← drop_eq]; exact Sl.own hown1
end Go.Proofs.YtjjkonaopmipoaaDoor
