/- Walks: the document's Owner, different and Fair (greatsealref33). -/
import Derived.Test.YtjjkonaopmipoaaDoorNmU
import Derived.Test.YtjjkonaopmipoaaDoorAuP
import Derived.Test.YtjjkonaopmipoaaDoorRep
import Derived.Deep.QuietTactic
import Derived.BigQuiet
namespace Go.Proofs.YtjjkonaopmipoaaDoor
open Go.RowKit Nam Aud

/-- An event's six cells. -/
def EvAt : ElR Ev := fun w b o e =>
  w.cell? ⟨b, o, none⟩ = some (.int .i64 e.kind) ∧ w.cell? ⟨b, o + 1, none⟩ = some (.int .i64 e.at_) ∧ w.cell? ⟨b, o + 2, none⟩ = some (.string e.who) ∧
  w.cell? ⟨b, o + 3, none⟩ = some (.string e.name) ∧ w.cell? ⟨b, o + 4, none⟩ = some (.int .i64 e.n) ∧ w.cell? ⟨b, o + 5, none⟩ = some (.int .i64 e.m)
instance evFirm : Firm EvAt where
  ext := fun {w w' b o e} h hE => by
    obtain ⟨h0, h1, h2, h3, h4, h5⟩ := h
    exact ⟨(hE.cell (cell_lt h0)).trans h0, (hE.cell (cell_lt h1)).trans h1, (hE.cell (cell_lt h2)).trans h2, (hE.cell (cell_lt h3)).trans h3, (hE.cell (cell_lt h4)).trans h4, (hE.cell (cell_lt h5)).trans h5⟩
/-- From address a on there lie those events. -/
abbrev Evs (w : World) (a : Option Addr) (l : List Ev) : Prop := SlA 6 EvAt w a l
/-- What the forward search has found. -/
def Found (o : Option ByteArray) (who met : Value) : Prop := (o = none ∧ who = .string ⟨#[]⟩ ∧ met = .bool false) ∨ ∃ x, o = some x ∧ who = .string x ∧ met = .bool true
theorem found_hit {A : ByteArray} {now : Int} {T l : List Ev} {e : Ev} (hT : T = l ++ [e]) (h : hits A now e = true) : Found (lastHit A now T) (.string e.who) (.bool true) := by
  rw [hT, lastHit_snoc, if_pos h]; exact .inr ⟨_, rfl, rfl, rfl⟩
theorem found_miss {A : ByteArray} {now : Int} {T l : List Ev} {e : Ev} {who met : Value} (hT : T = l ++ [e]) (h : hits A now e = false) (hF : Found (lastHit A now l) who met) : Found (lastHit A now T) who met := by
  rw [hT, lastHit_snoc, if_neg (by rw [h]; simp)]; exact hF
theorem eta_bs (s : ByteArray) : (⟨s.data.toList.toArray⟩ : ByteArray) = s := by cases s; simp
set_option maxRecDepth 100000 in
set_option maxHeartbeats 2000000 in
theorem rOwner_any (l : List Ev) (s : ByteArray) (now : Int) (a : Option Addr) (cap n : Nat) (w : World) (hn : l.length = n) (hnm : n ≤ maxLen) (hl : Evs w a l) (hs : s.size ≤ 9223372036854775807) :
    Calls Tryd.prog 16 #[.slice a n cap, .string s, .int .i64 now] w (Ret (.string (ownerB l s.data.toList now)) w) := by
  unfold maxLen at hnm
  have HN := Lib.hid hn; have HL := Lib.hid hl; clear hn hl
  go_enter Tryd.func16, Tryd.ntmps16
  go_wp2_with fail
  go_loopw [7, 8, 9] (fun v _ _ wr => ∃ (A : ByteArray), v = .string A ∧ A.size ≤ s.size ∧ ownerB l A.data.toList now = ownerB l s.data.toList now ∧ Ext w wr) (fun v _ _ _ => match v with | .string A => A.size | _ => 0)
  case atStart => exact ⟨s, rfl, Nat.le_refl _, rfl, Below.refl _ _⟩
  case round =>
    obtain ⟨A, rfl, hA, hO, hEr⟩ := hrel
    have HO := Lib.hid hO; clear hO
    have hAd : A.toList = A.data.toList := Lib.toList_data A
    have HAD := Lib.hid hAd; clear hAd
    cases hae : A.toList.isEmpty
    · have hne : A.data.toList ≠ [] := by rw [← HAD.out]; intro h; rw [h] at hae; cases hae
      obtain ⟨w0, hw0⟩ : ∃ w0, w0 = wr := ⟨_, rfl⟩
      have hE0 : Ext w0 wr := by rw [hw0]; exact Below.refl _ _
      rw [← hw0] at hEr
      have HLL : Hid (Evs w0 a l) := Lib.hid (HL.out.ext hEr)
      have HE0 := Lib.hid hE0; have HER := Lib.hid hEr; have HNE := Lib.hid hne; clear hE0 hEr hw0 hne
      go_wp2_with fail
      go_loopw [8, 9, 19] (fun who met i wi => ∃ k : Nat, k ≤ n ∧ i = .int .i64 k ∧ Found (lastHit A now (l.take k)) who met ∧ Ext w0 wi) (fun _ _ i _ => n - (intOf i).toNat)
      case atStart => exact ⟨0, Nat.zero_le _, rfl, .inl ⟨rfl, rfl, rfl⟩, HE0.out⟩
      case round =>
        obtain ⟨k, hk, rfl, hF, hEi⟩ := hrel
        have HF := Lib.hid hF; clear hF
        by_cases hlt : k < n
        · obtain ⟨e, he⟩ := get_some HN.out hlt
          obtain ⟨b, off, rfl, c0, c1, c2, c3, c4, c5⟩ := (HLL.out.ext hEi) k e he
          have HT := Lib.hid (take_snoc he)
          clear he
          cases h1 : (e.kind == 1)
          all_goals cases h2 : (e.name.toList == A.toList)
          all_goals cases h3 : decide (e.at_ ≤ now)
          all_goals
            have HH := Lib.hid (show hits A now e = _ from by unfold hits; rw [h1, h2, h3])
            go_wp2_with fail
            go_roundw
            case rel => exact ⟨k + 1, by omega, by go_num, by first | exact found_miss HT.out HH.out HF.out | exact found_hit HT.out HH.out, ext_alloc hEi _⟩
            case measure => simp [intOf]; omega
        · have hkn : k = n := by omega
          have HK := Lib.hid hkn; clear hkn
          have hfull : l.take k = l := by rw [HK.out, ← HN.out, List.take_length]
          have hF := HF.out
          rw [hfull] at hF
          rcases hF with ⟨hnone, rfl, rfl⟩ | ⟨x, hsome, rfl, rfl⟩
          · have hup := ownerB_up (now := now) HNE.out (by rw [eta_bs]; exact hnone)
            have HUP := Lib.hid hup; clear hup hnone hfull
            obtain ⟨Y, hY⟩ : ∃ Y : ByteArray, ⟨(up A.data.toList).toArray⟩ = Y := ⟨_, rfl⟩
            have HY := Lib.hid hY; clear hY
            go_wp2_with (go_at_call 28; refine (rUp_any _ _ (by omega)).mono ?_; rintro e w2 ⟨rfl, h2⟩; rw [HY.out]; replace hEi := ext_trans hEi h2; clear h2)
            go_roundw
            case rel =>
              have hYs : Y.size ≤ s.size := by rw [← HY.out]; exact up_size A _ hA
              exact ⟨Y, rfl, hYs, by rw [← HY.out]; exact HUP.out.symm.trans HO.out, ext_trans HER.out hEi⟩
            case measure =>
              rw [← HY.out]
              show (⟨(up A.data.toList).toArray⟩ : ByteArray).size < A.size
              rw [size_bs, Lib.size_eq]
              by_cases hu : up A.data.toList = []
              · rw [hu]; exact List.length_pos_iff.2 HNE.out
              · exact up_lt _ hu
          · have hh := ownerB_hit (now := now) HNE.out (by rw [eta_bs]; exact hsome)
            have HH := Lib.hid (hh.symm.trans HO.out); clear hh hsome hfull
            go_wp2_with fail
            go_ret
            exact ⟨ret_str HH.out, ext_trans HER.out hEi⟩
    · have hnil : A.data.toList = [] := by rw [← HAD.out]; simpa using hae
      have hO := HO.out
      rw [hnil, ownerB_nil] at hO
      have HO2 := Lib.hid hO; clear hO hnil
      go_wp2_with fail
      go_ret
      exact ⟨ret_str HO2.out, hEr⟩
end Go.Proofs.YtjjkonaopmipoaaDoor
