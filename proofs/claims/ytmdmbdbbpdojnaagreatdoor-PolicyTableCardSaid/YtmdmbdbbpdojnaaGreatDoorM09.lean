/- Names, in plain Lean: the program's answers are the document's. Rules as they lie in memory; walks of the document's functions on rules (greatsealref15): small, Name, stands, named. Walks of the document's functions on rules: named, Form. Walks of the document's functions on rules: Check, Texts. -/
import Derived.Test.YtmdmbdbbpdojnaaGreatDoorM04
import Derived.Test.YtmdmbdbbpdojnaaGreatDoorM08
import Derived.Test.YtmdmbdbbpdojnaaGreatDoorM03
namespace Go.Proofs.YtmdmbdbbpdojnaaGreatDoor
namespace Nam
theorem label_star (t : Str) : labelB (42 :: t) = false := by
  rw [Bool.eq_false_iff]; intro h
  unfold labelB at h
  simp only [Bool.and_eq_true, List.all_eq_true, List.mem_range] at h
  have := h.2 0 (by simp)
  unfold okR at this
  have h1 : edgeR (((42 :: t).getD 0 0).toNat : Int) = false := by simp [edgeR]
  have h2 : innerR (((42 :: t).getD 0 0).toNat : Int) = false := by simp [innerR, edgeR]
  rw [h1, h2] at this
  split at this
  · cases this
  · split at this
    · simp at this
    · cases this
theorem cut_star (t : Str) : ∃ h r, cut (42 :: t) = (42 :: h) :: r := by
  unfold cut
  rw [if_neg (by decide)]
  split
  · exact ⟨_, _, rfl⟩
  · exact ⟨_, _, rfl⟩
theorem isB_star (t : Str) : isB (42 :: t) = false := by
  rw [Bool.eq_false_iff]; intro h
  obtain ⟨x, r, hx⟩ := cut_star t
  have := (isB_iff.1 h).2.2 (42 :: x) (by rw [hx]; simp)
  rw [label_star] at this; cases this
theorem isB_nil : isB [] = false := by decide
theorem prefix_cases (l : Str) : Lib.hasPrefix l [42, 46] = true ↔ ∃ t, l = 42 :: 46 :: t := by
  unfold Lib.hasPrefix
  match l with
  | [] => simp
  | [a] => simp [List.isPrefixOf]
  | a :: b :: t =>
    have e : List.isPrefixOf [42, 46] (a :: b :: t) = (42 == a && 46 == b) := by simp [List.isPrefixOf]
    rw [e, Bool.and_eq_true, beq_iff_eq, beq_iff_eq]
    constructor
    · rintro ⟨h1, h2⟩; exact ⟨t, by rw [h1, h2]⟩
    · rintro ⟨t', h⟩
      injection h with h1 h2; injection h2 with h2 _
      exact ⟨h1.symm, h2.symm⟩
theorem nameB_iff {l : Str} {a b : Nat} : nameB l a b = true ↔ l.length ≤ b ∧ (cut l).length ≤ a ∧ ∀ x ∈ cut l, labelB x = true := by
  unfold nameB
  simp only [Bool.and_eq_true, decide_eq_true_eq, List.all_eq_true]
  exact ⟨fun h => ⟨h.1.1, h.1.2, h.2⟩, fun h => ⟨⟨h.1, h.2.1⟩, h.2.2⟩⟩
theorem starB_iff (l : Str) : starB l = true ↔ ∃ t, l = 42 :: 46 :: t ∧ nameB t 7 62 = true := by
  unfold starB
  simp only [Bool.and_eq_true, decide_eq_true_eq, beq_iff_eq]
  constructor
  · rintro ⟨⟨⟨⟨⟨h1, h2⟩, h3⟩, h4⟩, h5⟩, h6⟩
    match l, h1 with
    | a :: b :: t, _ =>
      simp at h3 h4
      subst h3 h4
      refine ⟨t, rfl, nameB_iff.2 ⟨by simp at h2; omega, h6, (isB_iff.1 h5).2.2⟩⟩
  · rintro ⟨t, rfl, h⟩
    obtain ⟨a, b, c⟩ := nameB_iff.1 h
    have ht : t ≠ [] := by
      rintro rfl
      have := c [] (by simp [cut]); revert this; decide
    have hl : 1 ≤ t.length := by cases t with | nil => exact absurd rfl ht | cons => simp
    exact ⟨⟨⟨⟨⟨by simp; omega, by simp; omega⟩, rfl⟩, rfl⟩, isB_iff.2 ⟨by simp; omega, by simp; omega, c⟩⟩, b⟩
theorem star_not_name {l : Str} (h : starB l = true) : isB l = false := by
  obtain ⟨t, rfl, _⟩ := (starB_iff l).1 h
  exact isB_star _
theorem starOf_eq {l : Str} (h : starB l = true) : starOf l = l.drop 2 := by rw [starOf, if_pos h]
/-- What pattern comes to, told by the document's words. -/
theorem pattern_ok (l : Str) : (pattern l).2.2 = rpatB l := by
  unfold pattern rpatB
  split
  · rename_i h; rw [h]; simp
  · rename_i h
    rw [Bool.eq_false_iff.2 h, Bool.or_false]
    split
    · rename_i hp
      obtain ⟨t, rfl⟩ := (prefix_cases l).1 hp
      rw [Bool.eq_iff_iff, starB_iff]
      constructor
      · intro h; exact ⟨t, rfl, h⟩
      · rintro ⟨t', h1, h2⟩; simp at h1; subst h1; exact h2
    · rename_i hp
      symm; rw [Bool.eq_false_iff]; intro hs
      obtain ⟨t, rfl, _⟩ := (starB_iff l).1 hs
      exact hp ((prefix_cases _).2 ⟨t, rfl⟩)
theorem pattern_star {l : Str} (h : starB l = true) : pattern l = (starOf l, true, true) := by
  have h1 := star_not_name h
  obtain ⟨t, rfl, ht⟩ := (starB_iff l).1 h
  unfold pattern
  rw [h1, if_neg (by simp), if_pos ((prefix_cases _).2 ⟨t, rfl⟩), starOf_eq h]
  simp [ht]
theorem pattern_name {l : Str} (h : isB l = true) : pattern l = (l, false, true) := by unfold pattern; rw [if_pos h]
theorem star_false_of_name {l : Str} (h : isB l = true) : starB l = false := by
  rw [Bool.eq_false_iff]; intro hs; rw [star_not_name hs] at h; cases h
theorem match_eq (p s : Str) : matchB p s = rmatchB p s := by
  unfold matchB rmatchB
  rw [pattern_ok]
  cases hs : isB s
  · simp
  · cases hst : starB p
    · cases hn : isB p
      · have : rpatB p = false := by unfold rpatB; rw [hst, hn]; rfl
        rw [this]
        simp
        intro e; rw [e, hs] at hn; cases hn
      · rw [pattern_name hn]
        have : rpatB p = true := by unfold rpatB; rw [hst, hn]; rfl
        rw [this]; simp
    · rw [pattern_star hst]
      have : rpatB p = true := by unfold rpatB; rw [hst]; rfl
      rw [this]; simp
theorem starOf_name {l : Str} (h : starB l = true) : isB (starOf l) = true ∧ starOf l ≠ [] := by
  rw [starOf_eq h]
  obtain ⟨t, rfl, ht⟩ := (starB_iff l).1 h
  obtain ⟨a, b, c⟩ := nameB_iff.1 ht
  have hB : isB t = true := isB_iff.2 ⟨by omega, by omega, c⟩
  refine ⟨hB, ?_⟩
  rintro h; simp at h; rw [h] at hB; cases hB
theorem under_star {p q : Str} (hp : starB p = true) (hq : starB q = true) : underB (starOf p) (starOf q) = (starOf p == starOf q || belowB (starOf p) (starOf q)) := by
  unfold underB
  rw [(starOf_name hp).1, List.isEmpty_eq_false_iff.2 (starOf_name hq).2]; simp
theorem within_eq (p q : Str) : withinB p q = rwithinB p q := by
  unfold withinB rwithinB
  rw [pattern_ok, pattern_ok]
  cases hp : rpatB p
  · simp
  cases hq : rpatB q
  · simp
  simp only [Bool.not_true, Bool.or_self, Bool.false_eq_true, if_false]
  cases hsp : starB p
  · have hnp : isB p = true := by unfold rpatB at hp; rw [hsp] at hp; simpa using hp
    rw [pattern_name hnp]; simp [match_eq]
  · rw [pattern_star hsp]
    cases hsq : starB q
    · have hnq : isB q = true := by unfold rpatB at hq; rw [hsq] at hq; simpa using hq
      rw [pattern_name hnq]; simp
    · rw [pattern_star hsq]; simp [under_star hsp hsq]
theorem rmatch_no {p s : Str} (hs : isB s = false) : rmatchB p s = false := by unfold rmatchB; rw [hs]; rfl
theorem meets_eq (p q : Str) : meetsB p q = rmeetsB p q := by
  unfold meetsB rmeetsB
  rw [within_eq, within_eq]
  cases hsp : starB p
  · cases hsq : starB q
    · simp only [Bool.and_self, Bool.false_eq_true, if_false]
      unfold rwithinB rpatB
      rw [hsp, hsq]
      cases hnp : isB p
      · rw [rmatch_no (p := q) hnp]
        have : rmatchB p q = false := by
          unfold rmatchB; rw [hsp]
          cases hq : isB q
          · rfl
          · simp; intro e; rw [e, hq] at hnp; cases hnp
        rw [this]; simp
      · cases hnq : isB q
        · rw [rmatch_no (p := p) hnq]
          have : rmatchB q p = false := by
            unfold rmatchB; rw [hsq, hnp]; simp; intro e; rw [e, hnp] at hnq; cases hnq
          rw [this]; simp
        · simp [Bool.or_comm]
    · have hnq := star_not_name hsq
      simp only [Bool.and_true, Bool.false_eq_true, if_false]
      rw [rmatch_no (p := p) hnq]
      unfold rwithinB rpatB
      rw [hsp, hsq]
      cases hnp : isB p
      · rw [rmatch_no (p := q) hnp]; simp
      · simp
  · have hnp := star_not_name hsp
    cases hsq : starB q
    · simp only [Bool.and_false, Bool.false_eq_true, if_false]
      rw [rmatch_no (p := q) hnp]
      unfold rwithinB rpatB
      rw [hsp, hsq]
      cases hnq : isB q
      · rw [rmatch_no (p := p) hnq]; simp
      · simp
    · simp only [Bool.and_self, if_true]
      unfold rwithinB rpatB
      rw [hsp, hsq]
      simp
      have : (starOf q == starOf p) = (starOf p == starOf q) := Bool.beq_comm
      rw [this]
      cases (starOf p == starOf q) <;> simp
end Nam
end Go.Proofs.YtmdmbdbbpdojnaaGreatDoor
namespace Go.Proofs.YtmdmbdbbpdojnaaGreatDoor
open Go.RowKit Nam Pol

theorem ext_cell {w w' : World} {b o : Nat} {v : Value} (h : w.cell? ⟨b, o, none⟩ = some v) (hE : Ext w w') : w'.cell? ⟨b, o, none⟩ = some v := (hE.cell (p := ⟨b, o, none⟩) (cell_lt h)).trans h
/-- A text in one cell. -/
def StrAt : ElR ByteArray := fun w b o s => w.cell? ⟨b, o, none⟩ = some (.string s) ∧ s.size ≤ maxLen
instance : Firm StrAt where
  ext := fun h hE => ⟨ext_cell h.1 hE, h.2⟩
/-- From address a on there lie those texts. -/
abbrev Strs (w : World) (a : Option Addr) (l : List ByteArray) : Prop := SlA 1 StrAt w a l
/-- A rule's seven cells. -/
def RulAt : ElR Rul := fun w b o r =>
  w.cell? ⟨b, o, none⟩ = some (.string r.name) ∧ w.cell? ⟨b, o + 1, none⟩ = some (.bool r.allow) ∧
  (∃ a c, w.cell? ⟨b, o + 2, none⟩ = some (.slice a r.pats.length c) ∧ r.pats.length ≤ c ∧ c ≤ maxLen ∧ Strs w a r.pats) ∧
  w.cell? ⟨b, o + 3, none⟩ = some (.int .u64 r.keyMin) ∧ w.cell? ⟨b, o + 4, none⟩ = some (.int .i64 r.lifeMax) ∧ w.cell? ⟨b, o + 5, none⟩ = some (.int .i64 r.most) ∧ w.cell? ⟨b, o + 6, none⟩ = some (.int .i64 r.window) ∧
  r.name.size ≤ maxLen ∧ 0 ≤ r.keyMin
instance : Firm RulAt where
  ext := fun {w w' b o r} h hE => by
    obtain ⟨h0, h1, ⟨a, c, h2, l1, l2, h2'⟩, h3, h4, h5, h6, h7, h8⟩ := h
    exact ⟨ext_cell h0 hE, ext_cell h1 hE, ⟨a, c, ext_cell h2 hE, l1, l2, h2'.ext hE⟩, ext_cell h3 hE, ext_cell h4 hE, ext_cell h5 hE, ext_cell h6 hE, h7, h8⟩
/-- A rule as a value: its patterns' slice at a, of capacity c. -/
def rulV (r : Rul) (a : Option Addr) (c : Nat) : Value := .agg #[.string r.name, .bool r.allow, .slice a r.pats.length c, .int .u64 r.keyMin, .int .i64 r.lifeMax, .int .i64 r.most, .int .i64 r.window]
abbrev Ruls (w : World) (a : Option Addr) (l : List Rul) : Prop := SlA 7 RulAt w a l
set_option maxHeartbeats 400000 in
theorem small_any (c : Int) (w : World) :
    Calls Tryz.prog 152 #[.int .u8 c] w fun e w' => e = .returned (.bool (smallR c)) ∧ w = w' := by
  go_enter Tryz.func152, Tryz.ntmps152
  go_wp2
  all_goals (go_ret; refine ⟨ret_bool ?_, rfl⟩; rw [Bool.eq_iff_iff]; simp [smallR]; try omega)
def NameTo (s : ByteArray) (k : Nat) : Prop := ∀ j, j < k → nameCh (((s.data.toList.getD j 0).toNat : Nat) : Int) = true
theorem ruleName_iff {s : ByteArray} (g1 : 1 ≤ s.size) (g2 : s.size ≤ 16) : ruleName s.data.toList = true ↔ NameTo s s.size := by
  unfold ruleName NameTo
  rw [← Lib.size_eq]
  simp only [Bool.and_eq_true, decide_eq_true_eq, List.all_eq_true]
  constructor
  · rintro ⟨_, h⟩ j hj
    rw [Lib.size_eq] at hj
    rw [List.getD_eq_getElem?_getD, List.getElem?_eq_getElem hj]
    exact h _ (List.getElem_mem hj)
  · refine fun h => ⟨⟨g1, g2⟩, fun c hc => ?_⟩
    obtain ⟨j, hj, rfl⟩ := List.getElem_of_mem hc
    have := h j (by rw [Lib.size_eq]; exact hj)
    rwa [List.getD_eq_getElem?_getD, List.getElem?_eq_getElem hj] at this
theorem ruleName_short {s : ByteArray} (h : s.size < 1 ∨ 16 < s.size) : ruleName s.data.toList = false := by
  unfold ruleName
  rw [← Lib.size_eq]
  rcases h with h | h
  · rw [show decide (1 ≤ s.size) = false by simpa using h]; rfl
  · rw [show decide (s.size ≤ 16) = false by simpa using h]; simp
theorem nameTo_step {s : ByteArray} {k : Nat} (hk : k < s.size) (h : NameTo s k) (hi : nameCh (((s[k].toNat : Nat)) : Int) = true) : NameTo s (k + 1) := by
  intro j h2
  by_cases e : j = k
  · subst e; rw [good_get hk]; exact hi
  · exact h j (by omega)
theorem name_not {s : ByteArray} (g1 : 1 ≤ s.size) (g2 : s.size ≤ 16) {k : Nat} (hk : k < s.size) (hi : nameCh (((s[k].toNat : Nat)) : Int) = false) : ruleName s.data.toList = false := by
  rw [Bool.eq_false_iff]; intro h
  have := (ruleName_iff g1 g2).1 h k hk
  rw [good_get hk, hi] at this; cases this
set_option maxHeartbeats 1000000 in
theorem r15Name_any (s : ByteArray) (w : World) (hs : s.size ≤ maxLen) :
    Calls Tryz.prog 129 #[.string s] w fun e w' => e = .returned (.bool (ruleName s.data.toList)) ∧ w = w' := by
  unfold maxLen at hs
  by_cases h0 : s.size < 1 ∨ 16 < s.size
  · have h := ruleName_short (s := s) h0
    have H := Lib.hid h; clear h
    rcases h0 with h0 | h0
    all_goals
      go_enter Tryz.func129, Tryz.ntmps129
      go_wp2
      go_ret
      exact ⟨ret_bool H.out.symm, rfl⟩
  · have g1 : 1 ≤ s.size := by omega
    have g2 : s.size ≤ 16 := by omega
    clear h0
    have HI := Lib.hid (ruleName_iff g1 g2)
    have t1 : decide ((s.size : Int) < 1) = false := by simp; omega
    have t2 : decide ((16 : Int) < s.size) = false := by simp; omega
    go_enter Tryz.func129, Tryz.ntmps129
    go_wp2
    go_loop [3] (fun i => ∃ k : Nat, k ≤ s.size ∧ i = .int .i64 k ∧ NameTo s k) (fun i => s.size - (intOf i).toNat)
    case atStart => exact ⟨0, Nat.zero_le _, rfl, fun j h => by omega⟩
    case round =>
      obtain ⟨k, hk, rfl, hn⟩ := hrel
      have HN := Lib.hid hn; clear hn
      by_cases hlt : k < s.size
      · cases h1 : smallR (s[k].toNat : Int)
        · cases h2 : ((s[k].toNat : Int) != 45)
          · have hc : nameCh (s[k].toNat : Int) = true := by unfold nameCh; rw [h1]; simpa using h2
            have HC := Lib.hid (nameTo_step hlt HN.out hc); clear hc
            go_wp2_with (go_at_call 152; refine (small_any _ _).mono ?_; rintro e w' ⟨rfl, rfl⟩)
            go_round
            case rel => exact ⟨k + 1, by omega, by go_num, HC.out⟩
            case measure => simp [intOf]; omega
          · have hc : nameCh (s[k].toNat : Int) = false := by unfold nameCh; rw [h1]; simpa using h2
            have HC := Lib.hid (name_not g1 g2 hlt hc); clear hc
            go_wp2_with (go_at_call 152; refine (small_any _ _).mono ?_; rintro e w' ⟨rfl, rfl⟩)
            go_ret
            exact ⟨ret_bool HC.out.symm, rfl⟩
        · have hc : nameCh (s[k].toNat : Int) = true := by unfold nameCh; rw [h1]; rfl
          have HC := Lib.hid (nameTo_step hlt HN.out hc); clear hc
          go_wp2_with (go_at_call 152; refine (small_any _ _).mono ?_; rintro e w' ⟨rfl, rfl⟩)
          go_round
          case rel => exact ⟨k + 1, by omega, by go_num, HC.out⟩
          case measure => simp [intOf]; omega
      · obtain rfl : k = s.size := by omega
        have hf := HI.out.2 HN.out
        have HT := Lib.hid hf; clear hf
        go_wp2
        go_ret
        exact ⟨ret_bool HT.out.symm, rfl⟩
set_option maxHeartbeats 1000000 in
theorem stands_any (l : List ByteArray) (s : ByteArray) (a : Option Addr) (cap n : Nat) (w : World) (hn : l.length = n) (hnm : n ≤ maxLen) (hl : Strs w a l) :
    Calls Tryz.prog 130 #[.slice a n cap, .string s] w fun e w' => e = .returned (.bool (memB l s)) ∧ w = w' := by
  unfold maxLen at hnm
  have HN := Lib.hid hn; have HL := Lib.hid hl; clear hn hl
  go_enter Tryz.func130, Tryz.ntmps130
  go_wp2
  go_loop [5] (fun i => ∃ k : Nat, k ≤ n ∧ i = .int .i64 k ∧ memB (l.take k) s = false) (fun i => n - (intOf i).toNat)
  case atStart => exact ⟨0, Nat.zero_le _, rfl, rfl⟩
  case round =>
    obtain ⟨k, hk, rfl, hc⟩ := hrel
    have HC := Lib.hid hc; clear hc
    by_cases hlt : k < n
    · obtain ⟨y, hy⟩ := get_some HN.out hlt
      obtain ⟨b, off, rfl, c0, _⟩ := HL.out k y hy
      rw [Nat.mul_one] at c0
      have HT := Lib.hid (memB_take hy s)
      have HM := Lib.hid (List.mem_of_getElem? hy)
      have HB := Lib.hid (show (y.toList == s.toList) = (y.data.toList == s.data.toList) by rw [Lib.toList_data, Lib.toList_data])
      clear hy
      cases h1 : (y.toList == s.toList)
      · go_wp2
        go_round
        case rel => exact ⟨k + 1, by omega, by go_num, by rw [HT.out, HC.out, ← HB.out, h1]; rfl⟩
        case measure => simp [intOf]; omega
      · have HE := Lib.hid (show memB l s = true by
          have := beq_iff_eq.1 (HB.out.symm.trans h1)
          rw [memB_iff, ← bytes_eq this]; exact HM.out)
        go_wp2
        go_ret
        exact ⟨ret_bool HE.out.symm, rfl⟩
    · obtain rfl : k = n := by omega
      have HF := Lib.hid (show memB l s = false by have := HC.out; rwa [← HN.out, List.take_length] at this)
      go_wp2
      go_ret
      exact ⟨ret_bool HF.out.symm, rfl⟩
end Go.Proofs.YtmdmbdbbpdojnaaGreatDoor
namespace Go.Proofs.YtmdmbdbbpdojnaaGreatDoor
open Go.RowKit Nam Pol
attribute [local go_sem] gv_of

theorem names_take {l : List Rul} {k : Nat} {r : Rul} (h : l[k]? = some r) (s : ByteArray) : memB ((l.take (k + 1)).map (·.name)) s = (memB ((l.take k).map (·.name)) s || (r.name.data.toList == s.data.toList)) := by
  rw [List.take_add_one, h, Option.toList_some, List.map_append]
  exact memB_snoc _ _ _
set_option maxHeartbeats 1000000 in
theorem r15named_any (l : List Rul) (s : ByteArray) (a : Option Addr) (cap n : Nat) (w : World) (hn : l.length = n) (hnm : n ≤ maxLen) (hl : Ruls w a l) :
    Calls Tryz.prog 104 #[.slice a n cap, .string s] w fun e w' => e = .returned (.bool (memB (l.map (·.name)) s)) ∧ w = w' := by
  unfold maxLen at hnm
  have HN := Lib.hid hn; have HL := Lib.hid hl; clear hn hl
  go_enter Tryz.func104, Tryz.ntmps104
  go_wp2
  go_loop [5] (fun i => ∃ k : Nat, k ≤ n ∧ i = .int .i64 k ∧ memB ((l.take k).map (·.name)) s = false) (fun i => n - (intOf i).toNat)
  case atStart => exact ⟨0, Nat.zero_le _, rfl, rfl⟩
  case round =>
    obtain ⟨k, hk, rfl, hc⟩ := hrel
    have HC := Lib.hid hc; clear hc
    by_cases hlt : k < n
    · obtain ⟨y, hy⟩ := get_some HN.out hlt
      obtain ⟨b, off, rfl, c0, _⟩ := HL.out k y hy
      have HT := Lib.hid (names_take hy s)
      have HM := Lib.hid (List.mem_of_getElem? hy)
      have HB := Lib.hid (show (y.name.toList == s.toList) = (y.name.data.toList == s.data.toList) by rw [Lib.toList_data, Lib.toList_data])
      clear hy
      cases h1 : (y.name.toList == s.toList)
      · go_wp2
        go_round
        case rel => exact ⟨k + 1, by omega, by go_num, by rw [HT.out, HC.out, ← HB.out, h1]; rfl⟩
        case measure => simp [intOf]; omega
      · have HE := Lib.hid (show memB (l.map (·.name)) s = true by
          have := beq_iff_eq.1 (HB.out.symm.trans h1)
          rw [memB_iff, ← bytes_eq this]; exact List.mem_map.2 ⟨y, HM.out, rfl⟩)
        go_wp2
        go_ret
        exact ⟨ret_bool HE.out.symm, rfl⟩
    · obtain rfl : k = n := by omega
      have HF := Lib.hid (show memB (l.map (·.name)) s = false by have := HC.out; rwa [← HN.out, List.take_length] at this)
      go_wp2
      go_ret
      exact ⟨ret_bool HF.out.symm, rfl⟩
set_option maxRecDepth 100000 in
set_option maxHeartbeats 4000000 in
theorem Form_any (r : Rul) (a : Option Addr) (c : Nat) (w : World) (hnc : r.pats.length ≤ c) (hcm : c ≤ maxLen) (hl : Strs w a r.pats) (hs : r.name.size ≤ maxLen) :
    Calls Tryz.prog 103 #[rulV r a c] w (Ret (.bool (formB r)) w) := by
  have HM := Lib.hid hcm; have HS := Lib.hid hs
  unfold maxLen at hcm
  obtain ⟨n, hn⟩ : ∃ n, r.pats.length = n := ⟨_, rfl⟩
  have HN := Lib.hid hn; have HL := Lib.hid hl; clear hl
  unfold rulV
  rw [hn] at hnc ⊢
  clear hn hs
  cases h1 : ruleName r.name.data.toList
  · have HF := Lib.hid (show formB r = false by unfold formB; rw [h1]; rfl)
    go_enter Tryz.func103, Tryz.ntmps103
    go_wp2_with (go_at_call 129; refine (r15Name_any _ _ HS.out).mono ?_; rintro e w' ⟨rfl, rfl⟩)
    go_ret
    exact ⟨ret_bool HF.out.symm, ext_alloc (Below.refl _ _) _⟩
  by_cases h2 : n < 1 ∨ 8 < n
  · have HF := Lib.hid (show formB r = false by
      unfold formB; rw [HN.out]
      rcases h2 with h | h
      · rw [show decide (1 ≤ n) = false by simpa using h]; simp
      · rw [show decide (n ≤ 8) = false by simpa using h]; simp)
    rcases h2 with h2 | h2
    all_goals
      go_enter Tryz.func103, Tryz.ntmps103
      go_wp2_with (go_at_call 129; refine (r15Name_any _ _ HS.out).mono ?_; rintro e w' ⟨rfl, rfl⟩)
      go_ret
      exact ⟨ret_bool HF.out.symm, ext_alloc (Below.refl _ _) _⟩
  have hn1 : 1 ≤ n := by omega
  have hn8 : n ≤ 8 := by omega
  clear h2
  have t1 : decide ((n : Int) < 1) = false := by simp; omega
  have t2 : decide ((8 : Int) < n) = false := by simp; omega
  go_enter Tryz.func103, Tryz.ntmps103
  go_wp2_with (go_at_call 129; refine (r15Name_any _ _ HS.out).mono ?_; rintro e w' ⟨rfl, rfl⟩)
  obtain ⟨W0, hW0⟩ : ∃ W0, w.alloc (Obj.cells #[.string r.name, .bool r.allow, .slice a n c, .int .u64 r.keyMin, .int .i64 r.lifeMax, .int .i64 r.most, .int .i64 r.window] 54) = W0 := ⟨_, rfl⟩
  have hE0 : Ext w W0 := by rw [← hW0]; exact ext_alloc (Below.refl _ _) _
  have c1 : W0.cell? ⟨w.heap.size, 1, none⟩ = some (.bool r.allow) := by rw [← hW0]; simp [go_sem]
  have c2 : W0.cell? ⟨w.heap.size, 2, none⟩ = some (.slice a n c) := by rw [← hW0]; simp [go_sem]
  have c3 : W0.cell? ⟨w.heap.size, 3, none⟩ = some (.int .u64 r.keyMin) := by rw [← hW0]; simp [go_sem]
  have c4 : W0.cell? ⟨w.heap.size, 4, none⟩ = some (.int .i64 r.lifeMax) := by rw [← hW0]; simp [go_sem]
  have c5 : W0.cell? ⟨w.heap.size, 5, none⟩ = some (.int .i64 r.most) := by rw [← hW0]; simp [go_sem]
  have c6 : W0.cell? ⟨w.heap.size, 6, none⟩ = some (.int .i64 r.window) := by rw [← hW0]; simp [go_sem]
  rw [hW0]
  have HE0 := Lib.hid hE0; have C1 := Lib.hid c1; have C2 := Lib.hid c2; have C3 := Lib.hid c3; have C4 := Lib.hid c4; have C5 := Lib.hid c5; have C6 := Lib.hid c6
  clear hW0 hE0 c1 c2 c3 c4 c5 c6 t1 t2
  go_loopw [3] (fun i wr => ∃ k : Nat, k ≤ n ∧ i = .int .i64 k ∧ patsOk [] (r.pats.take k) = true ∧ Ext W0 wr) (fun i _ => n - (intOf i).toNat)
  case atStart => exact ⟨0, Nat.zero_le _, rfl, rfl, Below.refl _ _⟩
  case round =>
    obtain ⟨k, hk, rfl, hp, hEr⟩ := hrel
    have HP := Lib.hid hp; clear hp
    by_cases hlt : k < n
    · obtain ⟨p, hp⟩ := get_some HN.out hlt
      obtain ⟨b, off, rfl, d0, hps⟩ := (HL.out.ext (ext_trans HE0.out hEr)) k p hp
      rw [Nat.mul_one] at d0
      have c2 := ext_cell C2.out hEr
      have HT := Lib.hid (patsOk_take hp)
      have HLR : Hid (Strs wr (some ⟨b, off, none⟩) r.pats) := Lib.hid (HL.out.ext (ext_trans HE0.out hEr))
      have HER := Lib.hid hEr
      clear hp hEr
      go_wp2_with fail
      refine wp_region_S (by kernel_rfl) (by kernel_rfl) (by kernel_rfl) (by kernel_rfl) (by kernel_rfl) (fun w' => Ext wr w') ((Fr.drew (fun _ => False) _).ext (fun _ _ h => h)) ?_
      have hpn : p.size ≤ 9223372036854775807 := hps
      have hkc : k ≤ c := by omega
      have HLK := Lib.hid (show (r.pats.take k).length = k by rw [List.length_take, HN.out]; omega)
      repeat
        first
        | (refine steps_and rfl rfl rfl rfl ?_; simp only [Act.put, List.setIfInBounds_toArray, List.set_cons_succ, List.set_cons_zero])
        | (refine steps_or rfl rfl rfl rfl ?_; simp only [Act.put, List.setIfInBounds_toArray, List.set_cons_succ, List.set_cons_zero])
        | (refine steps_skip rfl ?_; simp only [Act.put, List.setIfInBounds_toArray, List.set_cons_succ, List.set_cons_zero])
        | (refine steps_guard_and rfl rfl rfl rfl rfl ?_; simp only [Act.put, List.setIfInBounds_toArray, List.set_cons_succ, List.set_cons_zero])
        | (refine steps_guard (v := ?_) rfl rfl (fun hb w' hS => ?_) ?_; rotate_left; (focus (have e2 := ext_cell c2 hS; have e0 := ext_cell d0 hS; unfold Gives; go_simp; first | exact is_mk hS | (refine (stands_any (r.pats.take k) p _ c k _ HLK.out (by unfold maxLen; omega) ((HLR.out.ext hS).take k)).mono ?_; rintro e w'' ⟨rfl, rfl⟩; exact gave_mk hS) | (refine (rPattern_any _ _ hpn).mono ?_; rintro e w'' ⟨rfl, h2⟩; exact gave_mk (ext_trans hS h2)))); simp only [Act.put, List.setIfInBounds_toArray, List.set_cons_succ, List.set_cons_zero])
        | (refine steps_guard2 (v := ?_) rfl rfl rfl (fun hb1 hb w' hS => ?_) ?_; rotate_left; (focus (have e2 := ext_cell c2 hS; have e0 := ext_cell d0 hS; unfold Gives; go_simp; first | exact is_mk hS | (refine (stands_any (r.pats.take k) p _ c k _ HLK.out (by unfold maxLen; omega) ((HLR.out.ext hS).take k)).mono ?_; rintro e w'' ⟨rfl, rfl⟩; exact gave_mk hS) | (refine (rPattern_any _ _ hpn).mono ?_; rintro e w'' ⟨rfl, h2⟩; exact gave_mk (ext_trans hS h2)))); simp only [Act.put, List.setIfInBounds_toArray, List.set_cons_succ, List.set_cons_zero])
        | (refine steps_run (v := ?_) rfl (fun w' hS => ?_) ?_; rotate_left; (focus (have e2 := ext_cell c2 hS; have e0 := ext_cell d0 hS; unfold Gives; go_simp; first | exact is_mk hS | (refine (stands_any (r.pats.take k) p _ c k _ HLK.out (by unfold maxLen; omega) ((HLR.out.ext hS).take k)).mono ?_; rintro e w'' ⟨rfl, rfl⟩; exact gave_mk hS) | (refine (rPattern_any _ _ hpn).mono ?_; rintro e w'' ⟨rfl, h2⟩; exact gave_mk (ext_trans hS h2)))); simp only [Act.put, List.setIfInBounds_toArray, List.set_cons_succ, List.set_cons_zero])
      refine steps_end fun w' hE' => ?_
      have HPK : Hid ((okOr 110 (rpatB p.data.toList) != 0) = !patOk p) := Lib.hid (by unfold patOk; rw [pattern_ok]; cases rpatB p.data.toList <;> rfl)
      cases hq : ((okOr 110 (rpatB p.data.toList) != 0) || memB (r.pats.take k) p)
      · have HQ := Lib.hid (show patsOk [] (r.pats.take (k + 1)) = true by
          rw [HT.out, HP.out]
          rw [HPK.out] at hq
          simp only [Bool.or_eq_false_iff, Bool.not_eq_false'] at hq
          rw [hq.1, hq.2]; rfl)
        clear hq
        go_wp2_with fail
        go_roundw
        case rel => exact ⟨k + 1, by omega, by go_num, HQ.out, ext_trans HER.out hE'⟩
        case measure => simp [intOf]; omega
      · have HQ := Lib.hid (show formB r = false by
          have : patsOk [] (r.pats.take (k + 1)) = false := by
            rw [HT.out, HP.out]
            rw [HPK.out] at hq
            simp only [Bool.or_eq_true, Bool.not_eq_true'] at hq
            rcases hq with h | h <;> rw [h] <;> simp
          unfold formB; rw [patsOk_false this]; simp)
        clear hq
        go_wp2_with fail
        all_goals
          go_ret
          exact ⟨ret_bool HQ.out.symm, ext_trans HE0.out (ext_trans HER.out hE')⟩
    · obtain rfl : k = n := by omega
      have hpo : patsOk [] r.pats = true := by have := HP.out; rwa [← HN.out, List.take_length] at this
      have HFB := Lib.hid (show formB r = limitsB r by unfold formB; rw [h1, hpo, HN.out, show decide (1 ≤ k) = true by simpa using hn1, show decide (k ≤ 8) = true by simpa using hn8]; simp)
      clear hpo
      have c1 := ext_cell C1.out hEr; have c2 := ext_cell C2.out hEr; have c3 := ext_cell C3.out hEr; have c4 := ext_cell C4.out hEr; have c5 := ext_cell C5.out hEr; have c6 := ext_cell C6.out hEr
      have HEW := Lib.hid (ext_trans HE0.out hEr); clear hEr
      cases ha : r.allow
      · rw [ha] at c1
        go_upto_region 9 with (fail)
        refine wp_region_P (fun w' => w' = wr) rfl ?_
        repeat
          first
          | (refine steps_and rfl rfl rfl rfl ?_; simp only [Act.put, List.setIfInBounds_toArray, List.set_cons_succ, List.set_cons_zero])
          | (refine steps_or rfl rfl rfl rfl ?_; simp only [Act.put, List.setIfInBounds_toArray, List.set_cons_succ, List.set_cons_zero])
          | (refine steps_skip rfl ?_; simp only [Act.put, List.setIfInBounds_toArray, List.set_cons_succ, List.set_cons_zero])
          | (refine steps_guard_and rfl rfl rfl rfl rfl ?_; simp only [Act.put, List.setIfInBounds_toArray, List.set_cons_succ, List.set_cons_zero])
          | (refine steps_guard (v := ?_) rfl rfl (fun hb w' hS => ?_) ?_; rotate_left; (focus (subst hS; unfold Gives; go_simp; first | exact is_mk rfl)); simp only [Act.put, List.setIfInBounds_toArray, List.set_cons_succ, List.set_cons_zero])
          | (refine steps_guard2 (v := ?_) rfl rfl rfl (fun hb1 hb w' hS => ?_) ?_; rotate_left; (focus (subst hS; unfold Gives; go_simp; first | exact is_mk rfl)); simp only [Act.put, List.setIfInBounds_toArray, List.set_cons_succ, List.set_cons_zero])
          | (refine steps_run (v := ?_) rfl (fun w' hS => ?_) ?_; rotate_left; (focus (subst hS; unfold Gives; go_simp; first | exact is_mk rfl)); simp only [Act.put, List.setIfInBounds_toArray, List.set_cons_succ, List.set_cons_zero])
        refine steps_end fun w' hE' => ?_
        subst hE'
        go_wp2_with fail
        go_ret
        exact ⟨ret_bool (by rw [HFB.out]; unfold limitsB; rw [ha]; rfl), HEW.out⟩
      · rw [ha] at c1
        have HA := Lib.hid ha; clear ha
        go_upto_region 10 with (fail)
        refine wp_region_P (fun w' => w' = wr) rfl ?_
        repeat
          first
          | (refine steps_and rfl rfl rfl rfl ?_; simp only [Act.put, List.setIfInBounds_toArray, List.set_cons_succ, List.set_cons_zero])
          | (refine steps_or rfl rfl rfl rfl ?_; simp only [Act.put, List.setIfInBounds_toArray, List.set_cons_succ, List.set_cons_zero])
          | (refine steps_skip rfl ?_; simp only [Act.put, List.setIfInBounds_toArray, List.set_cons_succ, List.set_cons_zero])
          | (refine steps_guard_and rfl rfl rfl rfl rfl ?_; simp only [Act.put, List.setIfInBounds_toArray, List.set_cons_succ, List.set_cons_zero])
          | (refine steps_guard (v := ?_) rfl rfl (fun hb w' hS => ?_) ?_; rotate_left; (focus (subst hS; unfold Gives; go_simp; first | exact is_mk rfl)); simp only [Act.put, List.setIfInBounds_toArray, List.set_cons_succ, List.set_cons_zero])
          | (refine steps_guard2 (v := ?_) rfl rfl rfl (fun hb1 hb w' hS => ?_) ?_; rotate_left; (focus (subst hS; unfold Gives; go_simp; first | exact is_mk rfl)); simp only [Act.put, List.setIfInBounds_toArray, List.set_cons_succ, List.set_cons_zero])
          | (refine steps_run (v := ?_) rfl (fun w' hS => ?_) ?_; rotate_left; (focus (subst hS; unfold Gives; go_simp; first | exact is_mk rfl)); simp only [Act.put, List.setIfInBounds_toArray, List.set_cons_succ, List.set_cons_zero])
        refine steps_end fun w' hE' => ?_
        subst hE'
        go_upto_region 11 with (fail)
        refine wp_region_P (fun x => x = w') rfl ?_
        repeat
          first
          | (refine steps_and rfl rfl rfl rfl ?_; simp only [Act.put, List.setIfInBounds_toArray, List.set_cons_succ, List.set_cons_zero])
          | (refine steps_or rfl rfl rfl rfl ?_; simp only [Act.put, List.setIfInBounds_toArray, List.set_cons_succ, List.set_cons_zero])
          | (refine steps_skip rfl ?_; simp only [Act.put, List.setIfInBounds_toArray, List.set_cons_succ, List.set_cons_zero])
          | (refine steps_guard_and rfl rfl rfl rfl rfl ?_; simp only [Act.put, List.setIfInBounds_toArray, List.set_cons_succ, List.set_cons_zero])
          | (refine steps_guard (v := ?_) rfl rfl (fun hb w' hS => ?_) ?_; rotate_left; (focus (subst hS; unfold Gives; go_simp; first | exact is_mk rfl)); simp only [Act.put, List.setIfInBounds_toArray, List.set_cons_succ, List.set_cons_zero])
          | (refine steps_guard2 (v := ?_) rfl rfl rfl (fun hb1 hb w' hS => ?_) ?_; rotate_left; (focus (subst hS; unfold Gives; go_simp; first | exact is_mk rfl)); simp only [Act.put, List.setIfInBounds_toArray, List.set_cons_succ, List.set_cons_zero])
          | (refine steps_run (v := ?_) rfl (fun w' hS => ?_) ?_; rotate_left; (focus (subst hS; unfold Gives; go_simp; first | exact is_mk rfl)); simp only [Act.put, List.setIfInBounds_toArray, List.set_cons_succ, List.set_cons_zero])
        trace_state
        refine steps_end fun w' hE' => ?_
        subst hE'
        go_wp2_with fail
        go_ret
        exact ⟨ret_bool (by rw [HFB.out, ← limits_ref r HA.out]), HEW.out⟩
end Go.Proofs.YtmdmbdbbpdojnaaGreatDoor
namespace Go.Proofs.YtmdmbdbbpdojnaaGreatDoor
open Go.RowKit Nam Pol
attribute [local go_sem] gv_of

set_option maxRecDepth 100000 in
set_option maxHeartbeats 4000000 in
theorem r15Check_any (l : List Rul) (a : Option Addr) (cap n : Nat) (w : World) (hn : l.length = n) (hnc : n ≤ cap) (hcm : cap ≤ maxLen) (hl : Ruls w a l) :
    Calls Tryz.prog 75 #[.slice a n cap] w (Ret (.int .i64 (checkE l)) w) := by
  unfold maxLen at hcm
  have HN := Lib.hid hn; have HL := Lib.hid hl; clear hn hl
  go_enter Tryz.func75, Tryz.ntmps75
  go_wp2_with fail
  go_loopw [3] (fun i wr => ∃ k : Nat, k ≤ n ∧ i = .int .i64 k ∧ rulesOk [] (l.take k) = true ∧ Ext w wr) (fun i _ => n - (intOf i).toNat)
  case atStart => exact ⟨0, Nat.zero_le _, rfl, rfl, Below.refl _ _⟩
  case round =>
    obtain ⟨k, hk, rfl, hp, hEr⟩ := hrel
    have HP := Lib.hid hp; clear hp
    by_cases hlt : k < n
    · obtain ⟨r, hr⟩ := get_some HN.out hlt
      obtain ⟨b, off, rfl, d0, d1, ⟨pa, pc, d2, l1, l2, hps⟩, d3, d4, d5, d6, hs, _⟩ := (HL.out.ext hEr) k r hr
      have HT := Lib.hid (rulesOk_take hr)
      have HLR : Hid (Ruls wr (some ⟨b, off, none⟩) l) := Lib.hid (HL.out.ext hEr)
      have HPS := Lib.hid hps; have HSZ := Lib.hid hs; have L2 := Lib.hid l2
      have HER := Lib.hid hEr
      have hkc : k ≤ cap := by omega
      have HLK := Lib.hid (show (l.take k).length = k by rw [List.length_take, HN.out]; omega)
      clear hr hEr hps hs
      unfold maxLen at l2
      go_wp2_with fail
      refine wp_region_S (by kernel_rfl) (by kernel_rfl) (by kernel_rfl) (by kernel_rfl) (by kernel_rfl) (fun w' => Ext wr w') ((Fr.drew (fun _ => False) _).ext (fun _ _ h => h)) ?_
      repeat
        first
        | (refine steps_and rfl rfl rfl rfl ?_; simp only [Act.put, List.setIfInBounds_toArray, List.set_cons_succ, List.set_cons_zero])
        | (refine steps_or rfl rfl rfl rfl ?_; simp only [Act.put, List.setIfInBounds_toArray, List.set_cons_succ, List.set_cons_zero])
        | (refine steps_skip rfl ?_; simp only [Act.put, List.setIfInBounds_toArray, List.set_cons_succ, List.set_cons_zero])
        | (refine steps_guard_and rfl rfl rfl rfl rfl ?_; simp only [Act.put, List.setIfInBounds_toArray, List.set_cons_succ, List.set_cons_zero])
        | (refine steps_guard (v := ?_) rfl rfl (fun hb w' hS => ?_) ?_; rotate_left; (focus (have e0 := ext_cell d0 hS; have e1 := ext_cell d1 hS; have e2 := ext_cell d2 hS; have e3 := ext_cell d3 hS; have e4 := ext_cell d4 hS; have e5 := ext_cell d5 hS; have e6 := ext_cell d6 hS; unfold Gives; go_simp; first | exact is_mk hS | (refine (Form_any r pa pc _ l1 L2.out (HPS.out.ext hS) HSZ.out).mono ?_; rintro e w'' ⟨rfl, h2⟩; exact gave_mk (ext_trans hS h2)) | (refine (r15named_any (l.take k) r.name _ cap k _ HLK.out (by unfold maxLen; omega) ((HLR.out.ext hS).take k)).mono ?_; rintro e w'' ⟨rfl, rfl⟩; exact gave_mk hS))); simp only [Act.put, List.setIfInBounds_toArray, List.set_cons_succ, List.set_cons_zero])
        | (refine steps_guard2 (v := ?_) rfl rfl rfl (fun hb1 hb w' hS => ?_) ?_; rotate_left; (focus (have e0 := ext_cell d0 hS; have e1 := ext_cell d1 hS; have e2 := ext_cell d2 hS; have e3 := ext_cell d3 hS; have e4 := ext_cell d4 hS; have e5 := ext_cell d5 hS; have e6 := ext_cell d6 hS; unfold Gives; go_simp; first | exact is_mk hS | (refine (Form_any r pa pc _ l1 L2.out (HPS.out.ext hS) HSZ.out).mono ?_; rintro e w'' ⟨rfl, h2⟩; exact gave_mk (ext_trans hS h2)) | (refine (r15named_any (l.take k) r.name _ cap k _ HLK.out (by unfold maxLen; omega) ((HLR.out.ext hS).take k)).mono ?_; rintro e w'' ⟨rfl, rfl⟩; exact gave_mk hS))); simp only [Act.put, List.setIfInBounds_toArray, List.set_cons_succ, List.set_cons_zero])
        | (refine steps_run (v := ?_) rfl (fun w' hS => ?_) ?_; rotate_left; (focus (have e0 := ext_cell d0 hS; have e1 := ext_cell d1 hS; have e2 := ext_cell d2 hS; have e3 := ext_cell d3 hS; have e4 := ext_cell d4 hS; have e5 := ext_cell d5 hS; have e6 := ext_cell d6 hS; unfold Gives; go_simp; first | exact is_mk hS | (refine (Form_any r pa pc _ l1 L2.out (HPS.out.ext hS) HSZ.out).mono ?_; rintro e w'' ⟨rfl, h2⟩; exact gave_mk (ext_trans hS h2)) | (refine (r15named_any (l.take k) r.name _ cap k _ HLK.out (by unfold maxLen; omega) ((HLR.out.ext hS).take k)).mono ?_; rintro e w'' ⟨rfl, rfl⟩; exact gave_mk hS))); simp only [Act.put, List.setIfInBounds_toArray, List.set_cons_succ, List.set_cons_zero])
      refine steps_end fun w' hE' => ?_
      cases hq : (!formB r || memB ((l.take k).map (·.name)) r.name)
      · have HQ := Lib.hid (show rulesOk [] (l.take (k + 1)) = true by
          rw [HT.out, HP.out]
          simp only [Bool.or_eq_false_iff, Bool.not_eq_false'] at hq
          rw [hq.1, hq.2]; rfl)
        clear hq
        go_wp2_with fail
        go_roundw
        case rel => exact ⟨k + 1, by omega, by go_num, HQ.out, ext_trans HER.out hE'⟩
        case measure => simp [intOf]; omega
      · have HQ := Lib.hid (show checkE l = 1 by
          have : rulesOk [] (l.take (k + 1)) = false := by
            rw [HT.out, HP.out]
            simp only [Bool.or_eq_true, Bool.not_eq_true'] at hq
            rcases hq with h | h <;> rw [h] <;> simp
          unfold checkE; rw [rulesOk_false this]; rfl)
        clear hq
        go_wp2_with fail
        all_goals
          go_ret
          exact ⟨ret_int HQ.out.symm, ext_trans HER.out hE'⟩
    · obtain rfl : k = n := by omega
      have hpo : rulesOk [] l = true := by have := HP.out; rwa [← HN.out, List.take_length] at this
      have HFB := Lib.hid (show checkE l = if k ≤ 32 then 0 else 2 by unfold checkE; rw [hpo, HN.out]; rfl)
      by_cases h32 : k ≤ 32
      · have t : decide ((32 : Int) < k) = false := by simp; omega
        go_wp2_with fail
        go_ret
        exact ⟨ret_int (by rw [HFB.out, if_pos h32]), hEr⟩
      · have t : decide ((32 : Int) < k) = true := by simp; omega
        go_wp2_with fail
        go_ret
        exact ⟨ret_int (by rw [HFB.out, if_neg h32]), hEr⟩
set_option maxRecDepth 100000 in
set_option maxHeartbeats 2000000 in
theorem Texts_any (l m : List ByteArray) (a c : Option Addr) (cap1 cap2 n1 n2 : Nat) (w : World) (h1 : l.length = n1) (h2 : m.length = n2) (hm1 : n1 ≤ maxLen) (hm2 : n2 ≤ maxLen) (hl : Strs w a l) (hc : Strs w c m) :
    Calls Tryz.prog 21 #[.slice a n1 cap1, .slice c n2 cap2] w (Ret (.bool (decide (l = m))) w) := by
  unfold maxLen at hm1 hm2
  have N1 := Lib.hid h1; have N2 := Lib.hid h2; have HL := Lib.hid hl; have HC := Lib.hid hc; clear h1 h2 hl hc
  by_cases hne : n1 = n2
  rotate_left 1
  · have t : ((n1 : Int) != n2) = true := by rw [bne_iff_ne]; omega
    have HF := Lib.hid (show decide (l = m) = false by rw [decide_eq_false_iff_not]; intro e; exact hne (by rw [← N1.out, ← N2.out, e]))
    clear hne
    go_enter Tryz.func21, Tryz.ntmps21
    go_wp2_with fail
    go_ret
    exact ⟨ret_bool HF.out.symm, Below.refl _ _⟩
  · subst hne
    have t : ((n1 : Int) != n1) = false := by simp
    go_enter Tryz.func21, Tryz.ntmps21
    go_wp2_with fail
    go_loopw [5] (fun i wr => ∃ k : Nat, k ≤ n1 ∧ i = .int .i64 k ∧ l.take k = m.take k ∧ Ext w wr) (fun i _ => n1 - (intOf i).toNat)
    case atStart => exact ⟨0, Nat.zero_le _, rfl, rfl, Below.refl _ _⟩
    case round =>
      obtain ⟨k, hk, rfl, he, hEr⟩ := hrel
      have HEQ := Lib.hid he; clear he
      by_cases hlt : k < n1
      · obtain ⟨x, hx⟩ := get_some N1.out hlt
        obtain ⟨y, hy⟩ := get_some N2.out hlt
        obtain ⟨b, off, rfl, d0, _⟩ := (HL.out.ext hEr) k x hx
        obtain ⟨b', off', rfl, e0, _⟩ := (HC.out.ext hEr) k y hy
        rw [Nat.mul_one] at d0 e0
        have HX := Lib.hid hx; have HY := Lib.hid hy; have HER := Lib.hid hEr
        clear hx hy hEr
        go_wp2_with fail
        refine wp_region_S (by kernel_rfl) (by kernel_rfl) (by kernel_rfl) (by kernel_rfl) (by kernel_rfl) (fun w' => Ext wr w') ((Fr.drew (fun _ => False) _).ext (fun _ _ h => h)) ?_
        repeat
          first
          | (refine steps_and rfl rfl rfl rfl ?_; simp only [Act.put, List.setIfInBounds_toArray, List.set_cons_succ, List.set_cons_zero])
          | (refine steps_or rfl rfl rfl rfl ?_; simp only [Act.put, List.setIfInBounds_toArray, List.set_cons_succ, List.set_cons_zero])
          | (refine steps_skip rfl ?_; simp only [Act.put, List.setIfInBounds_toArray, List.set_cons_succ, List.set_cons_zero])
          | (refine steps_guard_and rfl rfl rfl rfl rfl ?_; simp only [Act.put, List.setIfInBounds_toArray, List.set_cons_succ, List.set_cons_zero])
          | (refine steps_guard (v := ?_) rfl rfl (fun hb w' hS => ?_) ?_; rotate_left; (focus (have f0 := ext_cell d0 hS; have f1 := ext_cell e0 hS; unfold Gives; go_simp; first | exact is_mk hS)); simp only [Act.put, List.setIfInBounds_toArray, List.set_cons_succ, List.set_cons_zero])
          | (refine steps_guard2 (v := ?_) rfl rfl rfl (fun hb1 hb w' hS => ?_) ?_; rotate_left; (focus (have f0 := ext_cell d0 hS; have f1 := ext_cell e0 hS; unfold Gives; go_simp; first | exact is_mk hS)); simp only [Act.put, List.setIfInBounds_toArray, List.set_cons_succ, List.set_cons_zero])
          | (refine steps_run (v := ?_) rfl (fun w' hS => ?_) ?_; rotate_left; (focus (have f0 := ext_cell d0 hS; have f1 := ext_cell e0 hS; unfold Gives; go_simp; first | exact is_mk hS)); simp only [Act.put, List.setIfInBounds_toArray, List.set_cons_succ, List.set_cons_zero])
        refine steps_end fun w' hE' => ?_
        cases hq : (x.toList == y.toList)
        · have HQ := Lib.hid (show decide (l = m) = false by
            rw [decide_eq_false_iff_not]; intro e
            have h1 := HX.out; have h2 := HY.out
            rw [e, h2] at h1; cases h1
            simp at hq)
          clear hq
          go_wp2_with fail
          go_ret
          exact ⟨ret_bool HQ.out.symm, ext_trans HER.out hE'⟩
        · have HQ := Lib.hid (show l.take (k + 1) = m.take (k + 1) by
            have e : x = y := by
              have := beq_iff_eq.1 hq
              rw [Lib.toList_data, Lib.toList_data] at this
              exact bytes_eq this
            rw [take_snoc HX.out, take_snoc HY.out, HEQ.out, e])
          clear hq
          go_wp2_with fail
          go_roundw
          case rel => exact ⟨k + 1, by omega, by go_num, HQ.out, ext_trans HER.out hE'⟩
          case measure => simp [intOf]; omega
      · obtain rfl : k = n1 := by omega
        have HQ := Lib.hid (show decide (l = m) = true by
          have := HEQ.out
          rw [List.take_of_length_le (by rw [N1.out]; exact Nat.le_refl _), List.take_of_length_le (by rw [N2.out]; exact Nat.le_refl _)] at this
          simpa using this)
        go_wp2_with fail
        go_ret
        exact ⟨ret_bool HQ.out.symm, hEr⟩
end Go.Proofs.YtmdmbdbbpdojnaaGreatDoor
