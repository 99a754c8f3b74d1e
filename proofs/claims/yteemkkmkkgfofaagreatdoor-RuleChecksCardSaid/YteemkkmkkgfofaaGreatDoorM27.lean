/- Walks: the laws RuleChecks, RuleBack. Walk: the law RuleAgain. Walk: the law RuleShort (begun). Walk: the law RuleBlanks. Walk: the law RuleJoins. Walk: the document's text of a rule, of rules; the law RulePrints. -/
import Derived.Test.YteemkkmkkgfofaaGreatDoorM24
import Derived.Test.YteemkkmkkgfofaaGreatDoorM10
import Derived.Lib.AppendStr
import Derived.Test.YteemkkmkkgfofaaGreatDoorM19
import Derived.Test.YteemkkmkkgfofaaGreatDoorM21
import Derived.Shelf.Bytes.SlSmallAll
namespace Go.Proofs.YteemkkmkkgfofaaGreatDoor
open Go.RowKit Nam Pol Go.Maps
attribute [local go_sem] gv_of

theorem keys_of {w : World} {a : Option Addr} {l : List Rul} (h : Ruls w a l) : ∀ r ∈ l, 0 ≤ r.keyMin := fun r hr => by
  obtain ⟨k, hk⟩ := List.getElem?_of_mem hr
  obtain ⟨_, _, _, _, _, _, _, _, _, _, _, h9⟩ := h k r hk
  exact h9
set_option maxRecDepth 100000 in
set_option maxHeartbeats 2000000 in
theorem RuleChecks_any (l m : List Rul) (a b : Option Addr) (c1 n1 c2 n2 : Nat) (w : World) (h1 : l.length = n1) (k1 : n1 ≤ c1) (g1 : c1 ≤ maxLen) (hl : Ruls w a l) (h2 : m.length = n2) (k2 : n2 ≤ c2) (g2 : c2 ≤ maxLen) (hm : Ruls w b m) (hE : E15 w) :
    Calls Tryz.prog 3 #[.slice a n1 c1, .slice b n2 c2] w (Ret (.bool true) w) := by
  have H1 := Lib.hid h1; have K1 := Lib.hid k1; have G1 := Lib.hid g1; have HL := Lib.hid hl; have H2 := Lib.hid h2; have K2 := Lib.hid k2; have G2 := Lib.hid g2; have HM := Lib.hid hm; have HE := Lib.hid hE
  obtain ⟨x, hx⟩ : ∃ x, checkE l = x := ⟨_, rfl⟩
  obtain ⟨D, hD⟩ : ∃ D : Bool, D = true ↔ l = m := ⟨decide (l = m), by simp⟩
  have HX := Lib.hid hx; have HD := Lib.hid hD
  clear h1 k1 g1 hl h2 k2 g2 hm hE hx hD
  go_enter Tryz.func3, Tryz.ntmps3
  go_wp2_with fail
  refine (live15_any _ HE.out).mono ?_; rintro e w1 ⟨rfl, hE1⟩
  have HE1 := Lib.hid hE1
  clear hE1
  go_wp2_with fail
  refine (Few_any l a c1 n1 _ H1.out K1.out G1.out (HL.out.ext HE1.out)).mono ?_; rintro e w2 ⟨rfl, rfl⟩
  cases q1 : fewB l
  · clear q1
    go_wp2_with fail
    go_ret
    exact ⟨rfl, HE1.out⟩
  · clear q1
    go_wp2_with fail
    refine (Few_any m b c2 n2 _ H2.out K2.out G2.out (HM.out.ext HE1.out)).mono ?_; rintro e w2 ⟨rfl, rfl⟩
    cases q2 : fewB m
    · clear q2
      go_wp2_with fail
      go_ret
      exact ⟨rfl, HE1.out⟩
    · clear q2
      go_wp2_with fail
      have hc := pCheck_any l a c1 n1 w1 H1.out K1.out G1.out (HL.out.ext HE1.out)
      rw [HX.out] at hc
      refine hc.mono ?_; clear hc; rintro e w2 ⟨rfl, hE2⟩
      have HE2 := Lib.hid (ext_trans HE1.out hE2)
      clear hE2
      go_wp2_with fail
      have hc := r15Check_any l a c1 n1 w2 H1.out K1.out G1.out (HL.out.ext HE2.out)
      rw [HX.out] at hc
      refine hc.mono ?_; clear hc; rintro e w3 ⟨rfl, hE3⟩
      have HE3 := Lib.hid (ext_trans HE2.out hE3)
      clear hE3
      have t1 : (x == x) = true := by simp
      go_wp2_with fail
      refine (rSame_any l m a b c1 n1 c2 n2 w3 H1.out H2.out K1.out K2.out G1.out (HL.out.ext HE3.out) (HM.out.ext HE3.out) D HD.out).mono ?_; rintro e w4 ⟨rfl, hE4⟩
      have HE4 := Lib.hid (ext_trans HE3.out hE4)
      clear hE4
      go_wp2_with fail
      refine (q15Same_any l m a b c1 n1 c2 n2 w4 H1.out H2.out K1.out K2.out G1.out (HL.out.ext HE4.out) (HM.out.ext HE4.out) D HD.out).mono ?_; rintro e w5 ⟨rfl, hE5⟩
      have HE5 := Lib.hid (ext_trans HE4.out hE5)
      clear hE5
      cases D
      all_goals
        go_wp2_with fail
        go_ret
        exact ⟨rfl, HE5.out⟩
set_option maxRecDepth 100000 in
set_option maxHeartbeats 2000000 in
theorem RuleBack_any (l : List Rul) (a : Option Addr) (c1 n1 : Nat) (w : World) (h1 : l.length = n1) (k1 : n1 ≤ c1) (g1 : c1 ≤ maxLen) (hl : Ruls w a l) (hE : E15 w) :
    Calls Tryz.prog 5 #[.slice a n1 c1] w (Ret (.bool true) w) := by
  have H1 := Lib.hid h1; have K1 := Lib.hid k1; have G1 := Lib.hid g1; have HL := Lib.hid hl; have HE := Lib.hid hE
  obtain ⟨x, hx⟩ : ∃ x, checkE l = x := ⟨_, rfl⟩
  have HX := Lib.hid hx
  clear h1 k1 g1 hl hE hx
  go_enter Tryz.func5, Tryz.ntmps5
  go_wp2_with fail
  refine (live15_any _ HE.out).mono ?_; rintro e w1 ⟨rfl, hE1⟩
  have HE1 := Lib.hid hE1
  clear hE1
  go_wp2_with fail
  refine (Few_any l a c1 n1 _ H1.out K1.out G1.out (HL.out.ext HE1.out)).mono ?_; rintro e w2 ⟨rfl, rfl⟩
  cases q1 : fewB l
  · clear q1
    go_wp2_with fail
    go_ret
    exact ⟨rfl, HE1.out⟩
  · clear q1
    go_wp2_with fail
    refine (Print_any l a c1 n1 w1 H1.out K1.out G1.out (HL.out.ext HE1.out) (HE.out.ext HE1.out).pow).mono ?_
    rintro e w2 ⟨v, rfl, hE2, hno, hyes⟩
    rw [HX.out] at hno hyes ⊢
    have HE2 := Lib.hid (ext_trans HE1.out hE2)
    clear hE2
    by_cases h0 : x = 0
    · subst h0
      obtain ⟨ba, bc, rfl, p1, p2, hby⟩ := hyes rfl
      obtain ⟨n, hn⟩ : ∃ n, (textL l).length = n := ⟨_, rfl⟩
      rw [hn] at p1 ⊢
      have hn3 : n ≤ 32768 := by have := text_len HX.out; omega
      obtain ⟨ok1, ok2⟩ := check_zero HX.out
      obtain ⟨T, hL, hT⟩ := read_back ok1 ok2 (keys_of HL.out)
      have HN := Lib.hid hn; have HP1 := Lib.hid p1; have HP2 := Lib.hid p2; have HBY := Lib.hid hby; have HLX := Lib.hid hL; have HT := Lib.hid hT; have HN3 := Lib.hid hn3
      clear hno hyes hn p1 p2 hby ok1 ok2 hL hT hn3
      go_wp2_with fail
      refine (Parse_any (textL l) ba n bc T w2 HN.out HP1.out HP2.out HBY.out HLX.out (HE.out.ext HE2.out).syn (HE.out.ext HE2.out).rng).mono ?_
      rintro e w3 ⟨v, p, c, rfl, hE3, h⟩
      rw [if_neg (by have := HN3.out; omega), HT.out] at h
      obtain ⟨rfl, rfl, la, lc, rfl, q1, q2, hl2⟩ := h
      rw [H1.out] at q1 ⊢
      have HE3 := Lib.hid (ext_trans HE2.out hE3); have HQ1 := Lib.hid q1; have HL2 := Lib.hid hl2
      clear hE3 q1 q2 hl2
      go_wp2_with fail
      refine (rSame_any l l a la c1 n1 lc n1 w3 H1.out H1.out K1.out HQ1.out G1.out (HL.out.ext HE3.out) HL2.out true (by simp)).mono ?_; rintro e w4 ⟨rfl, hE4⟩
      have HE4 := Lib.hid (ext_trans HE3.out hE4)
      clear hE4
      go_wp2_with fail
      have hc := pCheck_any l a c1 n1 w4 H1.out K1.out G1.out (HL.out.ext HE4.out)
      rw [HX.out] at hc
      refine hc.mono ?_; clear hc; rintro e w5 ⟨rfl, hE5⟩
      have HE5 := Lib.hid (ext_trans HE4.out hE5)
      clear hE5
      go_wp2_with fail
      go_ret
      exact ⟨rfl, HE5.out⟩
    · obtain rfl := hno h0
      have t0 : (x != 0) = true := by simpa using h0
      have t1 : (x == x) = true := by simp
      clear hno hyes h0
      go_wp2_with fail
      have hc := pCheck_any l a c1 n1 w2 H1.out K1.out G1.out (HL.out.ext HE2.out)
      rw [HX.out] at hc
      refine hc.mono ?_; clear hc; rintro e w5 ⟨rfl, hE5⟩
      have HE5 := Lib.hid (ext_trans HE2.out hE5)
      clear hE5
      go_wp2_with fail
      go_ret
      exact ⟨rfl, HE5.out⟩
end Go.Proofs.YteemkkmkkgfofaaGreatDoor
namespace Go.Proofs.YteemkkmkkgfofaaGreatDoor
open Go.RowKit Nam Pol Go.Maps
attribute [local go_sem] gv_of

theorem check_of {l : List Rul} (h1 : rulesOk [] l = true) (h2 : l.length ≤ 32) : checkE l = 0 := by
  unfold checkE; rw [if_pos h1, if_pos h2]
set_option maxRecDepth 100000 in
set_option maxHeartbeats 2000000 in
theorem RuleAgain_any (s : Str) (ba : Option Addr) (n bc : Nat) (w : World) (hn : s.length = n) (hnc : n ≤ bc) (hcm : bc ≤ maxLen) (hs : Byts w ba s) (hE : E15 w) :
    Calls Tryz.prog 6 #[.slice ba n bc] w (Ret (.bool true) w) := by
  have HN := Lib.hid hn; have HNC := Lib.hid hnc; have HCM := Lib.hid hcm; have HS := Lib.hid hs; have HE := Lib.hid hE
  clear hn hcm hs hE
  by_cases hbig : 4000 < n
  · have t1 : decide ((4000 : Int) < (n : Int)) = true := by simp; omega
    go_enter Tryz.func6, Tryz.ntmps6
    go_wp2_with fail
    refine (live15_any _ HE.out).mono ?_; rintro e w1 ⟨rfl, hE1⟩
    have HE1 := Lib.hid hE1
    clear hE1
    go_wp2_with fail
    go_ret
    exact ⟨rfl, HE1.out⟩
  · have t1 : decide ((4000 : Int) < (n : Int)) = false := by simp; omega
    go_enter Tryz.func6, Tryz.ntmps6
    go_wp2_with fail
    refine (live15_any _ HE.out).mono ?_; rintro e w1 ⟨rfl, hE1⟩
    have HE1 := Lib.hid hE1
    clear hE1
    go_wp2_with fail
    have hL := lexF_ok s.length s 0 (Nat.le_refl _)
    refine (Parse_any s ba n bc _ w1 HN.out HNC.out HCM.out (HS.out.ext HE1.out) hL (HE.out.ext HE1.out).syn (HE.out.ext HE1.out).rng).mono ?_
    rintro e w2 ⟨v, p, c, rfl, hE2, h⟩
    rw [if_neg (by omega)] at h
    have HE2 := Lib.hid (ext_trans HE1.out hE2)
    rcases read_snd hL with ⟨p', e', hX, hp', he'⟩ | ⟨l, hX, ok1, ok2, ok3⟩
    · rw [hX] at h
      obtain ⟨rfl, rfl, rfl⟩ := h
      have hpn : p' ≤ n := by have := HN.out; omega
      have u1 : decide ((0 : Int) ≤ (p' : Int)) = true := by simp
      have u2 : decide ((p' : Int) ≤ (n : Int)) = true := by simp; omega
      clear hL hX hE2 hp'
      rcases he' with rfl | rfl
      all_goals
        go_wp2_with fail
        go_ret
        exact ⟨rfl, HE2.out⟩
    · rw [hX] at h
      obtain ⟨rfl, rfl, la, lc, rfl, q1, q2, hl⟩ := h
      have hck := check_of ok1 ok2
      obtain ⟨k, hk⟩ : ∃ k, l.length = k := ⟨_, rfl⟩
      rw [hk] at q1 ⊢
      have HK := Lib.hid hk; have HQ1 := Lib.hid q1; have HQ2 := Lib.hid q2; have HL := Lib.hid hl; have HCK := Lib.hid hck
      obtain ⟨T, hT1, hT2⟩ := read_back ok1 ok2 ok3
      have HT1 := Lib.hid hT1; have HT2 := Lib.hid hT2
      clear hL hX hE2 ok1 ok2 ok3 hk q1 q2 hl hck hT1 hT2
      go_wp2_with fail
      refine (Print_any l la lc k w2 HK.out HQ1.out HQ2.out HL.out (HE.out.ext HE2.out).pow).mono ?_
      rintro e w3 ⟨v, rfl, hE3, _, hyes⟩
      obtain ⟨bb, bbc, rfl, p1, p2, hby⟩ := hyes HCK.out
      rw [HCK.out]
      obtain ⟨m, hm⟩ : ∃ m, (textL l).length = m := ⟨_, rfl⟩
      rw [hm] at p1 ⊢
      have hm3 : m ≤ 32768 := by have := text_len HCK.out; omega
      have HE3 := Lib.hid (ext_trans HE2.out hE3); have HM := Lib.hid hm; have HP1 := Lib.hid p1; have HP2 := Lib.hid p2; have HBY := Lib.hid hby; have HE23 := Lib.hid hE3
      clear hyes hE3 hm p1 p2 hby
      go_wp2_with fail
      refine (Parse_any (textL l) bb m bbc T w3 HM.out HP1.out HP2.out HBY.out HT1.out (HE.out.ext HE3.out).syn (HE.out.ext HE3.out).rng).mono ?_
      rintro e w4 ⟨v, p, c, rfl, hE4, h⟩
      rw [if_neg (by omega), HT2.out] at h
      obtain ⟨rfl, rfl, la2, lc2, rfl, r1, r2, hl2⟩ := h
      rw [HK.out] at r1 ⊢
      have HE4 := Lib.hid (ext_trans HE3.out hE4); have HE24 := Lib.hid (ext_trans HE23.out hE4); have HR1 := Lib.hid r1; have HL2 := Lib.hid hl2
      clear hE4 r1 r2 hl2
      go_wp2_with fail
      have hc := pCheck_any l la lc k w4 HK.out HQ1.out HQ2.out (HL.out.ext HE24.out)
      rw [HCK.out] at hc
      refine hc.mono ?_; clear hc; rintro e w5 ⟨rfl, hE5⟩
      have HE5 := Lib.hid (ext_trans HE4.out hE5); have HE25 := Lib.hid (ext_trans HE24.out hE5); have HE45 := Lib.hid hE5
      clear hE5
      go_wp2_with fail
      refine (rSame_any l l la la2 lc k lc2 k w5 HK.out HK.out HQ1.out HR1.out HQ2.out (HL.out.ext HE25.out) (HL2.out.ext HE45.out) true (by simp)).mono ?_; rintro e w6 ⟨rfl, hE6⟩
      have HE6 := Lib.hid (ext_trans HE5.out hE6)
      clear hE6
      go_wp2_with fail
      go_ret
      exact ⟨rfl, HE6.out⟩
end Go.Proofs.YteemkkmkkgfofaaGreatDoor
namespace Go.Proofs.YteemkkmkkgfofaaGreatDoor
open Go.RowKit Nam Pol Go.Maps
attribute [local go_sem] gv_of

theorem byts_take {w : World} {a : Option Addr} {s : Str} (h : Byts w a s) (k : Nat) : Byts w a (s.take k) := fun i x hx => h i x (by
  rw [List.getElem?_take] at hx
  split at hx
  · exact hx
  · cases hx)
theorem ruls_take {w : World} {a : Option Addr} {l : List Rul} (h : Ruls w a l) (k : Nat) : Ruls w a (l.take k) := fun i x hx => h i x (by
  rw [List.getElem?_take] at hx
  split at hx
  · exact hx
  · cases hx)
set_option maxRecDepth 100000 in
set_option maxHeartbeats 4000000 in
theorem RuleShort_any (l : List Rul) (c : Nat) (a : Option Addr) (c1 n1 : Nat) (w : World) (h1 : l.length = n1) (k1 : n1 ≤ c1) (g1 : c1 ≤ maxLen) (hl : Ruls w a l) (hc : c ≤ 65535) (hE : E15 w) :
    Calls Tryz.prog 9 #[.slice a n1 c1, .int .u16 c] w (Ret (.bool true) w) := by
  have H1 := Lib.hid h1; have K1 := Lib.hid k1; have G1 := Lib.hid g1; have HL := Lib.hid hl; have HE := Lib.hid hE
  obtain ⟨x, hx⟩ : ∃ x, checkE l = x := ⟨_, rfl⟩
  have HX := Lib.hid hx
  clear h1 g1 hl hE hx
  go_enter Tryz.func9, Tryz.ntmps9
  go_wp2_with fail
  refine (live15_any _ HE.out).mono ?_; rintro e w1 ⟨rfl, hE1⟩
  have HE1 := Lib.hid hE1
  clear hE1
  go_wp2_with fail
  refine (Few_any l a c1 n1 _ H1.out K1.out G1.out (HL.out.ext HE1.out)).mono ?_; rintro e w2 ⟨rfl, rfl⟩
  cases q1 : fewB l
  · clear q1
    go_wp2_with fail
    go_ret
    exact ⟨rfl, HE1.out⟩
  · clear q1
    by_cases h6 : 6 < n1
    · have t6 : decide ((6 : Int) < (n1 : Int)) = true := by simp; omega
      go_wp2_with fail
      go_ret
      exact ⟨rfl, HE1.out⟩
    · have t6 : decide ((6 : Int) < (n1 : Int)) = false := by simp; omega
      go_wp2_with fail
      refine (Print_any l a c1 n1 w1 H1.out K1.out G1.out (HL.out.ext HE1.out) (HE.out.ext HE1.out).pow).mono ?_
      rintro e w2 ⟨v, rfl, hE2, hno, hyes⟩
      rw [HX.out] at hno hyes ⊢
      have HE2 := Lib.hid (ext_trans HE1.out hE2)
      clear hE2
      by_cases h0 : x = 0
      · subst h0
        obtain ⟨ba, bc, rfl, p1, p2, hby⟩ := hyes rfl
        obtain ⟨m, hm⟩ : ∃ m, (textL l).length = m := ⟨_, rfl⟩
        rw [hm] at p1 ⊢
        by_cases hm0 : m = 0
        · subst hm0
          go_wp2_with fail
          go_ret
          exact ⟨rfl, HE2.out⟩
        · have tm : ((m : Int) == 0) = false := by simp; omega
          obtain ⟨k, hk⟩ : ∃ k, c % m = k := ⟨_, rfl⟩
          have hkm : k < m := by rw [← hk]; exact Nat.mod_lt _ (by omega)
          have hki : (c : Int) % (m : Int) = (k : Int) := by rw [← hk]; simp
          have hm3 : m ≤ 32768 := by have := text_len HX.out; omega
          have HM := Lib.hid hm; have HP1 := Lib.hid p1; have HP2 := Lib.hid p2; have HBY := Lib.hid hby
          clear hno hyes hm p1 p2 hby hk
          have HKI := Lib.hid hki
          have hc0 : (0 : Int) ≤ (c : Int) % (m : Int) := by omega
          clear hki
          go_upto_region 9 with (fail)
          rw [HKI.out]
          have hkb : k ≤ bc := by have := HP1.out; omega
          obtain ⟨T, hT1, hT2, hT3⟩ := read_short (check_zero HX.out).1 (by rw [H1.out]; omega) (keys_of HL.out) (k := k) (by rw [HM.out]; exact hkm)
          have HT1 := Lib.hid hT1; have HT2 := Lib.hid hT2; have HT3 := Lib.hid hT3
          clear hT1 hT2 hT3 hc0
          go_wp2_with fail
          refine (Parse_any ((textL l).take k) ba k bc T w2 (by rw [List.length_take, HM.out]; omega) hkb HP2.out (byts_take HBY.out k) HT1.out (HE.out.ext HE2.out).syn (HE.out.ext HE2.out).rng).mono ?_
          rintro e w3 ⟨v, p, e3, rfl, hE3, h⟩
          rw [if_neg (by omega)] at h
          have HE3 := Lib.hid (ext_trans HE2.out hE3); have HH := Lib.hid h; have HE23 := Lib.hid hE3
          clear hE3 h
          go_upto_region 12 with (fail)
          go_loopw [11, 12] (fun en i wr => ∃ j : Nat, wr = w3 ∧ j ≤ k ∧ i = .int .i64 j ∧ en = .int .i64 ((((textL l).take j).count 125 : Nat) : Int)) (fun _ i _ => k - (intOf i).toNat)
          case atStart => exact ⟨0, rfl, Nat.zero_le _, rfl, rfl⟩
          case round =>
            obtain ⟨j, rfl, hj, rfl, rfl⟩ := hrel
            by_cases hlt : j < k
            · obtain ⟨ch, hch⟩ := get_some HM.out (show j < m by omega)
              obtain ⟨bb, bo, rfl, hcell⟩ := (HBY.out.ext HE23.out) j ch hch
              unfold U8At at hcell
              rw [Nat.mul_one] at hcell
              have hjb : j < bc := by have := HP1.out; omega
              have hcn : ((textL l).take j).count 125 ≤ j := by have := List.count_le_length (a := (125 : UInt8)) (l := (textL l).take j); rw [List.length_take] at this; omega
              have hts : (textL l).take (j + 1) = (textL l).take j ++ [ch] := by rw [List.take_add_one, hch]; rfl
              have HTS := Lib.hid (congrArg (List.count (125 : UInt8)) hts)
              clear hch hts
              cases q1 : ((ch.toNat : Int) == 125)
              · have HQ : Hid (ch ≠ 125) := Lib.hid (u8_ne (k := 125) (by decide) q1)
                go_wp2_with fail
                go_roundw
                case rel => exact ⟨j + 1, by first | rfl | trivial, by omega, by go_num, by
                  rw [HTS.out, List.count_append, List.count_cons_of_ne HQ.out]; simp⟩
                case measure => simp [intOf]; omega
              · have HQ : Hid (ch = 125) := Lib.hid (u8_eq (k := 125) q1)
                go_wp2_with fail
                go_roundw
                case rel => exact ⟨j + 1, by first | rfl | trivial, by omega, by go_num, by
                  rw [HTS.out, List.count_append, HQ.out]; simp⟩
                case measure => simp [intOf]; omega
            · obtain rfl : j = k := by omega
              rcases Nat.eq_zero_or_pos j with rfl | hj0
              · have tz : ((((0 : Nat) : Int)) == 0) = true := rfl
                obtain ⟨jj, hjl, hread, hcnt⟩ := HT2.out (.inl rfl)
                have h := HH.out
                rw [hread] at h
                obtain ⟨rfl, rfl, la, lc, rfl, q1, q2, hl2⟩ := h
                try rw [hcnt]
                have hlt : (l.take jj).length = jj := by rw [List.length_take]; omega
                rw [hlt] at q1 ⊢
                have hjn : jj ≤ n1 := by have := H1.out; omega
                have u1 : decide ((jj : Int) ≤ (n1 : Int)) = true := by simp; omega
                have hjc : jj ≤ c1 := by have := H1.out; have := K1.out; omega
                have HLT := Lib.hid hlt; have HQ1 := Lib.hid q1; have HQ2 := Lib.hid q2; have HL2 := Lib.hid hl2
                clear hlt q1 q2 hl2 hread hcnt hjl
                go_wp2_with fail
                refine (rSame_any (l.take jj) (l.take jj) la a lc jj c1 jj _ HLT.out HLT.out HQ1.out hjc HQ2.out HL2.out (ruls_take (HL.out.ext HE3.out) jj) true (by simp)).mono ?_; rintro e w4 ⟨rfl, hE4⟩
                have HE4 := Lib.hid (ext_trans HE3.out hE4)
                clear hE4
                go_wp2_with fail
                go_ret
                exact ⟨rfl, HE4.out⟩
              · obtain ⟨k, rfl⟩ : ∃ k', j = k' + 1 := ⟨j - 1, by omega⟩
                have tz : ((((k + 1 : Nat) : Int)) == 0) = false := by simp; omega
                have tk : ((k + 1 : Nat) : Int) - 1 = (k : Int) := by omega
                obtain ⟨ch, hch⟩ := get_some HM.out (show k < m by omega)
                obtain ⟨bb, bo, rfl, hcell⟩ := (HBY.out.ext HE23.out) k ch hch
                unfold U8At at hcell
                rw [Nat.mul_one] at hcell
                have hjb : k < bc := by have := HP1.out; omega
                have HCH := Lib.hid hch
                clear hch
                cases q1 : ((ch.toNat : Int) == 125)
                · cases q2 : ((ch.toNat : Int) == 10)
                  · have HQ : Hid (ch ≠ 125 ∧ ch ≠ 10) := Lib.hid ⟨u8_ne (k := 125) (by decide) q1, u8_ne (k := 10) (by decide) q2⟩
                    obtain ⟨p', hread, hpk⟩ := HT3.out (by
                      rw [Nat.add_sub_cancel, HCH.out]
                      rintro (h | h | h)
                      · omega
                      · exact HQ.out.1 (Option.some.inj h)
                      · exact HQ.out.2 (Option.some.inj h))
                    have h := HH.out
                    rw [hread] at h
                    obtain ⟨rfl, rfl, rfl⟩ := h
                    have u1 : decide ((p' : Int) ≤ ((k + 1 : Nat) : Int)) = true := by simp; omega
                    clear hread
                    go_wp2_with fail
                    go_ret
                    exact ⟨rfl, HE3.out⟩
                  · have HQ : Hid (ch = 10) := Lib.hid (u8_eq (k := 10) q2)
                    obtain ⟨jj, hjl, hread, hcnt⟩ := HT2.out (.inr (.inr (by rw [Nat.add_sub_cancel, HCH.out, HQ.out])))
                    have h := HH.out
                    rw [hread] at h
                    obtain ⟨rfl, rfl, la, lc, rfl, q1, q2, hl2⟩ := h
                    try rw [hcnt]
                    have hlt : (l.take jj).length = jj := by rw [List.length_take]; omega
                    rw [hlt] at q1 ⊢
                    have hjn : jj ≤ n1 := by have := H1.out; omega
                    have u1 : decide ((jj : Int) ≤ (n1 : Int)) = true := by simp; omega
                    have hjc : jj ≤ c1 := by have := H1.out; have := K1.out; omega
                    have HLT := Lib.hid hlt; have HQ1 := Lib.hid q1; have HQ2 := Lib.hid q2; have HL2 := Lib.hid hl2
                    clear hlt q1 q2 hl2 hread hcnt hjl
                    go_wp2_with fail
                    refine (rSame_any (l.take jj) (l.take jj) la a lc jj c1 jj _ HLT.out HLT.out HQ1.out hjc HQ2.out HL2.out (ruls_take (HL.out.ext HE3.out) jj) true (by simp)).mono ?_; rintro e w4 ⟨rfl, hE4⟩
                    have HE4 := Lib.hid (ext_trans HE3.out hE4)
                    clear hE4
                    go_wp2_with fail
                    go_ret
                    exact ⟨rfl, HE4.out⟩
                · have HQ : Hid (ch = 125) := Lib.hid (u8_eq (k := 125) q1)
                  obtain ⟨jj, hjl, hread, hcnt⟩ := HT2.out (.inr (.inl (by rw [Nat.add_sub_cancel, HCH.out, HQ.out])))
                  have h := HH.out
                  rw [hread] at h
                  obtain ⟨rfl, rfl, la, lc, rfl, q1, q2, hl2⟩ := h
                  try rw [hcnt]
                  have hlt : (l.take jj).length = jj := by rw [List.length_take]; omega
                  rw [hlt] at q1 ⊢
                  have hjn : jj ≤ n1 := by have := H1.out; omega
                  have u1 : decide ((jj : Int) ≤ (n1 : Int)) = true := by simp; omega
                  have hjc : jj ≤ c1 := by have := H1.out; have := K1.out; omega
                  have HLT := Lib.hid hlt; have HQ1 := Lib.hid q1; have HQ2 := Lib.hid q2; have HL2 := Lib.hid hl2
                  clear hlt q1 q2 hl2 hread hcnt hjl
                  go_wp2_with fail
                  refine (rSame_any (l.take jj) (l.take jj) la a lc jj c1 jj _ HLT.out HLT.out HQ1.out hjc HQ2.out HL2.out (ruls_take (HL.out.ext HE3.out) jj) true (by simp)).mono ?_; rintro e w4 ⟨rfl, hE4⟩
                  have HE4 := Lib.hid (ext_trans HE3.out hE4)
                  clear hE4
                  go_wp2_with fail
                  go_ret
                  exact ⟨rfl, HE4.out⟩
      · obtain rfl := hno h0
        have t0 : (x != 0) = true := by simpa using h0
        clear hno hyes h0
        go_wp2_with fail
        go_ret
        exact ⟨rfl, HE2.out⟩
end Go.Proofs.YteemkkmkkgfofaaGreatDoor
namespace Go.Proofs.YteemkkmkkgfofaaGreatDoor
open Go.RowKit Nam Pol Go.Maps
attribute [local go_sem] gv_of

/-- Bytes, as cells. -/
theorem byts_news {w : World} {a : Option Addr} {s : Str} (h : Byts w a s) : ∀ ad, a = some ad → ∀ (j : Nat) (u : Value), (Lib.byteCells s)[j]? = some u → w.cell? (ad.add j) = some u := fun ad ha j u hu => by
  unfold Lib.byteCells at hu
  rw [List.getElem?_map] at hu
  cases hx : s[j]? with
  | none => rw [hx] at hu; cases hu
  | some x =>
    rw [hx] at hu
    obtain ⟨b, off, hb, hc⟩ := h j x hx
    rw [ha] at hb
    cases hb
    unfold U8At at hc
    rw [Nat.mul_one] at hc
    rw [show ((⟨b, off, none⟩ : Addr).add j) = ⟨b, off + j, none⟩ from by simp [Addr.add], hc]
    simpa using hu
theorem own_byts {w : World} {base n : Nat} {T : TypeId} {v : Value} {s : Str} (hn : s.length = n) (h : w.ownsRow base T 1 v n (Lib.byteCells s)) : ∃ a c, v = .slice a n c ∧ n ≤ c ∧ c ≤ maxLen ∧ Byts w a s := by
  have hfl : s.flatMap (fun c : UInt8 => [Value.int .u8 (c.toNat : Int)]) = Lib.byteCells s := by
    unfold Lib.byteCells
    clear hn h
    induction s with
    | nil => rfl
    | cons x t ih => rw [List.flatMap_cons, ih]; rfl
  have := own_slv (cells := fun c : UInt8 => [Value.int .u8 (c.toNat : Int)]) (R := U8At) (l := s) (fun _ => rfl) (fun b o x hx hc => hc 0 _ rfl) hn (by rw [hfl]; exact h)
  obtain ⟨a, c, h1, h2, h3, h4⟩ := this
  rw [hn] at h1 h2
  exact ⟨a, c, h1, h2, h3, h4⟩
theorem byteCells_one (s : Str) : ∀ u ∈ Lib.byteCells s, u.oneCell' = true := fun u hu => by
  unfold Lib.byteCells at hu
  obtain ⟨x, _, rfl⟩ := List.mem_map.1 hu
  simp [Value.oneCell']
theorem infoU8 : (Tryz.prog.info? 5).map (fun i => (i.zero, i.size, i.bytes)) = some (some (.int .u8 0), 1, 1) := by kernel_rfl
theorem blankOut_app {k : Nat} : ∀ (s t : Str) (i : Nat), blankOut k i (s ++ t) = blankOut k i s ++ blankOut k (i + s.length) t
  | [], t, i => by simp [blankOut]
  | c :: s, t, i => by
    rw [List.cons_append, blankOut, blankOut, blankOut_app s t (i + 1), List.append_assoc, List.length_cons]
    rw [show i + 1 + s.length = i + (s.length + 1) by omega]
theorem blankOut_snoc {k : Nat} {s : Str} {i : Nat} {c : UInt8} (h : s[i]? = some c) : blankOut k 0 (s.take (i + 1)) = blankOut k 0 (s.take i) ++ blankAt k i c := by
  have hi := (List.getElem?_eq_some_iff.1 h).1
  rw [List.take_add_one, h, blankOut_app, List.length_take, Nat.min_eq_left (by omega), Nat.zero_add]
  simp [blankOut]
theorem blankAt_word {k j : Nat} {c : UInt8} (h1 : ((c.toNat : Int) != 32) = true) (h2 : ((c.toNat : Int) != 10) = true) : blankAt k j c = [c] := by
  have e1 : c ≠ 32 := by intro e; subst e; simp at h1
  have e2 : c ≠ 10 := by intro e; subst e; simp at h2
  unfold blankAt
  rw [if_pos ⟨e1, e2⟩]
theorem blankAt_blank {k j : Nat} {c : UInt8} (h : ((c.toNat : Int) != 32) = false ∨ ((c.toNat : Int) != 10) = false) : blankAt k j c = if (j + k) % 3 = 0 then [32, 10, 32] else if (j + k) % 3 = 1 then [35, 32, 119, 104, 97, 116, 59, 32, 105, 115, 32, 125, 32, 116, 104, 105, 115, 10] else [10] := by
  have e : ¬ (c ≠ 32 ∧ c ≠ 10) := by
    rintro ⟨e1, e2⟩
    rcases h with h | h
    · exact e1 (u8_eq (k := 32) (by simpa using h))
    · exact e2 (u8_eq (k := 10) (by simpa using h))
  unfold blankAt
  rw [if_neg e]
theorem cntB_take (s : Str) (i : Nat) : cntB (s.take i) ≤ cntB s := by
  have h := cntB_app (s.take i) (s.drop i)
  rw [List.take_append_drop] at h
  omega
set_option maxRecDepth 100000 in
set_option maxHeartbeats 4000000 in
theorem RuleBlanks_any (l : List Rul) (k : Nat) (a : Option Addr) (c1 n1 : Nat) (w : World) (h1 : l.length = n1) (k1 : n1 ≤ c1) (g1 : c1 ≤ maxLen) (hl : Ruls w a l) (hk : k ≤ 255) (hE : E15 w) :
    Calls Tryz.prog 7 #[.slice a n1 c1, .int .u8 k] w (Ret (.bool true) w) := by
  have H1 := Lib.hid h1; have K1 := Lib.hid k1; have G1 := Lib.hid g1; have HL := Lib.hid hl; have HE := Lib.hid hE
  obtain ⟨x, hx⟩ : ∃ x, checkE l = x := ⟨_, rfl⟩
  have HX := Lib.hid hx
  clear h1 g1 hl hE hx
  go_enter Tryz.func7, Tryz.ntmps7
  go_wp2_with fail
  refine (live15_any _ HE.out).mono ?_; rintro e w1 ⟨rfl, hE1⟩
  have HE1 := Lib.hid hE1
  clear hE1
  go_wp2_with fail
  refine (Few_any l a c1 n1 _ H1.out K1.out G1.out (HL.out.ext HE1.out)).mono ?_; rintro e w2 ⟨rfl, rfl⟩
  cases q1 : fewB l
  · clear q1
    go_wp2_with fail
    go_ret
    exact ⟨rfl, HE1.out⟩
  · clear q1
    by_cases h8 : 8 < n1
    · have t6 : decide ((8 : Int) < (n1 : Int)) = true := by simp; omega
      go_wp2_with fail
      go_ret
      exact ⟨rfl, HE1.out⟩
    · have t6 : decide ((8 : Int) < (n1 : Int)) = false := by simp; omega
      go_wp2_with fail
      refine (Print_any l a c1 n1 w1 H1.out K1.out G1.out (HL.out.ext HE1.out) (HE.out.ext HE1.out).pow).mono ?_
      rintro e w2 ⟨v, rfl, hE2, hno, hyes⟩
      rw [HX.out] at hno hyes ⊢
      have HE2 := Lib.hid (ext_trans HE1.out hE2)
      clear hE2
      by_cases h0 : x = 0
      · subst h0
        obtain ⟨ba, bc, rfl, p1, p2, hby⟩ := hyes rfl
        obtain ⟨m, hm⟩ : ∃ m, (textL l).length = m := ⟨_, rfl⟩
        rw [hm] at p1 ⊢
        by_cases hm6 : 6000 < m
        · have t7 : decide ((6000 : Int) < (m : Int)) = true := by simp; omega
          go_wp2_with fail
          go_ret
          exact ⟨rfl, HE2.out⟩
        · have t7 : decide ((6000 : Int) < (m : Int)) = false := by simp; omega
          obtain ⟨ok1, ok2⟩ := check_zero HX.out
          have hlens : m + 17 * cntB (textL l) ≤ 8160 := by
            have := rules_len (rulesOk_forms ok1)
            rw [hm, H1.out] at this
            omega
          obtain ⟨T, hT1, hT2⟩ := read_blanks (k := k) ok1 ok2 (keys_of HL.out)
          have HM := Lib.hid hm; have HP1 := Lib.hid p1; have HP2 := Lib.hid p2; have HBY := Lib.hid hby; have HT1 := Lib.hid hT1; have HT2 := Lib.hid hT2; have HLEN := Lib.hid hlens
          have HB : Hid (∀ i, (blankOut k 0 ((textL l).take i)).length ≤ 8160) := Lib.hid fun i => by
            have h9 := blankOut_len (k := k) ((textL l).take i) 0
            have h8 := cntB_take (textL l) i
            rw [List.length_take] at h9
            have := HM.out
            omega
          obtain ⟨i0, hi, hz0, hz1, hz2⟩ := info_parts infoU8
          clear hno hyes hm p1 p2 hby hT1 hT2 ok1 ok2 hlens
          go_upto_region 10 with (fail)
          go_loopw [7, 8] (fun v i wr => ∃ j : Nat, j ≤ m ∧ i = .int .i64 j ∧ wr.ownsRow w2.heap.size 5 1 v (blankOut k 0 ((textL l).take j)).length (Lib.byteCells (blankOut k 0 ((textL l).take j))) ∧ Ext w2 wr) (fun _ i _ => m - (intOf i).toNat)
          case atStart => exact ⟨0, Nat.zero_le _, rfl, World.ownsRow_made w2 #[] 0 (Nat.le_refl _) (Nat.zero_le _) (by simp), ext_alloc (Below.refl _ _) _⟩
          case round =>
            obtain ⟨j, hj, rfl, hown, hEr⟩ := hrel
            have HER := Lib.hid hEr
            have hsz := hEr.size
            by_cases hlt : j < m
            · obtain ⟨ch, hch⟩ := get_some HM.out hlt
              obtain ⟨bb, bo, rfl, hcell⟩ := (HBY.out.ext hEr) j ch hch
              unfold U8At at hcell
              rw [Nat.mul_one] at hcell
              have HS := Lib.hid (blankOut_snoc (k := k) hch)
              have hjb : j < bc := by have := HP1.out; omega
              have hlen := HB.out j
              obtain ⟨o, ho⟩ : ∃ o, blankOut k 0 ((textL l).take j) = o := ⟨_, rfl⟩
              rw [ho] at hown hlen
              have HO := Lib.hid ho
              clear hch ho hEr
              have HK : Hid (∀ (t : Value) (w' : World), w'.ownsRow w2.heap.size 5 1 t (o ++ blankAt k j ch).length (Lib.byteCells (o ++ blankAt k j ch)) → w'.ownsRow w2.heap.size 5 1 t (blankOut k 0 ((textL l).take (j + 1))).length (Lib.byteCells (blankOut k 0 ((textL l).take (j + 1))))) := Lib.hid fun t w' h => by rw [HS.out, HO.out]; exact h
              cases q1 : ((ch.toNat : Int) != 32)
              · have HB2 := Lib.hid (blankAt_blank (k := k) (j := j) (.inl q1))
                have HM3 : Hid ((((j : Int) + (k : Int)) % 3 == 0) = decide ((j + k) % 3 = 0) ∧ (((j : Int) + (k : Int)) % 3 == 1) = decide ((j + k) % 3 = 1)) := Lib.hid ⟨by rw [Bool.eq_iff_iff]; simp; omega, by rw [Bool.eq_iff_iff]; simp; omega⟩
                cases q3 : (((j : Int) + (k : Int)) % 3 == 0)
                · cases q4 : (((j : Int) + (k : Int)) % 3 == 1)
                  · have HW : Hid (blankAt k j ch = [10]) := Lib.hid (by
                      have h3 := HM3.out.1; have h4 := HM3.out.2
                      rw [q3] at h3
                      rw [q4] at h4
                      rw [HB2.out, if_neg (of_decide_eq_false h3.symm), if_neg (of_decide_eq_false h4.symm)])
                    go_wp2_with (at_builtin; refine wpList_append_own _ rfl _ _ 28 rfl w2.heap.size 5 i0 (.int .u8 0) 1 1 Tryz.underlying28 hi hz0 hz1 hz2 rfl (by decide) _ _ _ rfl (hown.alloc _) ⟨wr.heap.size, 0, none⟩ 1 1 [.int .u8 10] rfl rfl (one_cell_new _ _ _) (by simp [Value.oneCell']) (by unfold maxLen; omega) (by omega) (by simp; omega) ?_; intro v' w4 hown1 hgrow1 _)
                    go_roundw
                    case rel => exact ⟨j + 1, by omega, by go_num, HK.out _ _ (by rw [HW.out, List.length_append, Lib.byteCells_append]; exact hown1), (HER.out.alloc hsz _).grown hgrow1 (by simp; omega) (own_ge hown)⟩
                    case measure => simp [intOf]; omega
                  · have HW : Hid (blankAt k j ch = (⟨#[35, 32, 119, 104, 97, 116, 59, 32, 105, 115, 32, 125, 32, 116, 104, 105, 115, 10]⟩ : ByteArray).data.toList) := Lib.hid (by
                      have h3 := HM3.out.1; have h4 := HM3.out.2
                      rw [q3] at h3
                      rw [q4] at h4
                      rw [HB2.out, if_neg (of_decide_eq_false h3.symm), if_pos (of_decide_eq_true h4.symm)])
                    go_wp2_with (at_builtin; refine Lib.wpList_append_own_string _ rfl _ _ 28 9 rfl w2.heap.size 5 i0 Tryz.underlying28 Tryz.underlying9 hi hz0 hz1 hz2 _ _ _ rfl hown ⟨#[35, 32, 119, 104, 97, 116, 59, 32, 105, 115, 32, 125, 32, 116, 104, 105, 115, 10]⟩ rfl (by have : (⟨#[35, 32, 119, 104, 97, 116, 59, 32, 105, 115, 32, 125, 32, 116, 104, 105, 115, 10]⟩ : ByteArray).size = 18 := rfl; unfold maxLen; omega) (by have : (⟨#[35, 32, 119, 104, 97, 116, 59, 32, 105, 115, 32, 125, 32, 116, 104, 105, 115, 10]⟩ : ByteArray).size = 18 := rfl; omega) hsz ?_; intro v' w4 hown1 hgrow1 _)
                    go_roundw
                    case rel => exact ⟨j + 1, by omega, by go_num, HK.out _ _ (by rw [HW.out, List.length_append, Lib.byteCells_append]; exact hown1), HER.out.grown hgrow1 (own_ge hown)⟩
                    case measure => simp [intOf]; omega
                · have HW : Hid (blankAt k j ch = [32, 10, 32]) := Lib.hid (by
                    have h3 := HM3.out.1
                    rw [q3] at h3
                    rw [HB2.out, if_pos (of_decide_eq_true h3.symm)])
                  go_wp2_with (at_builtin; refine wpList_append_own _ rfl _ _ 28 rfl w2.heap.size 5 i0 (.int .u8 0) 1 1 Tryz.underlying28 hi hz0 hz1 hz2 rfl (by decide) _ _ _ rfl (hown.alloc _) ⟨wr.heap.size, 0, none⟩ 3 3 [.int .u8 32, .int .u8 10, .int .u8 32] rfl rfl (seven_new _ _ _) (by simp [Value.oneCell']) (by unfold maxLen; omega) (by omega) (by simp; omega) ?_; intro v' w4 hown1 hgrow1 _)
                  go_roundw
                  case rel => exact ⟨j + 1, by omega, by go_num, HK.out _ _ (by rw [HW.out, List.length_append, Lib.byteCells_append]; exact hown1), (HER.out.alloc hsz _).grown hgrow1 (by simp; omega) (own_ge hown)⟩
                  case measure => simp [intOf]; omega
              · cases q2 : ((ch.toNat : Int) != 10)
                · have HB2 := Lib.hid (blankAt_blank (k := k) (j := j) (.inr q2))
                  have HM3 : Hid ((((j : Int) + (k : Int)) % 3 == 0) = decide ((j + k) % 3 = 0) ∧ (((j : Int) + (k : Int)) % 3 == 1) = decide ((j + k) % 3 = 1)) := Lib.hid ⟨by rw [Bool.eq_iff_iff]; simp; omega, by rw [Bool.eq_iff_iff]; simp; omega⟩
                  cases q3 : (((j : Int) + (k : Int)) % 3 == 0)
                  · cases q4 : (((j : Int) + (k : Int)) % 3 == 1)
                    · have HW : Hid (blankAt k j ch = [10]) := Lib.hid (by
                        have h3 := HM3.out.1; have h4 := HM3.out.2
                        rw [q3] at h3
                        rw [q4] at h4
                        rw [HB2.out, if_neg (of_decide_eq_false h3.symm), if_neg (of_decide_eq_false h4.symm)])
                      go_wp2_with (at_builtin; refine wpList_append_own _ rfl _ _ 28 rfl w2.heap.size 5 i0 (.int .u8 0) 1 1 Tryz.underlying28 hi hz0 hz1 hz2 rfl (by decide) _ _ _ rfl (hown.alloc _) ⟨wr.heap.size, 0, none⟩ 1 1 [.int .u8 10] rfl rfl (one_cell_new _ _ _) (by simp [Value.oneCell']) (by unfold maxLen; omega) (by omega) (by simp; omega) ?_; intro v' w4 hown1 hgrow1 _)
                      go_roundw
                      case rel => exact ⟨j + 1, by omega, by go_num, HK.out _ _ (by rw [HW.out, List.length_append, Lib.byteCells_append]; exact hown1), (HER.out.alloc hsz _).grown hgrow1 (by simp; omega) (own_ge hown)⟩
                      case measure => simp [intOf]; omega
                    · have HW : Hid (blankAt k j ch = (⟨#[35, 32, 119, 104, 97, 116, 59, 32, 105, 115, 32, 125, 32, 116, 104, 105, 115, 10]⟩ : ByteArray).data.toList) := Lib.hid (by
                        have h3 := HM3.out.1; have h4 := HM3.out.2
                        rw [q3] at h3
                        rw [q4] at h4
                        rw [HB2.out, if_neg (of_decide_eq_false h3.symm), if_pos (of_decide_eq_true h4.symm)])
                      go_wp2_with (at_builtin; refine Lib.wpList_append_own_string _ rfl _ _ 28 9 rfl w2.heap.size 5 i0 Tryz.underlying28 Tryz.underlying9 hi hz0 hz1 hz2 _ _ _ rfl hown ⟨#[35, 32, 119, 104, 97, 116, 59, 32, 105, 115, 32, 125, 32, 116, 104, 105, 115, 10]⟩ rfl (by have : (⟨#[35, 32, 119, 104, 97, 116, 59, 32, 105, 115, 32, 125, 32, 116, 104, 105, 115, 10]⟩ : ByteArray).size = 18 := rfl; unfold maxLen; omega) (by have : (⟨#[35, 32, 119, 104, 97, 116, 59, 32, 105, 115, 32, 125, 32, 116, 104, 105, 115, 10]⟩ : ByteArray).size = 18 := rfl; omega) hsz ?_; intro v' w4 hown1 hgrow1 _)
                      go_roundw
                      case rel => exact ⟨j + 1, by omega, by go_num, HK.out _ _ (by rw [HW.out, List.length_append, Lib.byteCells_append]; exact hown1), HER.out.grown hgrow1 (own_ge hown)⟩
                      case measure => simp [intOf]; omega
                  · have HW : Hid (blankAt k j ch = [32, 10, 32]) := Lib.hid (by
                      have h3 := HM3.out.1
                      rw [q3] at h3
                      rw [HB2.out, if_pos (of_decide_eq_true h3.symm)])
                    go_wp2_with (at_builtin; refine wpList_append_own _ rfl _ _ 28 rfl w2.heap.size 5 i0 (.int .u8 0) 1 1 Tryz.underlying28 hi hz0 hz1 hz2 rfl (by decide) _ _ _ rfl (hown.alloc _) ⟨wr.heap.size, 0, none⟩ 3 3 [.int .u8 32, .int .u8 10, .int .u8 32] rfl rfl (seven_new _ _ _) (by simp [Value.oneCell']) (by unfold maxLen; omega) (by omega) (by simp; omega) ?_; intro v' w4 hown1 hgrow1 _)
                    go_roundw
                    case rel => exact ⟨j + 1, by omega, by go_num, HK.out _ _ (by rw [HW.out, List.length_append, Lib.byteCells_append]; exact hown1), (HER.out.alloc hsz _).grown hgrow1 (by simp; omega) (own_ge hown)⟩
                    case measure => simp [intOf]; omega
                · have HB2 := Lib.hid (blankAt_word (k := k) (j := j) q1 q2)
                  go_wp2_with (at_builtin; refine wpList_append_own _ rfl _ _ 28 rfl w2.heap.size 5 i0 (.int .u8 0) 1 1 Tryz.underlying28 hi hz0 hz1 hz2 rfl (by decide) _ _ _ rfl (hown.alloc _) ⟨wr.heap.size, 0, none⟩ 1 1 [.int .u8 (ch.toNat : Int)] rfl rfl (one_cell_new _ _ _) (by simp [Value.oneCell']) (by unfold maxLen; omega) (by omega) (by simp; omega) ?_; intro v' w4 hown1 hgrow1 _)
                  go_roundw
                  case rel => exact ⟨j + 1, by omega, by go_num, HK.out _ _ (by rw [HB2.out, List.length_append, Lib.byteCells_append]; exact hown1), (HER.out.alloc hsz _).grown hgrow1 (by simp; omega) (own_ge hown)⟩
                  case measure => simp [intOf]; omega
            · obtain rfl : j = m := by omega
              rw [List.take_of_length_le (by rw [HM.out]; exact Nat.le_refl _)] at hown
              have hlen := HB.out j
              rw [List.take_of_length_le (by rw [HM.out]; exact Nat.le_refl _)] at hlen
              obtain ⟨q, hq⟩ : ∃ q, (blankOut k 0 (textL l)).length = q := ⟨_, rfl⟩
              rw [hq] at hown hlen
              obtain ⟨oa, oc, rfl, o1, o2, o3⟩ := own_byts hq hown
              have HQ := Lib.hid hq; have HO1 := Lib.hid o1; have HO2 := Lib.hid o2; have HO3 := Lib.hid o3
              have HE3 := Lib.hid (ext_trans HE2.out HER.out)
              clear hq o1 o2 o3 hown hEr
              go_wp2_with fail
              refine (Parse_any (blankOut k 0 (textL l)) oa q oc T wr HQ.out HO1.out HO2.out HO3.out HT1.out (HE.out.ext HE3.out).syn (HE.out.ext HE3.out).rng).mono ?_
              rintro e w4 ⟨v, p, c, rfl, hE4, h⟩
              rw [if_neg (by omega), HT2.out] at h
              obtain ⟨rfl, rfl, la, lc, rfl, q1, q2, hl2⟩ := h
              rw [H1.out] at q1 ⊢
              have HE4 := Lib.hid (ext_trans HE3.out hE4); have HQ1 := Lib.hid q1; have HL2 := Lib.hid hl2
              clear hE4 q1 q2 hl2
              go_wp2_with fail
              refine (rSame_any l l a la c1 n1 lc n1 w4 H1.out H1.out K1 HQ1.out G1.out (HL.out.ext HE4.out) HL2.out true (by simp)).mono ?_; rintro e w5 ⟨rfl, hE5⟩
              have HE5 := Lib.hid (ext_trans HE4.out hE5)
              clear hE5
              go_wp2_with fail
              go_ret
              exact ⟨rfl, HE5.out⟩
      · obtain rfl := hno h0
        have t0 : (x != 0) = true := by simpa using h0
        clear hno hyes h0
        go_wp2_with fail
        go_ret
        exact ⟨rfl, HE2.out⟩
end Go.Proofs.YteemkkmkkgfofaaGreatDoor
namespace Go.Proofs.YteemkkmkkgfofaaGreatDoor
open Go.RowKit Nam Pol Go.Maps
attribute [local go_sem] gv_of

theorem own_join {α : Type} {W w1 : World} {base : Nat} {T : TypeId} {m : Nat} {R : ElR α} {v' : Value} {l l' : List α} {css css' : List (List Value)}
    (h1 : css.length = l.length) (h2 : ∀ (i : Nat) (cs : List Value) (x : α), css[i]? = some cs → l[i]? = some x → ElC m R W cs x)
    (k1 : css'.length = l'.length) (k2 : ∀ (i : Nat) (cs : List Value) (x : α), css'[i]? = some cs → l'[i]? = some x → ElC m R W cs x)
    (hown : w1.ownsRow base T m v' (l.length + l'.length) (css.flatten ++ css'.flatten)) : OwnL W base T m R w1 v' (l ++ l') := by
  refine ⟨css ++ css', by simp [h1, k1], fun i c y hc hy => ?_, by rw [List.flatten_append, List.length_append]; exact hown⟩
  by_cases hi : i < l.length
  · rw [List.getElem?_append_left (by omega)] at hc
    rw [List.getElem?_append_left hi] at hy
    exact h2 i c y hc hy
  · rw [List.getElem?_append_right (by omega)] at hc
    rw [List.getElem?_append_right (by omega)] at hy
    rw [h1] at hc
    exact k2 _ c y hc hy
theorem sl_nil {α : Type} {m : Nat} {R : ElR α} {w : World} {a : Option Addr} {l : List α} {n : Nat} (h : SlA m R w a l) (hn : l.length = n) (ha : a = none) : n = 0 := by
  cases l with
  | nil => simpa using hn.symm
  | cons x l =>
    obtain ⟨b, off, hb, _⟩ := h 0 x rfl
    rw [ha] at hb; cases hb
set_option maxRecDepth 100000 in
set_option maxHeartbeats 4000000 in
theorem RuleJoins_any (l m : List Rul) (a b : Option Addr) (c1 n1 c2 n2 : Nat) (w : World) (h1 : l.length = n1) (k1 : n1 ≤ c1) (g1 : c1 ≤ maxLen) (hl : Ruls w a l) (h2 : m.length = n2) (k2 : n2 ≤ c2) (g2 : c2 ≤ maxLen) (hm : Ruls w b m) (hE : E15 w) :
    Calls Tryz.prog 8 #[.slice a n1 c1, .slice b n2 c2] w (Ret (.bool true) w) := by
  have H1 := Lib.hid h1; have K1 := Lib.hid k1; have G1 := Lib.hid g1; have HL := Lib.hid hl; have H2 := Lib.hid h2; have K2 := Lib.hid k2; have G2 := Lib.hid g2; have HM := Lib.hid hm; have HE := Lib.hid hE
  obtain ⟨x, hx⟩ : ∃ x, checkE l = x := ⟨_, rfl⟩
  obtain ⟨y, hy⟩ : ∃ y, checkE m = y := ⟨_, rfl⟩
  obtain ⟨z, hz⟩ : ∃ z, checkE (l ++ m) = z := ⟨_, rfl⟩
  have HX := Lib.hid hx; have HY := Lib.hid hy; have HZ := Lib.hid hz
  clear h1 k1 g1 hl h2 k2 g2 hm hE hx hy hz
  go_enter Tryz.func8, Tryz.ntmps8
  go_wp2_with fail
  refine (live15_any _ HE.out).mono ?_; rintro e w1 ⟨rfl, hE1⟩
  have HE1 := Lib.hid hE1
  clear hE1
  go_wp2_with fail
  refine (Few_any l a c1 n1 _ H1.out K1.out G1.out (HL.out.ext HE1.out)).mono ?_; rintro e w2 ⟨rfl, rfl⟩
  cases q1 : fewB l
  · clear q1
    go_wp2_with fail
    go_ret
    exact ⟨rfl, HE1.out⟩
  clear q1
  go_wp2_with fail
  refine (Few_any m b c2 n2 _ H2.out K2.out G2.out (HM.out.ext HE1.out)).mono ?_; rintro e w2 ⟨rfl, rfl⟩
  cases q2 : fewB m
  · clear q2
    go_wp2_with fail
    go_ret
    exact ⟨rfl, HE1.out⟩
  clear q2
  by_cases hn1 : 20 < n1
  · have t6 : decide ((20 : Int) < (n1 : Int)) = true := by simp; omega
    go_wp2_with fail
    go_ret
    exact ⟨rfl, HE1.out⟩
  have t6 : decide ((20 : Int) < (n1 : Int)) = false := by simp; omega
  by_cases hn2 : 20 < n2
  · have t7 : decide ((20 : Int) < (n2 : Int)) = true := by simp; omega
    go_wp2_with fail
    go_ret
    exact ⟨rfl, HE1.out⟩
  have t7 : decide ((20 : Int) < (n2 : Int)) = false := by simp; omega
  go_wp2_with fail
  refine (Print_any l a c1 n1 w1 H1.out K1.out G1.out (HL.out.ext HE1.out) (HE.out.ext HE1.out).pow).mono ?_
  rintro e w2 ⟨v, rfl, hE2, hno, hyes⟩
  rw [HX.out] at hno hyes ⊢
  have HE2 := Lib.hid (ext_trans HE1.out hE2); have HNO := Lib.hid hno; have HYES := Lib.hid hyes
  clear hE2 hno hyes
  go_wp2_with fail
  refine (Print_any m b c2 n2 w2 H2.out K2.out G2.out (HM.out.ext HE2.out) (HE.out.ext HE2.out).pow).mono ?_
  rintro e w3 ⟨u, rfl, hE3, hno2, hyes2⟩
  rw [HY.out] at hno2 hyes2 ⊢
  have HE3 := Lib.hid (ext_trans HE2.out hE3); have HE23 := Lib.hid hE3; have HYES2 := Lib.hid hyes2
  clear hE3 hno2 hyes2
  by_cases hx0 : x = 0
  rotate_left
  · have t8 : (x != 0) = true := by simpa using hx0
    go_wp2_with fail
    go_ret
    exact ⟨rfl, HE3.out⟩
  by_cases hy0 : y = 0
  rotate_left
  · have t9 : (y != 0) = true := by simpa using hy0
    subst hx0
    go_wp2_with fail
    go_ret
    exact ⟨rfl, HE3.out⟩
  subst hx0; subst hy0
  obtain ⟨ba, bc, rfl, p1, p2, hby⟩ := HYES.out rfl
  obtain ⟨ca, cc, rfl, r1, r2, hcy⟩ := HYES2.out rfl
  obtain ⟨kl, hkl⟩ : ∃ kl, (textL l).length = kl := ⟨_, rfl⟩
  obtain ⟨km, hkm⟩ : ∃ km, (textL m).length = km := ⟨_, rfl⟩
  rw [hkl] at p1 ⊢
  rw [hkm] at r1 ⊢
  obtain ⟨ok1, _⟩ := check_zero HX.out
  obtain ⟨ok2, _⟩ := check_zero HY.out
  have hbl : kl ≤ 13260 := by have := (rules_len (rulesOk_forms ok1)).1; rw [hkl, H1.out] at this; omega
  have hbm : km ≤ 13260 := by have := (rules_len (rulesOk_forms ok2)).1; rw [hkm, H2.out] at this; omega
  obtain ⟨T, hT1, hT2, hT3⟩ := read_joins HX.out HY.out (keys_of HL.out) (keys_of HM.out)
  have HKL := Lib.hid hkl; have HKM := Lib.hid hkm; have HP1 := Lib.hid p1; have HP2 := Lib.hid p2; have HBY := Lib.hid (hby.ext HE23.out); have HCY := Lib.hid hcy
  have HT1 := Lib.hid hT1; have HT2 := Lib.hid hT2; have HT3 := Lib.hid hT3
  clear ok1 ok2 hkl hkm p1 p2 r1 r2 hby hcy hT1 hT2 hT3
  obtain ⟨i0, hi, hz0, hz1, hz2⟩ := info_parts info7R
  obtain ⟨css, g1, g2, g3, g4, g5⟩ := sl_css (rul_cs w3) (HL.out.ext HE3.out)
  obtain ⟨dss, e1, e2, e3, e4, e5⟩ := sl_css (rul_cs w3) (HM.out.ext HE3.out)
  have h0 : a = none → n1 = 0 := fun h => sl_nil (HL.out) H1.out h
  have h02 : b = none → n2 = 0 := fun h => sl_nil (HM.out) H2.out h
  rw [H1.out] at g3
  rw [H2.out] at e3
  have HG1 := Lib.hid g1; have HG2 := Lib.hid g2; have HG3 := Lib.hid g3; have HG4 := Lib.hid g4; have HG5 := Lib.hid g5; have HA0 := Lib.hid h0
  have HD1 := Lib.hid e1; have HD2 := Lib.hid e2; have HD3 := Lib.hid e3; have HD4 := Lib.hid e4; have HD5 := Lib.hid e5; have HA02 := Lib.hid h02
  clear g1 g2 g3 g4 g5 h0 e1 e2 e3 e4 e5 h02
  go_upto_region 10 with (first
    | (at_builtin; refine wpList_append_own_any rfl _ _ 22 rfl w3.heap.size 40 i0 (.agg #[.string ⟨#[]⟩, .bool false, .slice none 0 0, .int .u64 0, .int .i64 0, .int .i64 0, .int .i64 0]) 7 80 Tryz.underlying22 hi hz0 hz1 hz2 rfl (by decide) _ 0 [] rfl (World.ownsRow_made w3 #[] 0 (Nat.le_refl _) (Nat.zero_le _) (by simp)) a n1 c1 css.flatten rfl HG3.out (fun ad had j u hu => ((ext_alloc (Below.refl _ w3) _).cell (cell_lt (HG5.out ad had j u hu))).trans (HG5.out ad had j u hu)) HA0.out HG4.out (by unfold maxLen; omega) (by omega) (by simp) ?_
       intro v1 w4 hown1 hgrow1
       have hE4 : Ext w3 w4 := ((Below.refl _ w3).alloc (Nat.le_refl _) _).grown hgrow1 (by simp) (fun k hk => by have e : some w3.heap.size = some k := hk; cases e; exact Nat.le_refl _)
       rw [Nat.zero_add, List.nil_append] at hown1
       have HO1 := Lib.hid hown1; have HE34 := Lib.hid hE4
       have hsz := hE4.size
       clear hown1 hgrow1 hE4)
    | (at_builtin; refine wpList_append_own_any rfl _ _ 22 rfl w3.heap.size 40 i0 (.agg #[.string ⟨#[]⟩, .bool false, .slice none 0 0, .int .u64 0, .int .i64 0, .int .i64 0, .int .i64 0]) 7 80 Tryz.underlying22 hi hz0 hz1 hz2 rfl (by decide) v1 n1 css.flatten rfl HO1.out b n2 c2 dss.flatten rfl HD3.out (fun ad had j u hu => (HE34.out.cell (cell_lt (HD5.out ad had j u hu))).trans (HD5.out ad had j u hu)) HA02.out HD4.out (by unfold maxLen; omega) (by omega) hsz ?_
       intro v2 w5 hown2 hgrow2
       have hE5 : Ext w3 w5 := Ext.grown HE34.out hgrow2 (own_ge HO1.out)
       have hsl := OwnL.slv (own_join HG1.out HG2.out HD1.out HD2.out (by rw [H1.out, H2.out]; exact hown2)) hE5
       have HSL := Lib.hid hsl; have HE35 := Lib.hid hE5
       clear hown2 hgrow2 hE5 hsl hsz hi hz0 hz1 hz2))
  obtain ⟨va, vc, hv2, b1, b2, b3⟩ := HSL.out
  have hml : (l ++ m).length = n1 + n2 := by rw [List.length_append, H1.out, H2.out]
  rw [hml] at hv2 b1
  subst hv2
  have HML := Lib.hid hml; have HB1 := Lib.hid b1; have HB2 := Lib.hid b2; have HB3 := Lib.hid b3
  have HBY5 := Lib.hid (HBY.out.ext HE35.out); have HCY5 := Lib.hid (HCY.out.ext HE35.out)
  have HE5 := Lib.hid (ext_trans HE3.out HE35.out)
  clear hml b1 b2 b3 HSL HO1 HE34 HG1 HG2 HG3 HG4 HG5 HA0 HD1 HD2 HD3 HD4 HD5 HA02
  obtain ⟨i0, hi, hz0, hz1, hz2⟩ := info_parts infoU8
  have HBA : Hid (ba = none → kl = 0) := Lib.hid fun h => sl_nil HBY5.out HKL.out h
  have HCA : Hid (ca = none → km = 0) := Lib.hid fun h => sl_nil HCY5.out HKM.out h
  have HL1 : Hid ((Lib.byteCells (textL l)).length = kl * 1) := Lib.hid (by rw [Lib.byteCells_length, HKL.out, Nat.mul_one])
  have HL2 : Hid ((Lib.byteCells (textL m)).length = km * 1) := Lib.hid (by rw [Lib.byteCells_length, HKM.out, Nat.mul_one])
  go_wp2_with (first
    | (at_builtin; refine wpList_append_own_any rfl _ _ 28 rfl w5.heap.size 5 i0 (.int .u8 0) 1 1 Tryz.underlying28 hi hz0 hz1 hz2 rfl (by decide) _ 0 [] rfl (World.ownsRow_made w5 #[] 0 (Nat.le_refl _) (Nat.zero_le _) (by simp)) ba kl bc (Lib.byteCells (textL l)) rfl HL1.out (fun ad had j u hu => ((ext_alloc (Below.refl _ w5) _).cell (cell_lt (byts_news HBY5.out ad had j u hu))).trans (byts_news HBY5.out ad had j u hu)) HBA.out (byteCells_one _) (by unfold maxLen; omega) (by omega) (by simp) ?_
       intro v3 w6 hown1 hgrow1
       have hE4 : Ext w5 w6 := ((Below.refl _ w5).alloc (Nat.le_refl _) _).grown hgrow1 (by simp) (fun k hk => by have e : some w5.heap.size = some k := hk; cases e; exact Nat.le_refl _)
       rw [Nat.zero_add, List.nil_append] at hown1
       have HO1 := Lib.hid hown1; have HE56 := Lib.hid hE4
       have hsz := hE4.size
       clear hown1 hgrow1 hE4)
    | (at_builtin; refine wpList_append_own_any rfl _ _ 28 rfl w5.heap.size 5 i0 (.int .u8 0) 1 1 Tryz.underlying28 hi hz0 hz1 hz2 rfl (by decide) v3 kl (Lib.byteCells (textL l)) rfl HO1.out ca km cc (Lib.byteCells (textL m)) rfl HL2.out (fun ad had j u hu => (HE56.out.cell (cell_lt (byts_news HCY5.out ad had j u hu))).trans (byts_news HCY5.out ad had j u hu)) HCA.out (byteCells_one _) (by unfold maxLen; omega) (by omega) hsz ?_
       intro v4 w7 hown2 hgrow2
       have hE5 : Ext w5 w7 := Ext.grown HE56.out hgrow2 (own_ge HO1.out)
       rw [← Lib.byteCells_append] at hown2
       have HO2 := Lib.hid hown2; have HE57 := Lib.hid hE5
       clear hown2 hgrow2 hE5 hsz hi hz0 hz1 hz2))
  have hkk : (textL l ++ textL m).length = kl + km := by rw [List.length_append, HKL.out, HKM.out]
  obtain ⟨oa, oc, rfl, o1, o2, o3⟩ := own_byts hkk HO2.out
  have HKK := Lib.hid hkk; have HP3 := Lib.hid o1; have HP4 := Lib.hid o2; have HO3 := Lib.hid o3
  have HE7 := Lib.hid (ext_trans HE5.out HE57.out)
  have HB7 := Lib.hid (HB3.out.ext HE57.out)
  clear hkk o1 o2 o3 HO1 HO2 HE56
  refine (Parse_any (textL l ++ textL m) oa (kl + km) oc T w7 HKK.out HP3.out HP4.out HO3.out HT1.out (HE.out.ext HE7.out).syn (HE.out.ext HE7.out).rng).mono ?_
  rintro e w8 ⟨v, p, c, rfl, hE8, h⟩
  rw [if_neg (by omega)] at h
  have HE8 := Lib.hid (ext_trans HE7.out hE8); have HH := Lib.hid h; have HE58 := Lib.hid (ext_trans HE57.out hE8); have HE78 := Lib.hid hE8
  clear hE8 h
  by_cases hz : z = 0
  · subst hz
    have h := HH.out
    rw [HT2.out HZ.out] at h
    obtain ⟨rfl, rfl, la, lc, rfl, q1, q2, hl2⟩ := h
    rw [HML.out] at q1 ⊢
    have HQ1 := Lib.hid q1; have HQ2 := Lib.hid q2; have HL2' := Lib.hid hl2
    clear q1 q2 hl2
    go_wp2_with fail
    have hc := pCheck_any (l ++ m) va vc (n1 + n2) w8 HML.out HB1.out HB2.out (HB3.out.ext HE58.out)
    rw [HZ.out] at hc
    refine hc.mono ?_; clear hc; rintro e w9 ⟨rfl, hE9⟩
    have HE9 := Lib.hid (ext_trans HE8.out hE9); have HE59 := Lib.hid (ext_trans HE58.out hE9); have HE89 := Lib.hid hE9
    clear hE9
    go_wp2_with fail
    refine (rSame_any (l ++ m) (l ++ m) la va lc (n1 + n2) vc (n1 + n2) w9 HML.out HML.out HQ1.out HB1.out HQ2.out (HL2'.out.ext HE89.out) (HB3.out.ext HE59.out) true (by simp)).mono ?_; rintro e w10 ⟨rfl, hE10⟩
    have HE10 := Lib.hid (ext_trans HE9.out hE10)
    clear hE10
    go_wp2_with fail
    go_ret
    exact ⟨rfl, HE10.out⟩
  · obtain ⟨p', e', hread, hpk, he, he2⟩ := HT3.out (by rw [HZ.out]; exact hz)
    have h := HH.out
    rw [hread] at h
    obtain ⟨rfl, rfl, rfl⟩ := h
    rw [HKL.out] at hpk
    rw [HZ.out] at he2
    have u1 : decide ((kl : Int) ≤ (p' : Int)) = true := by simp; omega
    have t3 : (z == 0) = false := by simpa using hz
    clear hread
    go_wp2_with fail
    have hc := pCheck_any (l ++ m) va vc (n1 + n2) w8 HML.out HB1.out HB2.out (HB3.out.ext HE58.out)
    rw [HZ.out] at hc
    refine hc.mono ?_; clear hc; rintro e w9 ⟨rfl, hE9⟩
    have HE9 := Lib.hid (ext_trans HE8.out hE9)
    clear hE9
    by_cases hz2' : z = 2
    · subst hz2'
      obtain rfl := he2 rfl
      go_wp2_with fail
      go_ret
      exact ⟨rfl, HE9.out⟩
    · have t4 : (z == 2) = false := by simpa using hz2'
      rcases he with rfl | rfl
      all_goals
        go_wp2_with fail
        go_ret
        exact ⟨rfl, HE9.out⟩
end Go.Proofs.YteemkkmkkgfofaaGreatDoor
namespace Go.Proofs.YteemkkmkkgfofaaGreatDoor
open Go.RowKit Nam Pol Go.Maps
attribute [local go_sem] gv_of

theorem joinP_cons (x : ByteArray) : ∀ {t : List ByteArray}, t ≠ [] → joinP (x :: t) = x.data.toList ++ ([44, 32] ++ joinP t)
  | [], h => absurd rfl h
  | _ :: _, _ => rfl
/-- Patterns, with commas. -/
theorem joinP_snoc : ∀ {l : List ByteArray} {k : Nat} {p : ByteArray}, l[k]? = some p → joinP (l.take (k + 1)) = joinP (l.take k) ++ ((if k = 0 then [] else [44, 32]) ++ p.data.toList)
  | [], k, p, h => by simp at h
  | x :: l, 0, p, h => by simp at h; subst h; simp [joinP]
  | x :: l, k + 1, p, h => by
    have h' : l[k]? = some p := by simpa using h
    have hk := (List.getElem?_eq_some_iff.1 h').1
    have ih := joinP_snoc h'
    have hne : ∀ m, 0 < m → l.take m ≠ [] := fun m hm e => by
      have := congrArg List.length e
      rw [List.length_take, List.length_nil] at this
      omega
    rw [List.take_succ_cons, List.take_succ_cons, joinP_cons x (hne _ (by omega)), ih]
    by_cases hk0 : k = 0
    · subst hk0; simp [joinP]
    · rw [joinP_cons x (hne k (by omega)), if_neg hk0, if_neg (by omega)]
      simp
theorem str_app {a b : ByteArray} {s t : Str} (h : a.data.toList = s) (k : b.data.toList = t) : (a ++ b).data.toList = s ++ t := by
  rw [← h, ← k]; simp
theorem size_of_list {a : ByteArray} {s : Str} (h : a.data.toList = s) : a.size = s.length := by rw [Lib.size_eq, h]
theorem join_take_len {ps : List ByteArray} {k : Nat} (h8 : ps.length ≤ 8) (h : ∀ p ∈ ps, patOk p = true) : (joinP (ps.take k)).length ≤ 528 := by
  have h1 := (join_len (ps := ps.take k) (fun p hp => h p (List.mem_of_mem_take hp))).1
  have h2 : (ps.take k).length ≤ 8 := by rw [List.length_take]; omega
  omega
set_option maxRecDepth 100000 in
set_option maxHeartbeats 4000000 in
theorem text15_any (r : Rul) (a : Option Addr) (c : Nat) (w : World) (hf : formB r = true) (hkm : 0 ≤ r.keyMin) (hnc : r.pats.length ≤ c) (hl : Strs w a r.pats) :
    Calls Tryz.prog 31 #[rulV r a c] w (Ret (.string (bA (textR r))) w) := by
  obtain ⟨q1, q2, q3, q4, q5⟩ := form_parts hf
  have hnz : r.name.size ≤ 16 := by
    unfold ruleName at q1
    simp only [Bool.and_eq_true, decide_eq_true_eq] at q1
    rw [Lib.size_eq]; exact q1.1.2
  have hpz : ∀ p ∈ r.pats, p.size ≤ 64 := fun p hp => by rw [Lib.size_eq]; exact pat_len (pats_all q4 p hp)
  have HJ : Hid (∀ k, (joinP (r.pats.take k)).length ≤ 528) := Lib.hid fun k => join_take_len q3 (pats_all q4)
  have HSM := Lib.hid (form_small hf); have HQ5 := Lib.hid q5; have HPZ := Lib.hid hpz; have HKM := Lib.hid hkm
  obtain ⟨n, hn⟩ : ∃ n, r.pats.length = n := ⟨_, rfl⟩
  have HN := Lib.hid hn; have HL := Lib.hid hl
  have hn8 : n ≤ 8 := by rw [← hn]; exact q3
  obtain ⟨al, hal⟩ : ∃ al, r.allow = al := ⟨_, rfl⟩
  have HAL := Lib.hid hal
  unfold rulV
  rw [hn, hal]
  rw [hn] at hnc
  clear hn hl hal q1 q2 q3 q4 q5 hpz hkm hf
  go_enter Tryz.func31, Tryz.ntmps31
  go_upto_region 1 with (fail)
  obtain ⟨W0, hW0⟩ : ∃ W0, (w).alloc (Obj.cells #[.string r.name, .bool al, .slice a n c, .int .u64 r.keyMin, .int .i64 r.lifeMax, .int .i64 r.most, .int .i64 r.window] 40) = W0 := ⟨_, rfl⟩
  have hE0 : Ext w W0 := by rw [← hW0]; exact ext_alloc (Below.refl _ _) _
  have c00 : W0.cell? ⟨w.heap.size, 0, none⟩ = some (.string r.name) := by rw [← hW0]; simp [go_sem]
  have c01 : W0.cell? ⟨w.heap.size, 1, none⟩ = some (.bool al) := by rw [← hW0]; simp [go_sem]
  have c02 : W0.cell? ⟨w.heap.size, 2, none⟩ = some (.slice a n c) := by rw [← hW0]; simp [go_sem]
  have c03 : W0.cell? ⟨w.heap.size, 3, none⟩ = some (.int .u64 r.keyMin) := by rw [← hW0]; simp [go_sem]
  have c04 : W0.cell? ⟨w.heap.size, 4, none⟩ = some (.int .i64 r.lifeMax) := by rw [← hW0]; simp [go_sem]
  have c05 : W0.cell? ⟨w.heap.size, 5, none⟩ = some (.int .i64 r.most) := by rw [← hW0]; simp [go_sem]
  have c06 : W0.cell? ⟨w.heap.size, 6, none⟩ = some (.int .i64 r.window) := by rw [← hW0]; simp [go_sem]
  have C00 := Lib.hid c00; have C01 := Lib.hid c01; have C02 := Lib.hid c02; have C03 := Lib.hid c03; have C04 := Lib.hid c04; have C05 := Lib.hid c05; have C06 := Lib.hid c06; have HE0 := Lib.hid hE0
  rw [hW0]
  clear hW0 hE0
  clear c06
  obtain ⟨K, hK⟩ : ∃ K : ByteArray, (if al then ⟨#[97, 108, 108, 111, 119, 32]⟩ else ⟨#[114, 101, 102, 117, 115, 101, 32]⟩) = K := ⟨_, rfl⟩
  have HK := Lib.hid hK
  have hkz : K.size ≤ 7 := by rw [← hK]; cases al <;> decide
  clear hK
  go_upto_if 6 with (fail)
  go_cut [3] (fun v wx => v = .string K ∧ wx = W0)
  case first =>
    cases al
    · have HH : Hid (K = ⟨#[114, 101, 102, 117, 115, 101, 32]⟩) := Lib.hid (by rw [← HK.out]; rfl)
      go_wp2_with fail
      go_meet
      exact ⟨by rw [HH.out], rfl⟩
    · have HH : Hid (K = ⟨#[97, 108, 108, 111, 119, 32]⟩) := Lib.hid (by rw [← HK.out]; rfl)
      go_wp2_with fail
      go_meet
      exact ⟨by rw [HH.out], rfl⟩
  case rest =>
    obtain ⟨rfl, rfl⟩ := hcut
    have HT : Hid ((textR r) = (((((K.data.toList ++ r.name.data.toList) ++ [32, 123, 32]) ++ joinP r.pats) ++ [59, 32]) ++ (keyR r ++ (lifeR r ++ mostR r))) ++ [125, 10]) := Lib.hid (by
      unfold textR bodyR headR
      rw [← HK.out, HAL.out]
      cases al <;> simp)
    go_upto_region 6 with (fail)
    go_loopw [3, 4] (fun s i wr => ∃ (k : Nat) (Z : ByteArray), wr = wc ∧ k ≤ n ∧ i = .int .i64 k ∧ s = .string Z ∧ Z.data.toList = ((K.data.toList ++ r.name.data.toList) ++ [32, 123, 32]) ++ joinP (r.pats.take k)) (fun _ i _ => n - (intOf i).toNat)
    case atStart => exact ⟨0, _, rfl, Nat.zero_le _, rfl, rfl, by simp [joinP]⟩
    case round =>
      obtain ⟨k, Z, rfl, hk, rfl, rfl, hZ⟩ := hrel
      have hzs : Z.size ≤ 560 := by
        rw [size_of_list hZ]
        have h1 := HJ.out k
        have h2 := Lib.size_eq K
        have h3 := Lib.size_eq r.name
        simp only [List.length_append, List.length_cons, List.length_nil]
        omega
      have HZ := Lib.hid hZ
      clear hZ
      by_cases hlt : k < n
      · obtain ⟨p, hp⟩ := get_some HN.out hlt
        obtain ⟨b, off, rfl, d0, _⟩ := (HL.out.ext HE0.out) k p hp
        rw [Nat.mul_one] at d0
        have hpz := HPZ.out p (List.mem_of_getElem? hp)
        have HS := Lib.hid (joinP_snoc hp)
        have hkc : k < c := by omega
        clear hp
        by_cases hk0 : k = 0
        · subst hk0
          simp only [Nat.add_zero] at d0
          go_wp2_with fail
          go_roundw
          case rel =>
            refine ⟨1, _, by first | rfl | trivial, by omega, rfl, rfl, ?_⟩
            have h9 := HS.out
            rw [Nat.zero_add, if_pos rfl, List.nil_append] at h9
            rw [h9, str_app HZ.out rfl, List.append_assoc]
          case measure => simp [intOf]; omega
        · have t1 : decide ((0 : Int) < (k : Int)) = true := by simp; omega
          go_wp2_with fail
          go_roundw
          case rel =>
            refine ⟨k + 1, _, by first | rfl | trivial, by omega, by go_num, rfl, ?_⟩
            have h9 := HS.out
            rw [if_neg hk0] at h9
            rw [h9, str_app (str_app HZ.out rfl) rfl]
            simp
          case measure => simp [intOf]; omega
      · obtain rfl : k = n := by omega
        rw [List.take_of_length_le (by rw [HN.out]; exact Nat.le_refl _)] at HZ
        obtain ⟨kn, hkn⟩ := Int.eq_ofNat_of_zero_le HKM.out
        have HKN := Lib.hid hkn
        rw [hkn] at c03
        have hkz : kn < 18446744073709551616 := by
          cases hal : r.allow
          · have := (lim_none HQ5.out hal).1; omega
          · have := (lim_parts HQ5.out hal).1; omega
        clear hkn
        go_upto_if 34 with (fail)
        go_cut [3] (fun v wx => ∃ Z2 : ByteArray, v = .string Z2 ∧ Z2.data.toList = (Z.data.toList ++ [59, 32]) ++ keyR r ∧ Ext wr wx)
        case first =>
          by_cases hk0 : 0 < kn
          · have t1 : decide ((0 : Int) < (kn : Int)) = true := by simp; omega
            have hd := (dec_len (kn : Int) (by omega)).1
            rw [decS, Int.toNat_natCast] at hd
            have hdz : (bA (Lib.decDigits kn)).size ≤ 20 := by rw [Lib.size_eq]; exact hd
            go_wp2_with fail
            refine (decimal_any kn hkz _).mono ?_
            rintro e w5 ⟨rfl, hE5⟩
            have HE5 := Lib.hid hE5
            clear hE5
            go_wp2_with fail
            go_meet
            refine ⟨_, rfl, ?_, HE5.out⟩
            unfold keyR
            rw [if_pos (by rw [HKN.out]; omega), decS, HKN.out, Int.toNat_natCast]
            simp [bA]
          · have t1 : decide ((0 : Int) < (kn : Int)) = false := by simp; omega
            go_wp2_with fail
            go_meet
            refine ⟨_, rfl, ?_, Below.refl _ _⟩
            unfold keyR
            rw [if_neg (by rw [HKN.out]; omega)]
            simp
        case rest =>
          obtain ⟨Z2, rfl, hZ2, hE2⟩ := hcut
          have hz2 : Z2.size ≤ 600 := by
            rw [size_of_list hZ2]
            have h1 := (key_len r HSM.out.1).1
            have h2 := Lib.size_eq Z
            simp only [List.length_append, List.length_cons, List.length_nil]
            omega
          have HZ2 := Lib.hid hZ2; have HE2 := Lib.hid hE2
          replace C01 := Lib.hid (ext_cell C01.out HE2.out); replace C04 := Lib.hid (ext_cell C04.out HE2.out); replace C05 := Lib.hid (ext_cell C05.out HE2.out); replace C06 := Lib.hid (ext_cell C06.out HE2.out)
          have c01 := C01.out; have c04 := C04.out
          clear hZ2 hE2 c02 c03
          go_upto_if 43 with (fail)
          go_cut [3] (fun v wx => ∃ Z3 : ByteArray, v = .string Z3 ∧ Z3.data.toList = Z2.data.toList ++ lifeR r ∧ Ext wc wx)
          case first =>
            cases al
            · go_wp2_with fail
              go_meet
              refine ⟨_, rfl, ?_, Below.refl _ _⟩
              unfold lifeR
              rw [HAL.out]; simp
            · have hlf := lim_parts HQ5.out HAL.out
              obtain ⟨ln, hln⟩ := Int.eq_ofNat_of_zero_le (show 0 ≤ r.lifeMax by omega)
              have hlz : ln ≤ 1000 := by omega
              have HLN := Lib.hid hln
              rw [hln] at c04
              have hd := (dec_len (ln : Int) (by omega)).1
              rw [decS, Int.toNat_natCast] at hd
              have hdz : (bA (Lib.decDigits ln)).size ≤ 20 := by rw [Lib.size_eq]; exact hd
              clear hlf hln
              go_wp2_with fail
              refine (decimal_any ln (by omega) _).mono ?_
              rintro e w5 ⟨rfl, hE5⟩
              have HE5 := Lib.hid hE5
              clear hE5
              go_wp2_with fail
              go_meet
              refine ⟨_, rfl, ?_, HE5.out⟩
              unfold lifeR
              rw [if_pos HAL.out, decS, HLN.out, Int.toNat_natCast]
              simp [bA]
          case rest =>
            obtain ⟨Z3, rfl, hZ3, hE3⟩ := hcut
            have hz3 : Z3.size ≤ 640 := by
              rw [size_of_list hZ3]
              have h1 := (life_len r HSM.out.2.1).1
              have h2 := Lib.size_eq Z2
              simp only [List.length_append]
              omega
            have HZ3 := Lib.hid hZ3; have HE3 := Lib.hid hE3
            have hmo : 0 ≤ r.most ∧ 0 ≤ r.window ∧ r.most ≤ 1000 ∧ r.window ≤ 1099511627776 := by
              cases hal : r.allow
              · obtain ⟨_, _, h3, h4⟩ := lim_none HQ5.out hal; omega
              · obtain ⟨_, _, _, h3, h4, h5, h6⟩ := lim_parts HQ5.out hal
                by_cases hm : 0 < r.most
                · have := h5 hm; omega
                · have := h6 hm; omega
            obtain ⟨mn, hmn⟩ := Int.eq_ofNat_of_zero_le hmo.1
            obtain ⟨pn, hpn⟩ := Int.eq_ofNat_of_zero_le hmo.2.1
            have hmz : mn ≤ 1000 := by omega
            have hpz : pn ≤ 1099511627776 := by omega
            have c05 := ext_cell C05.out hE3; have c06 := ext_cell C06.out hE3
            rw [hmn] at c05
            rw [hpn] at c06
            have HMN := Lib.hid hmn; have HPN := Lib.hid hpn
            clear hZ3 hE3 hmo hmn hpn c01 c04
            go_upto_if 54 with (fail)
            go_cut [3] (fun v wx => ∃ Z4 : ByteArray, v = .string Z4 ∧ Z4.data.toList = Z3.data.toList ++ mostR r ∧ Ext wc wx)
            case first =>
              by_cases hm0 : 0 < mn
              · have t1 : decide ((0 : Int) < (mn : Int)) = true := by simp; omega
                have hd := (dec_len (mn : Int) (by omega)).1
                rw [decS, Int.toNat_natCast] at hd
                have hmd : (bA (Lib.decDigits mn)).size ≤ 20 := by rw [Lib.size_eq]; exact hd
                have hd2 := (dec_len (pn : Int) (by omega)).1
                rw [decS, Int.toNat_natCast] at hd2
                have hpd : (bA (Lib.decDigits pn)).size ≤ 20 := by rw [Lib.size_eq]; exact hd2
                have HI1 : Hid (∀ w', Calls Tryz.prog 49 #[.int .u64 (IntKind.u64.wrap (mn : Int))] w' (Ret (.string (bA (Lib.decDigits mn))) w')) := Lib.hid fun w' => by rw [show IntKind.u64.wrap (mn : Int) = (mn : Int) by rw [IntKind.wrap_u64]; omega]; exact decimal_any mn (by omega) w'
                have HI2 : Hid (∀ w', Calls Tryz.prog 49 #[.int .u64 (IntKind.u64.wrap (pn : Int))] w' (Ret (.string (bA (Lib.decDigits pn))) w')) := Lib.hid fun w' => by rw [show IntKind.u64.wrap (pn : Int) = (pn : Int) by rw [IntKind.wrap_u64]; omega]; exact decimal_any pn (by omega) w'
                go_wp2_with fail
                refine wp_region_S (by kernel_rfl) (by kernel_rfl) (by kernel_rfl) (by kernel_rfl) (by kernel_rfl) (fun w' => Ext wc w') ((Fr.drew (fun _ => False) _).ext (fun _ _ h => h)) ?_
                iterate 6
                  first
                  | (refine steps_and rfl rfl rfl rfl ?_; simp only [Act.put, List.setIfInBounds_toArray, List.set_cons_succ, List.set_cons_zero])
                  | (refine steps_or rfl rfl rfl rfl ?_; simp only [Act.put, List.setIfInBounds_toArray, List.set_cons_succ, List.set_cons_zero])
                  | (refine steps_skip rfl ?_; simp only [Act.put, List.setIfInBounds_toArray, List.set_cons_succ, List.set_cons_zero])
                  | (refine steps_guard_and rfl rfl rfl rfl rfl ?_; simp only [Act.put, List.setIfInBounds_toArray, List.set_cons_succ, List.set_cons_zero])
                  | (refine steps_guard_or rfl rfl rfl rfl rfl ?_; simp only [Act.put, List.setIfInBounds_toArray, List.set_cons_succ, List.set_cons_zero])
                  | (refine steps_guard (v := ?_) rfl rfl (fun hb w' hS => ?_) ?_; rotate_left; (focus (have k5 := ext_cell c05 hS; have k6 := ext_cell c06 hS; unfold Gives; go_simp; first | exact is_mk hS | (go_at_call 49; refine (HI1.out _).mono ?_; rintro e w'' ⟨rfl, h2⟩; exact gave_mk (ext_trans hS h2)) | (rw [if_neg (show ¬ _ from by omega)]; exact is_mk hS))); simp only [Act.put, List.setIfInBounds_toArray, List.set_cons_succ, List.set_cons_zero])
                  | (refine steps_guard2 (v := ?_) rfl rfl rfl (fun hb1 hb w' hS => ?_) ?_; rotate_left; (focus (have k5 := ext_cell c05 hS; have k6 := ext_cell c06 hS; unfold Gives; go_simp; first | exact is_mk hS | (go_at_call 49; refine (HI1.out _).mono ?_; rintro e w'' ⟨rfl, h2⟩; exact gave_mk (ext_trans hS h2)) | (rw [if_neg (show ¬ _ from by omega)]; exact is_mk hS))); simp only [Act.put, List.setIfInBounds_toArray, List.set_cons_succ, List.set_cons_zero])
                  | (refine steps_run (v := ?_) rfl (fun w' hS => ?_) ?_; rotate_left; (focus (have k5 := ext_cell c05 hS; have k6 := ext_cell c06 hS; unfold Gives; go_simp; first | exact is_mk hS | (go_at_call 49; refine (HI1.out _).mono ?_; rintro e w'' ⟨rfl, h2⟩; exact gave_mk (ext_trans hS h2)) | (rw [if_neg (show ¬ _ from by omega)]; exact is_mk hS))); simp only [Act.put, List.setIfInBounds_toArray, List.set_cons_succ, List.set_cons_zero])
                iterate 6
                  first
                  | (refine steps_and rfl rfl rfl rfl ?_; simp only [Act.put, List.setIfInBounds_toArray, List.set_cons_succ, List.set_cons_zero])
                  | (refine steps_or rfl rfl rfl rfl ?_; simp only [Act.put, List.setIfInBounds_toArray, List.set_cons_succ, List.set_cons_zero])
                  | (refine steps_skip rfl ?_; simp only [Act.put, List.setIfInBounds_toArray, List.set_cons_succ, List.set_cons_zero])
                  | (refine steps_guard_and rfl rfl rfl rfl rfl ?_; simp only [Act.put, List.setIfInBounds_toArray, List.set_cons_succ, List.set_cons_zero])
                  | (refine steps_guard_or rfl rfl rfl rfl rfl ?_; simp only [Act.put, List.setIfInBounds_toArray, List.set_cons_succ, List.set_cons_zero])
                  | (refine steps_guard (v := ?_) rfl rfl (fun hb w' hS => ?_) ?_; rotate_left; (focus (have k5 := ext_cell c05 hS; have k6 := ext_cell c06 hS; unfold Gives; go_simp; first | exact is_mk hS | (go_at_call 49; refine (HI2.out _).mono ?_; rintro e w'' ⟨rfl, h2⟩; exact gave_mk (ext_trans hS h2)) | (rw [if_neg (show ¬ _ from by omega)]; exact is_mk hS))); simp only [Act.put, List.setIfInBounds_toArray, List.set_cons_succ, List.set_cons_zero])
                  | (refine steps_guard2 (v := ?_) rfl rfl rfl (fun hb1 hb w' hS => ?_) ?_; rotate_left; (focus (have k5 := ext_cell c05 hS; have k6 := ext_cell c06 hS; unfold Gives; go_simp; first | exact is_mk hS | (go_at_call 49; refine (HI2.out _).mono ?_; rintro e w'' ⟨rfl, h2⟩; exact gave_mk (ext_trans hS h2)) | (rw [if_neg (show ¬ _ from by omega)]; exact is_mk hS))); simp only [Act.put, List.setIfInBounds_toArray, List.set_cons_succ, List.set_cons_zero])
                  | (refine steps_run (v := ?_) rfl (fun w' hS => ?_) ?_; rotate_left; (focus (have k5 := ext_cell c05 hS; have k6 := ext_cell c06 hS; unfold Gives; go_simp; first | exact is_mk hS | (go_at_call 49; refine (HI2.out _).mono ?_; rintro e w'' ⟨rfl, h2⟩; exact gave_mk (ext_trans hS h2)) | (rw [if_neg (show ¬ _ from by omega)]; exact is_mk hS))); simp only [Act.put, List.setIfInBounds_toArray, List.set_cons_succ, List.set_cons_zero])
                iterate 3
                  first
                  | (refine steps_and rfl rfl rfl rfl ?_; simp only [Act.put, List.setIfInBounds_toArray, List.set_cons_succ, List.set_cons_zero])
                  | (refine steps_or rfl rfl rfl rfl ?_; simp only [Act.put, List.setIfInBounds_toArray, List.set_cons_succ, List.set_cons_zero])
                  | (refine steps_skip rfl ?_; simp only [Act.put, List.setIfInBounds_toArray, List.set_cons_succ, List.set_cons_zero])
                  | (refine steps_guard_and rfl rfl rfl rfl rfl ?_; simp only [Act.put, List.setIfInBounds_toArray, List.set_cons_succ, List.set_cons_zero])
                  | (refine steps_guard_or rfl rfl rfl rfl rfl ?_; simp only [Act.put, List.setIfInBounds_toArray, List.set_cons_succ, List.set_cons_zero])
                  | (refine steps_guard (v := ?_) rfl rfl (fun hb w' hS => ?_) ?_; rotate_left; (focus (have k5 := ext_cell c05 hS; have k6 := ext_cell c06 hS; unfold Gives; go_simp; first | exact is_mk hS | (rw [if_neg (show ¬ _ from by omega)]; exact is_mk hS))); simp only [Act.put, List.setIfInBounds_toArray, List.set_cons_succ, List.set_cons_zero])
                  | (refine steps_guard2 (v := ?_) rfl rfl rfl (fun hb1 hb w' hS => ?_) ?_; rotate_left; (focus (have k5 := ext_cell c05 hS; have k6 := ext_cell c06 hS; unfold Gives; go_simp; first | exact is_mk hS | (rw [if_neg (show ¬ _ from by omega)]; exact is_mk hS))); simp only [Act.put, List.setIfInBounds_toArray, List.set_cons_succ, List.set_cons_zero])
                  | (refine steps_run (v := ?_) rfl (fun w' hS => ?_) ?_; rotate_left; (focus (have k5 := ext_cell c05 hS; have k6 := ext_cell c06 hS; unfold Gives; go_simp; first | exact is_mk hS | (rw [if_neg (show ¬ _ from by omega)]; exact is_mk hS))); simp only [Act.put, List.setIfInBounds_toArray, List.set_cons_succ, List.set_cons_zero])
                refine steps_end fun wz hEz => ?_
                go_wp2_with fail
                go_meet
                refine ⟨_, rfl, ?_, hEz⟩
                unfold mostR
                rw [if_pos (by rw [HMN.out]; omega), decS, decS, HMN.out, HPN.out, Int.toNat_natCast, Int.toNat_natCast]
                simp [bA]
              · have t1 : decide ((0 : Int) < (mn : Int)) = false := by simp; omega
                go_wp2_with fail
                go_meet
                refine ⟨_, rfl, ?_, Below.refl _ _⟩
                unfold mostR
                rw [if_neg (by rw [HMN.out]; omega)]
                simp
            case rest =>
              obtain ⟨Z4, rfl, hZ4, hE4⟩ := hcut
              have hz4 : Z4.size ≤ 700 := by
                rw [size_of_list hZ4]
                have h1 := (most_len r HSM.out.2.2.1 HSM.out.2.2.2).1
                have h2 := Lib.size_eq Z3
                simp only [List.length_append]
                omega
              have HZ4 := Lib.hid hZ4; have HE4 := Lib.hid hE4
              clear hZ4 hE4 c05 c06
              have HFIN : Hid (Z4 ++ ⟨#[125, 10]⟩ = bA (textR r)) := Lib.hid (by
                rw [HT.out]
                refine bytes_eq ?_
                rw [str_app HZ4.out rfl, HZ3.out, HZ2.out, HZ.out]
                simp)
              go_wp2_with fail
              go_ret
              refine ⟨?_, ext_trans HE0.out (ext_trans HE2.out (ext_trans HE3.out HE4.out))⟩
              rw [HFIN.out]; rfl
/-- What '[]byte(s)' lays reads as s. -/
theorem row_byts (w : World) (s : ByteArray) (c : Nat) (T : TypeId) (f : Nat × Nat) : Byts (w.drew.alloc (.cells (bytesRow s c) T f)) (some ⟨w.heap.size, 0, none⟩) s.data.toList := fun i x hx => by
  refine ⟨_, _, rfl, ?_⟩
  unfold U8At World.cell?
  have hi := (List.getElem?_eq_some_iff.1 hx).1
  rw [show (w.drew.alloc (.cells (bytesRow s c) T f)).heap[(⟨w.heap.size, 0 + i * 1, none⟩ : Addr).block]? = some (.cells (bytesRow s c) T f) from World.alloc_heap_new w.drew _]
  simp only [Nat.zero_add, Nat.mul_one]
  unfold bytesRow
  rw [Array.getElem?_append_left (by simpa using hi), Array.getElem?_map]
  rw [show s.data[i]? = some x by rw [← hx]; simp]
  rfl
set_option maxRecDepth 100000 in
set_option maxHeartbeats 4000000 in
theorem Print15_any (l : List Rul) (a : Option Addr) (cap n : Nat) (w : World) (hn : l.length = n) (hnc : n ≤ cap) (hcm : cap ≤ maxLen) (hl : Ruls w a l) :
    Calls Tryz.prog 17 #[.slice a n cap] w (PrintR l w) := by
  have HC := Lib.hid (r15Check_any l a cap n w hn hnc hcm hl)
  have HN := Lib.hid hn; have HL := Lib.hid hl
  have kc := fun (w : World) (s : ByteArray) => run_bytes_of_string (P := Tryz.prog) w 9 28 5 s Tryz.underlying9 Tryz.underlying28 Tryz.underlying5
  have hcm' : cap ≤ 9223372036854775807 := hcm
  obtain ⟨x, hx⟩ : ∃ x, checkE l = x := ⟨_, rfl⟩
  have HX := Lib.hid hx
  unfold PrintR
  rw [hx] at HC ⊢
  clear hn hcm hl hx
  by_cases h0 : x = 0
  · subst h0
    go_enter Tryz.func17, Tryz.ntmps17
    go_wp2_with fail
    refine HC.out.mono ?_
    rintro e w1 ⟨rfl, hE⟩
    have HE1 := Lib.hid hE
    clear hE
    have hok := check_zero HX.out
    have HF := Lib.hid (rulesOk_forms hok.1)
    have hn32 : n ≤ 32 := by rw [← HN.out]; exact hok.2
    have HTL : Hid (∀ k, (textL (l.take k)).length ≤ 21216) := Lib.hid fun k => by
      have := (rules_len (l := l.take k) (fun x hx => HF.out x (List.take_subset _ _ hx))).1
      have h2 : (l.take k).length ≤ 32 := by rw [List.length_take, HN.out]; omega
      omega
    clear hok
    go_upto_region 6 with (fail)
    go_loopw [5, 6] (fun s i wr => ∃ (k : Nat) (Z : ByteArray), k ≤ n ∧ i = .int .i64 k ∧ s = .string Z ∧ Z.data.toList = textL (l.take k) ∧ Ext w1 wr) (fun _ i _ => n - (intOf i).toNat)
    case atStart => exact ⟨0, _, Nat.zero_le _, rfl, rfl, rfl, Below.refl _ _⟩
    case round =>
      obtain ⟨k, Z, hk, rfl, rfl, hZ, hEr⟩ := hrel
      have HZ := Lib.hid hZ; have HER := Lib.hid hEr
      have hzs : Z.size ≤ 21216 := by rw [size_of_list hZ]; exact HTL.out k
      clear hZ hEr
      by_cases hlt : k < n
      · obtain ⟨r, hr⟩ := get_some HN.out hlt
        obtain ⟨b, off, rfl, d0, d1, ⟨pa, pc, d2, l1, l2, hps⟩, d3, d4, d5, d6, hnm, hkm⟩ := (HL.out.ext (ext_trans HE1.out HER.out)) k r hr
        have HR := Lib.hid hr; have HPS := Lib.hid hps; have HKM := Lib.hid hkm; have HL1 := Lib.hid l1
        have hkc : k < cap := by omega
        have hf := HF.out r (List.mem_of_getElem? hr)
        have hts : (bA (textR r)).size ≤ 663 := by rw [Lib.size_eq]; exact (rule_len hf).1
        have HFR := Lib.hid hf
        have HTS : Hid (textL (l.take (k + 1)) = textL (l.take k) ++ textR r) := Lib.hid (by
          rw [List.take_add_one, hr]
          simp [textL, List.flatMap_append])
        clear hr hps hkm l1 l2 hnm hf
        go_upto_region 9 with (fail)
        obtain ⟨W2, hW2⟩ : ∃ W2, wr.alloc (Obj.cells #[.string r.name, .bool r.allow, .slice pa r.pats.length pc, .int .u64 r.keyMin, .int .i64 r.lifeMax, .int .i64 r.most, .int .i64 r.window] 40) = W2 := ⟨_, rfl⟩
        have hE : Ext wr W2 := by rw [← hW2]; exact ext_alloc (Below.refl _ wr) _
        have hM : W2.heap[wr.heap.size]? = some (Obj.cells #[.string r.name, .bool r.allow, .slice pa r.pats.length pc, .int .u64 r.keyMin, .int .i64 r.lifeMax, .int .i64 r.most, .int .i64 r.window] 40 (0, 0)) := by rw [← hW2]; exact World.alloc_heap_new wr _
        rw [hW2]
        clear hW2
        have hxw : XB W2 wr.heap.size r.name r.allow (.slice pa r.pats.length pc) r.keyMin r.lifeMax r.most r.window := hM
        have c0 := hxw.c0; have c1 := hxw.c1; have c2 := hxw.c2; have c3 := hxw.c3; have c4 := hxw.c4; have c5 := hxw.c5; have c6 := hxw.c6
        have HE2 := Lib.hid hE
        clear hM hxw hE d0 d1 d2 d3 d4 d5 d6
        go_wp2_with fail
        refine (text15_any r pa pc _ HFR.out HKM.out HL1.out (HPS.out.ext HE2.out)).mono ?_
        rintro e w3 ⟨rfl, hE3⟩
        have HE3 := Lib.hid hE3
        clear hE3
        go_wp2_with fail
        go_roundw
        case rel => exact ⟨k + 1, _, by omega, by go_num, rfl, by rw [str_app HZ.out rfl, HTS.out], ext_trans HER.out (ext_trans HE2.out HE3.out)⟩
        case measure => simp [intOf]; omega
      · obtain rfl : k = n := by omega
        rw [List.take_of_length_le (by rw [HN.out]; exact Nat.le_refl _)] at HZ
        have HSZ := Lib.hid (size_of_list HZ.out)
        go_wp2_with fail
        go_ret2
        refine ⟨_, rfl, ?_, fun h => absurd rfl h, fun _ => ⟨_, _, by rw [← HSZ.out]; rfl, ?_, ?_, ?_⟩⟩
        · exact ext_trans (ext_trans HE1.out HER.out) (ext_trans (ext_drewR (Below.refl _ _)) (ext_alloc (Below.refl _ _) _))
        · rw [← HSZ.out]; exact grownCap_ge _ _ _ _
        · exact grownCap_le_maxLen _ _ _ _ (by unfold maxLen; omega)
        · rw [← HZ.out]; exact row_byts _ _ _ _ _
  · have hx0 : (x != 0) = true := by simpa using h0
    go_enter Tryz.func17, Tryz.ntmps17
    go_wp2_with fail
    refine HC.out.mono ?_
    rintro e w1 ⟨rfl, hE⟩
    have HE1 := Lib.hid hE
    clear hE
    go_wp2_with fail
    go_ret2
    exact ⟨_, rfl, HE1.out, fun _ => rfl, fun h => absurd h h0⟩
theorem conv_slice {w : World} {a : Option Addr} {n c : Nat} {s : Str} (hn : s.length = n) (h : Byts w a s) : (convert 28 9 (.slice a n c)).run Tryz.prog w = .ok (.string (bA s)) w := by
  cases s with
  | nil =>
    subst hn
    exact run_convert_bytes_zero (P := Tryz.prog) w 28 5 Tryz.underlying28 Tryz.underlying5 a c 9 Tryz.underlying9
  | cons x t =>
    obtain ⟨b, o, rfl, _⟩ := h 0 x rfl
    exact conv_any hn h
set_option maxRecDepth 100000 in
set_option maxHeartbeats 4000000 in
theorem RulePrints_any (l : List Rul) (a : Option Addr) (c1 n1 : Nat) (w : World) (h1 : l.length = n1) (k1 : n1 ≤ c1) (g1 : c1 ≤ maxLen) (hl : Ruls w a l) (hE : E15 w) :
    Calls Tryz.prog 4 #[.slice a n1 c1] w (Ret (.bool true) w) := by
  have H1 := Lib.hid h1; have K1 := Lib.hid k1; have G1 := Lib.hid g1; have HL := Lib.hid hl; have HE := Lib.hid hE
  obtain ⟨x, hx⟩ : ∃ x, checkE l = x := ⟨_, rfl⟩
  have HX := Lib.hid hx
  clear h1 k1 g1 hl hE hx
  go_enter Tryz.func4, Tryz.ntmps4
  go_wp2_with fail
  refine (live15_any _ HE.out).mono ?_; rintro e w1 ⟨rfl, hE1⟩
  have HE1 := Lib.hid hE1
  clear hE1
  go_wp2_with fail
  refine (Few_any l a c1 n1 _ H1.out K1.out G1.out (HL.out.ext HE1.out)).mono ?_; rintro e w2 ⟨rfl, rfl⟩
  cases q1 : fewB l
  · clear q1
    go_wp2_with fail
    go_ret
    exact ⟨rfl, HE1.out⟩
  · clear q1
    go_wp2_with fail
    refine (Print_any l a c1 n1 w1 H1.out K1.out G1.out (HL.out.ext HE1.out) (HE.out.ext HE1.out).pow).mono ?_
    rintro e w2 ⟨v, rfl, hE2, hno, hyes⟩
    rw [HX.out] at hno hyes ⊢
    have HE12 := Lib.hid hE2
    have HE2 := Lib.hid (ext_trans HE1.out hE2); have HNO := Lib.hid hno; have HYES := Lib.hid hyes
    clear hE2 hno hyes
    go_wp2_with fail
    refine (Print15_any l a c1 n1 w2 H1.out K1.out G1.out (HL.out.ext HE2.out)).mono ?_
    rintro e w3 ⟨u, rfl, hE3, hno2, hyes2⟩
    rw [HX.out] at hno2 hyes2 ⊢
    have HE3 := Lib.hid (ext_trans HE2.out hE3)
    have t1 : (x == x) = true := by simp
    by_cases h0 : x = 0
    · subst h0
      obtain ⟨ba, bc, rfl, p1, p2, hby⟩ := HYES.out rfl
      obtain ⟨ca, cc, rfl, r1, r2, hcy⟩ := hyes2 rfl
      have kc1 := conv_slice (c := bc) rfl (hby.ext hE3)
      have kc2 := conv_slice (c := cc) rfl hcy
      have t2 : ((bA (textL l)).toList == (bA (textL l)).toList) = true := by simp
      clear hE3 hno2 hyes2 p1 p2 r1 r2 hby hcy
      go_wp2_with fail
      go_ret
      exact ⟨rfl, HE3.out⟩
    · obtain rfl := HNO.out h0
      obtain rfl := hno2 h0
      have kc1 := fun w => run_convert_bytes_zero (P := Tryz.prog) w 28 5 Tryz.underlying28 Tryz.underlying5 none 0 9 Tryz.underlying9
      clear hE3 hno2 hyes2
      go_wp2_with fail
      go_ret
      exact ⟨rfl, HE3.out⟩
end Go.Proofs.YteemkkmkkgfofaaGreatDoor
