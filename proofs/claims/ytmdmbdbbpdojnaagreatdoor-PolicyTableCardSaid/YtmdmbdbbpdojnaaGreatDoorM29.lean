/- Walk: the law's example of layer 16 (live), by a program of mine (gen_live16.py). -/
import Derived.Test.YtmdmbdbbpdojnaaGreatDoorM26
import Derived.Test.YtmdmbdbbpdojnaaGreatDoorM22
import Derived.Test.YtmdmbdbbpdojnaaGreatDoorM19
import Derived.Test.YtmdmbdbbpdojnaaGreatDoorM27
import Derived.Test.YtmdmbdbbpdojnaaGreatDoorM28
import Derived.Deep.RegionHeld3
import Derived.Deep.CutBlock
import Derived.Deep.DeepCutAuto
namespace Go.Proofs.YtmdmbdbbpdojnaaGreatDoor
open Go.RowKit Nam Pol Go.Maps
attribute [local go_sem] gv_of

theorem Env.ext' {w w' : World} (h : Env w) (hE : Ext w w') : Env w' := h.ext hE
theorem slV_len {α : Type} {n k : Nat} {R : ElR α} {w : World} {v : Value} {l : List α} (h : SlV n R w v l) (hk : l.length = k) : ∃ a cap, v = .slice a k cap ∧ k ≤ cap ∧ cap ≤ maxLen ∧ SlA n R w a l := by
  subst hk; exact h
theorem retVE_lit {x : Ver × Int} {w w' : World} {e : Ending} {al : Bool} {at' n : Int} {by' : List Int} {k : Nat} (h : RetVE x w e w') (hx : x = (⟨al, at', by'⟩, n)) (hk : by'.length = k) :
    ∃ a c, e = .returned (.tuple #[.agg #[.bool al, .int .i64 at', .slice a k c], .int .i64 n]) ∧ k ≤ c ∧ c ≤ maxLen ∧ Ints w' a by' ∧ Ext w w' := by
  subst hx hk
  obtain ⟨a, c, h1, h2, h3, h4, _, h5⟩ := h
  exact ⟨a, c, h1, h2, h3, h4, h5⟩
theorem retTab_lit {rs : List Rul} {ns : List Nod} {n : Int} {w w' : World} {e : Ending} {k m : Nat} (h : RetTab rs ns n w e w') (hk : rs.length = k) (hm : ns.length = m) :
    ∃ a c b d, e = .returned (.tuple #[.agg #[.slice a k c, .slice b m d], .int .i64 n]) ∧ k ≤ c ∧ c ≤ maxLen ∧ m ≤ d ∧ d ≤ maxLen ∧ Ruls w' a rs ∧ Nods w' b ns ∧ Ext w w' := by
  subst hk hm
  obtain ⟨rv, nv, h1, ⟨a, c, h2, h3, h4, h5⟩, ⟨b, d, g2, g3, g4, g5⟩, h6⟩ := h
  subst h2 g2
  exact ⟨a, c, b, d, h1, h3, h4, g3, g4, h5, g5, h6⟩
theorem compile_ex {a : Option Addr} {w : World} (hl : Ruls w a exL) (hw : Env w) : Calls Tryz.prog 25 #[.slice a 3 3] w (RetTab exL (treeOf exL) 0 w) := by
  have := Compile_any exL a 3 3 w rfl (by decide) (by decide) hl (by decide) ex_few hw
  rwa [ex_compR, ex_compN, ex_right] at this
theorem clash_ex {a : Option Addr} {w : World} (hl : Ruls w a [exAll, exNot, exAll]) : Calls Tryz.prog 18 #[.slice a 3 3] w (RetL 2 PairAt [(0, 2)] w) := by
  have := pClash_any _ a 3 3 w rfl (by decide) (by decide) hl (by decide) (by decide)
  rwa [ex_clash] at this
theorem bare_ex {a na : Option Addr} {w : World} (hl : Ruls w a exL) (hn : Strs w na [sA, sBA, sC, sDash]) (hw : Env w) : Calls Tryz.prog 22 #[.slice a 3 3, .slice na 4 4] w (RetL 1 StrAt [sA, sC] w) := by
  have := pBare_any exL _ a na 3 3 4 4 w rfl (by decide) (by decide) hl rfl (by decide) (by decide) hn (by decide) hw
  unfold bareB at this
  rwa [ex_bare] at this
theorem compile_ex2 {a : Option Addr} {w : World} (hl : Ruls w a [exAll, exB]) (hw : Env w) : Calls Tryz.prog 25 #[.slice a 2 2] w (RetTab [] [] 160 w) := by
  have := Compile_any _ a 2 2 w rfl (by decide) (by decide) hl (by decide) (by decide) hw
  unfold compR compN at this
  rwa [ex_clash2, if_neg (by decide), if_neg (by decide)] at this
theorem ext_drew {w w' : World} (h : Ext w w') : Ext w w'.drew := ext_trans h ((Fr.drew (fun _ => False) _).ext (fun _ _ h => h))
theorem keep_set {w : World} {b o g i : Nat} {v x : Value} (h : w.cell? ⟨b, o, none⟩ = some v) (hne : b ≠ g) : (w.setCell ⟨g, i, none⟩ x).cell? ⟨b, o, none⟩ = some v :=
  ((Fr.setCell (S := fun k => k = g) w ⟨g, i, none⟩ x rfl).cell (cell_lt h) hne).trans h
theorem means_ex4 {a : Option Addr} {w : World} (hl : Ruls w a exL) (hw : Env w) : Calls Tryz.prog 16 #[.slice a 3 3, .agg #[.int .i64 0, .slice none 0 0, .int .u64 0, .int .i64 0]] w (RetVE (⟨false, 0, []⟩, 1) w) := by
  have := pMeans_any exL exW4 a 3 3 none 0 w rfl (by decide) (by decide) hl (by decide) ex_few (by decide) (by decide) (SlA.nil _ _ _ _) hw
  rwa [ex_means4] at this
theorem sameInts_ex {a b : Option Addr} {c d : Nat} {w : World} (h1 : Ints w a [0, 1, 2, -1]) (h2 : Ints w b [0, 1, 2, -1]) : Calls Tryz.prog 32 #[.slice a 4 c, .slice b 4 d] w (Ret (.bool true) w) :=
  SameInts_any _ _ a b c d 4 4 w rfl rfl (by decide) (by decide) h1 h2
theorem check_ex {a b : Option Addr} {c d : Nat} {w : World} (h1 : 3 ≤ c) (h2 : c ≤ maxLen) (h3 : 4 ≤ d) (h4 : d ≤ maxLen) (hl : Ruls w a exL) (hn : Nods w b (treeOf exL)) (hw : Env w) : Calls Tryz.prog 30 #[.agg #[.slice a 3 c, .slice b 4 d]] w (Ret (.int .i64 0) w) := by
  have := CheckT_any exL (treeOf exL) a b c 3 d 4 w rfl h1 h2 hl (by decide) ex_few ex_len h3 h4 hn hw
  rwa [ex_check] at this
theorem check_ex0 {a : Option Addr} {w : World} (hl : Ruls w a exL) (hw : Env w) : Calls Tryz.prog 30 #[.agg #[.slice a 3 3, .slice none 0 0]] w (Ret (.int .i64 1) w) := by
  have := CheckT_any exL [] a none 3 3 0 0 w rfl (by decide) (by decide) hl (by decide) ex_few rfl (by decide) (by decide) (SlA.nil _ _ _ _) hw
  rwa [ex_check0] at this
theorem retL_lit {α : Type} {k n : Nat} {R : ElR α} {l : List α} {w w' : World} {e : Ending} (h : RetL n R l w e w') (hk : l.length = k) : ∃ a cap, e = .returned (.slice a k cap) ∧ k ≤ cap ∧ cap ≤ maxLen ∧ SlA n R w' a l ∧ Ext w w' := by
  subst hk
  obtain ⟨v, rfl, ⟨a, c, rfl, h2, h3, h4⟩, h5⟩ := h
  exact ⟨a, c, rfl, h2, h3, h4, h5⟩
set_option maxRecDepth 100000 in
set_option maxHeartbeats 8000000 in
theorem live16_any (w : World) (hw : Env w) : Calls Tryz.prog 13 #[] w (Ret (.bool true) w) := by
  have HW := Lib.hid hw; clear hw
  have hpe := pair_eq 0 2 0 2
  go_enter Tryz.func13, Tryz.ntmps13
  go_wp2_with fail
  refine (example_any _).mono ?_; rintro e w0 ⟨a, rfl, hl, hE⟩
  have HL := Lib.hid hl; have HX := Lib.hid hE; replace HW := Lib.hid (HW.out.ext hE)
  clear hl hE
  go_wp2_with fail
  refine (compile_ex HL.out HW.out).mono ?_
  rintro e w1 hr
  obtain ⟨ta, tc, na, nc, rfl, t1, t2, n1, n2, ht, hn, hE⟩ := retTab_lit (k := 3) hr rfl ex_len
  have HTR := Lib.hid ht; have HTN := Lib.hid hn; have T1 := Lib.hid t1; have T2 := Lib.hid t2; have N1 := Lib.hid n1; have N2 := Lib.hid n2
  replace HL := Lib.hid (HL.out.ext hE); replace HW := Lib.hid (HW.out.ext hE); replace HX := Lib.hid (ext_trans HX.out hE)
  clear hr t1 t2 n1 n2 ht hn hE
  go_wp2_with fail

  have hT := TabB.new w1 (.slice ta 3 tc) (.slice na 4 nc)
  have hs := strs_lit (w1.alloc (Obj.cells #[.slice ta 3 tc, .slice na 4 nc] 45)) exW1.names 9 (by decide)
  rw [World.size_alloc] at hs
  have hE := ext_alloc (ext_alloc (Below.refl _ w1) (Obj.cells #[.slice ta 3 tc, .slice na 4 nc] 45)) (Obj.cells (exW1.names.map Value.string).toArray 9)
  have hc := pDecide_any exL (treeOf exL) exW1 ta na tc 3 nc 4 (some ⟨w1.heap.size + 1, 0, none⟩) 4 _ rfl T1.out T2.out (HTR.out.ext hE) (by decide) ex_few ex_len N1.out N2.out (HTN.out.ext hE) (by decide) (by decide) hs (by decide) (HW.out.ext hE)
  rw [ex_decide] at hc
  refine hc.mono ?_
  clear hc hs
  rintro e w2 hr
  obtain ⟨va, vc, rfl, v1, v2, hi, hE2⟩ := retVE_lit (k := 4) hr rfl rfl
  replace hT := (hT.ext (ext_alloc (Below.refl _ _) _)).ext hE2
  replace hE := ext_trans hE hE2
  replace HL := Lib.hid (HL.out.ext hE)
  replace HW := Lib.hid (HW.out.ext hE)
  replace HTR := Lib.hid (HTR.out.ext hE)
  replace HTN := Lib.hid (HTN.out.ext hE)
  replace HX := Lib.hid (ext_trans HX.out hE)
  have HT := Lib.hid hT; have HI := Lib.hid hi; have V1 := Lib.hid v1; have V2 := Lib.hid v2
  clear hr hT hE hE2 hi v1 v2
  go_wp2_with fail
  have hV := VerB.new w2 false 1 (.slice va 4 vc)
  have hs := strs_lit (w2.alloc (Obj.cells #[.bool false, .int .i64 1, .slice va 4 vc] 32)) exW2.names 9 (by decide)
  rw [World.size_alloc] at hs
  have hE := ext_alloc (ext_alloc (Below.refl _ w2) (Obj.cells #[.bool false, .int .i64 1, .slice va 4 vc] 32)) (Obj.cells (exW2.names.map Value.string).toArray 9)
  have hc := pMeans_any exL exW2 a 3 3 (some ⟨w2.heap.size + 1, 0, none⟩) 2 _ rfl (by decide) (by decide) (HL.out.ext hE) (by decide) ex_few (by decide) (by decide) hs (HW.out.ext hE)
  rw [ex_means2] at hc
  refine hc.mono ?_
  clear hc hs
  rintro e w3 hr
  obtain ⟨ua, uc, rfl, v1, v2, hi, hE2⟩ := retVE_lit (k := 2) hr rfl rfl
  replace hV := (hV.ext (ext_alloc (Below.refl _ _) _)).ext hE2
  replace hE := ext_trans hE hE2
  replace HL := Lib.hid (HL.out.ext hE)
  replace HW := Lib.hid (HW.out.ext hE)
  replace HTR := Lib.hid (HTR.out.ext hE)
  replace HTN := Lib.hid (HTN.out.ext hE)
  replace HT := Lib.hid (HT.out.ext hE)
  replace HI := Lib.hid (HI.out.ext hE)
  replace HX := Lib.hid (ext_trans HX.out hE)
  have HV := Lib.hid hV
  clear hr hV hE hE2 hi v1 v2
  go_wp2_with fail
  have hV := VerB.new w3 true 0 (.slice ua 2 uc)
  have hs := strs_lit (w3.alloc (Obj.cells #[.bool true, .int .i64 0, .slice ua 2 uc] 32)) exW3.names 9 (by decide)
  rw [World.size_alloc] at hs
  have hE := ext_alloc (ext_alloc (Below.refl _ w3) (Obj.cells #[.bool true, .int .i64 0, .slice ua 2 uc] 32)) (Obj.cells (exW3.names.map Value.string).toArray 9)
  have hc := pMeans_any exL exW3 a 3 3 (some ⟨w3.heap.size + 1, 0, none⟩) 1 _ rfl (by decide) (by decide) (HL.out.ext hE) (by decide) ex_few (by decide) (by decide) hs (HW.out.ext hE)
  rw [ex_means3] at hc
  refine hc.mono ?_
  clear hc hs
  rintro e w4 hr
  obtain ⟨xa, xc, rfl, v1, v2, hi, hE2⟩ := retVE_lit (k := 1) hr rfl rfl
  replace hV := (hV.ext (ext_alloc (Below.refl _ _) _)).ext hE2
  replace hE := ext_trans hE hE2
  replace HL := Lib.hid (HL.out.ext hE)
  replace HW := Lib.hid (HW.out.ext hE)
  replace HTR := Lib.hid (HTR.out.ext hE)
  replace HTN := Lib.hid (HTN.out.ext hE)
  replace HT := Lib.hid (HT.out.ext hE)
  replace HI := Lib.hid (HI.out.ext hE)
  replace HV := Lib.hid (HV.out.ext hE)
  replace HX := Lib.hid (ext_trans HX.out hE)
  have HU := Lib.hid hV
  clear hr hV hE hE2 hi v1 v2
  go_wp2_with fail

  obtain ⟨W4, hW4⟩ : ∃ W4, w4.alloc (Obj.cells #[.bool false, .int .i64 0, .slice xa 1 xc] 32) = W4 := ⟨_, rfl⟩
  have hE : Ext w4 W4 := by rw [← hW4]; exact ext_alloc (Below.refl _ _) _
  have hV : VerB W4 w4.heap.size false 0 (.slice xa 1 xc) := by rw [← hW4]; exact VerB.new _ _ _ _
  rw [hW4]
  have HXV := Lib.hid hV
  replace HL := Lib.hid (HL.out.ext hE)
  replace HW := Lib.hid (HW.out.ext hE)
  replace HTR := Lib.hid (HTR.out.ext hE)
  replace HTN := Lib.hid (HTN.out.ext hE)
  replace HT := Lib.hid (HT.out.ext hE)
  replace HI := Lib.hid (HI.out.ext hE)
  replace HV := Lib.hid (HV.out.ext hE)
  replace HU := Lib.hid (HU.out.ext hE)
  replace HX := Lib.hid (ext_trans HX.out hE)
  clear hW4 hE hV
  obtain ⟨b, off, rfl, d0, d1, ⟨pa, pc, d2, l1, l2, hps⟩, d3, d4, d5, d6, _, _⟩ := HL.out 0 exAll rfl
  obtain ⟨b', off', hab, e0, e1, ⟨qa, qc, e2, g1, g2, hqs⟩, e3, e4, e5, e6, _, _⟩ := HL.out 1 exNot rfl
  cases hab
  rw [Nat.zero_mul, Nat.add_zero] at d0 d1 d2 d3 d4 d5 d6
  rw [Nat.one_mul] at e0 e1 e2 e3 e4 e5 e6
  have HPS := Lib.hid hps; have HQS := Lib.hid hqs; have L1 := Lib.hid l1; have L2 := Lib.hid l2; have G1 := Lib.hid g1; have G2 := Lib.hid g2
  clear hps hqs l1 l2 g1 g2
  have HCL := Lib.hid (show Ext W4 (W4.alloc (Obj.cells ([(exAll, pa, pc), (exNot, qa, qc), (exAll, pa, pc)].flatMap litC).toArray 54)).drew ∧ Ruls (W4.alloc (Obj.cells ([(exAll, pa, pc), (exNot, qa, qc), (exAll, pa, pc)].flatMap litC).toArray 54)).drew (some ⟨W4.heap.size, 0, none⟩) [exAll, exNot, exAll] from
    ⟨ext_drew (ext_alloc (Below.refl _ _) _), (ruls_lit W4 [(exAll, pa, pc), (exNot, qa, qc), (exAll, pa, pc)] _ (by
      intro q hq
      simp only [List.mem_cons, List.not_mem_nil, or_false] at hq
      rcases hq with rfl | rfl | rfl
      · exact rul_ok L1.out L2.out HPS.out (by decide) (by decide)
      · exact rul_ok G1.out G2.out HQS.out (by decide) (by decide)
      · exact rul_ok L1.out L2.out HPS.out (by decide) (by decide))).ext (ext_drew (Below.refl _ _))⟩)
  go_region_held3 (fun w' => w'.cell? ⟨b, off, none⟩ = some (.string exAll.name) ∧ w'.cell? ⟨b, off + 1, none⟩ = some (.bool exAll.allow) ∧ w'.cell? ⟨b, off + 2, none⟩ = some (.slice pa exAll.pats.length pc) ∧ w'.cell? ⟨b, off + 3, none⟩ = some (.int .u64 exAll.keyMin) ∧ w'.cell? ⟨b, off + 4, none⟩ = some (.int .i64 exAll.lifeMax) ∧ w'.cell? ⟨b, off + 5, none⟩ = some (.int .i64 exAll.most) ∧ w'.cell? ⟨b, off + 6, none⟩ = some (.int .i64 exAll.window) ∧
      w'.cell? ⟨b, off + 7, none⟩ = some (.string exNot.name) ∧ w'.cell? ⟨b, off + 7 + 1, none⟩ = some (.bool exNot.allow) ∧ w'.cell? ⟨b, off + 7 + 2, none⟩ = some (.slice qa exNot.pats.length qc) ∧ w'.cell? ⟨b, off + 7 + 3, none⟩ = some (.int .u64 exNot.keyMin) ∧ w'.cell? ⟨b, off + 7 + 4, none⟩ = some (.int .i64 exNot.lifeMax) ∧ w'.cell? ⟨b, off + 7 + 5, none⟩ = some (.int .i64 exNot.most) ∧ w'.cell? ⟨b, off + 7 + 6, none⟩ = some (.int .i64 exNot.window)) (go_keep) ((go_at_call 18; refine (clash_ex HCL.out.2).mono ?_; rintro e w5 hr; obtain ⟨ca, cc, rfl, k1, k2, hc, hE⟩ := retL_lit (k := 1) hr rfl; replace hE := ext_trans HCL.out.1 hE; have qd0 := ext_cell d0 hE; have qd1 := ext_cell d1 hE; have qd2 := ext_cell d2 hE; have qd3 := ext_cell d3 hE; have qd4 := ext_cell d4 hE; have qd5 := ext_cell d5 hE; have qd6 := ext_cell d6 hE; have qe0 := ext_cell e0 hE; have qe1 := ext_cell e1 hE; have qe2 := ext_cell e2 hE; have qe3 := ext_cell e3 hE; have qe4 := ext_cell e4 hE; have qe5 := ext_cell e5 hE; have qe6 := ext_cell e6 hE))

  replace HL := Lib.hid (HL.out.ext hE)
  replace HW := Lib.hid (HW.out.ext hE)
  replace HTR := Lib.hid (HTR.out.ext hE)
  replace HTN := Lib.hid (HTN.out.ext hE)
  replace HT := Lib.hid (HT.out.ext hE)
  replace HI := Lib.hid (HI.out.ext hE)
  replace HV := Lib.hid (HV.out.ext hE)
  replace HU := Lib.hid (HU.out.ext hE)
  replace HXV := Lib.hid (HXV.out.ext hE)
  replace HX := Lib.hid (ext_trans HX.out hE)
  have HC := Lib.hid hc; have K1 := Lib.hid k1; have K2 := Lib.hid k2
  clear hr hE hc k1 k2 d0 d1 d2 d3 d4 d5 d6 e0 e1 e2 e3 e4 e5 e6 HCL qd0 qd1 qd2 qd3 qd4 qd5 qd6 qe0 qe1 qe2 qe3 qe4 qe5 qe6
  go_wp2_with fail
  have hE := ext_alloc (Below.refl _ w5) (Obj.cells ([sA, sBA, sC, sDash].map Value.string).toArray 9)
  refine (bare_ex (HL.out.ext hE) (strs_lit w5 [sA, sBA, sC, sDash] 9 (by decide)) (HW.out.ext hE)).mono ?_
  rintro e w6 hr
  obtain ⟨ba, bc, rfl, k1, k2, hb, hE2⟩ := retL_lit (k := 2) hr rfl
  replace hE := ext_trans hE hE2

  replace HL := Lib.hid (HL.out.ext hE)
  replace HW := Lib.hid (HW.out.ext hE)
  replace HTR := Lib.hid (HTR.out.ext hE)
  replace HTN := Lib.hid (HTN.out.ext hE)
  replace HT := Lib.hid (HT.out.ext hE)
  replace HI := Lib.hid (HI.out.ext hE)
  replace HV := Lib.hid (HV.out.ext hE)
  replace HU := Lib.hid (HU.out.ext hE)
  replace HXV := Lib.hid (HXV.out.ext hE)
  replace HC := Lib.hid (HC.out.ext hE)
  replace HX := Lib.hid (ext_trans HX.out hE)
  have HB := Lib.hid hb; have B1 := Lib.hid k1; have B2 := Lib.hid k2
  clear hr hE hE2 hb k1 k2
  go_upto_region 8 with (fail)
  obtain ⟨b2, off2, hab, d0, d1, ⟨pa, pc, d2, l1, l2, hps⟩, d3, d4, d5, d6, _, _⟩ := HL.out 0 exAll rfl
  cases hab
  rw [Nat.zero_mul, Nat.add_zero] at d0 d1 d2 d3 d4 d5 d6
  have HPS := Lib.hid hps; have L1 := Lib.hid l1; have L2 := Lib.hid l2
  clear hps l1 l2
  have HCC : Hid (∀ (W : World) (bb : Nat), Ext w6 W → bb = W.heap.size → Ruls (W.alloc (Obj.cells ([(exAll, pa, pc), (exB, pa, pc)].flatMap litC).toArray 54)) (some ⟨bb, 0, none⟩) [exAll, exB]) := Lib.hid (fun W bb hE hb => by
    subst hb
    refine ruls_lit W [(exAll, pa, pc), (exB, pa, pc)] _ ?_
    intro q hq
    simp only [List.mem_cons, List.not_mem_nil, or_false] at hq
    rcases hq with rfl | rfl
    · exact rul_ok L1.out L2.out (HPS.out.ext hE) (by decide) (by decide)
    · exact rul_ok L1.out L2.out (HPS.out.ext hE) (by decide) (by decide))
  have E1 := Lib.hid (show Ext w6 (w6.alloc (Obj.cells ([(exAll, pa, pc), (exB, pa, pc)].flatMap litC).toArray 54)).drew from ext_drew (ext_alloc (Below.refl _ _) _))
  have E2 := Lib.hid (show Ext w6 ((w6.alloc (Obj.cells ([(exAll, pa, pc), (exB, pa, pc)].flatMap litC).toArray 54)).alloc (Obj.cells #[.slice none 0 0, .slice none 0 0] 45)).drew from ext_drew (ext_alloc (ext_alloc (Below.refl _ _) _) _))
  have E3 := Lib.hid (show Ext w6 ((w6.alloc (Obj.cells #[.slice none 0 0, .slice none 0 0] 45)).alloc (Obj.cells ([(exAll, pa, pc), (exB, pa, pc)].flatMap litC).toArray 54)).drew from ext_drew (ext_alloc (ext_alloc (Below.refl _ _) _) _))
  have HB2 := Lib.hid (show TabB ((w6.alloc (Obj.cells ([(exAll, pa, pc), (exB, pa, pc)].flatMap litC).toArray 54)).alloc (Obj.cells #[.slice none 0 0, .slice none 0 0] 45)).drew (w6.heap.size + 1) (.slice none 0 0) (.slice none 0 0) from by
    have := TabB.new (w6.alloc (Obj.cells ([(exAll, pa, pc), (exB, pa, pc)].flatMap litC).toArray 54)) (.slice none 0 0) (.slice none 0 0)
    rw [World.size_alloc] at this
    exact this.ext (ext_drew (Below.refl _ _)))
  have HB3 := Lib.hid (show TabB ((w6.alloc (Obj.cells #[.slice none 0 0, .slice none 0 0] 45)).alloc (Obj.cells ([(exAll, pa, pc), (exB, pa, pc)].flatMap litC).toArray 54)).drew w6.heap.size (.slice none 0 0) (.slice none 0 0) from (TabB.new w6 (.slice none 0 0) (.slice none 0 0)).ext (ext_drew (ext_alloc (Below.refl _ _) _)))
  have K1 := Lib.hid (show Calls Tryz.prog 25 #[.slice (some ⟨w6.heap.size, 0, none⟩) 2 2] (w6.alloc (Obj.cells #[.string exAll.name, .bool exAll.allow, .slice pa exAll.pats.length pc, .int .u64 exAll.keyMin, .int .i64 exAll.lifeMax, .int .i64 exAll.most, .int .i64 exAll.window, .string ⟨#[98]⟩, .bool false, .slice pa exAll.pats.length pc, .int .u64 0, .int .i64 0, .int .i64 0, .int .i64 0] 54)).drew (RetTab [] [] 160 (w6.alloc (Obj.cells #[.string exAll.name, .bool exAll.allow, .slice pa exAll.pats.length pc, .int .u64 exAll.keyMin, .int .i64 exAll.lifeMax, .int .i64 exAll.most, .int .i64 exAll.window, .string ⟨#[98]⟩, .bool false, .slice pa exAll.pats.length pc, .int .u64 0, .int .i64 0, .int .i64 0, .int .i64 0] 54)).drew) from compile_ex2 ((HCC.out w6 _ (Below.refl _ _) rfl).ext (ext_drew (Below.refl _ _))) (HW.out.ext E1.out))
  have K2 := Lib.hid (show Calls Tryz.prog 25 #[.slice (some ⟨w6.heap.size, 0, none⟩) 2 2] ((w6.alloc (Obj.cells #[.string exAll.name, .bool exAll.allow, .slice pa exAll.pats.length pc, .int .u64 exAll.keyMin, .int .i64 exAll.lifeMax, .int .i64 exAll.most, .int .i64 exAll.window, .string ⟨#[98]⟩, .bool false, .slice pa exAll.pats.length pc, .int .u64 0, .int .i64 0, .int .i64 0, .int .i64 0] 54)).alloc (Obj.cells #[.slice none 0 0, .slice none 0 0] 45)).drew (RetTab [] [] 160 ((w6.alloc (Obj.cells #[.string exAll.name, .bool exAll.allow, .slice pa exAll.pats.length pc, .int .u64 exAll.keyMin, .int .i64 exAll.lifeMax, .int .i64 exAll.most, .int .i64 exAll.window, .string ⟨#[98]⟩, .bool false, .slice pa exAll.pats.length pc, .int .u64 0, .int .i64 0, .int .i64 0, .int .i64 0] 54)).alloc (Obj.cells #[.slice none 0 0, .slice none 0 0] 45)).drew) from compile_ex2 ((HCC.out w6 _ (Below.refl _ _) rfl).ext (ext_drew (ext_alloc (Below.refl _ _) (Obj.cells #[.slice none 0 0, .slice none 0 0] 45)))) (HW.out.ext E2.out))
  have K3 := Lib.hid (show Calls Tryz.prog 25 #[.slice (some ⟨w6.heap.size + 1, 0, none⟩) 2 2] ((w6.alloc (Obj.cells #[.slice none 0 0, .slice none 0 0] 45)).alloc (Obj.cells #[.string exAll.name, .bool exAll.allow, .slice pa exAll.pats.length pc, .int .u64 exAll.keyMin, .int .i64 exAll.lifeMax, .int .i64 exAll.most, .int .i64 exAll.window, .string ⟨#[98]⟩, .bool false, .slice pa exAll.pats.length pc, .int .u64 0, .int .i64 0, .int .i64 0, .int .i64 0] 54)).drew (RetTab [] [] 160 ((w6.alloc (Obj.cells #[.slice none 0 0, .slice none 0 0] 45)).alloc (Obj.cells #[.string exAll.name, .bool exAll.allow, .slice pa exAll.pats.length pc, .int .u64 exAll.keyMin, .int .i64 exAll.lifeMax, .int .i64 exAll.most, .int .i64 exAll.window, .string ⟨#[98]⟩, .bool false, .slice pa exAll.pats.length pc, .int .u64 0, .int .i64 0, .int .i64 0, .int .i64 0] 54)).drew) from compile_ex2 ((HCC.out (w6.alloc (Obj.cells #[.slice none 0 0, .slice none 0 0] 45)) (w6.heap.size + 1) (ext_alloc (Below.refl _ _) _) (World.size_alloc _ _).symm).ext (ext_drew (Below.refl _ _))) (HW.out.ext E3.out))
  have hlt : b < w6.heap.size := cell_lt d0
  go_cut [13] (fun x wr => x = .int .i64 160 ∧ Ext w6 wr)
  case first =>
    go_region_held3 (fun w' => w'.cell? ⟨b, off, none⟩ = some (.string exAll.name) ∧ w'.cell? ⟨b, off + 1, none⟩ = some (.bool exAll.allow) ∧ w'.cell? ⟨b, off + 2, none⟩ = some (.slice pa exAll.pats.length pc) ∧ w'.cell? ⟨b, off + 3, none⟩ = some (.int .u64 exAll.keyMin) ∧ w'.cell? ⟨b, off + 4, none⟩ = some (.int .i64 exAll.lifeMax) ∧ w'.cell? ⟨b, off + 5, none⟩ = some (.int .i64 exAll.most) ∧ w'.cell? ⟨b, off + 6, none⟩ = some (.int .i64 exAll.window)) (first | go_keep | exact ⟨keep_set (keep_set qd0 (by omega)) (by omega), keep_set (keep_set qd1 (by omega)) (by omega), keep_set (keep_set qd2 (by omega)) (by omega), keep_set (keep_set qd3 (by omega)) (by omega), keep_set (keep_set qd4 (by omega)) (by omega), keep_set (keep_set qd5 (by omega)) (by omega), keep_set (keep_set qd6 (by omega)) (by omega)⟩) ((go_at_call 25; (first | ((with_reducible refine K1.out.mono ?_); have hE := E1.out; have hb0 := trivial) | ((with_reducible refine K2.out.mono ?_); have hE := E2.out; have hb0 := HB2.out) | ((with_reducible refine K3.out.mono ?_); have hE := E3.out; have hb0 := HB3.out)); rintro e w7 hr; obtain ⟨ra, rc, sa, sc, rfl, -, -, -, -, -, -, hE2⟩ := retTab_lit (k := 0) (m := 0) hr rfl rfl; (try (have hb := hb0.ext hE2; have fz0 := hb.frozen 0; have fz1 := hb.frozen 1; obtain ⟨z0, z1⟩ := hb.cells)); replace hE := ext_trans hE hE2; have qd0 := ext_cell d0 hE; have qd1 := ext_cell d1 hE; have qd2 := ext_cell d2 hE; have qd3 := ext_cell d3 hE; have qd4 := ext_cell d4 hE; have qd5 := ext_cell d5 hE; have qd6 := ext_cell d6 hE))
    all_goals (clear qd0 qd1 qd2 qd3 qd4 qd5 qd6 hr hE2; rename_i J K' hJ hK hH; refine hK _ _ (Met.intro (hJ _ _ ?_)); (repeat apply Exists.intro); refine ⟨?_, rfl⟩; first | exact ⟨rfl, ext_alloc hE _⟩ | exact ⟨rfl, (hE.setCell (p := ⟨w6.heap.size, 0, none⟩) (Nat.le_refl _) _).setCell (p := ⟨w6.heap.size, 1, none⟩) (Nat.le_refl _) _⟩ | exact ⟨rfl, (hE.setCell (p := ⟨w6.heap.size + 1, 0, none⟩) (Nat.le_succ _) _).setCell (p := ⟨w6.heap.size + 1, 1, none⟩) (Nat.le_succ _) _⟩)
  case rest =>
    obtain ⟨rfl, hE⟩ := hcut

    replace HL := Lib.hid (HL.out.ext hE)
    replace HW := Lib.hid (HW.out.ext hE)
    replace HTR := Lib.hid (HTR.out.ext hE)
    replace HTN := Lib.hid (HTN.out.ext hE)
    replace HT := Lib.hid (HT.out.ext hE)
    replace HI := Lib.hid (HI.out.ext hE)
    replace HV := Lib.hid (HV.out.ext hE)
    replace HU := Lib.hid (HU.out.ext hE)
    replace HXV := Lib.hid (HXV.out.ext hE)
    replace HC := Lib.hid (HC.out.ext hE)
    replace HB := Lib.hid (HB.out.ext hE)
    replace HX := Lib.hid (ext_trans HX.out hE)
    clear hE d0 d1 d2 d3 d4 d5 d6 HCC E1 E2 E3 HB2 HB3 K1 K2 K3
    go_wp2_with fail
    refine (means_ex4 HL.out HW.out).mono ?_
    rintro e w8 hr
    obtain ⟨ya, yc, rfl, _, _, _, hE⟩ := retVE_lit (k := 0) hr rfl rfl
    go_upto_region 10 with (fail)
    obtain ⟨W8, hW8⟩ : ∃ W8, w8.alloc (Obj.cells #[.bool false, .int .i64 0, .slice ya 0 yc] 32) = W8 := ⟨_, rfl⟩
    replace hE : Ext wc W8 := by rw [← hW8]; exact ext_alloc hE _
    rw [hW8]
    clear hW8
    replace HL := Lib.hid (HL.out.ext hE)
    replace HW := Lib.hid (HW.out.ext hE)
    replace HTR := Lib.hid (HTR.out.ext hE)
    replace HTN := Lib.hid (HTN.out.ext hE)
    replace HT := Lib.hid (HT.out.ext hE)
    replace HI := Lib.hid (HI.out.ext hE)
    replace HV := Lib.hid (HV.out.ext hE)
    replace HU := Lib.hid (HU.out.ext hE)
    replace HXV := Lib.hid (HXV.out.ext hE)
    replace HC := Lib.hid (HC.out.ext hE)
    replace HB := Lib.hid (HB.out.ext hE)
    replace HX := Lib.hid (ext_trans HX.out hE)
    obtain ⟨a0, a1, a2⟩ := HV.out.cells
    obtain ⟨b0, b1, _⟩ := HU.out.cells
    obtain ⟨x0, _, _⟩ := HXV.out.cells
    obtain ⟨y0, y1⟩ := HT.out.cells
    obtain ⟨b3, off3, hca, r0, r1⟩ := HC.out 0 (0, 2) rfl
    obtain ⟨b4, off4, hba, s0, _⟩ := HB.out 0 sA rfl
    obtain ⟨b5, off5, hba2, s1, _⟩ := HB.out 1 sC rfl
    cases hca; cases hba; cases hba2
    rw [Nat.zero_mul, Nat.add_zero] at r0 r1
    rw [Nat.zero_mul, Nat.add_zero] at s0
    rw [Nat.one_mul] at s1
    unfold sA at s0
    unfold sC at s1
    clear hr hE
    go_wp2_with fail
    have hE := ext_alloc (Below.refl _ W8) (Obj.cells (([0, 1, 2, -1] : List Int).map (Value.int .i64)).toArray 3)
    refine (sameInts_ex (HI.out.ext hE) (ints_lit W8 [0, 1, 2, -1] 3)).mono ?_
    rintro e w9 ⟨rfl, hE2⟩
    replace hE := ext_trans hE hE2
    clear hE2
    replace HL := Lib.hid (HL.out.ext hE)
    replace HW := Lib.hid (HW.out.ext hE)
    replace HTR := Lib.hid (HTR.out.ext hE)
    replace HTN := Lib.hid (HTN.out.ext hE)
    replace HT := Lib.hid (HT.out.ext hE)
    replace HI := Lib.hid (HI.out.ext hE)
    replace HV := Lib.hid (HV.out.ext hE)
    replace HU := Lib.hid (HU.out.ext hE)
    replace HXV := Lib.hid (HXV.out.ext hE)
    replace HC := Lib.hid (HC.out.ext hE)
    replace HB := Lib.hid (HB.out.ext hE)
    replace HX := Lib.hid (ext_trans HX.out hE)
    replace a0 := ext_cell a0 hE
    replace a1 := ext_cell a1 hE
    replace a2 := ext_cell a2 hE
    replace b0 := ext_cell b0 hE
    replace b1 := ext_cell b1 hE
    replace x0 := ext_cell x0 hE
    replace y0 := ext_cell y0 hE
    replace y1 := ext_cell y1 hE
    replace r0 := ext_cell r0 hE
    replace r1 := ext_cell r1 hE
    replace s0 := ext_cell s0 hE
    replace s1 := ext_cell s1 hE
    clear hE
    go_wp2_with fail
    refine (check_ex T1.out T2.out N1.out N2.out HTR.out HTN.out HW.out).mono ?_
    rintro e w10 ⟨rfl, hE⟩
    replace HL := Lib.hid (HL.out.ext hE)
    replace HW := Lib.hid (HW.out.ext hE)
    replace HTR := Lib.hid (HTR.out.ext hE)
    replace HTN := Lib.hid (HTN.out.ext hE)
    replace HT := Lib.hid (HT.out.ext hE)
    replace HI := Lib.hid (HI.out.ext hE)
    replace HV := Lib.hid (HV.out.ext hE)
    replace HU := Lib.hid (HU.out.ext hE)
    replace HXV := Lib.hid (HXV.out.ext hE)
    replace HC := Lib.hid (HC.out.ext hE)
    replace HB := Lib.hid (HB.out.ext hE)
    replace HX := Lib.hid (ext_trans HX.out hE)
    replace a0 := ext_cell a0 hE
    replace a1 := ext_cell a1 hE
    replace a2 := ext_cell a2 hE
    replace b0 := ext_cell b0 hE
    replace b1 := ext_cell b1 hE
    replace x0 := ext_cell x0 hE
    replace y0 := ext_cell y0 hE
    replace y1 := ext_cell y1 hE
    replace r0 := ext_cell r0 hE
    replace r1 := ext_cell r1 hE
    replace s0 := ext_cell s0 hE
    replace s1 := ext_cell s1 hE
    clear hE
    go_wp2_with fail
    refine (check_ex0 HL.out HW.out).mono ?_
    rintro e w11 ⟨rfl, hE⟩
    replace HL := Lib.hid (HL.out.ext hE)
    replace HW := Lib.hid (HW.out.ext hE)
    replace HTR := Lib.hid (HTR.out.ext hE)
    replace HTN := Lib.hid (HTN.out.ext hE)
    replace HT := Lib.hid (HT.out.ext hE)
    replace HI := Lib.hid (HI.out.ext hE)
    replace HV := Lib.hid (HV.out.ext hE)
    replace HU := Lib.hid (HU.out.ext hE)
    replace HXV := Lib.hid (HXV.out.ext hE)
    replace HC := Lib.hid (HC.out.ext hE)
    replace HB := Lib.hid (HB.out.ext hE)
    replace HX := Lib.hid (ext_trans HX.out hE)
    replace a0 := ext_cell a0 hE
    replace a1 := ext_cell a1 hE
    replace a2 := ext_cell a2 hE
    replace b0 := ext_cell b0 hE
    replace b1 := ext_cell b1 hE
    replace x0 := ext_cell x0 hE
    replace y0 := ext_cell y0 hE
    replace y1 := ext_cell y1 hE
    replace r0 := ext_cell r0 hE
    replace r1 := ext_cell r1 hE
    replace s0 := ext_cell s0 hE
    replace s1 := ext_cell s1 hE
    clear hE
    go_wp2_with fail
    go_ret
    exact ⟨rfl, HX.out⟩
end Go.Proofs.YtmdmbdbbpdojnaaGreatDoor
