/- Walk of the reader of rules: rule. -/
import Derived.Test.YteemkkmkkgfofaaGreatDoorM15
import Derived.Deep.CutBlock
import Derived.Deep.DeepCutAuto
namespace Go.Proofs.YteemkkmkkgfofaaGreatDoor
open Go.RowKit Nam Pol Go.Maps
attribute [local go_sem] gv_of

theorem ans_err {α : Type} {S : Nat → Prop} {X : PR α} {w : World} {R : α → Ending → World → Prop} {e : Ending} {w' : World} {x : Nat × Int} (hX : X = .error x) (he : e = stopE x.1 x.2) (hF : Fr S w w') : Ans S X w R e w' := by
  subst hX; exact ⟨he, hF⟩
theorem ans_ok {α : Type} {S : Nat → Prop} {X : PR α} {w : World} {R : α → Ending → World → Prop} {e : Ending} {w' : World} {a : α} (hX : X = .ok a) (hR : R a e w') (hF : Fr S w w') : Ans S X w R e w' := by
  subst hX; exact ⟨hR, hF⟩
theorem Ans.cases {α : Type} {S : Nat → Prop} {X : PR α} {w : World} {R : α → Ending → World → Prop} {e : Ending} {w' : World} (h : Ans S X w R e w') : (∃ x, X = .error x ∧ e = stopE x.1 x.2 ∧ Fr S w w') ∨ ∃ a, X = .ok a ∧ R a e w' ∧ Fr S w w' := by
  cases X with
  | error x => exact .inl ⟨x, rfl, h⟩
  | ok a => exact .inr ⟨a, rfl, h⟩
theorem lit_eq {a : ByteArray} {l : List UInt8} : (a.toList == l) = true ↔ a = bA l := by
  rw [beq_iff_eq, Lib.toList_data]
  constructor
  · intro h; exact bytes_eq (by simpa [bA] using h)
  · rintro rfl; rfl
theorem rule_head {T : List Tok} {ahead : List Rul} {b1 b2 : Bool} (h1 : ((hdT T).toList == ([97, 108, 108, 111, 119] : List UInt8)) = b1) (h2 : ((hdT T).toList == ([114, 101, 102, 117, 115, 101] : List UInt8)) = b2) :
    ((!b1 && !b2) = true ∧ ruleP ahead T = .error (hdP T, 71)) ∨ ((!b1 && !b2) = false ∧ (hdT T = tAllow ∨ hdT T = tRefuse) ∧ decide (hdT T = tAllow) = b1) := by
  have e1 : hdT T = tAllow ↔ b1 = true := by rw [← h1]; exact lit_eq.symm
  have e2 : hdT T = tRefuse ↔ b2 = true := by rw [← h2]; exact lit_eq.symm
  by_cases ha : hdT T = tAllow
  · right
    rw [e1.1 ha]
    exact ⟨rfl, .inl ha, by simp [ha]⟩
  · have hb1 : b1 = false := by cases b1; · rfl
                                · exact absurd (e1.2 rfl) ha
    subst hb1
    by_cases hr : hdT T = tRefuse
    · right
      rw [e2.1 hr]
      exact ⟨rfl, .inr hr, by simp [ha]⟩
    · left
      have hb2 : b2 = false := by cases b2; · rfl
                                  · exact absurd (e2.2 rfl) hr
      subst hb2
      refine ⟨rfl, ?_⟩
      unfold ruleP
      rw [if_neg (by rintro (h | h) <;> contradiction)]; rfl
set_option maxRecDepth 100000 in
set_option maxHeartbeats 8000000 in
theorem rule_s {w : World} {rb : Nat} {ba : Option Addr} {n bc : Nat} {s : Str} {T : List Tok} (ahead : List Rul) (la : Option Addr) (ln lc : Nat) (h : RdS w rb ba n bc s T) (hz : n ≤ 281474976710656)
    (hn : ahead.length = ln) (hnc : ln ≤ lc) (hcm : lc ≤ maxLen) (hK : Kept rb w la ahead) :
    Calls Tryz.prog 34 #[.pointer (some ⟨rb, 0, none⟩), .slice la ln lc] w (Ans (· = rb) (ruleP ahead T) w fun a e w' =>
      RdS w' rb ba n bc s a.2 ∧ ∃ pa pc, e = .returned (rulV a.1 pa pc) ∧ w'.ownsRow w.heap.size 9 1 (.slice pa a.1.pats.length pc) a.1.pats.length (a.1.pats.map Value.string) ∧ (∀ q ∈ a.1.pats, q.size ≤ maxLen) ∧ a.1.pats.length ≤ pc ∧ pc ≤ maxLen ∧ a.1.name.size ≤ maxLen) := by
  have hlt := h.rd.blk.lt
  have HLT := Lib.hid h.lt
  obtain ⟨W, hW⟩ : ∃ W, (w.alloc (Obj.cells #[.slice la ln lc] 22)).alloc (Obj.cells #[.string ⟨#[]⟩, .bool false, .slice none 0 0, .int .u64 0, .int .i64 0, .int .i64 0, .int .i64 0] 40) = W := ⟨_, rfl⟩
  have hEW : Ext w W := by rw [← hW]; exact ext_alloc (ext_alloc (Below.refl _ w) _) _
  have hab : Boxed W w.heap.size 22 (.slice la ln lc) := by rw [← hW]; exact (Boxed.new w _ _).alloc _
  have hxb : XB W (w.heap.size + 1) ⟨#[]⟩ false (.slice none 0 0) 0 0 0 0 := by
    rw [← hW]
    have := XB.new (w.alloc (Obj.cells #[.slice la ln lc] 22)) ⟨#[]⟩ false (.slice none 0 0) 0 0 0 0
    rwa [World.size_alloc] at this
  obtain ⟨b1, hb1⟩ : ∃ b1, ((hdT T).toList == ([97, 108, 108, 111, 119] : List UInt8)) = b1 := ⟨_, rfl⟩
  obtain ⟨b2, hb2⟩ : ∃ b2, ((hdT T).toList == ([114, 101, 102, 117, 115, 101] : List UInt8)) = b2 := ⟨_, rfl⟩
  have HB1 := Lib.hid hb1; have HB2 := Lib.hid hb2
  have hR := h.ext hEW
  obtain ⟨c0, c1, c2⟩ := hR.rd.blk.cells
  have x1 := hxb.c1; have fx1 := hxb.frozen 1
  have HEW := Lib.hid hEW; have HWW := Lib.hid hW; have HAB := Lib.hid hab; have HXB := Lib.hid hxb; have HR := Lib.hid hR; have HK := Lib.hid hK; have HN := Lib.hid hn; have HNC := Lib.hid hnc; have HCM := Lib.hid hcm
  clear h hEW hW hab hxb hR hK hn hnc hcm
  go_enter Tryz.func34, Tryz.ntmps34
  go_upto_region 1 with (fail)
  rw [HWW.out]
  go_upto_region 2 with (fail)
  obtain ⟨W1, hW1⟩ : ∃ W1, W.setCell ⟨w.heap.size + 1, 1, none⟩ (.bool b1) = W1 := ⟨_, rfl⟩
  have hFs : Fr (fun b => b = w.heap.size + 1) W W1 := by rw [← hW1]; exact Fr.setCell (S := fun b => b = w.heap.size + 1) _ ⟨w.heap.size + 1, 1, none⟩ _ rfl
  have hxb1 : XB W1 (w.heap.size + 1) ⟨#[]⟩ b1 (.slice none 0 0) 0 0 0 0 := by rw [← hW1]; exact HXB.out.s1 b1
  rw [hW1]
  clear hW1
  have hne : ¬ rb = w.heap.size + 1 := by omega
  have hR1 := HR.out.fr hFs hne (fun p hp hs e => by have := HLT.out p hp hs; omega)
  have hab1 := hFs.boxed HAB.out (show ¬ (w.heap.size = w.heap.size + 1) by omega)
  have hF1 : Fr (· = rb) w W1 := (Fr.of_ext HEW.out).onto hFs (fun i hi e => by omega)
  have HXB1 := Lib.hid hxb1; have HR1 := Lib.hid hR1; have HAB1 := Lib.hid hab1; have HF1 := Lib.hid hF1
  clear c0 c1 c2 x1 fx1 hFs hxb1 hR1 hab1 hF1 HXB HR HAB HEW HWW
  obtain ⟨c0, c1, c2⟩ := HR1.out.rd.blk.cells
  have x1 := HXB1.out.c1
  refine wp_region_P (fun w' => w' = W1) rfl ?_
  repeat
    first
    | (refine steps_and rfl rfl rfl rfl ?_; simp only [Act.put, List.setIfInBounds_toArray, List.set_cons_succ, List.set_cons_zero])
    | (refine steps_or rfl rfl rfl rfl ?_; simp only [Act.put, List.setIfInBounds_toArray, List.set_cons_succ, List.set_cons_zero])
    | (refine steps_skip rfl ?_; simp only [Act.put, List.setIfInBounds_toArray, List.set_cons_succ, List.set_cons_zero])
    | (refine steps_guard_and rfl rfl rfl rfl rfl ?_; simp only [Act.put, List.setIfInBounds_toArray, List.set_cons_succ, List.set_cons_zero])
    | (refine steps_guard (v := ?_) rfl rfl (fun hb w' hS => ?_) ?_; rotate_left; (focus (subst hS; unfold Gives; go_simp; first | exact is_mk rfl)); simp only [Act.put, List.setIfInBounds_toArray, List.set_cons_succ, List.set_cons_zero])
    | (refine steps_guard2 (v := ?_) rfl rfl rfl (fun hb1 hb w' hS => ?_) ?_; rotate_left; (focus (subst hS; unfold Gives; go_simp; first | exact is_mk rfl)); simp only [Act.put, List.setIfInBounds_toArray, List.set_cons_succ, List.set_cons_zero])
    | (refine steps_run (v := ?_) rfl (fun w' hS => ?_) ?_; rotate_left; (focus (subst hS; unfold Gives; go_simp; first | exact is_mk rfl)); simp only [Act.put, List.setIfInBounds_toArray, List.set_cons_succ, List.set_cons_zero])
  refine steps_end fun w' hE' => ?_
  subst hE'
  rcases rule_head (ahead := ahead) HB1.out HB2.out with ⟨hbb, hr⟩ | ⟨hbb, htk, hda⟩
  · rw [hbb]
    have HX := Lib.hid hr
    clear hbb hr
    go_wp2_with fail
    refine (wrong_s HR1.out).mono ?_
    rintro e w2 ⟨rfl, rfl⟩
    exact ⟨rfl, ans_err HX.out rfl HF1.out⟩
  · rw [hbb]
    have HTK := Lib.hid htk; have HDA := Lib.hid hda
    have a0 := HAB1.out.cell
    clear hbb htk hda
    by_cases h32 : ln = 32
    · subst h32
      have HX : Hid (ruleP ahead T = .error (hdP T, 2)) := Lib.hid (by unfold ruleP; rw [if_pos HTK.out, if_pos HN.out])
      go_wp2_with fail
      exact ⟨rfl, ans_err HX.out rfl HF1.out⟩
    · have t32 : ((ln : Int) == 32) = false := by simp; omega
      have HL32 : Hid (¬ ahead.length = 32) := Lib.hid (by rw [HN.out]; exact h32)
      go_wp2_with fail
      refine (next_s HR1.out).mono ?_
      rintro e w2 ⟨rfl, hF2, hR2⟩
      have hxb2 := HXB1.out.fr hF2 (show ¬ (w.heap.size + 1 = rb) by omega)
      have hab2 := hF2.boxed HAB1.out (show ¬ (w.heap.size = rb) by omega)
      have HR2 := Lib.hid hR2; have HXB2 := Lib.hid hxb2; have HAB2 := Lib.hid hab2; have HF2 := Lib.hid (HF1.out.trans hF2)
      clear hF2 hR2 hxb2 hab2 c0 c1 c2 x1 a0 HR1 HXB1 HAB1
      have hsz : (hdT (tlT T)).size ≤ maxLen := by have := HR2.out.rd.le; unfold maxLen; omega
      have HT := Lib.hid (take_s (nameFits ahead) 54 #[.pointer (some ⟨w.heap.size, 0, none⟩)] (fun _ => False) (fun _ => True) HR2.out (enters_of Tryz.func54 (by kernel_rfl) rfl)
        ((nameFits_any (hdT (tlT T)) ahead w.heap.size la lc ln w2 HAB2.out.cell HN.out HNC.out HCM.out (HK.out.ruls w2 HF2.out) hsz).mono (fun e w' h => ⟨h.1, Fr.of_ext h.2, trivial⟩)) (fun h => h) (fun _ _ _ h => h))
      have x0 := HXB2.out.c0; have fx0 := HXB2.out.frozen 0
      go_wp2_with fail
      refine HT.out.mono ?_
      rintro e w3 hA
      rcases hA.cases with ⟨x, hx, rfl, hF3⟩ | ⟨⟨nm, T2⟩, hx, ⟨rfl, hR3, _⟩, hF3⟩
      · have HX : Hid (ruleP ahead T = .error x) := Lib.hid (by unfold ruleP; rw [if_pos HTK.out, if_neg HL32.out, hx]; rfl)
        exact ⟨rfl, ans_err HX.out rfl (HF2.out.trans (hF3.mono fun _ _ h => h.elim id False.elim))⟩
      · have hxb3 := HXB2.out.fr hF3 (show ¬ (w.heap.size + 1 = rb ∨ False) from fun h => h.elim (fun h => by omega) id)
        have x0 := hxb3.c0; have fx0 := hxb3.frozen 0
        have HX1 := Lib.hid hx; have HR3 := Lib.hid hR3; have HXB3 := Lib.hid hxb3; have HF3 := Lib.hid (HF2.out.trans (hF3.mono fun _ _ h => h.elim id False.elim))
        have HNS := Lib.hid (show nm.size ≤ maxLen by
          unfold takeP at hx
          split at hx
          · cases hx; exact hsz
          · cases hx)
        clear hx hR3 hF3 hxb3 HT hsz hA
        go_upto_region 8 with (fail)
        obtain ⟨W3, hW3⟩ : ∃ W3, w3.setCell ⟨w.heap.size + 1, 0, none⟩ (.string nm) = W3 := ⟨_, rfl⟩
        have hFs : Fr (fun b => b = w.heap.size + 1) w3 W3 := by rw [← hW3]; exact Fr.setCell (S := fun b => b = w.heap.size + 1) _ ⟨w.heap.size + 1, 0, none⟩ _ rfl
        have hxb4 : XB W3 (w.heap.size + 1) nm b1 (.slice none 0 0) 0 0 0 0 := by rw [← hW3]; exact HXB3.out.s0 nm
        rw [hW3]
        clear hW3 x0 fx0
        have hR4 := HR3.out.fr hFs (by omega) (fun p hp hs e => by have := HLT.out p hp hs; omega)
        have HR4 := Lib.hid hR4; have HXB4 := Lib.hid hxb4; have HF4 := Lib.hid (HF3.out.onto hFs (fun i hi e => by omega))
        clear hFs hxb4 hR4 HR3 HXB3 HR2 HXB2 HAB2
        go_wp2_with fail
        refine (want_s ⟨#[123]⟩ HR4.out).mono ?_
        rintro e w5 hA
        rcases hA.cases with ⟨x, hx, rfl, hF5⟩ | ⟨T3, hx, ⟨rfl, hR5⟩, hF5⟩
        · have HX : Hid (ruleP ahead T = .error x) := Lib.hid (by unfold ruleP; rw [if_pos HTK.out, if_neg HL32.out, HX1.out, bind_ok]; dsimp only; rw [show tOpen = ⟨#[123]⟩ from rfl, hx]; rfl)
          exact ⟨rfl, ans_err HX.out rfl (HF4.out.trans hF5)⟩
        · have hrs : RS w w5 rb ba n bc s (w.heap.size + 1) nm b1 (.slice none 0 0) [] T3 0 0 0 0 := ⟨HXB4.out.fr hF5 (show ¬ (w.heap.size + 1 = rb) by omega), World.ownsRow_nil _ _ _ _, fun _ h => (by cases h), hR5, HF4.out.trans hF5, hlt, HLT.out, Nat.le_succ _⟩
          have HX2 := Lib.hid hx; have HRS := Lib.hid hrs
          obtain ⟨xb, hxb⟩ : ∃ xb, w.heap.size + 1 = xb := ⟨_, rfl⟩
          rw [hxb] at HRS ⊢
          clear hx hF5 hR5 hrs HR4 HXB4 HF4 hA hlt hxb hne
          have hbase : w.heap.size ≤ xb := HRS.out.base
          obtain ⟨iS, hiS, hz0, hz1, hz2⟩ := info_parts infoStrR
          go_upto_block 0 with (fail)
          go_cut [0] (fun r wx => r = .pointer (some ⟨rb, 0, none⟩) ∧ ∃ acc Tj pv, RS w wx rb ba n bc s xb nm b1 pv acc Tj 0 0 0 0 ∧ patsP 8 [] T3 = .ok (acc, Tj))
          case first =>
            go_wp2_with fail
            go_loopw [40] (fun _ wr => ∃ acc Tj pv, RS w wr rb ba n bc s xb nm b1 pv acc Tj 0 0 0 0 ∧ patsP 8 [] T3 = patsP (8 - acc.length) acc Tj ∧ acc.length ≤ 8) (fun _ wr => 8 - patsLen wr xb)
            case atStart => exact ⟨[], T3, _, HRS.out, rfl, Nat.zero_le _⟩
            case round =>
              obtain ⟨acc, Tj, pv, hrs, hpp, h8⟩ := hrel
              obtain ⟨pa, pc, rfl, hpc, hpm, hst⟩ := hrs.strs
              obtain ⟨q, hq⟩ : ∃ q, acc.length = q := ⟨_, rfl⟩
              have htz : (hdT Tj).size ≤ maxLen := by have := hrs.rd.rd.le; unfold maxLen; omega
              have HT := Lib.hid (take_s (fun s => (decide (acc.length < 8) && patOk s) && !memB acc s) 58 #[.pointer (some ⟨xb, 0, none⟩)] (fun _ => False) (fun _ => True) (hrs.ext (ext_drewR (Below.refl _ wr))).rd (enters_of Tryz.func58 (by kernel_rfl) rfl)
                ((patFits_any (hdT Tj) acc xb pa acc.length pc wr.drew (hrs.ext (ext_drewR (Below.refl _ wr))).box.c2 rfl hpc hpm (hst.ext (ext_drewR (Below.refl _ wr))) htz).mono (fun e w' h => ⟨h.1, Fr.of_ext h.2, trivial⟩)) (fun h => h) (fun _ _ _ h => h))
              have x2 := hrs.box.c2
              have HSW := Lib.hid hrs.box.c2
              have HS0 := Lib.hid hrs; have HPP := Lib.hid hpp; have HQ := Lib.hid hq; have HTZ := Lib.hid htz
              have hpcq : q ≤ pc := by omega
              have h8q : q ≤ 8 := by omega
              rw [hq] at x2
              clear hrs hpp hst hq htz hpc h8
              cases hf : fitsB acc Tj
              · have HX : Hid (ruleP ahead T = .error (hdP Tj, 71)) := Lib.hid (pats_err HTK.out HL32.out HX1.out HX2.out (HPP.out.trans (pats_bad hf (by rw [HQ.out]; exact h8q))))
                have ht : takeP (fun s => (decide (acc.length < 8) && patOk s) && !memB acc s) Tj = .error (hdP Tj, 71) := take_bad hf
                rw [ht] at HT
                clear hf ht
                go_wp2_with fail
                refine wp_region_any (by kernel_rfl) ?_
                change wpAny _ _ _ _ _ _ _ (World.drew _)
                refine wpAny_take (i := 0) (v := ?_) rfl (by kernel_rfl) (by kernel_rfl) (by kernel_rfl) (fun _ _ _ h => h) (Or.inl ⟨by rfl, ?_⟩) ?_
                rotate_left
                · intro w; go_simp; try with_reducible rfl
                refine wpAny_take (i := 2) (v := ?_) rfl (by kernel_rfl) (by kernel_rfl) (by kernel_rfl) (fun _ _ _ h => h) (Or.inl ⟨by rfl, ?_⟩) ?_
                rotate_left
                · intro w; go_simp; try with_reducible rfl
                refine wpAny_take (i := 3) (v := ?_) rfl (by kernel_rfl) (by kernel_rfl) (by kernel_rfl) (fun _ _ _ h => h) (Or.inl ⟨by rfl, ?_⟩) ?_
                rotate_left
                · intro w; go_simp; try with_reducible rfl
                refine wpAny_ready (rs := [1, 4]) (by kernel_rfl) (by simp) ?_
                refine AllReady.cons rfl (fun K hK => ?_) ?_
                · go_simp
                  refine hK _ _ ?_
                  clear hK K
                  refine wpAny_ready (rs := [4]) (by kernel_rfl) (by simp) ?_
                  refine AllReady.cons rfl (fun K hK => ?_) AllReady.nil
                  go_simp
                  refine HT.out.mono ?_
                  rintro e w6 ⟨rfl, hF⟩
                  exact ⟨rfl, ans_err HX.out rfl (HS0.out.fr.trans ((Fr.drew _ _).trans (hF.mono fun _ _ h => h.elim id False.elim)))⟩
                refine AllReady.cons rfl (fun K hK => ?_) AllReady.nil
                go_simp
                refine HT.out.mono ?_
                rintro e w6 ⟨rfl, hF⟩
                exact ⟨rfl, ans_err HX.out rfl (HS0.out.fr.trans ((Fr.drew _ _).trans (hF.mono fun _ _ h => h.elim id False.elim)))⟩
              · have ht : takeP (fun s => (decide (acc.length < 8) && patOk s) && !memB acc s) Tj = .ok (hdT Tj, tlT Tj) := take_fit hf
                rw [ht] at HT
                have HPF := Lib.hid (pats_fit hf).2
                have h8a : acc.length < 8 := (pats_fit hf).1
                have h8q' : q < 8 := by rw [← HQ.out]; exact h8a
                clear hf ht h8a h8q
                go_wp2_with fail
                refine wp_cut (fun a a' w' => ∃ nb g cap, a' = ((((((((a.put (some 40) (.pointer (some ⟨xb, 2, none⟩))).put (some 41) (.slice pa q pc)).put (some 42) (.pointer (some ⟨rb, 0, none⟩))).put (some 43) (.func (.func 58) #[] #[.pointer (some ⟨xb, 0, none⟩)])).put (some 44) (.string (hdT Tj))).put (some 45) (.slice (some ⟨nb, 0, none⟩) 1 1)).put (some 46) (.slice (some ⟨g, 0, none⟩) (q + 1) cap)).put (some 47) (.pointer (some ⟨xb, 2, none⟩))) ∧
                  RS w w' rb ba n bc s xb nm b1 (.slice (some ⟨g, 0, none⟩) (acc ++ [hdT Tj]).length cap) (acc ++ [hdT Tj]) (tlT Tj) 0 0 0 0) ?_ ?_
                · intro K hK
                  go_region_law (first
                    | (refine step_append_lies _ rfl _ _ _ rfl (xb + 1) 9 iS _ 1 16 Tryz.underlying37 hiS hz0 hz1 hz2 rfl (by decide) (.slice pa q pc) q (acc.map Value.string) rfl (HO6.out.alloc _) ⟨w6.heap.size, 0, none⟩ 1 1 [.string (hdT Tj)] rfl rfl (one_new _ _ _) (by simp [Value.oneCell']) (by decide) (by unfold maxLen; omega) (by omega) (by simp; omega) _ rfl ?_; intro g cap w7 hown7 hgrow7 hat7 hlt7; have HO7 := Lib.hid hown7; have HG7 := Lib.hid hgrow7; have hx7 : XB w7 xb nm b1 (.slice pa q pc) 0 0 0 0 := by { have := HS6.out.appx (o := Obj.cells #[.string (hdT Tj)] 9) (by rw [HQ.out]; exact hgrow7); rw [HQ.out] at this; exact this }; have y7 := hx7.c2; have fy7 := hx7.frozen 2; clear hown7 hgrow7 hx7 hat7 hlt7)
                    | (go_simp; refine HT.out.mono ?_; rintro e w6 ⟨⟨rfl, hR6, _⟩, hF6⟩; have HS6 := Lib.hid (HS0.out.call ((Fr.drew _ _).trans (hF6.mono fun _ _ h => h.elim id False.elim)) hR6); have y6 : w6.cell? ⟨xb, 2, none⟩ = some (.slice pa q pc) := (by rw [← HQ.out]; exact HS6.out.box.c2); have HO6 : Hid (w6.ownsRow (xb + 1) 9 1 (.slice pa q pc) q (acc.map Value.string)) := Lib.hid (by rw [← HQ.out]; exact HS6.out.own); have hlt6 := HS6.out.box.lt; clear hR6 hF6))
                  all_goals
                    refine hK _ _ ⟨w6.heap.size, g, cap, ?_, ?_⟩
                    · simp only [Act.put, List.setIfInBounds_toArray, List.set_cons_succ, List.set_cons_zero]
                    · have ho := HO7.out; have hg := HG7.out
                      rw [← HQ.out] at ho hg ⊢
                      exact HS6.out.app ho hg HTZ.out
                · rintro a' w7 ⟨nb, g, cap, rfl, hrs7⟩
                  simp only [Act.put, List.setIfInBounds_toArray, List.set_cons_succ, List.set_cons_zero]
                  have HS7 := Lib.hid hrs7
                  have y2 := hrs7.tok
                  clear hrs7 x2 HT HS0
                  obtain ⟨b3, hb3⟩ : ∃ b3, ((hdT (tlT Tj)).toList == ([44] : List UInt8)) = b3 := ⟨_, rfl⟩
                  have HB3 := Lib.hid (tok_lit hb3)
                  cases b3
                  · have HE := Lib.hid (show patsP 8 [] T3 = .ok (acc ++ [hdT Tj], tlT Tj) by
                      rw [HPP.out, HPF.out, if_neg (show ¬ hdT (tlT Tj) = tComma from fun h => by have := HB3.out.1 h; cases this)])
                    go_wp2_with fail
                    go_meet
                    exact ⟨rfl, _, _, _, HS7.out, HE.out⟩
                  · have HE := Lib.hid (show patsP 8 [] T3 = patsP (8 - (acc ++ [hdT Tj]).length) (acc ++ [hdT Tj]) (tlT (tlT Tj)) by
                      rw [HPP.out, HPF.out, if_pos (show hdT (tlT Tj) = tComma from HB3.out.2 rfl)])
                    go_wp2_with fail
                    refine (next_s HS7.out.rd).mono ?_
                    rintro e w8 ⟨rfl, hF8, hR8⟩
                    have HS8 := Lib.hid (HS7.out.call hF8 hR8)
                    clear hF8 hR8
                    go_wp2_with fail
                    go_roundw
                    case rel => exact ⟨_, _, _, HS8.out, HE.out, by simp; have := HQ.out; omega⟩
                    case measure => rw [patsLen_at HS8.out.box.c2, patsLen_at HSW.out]; simp; have := HQ.out; omega
          case rest =>
            obtain ⟨rfl, acc, Tj, pv, hrs, hpp⟩ := hcut
            have HE0 := Lib.hid (rule_to HTK.out HL32.out HX1.out HX2.out hpp HDA.out)
            have HS0 := Lib.hid hrs
            clear hrs hpp
            go_wp2_with fail
            refine (want_s ⟨#[59]⟩ HS0.out.rd).mono ?_
            rintro e w6 hA
            rcases hA.cases with ⟨x, hx, rfl, hF⟩ | ⟨T5, hx, ⟨rfl, hR⟩, hF⟩
            · exact ⟨rfl, ans_err (HE0.out.trans (by rw [hx]; rfl)) rfl (HS0.out.fr.trans hF)⟩
            · have HE1 : Hid (ruleP ahead T = (limP b1 T5 >>= endP nm b1 acc)) := Lib.hid (HE0.out.trans (by rw [hx]; rfl))
              have HS1 := Lib.hid (HS0.out.call hF hR)
              clear hx hF hR HE0 HS0 hA
              have x1 := HS1.out.box.c1
              go_upto_if 58 with (fail)
              go_cut [0] (fun r wx => r = .pointer (some ⟨rb, 0, none⟩) ∧ ∃ (k l m p : Nat) (T6 : List Tok), RS w wx rb ba n bc s xb nm b1 pv acc T6 k l m p ∧ limP b1 T5 = .ok ((k, l, m, p), T6))
              case first =>
                cases b1
                · go_wp2_with fail
                  go_meet
                  exact ⟨rfl, 0, 0, 0, 0, T5, HS1.out, rfl⟩
                · have HL0 := Lib.hid (lim_yes T5)
                  have y2 := HS1.out.tok
                  obtain ⟨b4, hb4⟩ : ∃ b4, ((hdT T5).toList == ([107, 101, 121] : List UInt8)) = b4 := ⟨_, rfl⟩
                  have HB4 := Lib.hid (tok_lit hb4)
                  clear x1
                  go_upto_if 63 with (fail)
                  go_cut [0] (fun r wx => r = .pointer (some ⟨rb, 0, none⟩) ∧ ∃ (k : Nat) (T6 : List Tok), RS w wx rb ba n bc s xb nm true pv acc T6 k 0 0 0 ∧ keyP T5 = .ok (k, T6))
                  case first =>
                    cases b4
                    · go_wp2_with fail
                      go_meet
                      exact ⟨rfl, 0, T5, HS1.out, key_no (fun h => by have := HB4.out.1 h; cases this)⟩
                    · have HK1 := Lib.hid (key_yes (HB4.out.2 rfl))
                      go_wp2_with fail
                      refine (next_s HS1.out.rd).mono ?_
                      rintro e w7 ⟨rfl, hF, hR⟩
                      have HS2 := Lib.hid (HS1.out.call hF hR)
                      clear hF hR y2
                      have x3 := HS2.out.box.c3; have f3 := HS2.out.box.frozen 3
                      go_wp2_with fail
                      refine (number_s 2305843009213691579 HS2.out.rd hz (HK.out.syn w7 HS2.out.fr) (HK.out.rng w7 HS2.out.fr)).mono ?_
                      rintro e w8 hA
                      rcases hA.cases with ⟨x, hx, rfl, hF⟩ | ⟨⟨k, T7⟩, hx, ⟨rfl, hR⟩, hF⟩
                      · exact ⟨rfl, ans_err (HE1.out.trans (by simp only [HL0.out, HK1.out, hx, bind_err])) rfl (HS2.out.fr.trans hF)⟩
                      · have HX7 := Lib.hid hx
                        have HS3 := Lib.hid (HS2.out.call hF hR)
                        clear hx hF hR hA x3 f3
                        have x3 := HS3.out.box.c3; have f3 := HS3.out.box.frozen 3
                        go_wp2_with fail
                        refine (want_s ⟨#[59]⟩ (HS3.out.s3 k).rd).mono ?_
                        rintro e w9 hA
                        rcases hA.cases with ⟨x, hx, rfl, hF⟩ | ⟨T8, hx, ⟨rfl, hR⟩, hF⟩
                        · exact ⟨rfl, ans_err (HE1.out.trans (by simp only [HL0.out, HK1.out, HX7.out, bind_ok, hx, bind_err])) rfl ((HS3.out.s3 k).fr.trans hF)⟩
                        · have HS4 := Lib.hid ((HS3.out.s3 k).call hF hR)
                          have HX8 := Lib.hid (show keyP T5 = .ok (k, T8) by simp only [HK1.out, HX7.out, bind_ok, hx])
                          clear hx hF hR hA x3 f3
                          go_wp2_with fail
                          go_meet
                          exact ⟨rfl, k, T8, HS4.out, HX8.out⟩
                  case rest =>
                    obtain ⟨rfl, k, T6, hrs, hk⟩ := hcut
                    have HL1 : Hid (limP true T5 = (lifeP T6 >>= fun b => mostP b.2 >>= fun c => .ok ((k, b.1, c.1.1, c.1.2), c.2))) := Lib.hid (by simp only [HL0.out, hk, bind_ok])
                    have HS2 := Lib.hid hrs
                    clear hrs hk HL0 HS1 y2 HB4 hb4
                    go_wp2_with fail
                    refine (want_s ⟨#[108, 105, 102, 101]⟩ HS2.out.rd).mono ?_
                    rintro e w7 hA
                    rcases hA.cases with ⟨x, hx, rfl, hF⟩ | ⟨T7, hx, ⟨rfl, hR⟩, hF⟩
                    · exact ⟨rfl, ans_err (HE1.out.trans (by simp only [HL1.out, life_eq, hx, bind_err])) rfl (HS2.out.fr.trans hF)⟩
                    · have HX7 := Lib.hid hx
                      have HS3 := Lib.hid (HS2.out.call hF hR)
                      clear hx hF hR hA
                      go_wp2_with fail
                      refine (number_s 1000 HS3.out.rd hz (HK.out.syn _ HS3.out.fr) (HK.out.rng _ HS3.out.fr)).mono ?_
                      rintro e w8 hA
                      rcases hA.cases with ⟨x, hx, rfl, hF⟩ | ⟨⟨l, T8⟩, hx, ⟨rfl, hR⟩, hF⟩
                      · exact ⟨rfl, ans_err (HE1.out.trans (by simp only [HL1.out, life_eq, HX7.out, bind_ok, hx, bind_err])) rfl (HS3.out.fr.trans hF)⟩
                      · have HX8 := Lib.hid hx
                        have HS4 := Lib.hid (HS3.out.call hF hR)
                        have hlb : l ≤ 1000 := (num_bound hx).2
                        clear hx hF hR hA
                        have x4 := HS4.out.box.c4; have f4 := HS4.out.box.frozen 4
                        go_wp2_with fail
                        refine (want_s ⟨#[59]⟩ (HS4.out.s4 l).rd).mono ?_
                        rintro e w9 hA
                        rcases hA.cases with ⟨x, hx, rfl, hF⟩ | ⟨T9, hx, ⟨rfl, hR⟩, hF⟩
                        · exact ⟨rfl, ans_err (HE1.out.trans (by simp only [HL1.out, life_eq, HX7.out, HX8.out, bind_ok, hx, bind_err])) rfl ((HS4.out.s4 l).fr.trans hF)⟩
                        · have HS5 := Lib.hid ((HS4.out.s4 l).call hF hR)
                          have HL2 : Hid (limP true T5 = (mostP T9 >>= fun c => .ok ((k, l, c.1.1, c.1.2), c.2))) := Lib.hid (by simp only [HL1.out, life_eq, HX7.out, HX8.out, bind_ok, hx])
                          clear hx hF hR hA x4 f4 HL1 HX7 HX8 HS2 HS3 HS4
                          have y2 := HS5.out.tok
                          obtain ⟨b5, hb5⟩ : ∃ b5, ((hdT T9).toList == ([109, 111, 115, 116] : List UInt8)) = b5 := ⟨_, rfl⟩
                          have HB5 := Lib.hid (tok_lit hb5)
                          cases b5
                          · go_wp2_with fail
                            go_meet
                            exact ⟨rfl, k, l, 0, 0, T9, HS5.out, by simp only [HL2.out, most_no (show ¬ hdT T9 = bA [109, 111, 115, 116] from fun h => by have := HB5.out.1 h; cases this), bind_ok]⟩
                          · have HM := Lib.hid (most_yes (HB5.out.2 rfl))
                            clear HB5
                            go_wp2_with fail
                            refine (next_s HS5.out.rd).mono ?_
                            rintro e w10 ⟨rfl, hF, hR⟩
                            have HS6 := Lib.hid (HS5.out.call hF hR)
                            clear hF hR y2 hb5
                            go_wp2_with fail
                            refine (number_s 1000 HS6.out.rd hz (HK.out.syn _ HS6.out.fr) (HK.out.rng _ HS6.out.fr)).mono ?_
                            rintro e w11 hA
                            rcases hA.cases with ⟨x, hx, rfl, hF⟩ | ⟨⟨m, T11⟩, hx, ⟨rfl, hR⟩, hF⟩
                            · exact ⟨rfl, ans_err (HE1.out.trans (by simp only [HL2.out, HM.out, hx, bind_err])) rfl (HS6.out.fr.trans hF)⟩
                            · have HX11 := Lib.hid hx
                              have HS7 := Lib.hid (HS6.out.call hF hR)
                              have hmb : m ≤ 1000 := (num_bound hx).2
                              clear hx hF hR hA
                              have x5 := HS7.out.box.c5; have f5 := HS7.out.box.frozen 5
                              go_wp2_with fail
                              refine (want_s ⟨#[112, 101, 114]⟩ (HS7.out.s5 m).rd).mono ?_
                              rintro e w12 hA
                              rcases hA.cases with ⟨x, hx, rfl, hF⟩ | ⟨T12, hx, ⟨rfl, hR⟩, hF⟩
                              · exact ⟨rfl, ans_err (HE1.out.trans (by simp only [HL2.out, HM.out, HX11.out, bind_ok, hx, bind_err])) rfl ((HS7.out.s5 m).fr.trans hF)⟩
                              · have HX12 := Lib.hid hx
                                have HS8 := Lib.hid ((HS7.out.s5 m).call hF hR)
                                clear hx hF hR hA x5 f5 HS5 HS6 HS7
                                go_wp2_with fail
                                refine (number_s 1099511627776 HS8.out.rd hz (HK.out.syn _ HS8.out.fr) (HK.out.rng _ HS8.out.fr)).mono ?_
                                rintro e w13 hA
                                rcases hA.cases with ⟨x, hx, rfl, hF⟩ | ⟨⟨p, T13⟩, hx, ⟨rfl, hR⟩, hF⟩
                                · exact ⟨rfl, ans_err (HE1.out.trans (by simp only [HL2.out, HM.out, HX11.out, HX12.out, bind_ok, hx, bind_err])) rfl (HS8.out.fr.trans hF)⟩
                                · have HX13 := Lib.hid hx
                                  have HS9 := Lib.hid (HS8.out.call hF hR)
                                  have hpb : p ≤ 1099511627776 := (num_bound hx).2
                                  clear hx hF hR hA
                                  have x6 := HS9.out.box.c6; have f6 := HS9.out.box.frozen 6
                                  go_wp2_with fail
                                  refine (want_s ⟨#[59]⟩ (HS9.out.s6 p).rd).mono ?_
                                  rintro e w14 hA
                                  rcases hA.cases with ⟨x, hx, rfl, hF⟩ | ⟨T14, hx, ⟨rfl, hR⟩, hF⟩
                                  · exact ⟨rfl, ans_err (HE1.out.trans (by simp only [HL2.out, HM.out, HX11.out, HX12.out, HX13.out, bind_ok, hx, bind_err])) rfl ((HS9.out.s6 p).fr.trans hF)⟩
                                  · have HS10 := Lib.hid ((HS9.out.s6 p).call hF hR)
                                    have HL3 : Hid (limP true T5 = .ok ((k, l, m, p), T14)) := Lib.hid (by simp only [HL2.out, HM.out, HX11.out, HX12.out, HX13.out, bind_ok, hx])
                                    clear hx hF hR hA x6 f6
                                    go_wp2_with fail
                                    go_meet
                                    exact ⟨rfl, k, l, m, p, T14, HS10.out, HL3.out⟩
              case rest =>
                obtain ⟨rfl, k, l, m, p, T6, hrs, hl⟩ := hcut
                have HE2 : Hid (ruleP ahead T = endP nm b1 acc ((k, l, m, p), T6)) := Lib.hid (HE1.out.trans (by rw [hl]; rfl))
                have HS2 := Lib.hid hrs
                clear hrs hl HE1 HS1 x1
                go_wp2_with fail
                refine (want_s ⟨#[125]⟩ HS2.out.rd).mono ?_
                rintro e w8 hA
                rcases hA.cases with ⟨x, hx, rfl, hF⟩ | ⟨T7, hx, ⟨rfl, hR⟩, hF⟩
                · exact ⟨rfl, ans_err (HE2.out.trans (by unfold endP; rw [show tShut = ⟨#[125]⟩ from rfl, hx]; rfl)) rfl (HS2.out.fr.trans hF)⟩
                · have HE3 : Hid (ruleP ahead T = .ok (⟨nm, b1, acc, k, l, m, p⟩, T7)) := Lib.hid (HE2.out.trans (by unfold endP; rw [show tShut = ⟨#[125]⟩ from rfl, hx]; rfl))
                  have HS3 := Lib.hid (HS2.out.call hF hR)
                  clear hx hF hR HE2 HS2 hA
                  have d0 := HS3.out.box.c0; have d1 := HS3.out.box.c1; have d2 := HS3.out.box.c2; have d3 := HS3.out.box.c3; have d4 := HS3.out.box.c4; have d5 := HS3.out.box.c5; have d6 := HS3.out.box.c6
                  have f0 := HS3.out.box.frozen 0; have f1 := HS3.out.box.frozen 1; have f2 := HS3.out.box.frozen 2; have f3 := HS3.out.box.frozen 3; have f4 := HS3.out.box.frozen 4; have f5 := HS3.out.box.frozen 5; have f6 := HS3.out.box.frozen 6
                  obtain ⟨pa, pc, rfl, _⟩ := HS3.out.strs
                  go_wp2_with fail
                  clear d0 d1 d2 d3 d4 d5 d6 f0 f1 f2 f3 f4 f5 f6
                  obtain ⟨W9, hW9⟩ : ∃ W9, (((((((w8.setCell ⟨xb, 0, none⟩ (.string nm)).setCell ⟨xb, 1, none⟩ (.bool b1)).setCell ⟨xb, 2, none⟩ (.slice pa acc.length pc)).setCell ⟨xb, 3, none⟩ (.int .u64 (k : Int))).setCell ⟨xb, 4, none⟩ (.int .i64 (l : Int))).setCell ⟨xb, 5, none⟩ (.int .i64 (m : Int))).setCell ⟨xb, 6, none⟩ (.int .i64 (p : Int))) = W9 := ⟨_, rfl⟩
                  have hs9 : RS w W9 rb ba n bc s xb nm b1 (.slice pa acc.length pc) acc T7 k l m p := by
                    rw [← hW9]
                    have g1 := HS3.out.setx 0 _ (HS3.out.box.s0 nm)
                    have g2 := g1.setx 1 _ (g1.box.s1 b1)
                    have g3 := g2.setx 2 _ (g2.box.s2 (.slice pa acc.length pc))
                    exact (((g3.s3 k).s4 l).s5 m).s6 p
                  rw [hW9]
                  clear hW9
                  have q0 := hs9.box.c0; have q1 := hs9.box.c1; have q2 := hs9.box.c2; have q3 := hs9.box.c3; have q4 := hs9.box.c4; have q5 := hs9.box.c5; have q6 := hs9.box.c6
                  refine bodyPost_ret (v := rulV ⟨nm, b1, acc, k, l, m, p⟩ pa pc) (by simp [results, Tryz.results34, go_sem, q0, q1, q2, q3, q4, q5, q6, rulV]) rfl ?_
                  obtain ⟨pa', pc', hv, h1, h2, _⟩ := hs9.strs
                  cases hv
                  exact ans_ok HE3.out ⟨hs9.rd, pa, pc, rfl, own_low hs9.own (by omega), hs9.sz, h1, h2, HNS.out⟩ hs9.fr
end Go.Proofs.YteemkkmkkgfofaaGreatDoor
