/- Walks: rule.Print. -/
import Derived.Test.YteemkkmkkgfofaaGreatDoorM21
import Derived.Test.YteemkkmkkgfofaaGreatDoorM15
import Derived.Test.YteemkkmkkgfofaaGreatDoorM22
import Derived.Test.YteemkkmkkgfofaaGreatDoorM12
import Derived.Test.YteemkkmkkgfofaaGreatDoorM14
import Derived.Deep.CutBlock
import Derived.Deep.DeepCutAuto
import Derived.Deep.RegionHeld3
import Derived.Shelf.Bytes.BufferK
namespace Go.Proofs.YteemkkmkkgfofaaGreatDoor
open Go.RowKit Nam Pol Go.Maps
attribute [local go_sem] gv_of

/-- What Print leaves. -/
def PrintR (l : List Rul) (w : World) (e : Ending) (w' : World) : Prop := ∃ v, e = .returned (.tuple #[v, .int .i64 (checkE l)]) ∧ Ext w w' ∧ (checkE l ≠ 0 → v = .slice none 0 0) ∧
  (checkE l = 0 → ∃ b c, v = .slice b (textL l).length c ∧ (textL l).length ≤ c ∧ c ≤ maxLen ∧ Byts w' b (textL l))
/-- What stands in memory while a rule is written: the buffer B, the rule's box. -/
structure PrI (B : Nat) (w1 wr : World) (xb : Nat) (r : Rul) (pa : Option Addr) (pc : Nat) (t : Str) : Prop where
  buf : Lib.IsBuffer 50 5 B B (Lib.byteCells t) wr
  box : XB wr xb r.name r.allow (.slice pa r.pats.length pc) r.keyMin r.lifeMax r.most r.window
  ext : Ext w1 wr
  base : w1.heap.size = B
  ne : xb ≠ B
theorem IsBuffer.ext {T e : TypeId} {B b : Nat} {bs : List Value} {w w' : World} (h : Lib.IsBuffer T e B b bs w) (hE : Ext w w') : Lib.IsBuffer T e B b bs w' := by
  obtain ⟨h1, v, lr, h2, h3, h4⟩ := h
  exact ⟨h1, v, lr, (hE.block b (Array.getElem?_eq_some_iff.1 h2).1).trans h2, own_keep h3 (fun g hg => hE.block g (h3.lt g hg).2), h4⟩
theorem PrI.later {B : Nat} {w1 wr w' : World} {xb : Nat} {r : Rul} {pa : Option Addr} {pc : Nat} {t : Str} (h : PrI B w1 wr xb r pa pc t) (hE : Ext wr w') : PrI B w1 w' xb r pa pc t :=
  ⟨IsBuffer.ext h.buf hE, h.box.fr (Fr.of_ext (S := fun _ => False) hE) (fun h => h), ext_trans h.ext hE, h.base, h.ne⟩
theorem write_any {B : Nat} {w1 wr : World} {xb : Nat} {r : Rul} {pa : Option Addr} {pc : Nat} {t : Str} (s : ByteArray) (h : PrI B w1 wr xb r pa pc t) (hlim : t.length + s.size ≤ 140737488355328) :
    Calls Tryz.prog 26 #[.pointer (some ⟨B, 0, none⟩), .string s] wr (fun e w' => e = .returned (.tuple #[.int .i64 s.size, .nilIface]) ∧ PrI B w1 w' xb r pa pc (t ++ s.data.toList)) := by
  have hsz := h.ext.size
  refine (Tryz.Buffer_WriteString_k B B (Lib.byteCells t) s wr h.buf (by have := h.base; omega) (Lib.byteCells_one t) (by rw [Lib.byteCells_length]; exact hlim)).mono ?_
  rintro e w' ⟨rfl, h1, h2, h3⟩
  refine ⟨rfl, by rw [Lib.byteCells_append]; exact h1, h3 xb _ h.box (fun e => h.ne (by cases e; rfl)) (fun c fz e => ?_), h.ext.trans (by rw [h.base]; exact h2), h.base, h.ne⟩
  simp at e
/-- Bools as keys. -/
theorem boolKEnc {P : Program} {kt : TypeId} (hk : P.underlying kt = some .bool) : KEnc P kt Value.bool (fun _ : Bool => True) where
  keyed := bool_keyed hk
  key := fun b _ => ⟨_, keyOf_bool_mk hk b⟩
  inj := fun a b h => by cases h; rfl
theorem kinds_any (W : World) (al : Bool) : ∃ WA WB, (Instr.mapUpdate 51 (.map (some W.heap.size)) (.bool true) (.string ⟨#[97, 108, 108, 111, 119, 32]⟩)).run Tryz.prog (W.alloc (.map #[] 0)) = .ok () WA ∧
    (Instr.mapUpdate 51 (.map (some W.heap.size)) (.bool false) (.string ⟨#[114, 101, 102, 117, 115, 101, 32]⟩)).run Tryz.prog WA = .ok () WB ∧
    (Instr.lookup 51 (.map (some W.heap.size)) (.bool al) false).run Tryz.prog WB = .ok (.string (if al then ⟨#[97, 108, 108, 111, 119, 32]⟩ else ⟨#[114, 101, 102, 117, 115, 101, 32]⟩)) WB ∧ Ext W WB := by
  have E := boolKEnc Tryz.underlying4
  have ht : Tryz.prog.underlying 51 = some (.map 4 9) := by kernel_rfl
  have m0 := MapIs.made Tryz.prog 4 Value.bool (fun _ : Bool => True) W
  obtain ⟨WA, r1, m1, F1, _⟩ := m0.run_update E ht (k := true) trivial (.string ⟨#[97, 108, 108, 111, 119, 32]⟩)
  obtain ⟨WB, r2, m2, F2, _⟩ := m1.run_update E ht (k := false) trivial (.string ⟨#[114, 101, 102, 117, 115, 101, 32]⟩)
  have hz : (zeroValue 9).run Tryz.prog WB = .ok (.string ⟨#[]⟩) WB := by kernel_rfl
  have r3 := m2.run_lookup E ht hz (k := al) trivial
  refine ⟨WA, WB, r1, r2, ?_, ?_⟩
  · rw [r3]; cases al <;> rfl
  · have hE : Ext W (W.alloc (.map #[] 0)) := ext_alloc (Below.refl _ _) _
    exact ((((Fr.of_ext (S := fun _ => False) hE).onto F1 (fun i hi e => by have e' : i = W.heap.size := e; omega)).onto F2 (fun i hi e => by have e' : i = W.heap.size := e; omega))).ext (fun _ _ h => h)
theorem head_eq (r : Rul) (K : ByteArray) (hK : K.data.toList = if r.allow then [97, 108, 108, 111, 119, 32] else [114, 101, 102, 117, 115, 101, 32]) : ((((K ++ r.name) ++ ⟨#[32, 123, 32]⟩) ++ bA (joinP r.pats)) ++ ⟨#[59, 32]⟩ : ByteArray).data.toList = headR r := by
  unfold headR
  rw [← hK]
  simp [bA]
set_option maxRecDepth 100000 in
set_option maxHeartbeats 4000000 in
theorem Print_any (l : List Rul) (a : Option Addr) (cap n : Nat) (w : World) (hn : l.length = n) (hnc : n ≤ cap) (hcm : cap ≤ maxLen) (hl : Ruls w a l) (hp : Pow w) :
    Calls Tryz.prog 16 #[.slice a n cap] w (PrintR l w) := by
  have HC := Lib.hid (pCheck_any l a cap n w hn hnc hcm hl)
  have HN := Lib.hid hn; have HNC := Lib.hid hnc; have HCM := Lib.hid hcm; have HL := Lib.hid hl; have HPW := Lib.hid hp
  have hcm' : cap ≤ 9223372036854775807 := hcm
  have hmm := @run_makeMap Tryz.prog
  obtain ⟨x, hx⟩ : ∃ x, checkE l = x := ⟨_, rfl⟩
  have HX := Lib.hid hx
  unfold PrintR
  rw [hx] at HC ⊢
  clear hn hcm hl hp hx
  by_cases h0 : x = 0
  · subst h0
    go_enter Tryz.func16, Tryz.ntmps16
    go_wp2_with fail
    refine HC.out.mono ?_
    rintro e w1 ⟨rfl, hE⟩
    have HE1 := Lib.hid hE
    clear hE
    go_wp2_with fail
    have hok := check_zero HX.out
    have HF := Lib.hid (rulesOk_forms hok.1)
    have hn32 : n ≤ 32 := by rw [← HN.out]; exact hok.2
    clear hok
    obtain ⟨B, hB⟩ : ∃ B, w1.heap.size = B := ⟨_, rfl⟩
    have HB := Lib.hid hB
    have hb0 := Lib.fresh_isBuffer 50 5 w1
    obtain ⟨W, hW⟩ : ∃ W, w1.alloc (.cells #[.slice none 0 0, .int .i64 0, .int .i8 0] 50) = W := ⟨_, rfl⟩
    have hEW : Ext w1 W := by rw [← hW]; exact ext_alloc (Below.refl _ _) _
    rw [hW, hB] at hb0
    have HB0 := Lib.hid hb0; have HEW := Lib.hid hEW
    try rw [hW, hB]
    clear hb0 hEW hW hB
    go_loopw [16] (fun i wr => ∃ k : Nat, k ≤ n ∧ i = .int .i64 k ∧ Lib.IsBuffer 50 5 B B (Lib.byteCells (textL (l.take k))) wr ∧ Ext w1 wr) (fun i _ => n - (intOf i).toNat)
    case atStart => exact ⟨0, Nat.zero_le _, rfl, HB0.out, HEW.out⟩
    case round =>
      obtain ⟨k, hk, rfl, hbuf, hEr⟩ := hrel
      have HBU := Lib.hid hbuf; have HER := Lib.hid hEr
      clear hbuf hEr
      by_cases hlt : k < n
      · obtain ⟨r, hr⟩ := get_some HN.out hlt
        obtain ⟨b, off, rfl, d0, d1, ⟨pa, pc, d2, l1, l2, hps⟩, d3, d4, d5, d6, hnm, hkm⟩ := (HL.out.ext (ext_trans HE1.out HER.out)) k r hr
        have HR := Lib.hid hr; have HPS := Lib.hid hps
        have hkc : k < cap := by omega
        clear hr hps
        go_upto_region 8 with (fail)
        obtain ⟨W2, hW2⟩ : ∃ W2, wr.alloc (Obj.cells #[.string r.name, .bool r.allow, .slice pa r.pats.length pc, .int .u64 r.keyMin, .int .i64 r.lifeMax, .int .i64 r.most, .int .i64 r.window] 40) = W2 := ⟨_, rfl⟩
        have hE : Ext wr W2 := by rw [← hW2]; exact ext_alloc (Below.refl _ wr) _
        have hM : W2.heap[wr.heap.size]? = some (Obj.cells #[.string r.name, .bool r.allow, .slice pa r.pats.length pc, .int .u64 r.keyMin, .int .i64 r.lifeMax, .int .i64 r.most, .int .i64 r.window] 40 (0, 0)) := by rw [← hW2]; exact World.alloc_heap_new wr _
        rw [hW2]
        clear hW2
        obtain ⟨xb, hxb⟩ : ∃ xb, wr.heap.size = xb := ⟨_, rfl⟩
        rw [hxb] at hM
        try rw [hxb]
        have hpr : PrI B w1 W2 xb r pa pc (textL (l.take k)) := ⟨IsBuffer.ext HBU.out hE, hM, ext_trans HER.out hE, HB.out, by have := HBU.out.lt; omega⟩
        have HPR := Lib.hid hpr; have HPS2 := Lib.hid (HPS.out.ext hE); have HE2 := Lib.hid hE
        have x1 := hpr.box.c1
        clear hM hE hpr hxb d0 d1 d2 d3 d4 d5 d6
        obtain ⟨K, hK⟩ : ∃ K : ByteArray, (if r.allow then ⟨#[97, 108, 108, 111, 119, 32]⟩ else ⟨#[114, 101, 102, 117, 115, 101, 32]⟩) = K := ⟨_, rfl⟩
        have HK := Lib.hid hK
        clear hK
        go_cut [8] (fun v wx => v = .string K ∧ Ext W2 wx)
        case first =>
          obtain ⟨WA, WB, g1, g2, g3, hEB⟩ := kinds_any W2 r.allow
          rw [HK.out] at g3
          have y1 := ext_cell x1 hEB
          have HEB := Lib.hid hEB
          clear hEB x1
          go_wp2_with fail
          go_meet
          exact ⟨rfl, HEB.out⟩
        case rest =>
          obtain ⟨rfl, hE3⟩ := hcut
          have hrm := List.mem_of_getElem? HR.out
          have hf := HF.out r hrm
          obtain ⟨q1, q2, q3, q4, q5⟩ := form_parts hf
          have hnz : r.name.size ≤ 16 := by
            unfold ruleName at q1
            simp only [Bool.and_eq_true, decide_eq_true_eq] at q1
            rw [Lib.size_eq]; exact q1.1.2
          have hjl : (joinP r.pats).length ≤ 528 := by have := (join_len (fun p hp => pats_all q4 p hp)).1; omega
          have hkz : K.size ≤ 7 := by rw [← HK.out]; cases r.allow <;> decide
          have HKL : Hid (K.data.toList = if r.allow then [97, 108, 108, 111, 119, 32] else [114, 101, 102, 117, 115, 101, 32]) := Lib.hid (by rw [← HK.out]; cases r.allow <;> rfl)
          have htl : (textL (l.take k)).length ≤ 21216 := by
            have := (rules_len (l := l.take k) (fun x hx => HF.out x (List.take_subset _ _ hx))).1
            have h2 : (l.take k).length ≤ 32 := by rw [List.length_take]; omega
            omega
          have HSM := Lib.hid (form_small hf)
          have HQ5 := Lib.hid q5; have HKM := Lib.hid hkm
          have HP3 := Lib.hid (HPR.out.later (ext_trans hE3 (ext_drewR (Below.refl _ _)))); have HPS3 := Lib.hid (HPS2.out.ext (ext_trans hE3 (ext_drewR (Below.refl _ _))))
          have z0 := HP3.out.box.c0; have z2 := HP3.out.box.c2
          have HSZ : Hid (((((K ++ r.name) ++ ⟨#[32, 123, 32]⟩) ++ bA (joinP r.pats)) ++ ⟨#[59, 32]⟩ : ByteArray).size ≤ 663) := Lib.hid (by
            have := (Lib.size_eq ((((K ++ r.name) ++ ⟨#[32, 123, 32]⟩) ++ bA (joinP r.pats)) ++ ⟨#[59, 32]⟩ : ByteArray))
            rw [this, head_eq r K HKL.out]
            have h9 := (rule_len hf).1
            unfold textR bodyR at h9
            simp only [List.length_append] at h9
            omega)
          have hpl : r.pats.length ≤ 140737488355328 := by omega
          have hjl' : (joinP r.pats).length ≤ 140737488355328 := by omega
          clear hf q1 q2 q4 q5 hrm hkm x1 hE3 hnm
          have hbz : (bA (joinP r.pats)).size ≤ 528 := by rw [Lib.size_eq]; exact hjl
          have HTL := Lib.hid htl; have HJL := Lib.hid hjl'; have HPL := Lib.hid hpl; have HL1 := Lib.hid l1
          clear htl hjl' hpl l1 l2 q3
          go_upto_region 9 with (fail)
          go_cut [25] (fun _ wx => PrI B w1 wx xb r pa pc (textL (l.take k) ++ headR r))
          case first =>
            refine wp_region_T 10 11 (by kernel_rfl) (by kernel_rfl) (by kernel_rfl) (by kernel_rfl) (by kernel_rfl) (by kernel_rfl) (by kernel_rfl) rfl (by kernel_rfl) (fun w' => Ext wc.drew w') (fun w' => PrI B w1 w' xb r pa pc (textL (l.take k) ++ headR r)) (Below.refl _ _) ?_
            simp only [List.take_succ_cons, List.take_zero]
            iterate 10
              first
              | (refine steps_and rfl rfl rfl rfl ?_; simp only [Act.put, List.setIfInBounds_toArray, List.set_cons_succ, List.set_cons_zero])
              | (refine steps_or rfl rfl rfl rfl ?_; simp only [Act.put, List.setIfInBounds_toArray, List.set_cons_succ, List.set_cons_zero])
              | (refine steps_skip rfl ?_; simp only [Act.put, List.setIfInBounds_toArray, List.set_cons_succ, List.set_cons_zero])
              | (refine steps_guard_and rfl rfl rfl rfl rfl ?_; simp only [Act.put, List.setIfInBounds_toArray, List.set_cons_succ, List.set_cons_zero])
              | (refine steps_guard_or rfl rfl rfl rfl rfl ?_; simp only [Act.put, List.setIfInBounds_toArray, List.set_cons_succ, List.set_cons_zero])
              | (refine steps_guard (v := ?_) rfl rfl (fun hb w' hS => ?_) ?_; rotate_left; (focus (have k0 := ext_cell z0 hS; have k2 := ext_cell z2 hS; unfold Gives; go_simp; first | exact is_mk hS | (go_at_call 27; refine (joined_any (l := r.pats) (k := r.pats.length) rfl HL1.out HPL.out HJL.out (HPS3.out.ext hS)).mono ?_; rintro e w'' ⟨rfl, h2⟩; exact gave_mk (ext_trans hS h2)) | (rw [if_neg (show ¬ _ from by omega)]; exact is_mk hS))); simp only [Act.put, List.setIfInBounds_toArray, List.set_cons_succ, List.set_cons_zero])
              | (refine steps_guard2 (v := ?_) rfl rfl rfl (fun hb1 hb w' hS => ?_) ?_; rotate_left; (focus (have k0 := ext_cell z0 hS; have k2 := ext_cell z2 hS; unfold Gives; go_simp; first | exact is_mk hS | (go_at_call 27; refine (joined_any (l := r.pats) (k := r.pats.length) rfl HL1.out HPL.out HJL.out (HPS3.out.ext hS)).mono ?_; rintro e w'' ⟨rfl, h2⟩; exact gave_mk (ext_trans hS h2)) | (rw [if_neg (show ¬ _ from by omega)]; exact is_mk hS))); simp only [Act.put, List.setIfInBounds_toArray, List.set_cons_succ, List.set_cons_zero])
              | (refine steps_run (v := ?_) rfl (fun w' hS => ?_) ?_; rotate_left; (focus (have k0 := ext_cell z0 hS; have k2 := ext_cell z2 hS; unfold Gives; go_simp; first | exact is_mk hS | (go_at_call 27; refine (joined_any (l := r.pats) (k := r.pats.length) rfl HL1.out HPL.out HJL.out (HPS3.out.ext hS)).mono ?_; rintro e w'' ⟨rfl, h2⟩; exact gave_mk (ext_trans hS h2)) | (rw [if_neg (show ¬ _ from by omega)]; exact is_mk hS))); simp only [Act.put, List.setIfInBounds_toArray, List.set_cons_succ, List.set_cons_zero])
            obtain ⟨Z, hZ⟩ : ∃ Z : ByteArray, ((((K ++ r.name) ++ ⟨#[32, 123, 32]⟩) ++ bA (joinP r.pats)) ++ ⟨#[59, 32]⟩ : ByteArray) = Z := ⟨_, rfl⟩
            have HZ1 : Hid (Z.data.toList = headR r) := Lib.hid (by rw [← hZ]; exact head_eq r K HKL.out)
            have HZ2 : Hid (Z.size ≤ 663) := Lib.hid (by rw [← hZ]; exact HSZ.out)
            rw [hZ]
            clear hZ
            refine last_mk (v := .tuple #[.int .i64 (Z.size : Int), .nilIface]) (some 35) rfl rfl rfl (fun w' hS => ?_) (fun w' hS => ?_)
            · unfold Gives
              go_simp
              refine (write_any Z (HP3.out.later hS) (by have := HZ2.out; have := HTL.out; omega)).mono ?_
              rintro e w'' ⟨rfl, h2⟩
              rw [HZ1.out] at h2
              exact gave_mk h2
            · simp only [Act.put, List.setIfInBounds_toArray, List.set_cons_succ, List.set_cons_zero]
              rename_i J K' hJ hK
              refine hK _ _ (Met.intro (hJ _ _ ?_))
              (repeat apply Exists.intro)
              exact ⟨hS, rfl⟩
          case rest =>
            have HP4 := Lib.hid hcut
            have x3 := hcut.box.c3
            obtain ⟨kn, hkn⟩ := Int.eq_ofNat_of_zero_le HKM.out
            have HKN := Lib.hid hkn
            have hknz : kn < 18446744073709551616 := by
              have h9 := HF.out r (List.mem_of_getElem? HR.out)
              obtain ⟨_, _, _, _, q5⟩ := form_parts h9
              cases hal : r.allow
              · have := (lim_none q5 hal).1; omega
              · have := (lim_parts q5 hal).1; omega
            have hhl : (textL (l.take k) ++ headR r).length ≤ 22000 := by
              have h9 := (rule_len (HF.out r (List.mem_of_getElem? HR.out))).1
              have h8 := HTL.out
              unfold textR bodyR at h9
              simp only [List.length_append] at h9 ⊢
              omega
            have HHL := Lib.hid hhl
            rw [hkn] at x3
            clear hcut z0 z2 hkn hhl HSZ HP3
            go_upto_if 38 with (fail)
            go_cut [36] (fun _ wx => PrI B w1 wx xb r pa pc ((textL (l.take k) ++ headR r) ++ keyR r))
            case first =>
              by_cases hk0 : 0 < kn
              · have hd := dec_len (kn : Int) (by omega)
                rw [decS, Int.toNat_natCast] at hd
                obtain ⟨hdz, _⟩ := hd
                have hdz' : (bA (Lib.decDigits kn)).size ≤ 20 := by rw [Lib.size_eq]; exact hdz
                have t1 : decide ((0 : Int) < (kn : Int)) = true := by simp; omega
                go_wp2_with fail
                refine (fmt_any kn hk0 hknz wc ((HPW.out.ext HE1.out).ext HP4.out.ext)).mono ?_
                rintro e w5 ⟨rfl, hE5⟩
                have HP5 := Lib.hid (HP4.out.later hE5)
                clear hE5
                go_wp2_with fail
                obtain ⟨Z, hZ⟩ : ∃ Z : ByteArray, ((⟨#[107, 101, 121, 32]⟩ ++ bA (Lib.decDigits kn)) ++ ⟨#[59, 32]⟩ : ByteArray) = Z := ⟨_, rfl⟩
                have HZ1 : Hid (Z.data.toList = keyR r) := Lib.hid (by
                  rw [← hZ]; unfold keyR
                  rw [if_pos (by rw [HKN.out]; omega), decS, HKN.out, Int.toNat_natCast]
                  simp [bA])
                have HZ2 : Hid (Z.size ≤ 30) := Lib.hid (by rw [← hZ]; simp only [ByteArray.size_append]; have : (⟨#[107, 101, 121, 32]⟩ : ByteArray).size = 4 := rfl; have : (⟨#[59, 32]⟩ : ByteArray).size = 2 := rfl; omega)
                rw [hZ]
                clear hZ
                refine (write_any Z HP5.out (by have := HZ2.out; have := HHL.out; omega)).mono ?_
                rintro e w6 ⟨rfl, h2⟩
                rw [HZ1.out] at h2
                have HP6 := Lib.hid h2
                clear h2
                go_wp2_with fail
                go_meet
                exact HP6.out
              · have t1 : decide ((0 : Int) < (kn : Int)) = false := by simp; omega
                have HZ : Hid (keyR r = []) := Lib.hid (by unfold keyR; rw [if_neg (by rw [HKN.out]; omega)])
                go_wp2_with fail
                go_meet
                rw [HZ.out, List.append_nil]
                exact HP4.out
            case rest =>
              have HP5 := Lib.hid hcut
              have x1 := hcut.box.c1
              clear hcut x3 HP4
              go_upto_if 46 with (fail)
              go_cut [47] (fun _ wx => PrI B w1 wx xb r pa pc (((textL (l.take k) ++ headR r) ++ keyR r) ++ lifeR r))
              case first =>
                cases hal : r.allow
                · rw [hal] at x1
                  have HZ : Hid (lifeR r = []) := Lib.hid (by unfold lifeR; rw [hal]; rfl)
                  clear hal
                  go_wp2_with fail
                  go_meet
                  rw [HZ.out, List.append_nil]
                  exact HP5.out
                · rw [hal] at x1
                  have hlf := lim_parts HQ5.out hal
                  obtain ⟨ln, hln⟩ := Int.eq_ofNat_of_zero_le (show 0 ≤ r.lifeMax by omega)
                  have hlz : ln ≤ 1000 := by omega
                  have x4 := HP5.out.box.c4
                  rw [hln] at x4
                  have HLN := Lib.hid hln; have HAL := Lib.hid hal
                  have hd := dec_len (ln : Int) (by omega)
                  rw [decS, Int.toNat_natCast] at hd
                  obtain ⟨hdz, _⟩ := hd
                  have hdz' : (bA (Lib.decDigits ln)).size ≤ 20 := by rw [Lib.size_eq]; exact hdz
                  clear hal hlf hln
                  go_wp2_with fail
                  refine (itoa_any ln (by omega) wc ((HPW.out.ext HE1.out).ext HP5.out.ext)).mono ?_
                  rintro e w5 ⟨rfl, hE5⟩
                  have HP6 := Lib.hid (HP5.out.later hE5)
                  clear hE5
                  go_wp2_with fail
                  obtain ⟨Z, hZ⟩ : ∃ Z : ByteArray, ((⟨#[108, 105, 102, 101, 32]⟩ ++ bA (Lib.decDigits ln)) ++ ⟨#[59, 32]⟩ : ByteArray) = Z := ⟨_, rfl⟩
                  have HZ1 : Hid (Z.data.toList = lifeR r) := Lib.hid (by
                    rw [← hZ]; unfold lifeR
                    rw [if_pos HAL.out, decS, HLN.out, Int.toNat_natCast]
                    simp [bA])
                  have HZ2 : Hid (Z.size ≤ 30) := Lib.hid (by rw [← hZ]; simp only [ByteArray.size_append]; have : (⟨#[108, 105, 102, 101, 32]⟩ : ByteArray).size = 5 := rfl; have : (⟨#[59, 32]⟩ : ByteArray).size = 2 := rfl; omega)
                  have HKL2 := Lib.hid (key_len r HSM.out.1).1
                  rw [hZ]
                  clear hZ
                  refine (write_any Z HP6.out (by have := HZ2.out; have := HHL.out; have := HKL2.out; rw [List.length_append]; omega)).mono ?_
                  rintro e w6 ⟨rfl, h2⟩
                  rw [HZ1.out] at h2
                  have HP7 := Lib.hid h2
                  clear h2
                  go_wp2_with fail
                  go_meet
                  exact HP7.out
              case rest =>
                have HP6 := Lib.hid hcut
                have hmo : 0 ≤ r.most ∧ 0 ≤ r.window ∧ r.most ≤ 1000 ∧ r.window ≤ 1099511627776 := by
                  cases hal : r.allow
                  · obtain ⟨_, _, h3, h4⟩ := lim_none HQ5.out hal; omega
                  · obtain ⟨_, _, _, h3, h4, h5, h6⟩ := lim_parts HQ5.out hal
                    by_cases hm : 0 < r.most
                    · have := h5 hm; omega
                    · have := h6 hm; omega
                obtain ⟨mn, hmn⟩ := Int.eq_ofNat_of_zero_le hmo.1
                obtain ⟨pn, hpn⟩ := Int.eq_ofNat_of_zero_le hmo.2.1
                have hmz : mn ≤ 1000 := by omega
                have hpz : pn ≤ 1099511627776 := by omega
                have x5 := hcut.box.c5; have x6 := hcut.box.c6
                rw [hmn] at x5
                rw [hpn] at x6
                have HMN := Lib.hid hmn; have HPN := Lib.hid hpn
                have HTT : Hid ((((textL (l.take k) ++ headR r) ++ keyR r) ++ lifeR r).length ≤ 22100) := Lib.hid (by
                  have := (key_len r HSM.out.1).1; have := (life_len r HSM.out.2.1).1; have := HHL.out
                  rw [List.length_append, List.length_append]; omega)
                clear hcut x1 HP5 hmo hmn hpn
                go_upto_if 55 with (fail)
                go_cut [56] (fun _ wx => PrI B w1 wx xb r pa pc ((((textL (l.take k) ++ headR r) ++ keyR r) ++ lifeR r) ++ mostR r))
                case first =>
                  by_cases hm0 : 0 < mn
                  · have t1 : decide ((0 : Int) < (mn : Int)) = true := by simp; omega
                    have hd := dec_len (mn : Int) (by omega)
                    rw [decS, Int.toNat_natCast] at hd
                    have hmd : (bA (Lib.decDigits mn)).size ≤ 20 := by rw [Lib.size_eq]; exact hd.1
                    have hd2 := dec_len (pn : Int) (by omega)
                    rw [decS, Int.toNat_natCast] at hd2
                    have hpd : (bA (Lib.decDigits pn)).size ≤ 20 := by rw [Lib.size_eq]; exact hd2.1
                    have hmd' : (Lib.decDigits mn).length ≤ 20 := hd.1
                    have hpd' : (Lib.decDigits pn).length ≤ 20 := hd2.1
                    clear hd hd2
                    go_wp2_with fail
                    have HP7 := Lib.hid (HP6.out.later (ext_drewR (Below.refl _ _)))
                    have z5 := HP7.out.box.c5; have z6 := HP7.out.box.c6
                    rw [HMN.out] at z5
                    rw [HPN.out] at z6
                    have HI1 : Hid (∀ w', Ext wc.drew w' → Calls Tryz.prog 29 #[.int .i64 mn] w' (Ret (.string (bA (Lib.decDigits mn))) w')) := Lib.hid fun w' hE => itoa_any mn (by omega) w' ((HPW.out.ext HE1.out).ext (ext_trans HP7.out.ext hE))
                    have HI2 : Hid (∀ w', Ext wc.drew w' → Calls Tryz.prog 29 #[.int .i64 pn] w' (Ret (.string (bA (Lib.decDigits pn))) w')) := Lib.hid fun w' hE => itoa_any pn (by omega) w' ((HPW.out.ext HE1.out).ext (ext_trans HP7.out.ext hE))
                    refine wp_region_T 10 11 (by kernel_rfl) (by kernel_rfl) (by kernel_rfl) (by kernel_rfl) (by kernel_rfl) (by kernel_rfl) (by kernel_rfl) rfl (by kernel_rfl) (fun w' => Ext wc.drew w') (fun w' => PrI B w1 w' xb r pa pc ((((textL (l.take k) ++ headR r) ++ keyR r) ++ lifeR r) ++ mostR r)) (Below.refl _ _) ?_
                    simp only [List.take_succ_cons, List.take_zero]
                    iterate 5
                      first
                      | (refine steps_and rfl rfl rfl rfl ?_; simp only [Act.put, List.setIfInBounds_toArray, List.set_cons_succ, List.set_cons_zero])
                      | (refine steps_or rfl rfl rfl rfl ?_; simp only [Act.put, List.setIfInBounds_toArray, List.set_cons_succ, List.set_cons_zero])
                      | (refine steps_skip rfl ?_; simp only [Act.put, List.setIfInBounds_toArray, List.set_cons_succ, List.set_cons_zero])
                      | (refine steps_guard_and rfl rfl rfl rfl rfl ?_; simp only [Act.put, List.setIfInBounds_toArray, List.set_cons_succ, List.set_cons_zero])
                      | (refine steps_guard_or rfl rfl rfl rfl rfl ?_; simp only [Act.put, List.setIfInBounds_toArray, List.set_cons_succ, List.set_cons_zero])
                      | (refine steps_guard (v := ?_) rfl rfl (fun hb w' hS => ?_) ?_; rotate_left; (focus (have k5 := ext_cell z5 hS; have k6 := ext_cell z6 hS; unfold Gives; go_simp; first | exact is_mk hS | (go_at_call 29; refine (HI1.out _ hS).mono ?_; rintro e w'' ⟨rfl, h2⟩; exact gave_mk (ext_trans hS h2)) | (rw [if_neg (show ¬ _ from by omega)]; exact is_mk hS))); simp only [Act.put, List.setIfInBounds_toArray, List.set_cons_succ, List.set_cons_zero])
                      | (refine steps_guard2 (v := ?_) rfl rfl rfl (fun hb1 hb w' hS => ?_) ?_; rotate_left; (focus (have k5 := ext_cell z5 hS; have k6 := ext_cell z6 hS; unfold Gives; go_simp; first | exact is_mk hS | (go_at_call 29; refine (HI1.out _ hS).mono ?_; rintro e w'' ⟨rfl, h2⟩; exact gave_mk (ext_trans hS h2)) | (rw [if_neg (show ¬ _ from by omega)]; exact is_mk hS))); simp only [Act.put, List.setIfInBounds_toArray, List.set_cons_succ, List.set_cons_zero])
                      | (refine steps_run (v := ?_) rfl (fun w' hS => ?_) ?_; rotate_left; (focus (have k5 := ext_cell z5 hS; have k6 := ext_cell z6 hS; unfold Gives; go_simp; first | exact is_mk hS | (go_at_call 29; refine (HI1.out _ hS).mono ?_; rintro e w'' ⟨rfl, h2⟩; exact gave_mk (ext_trans hS h2)) | (rw [if_neg (show ¬ _ from by omega)]; exact is_mk hS))); simp only [Act.put, List.setIfInBounds_toArray, List.set_cons_succ, List.set_cons_zero])
                    iterate 5
                      first
                      | (refine steps_and rfl rfl rfl rfl ?_; simp only [Act.put, List.setIfInBounds_toArray, List.set_cons_succ, List.set_cons_zero])
                      | (refine steps_or rfl rfl rfl rfl ?_; simp only [Act.put, List.setIfInBounds_toArray, List.set_cons_succ, List.set_cons_zero])
                      | (refine steps_skip rfl ?_; simp only [Act.put, List.setIfInBounds_toArray, List.set_cons_succ, List.set_cons_zero])
                      | (refine steps_guard_and rfl rfl rfl rfl rfl ?_; simp only [Act.put, List.setIfInBounds_toArray, List.set_cons_succ, List.set_cons_zero])
                      | (refine steps_guard_or rfl rfl rfl rfl rfl ?_; simp only [Act.put, List.setIfInBounds_toArray, List.set_cons_succ, List.set_cons_zero])
                      | (refine steps_guard (v := ?_) rfl rfl (fun hb w' hS => ?_) ?_; rotate_left; (focus (have k5 := ext_cell z5 hS; have k6 := ext_cell z6 hS; unfold Gives; go_simp; first | exact is_mk hS | (go_at_call 29; refine (HI2.out _ hS).mono ?_; rintro e w'' ⟨rfl, h2⟩; exact gave_mk (ext_trans hS h2)) | (rw [if_neg (show ¬ _ from by omega)]; exact is_mk hS))); simp only [Act.put, List.setIfInBounds_toArray, List.set_cons_succ, List.set_cons_zero])
                      | (refine steps_guard2 (v := ?_) rfl rfl rfl (fun hb1 hb w' hS => ?_) ?_; rotate_left; (focus (have k5 := ext_cell z5 hS; have k6 := ext_cell z6 hS; unfold Gives; go_simp; first | exact is_mk hS | (go_at_call 29; refine (HI2.out _ hS).mono ?_; rintro e w'' ⟨rfl, h2⟩; exact gave_mk (ext_trans hS h2)) | (rw [if_neg (show ¬ _ from by omega)]; exact is_mk hS))); simp only [Act.put, List.setIfInBounds_toArray, List.set_cons_succ, List.set_cons_zero])
                      | (refine steps_run (v := ?_) rfl (fun w' hS => ?_) ?_; rotate_left; (focus (have k5 := ext_cell z5 hS; have k6 := ext_cell z6 hS; unfold Gives; go_simp; first | exact is_mk hS | (go_at_call 29; refine (HI2.out _ hS).mono ?_; rintro e w'' ⟨rfl, h2⟩; exact gave_mk (ext_trans hS h2)) | (rw [if_neg (show ¬ _ from by omega)]; exact is_mk hS))); simp only [Act.put, List.setIfInBounds_toArray, List.set_cons_succ, List.set_cons_zero])
                    obtain ⟨Z, hZ⟩ : ∃ Z : ByteArray, ((((⟨#[109, 111, 115, 116, 32]⟩ ++ bA (Lib.decDigits mn)) ++ ⟨#[32, 112, 101, 114, 32]⟩) ++ bA (Lib.decDigits pn)) ++ ⟨#[59, 32]⟩ : ByteArray) = Z := ⟨_, rfl⟩
                    have HZ1 : Hid (Z.data.toList = mostR r) := Lib.hid (by
                      rw [← hZ]; unfold mostR
                      rw [if_pos (by rw [HMN.out]; omega), decS, decS, HMN.out, HPN.out, Int.toNat_natCast, Int.toNat_natCast]
                      simp [bA])
                    have HZ2 : Hid (Z.size ≤ 60) := Lib.hid (by rw [← hZ]; simp only [ByteArray.size_append]; have : (⟨#[109, 111, 115, 116, 32]⟩ : ByteArray).size = 5 := rfl; have : (⟨#[32, 112, 101, 114, 32]⟩ : ByteArray).size = 5 := rfl; have : (⟨#[59, 32]⟩ : ByteArray).size = 2 := rfl; omega)
                    rw [hZ]
                    clear hZ
                    refine last_mk (v := .tuple #[.int .i64 (Z.size : Int), .nilIface]) (some 66) rfl rfl rfl (fun w' hS => ?_) (fun w' hS => ?_)
                    · unfold Gives
                      go_simp
                      refine (write_any Z (HP7.out.later hS) (by have := HZ2.out; have := HTT.out; omega)).mono ?_
                      rintro e w'' ⟨rfl, h2⟩
                      rw [HZ1.out] at h2
                      simp only [List.append_assoc] at h2
                      exact gave_mk h2
                    · simp only [Act.put, List.setIfInBounds_toArray, List.set_cons_succ, List.set_cons_zero]
                      rename_i J K' hJ hK _
                      refine hK _ _ (Met.intro (hJ _ _ ?_))
                      (repeat apply Exists.intro)
                      exact ⟨hS, rfl⟩
                  · have t1 : decide ((0 : Int) < (mn : Int)) = false := by simp; omega
                    have HZ : Hid (mostR r = []) := Lib.hid (by unfold mostR; rw [if_neg (by rw [HMN.out]; omega)])
                    go_wp2_with fail
                    go_meet
                    rw [HZ.out, List.append_nil]
                    exact HP6.out
                case rest =>
                  have HP7 := Lib.hid hcut
                  clear hcut x5 x6
                  go_wp2_with fail
                  refine (write_any ⟨#[125, 10]⟩ HP7.out (by
                    have h1 := (most_len r HSM.out.2.2.1 HSM.out.2.2.2).1; have h2 := HTT.out
                    have h3 : (⟨#[125, 10]⟩ : ByteArray).size = 2 := rfl
                    rw [List.length_append, h3]; omega)).mono ?_
                  rintro e w8 ⟨rfl, h2⟩
                  have HP8 := Lib.hid h2
                  clear h2
                  go_wp2_with fail
                  go_roundw
                  case rel =>
                    refine ⟨k + 1, by omega, by go_num, ?_, HP8.out.ext⟩
                    have h9 := HP8.out.buf
                    have he : textL (l.take (k + 1)) = ((((textL (l.take k) ++ headR r) ++ keyR r) ++ lifeR r) ++ mostR r) ++ [125, 10] := by
                      rw [List.take_add_one, HR.out]
                      simp [textL, textR, bodyR, List.flatMap_append]
                    rw [he]; exact h9
                  case measure => simp [intOf]; omega
      · obtain rfl : k = n := by omega
        go_wp2_with fail
        refine (Tryz.Buffer_Bytes B B _ wr HBU.out).mono ?_
        rintro e w2 ⟨v, rfl, hown, q, rfl⟩
        have hbz := (Lib.byteCells_length (textL (l.take k)))
        rw [List.take_of_length_le (by rw [HN.out]; exact Nat.le_refl _)] at hown hbz
        have HOW := Lib.hid hown
        clear hown
        go_wp2_with fail
        go_ret2
        have hE : Ext w (wr.drewN q) := ext_drewN (ext_trans HE1.out HER.out) q
        refine ⟨_, rfl, hE, fun h => absurd rfl h, fun _ => ?_⟩
        have hfl : (textL l).flatMap (fun c : UInt8 => [Value.int .u8 (c.toNat : Int)]) = Lib.byteCells (textL l) := by
          unfold Lib.byteCells
          induction textL l with
          | nil => rfl
          | cons x t ih => rw [List.flatMap_cons, ih]; rfl
        have := own_slv (cells := fun c : UInt8 => [Value.int .u8 (c.toNat : Int)]) (R := U8At) (l := textL l) (fun _ => rfl) (fun b o x hx hc => hc 0 _ rfl) hbz.symm (by rw [hfl]; exact HOW.out)
        obtain ⟨a', c', hv, h1, h2, h3⟩ := this
        exact ⟨a', c', hv, h1, h2, h3⟩
  · have hx0 : (x != 0) = true := by simpa using h0
    go_enter Tryz.func16, Tryz.ntmps16
    go_wp2_with fail
    refine HC.out.mono ?_
    rintro e w1 ⟨rfl, hE⟩
    have HE1 := Lib.hid hE
    clear hE
    go_wp2_with fail
    go_ret2
    exact ⟨_, rfl, HE1.out, fun _ => rfl, fun h => absurd h h0⟩
end Go.Proofs.YteemkkmkkgfofaaGreatDoor
