/- Walk of the reader of rules: next. -/
import Derived.Test.YteemkkmkkgfofaaGreatDoorM12
import Derived.Deep.CutBlock
import Derived.Deep.DeepCutAuto
import Derived.Deep.RegionHeld3
import Derived.Shelf.Bytes.SlTrim
import Derived.Lib.SlBytesRow
namespace Go.Proofs.YteemkkmkkgfofaaGreatDoor
open Go.RowKit Nam Pol Go.Maps Go.Shelf
attribute [local go_sem] gv_of

/-- The reader stands at the tokens T of the bytes s. -/
structure Rd (w : World) (rb : Nat) (ba : Option Addr) (n bc : Nat) (s : Str) (T : List Tok) : Prop where
  blk : RdB w rb ba n bc (hdP T) (hdT T)
  le : hdP T + (hdT T).size ≤ n
  lex : Lex (s.drop (hdP T + (hdT T).size)) (hdP T + (hdT T).size) (tlT T)
  toks : Toks T
/-- The bytes at hand are behind blanks. -/
def Stops (s : Str) (n j : Nat) : Prop := j = n ∨ ∃ c, s[j]? = some c ∧ c ≠ 32 ∧ c ≠ 10 ∧ c ≠ 35
theorem Byts.fr {S : Nat → Prop} {w w' : World} {ba : Option Addr} {s : Str} (h : Byts w ba s) (hF : Fr S w w') (hS : ∀ p, ba = some p → s ≠ [] → ¬ S p.block) : Byts w' ba s := fun i x hx => by
  obtain ⟨b, o, hb, hc⟩ := h i x hx
  refine ⟨b, o, hb, ?_⟩
  have hlt := cell_lt hc
  unfold U8At at hc ⊢
  rw [← hc]
  unfold World.cell?
  rw [hF.block b hlt (hS _ hb (by rintro rfl; simp at hx))]
theorem wp_cut {P : Program} {c : Code} {Q : Exit → Act → World → Prop} {a : Act} {w : World} (F : Act → Act → World → Prop) (h : ∀ K : Act → World → Prop, (∀ a' w', F a a' w' → K a' w') → c.wp P (Exit.then K Q) a w) (hk : ∀ a' w', F a a' w' → Q Exit.normal a' w') : c.wp P Q a w :=
  Code.wp_mono (fun e a' w' h => by cases e <;> exact h) (h (fun a w => Q .normal a w) hk)
theorem wrap_add {i m : Nat} (h : i + m ≤ 9223372036854775807) : IntKind.i64.wrap ((i : Int) + (m : Int)) = ((i + m : Nat) : Int) := by
  unfold IntKind.wrap
  simp [IntKind.signed, IntKind.bits]
  omega
theorem wrap_one {j : Nat} (h : j + 1 ≤ 9223372036854775807) : IntKind.i64.wrap ((j : Int) + 1) = ((j + 1 : Nat) : Int) := wrap_add (m := 1) h
theorem u8_eq {c : UInt8} {k : Nat} (h : ((c.toNat : Int) == (k : Int)) = true) : c = UInt8.ofNat k := by
  have h2 : (c.toNat : Int) = k := by simpa using h
  have h3 : c.toNat = k := by omega
  rw [← h3]; simp
theorem u8_ne {c : UInt8} {k : Nat} (hk : k < 256) (h : ((c.toNat : Int) == (k : Int)) = false) : c ≠ UInt8.ofNat k := by
  rintro rfl
  rw [UInt8.toNat_ofNat', Nat.mod_eq_of_lt (show k < 2 ^ 8 from hk)] at h
  simp at h
theorem index_note : ∀ {u v : Str}, (∀ c ∈ u, c ≠ 10) → (v = [] ∨ v.head? = some 10) → Lib.indexByte (u ++ v) 10 = if v = [] then -1 else (u.length : Int)
  | [], v, _, hv => by
    rcases hv with rfl | hv
    · rfl
    · cases v with
      | nil => cases hv
      | cons x v =>
        simp at hv
        subst hv
        rfl
  | x :: u, v, hu, hv => by
    have ih := index_note (u := u) (fun c hc => hu c (List.mem_cons_of_mem _ hc)) hv
    have hx : (x == 10) = false := by simpa using hu x (by simp)
    rw [List.cons_append, Lib.indexByte, hx, ih]
    by_cases h : v = []
    · simp [h]
    · rw [if_neg h, if_neg h]
      have : (((u.length : Nat) : Int) == -1) = false := by simp
      simp [this]
theorem Byts.drop {w : World} {b o : Nat} {s : Str} (h : Byts w (some ⟨b, o, none⟩) s) (j : Nat) : Byts w (some ⟨b, o + j, none⟩) (s.drop j) := fun i x hx => by
  rw [List.getElem?_drop] at hx
  obtain ⟨b', o', hb, h'⟩ := h (j + i) x hx
  cases hb
  exact ⟨_, _, rfl, by rwa [show o + j + i * 1 = o + (j + i) * 1 by omega]⟩
theorem addr_add (b o j : Nat) : ((⟨b, o, none⟩ : Addr).add j) = ⟨b, o + j, none⟩ := by unfold Addr.add; split <;> simp_all
theorem bytesOf_map (l : Str) : Lib.bytesOf (l.map fun c => (c.toNat : Int)) = l := by
  unfold Lib.bytesOf
  rw [List.map_map]
  conv => rhs; rw [← List.map_id l]
  apply List.map_congr_left
  intro c _
  simp
theorem idx_any {l : Str} {b o k cp : Nat} {w : World} {x : Int} (hx : Lib.indexByte l 10 = x) (hl : l.length = k) (hb : Byts w (some ⟨b, o, none⟩) l) :
    Calls Tryz.prog 50 #[.slice (some ⟨b, o, none⟩) k cp, .int .u8 10] w (Ret (.int .i64 x) w) := by
  refine (Tryz.bytes_IndexByte b o k cp (l.map fun c => (c.toNat : Int)) 10 w (by simp [hl]) (fun i hi => ?_)).mono ?_
  · have hil : i < l.length := by omega
    obtain ⟨b', o', hb', h'⟩ := hb i l[i] (List.getElem?_eq_getElem hil)
    cases hb'
    unfold U8At at h'
    rw [Nat.mul_one] at h'
    rw [h']
    simp [List.getD_eq_getElem?_getD, hil]
  · rintro e w' ⟨rfl, rfl⟩
    rw [bytesOf_map]
    exact ⟨by rw [← hx]; rfl, Below.refl _ _⟩
def atOf (w : World) (rb : Nat) : Nat := match w.cell? ⟨rb, 1, none⟩ with
  | some v => (intOf v).toNat
  | none => 0
theorem RdB.at {w : World} {rb : Nat} {ba : Option Addr} {n bc i : Nat} {t : ByteArray} (h : RdB w rb ba n bc i t) : atOf w rb = i := by
  unfold atOf; rw [h.cells.2.1]; simp [intOf]
theorem drop_get {s : Str} {n j : Nat} (hn : s.length = n) (h : j < n) : ∃ c, s[j]? = some c ∧ s.drop j = c :: s.drop (j + 1) := by
  subst hn
  exact ⟨s[j], List.getElem?_eq_getElem h, List.drop_eq_getElem_cons h⟩
set_option maxRecDepth 100000 in
theorem words_in (c : UInt8) : ([97, 98, 99, 100, 101, 102, 103, 104, 105, 106, 107, 108, 109, 110, 111, 112, 113, 114, 115, 116, 117, 118, 119, 120, 121, 122, 48, 49, 50, 51, 52, 53, 54, 55, 56, 57, 45, 42, 46, 95] : List UInt8).contains c = wordyB c := by
  have h : ∀ k : Fin 256, ([97, 98, 99, 100, 101, 102, 103, 104, 105, 106, 107, 108, 109, 110, 111, 112, 113, 114, 115, 116, 117, 118, 119, 120, 121, 122, 48, 49, 50, 51, 52, 53, 54, 55, 56, 57, 45, 42, 46, 95] : List UInt8).contains (UInt8.ofNat k.1) = wordyB (UInt8.ofNat k.1) := by decide
  have := h ⟨c.toNat, c.toNat_lt⟩
  simpa using this
theorem trim_any {l : Str} {p : Option Addr} {k cp : Nat} {w : World} (hl : l.length = k) (hkc : k ≤ cp) (hcp : cp ≤ maxLen) (hb : Byts w p l) :
    Calls Tryz.prog 51 #[.slice p k cp, .string ⟨#[97, 98, 99, 100, 101, 102, 103, 104, 105, 106, 107, 108, 109, 110, 111, 112, 113, 114, 115, 116, 117, 118, 119, 120, 121, 122, 48, 49, 50, 51, 52, 53, 54, 55, 56, 57, 45, 42, 46, 95]⟩] w (fun e w' => ∃ q m c', e = .returned (.slice q m c') ∧ m = (l.dropWhile wordyB).length ∧ Ext w w') := by
  refine (Any.bytes_TrimLeft_laid Tryz.laysV8 (by kernel_rfl) p k cp (l.map fun c => (c.toNat : Int)) ⟨#[97, 98, 99, 100, 101, 102, 103, 104, 105, 106, 107, 108, 109, 110, 111, 112, 113, 114, 115, 116, 117, 118, 119, 120, 121, 122, 48, 49, 50, 51, 52, 53, 54, 55, 56, 57, 45, 42, 46, 95]⟩ w (by simp [hl]) hkc hcp (fun hk => ?_) ?_ (by decide) (ascii_of_all (by decide))).mono ?_
  · obtain ⟨b, o, rfl, _⟩ := hb 0 (l[0]'(by omega)) (List.getElem?_eq_getElem _)
    refine ⟨b, o, rfl, fun i hi => ?_⟩
    have hil : i < l.length := by omega
    obtain ⟨b', o', hb', h'⟩ := hb i l[i] (List.getElem?_eq_getElem hil)
    cases hb'
    unfold U8At at h'
    rw [Nat.mul_one] at h'
    rw [h']
    simp [List.getD_eq_getElem?_getD, hil]
  · intro x hx
    obtain ⟨c, _, rfl⟩ := List.mem_map.1 hx
    have := c.toNat_lt
    omega
  · rintro e w' ⟨rfl, hE⟩
    rw [bytesOf_map]
    have hd : Lib.trimLeftS l (⟨#[97, 98, 99, 100, 101, 102, 103, 104, 105, 106, 107, 108, 109, 110, 111, 112, 113, 114, 115, 116, 117, 118, 119, 120, 121, 122, 48, 49, 50, 51, 52, 53, 54, 55, 56, 57, 45, 42, 46, 95]⟩ : ByteArray).data.toList = l.dropWhile wordyB := by
      unfold Lib.trimLeftS
      congr 1
      funext c
      exact words_in c
    rw [hd]
    have hle : (l.dropWhile wordyB).length ≤ k := by rw [← hl]; exact (List.dropWhile_sublist _).length_le
    unfold Lib.leftV
    split
    · next h => exact ⟨none, 0, 0, rfl, by omega, hE⟩
    · exact ⟨_, _, _, rfl, by omega, hE⟩
theorem Rd.token {w : World} {rb : Nat} {ba : Option Addr} {n bc j : Nat} {s u v : Str} {t : ByteArray} {T T' : List Tok} (hb : RdB w rb ba n bc j t) (hn : s.length = n) (hj : j ≤ n) (hL : Lex (s.drop j) j T) (hu : s.drop j = u ++ v) (hT : T = (bA u, j) :: T') (hv : Lex v (j + u.length) T') :
    Rd (w.setCell ⟨rb, 2, none⟩ (.string (bA u))) rb ba n bc s T := by
  subst hT
  have hsz : (bA u).size = u.length := by simp [ByteArray.size]
  have hl : (s.drop j).length = n - j := by rw [List.length_drop, hn]
  rw [hu, List.length_append] at hl
  refine ⟨hb.set2 _, by show j + (bA u).size ≤ n; rw [hsz]; omega, ?_, hL.toks⟩
  show Lex (s.drop (j + (bA u).size)) (j + (bA u).size) (tlT ((bA u, j) :: T'))
  rw [hsz, ← List.drop_drop, hu, List.drop_append_of_le_length (Nat.le_refl _), List.drop_length, List.nil_append]
  cases T' with
  | nil => exact absurd rfl hv.toks.ne
  | cons a T' => exact hv
theorem Rd.done {w : World} {rb : Nat} {ba : Option Addr} {n bc : Nat} {s : Str} {t : ByteArray} {T : List Tok} (hb : RdB w rb ba n bc n t) (hn : s.length = n) (hL : Lex (s.drop n) n T) : Rd (w.setCell ⟨rb, 2, none⟩ (.string (bA []))) rb ba n bc s T := by
  rw [List.drop_eq_nil_of_le (by omega)] at hL
  have hT := hL.nil
  subst hT
  refine ⟨hb.set2 _, Nat.le_refl _, ?_, hL.toks⟩
  show Lex (s.drop (n + 0)) (n + 0) [(bA [], n)]
  rw [Nat.add_zero, List.drop_eq_nil_of_le (by omega)]
  exact .done n
theorem take_while_len {u v : Str} (hv : ∀ c, v.head? = some c → wordyB c = false) (hu : ∀ c ∈ u, wordyB c = true) : ((u ++ v).dropWhile wordyB) = v := by
  rw [List.dropWhile_append_of_pos hu]
  cases v with
  | nil => rfl
  | cons x v => rw [List.dropWhile_cons_of_neg (by simp [hv x rfl])]
theorem conv_any {w : World} {b o k cp : Nat} {u : Str} (hu : u.length = k) (h : Byts w (some ⟨b, o, none⟩) u) : (convert 28 9 (.slice (some ⟨b, o, none⟩) k cp)).run Tryz.prog w = .ok (.string (bA u)) w := by
  have hsz : (bA u).size = k := by simp [ByteArray.size, hu]
  have := Lib.run_convert_whole (P := Tryz.prog) w 28 5 9 Tryz.underlying28 Tryz.underlying5 Tryz.underlying9 b o (bA u) (fun i hi => by
    have hil : i < u.length := by omega
    obtain ⟨b', o', hb, h'⟩ := h i u[i] (List.getElem?_eq_getElem hil)
    cases hb
    unfold U8At at h'
    rw [Nat.mul_one] at h'
    rw [h']; rfl) cp
  rw [hsz] at this
  exact this
set_option maxRecDepth 100000 in
set_option maxHeartbeats 4000000 in
theorem next_any (s : Str) (rb : Nat) (ba : Option Addr) (n bc i : Nat) (t : ByteArray) (T : List Tok) (w : World) (hn : s.length = n) (hnc : n ≤ bc) (hcm : bc ≤ maxLen) (hb : RdB w rb ba n bc i t) (hs : Byts w ba s)
    (hi : i + t.size ≤ n) (hL : Lex (s.drop (i + t.size)) (i + t.size) T) (hne : ∀ p, ba = some p → s ≠ [] → p.block ≠ rb) :
    Calls Tryz.prog 33 #[.pointer (some ⟨rb, 0, none⟩)] w (fun e w' => e = .returned (.tuple #[]) ∧ Fr (· = rb) w w' ∧ Rd w' rb ba n bc s T) := by
  obtain ⟨c0, c1, c2⟩ := hb.cells
  have f1 := hb.frozen 1
  obtain ⟨m, hm⟩ : ∃ m, t.size = m := ⟨_, rfl⟩
  have HN := Lib.hid hn; have HNC := Lib.hid hnc; have HCM := Lib.hid hcm; have HB := Lib.hid hb; have HS := Lib.hid hs; have HI := Lib.hid hi; have HL := Lib.hid hL; have HNE := Lib.hid hne; have HM := Lib.hid hm
  rw [hm] at hi
  unfold maxLen at hcm
  clear hn hb hs hL hne
  go_enter Tryz.func33, Tryz.ntmps33
  go_wp2_with fail
  refine wp_cut (fun a a' w' => a' = ((((((((((((a.put (some 5) (.pointer (some ⟨rb, 0, none⟩))).put (some 6) (.pointer (some ⟨rb, 0, none⟩))).put (some 7) (.pointer (some ⟨rb, 1, none⟩))).put (some 8) (.int .i64 i)).put (some 9) (.pointer (some ⟨rb, 0, none⟩))).put (some 10) (.pointer (some ⟨rb, 0, none⟩))).put (some 11) (.pointer (some ⟨rb, 2, none⟩))).put (some 12) (.string t)).put (some 13) (.int .i64 m)).put (some 14) (.int .i64 (i + m : Nat))).put (some 15) (.pointer (some ⟨rb, 0, none⟩))).put (some 16) (.pointer (some ⟨rb, 1, none⟩))) ∧ RdB w' rb ba n bc (i + m) t ∧ Fr (· = rb) w w') ?_ ?_
  · intro K hK
    go_region_with (fail)
    all_goals
      refine hK _ _ ⟨?_, ?_, ?_⟩
      · simp only [Act.put, List.setIfInBounds_toArray, List.set_cons_succ, List.set_cons_zero]
        rw [wrap_add (by omega)]
      · rw [wrap_add (by omega)]
        exact HB.out.set1 (i + m)
      · exact (Fr.setCell (S := fun b => b = rb) w ⟨rb, 1, none⟩ _ rfl).trans (Fr.drew _ _)
  · rintro a' w1 ⟨rfl, hb1, hF1⟩
    simp only [Act.put, List.setIfInBounds_toArray, List.set_cons_succ, List.set_cons_zero]
    have HB1 := Lib.hid hb1; have HF1 := Lib.hid hF1
    clear hb1 hF1 c0 c1 c2 f1
    go_upto_block 0 with (fail)
    go_cut [0, 2] (fun r _ wx => r = .pointer (some ⟨rb, 0, none⟩) ∧ ∃ j : Nat, j ≤ n ∧ RdB wx rb ba n bc j t ∧ Fr (· = rb) w wx ∧ Lex (s.drop j) j T ∧ Stops s n j)
    case first =>
      go_wp2_with fail
      go_loopw [2] (fun _ wr => ∃ j : Nat, j ≤ n ∧ RdB wr rb ba n bc j t ∧ Fr (· = rb) w wr ∧ Lex (s.drop j) j T) (fun _ wr => n - atOf wr rb)
      case atStart => exact ⟨i + m, hi, HB1.out, HF1.out, by rw [← HM.out]; exact HL.out⟩
      case round =>
        obtain ⟨j, hj, hb, hF, hLj⟩ := hrel
        obtain ⟨c0, c1, c2⟩ := hb.cells
        have HBJ := Lib.hid hb; have HFJ := Lib.hid hF; have HLJ := Lib.hid hLj
        clear hb hF hLj
        go_wp2_with fail
        refine wp_region_S (by kernel_rfl) (by kernel_rfl) (by kernel_rfl) (by kernel_rfl) (by kernel_rfl) (fun w' => Ext wr w') ((Fr.drew (fun _ => False) _).ext (fun _ _ h => h)) ?_
        repeat
          first
          | (refine steps_and rfl rfl rfl rfl ?_; simp only [Act.put, List.setIfInBounds_toArray, List.set_cons_succ, List.set_cons_zero])
          | (refine steps_or rfl rfl rfl rfl ?_; simp only [Act.put, List.setIfInBounds_toArray, List.set_cons_succ, List.set_cons_zero])
          | (refine steps_skip rfl ?_; simp only [Act.put, List.setIfInBounds_toArray, List.set_cons_succ, List.set_cons_zero])
          | (refine steps_guard_and rfl rfl rfl rfl rfl ?_; simp only [Act.put, List.setIfInBounds_toArray, List.set_cons_succ, List.set_cons_zero])
          | (refine steps_guard (v := ?_) rfl rfl (fun hb w' hS => ?_) ?_; rotate_left; (focus (have k0 := ext_cell c0 hS; have k1 := ext_cell c1 hS; unfold Gives; go_simp; first | exact is_mk hS)); simp only [Act.put, List.setIfInBounds_toArray, List.set_cons_succ, List.set_cons_zero])
          | (refine steps_guard2 (v := ?_) rfl rfl rfl (fun hb1 hb w' hS => ?_) ?_; rotate_left; (focus (have k0 := ext_cell c0 hS; have k1 := ext_cell c1 hS; unfold Gives; go_simp; first | exact is_mk hS)); simp only [Act.put, List.setIfInBounds_toArray, List.set_cons_succ, List.set_cons_zero])
          | (refine steps_run (v := ?_) rfl (fun w' hS => ?_) ?_; rotate_left; (focus (have k0 := ext_cell c0 hS; have k1 := ext_cell c1 hS; unfold Gives; go_simp; first | exact is_mk hS)); simp only [Act.put, List.setIfInBounds_toArray, List.set_cons_succ, List.set_cons_zero])
        refine steps_end fun wa hEa => ?_
        have HBA := Lib.hid (HBJ.out.ext hEa); have HFA := Lib.hid (HFJ.out.trans (Fr.of_ext hEa))
        clear c0 c1 c2
        obtain ⟨c0, c1, c2⟩ := HBA.out.cells
        by_cases hlt : j < n
        · obtain ⟨c, hc1, hc2⟩ := drop_get HN.out hlt
          obtain ⟨bb, bo, rfl, hcell⟩ := (HS.out.fr HFA.out (fun p hp hs => HNE.out p hp hs)) j c hc1
          unfold U8At at hcell
          rw [Nat.mul_one] at hcell
          have HC1 := Lib.hid hc1; have HC2 := Lib.hid hc2
          have hjb : j < bc := by omega
          clear hc1 hc2 hEa
          go_wp2_with fail
          refine wp_region_S (by kernel_rfl) (by kernel_rfl) (by kernel_rfl) (by kernel_rfl) (by kernel_rfl) (fun w' => Ext wa w') ((Fr.drew (fun _ => False) _).ext (fun _ _ h => h)) ?_
          repeat
            first
            | (refine steps_and rfl rfl rfl rfl ?_; simp only [Act.put, List.setIfInBounds_toArray, List.set_cons_succ, List.set_cons_zero])
            | (refine steps_or rfl rfl rfl rfl ?_; simp only [Act.put, List.setIfInBounds_toArray, List.set_cons_succ, List.set_cons_zero])
            | (refine steps_skip rfl ?_; simp only [Act.put, List.setIfInBounds_toArray, List.set_cons_succ, List.set_cons_zero])
            | (refine steps_guard_and rfl rfl rfl rfl rfl ?_; simp only [Act.put, List.setIfInBounds_toArray, List.set_cons_succ, List.set_cons_zero])
            | (refine steps_guard (v := ?_) rfl rfl (fun hb w' hS => ?_) ?_; rotate_left; (focus (have k0 := ext_cell c0 hS; have k1 := ext_cell c1 hS; have k2 := ext_cell hcell hS; unfold Gives; go_simp; first | exact is_mk hS)); simp only [Act.put, List.setIfInBounds_toArray, List.set_cons_succ, List.set_cons_zero])
            | (refine steps_guard2 (v := ?_) rfl rfl rfl (fun hb1 hb w' hS => ?_) ?_; rotate_left; (focus (have k0 := ext_cell c0 hS; have k1 := ext_cell c1 hS; have k2 := ext_cell hcell hS; unfold Gives; go_simp; first | exact is_mk hS)); simp only [Act.put, List.setIfInBounds_toArray, List.set_cons_succ, List.set_cons_zero])
            | (refine steps_run (v := ?_) rfl (fun w' hS => ?_) ?_; rotate_left; (focus (have k0 := ext_cell c0 hS; have k1 := ext_cell c1 hS; have k2 := ext_cell hcell hS; unfold Gives; go_simp; first | exact is_mk hS)); simp only [Act.put, List.setIfInBounds_toArray, List.set_cons_succ, List.set_cons_zero])
          refine steps_end fun wb hEb => ?_
          have HBB := Lib.hid (HBA.out.ext hEb); have HFB := Lib.hid (HFA.out.trans (Fr.of_ext hEb))
          clear c0 c1 c2 hcell hEb
          obtain ⟨c0, c1, c2⟩ := HBB.out.cells
          have f1 := HBB.out.frozen 1
          cases q1 : ((c.toNat : Int) == 32)
          · cases q2 : ((c.toNat : Int) == 10)
            · cases q3 : ((c.toNat : Int) == 35)
              · -- a token begins
                have HQ : Hid (c ≠ 32 ∧ c ≠ 10 ∧ c ≠ 35) := Lib.hid ⟨u8_ne (k := 32) (by decide) q1, u8_ne (k := 10) (by decide) q2, u8_ne (k := 35) (by decide) q3⟩
                go_wp2_with fail
                go_meet
                exact ⟨rfl, j, hj, HBB.out, HFB.out, HLJ.out, .inr ⟨c, HC1.out, HQ.out⟩⟩
              · have HQ : Hid (c = 35) := Lib.hid (u8_eq (k := 35) q3)
                have hlj := HLJ.out
                rw [HC2.out, HQ.out] at hlj
                obtain ⟨u, v, h1, h2, h3, h4⟩ := hlj.hash
                have hlen : (s.drop (j + 1)).length = n - (j + 1) := by rw [List.length_drop, HN.out]
                rw [h1, List.length_append] at hlen
                have hxi : Lib.indexByte (s.drop j) 10 = if v = [] then -1 else ((1 + u.length : Nat) : Int) := by
                  have hu : ∀ c ∈ (35 : UInt8) :: u, c ≠ 10 := fun c hc => by
                    rcases List.mem_cons.1 hc with h | h
                    · rw [h]; decide
                    · exact h2 c h
                  rw [HC2.out, HQ.out, h1, show (35 : UInt8) :: (u ++ v) = (35 :: u) ++ v from rfl, index_note hu h3]
                  split
                  · rfl
                  · rw [List.length_cons, Nat.add_comm]
                obtain ⟨x, hx⟩ : ∃ x, Lib.indexByte (s.drop j) 10 = x := ⟨_, rfl⟩
                rw [hx] at hxi
                have HX := Lib.hid hx; have HXI := Lib.hid hxi; have HU := Lib.hid h1; have HLEN := Lib.hid hlen; have H4 := Lib.hid h4
                have HDB := Lib.hid ((HS.out.fr HFB.out (fun p hp hs => HNE.out p hp hs)).drop j)
                have hji : (j : Int) ≤ (n : Int) := by omega
                have hbj : ¬ bc = j := by omega
                clear hx hxi hlj h1 h2 h3 h4 hlen
                go_wp2_with fail
                refine wp_region_S (by kernel_rfl) (by kernel_rfl) (by kernel_rfl) (by kernel_rfl) (by kernel_rfl) (fun w' => Ext wb w') ((Fr.drew (fun _ => False) _).ext (fun _ _ h => h)) ?_
                repeat
                  first
                  | (refine steps_and rfl rfl rfl rfl ?_; simp only [Act.put, List.setIfInBounds_toArray, List.set_cons_succ, List.set_cons_zero])
                  | (refine steps_or rfl rfl rfl rfl ?_; simp only [Act.put, List.setIfInBounds_toArray, List.set_cons_succ, List.set_cons_zero])
                  | (refine steps_skip rfl ?_; simp only [Act.put, List.setIfInBounds_toArray, List.set_cons_succ, List.set_cons_zero])
                  | (refine steps_guard_and rfl rfl rfl rfl rfl ?_; simp only [Act.put, List.setIfInBounds_toArray, List.set_cons_succ, List.set_cons_zero])
                  | (refine steps_guard (v := ?_) rfl rfl (fun hb w' hS => ?_) ?_; rotate_left; (focus (have k0 := ext_cell c0 hS; have k1 := ext_cell c1 hS; unfold Gives; go_simp; first | exact is_mk hS | (refine (idx_any HX.out (by rw [List.length_drop, HN.out]) (HDB.out.ext hS)).mono ?_; rintro e w'' ⟨rfl, h2⟩; exact gave_mk (ext_trans hS h2)))); simp only [Act.put, List.setIfInBounds_toArray, List.set_cons_succ, List.set_cons_zero])
                  | (refine steps_guard2 (v := ?_) rfl rfl rfl (fun hb1 hb w' hS => ?_) ?_; rotate_left; (focus (have k0 := ext_cell c0 hS; have k1 := ext_cell c1 hS; unfold Gives; go_simp; first | exact is_mk hS | (refine (idx_any HX.out (by rw [List.length_drop, HN.out]) (HDB.out.ext hS)).mono ?_; rintro e w'' ⟨rfl, h2⟩; exact gave_mk (ext_trans hS h2)))); simp only [Act.put, List.setIfInBounds_toArray, List.set_cons_succ, List.set_cons_zero])
                  | (refine steps_run (v := ?_) rfl (fun w' hS => ?_) ?_; rotate_left; (focus (have k0 := ext_cell c0 hS; have k1 := ext_cell c1 hS; unfold Gives; go_simp; first | exact is_mk hS | (refine (idx_any HX.out (by rw [List.length_drop, HN.out]) (HDB.out.ext hS)).mono ?_; rintro e w'' ⟨rfl, h2⟩; exact gave_mk (ext_trans hS h2)))); simp only [Act.put, List.setIfInBounds_toArray, List.set_cons_succ, List.set_cons_zero])
                refine steps_end fun wd hEd => ?_
                have HBD := Lib.hid (HBB.out.ext hEd); have HFD := Lib.hid (HFB.out.trans (Fr.of_ext hEd))
                clear c0 c1 c2 f1 hEd
                obtain ⟨c0, c1, c2⟩ := HBD.out.cells
                by_cases hv : v = []
                · obtain rfl : x = -1 := by have := HXI.out; rw [if_pos hv] at this; exact this
                  have HV := Lib.hid hv
                  clear hv
                  go_wp2_with fail
                  refine wp_region_S (by kernel_rfl) (by kernel_rfl) (by kernel_rfl) (by kernel_rfl) (by kernel_rfl) (fun w' => Ext wd w') ((Fr.drew (fun _ => False) _).ext (fun _ _ h => h)) ?_
                  repeat
                    first
                    | (refine steps_and rfl rfl rfl rfl ?_; simp only [Act.put, List.setIfInBounds_toArray, List.set_cons_succ, List.set_cons_zero])
                    | (refine steps_or rfl rfl rfl rfl ?_; simp only [Act.put, List.setIfInBounds_toArray, List.set_cons_succ, List.set_cons_zero])
                    | (refine steps_skip rfl ?_; simp only [Act.put, List.setIfInBounds_toArray, List.set_cons_succ, List.set_cons_zero])
                    | (refine steps_guard_and rfl rfl rfl rfl rfl ?_; simp only [Act.put, List.setIfInBounds_toArray, List.set_cons_succ, List.set_cons_zero])
                    | (refine steps_guard (v := ?_) rfl rfl (fun hb w' hS => ?_) ?_; rotate_left; (focus (have k0 := ext_cell c0 hS; have k1 := ext_cell c1 hS; unfold Gives; go_simp; first | exact is_mk hS)); simp only [Act.put, List.setIfInBounds_toArray, List.set_cons_succ, List.set_cons_zero])
                    | (refine steps_guard2 (v := ?_) rfl rfl rfl (fun hb1 hb w' hS => ?_) ?_; rotate_left; (focus (have k0 := ext_cell c0 hS; have k1 := ext_cell c1 hS; unfold Gives; go_simp; first | exact is_mk hS)); simp only [Act.put, List.setIfInBounds_toArray, List.set_cons_succ, List.set_cons_zero])
                    | (refine steps_run (v := ?_) rfl (fun w' hS => ?_) ?_; rotate_left; (focus (have k0 := ext_cell c0 hS; have k1 := ext_cell c1 hS; unfold Gives; go_simp; first | exact is_mk hS)); simp only [Act.put, List.setIfInBounds_toArray, List.set_cons_succ, List.set_cons_zero])
                  refine steps_end fun we hEe => ?_
                  have HBE := Lib.hid (HBD.out.ext hEe); have HFE := Lib.hid (HFD.out.trans (Fr.of_ext hEe))
                  clear c0 c1 c2 hEe
                  obtain ⟨c0, c1, c2⟩ := HBE.out.cells
                  have f1 := HBE.out.frozen 1
                  go_wp2_with fail
                  have hul : u.length = n - (j + 1) := by have := HLEN.out; rw [HV.out] at this; simpa using this
                  have hL4 : Lex (s.drop n) n T := by
                    have := H4.out
                    rw [HV.out, hul, show j + 1 + (n - (j + 1)) = n by omega] at this
                    rw [List.drop_eq_nil_of_le (by rw [HN.out]; exact Nat.le_refl _)]; exact this
                  rw [show ((j : Int) + ((n : Int) - (j : Int))) = ((n : Nat) : Int) by omega]
                  go_roundw
                  case rel => exact ⟨n, Nat.le_refl _, HBE.out.set1 n, HFE.out.trans (Fr.setCell (S := fun b => b = rb) _ ⟨rb, 1, none⟩ _ rfl), hL4⟩
                  case measure => rw [RdB.at (HBE.out.set1 n), HBJ.out.at]; omega
                · obtain rfl : x = ((1 + u.length : Nat) : Int) := by have := HXI.out; rw [if_neg hv] at this; exact this
                  obtain ⟨ul, hul⟩ : ∃ ul, u.length = ul := ⟨_, rfl⟩
                  rw [hul]
                  have hle := HLEN.out
                  rw [hul] at hle
                  have f1 := HBD.out.frozen 1
                  have hju : j + 1 + ul ≤ n := by omega
                  go_wp2_with fail
                  have hL4 : Lex (s.drop (j + 1 + ul)) (j + 1 + ul) T := by
                    have h5 := H4.out
                    rw [hul] at h5
                    rw [← List.drop_drop, HU.out, List.drop_append_of_le_length (by omega), List.drop_eq_nil_of_le (by omega), List.nil_append]; exact h5
                  rw [show ((j : Int) + (1 + (ul : Int))) = ((j + 1 + ul : Nat) : Int) by omega]
                  go_roundw
                  case rel => exact ⟨j + 1 + ul, hju, HBD.out.set1 _, HFD.out.trans (Fr.setCell (S := fun b => b = rb) _ ⟨rb, 1, none⟩ _ rfl), hL4⟩
                  case measure => rw [RdB.at (HBD.out.set1 _), HBJ.out.at]; omega
            · have HQ : Hid (c = 10) := Lib.hid (u8_eq (k := 10) q2)
              go_wp2_with fail
              go_roundw
              case rel => exact ⟨j + 1, by omega, HBB.out.set1 (j + 1), HFB.out.trans (Fr.setCell (S := fun b => b = rb) _ ⟨rb, 1, none⟩ _ rfl), by have := HLJ.out; rw [HC2.out] at this; exact this.skip (.inr HQ.out)⟩
              case measure => rw [RdB.at (show RdB (wb.setCell ⟨rb, 1, none⟩ (.int .i64 ((j : Int) + 1))) rb _ n bc (j + 1) t from HBB.out.set1 (j + 1)), HBJ.out.at]; omega
          · have HQ : Hid (c = 32) := Lib.hid (u8_eq (k := 32) q1)
            go_wp2_with fail
            go_roundw
            case rel => exact ⟨j + 1, by omega, HBB.out.set1 (j + 1), HFB.out.trans (Fr.setCell (S := fun b => b = rb) _ ⟨rb, 1, none⟩ _ rfl), by have := HLJ.out; rw [HC2.out] at this; exact this.skip (.inl HQ.out)⟩
            case measure => rw [RdB.at (show RdB (wb.setCell ⟨rb, 1, none⟩ (.int .i64 ((j : Int) + 1))) rb _ n bc (j + 1) t from HBB.out.set1 (j + 1)), HBJ.out.at]; omega
        · obtain rfl : j = n := by omega
          go_wp2_with fail
          go_meet
          exact ⟨rfl, j, Nat.le_refl _, HBA.out, HFA.out, HLJ.out, .inl rfl⟩
    case rest =>
      obtain ⟨rfl, j, hj, hb, hF, hLj, hst⟩ := hcut
      obtain ⟨c0, c1, c2⟩ := hb.cells
      have HBJ := Lib.hid hb; have HFJ := Lib.hid hF; have HLJ := Lib.hid hLj; have HST := Lib.hid hst
      have hji : (j : Int) ≤ (n : Int) := by omega
      have hjb : (j : Int) ≤ (bc : Int) := by omega
      clear hb hF hLj hst
      go_wp2_with fail
      refine wp_region_S (by kernel_rfl) (by kernel_rfl) (by kernel_rfl) (by kernel_rfl) (by kernel_rfl) (fun w' => Ext wc w') ((Fr.drew (fun _ => False) _).ext (fun _ _ h => h)) ?_
      repeat
        first
        | (refine steps_and rfl rfl rfl rfl ?_; simp only [Act.put, List.setIfInBounds_toArray, List.set_cons_succ, List.set_cons_zero])
        | (refine steps_or rfl rfl rfl rfl ?_; simp only [Act.put, List.setIfInBounds_toArray, List.set_cons_succ, List.set_cons_zero])
        | (refine steps_skip rfl ?_; simp only [Act.put, List.setIfInBounds_toArray, List.set_cons_succ, List.set_cons_zero])
        | (refine steps_guard_and rfl rfl rfl rfl rfl ?_; simp only [Act.put, List.setIfInBounds_toArray, List.set_cons_succ, List.set_cons_zero])
        | (refine steps_guard (v := ?_) rfl rfl (fun hb w' hS => ?_) ?_; rotate_left; (focus (have k0 := ext_cell c0 hS; have k1 := ext_cell c1 hS; unfold Gives; go_simp; first | exact is_mk hS)); simp only [Act.put, List.setIfInBounds_toArray, List.set_cons_succ, List.set_cons_zero])
        | (refine steps_guard2 (v := ?_) rfl rfl rfl (fun hb1 hb w' hS => ?_) ?_; rotate_left; (focus (have k0 := ext_cell c0 hS; have k1 := ext_cell c1 hS; unfold Gives; go_simp; first | exact is_mk hS)); simp only [Act.put, List.setIfInBounds_toArray, List.set_cons_succ, List.set_cons_zero])
        | (refine steps_run (v := ?_) rfl (fun w' hS => ?_) ?_; rotate_left; (focus (have k0 := ext_cell c0 hS; have k1 := ext_cell c1 hS; unfold Gives; go_simp; first | exact is_mk hS)); simp only [Act.put, List.setIfInBounds_toArray, List.set_cons_succ, List.set_cons_zero])
      refine steps_end fun wa hEa => ?_
      obtain ⟨p, hp⟩ : ∃ p, (if bc = j then ba else Option.map (fun x => x.add j) ba) = p := ⟨_, rfl⟩
      rw [hp]
      have HBA := Lib.hid (HBJ.out.ext hEa); have HFA := Lib.hid (HFJ.out.trans (Fr.of_ext hEa))
      have hbp : Byts wa p (s.drop j) := by
        by_cases hjn : j = n
        · rw [List.drop_eq_nil_of_le (by rw [HN.out]; omega)]; exact SlA.nil _ _ _ _
        · obtain ⟨c, hc1, _⟩ := drop_get HN.out (show j < n by omega)
          have hby := HS.out.fr HFA.out (fun p hp hs => HNE.out p hp hs)
          obtain ⟨bb, bo, hbb, _⟩ := hby j c hc1
          subst hbb
          rw [← hp, if_neg (by omega)]
          show Byts wa (some ((⟨bb, bo, none⟩ : Addr).add j)) (s.drop j)
          rw [addr_add]
          exact hby.drop j
      have HBP := Lib.hid hbp; have HP := Lib.hid hp
      obtain ⟨r, hr⟩ : ∃ r, n - j = r := ⟨_, rfl⟩
      rw [hr]
      have hrl : (s.drop j).length = r := by rw [List.length_drop, HN.out, hr]
      have HRL := Lib.hid hrl
      clear c0 c1 c2 hEa hp hbp hrl
      go_wp2_with fail
      refine (trim_any HRL.out (by omega) (by unfold maxLen; omega) HBP.out).mono ?_
      rintro e w2 ⟨q, k, cq, rfl, hk, hE2⟩
      have HB2 := Lib.hid (HBA.out.ext hE2); have HF2 := Lib.hid (HFA.out.trans (Fr.of_ext hE2)); have HBP2 := Lib.hid (HBP.out.ext hE2)
      have HK := Lib.hid hk
      clear hE2 hk
      obtain ⟨c0, c1, c2⟩ := HB2.out.cells
      have f2 := HB2.out.frozen 2
      rcases HST.out with rfl | ⟨c, hc, hn32, hn10, hn35⟩
      · obtain rfl : r = 0 := by omega
        obtain rfl : k = 0 := by rw [HK.out, List.drop_eq_nil_of_le (by rw [HN.out]; exact Nat.le_refl _)]; rfl
        have kc := run_convert_bytes_zero (P := Tryz.prog) w2 28 5 Tryz.underlying28 Tryz.underlying5 p (bc - j) 9 Tryz.underlying9
        have hmn : min (1 : Int) 0 = 0 := rfl
        clear hr
        go_wp2_with fail
        go_end0
        exact ⟨rfl, HF2.out.trans (Fr.setCell (S := fun b => b = rb) _ ⟨rb, 2, none⟩ _ rfl), Rd.done HB2.out HN.out HLJ.out⟩
      · have hjn : j < n := by
          have h1 := (List.getElem?_eq_some_iff.1 hc).1
          have h2 := HN.out
          omega
        obtain ⟨c', hc1, hc2⟩ := drop_get HN.out hjn
        rw [hc] at hc1
        cases hc1
        have hlj := HLJ.out
        rw [hc2] at hlj
        obtain ⟨u, v, T', h1, h2, h3, h4, h5⟩ := hlj.tok hn32 hn10 hn35
        rw [← hc2] at h1
        have hlen := HRL.out
        rw [h1, List.length_append] at hlen
        have hul : 0 < u.length := List.length_pos_iff.2 h3
        obtain ⟨ul, hule⟩ : ∃ ul, u.length = ul := ⟨_, rfl⟩
        rw [hule] at hlen hul
        have HU := Lib.hid h1; have HTT := Lib.hid h2; have H4 := Lib.hid h4; have HUL := Lib.hid hule
        have hbu : Byts w2 p u := by
          have := HBP2.out
          rw [h1] at this
          have h9 := this.take u.length
          rwa [List.take_left'  rfl] at h9
        have hpp : ∃ b o, p = some ⟨b, o, none⟩ := by
          obtain ⟨b, o, hb, _⟩ := hbu 0 (u[0]'(by omega)) (List.getElem?_eq_getElem _)
          exact ⟨b, o, hb⟩
        obtain ⟨pb, po, rfl⟩ := hpp
        have kc := conv_any (cp := bc - j) hule hbu
        rcases h5 with ⟨hw, hu⟩ | ⟨hw, hu⟩
        · have hvd : (s.drop j).dropWhile wordyB = v := by
            rw [← hc2] at hu
            have h8 := List.takeWhile_append_dropWhile (p := wordyB) (l := s.drop j)
            rw [← hu] at h8
            exact List.append_cancel_left (h8.trans h1)
          have hkv : k = v.length := by rw [HK.out, hvd]
          have hrk : (r : Int) - (k : Int) = (ul : Int) := by omega
          have hulr : ul ≤ r := by omega
          have hrb : r ≤ bc - j := by omega
          have t1 : ((ul : Int) == 0) = false := by simp; omega
          clear hvd hkv hlj hc2 h1 h2 h4 hu hlen hule hbu hc
          go_wp2_with fail
          go_end0
          exact ⟨rfl, HF2.out.trans (Fr.setCell (S := fun b => b = rb) _ ⟨rb, 2, none⟩ _ rfl), Rd.token HB2.out HN.out hj HLJ.out HU.out HTT.out H4.out⟩
        · have hrl : (s.drop j).dropWhile wordyB = s.drop j := by
            rw [hc2, List.dropWhile_cons_of_neg (by simp [hw])]
          obtain rfl : k = r := by rw [HK.out, hrl, HRL.out]
          obtain rfl : ul = 1 := by rw [← HUL.out, hu]; rfl
          have hmn : min (1 : Int) (k : Int) = 1 := by omega
          have hk1 : 1 ≤ k := by omega
          have hrb : k ≤ bc - j := by omega
          clear hrl hlj hc2 h1 h2 h4 hu hlen hule hbu hc
          go_wp2_with fail
          go_end0
          exact ⟨rfl, HF2.out.trans (Fr.setCell (S := fun b => b = rb) _ ⟨rb, 2, none⟩ _ rfl), Rd.token HB2.out HN.out hj HLJ.out HU.out HTT.out H4.out⟩
end Go.Proofs.YteemkkmkkgfofaaGreatDoor
