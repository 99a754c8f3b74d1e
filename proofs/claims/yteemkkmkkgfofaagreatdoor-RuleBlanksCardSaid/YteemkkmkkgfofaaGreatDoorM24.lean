/- Walks: the chapter's examples (live). -/
import Derived.Test.YteemkkmkkgfofaaGreatDoorM20
import Derived.Test.YteemkkmkkgfofaaGreatDoorM21
import Derived.Test.YteemkkmkkgfofaaGreatDoorM23
import Derived.Lib.SlBytesConst
namespace Go.Proofs.YteemkkmkkgfofaaGreatDoor
open Go.RowKit Nam Pol Go.Maps
attribute [local go_sem] gv_of

/-- What stands laid ahead of the call. -/
structure E15 (w : World) : Prop where
  syn : VarI "strconv.ErrSyntax" w
  rng : VarI "strconv.ErrRange" w
  pow : Pow w
theorem E15.ext {w w' : World} (h : E15 w) (hE : Ext w w') : E15 w' := ⟨h.syn.ext hE, h.rng.ext hE, h.pow.ext hE⟩
theorem lit_byts (w : World) (s : Str) (T : TypeId) (f : Nat × Nat) : Byts (w.alloc (.cells (s.map fun c => Value.int .u8 (c.toNat : Int)).toArray T f)) (some ⟨w.heap.size, 0, none⟩) s := fun i x hx => by
  refine ⟨_, _, rfl, ?_⟩
  unfold U8At World.cell?
  rw [show (w.alloc (.cells (s.map fun c => Value.int .u8 (c.toNat : Int)).toArray T f)).heap[(⟨w.heap.size, 0 + i * 1, none⟩ : Addr).block]? = some (.cells (s.map fun c => Value.int .u8 (c.toNat : Int)).toArray T f) from World.alloc_heap_new w _]
  simp [hx]
theorem parse_ok {s : Str} {n bc : Nat} {ba : Option Addr} {w : World} {l : List Rul} (hX : readF s = .ok l) (hn : s.length = n) (hnc : n ≤ bc) (hcm : bc ≤ maxLen) (hb : n ≤ 32768) (hs : Byts w ba s) (hE : E15 w) :
    Calls Tryz.prog 18 #[.slice ba n bc] w (fun e w' => ∃ la lc, e = .returned (.tuple #[.slice la l.length lc, .int .i64 0, .int .i64 0]) ∧ Ext w w' ∧ l.length ≤ lc ∧ lc ≤ maxLen ∧ Ruls w' la l) := by
  refine (Parse_any s ba n bc _ w hn hnc hcm hs (lexF_ok s.length s 0 (Nat.le_refl _)) hE.syn hE.rng).mono ?_
  rintro e w' ⟨v, p, c, rfl, hE', h⟩
  rw [if_neg (by omega), show readT (lexF s.length s 0) = .ok l from hX] at h
  obtain ⟨rfl, rfl, la, lc, rfl, h1, h2, h3⟩ := h
  exact ⟨la, lc, rfl, hE', h1, h2, h3⟩
theorem parse_no {s : Str} {n bc : Nat} {ba : Option Addr} {w : World} {x : Nat × Int} (hX : readF s = .error x) (hn : s.length = n) (hnc : n ≤ bc) (hcm : bc ≤ maxLen) (hb : n ≤ 32768) (hs : Byts w ba s) (hE : E15 w) :
    Calls Tryz.prog 18 #[.slice ba n bc] w (fun e w' => e = .returned (.tuple #[.slice none 0 0, .int .i64 x.1, .int .i64 x.2]) ∧ Ext w w') := by
  refine (Parse_any s ba n bc _ w hn hnc hcm hs (lexF_ok s.length s 0 (Nat.le_refl _)) hE.syn hE.rng).mono ?_
  rintro e w' ⟨v, p, c, rfl, hE', h⟩
  rw [if_neg (by omega), show readT (lexF s.length s 0) = .error x from hX] at h
  obtain ⟨rfl, rfl, rfl⟩ := h
  exact ⟨rfl, hE'⟩
theorem print_web {la : Option Addr} {lc : Nat} {w : World} (h1 : 1 ≤ lc) (h2 : lc ≤ maxLen) (h3 : Ruls w la [webR]) (hE : E15 w) :
    Calls Tryz.prog 16 #[.slice la 1 lc] w (fun e w' => ∃ b o c, e = .returned (.tuple #[.slice (some ⟨b, o, none⟩) 48 c, .int .i64 0]) ∧ Ext w w' ∧ 48 ≤ c ∧ c ≤ maxLen ∧ Byts w' (some ⟨b, o, none⟩) webS) := by
  refine (Print_any [webR] la lc 1 w rfl h1 h2 h3 hE.pow).mono ?_
  rintro e w' ⟨v, rfl, hE', _, h⟩
  obtain ⟨b, c, rfl, k1, k2, k3⟩ := h web_check
  rw [web_text] at k1 k3 ⊢
  obtain ⟨b', o', rfl, _⟩ := k3 0 97 rfl
  exact ⟨b', o', c, by rw [web_check]; rfl, hE', k1, k2, k3⟩
set_option maxRecDepth 100000 in
set_option maxHeartbeats 8000000 in
theorem live15_any (w : World) (hE : E15 w) : Calls Tryz.prog 10 #[] w (Ret (.bool true) w) := by
  have HE := Lib.hid hE
  clear hE
  have kc := fun (w : World) (C : Array Value) (n c : Nat) => Lib.run_convert_bytes_const (P := Tryz.prog) w 28 5 C n c Tryz.underlying28 Tryz.underlying5
  go_enter Tryz.func10, Tryz.ntmps10
  go_wp2_with fail
  have hE1 : Ext w (w.alloc (.cells (webS.map fun c => Value.int .u8 (c.toNat : Int)).toArray 5 (48, 49))) := ext_alloc (Below.refl _ _) _
  refine (parse_ok (s := webS) (n := 48) (bc := 48) (l := [webR]) read_web rfl (Nat.le_refl _) (by decide) (by decide) (lit_byts w webS 5 (48, 49)) (HE.out.ext hE1)).mono ?_
  rintro e w1 ⟨la1, lc1, rfl, hE2, l1, l2, hl⟩
  have HX1 := Lib.hid (ext_trans hE1 hE2); have HL1 := Lib.hid hl; have LA1 := Lib.hid l1; have LB1 := Lib.hid l2
  clear hE1 hE2 hl l1 l2
  go_wp2_with fail
  have hE1 : Ext w1 (w1.alloc (.cells (webS2.map fun c => Value.int .u8 (c.toNat : Int)).toArray 5 (55, 56))) := ext_alloc (Below.refl _ _) _
  refine (parse_ok (s := webS2) (n := 55) (bc := 55) (l := [webR]) read_web2 rfl (Nat.le_refl _) (by decide) (by decide) (lit_byts w1 webS2 5 (55, 56)) (HE.out.ext (ext_trans HX1.out hE1))).mono ?_
  rintro e w2 ⟨la2, lc2, rfl, hE2, l1, l2, hl⟩
  have HS2 := Lib.hid (ext_trans hE1 hE2)
  have HX2 := Lib.hid (ext_trans (ext_trans HX1.out hE1) hE2); have HL2 := Lib.hid hl; have LA2 := Lib.hid l1; have LB2 := Lib.hid l2
  clear hE1 hE2 hl l1 l2
  go_wp2_with fail
  have hE1 : Ext w2 (w2.alloc (.cells (badS.map fun c => Value.int .u8 (c.toNat : Int)).toArray 5 (19, 20))) := ext_alloc (Below.refl _ _) _
  refine (parse_no (s := badS) (n := 19) (bc := 19) (x := (11, 71)) read_bad rfl (Nat.le_refl _) (by decide) (by decide) (lit_byts w2 badS 5 (19, 20)) (HE.out.ext (ext_trans HX2.out hE1))).mono ?_
  rintro e w3 ⟨rfl, hE2⟩
  have HS3 := Lib.hid (ext_trans hE1 hE2)
  have HX3 := Lib.hid (ext_trans (ext_trans HX2.out hE1) hE2)
  clear hE1 hE2
  go_wp2_with fail
  have hE1 : Ext w3 (w3.alloc (.cells (allowS.map fun c => Value.int .u8 (c.toNat : Int)).toArray 5 (5, 6))) := ext_alloc (Below.refl _ _) _
  refine (parse_no (s := allowS) (n := 5) (bc := 5) (x := (5, 71)) read_allow rfl (Nat.le_refl _) (by decide) (by decide) (lit_byts w3 allowS 5 (5, 6)) (HE.out.ext (ext_trans HX3.out hE1))).mono ?_
  rintro e w4 ⟨rfl, hE2⟩
  have HS4 := Lib.hid (ext_trans hE1 hE2)
  have HX4 := Lib.hid (ext_trans (ext_trans HX3.out hE1) hE2)
  clear hE1 hE2
  go_wp2_with fail
  refine (parse_ok (s := []) (n := 0) (bc := 0) (l := []) read_nil rfl (Nat.le_refl _) (by decide) (by decide) (SlA.nil _ _ _ _) (HE.out.ext HX4.out)).mono ?_
  rintro e w5 ⟨la5, lc5, rfl, hE2, _, _, _⟩
  have HX5 := Lib.hid (ext_trans HX4.out hE2)
  have HS15 := Lib.hid (ext_trans HS2.out (ext_trans HS3.out (ext_trans HS4.out hE2)))
  have HS25 := Lib.hid (ext_trans HS3.out (ext_trans HS4.out hE2))
  clear hE2
  have HR1 := Lib.hid (HL1.out.ext HS15.out); have HR2 := Lib.hid (HL2.out.ext HS25.out)
  obtain ⟨b, off, rfl, d0, d1, ⟨pa, pc, d2, p1, p2, hps⟩, d3, d4, d5, d6, _, _⟩ := HR1.out 0 webR rfl
  obtain ⟨pb, po, rfl, e0, _⟩ := hps 0 _ rfl
  obtain ⟨pb', po', hpo, e1, _⟩ := hps 1 _ rfl
  cases hpo
  simp only [Nat.zero_mul, Nat.mul_one, Nat.add_zero, webR, List.length_cons, List.length_nil, Nat.zero_add] at d0 d1 d2 d3 d4 d5 d6 e0 e1 p1
  have hlc : 1 ≤ lc1 := LA1.out
  have hE6 : Ext w5 (w5.alloc (Obj.cells #[.string ⟨#[119, 101, 98]⟩, .bool true, .slice (some ⟨pb, po, none⟩) 2 pc, .int .u64 0, .int .i64 90, .int .i64 3, .int .i64 10] 40)) := ext_alloc (Below.refl _ _) _
  have HPW := Lib.hid (print_web hlc LB1.out (HR1.out.ext hE6) ((HE.out.ext HX5.out).ext hE6))
  have hxb : XB (w5.alloc (Obj.cells #[.string ⟨#[119, 101, 98]⟩, .bool true, .slice (some ⟨pb, po, none⟩) 2 pc, .int .u64 0, .int .i64 90, .int .i64 3, .int .i64 10] 40)) w5.heap.size ⟨#[119, 101, 98]⟩ true (.slice (some ⟨pb, po, none⟩) 2 pc) 0 90 3 10 := XB.new _ _ _ _ _ _ _ _
  have HXB := Lib.hid hxb; have HE6 := Lib.hid hE6; have HE1' := Lib.hid e1
  clear hps p2 e0 hxb hE6 e1
  go_wp2_with fail
  refine HPW.out.mono ?_
  rintro e w7 ⟨bb, bo, bc, rfl, hE7, c1, c2, hby⟩
  have hx7 := HXB.out.fr (Fr.of_ext (S := fun _ => False) hE7) (fun h => h)
  have x0 := hx7.c0; have x1 := hx7.c1; have x2 := hx7.c2; have x3 := hx7.c3; have x4 := hx7.c4; have x5 := hx7.c5; have x6 := hx7.c6
  have HE57 := Lib.hid (ext_trans HE6.out hE7)
  have e1 := ext_cell HE1'.out HE57.out
  have HBY := Lib.hid hby
  clear d0 d1 d2 d3 d4 d5 d6 hx7 hE7 hby
  go_wp2_with fail
  refine (rSame_any [webR] [webR] (some ⟨b, off, none⟩) la2 lc1 1 lc2 1 w7 rfl rfl hlc LA2.out LB1.out (HR1.out.ext HE57.out) (HR2.out.ext HE57.out) true (by simp)).mono ?_
  rintro e w8 ⟨rfl, hE8⟩
  have HE58 := Lib.hid (ext_trans HE57.out hE8)
  have kcv := conv_any (cp := bc) (u := webS) (k := 48) rfl (HBY.out.ext hE8)
  have hwl : ((bA webS).toList == ([97, 108, 108, 111, 119, 32, 119, 101, 98, 32, 123, 32, 97, 46, 98, 44, 32, 42, 46, 99, 59, 32, 108, 105, 102, 101, 32, 57, 48, 59, 32, 109, 111, 115, 116, 32, 51, 32, 112, 101, 114, 32, 49, 48, 59, 32, 125, 10] : List UInt8)) = true := by rw [Lib.toList_data]; rfl
  clear hE8 x0 x1 x2 x3 x4 x5 x6 e1
  go_wp2_with fail
  refine (pCheck_any [webR] (some ⟨b, off, none⟩) lc1 1 w8 rfl hlc LB1.out (HR1.out.ext HE58.out)).mono ?_
  rintro e w9 ⟨rfl, hE9⟩
  rw [web_check]
  have HE9 := Lib.hid hE9
  clear hE9
  go_wp2_with fail
  go_ret
  exact ⟨rfl, ext_trans HX5.out (ext_trans HE58.out HE9.out)⟩
end Go.Proofs.YteemkkmkkgfofaaGreatDoor
