/- Walk of the document's Texts: the same texts? Walk of the document's Same: the same rules? Walks: rule.Same, by slices.EqualFunc over rules. Walks: the document's decimal. Walks: numbers and joined texts, for what Print writes: strconv.FormatUint, Itoa, strings.Join at whatever lies there. A region that draws its order, within a fence: what holds of the world turns with the operations that have run; walked once, in the order of the text. -/
import Derived.Test.YteemkkmkkgfofaaGreatDoorM10
import Derived.Test.YteemkkmkkgfofaaGreatDoorM12
import Derived.Test.YteemkkmkkgfofaaGreatDoorM14
import Derived.Test.YteemkkmkkgfofaaGreatDoorM15
import Derived.Lib.AppendIntMem
import Derived.Lib.Walk
import Derived.BigCall
import Derived.BigGuard
import Derived.Test.YteemkkmkkgfofaaGreatDoorM08
import Derived.OrdersIn
namespace Go.Proofs.YteemkkmkkgfofaaGreatDoor
open Go.RowKit Nam Pol Go.Maps
attribute [local go_sem] gv_of

theorem take_snoc_eq {α : Type} {l m : List α} {k : Nat} {x y : α} (h : l.take k = m.take k) (hx : l[k]? = some x) (hy : m[k]? = some y) (he : x = y) : l.take (k + 1) = m.take (k + 1) := by
  rw [take_snoc hx, take_snoc hy, h, he]
set_option maxRecDepth 100000 in
set_option maxHeartbeats 2000000 in
theorem texts_any (l m : List ByteArray) (a b : Option Addr) (c1 n1 c2 n2 : Nat) (w : World) (h1 : l.length = n1) (h2 : m.length = n2) (k1 : n1 ≤ c1) (k2 : n2 ≤ c2) (g1 : c1 ≤ maxLen) (hl : Strs w a l) (hm : Strs w b m) :
    Calls Tryz.prog 25 #[.slice a n1 c1, .slice b n2 c2] w (Ret (.bool (decide (l = m))) w) := by
  unfold maxLen at g1
  have N1 := Lib.hid h1; have N2 := Lib.hid h2; have HL := Lib.hid hl; have HC := Lib.hid hm
  clear h1 h2 hl hm
  by_cases hne : n1 = n2
  · subst hne
    have t : ((n1 : Int) != n1) = false := by simp
    go_enter Tryz.func25, Tryz.ntmps25
    go_wp2_with fail
    go_loopw [5] (fun i wr => ∃ k : Nat, k ≤ n1 ∧ i = .int .i64 k ∧ l.take k = m.take k ∧ Ext w wr) (fun i _ => n1 - (intOf i).toNat)
    case atStart => exact ⟨0, Nat.zero_le _, rfl, rfl, Below.refl _ _⟩
    case round =>
      obtain ⟨k, hk, rfl, he, hEr⟩ := hrel
      have HEQ := Lib.hid he; have HER := Lib.hid hEr
      clear he hEr
      by_cases hlt : k < n1
      · obtain ⟨x, hx⟩ := get_some N1.out hlt
        obtain ⟨y, hy⟩ := get_some N2.out hlt
        obtain ⟨bx, ox, rfl, d0, _⟩ := (HL.out.ext HER.out) k x hx
        obtain ⟨by', oy, rfl, e0, _⟩ := (HC.out.ext HER.out) k y hy
        rw [Nat.mul_one] at d0 e0
        have HX := Lib.hid hx; have HY := Lib.hid hy
        have hkc1 : k < c1 := by omega
        have hkc2 : k < c2 := by omega
        clear hx hy
        go_wp2_with fail
        refine wp_region_S (by kernel_rfl) (by kernel_rfl) (by kernel_rfl) (by kernel_rfl) (by kernel_rfl) (fun w' => Ext wr w') ((Fr.drew (fun _ => False) _).ext (fun _ _ h => h)) ?_
        repeat
          first
          | (refine steps_and rfl rfl rfl rfl ?_; simp only [Act.put, List.setIfInBounds_toArray, List.set_cons_succ, List.set_cons_zero])
          | (refine steps_or rfl rfl rfl rfl ?_; simp only [Act.put, List.setIfInBounds_toArray, List.set_cons_succ, List.set_cons_zero])
          | (refine steps_skip rfl ?_; simp only [Act.put, List.setIfInBounds_toArray, List.set_cons_succ, List.set_cons_zero])
          | (refine steps_guard_and rfl rfl rfl rfl rfl ?_; simp only [Act.put, List.setIfInBounds_toArray, List.set_cons_succ, List.set_cons_zero])
          | (refine steps_guard (v := ?_) rfl rfl (fun hb w' hS => ?_) ?_; rotate_left; (focus (have k0 := ext_cell d0 hS; have k1 := ext_cell e0 hS; unfold Gives; go_simp; first | exact is_mk hS)); simp only [Act.put, List.setIfInBounds_toArray, List.set_cons_succ, List.set_cons_zero])
          | (refine steps_guard2 (v := ?_) rfl rfl rfl (fun hb1 hb w' hS => ?_) ?_; rotate_left; (focus (have k0 := ext_cell d0 hS; have k1 := ext_cell e0 hS; unfold Gives; go_simp; first | exact is_mk hS)); simp only [Act.put, List.setIfInBounds_toArray, List.set_cons_succ, List.set_cons_zero])
          | (refine steps_run (v := ?_) rfl (fun w' hS => ?_) ?_; rotate_left; (focus (have k0 := ext_cell d0 hS; have k1 := ext_cell e0 hS; unfold Gives; go_simp; first | exact is_mk hS)); simp only [Act.put, List.setIfInBounds_toArray, List.set_cons_succ, List.set_cons_zero])
        refine steps_end fun wa hEa => ?_
        cases hq : (x.toList == y.toList)
        · have HQ := Lib.hid (show decide (l = m) = false by
            rw [decide_eq_false_iff_not]; intro e
            have h1 := HX.out; have h2 := HY.out
            rw [e, h2] at h1
            cases h1
            simp at hq)
          go_wp2_with fail
          go_ret
          exact ⟨by rw [HQ.out]; rfl, ext_trans HER.out hEa⟩
        · have HQ := Lib.hid (take_snoc_eq HEQ.out HX.out HY.out (bytes_eq (by rw [← Lib.toList_data, ← Lib.toList_data]; exact beq_iff_eq.1 hq)))
          go_wp2_with fail
          go_roundw
          case rel => exact ⟨k + 1, by omega, by go_num, HQ.out, ext_trans HER.out hEa⟩
          case measure => simp [intOf]; omega
      · obtain rfl : k = n1 := by omega
        have HQ := Lib.hid (show decide (l = m) = true by
          have := HEQ.out
          rw [List.take_of_length_le (by rw [N1.out]; exact Nat.le_refl _), List.take_of_length_le (by rw [N2.out]; exact Nat.le_refl _)] at this
          rw [decide_eq_true_iff]; exact this)
        go_wp2_with fail
        go_ret
        exact ⟨by rw [HQ.out]; rfl, HER.out⟩
  · have HQ := Lib.hid (show decide (l = m) = false by
      rw [decide_eq_false_iff_not]; intro e; exact hne (by rw [← N1.out, ← N2.out, e]))
    have t : ((n1 : Int) != n2) = true := by simp; omega
    go_enter Tryz.func25, Tryz.ntmps25
    go_wp2_with fail
    go_ret
    exact ⟨by rw [HQ.out]; rfl, Below.refl _ _⟩
end Go.Proofs.YteemkkmkkgfofaaGreatDoor
namespace Go.Proofs.YteemkkmkkgfofaaGreatDoor
open Go.RowKit Nam Pol Go.Maps
attribute [local go_sem] gv_of

/-- Do two rules differ? (as the document's code asks it) -/
def diffB (x y : Rul) : Bool := ((((((!(x.name.toList == y.name.toList) || !(x.allow == y.allow)) || !decide (x.pats = y.pats)) || (x.keyMin != y.keyMin)) || (x.lifeMax != y.lifeMax)) || (x.most != y.most)) || (x.window != y.window))
theorem diff_iff {x y : Rul} : diffB x y = false ↔ x = y := by
  obtain ⟨x0, x1, x2, x3, x4, x5, x6⟩ := x
  obtain ⟨y0, y1, y2, y3, y4, y5, y6⟩ := y
  unfold diffB
  simp only [Bool.or_eq_false_iff, Bool.not_eq_false', decide_eq_true_iff, bne_eq_false_iff_eq, Rul.mk.injEq]
  have e : (x0.toList == y0.toList) = true ↔ x0 = y0 := by
    rw [beq_iff_eq, Lib.toList_data, Lib.toList_data]
    exact ⟨bytes_eq, fun h => by rw [h]⟩
  rw [e, beq_iff_eq]
  constructor
  · rintro ⟨⟨⟨⟨⟨⟨a, b⟩, c⟩, d⟩, e⟩, f⟩, g⟩; exact ⟨a, b, c, d, e, f, g⟩
  · rintro ⟨a, b, c, d, e, f, g⟩; exact ⟨⟨⟨⟨⟨⟨a, b⟩, c⟩, d⟩, e⟩, f⟩, g⟩
set_option maxRecDepth 100000 in
set_option maxHeartbeats 4000000 in
theorem q15Same_any (l m : List Rul) (a b : Option Addr) (c1 n1 c2 n2 : Nat) (w : World) (h1 : l.length = n1) (h2 : m.length = n2) (k1 : n1 ≤ c1) (k2 : n2 ≤ c2) (g1 : c1 ≤ maxLen) (hl : Ruls w a l) (hm : Ruls w b m) (D : Bool) (hD : D = true ↔ l = m) :
    Calls Tryz.prog 15 #[.slice a n1 c1, .slice b n2 c2] w (Ret (.bool D) w) := by
  unfold maxLen at g1
  have N1 := Lib.hid h1; have N2 := Lib.hid h2; have HL := Lib.hid hl; have HC := Lib.hid hm
  clear h1 h2 hl hm
  by_cases hne : n1 = n2
  · subst hne
    have t : ((n1 : Int) != n1) = false := by simp
    go_enter Tryz.func15, Tryz.ntmps15
    go_wp2_with fail
    go_loopw [5] (fun i wr => ∃ k : Nat, k ≤ n1 ∧ i = .int .i64 k ∧ l.take k = m.take k ∧ Ext w wr) (fun i _ => n1 - (intOf i).toNat)
    case atStart => exact ⟨0, Nat.zero_le _, rfl, rfl, Below.refl _ _⟩
    case round =>
      obtain ⟨k, hk, rfl, he, hEr⟩ := hrel
      have HEQ := Lib.hid he; have HER := Lib.hid hEr
      clear he hEr
      by_cases hlt : k < n1
      · obtain ⟨x, hx⟩ := get_some N1.out hlt
        obtain ⟨y, hy⟩ := get_some N2.out hlt
        obtain ⟨bx, ox, rfl, d0, d1, ⟨pa, pc, d2, l1, l2, hps⟩, d3, d4, d5, d6, _, _⟩ := (HL.out.ext HER.out) k x hx
        obtain ⟨by', oy, rfl, e0, e1, ⟨qa, qc, e2, m1, m2, hqs⟩, e3, e4, e5, e6, _, _⟩ := (HC.out.ext HER.out) k y hy
        have HX := Lib.hid hx; have HY := Lib.hid hy; have HPS := Lib.hid hps; have HQS := Lib.hid hqs
        have L1 := Lib.hid l1; have L2 := Lib.hid l2; have M1 := Lib.hid m1
        have E0 := Lib.hid e0; have E1 := Lib.hid e1; have E2 := Lib.hid e2; have E3 := Lib.hid e3; have E4 := Lib.hid e4; have E5 := Lib.hid e5; have E6 := Lib.hid e6
        have hkc1 : k < c1 := by omega
        have hkc2 : k < c2 := by omega
        clear hx hy hps hqs l1 l2 m1 m2 e0 e1 e2 e3 e4 e5 e6
        go_upto_region 7 with (fail)
        obtain ⟨W, hW⟩ : ∃ W, wr.alloc (Obj.cells #[.string x.name, .bool x.allow, .slice pa x.pats.length pc, .int .u64 x.keyMin, .int .i64 x.lifeMax, .int .i64 x.most, .int .i64 x.window] 40) = W := ⟨_, rfl⟩
        have hE : Ext wr W := by rw [← hW]; exact ext_alloc (Below.refl _ wr) _
        have hM : W.heap[wr.heap.size]? = some (Obj.cells #[.string x.name, .bool x.allow, .slice pa x.pats.length pc, .int .u64 x.keyMin, .int .i64 x.lifeMax, .int .i64 x.most, .int .i64 x.window] 40 (0, 0)) := by rw [← hW]; exact World.alloc_heap_new wr _
        rw [hW]
        clear hW
        have hxw : XB W wr.heap.size x.name x.allow (.slice pa x.pats.length pc) x.keyMin x.lifeMax x.most x.window := hM
        have e0 := ext_cell E0.out hE; have e1 := ext_cell E1.out hE; have e2 := ext_cell E2.out hE; have e3 := ext_cell E3.out hE; have e4 := ext_cell E4.out hE; have e5 := ext_cell E5.out hE; have e6 := ext_cell E6.out hE
        have HXW := Lib.hid hxw; have HE1 := Lib.hid hE
        clear hM hxw hE d0 d1 d2 d3 d4 d5 d6 E0 E1 E2 E3 E4 E5 E6
        go_upto_region 8 with (fail)
        obtain ⟨V, hV⟩ : ∃ V, W.alloc (Obj.cells #[.string y.name, .bool y.allow, .slice qa y.pats.length qc, .int .u64 y.keyMin, .int .i64 y.lifeMax, .int .i64 y.most, .int .i64 y.window] 40) = V := ⟨_, rfl⟩
        have hE : Ext W V := by rw [← hV]; exact ext_alloc (Below.refl _ W) _
        have hM : V.heap[W.heap.size]? = some (Obj.cells #[.string y.name, .bool y.allow, .slice qa y.pats.length qc, .int .u64 y.keyMin, .int .i64 y.lifeMax, .int .i64 y.most, .int .i64 y.window] 40 (0, 0)) := by rw [← hV]; exact World.alloc_heap_new W _
        rw [hV]
        clear hV
        have hyw : XB V W.heap.size y.name y.allow (.slice qa y.pats.length qc) y.keyMin y.lifeMax y.most y.window := hM
        have hxv : XB V wr.heap.size x.name x.allow (.slice pa x.pats.length pc) x.keyMin x.lifeMax x.most x.window := HXW.out.fr (Fr.of_ext (S := fun _ => False) hE) (fun h => h)
        have HE2 := Lib.hid (ext_trans HE1.out hE)
        clear hM hE e0 e1 e2 e3 e4 e5 e6 HXW
        have f0 := hxv.c0; have f1 := hxv.c1; have f2 := hxv.c2; have f3 := hxv.c3; have f4 := hxv.c4; have f5 := hxv.c5; have f6 := hxv.c6
        have g0 := hyw.c0; have g1' := hyw.c1; have g2 := hyw.c2; have g3 := hyw.c3; have g4 := hyw.c4; have g5 := hyw.c5; have g6 := hyw.c6
        clear hxv hyw
        go_upto_region 8 with (fail)
        refine wp_region_P (fun w' => Ext V w') (Below.refl _ _) ?_
        repeat
          first
          | (refine steps_and rfl rfl rfl rfl ?_; simp only [Act.put, List.setIfInBounds_toArray, List.set_cons_succ, List.set_cons_zero])
          | (refine steps_or rfl rfl rfl rfl ?_; simp only [Act.put, List.setIfInBounds_toArray, List.set_cons_succ, List.set_cons_zero])
          | (refine steps_skip rfl ?_; simp only [Act.put, List.setIfInBounds_toArray, List.set_cons_succ, List.set_cons_zero])
          | (refine steps_guard_and rfl rfl rfl rfl rfl ?_; simp only [Act.put, List.setIfInBounds_toArray, List.set_cons_succ, List.set_cons_zero])
          | (refine steps_guard_or rfl rfl rfl rfl rfl ?_; simp only [Act.put, List.setIfInBounds_toArray, List.set_cons_succ, List.set_cons_zero])
          | (refine steps_guard (v := ?_) rfl rfl (fun hb w' hS => ?_) ?_; rotate_left; (focus (have j0 := ext_cell f0 hS; have j1 := ext_cell f1 hS; have j2 := ext_cell f2 hS; have j3 := ext_cell f3 hS; have j4 := ext_cell f4 hS; have j5 := ext_cell f5 hS; have j6 := ext_cell f6 hS; have i0 := ext_cell g0 hS; have i1 := ext_cell g1' hS; have i2 := ext_cell g2 hS; have i3 := ext_cell g3 hS; have i4 := ext_cell g4 hS; have i5 := ext_cell g5 hS; have i6 := ext_cell g6 hS; unfold Gives; go_simp; first | exact is_mk hS | (refine (texts_any x.pats y.pats pa qa pc _ qc _ _ rfl rfl L1.out M1.out L2.out (HPS.out.ext (ext_trans HE2.out hS)) (HQS.out.ext (ext_trans HE2.out hS))).mono ?_; rintro e w'' ⟨rfl, h2⟩; exact gave_mk (ext_trans hS h2)))); simp only [Act.put, List.setIfInBounds_toArray, List.set_cons_succ, List.set_cons_zero])
          | (refine steps_guard2 (v := ?_) rfl rfl rfl (fun hb1 hb w' hS => ?_) ?_; rotate_left; (focus (have j0 := ext_cell f0 hS; have j1 := ext_cell f1 hS; have j2 := ext_cell f2 hS; have j3 := ext_cell f3 hS; have j4 := ext_cell f4 hS; have j5 := ext_cell f5 hS; have j6 := ext_cell f6 hS; have i0 := ext_cell g0 hS; have i1 := ext_cell g1' hS; have i2 := ext_cell g2 hS; have i3 := ext_cell g3 hS; have i4 := ext_cell g4 hS; have i5 := ext_cell g5 hS; have i6 := ext_cell g6 hS; unfold Gives; go_simp; first | exact is_mk hS | (refine (texts_any x.pats y.pats pa qa pc _ qc _ _ rfl rfl L1.out M1.out L2.out (HPS.out.ext (ext_trans HE2.out hS)) (HQS.out.ext (ext_trans HE2.out hS))).mono ?_; rintro e w'' ⟨rfl, h2⟩; exact gave_mk (ext_trans hS h2)))); simp only [Act.put, List.setIfInBounds_toArray, List.set_cons_succ, List.set_cons_zero])
          | (refine steps_run (v := ?_) rfl (fun w' hS => ?_) ?_; rotate_left; (focus (have j0 := ext_cell f0 hS; have j1 := ext_cell f1 hS; have j2 := ext_cell f2 hS; have j3 := ext_cell f3 hS; have j4 := ext_cell f4 hS; have j5 := ext_cell f5 hS; have j6 := ext_cell f6 hS; have i0 := ext_cell g0 hS; have i1 := ext_cell g1' hS; have i2 := ext_cell g2 hS; have i3 := ext_cell g3 hS; have i4 := ext_cell g4 hS; have i5 := ext_cell g5 hS; have i6 := ext_cell g6 hS; unfold Gives; go_simp; first | exact is_mk hS | (refine (texts_any x.pats y.pats pa qa pc _ qc _ _ rfl rfl L1.out M1.out L2.out (HPS.out.ext (ext_trans HE2.out hS)) (HQS.out.ext (ext_trans HE2.out hS))).mono ?_; rintro e w'' ⟨rfl, h2⟩; exact gave_mk (ext_trans hS h2)))); simp only [Act.put, List.setIfInBounds_toArray, List.set_cons_succ, List.set_cons_zero])
        refine steps_end fun wz hEz => ?_
        rw [show ((((((!(x.name.toList == y.name.toList) || !(x.allow == y.allow)) || !decide (x.pats = y.pats)) || (x.keyMin != y.keyMin)) || (x.lifeMax != y.lifeMax)) || (x.most != y.most)) || (x.window != y.window)) = diffB x y from rfl]
        cases hq : diffB x y
        · have HQ := Lib.hid (take_snoc_eq HEQ.out HX.out HY.out (diff_iff.1 hq))
          clear hq
          go_wp2_with fail
          go_roundw
          case rel => exact ⟨k + 1, by omega, by go_num, HQ.out, ext_trans HER.out (ext_trans HE2.out hEz)⟩
          case measure => simp [intOf]; omega
        · have HQ := Lib.hid (show D = false by
            rw [Bool.eq_false_iff]; intro e0
            have e := hD.1 e0
            have h1 := HX.out; have h2 := HY.out
            rw [e, h2] at h1
            have h3 := diff_iff.2 (Option.some.inj h1.symm)
            rw [hq] at h3; cases h3)
          clear hq
          go_wp2_with fail
          go_ret
          exact ⟨by rw [HQ.out]; rfl, ext_trans HER.out (ext_trans HE2.out hEz)⟩
      · obtain rfl : k = n1 := by omega
        have HQ := Lib.hid (show D = true by
          have := HEQ.out
          rw [List.take_of_length_le (by rw [N1.out]; exact Nat.le_refl _), List.take_of_length_le (by rw [N2.out]; exact Nat.le_refl _)] at this
          exact hD.2 this)
        go_wp2_with fail
        go_ret
        exact ⟨by rw [HQ.out]; rfl, HER.out⟩
  · have HQ := Lib.hid (show D = false by
      rw [Bool.eq_false_iff]; intro e0; have e := hD.1 e0; exact hne (by rw [← N1.out, ← N2.out, e]))
    have t : ((n1 : Int) != n2) = true := by simp; omega
    go_enter Tryz.func15, Tryz.ntmps15
    go_wp2_with fail
    go_ret
    exact ⟨by rw [HQ.out]; rfl, Below.refl _ _⟩
end Go.Proofs.YteemkkmkkgfofaaGreatDoor
namespace Go.Proofs.YteemkkmkkgfofaaGreatDoor
open Go.RowKit Nam Pol Go.Maps
attribute [local go_sem] gv_of

theorem eqStrs_any (x y : List ByteArray) (xa ya : Option Addr) (xc yc : Nat) (w : World) (hx : Strs w xa x) (hy : Strs w ya y) (hxl : x.length ≤ maxLen) (hyl : y.length ≤ maxLen) :
    Calls Tryz.prog 24 #[.slice xa x.length xc, .slice ya y.length yc] w (Ret (.bool (decide (x = y))) w) := by
  unfold maxLen at hxl hyl
  by_cases hlen : x.length = y.length
  · by_cases h0 : x.length = 0
    · have ex : x = [] := List.eq_nil_of_length_eq_zero h0
      have ey : y = [] := List.eq_nil_of_length_eq_zero (by omega)
      subst ex ey
      refine (Tryz.slices_Equal_string_empty xa ya xc 0 yc w (by omega)).mono ?_
      rintro e w' ⟨rfl, rfl⟩
      exact ⟨rfl, Below.refl _ _⟩
    · obtain ⟨i, hi⟩ := get_some (l := x) rfl (k := 0) (by omega)
      obtain ⟨j, hj⟩ := get_some (l := y) rfl (k := 0) (by omega)
      obtain ⟨b1, o1, rfl, _⟩ := hx 0 i hi
      obtain ⟨b2, o2, rfl, _⟩ := hy 0 j hj
      refine (Tryz.slices_Equal_string b1 o1 x.length xc b2 o2 y.length yc x y w (Nat.le_refl _) (Nat.le_refl _) hxl hyl (strs_cells hx) (strs_cells hy)).mono ?_
      rintro e w' ⟨rfl, q, rfl⟩
      rw [List.take_of_length_le (Nat.le_refl _), List.take_of_length_le (Nat.le_refl _)]
      exact ⟨rfl, (Fr.drewN (fun _ => False) w q).ext (fun _ _ h => h)⟩
  · refine (Tryz.slices_Equal_string_lens xa ya x.length xc y.length yc w hlen).mono ?_
    rintro e w' ⟨rfl, rfl⟩
    have : decide (x = y) = false := by
      rw [decide_eq_false_iff_not]; intro h
      exact hlen (by rw [h])
    exact ⟨ret_bool this.symm, Below.refl _ _⟩
/-- Are two rules the same? (as the program's code asks it) -/
def sameB (x y : Rul) : Bool := (((((x.name.toList == y.name.toList && x.allow == y.allow) && decide (x.pats = y.pats)) && x.keyMin == y.keyMin) && x.lifeMax == y.lifeMax) && x.most == y.most) && x.window == y.window
theorem same_iff {x y : Rul} : sameB x y = true ↔ x = y := by
  obtain ⟨x0, x1, x2, x3, x4, x5, x6⟩ := x
  obtain ⟨y0, y1, y2, y3, y4, y5, y6⟩ := y
  unfold sameB
  simp only [Bool.and_eq_true, decide_eq_true_iff, beq_iff_eq, Rul.mk.injEq, Lib.toList_data]
  constructor
  · rintro ⟨⟨⟨⟨⟨⟨a, b⟩, c⟩, d⟩, e⟩, f⟩, g⟩; exact ⟨bytes_eq a, b, c, d, e, f, g⟩
  · rintro ⟨rfl, b, c, d, e, f, g⟩; exact ⟨⟨⟨⟨⟨⟨rfl, b⟩, c⟩, d⟩, e⟩, f⟩, g⟩
set_option maxRecDepth 100000 in
set_option maxHeartbeats 4000000 in
theorem ruleSame_any (x y : Rul) (xa ya : Option Addr) (xc yc : Nat) (w : World) (hx : Strs w xa x.pats) (hy : Strs w ya y.pats) (hxl : x.pats.length ≤ maxLen) (hyl : y.pats.length ≤ maxLen) :
    Calls Tryz.prog 23 #[rulV x xa xc, rulV y ya yc] w (Ret (.bool (sameB x y)) w) := by
  have HX := Lib.hid hx; have HY := Lib.hid hy; have HXL := Lib.hid hxl; have HYL := Lib.hid hyl
  clear hx hy hxl hyl
  unfold rulV
  go_enter Tryz.func23, Tryz.ntmps23
  go_upto_region 1 with (fail)
  obtain ⟨W0, hW0⟩ : ∃ W0, (w.alloc (Obj.cells #[.string x.name, .bool x.allow, .slice xa x.pats.length xc, .int .u64 x.keyMin, .int .i64 x.lifeMax, .int .i64 x.most, .int .i64 x.window] 40)).alloc (Obj.cells #[.string y.name, .bool y.allow, .slice ya y.pats.length yc, .int .u64 y.keyMin, .int .i64 y.lifeMax, .int .i64 y.most, .int .i64 y.window] 40) = W0 := ⟨_, rfl⟩
  have hE0 : Ext w W0 := by rw [← hW0]; exact ext_alloc (ext_alloc (Below.refl _ _) _) _
  have hxv : XB W0 w.heap.size x.name x.allow (.slice xa x.pats.length xc) x.keyMin x.lifeMax x.most x.window := by
    rw [← hW0]; exact ((ext_alloc (Below.refl _ _) _).block _ (by simp)).trans (World.alloc_heap_new w _)
  have hyw : XB W0 (w.heap.size + 1) y.name y.allow (.slice ya y.pats.length yc) y.keyMin y.lifeMax y.most y.window := by
    rw [← hW0]; have := World.alloc_heap_new (w.alloc (Obj.cells #[.string x.name, .bool x.allow, .slice xa x.pats.length xc, .int .u64 x.keyMin, .int .i64 x.lifeMax, .int .i64 x.most, .int .i64 x.window] 40)) (Obj.cells #[.string y.name, .bool y.allow, .slice ya y.pats.length yc, .int .u64 y.keyMin, .int .i64 y.lifeMax, .int .i64 y.most, .int .i64 y.window] 40); rwa [World.size_alloc] at this
  have f0 := hxv.c0; have f1 := hxv.c1; have f2 := hxv.c2; have f3 := hxv.c3; have f4 := hxv.c4; have f5 := hxv.c5; have f6 := hxv.c6
  have g0 := hyw.c0; have g1 := hyw.c1; have g2 := hyw.c2; have g3 := hyw.c3; have g4 := hyw.c4; have g5 := hyw.c5; have g6 := hyw.c6
  have HE0 := Lib.hid hE0
  rw [hW0]
  clear hW0 hE0 hxv hyw
  refine wp_region_P (fun w' => Ext W0 w') (Below.refl _ _) ?_
  repeat
    first
    | (refine steps_and rfl rfl rfl rfl ?_; simp only [Act.put, List.setIfInBounds_toArray, List.set_cons_succ, List.set_cons_zero])
    | (refine steps_or rfl rfl rfl rfl ?_; simp only [Act.put, List.setIfInBounds_toArray, List.set_cons_succ, List.set_cons_zero])
    | (refine steps_skip rfl ?_; simp only [Act.put, List.setIfInBounds_toArray, List.set_cons_succ, List.set_cons_zero])
    | (refine steps_guard_and rfl rfl rfl rfl rfl ?_; simp only [Act.put, List.setIfInBounds_toArray, List.set_cons_succ, List.set_cons_zero])
    | (refine steps_guard (v := ?_) rfl rfl (fun hb w' hS => ?_) ?_; rotate_left; (focus (have j0 := ext_cell f0 hS; have j1 := ext_cell f1 hS; have j2 := ext_cell f2 hS; have j3 := ext_cell f3 hS; have j4 := ext_cell f4 hS; have j5 := ext_cell f5 hS; have j6 := ext_cell f6 hS; have i0 := ext_cell g0 hS; have i1 := ext_cell g1 hS; have i2 := ext_cell g2 hS; have i3 := ext_cell g3 hS; have i4 := ext_cell g4 hS; have i5 := ext_cell g5 hS; have i6 := ext_cell g6 hS; unfold Gives; go_simp; first | exact is_mk hS | (refine (eqStrs_any x.pats y.pats xa ya xc yc _ ((HX.out.ext HE0.out).ext hS) ((HY.out.ext HE0.out).ext hS) HXL.out HYL.out).mono ?_; rintro e w'' ⟨rfl, h2⟩; exact gave_mk (ext_trans hS h2)))); simp only [Act.put, List.setIfInBounds_toArray, List.set_cons_succ, List.set_cons_zero])
    | (refine steps_guard2 (v := ?_) rfl rfl rfl (fun hb1 hb w' hS => ?_) ?_; rotate_left; (focus (have j0 := ext_cell f0 hS; have j1 := ext_cell f1 hS; have j2 := ext_cell f2 hS; have j3 := ext_cell f3 hS; have j4 := ext_cell f4 hS; have j5 := ext_cell f5 hS; have j6 := ext_cell f6 hS; have i0 := ext_cell g0 hS; have i1 := ext_cell g1 hS; have i2 := ext_cell g2 hS; have i3 := ext_cell g3 hS; have i4 := ext_cell g4 hS; have i5 := ext_cell g5 hS; have i6 := ext_cell g6 hS; unfold Gives; go_simp; first | exact is_mk hS | (refine (eqStrs_any x.pats y.pats xa ya xc yc _ ((HX.out.ext HE0.out).ext hS) ((HY.out.ext HE0.out).ext hS) HXL.out HYL.out).mono ?_; rintro e w'' ⟨rfl, h2⟩; exact gave_mk (ext_trans hS h2)))); simp only [Act.put, List.setIfInBounds_toArray, List.set_cons_succ, List.set_cons_zero])
    | (refine steps_run (v := ?_) rfl (fun w' hS => ?_) ?_; rotate_left; (focus (have j0 := ext_cell f0 hS; have j1 := ext_cell f1 hS; have j2 := ext_cell f2 hS; have j3 := ext_cell f3 hS; have j4 := ext_cell f4 hS; have j5 := ext_cell f5 hS; have j6 := ext_cell f6 hS; have i0 := ext_cell g0 hS; have i1 := ext_cell g1 hS; have i2 := ext_cell g2 hS; have i3 := ext_cell g3 hS; have i4 := ext_cell g4 hS; have i5 := ext_cell g5 hS; have i6 := ext_cell g6 hS; unfold Gives; go_simp; first | exact is_mk hS | (refine (eqStrs_any x.pats y.pats xa ya xc yc _ ((HX.out.ext HE0.out).ext hS) ((HY.out.ext HE0.out).ext hS) HXL.out HYL.out).mono ?_; rintro e w'' ⟨rfl, h2⟩; exact gave_mk (ext_trans hS h2)))); simp only [Act.put, List.setIfInBounds_toArray, List.set_cons_succ, List.set_cons_zero])
  refine steps_end fun w' hE' => ?_
  go_wp2_with fail
  go_ret
  exact ⟨rfl, ext_trans HE0.out hE'⟩
set_option maxRecDepth 100000 in
set_option maxHeartbeats 4000000 in
/-- slices.EqualFunc over rules, by Same's test. -/
theorem EqualR_any (l m : List Rul) (a b : Option Addr) (c1 n1 c2 n2 : Nat) (w : World) (h1 : l.length = n1) (h2 : m.length = n2) (k1 : n1 ≤ c1) (k2 : n2 ≤ c2) (g1 : c1 ≤ maxLen) (hl : Ruls w a l) (hm : Ruls w b m) (D : Bool) (hD : D = true ↔ l = m) :
    Calls Tryz.prog 22 #[.slice a n1 c1, .slice b n2 c2, .func (.func 23) #[] #[]] w (Ret (.bool D) w) := by
  unfold maxLen at g1
  have N1 := Lib.hid h1; have N2 := Lib.hid h2; have HL := Lib.hid hl; have HC := Lib.hid hm; have HD := Lib.hid hD
  clear h1 h2 hl hm hD
  have eg := enters_of Tryz.func23 (by kernel_rfl) rfl
  by_cases hne : n1 = n2
  · subst hne
    have t : ((n1 : Int) != n1) = false := by simp
    go_enter Tryz.func22, Tryz.ntmps22
    go_wp2_with fail
    go_loopw [17] (fun i wr => ∃ k : Nat, k ≤ n1 ∧ i = .int .i64 k ∧ l.take k = m.take k ∧ Ext w wr) (fun i _ => n1 - (intOf i).toNat)
    case atStart => exact ⟨0, Nat.zero_le _, rfl, rfl, Below.refl _ _⟩
    case round =>
      obtain ⟨k, hk, rfl, he, hEr⟩ := hrel
      have HEQ := Lib.hid he; have HER := Lib.hid hEr
      clear he hEr
      by_cases hlt : k < n1
      · obtain ⟨x, hx⟩ := get_some N1.out hlt
        obtain ⟨y, hy⟩ := get_some N2.out hlt
        obtain ⟨bx, ox, rfl, d0, d1, ⟨pa, pc, d2, l1, l2, hps⟩, d3, d4, d5, d6, _, _⟩ := (HL.out.ext HER.out) k x hx
        obtain ⟨by', oy, rfl, e0, e1, ⟨qa, qc, e2, m1, m2, hqs⟩, e3, e4, e5, e6, _, _⟩ := (HC.out.ext HER.out) k y hy
        have HX := Lib.hid hx; have HY := Lib.hid hy; have HPS := Lib.hid hps; have HQS := Lib.hid hqs
        have LX := Lib.hid (show x.pats.length ≤ maxLen by omega); have LY := Lib.hid (show y.pats.length ≤ maxLen by omega)
        have E0 := Lib.hid e0; have E1 := Lib.hid e1; have E2 := Lib.hid e2; have E3 := Lib.hid e3; have E4 := Lib.hid e4; have E5 := Lib.hid e5; have E6 := Lib.hid e6
        have hkc1 : k ≤ c1 := by omega
        have hkc2 : k ≤ c2 := by omega
        clear hx hy hps hqs l1 l2 m1 m2 e0 e1 e2 e3 e4 e5 e6
        have hb1 : bx < wr.heap.size := cell_lt d0
        have hb2 : by' < wr.heap.size := cell_lt E0.out
        have hb3 : by' ≠ wr.heap.size := by omega
        have z0 := ext_cell E0.out (ext_alloc (Below.refl _ wr) (Obj.cells #[.string x.name, .bool x.allow, .slice pa x.pats.length pc, .int .u64 x.keyMin, .int .i64 x.lifeMax, .int .i64 x.most, .int .i64 x.window] 40))
        have z1 := ext_cell E1.out (ext_alloc (Below.refl _ wr) (Obj.cells #[.string x.name, .bool x.allow, .slice pa x.pats.length pc, .int .u64 x.keyMin, .int .i64 x.lifeMax, .int .i64 x.most, .int .i64 x.window] 40))
        have z2 := ext_cell E2.out (ext_alloc (Below.refl _ wr) (Obj.cells #[.string x.name, .bool x.allow, .slice pa x.pats.length pc, .int .u64 x.keyMin, .int .i64 x.lifeMax, .int .i64 x.most, .int .i64 x.window] 40))
        have z3 := ext_cell E3.out (ext_alloc (Below.refl _ wr) (Obj.cells #[.string x.name, .bool x.allow, .slice pa x.pats.length pc, .int .u64 x.keyMin, .int .i64 x.lifeMax, .int .i64 x.most, .int .i64 x.window] 40))
        have z4 := ext_cell E4.out (ext_alloc (Below.refl _ wr) (Obj.cells #[.string x.name, .bool x.allow, .slice pa x.pats.length pc, .int .u64 x.keyMin, .int .i64 x.lifeMax, .int .i64 x.most, .int .i64 x.window] 40))
        have z5 := ext_cell E5.out (ext_alloc (Below.refl _ wr) (Obj.cells #[.string x.name, .bool x.allow, .slice pa x.pats.length pc, .int .u64 x.keyMin, .int .i64 x.lifeMax, .int .i64 x.most, .int .i64 x.window] 40))
        have z6 := ext_cell E6.out (ext_alloc (Below.refl _ wr) (Obj.cells #[.string x.name, .bool x.allow, .slice pa x.pats.length pc, .int .u64 x.keyMin, .int .i64 x.lifeMax, .int .i64 x.most, .int .i64 x.window] 40))
        have e0 := E0.out; have e1 := E1.out; have e2 := E2.out; have e3 := E3.out; have e4 := E4.out; have e5 := E5.out; have e6 := E6.out
        have HV1 : Hid (Value.agg #[.string x.name, .bool x.allow, .slice pa x.pats.length pc, .int .u64 x.keyMin, .int .i64 x.lifeMax, .int .i64 x.most, .int .i64 x.window] = rulV x pa pc) := Lib.hid rfl
        have HV2 : Hid (Value.agg #[.string y.name, .bool y.allow, .slice qa y.pats.length qc, .int .u64 y.keyMin, .int .i64 y.lifeMax, .int .i64 y.most, .int .i64 y.window] = rulV y qa qc) := Lib.hid rfl
        have HSM := Lib.hid (ruleSame_any x y pa qa pc qc _ (HPS.out.ext (ext_alloc (ext_alloc (Below.refl _ wr) (Obj.cells #[.string x.name, .bool x.allow, .slice pa x.pats.length pc, .int .u64 x.keyMin, .int .i64 x.lifeMax, .int .i64 x.most, .int .i64 x.window] 40)) (Obj.cells #[.string y.name, .bool y.allow, .slice qa y.pats.length qc, .int .u64 y.keyMin, .int .i64 y.lifeMax, .int .i64 y.most, .int .i64 y.window] 40))) (HQS.out.ext (ext_alloc (ext_alloc (Below.refl _ wr) _) _)) LX.out LY.out)
        cases hq : sameB x y
        · have HQ := Lib.hid (show D = false by
            rw [Bool.eq_false_iff]; intro e0
            have e := HD.out.1 e0
            have h1 := HX.out; have h2 := HY.out
            rw [e, h2] at h1
            have h3 := same_iff.2 (Option.some.inj h1.symm)
            rw [hq] at h3; cases h3)
          have HB := Lib.hid hq
          clear hq
          go_wp2_with (go_at_call 23; rw [HV1.out, HV2.out]; refine HSM.out.mono ?_; rintro e w1 ⟨rfl, hE1⟩; rw [HB.out]; have HE1 := Lib.hid (ext_trans (ext_alloc (ext_alloc (Below.refl _ wr) _) _) hE1); clear hE1)
          go_ret
          exact ⟨by rw [HQ.out]; rfl, ext_trans HER.out HE1.out⟩
        · have HQ := Lib.hid (take_snoc_eq HEQ.out HX.out HY.out (same_iff.1 hq))
          have HB := Lib.hid hq
          clear hq
          go_wp2_with (go_at_call 23; rw [HV1.out, HV2.out]; refine HSM.out.mono ?_; rintro e w1 ⟨rfl, hE1⟩; rw [HB.out]; have HE1 := Lib.hid (ext_trans (ext_alloc (ext_alloc (Below.refl _ wr) _) _) hE1); clear hE1)
          go_roundw
          case rel => exact ⟨k + 1, by omega, by go_num, HQ.out, ext_trans HER.out HE1.out⟩
          case measure => simp [intOf]; omega
      · obtain rfl : k = n1 := by omega
        have HQ := Lib.hid (show D = true by
          have := HEQ.out
          rw [List.take_of_length_le (by rw [N1.out]; exact Nat.le_refl _), List.take_of_length_le (by rw [N2.out]; exact Nat.le_refl _)] at this
          exact HD.out.2 this)
        go_wp2_with fail
        go_ret
        exact ⟨by rw [HQ.out]; rfl, HER.out⟩
  · have HQ := Lib.hid (show D = false by
      rw [Bool.eq_false_iff]; intro e0; have e := HD.out.1 e0; exact hne (by rw [← N1.out, ← N2.out, e]))
    have t : ((n1 : Int) != n2) = true := by simp; omega
    go_enter Tryz.func22, Tryz.ntmps22
    go_wp2_with fail
    go_ret
    exact ⟨by rw [HQ.out]; rfl, Below.refl _ _⟩
theorem rSame_any (l m : List Rul) (a b : Option Addr) (c1 n1 c2 n2 : Nat) (w : World) (h1 : l.length = n1) (h2 : m.length = n2) (k1 : n1 ≤ c1) (k2 : n2 ≤ c2) (g1 : c1 ≤ maxLen) (hl : Ruls w a l) (hm : Ruls w b m) (D : Bool) (hD : D = true ↔ l = m) :
    Calls Tryz.prog 14 #[.slice a n1 c1, .slice b n2 c2] w (Ret (.bool D) w) := by
  have HR := Lib.hid (EqualR_any l m a b c1 n1 c2 n2 w h1 h2 k1 k2 g1 hl hm D hD)
  clear h1 h2 hl hm hD
  go_enter Tryz.func14, Tryz.ntmps14
  go_wp2_with fail
  refine HR.out.mono ?_
  rintro e w1 ⟨rfl, hE⟩
  have HE := Lib.hid hE
  clear hE
  go_wp2_with fail
  go_ret
  exact ⟨rfl, HE.out⟩
end Go.Proofs.YteemkkmkkgfofaaGreatDoor
namespace Go.Proofs.YteemkkmkkgfofaaGreatDoor
open Go.RowKit Nam Pol Go.Maps
attribute [local go_sem] gv_of

theorem dec_step {m : Nat} (h : ¬ m < 10) : Lib.decDigits m = Lib.decDigits (m / 10) ++ [UInt8.ofNat (48 + m % 10)] := by
  conv => lhs; rw [Lib.decDigits]
  rw [dif_neg h]
theorem dec_last {m : Nat} (h : m < 10) : Lib.decDigits m = [UInt8.ofNat (48 + m % 10)] := by
  rw [Lib.decDigits, dif_pos h, Nat.mod_eq_of_lt h]
def digS : ByteArray := ⟨#[48, 49, 50, 51, 52, 53, 54, 55, 56, 57]⟩
theorem dig_cut (d : Nat) (h : d < 10) : digS.extract d (d + 1) = bA [UInt8.ofNat (48 + d)] := by
  have : ∀ d : Fin 10, (digS.extract d.1 (d.1 + 1)).data.toList = [UInt8.ofNat (48 + d.1)] := by decide
  exact bytes_eq (this ⟨d, h⟩)
theorem bA_app (s t : Str) : bA s ++ bA t = bA (s ++ t) := bytes_eq (by simp [bA])
set_option maxRecDepth 100000 in
set_option maxHeartbeats 2000000 in
theorem decimal_any (u : Nat) (hu : u < 18446744073709551616) (w : World) : Calls Tryz.prog 49 #[.int .u64 u] w (Ret (.string (bA (Lib.decDigits u))) w) := by
  have hu20 : u < 10 ^ 20 := by omega
  have HU := Lib.hid hu20
  clear hu20
  go_enter Tryz.func49, Tryz.ntmps49
  go_wp2_with fail
  go_loopw [0, 3, 4] (fun n s i wr => ∃ (m k : Nat) (t : Str), wr = w ∧ k ≤ 20 ∧ t.length ≤ k ∧ n = .int .u64 m ∧ s = .string (bA t) ∧ i = .int .i64 k ∧ m < 18446744073709551616 ∧ m < 10 ^ (20 - k) ∧ (k = 0 ∨ 0 < m) ∧ Lib.decDigits u = Lib.decDigits m ++ t) (fun _ _ i _ => 20 - (intOf i).toNat)
  case atStart => exact ⟨u, 0, [], rfl, Nat.zero_le _, Nat.zero_le _, rfl, rfl, rfl, hu, HU.out, .inl rfl, by simp⟩
  case round =>
    obtain ⟨m, k, t, rfl, hk, htl, rfl, rfl, rfl, hm, hmk, h0, hd⟩ := hrel
    have HMK := Lib.hid hmk; have H0 := Lib.hid h0; have HD := Lib.hid hd
    clear hmk h0 hd
    by_cases hlt : k < 20
    · have hd10 : m % 10 < 10 := Nat.mod_lt _ (by decide)
      have HDC := Lib.hid (dig_cut (m % 10) hd10)
      by_cases h10 : m < 10
      · have HR := Lib.hid (dec_last h10)
        have hz : (((m : Int) / 10) == 0) = true := by simp; omega
        go_wp2_with fail
        go_ret
        refine ⟨?_, Below.refl _ _⟩
        rw [show ({ data := #[48, 49, 50, 51, 52, 53, 54, 55, 56, 57] } : ByteArray) = digS from rfl, HDC.out, bA_app, HD.out, HR.out]
        rfl
      · have HR := Lib.hid (dec_step h10)
        have hz : (((m : Int) / 10) == 0) = false := by simp; omega
        go_wp2_with fail
        go_roundw
        case rel =>
          refine ⟨m / 10, k + 1, UInt8.ofNat (48 + m % 10)   :: t, by first | rfl | trivial, by omega, by simp; omega, by go_num, ?_, by go_num, by omega, ?_, .inr (by omega), ?_⟩
          · rw [show ({ data := #[48, 49, 50, 51, 52, 53, 54, 55, 56, 57] } : ByteArray) = digS from rfl, HDC.out, bA_app]; rfl
          · have h1 := HMK.out
            obtain ⟨j, hj⟩ : ∃ j, 20 - k = j + 1 := ⟨20 - k - 1, by omega⟩
            rw [hj, Nat.pow_succ] at h1
            rw [show 20 - (k + 1) = j by omega]
            omega
          · rw [HD.out, HR.out]; simp
        case measure => simp [intOf]; omega
    · exfalso
      obtain rfl : k = 20 := by omega
      have := HMK.out
      have := H0.out
      omega
end Go.Proofs.YteemkkmkkgfofaaGreatDoor
namespace Go.Proofs.YteemkkmkkgfofaaGreatDoor
open Go.RowKit Nam Pol Go.Maps
attribute [local go_sem] gv_of

/-- The table of powers of ten stands. -/
def Pow (w : World) : Prop := Lib.TabIs Tryz.prog w "internal/strconv.uint64pow10" .u64 Lib.pow10Tab
theorem Pow.ext {w w' : World} (h : Pow w) (hE : Ext w w') : Pow w' := by
  unfold Pow Lib.TabIs at h ⊢
  unfold World.var? at h ⊢
  cases hg : Tryz.prog.globalNamed "internal/strconv.uint64pow10" with
  | none => rw [hg] at h; cases h
  | some g =>
    rw [hg] at h
    simp only [Option.bind_some] at h ⊢
    rcases Nat.lt_or_ge g w.heap.size with hlt | hge
    · rw [hE.block g hlt]; exact h
    · rw [Array.getElem?_eq_none hge] at h; cases h
set_option maxRecDepth 100000 in
set_option maxHeartbeats 2000000 in
theorem ifmt_any (u : Nat) (h1 : 1 ≤ u) (h2 : u < 18446744073709551616) (w : World) (hp : Pow w) : Calls Tryz.prog 47 #[.int .u64 u, .int .i64 10] w (Ret (.string (bA (Lib.decDigits u))) w) := by
  by_cases hs : u < 100
  · go_enter Tryz.func47, Tryz.ntmps47
    go_wp2_with (go_at_call 72; refine (Tryz.internal_strconv_small u hs _).mono ?_; rintro e w' ⟨rfl, rfl⟩)
    go_ret
    exact ⟨rfl, Below.refl _ _⟩
  · have hnd20 : Lib.nDigits u ≤ 20 := by have := Lib.numDigits_eq u h1 h2; split at this <;> omega
    obtain ⟨nd, hnd⟩ : ∃ nd, Lib.nDigits u = nd := ⟨_, rfl⟩
    have hal : Tryz.prog.arrayLen 98 = 24 := by kernel_rfl
    have hel : Tryz.prog.elem 98 = 5 := by kernel_rfl
    have hsl : ∀ W, (Instr.sliceAt 98 (.pointer (some ⟨w.heap.size, 0, none⟩)) none (some (.int .i64 (nd : Int))) none).run Tryz.prog W = .ok (.slice (some ⟨w.heap.size, 0, none⟩) nd 24) W := fun W => by
      rw [run_sliceAt_array_h W 98 ⟨w.heap.size, 0, none⟩ (by kernel_rfl) .i64 (nd : Int) (by omega) (by rw [hal]; omega)]
      rw [hal, hel]
      go_simp
    have hH0 := Lib.holds_zero0 w 98 nd (by omega)
    have hfmt := Tryz.internal_strconv_formatBase10 w.heap.size 0 24 u (Array.replicate nd 0) (w.alloc (.cells Lib.zeros24 98)) hH0 (by rw [Array.size_replicate, ← hnd]; exact Lib.lt_pow_nDigits u) h2 (by rw [Array.size_replicate]; omega)
    rw [Array.size_replicate] at hfmt
    have HND := Lib.hid (Tryz.internal_strconv_numDigits u h1 h2 (w.alloc (.cells Lib.zeros24 98)) (hp.ext (ext_alloc (Below.refl _ _) _)))
    have HF := Lib.hid hfmt; have HH0 := Lib.hid hH0; have HN := Lib.hid hnd
    rw [hnd] at HND
    clear hH0 hal hel hfmt hnd
    go_enter Tryz.func47, Tryz.ntmps47
    go_wp2_with fail
    refine HND.out.mono ?_
    rintro e w1 ⟨rfl, rfl⟩
    go_wp2_with fail
    refine HF.out.mono ?_
    rintro e w1 ⟨rfl, k, v', dk, rfl, hF⟩
    have hcv : (convert 28 9 (.slice (some ⟨w.heap.size, 0, none⟩) nd 24)).run Tryz.prog ((Go.Sort.putRow (fun (b : UInt8) => Value.int .u8 (b.toNat : Int)) (w.alloc (.cells Lib.zeros24 98)) w.heap.size 0 dk).drewN k) = .ok (.string (bA (Lib.decDigits u))) ((Go.Sort.putRow (fun (b : UInt8) => Value.int .u8 (b.toNat : Int)) (w.alloc (.cells Lib.zeros24 98)) w.heap.size 0 dk).drewN k) := by
      rw [← HN.out] at hF
      have h := run_convert_bytes_back (P := Tryz.prog) ((Go.Sort.putRow (fun (b : UInt8) => Value.int .u8 (b.toNat : Int)) (w.alloc (.cells Lib.zeros24 98)) w.heap.size 0 dk).drewN k) 28 9 5 ⟨w.heap.size, 0, none⟩ 24 (Lib.decDigits u) Tryz.underlying28 Tryz.underlying5 Tryz.underlying9 (fun j hj => by
        rw [Lib.row_is_numeral hF j hj, Lib.add_plain, World.cell?_drewN]
        exact Go.Sort.cell?_putRow (fun (b : UInt8) => Value.int .u8 (b.toNat : Int)) _ w.heap.size 0 _ dk HH0.out (by rw [hF.size, Array.size_replicate, HN.out]) j (by rw [hF.size]; rw [Lib.decDigits_length] at hj; exact hj))
      rw [Lib.decDigits_length, HN.out] at h
      exact h
    clear hF
    go_wp2_with fail
    go_ret
    obtain ⟨os, eo⟩ := Lib.fin_at w (.cells Lib.zeros24 98) dk k 0
    refine ⟨rfl, ?_⟩
    rw [eo]
    exact Lib.below_grow _ _ (Nat.le_refl _) _ _
theorem fmt_any (u : Nat) (h1 : 1 ≤ u) (h2 : u < 18446744073709551616) (w : World) (hp : Pow w) : Calls Tryz.prog 28 #[.int .u64 u, .int .i64 10] w (Ret (.string (bA (Lib.decDigits u))) w) := by
  have HF := Lib.hid (ifmt_any u h1 h2 w hp)
  go_enter Tryz.func28, Tryz.ntmps28
  go_wp2_with fail
  refine HF.out.mono ?_
  rintro e w1 ⟨rfl, hE⟩
  have HE := Lib.hid hE
  clear hE
  go_wp2_with fail
  go_ret
  exact ⟨rfl, HE.out⟩
theorem itoa_any (n : Nat) (h : n ≤ 9223372036854775807) (w : World) (hp : Pow w) : Calls Tryz.prog 29 #[.int .i64 n] w (Ret (.string (bA (Lib.decDigits n))) w) := by
  refine (Tryz.strconv_Itoa (n : Int) (by omega) (by omega) w hp).mono ?_
  rintro e w' ⟨rfl, k, os, rfl⟩
  exact ⟨by rw [Lib.itoa_nonneg], Lib.below_grow _ _ (Nat.le_refl _) _ _⟩
theorem join_eq (l : List ByteArray) : Lib.join (l.map (·.data.toList)) [44, 32] = joinP l := by
  unfold Lib.join
  induction l with
  | nil => rfl
  | cons p l ih =>
    cases l with
    | nil => simp [List.intercalate, joinP]
    | cons q l =>
      simp only [List.map_cons] at ih ⊢
      rw [List.intercalate_cons_cons, ih, List.append_assoc]
      rfl
theorem joined_any {l : List ByteArray} {a : Option Addr} {k c : Nat} {w : World} (hk : l.length = k) (hc : k ≤ c) (hb : k ≤ 140737488355328) (hlen : (joinP l).length ≤ 140737488355328) (h : Strs w a l) :
    Calls Tryz.prog 27 #[.slice a k c, .string ⟨#[44, 32]⟩] w (Ret (.string (bA (joinP l))) w) := by
  subst hk
  cases l with
  | nil =>
    refine (Tryz.strings_Join_none a c ⟨#[44, 32]⟩ w).mono ?_
    rintro e w' ⟨rfl, rfl⟩
    exact ⟨rfl, Below.refl _ _⟩
  | cons y l =>
    obtain ⟨b, o, rfl, hc0, _⟩ := h 0 y rfl
    refine (Tryz.strings_Join b o c (y :: l) ⟨#[44, 32]⟩ w (fun j x hx => ?_) (cell_lt hc0) hb hc (by rw [join_eq]; exact hlen)).mono ?_
    · obtain ⟨b', o', hb', h1, _⟩ := h j x hx
      cases hb'
      rwa [Nat.mul_one] at h1
    · rintro e w' ⟨rfl, hE⟩
      rw [join_eq]
      exact ⟨rfl, hE⟩
end Go.Proofs.YteemkkmkkgfofaaGreatDoor
namespace Go.Proofs.YteemkkmkkgfofaaGreatDoor
open Go.RowKit

/-- The wide fence, in a round or in none. -/
def Wd (r : Option Nat) : Fence := { Fence.wide with round := r }
section
variable {P : Program} {ops : Array Oper} {Q : Exit → Act → World → Prop} {S : (Nat → Prop) → World → Prop} {r : Option Nat}
theorem wpIn_of_gives {o : Oper} {a : Act} {w : World} {G : Value → World → Prop} (hd : ∀ c, o.op ≠ .defer c) (h : Gives P o a w G) {K : Act → World → Prop} (hK : ∀ v w', G v w' → K (a.put o.dst v) w') : o.wpIn (Wd r) 0 P a w K Q := by
  refine ⟨fun _ _ => trivial, ?_⟩
  show o.uponIn (Wd r) 0 P a K Q ((o.semAt r a.eval).run P w)
  rw [Oper.semAt_eq _ _ _ hd]
  unfold Gives at h
  split at h
  · rename_i e; rw [e]; exact hK _ _ h
  · rename_i e; rw [e]; exact hK _ _ h
  · rename_i f args w' e
    rw [e]
    refine ⟨fun h => by simp [Wd, Fence.wide] at h, ?_⟩
    refine CallsIn.mono (F := Wd r) (callsIn_wide.2 h) ?_
    rintro e w'' ⟨v, rfl, hg⟩
    exact hK _ _ hg
  · exact h.elim
/-- Operation i of the walk, L having run: its value is v. -/
def StepL (P : Program) (ops : Array Oper) (S : (Nat → Prop) → World → Prop) (i : Nat) (o : Oper) (a : Act) (v : Value) : Prop :=
  Region.wanted o (yielded ops a.tmps) = true ∧ ∀ L w, S L w → ¬ L i → (∀ j, waits ops i j = true → L j) → (∀ j k, L j → waits ops j k = true → L k) → Gives P o a w (Is v (S (fun k => L k ∨ k = i)))
def StepsL (P : Program) (ops : Array Oper) (S : (Nat → Prop) → World → Prop) : Nat → List Oper → Act → (Act → Prop) → Prop
  | _, [], a, F => F a
  | i, o :: os, a, F => ∃ v, StepL P ops S i o a v ∧ StepsL P ops S (i + 1) os (a.put o.dst v) F
theorem stepsL_run {i : Nat} {o : Oper} {os : List Oper} {a : Act} {v : Value} {F : Act → Prop} (hg : o.guard = none) (h : ∀ L w, S L w → ¬ L i → (∀ j, waits ops i j = true → L j) → (∀ j k, L j → waits ops j k = true → L k) → Gives P o a w (Is v (S (fun k => L k ∨ k = i))))
    (hs : StepsL P ops S (i + 1) os (a.put o.dst v) F) : StepsL P ops S i (o :: os) a F := ⟨v, ⟨by unfold Region.wanted; rw [hg], h⟩, hs⟩
theorem stepsL_end {i : Nat} {a : Act} {F : Act → Prop} (h : F a) : StepsL P ops S i [] a F := h
inductive ValsL (P : Program) (ops : Array Oper) (S : (Nat → Prop) → World → Prop) (a0 : Act) : Nat → List Value → Act → Prop
  | nil : ValsL P ops S a0 0 [] a0
  | snoc {i : Nat} {vs : List Value} {a : Act} {o : Oper} {v : Value} : ValsL P ops S a0 i vs a → ops[i]? = some o → StepL P ops S i o a v → ValsL P ops S a0 (i + 1) (vs ++ [v]) (a.put o.dst v)
theorem valsL_of_steps {a0 : Act} {F : Act → Prop} : ∀ (os : List Oper) (i : Nat) (vs : List Value) (a : Act), ValsL P ops S a0 i vs a → ops.toList.drop i = os → StepsL P ops S i os a F → ∃ vs' a', ValsL P ops S a0 ops.size vs' a' ∧ F a'
  | [], i, vs, a, hv, hd, hs => by
    have hle : ops.size ≤ i := by have := congrArg List.length hd; simp at this; omega
    have hi : i ≤ ops.size := by
      clear hs hd
      induction hv with
      | nil => omega
      | snoc _ ho _ _ => have := (Array.getElem?_eq_some_iff.1 ho).1; omega
    obtain rfl : i = ops.size := by omega
    exact ⟨vs, a, hv, hs⟩
  | o :: os, i, vs, a, hv, hd, hs => by
    obtain ⟨v, h1, h2⟩ := hs
    have ho : ops[i]? = some o := by
      have := congrArg (fun l => l[0]?) hd
      simpa using this
    refine valsL_of_steps os (i + 1) (vs ++ [v]) _ (hv.snoc ho h1) ?_ h2
    rw [← List.drop_drop, hd]; rfl
theorem valsL_length {a0 : Act} {n : Nat} {vs : List Value} {a : Act} (h : ValsL P ops S a0 n vs a) : vs.length = n := by
  induction h with
  | nil => rfl
  | snoc _ _ _ ih => simp [ih]
theorem valsL_at {a0 : Act} (hord : orderly ops = true) : ∀ {n : Nat} {vs : List Value} {a : Act}, ValsL P ops S a0 n vs a →
    Agree ops a0 vs (fun k => k < n) a ∧ ∀ i o, i < n → ops[i]? = some o → ∃ ai v, vs[i]? = some v ∧ StepL P ops S i o ai v ∧ Agree ops a0 vs (fun k => k < i) ai := by
  intro n vs a h
  induction h with
  | nil => exact ⟨⟨rfl, rfl, fun _ _ => rfl, fun i _ _ _ hi => by omega⟩, fun i _ hi => by omega⟩
  | @snoc i vs a o v hv ho hs ih =>
    obtain ⟨ih1, ih2⟩ := ih
    have hl := valsL_length hv
    have more : ∀ {L : Nat → Prop} {b : Act}, (∀ k, L k → k < i) → Agree ops a0 vs L b → Agree ops a0 (vs ++ [v]) L b := fun hL hb =>
      ⟨hb.defers, hb.size, hb.old, fun k ok u t hk hok hdk hu ht => hb.new k ok u t hk hok hdk (by rw [List.getElem?_append_left (by rw [hl]; exact hL k hk)] at hu; exact hu) ht⟩
    have hvi : (vs ++ [v])[i]? = some v := by rw [List.getElem?_append_right (by omega), hl]; simp
    refine ⟨?_, fun k ok hk hok => ?_⟩
    · have := (more (fun k hk => hk) ih1).put hord ho hvi
      exact ⟨this.defers, this.size, fun t ht => this.old t (fun k ok hk => ht k ok (by have hk' : k < i ∨ k = i := hk; omega)), fun k ok u t hk => this.new k ok u t (by have hk' : k < i + 1 := hk; show k < i ∨ k = i; omega)⟩
    · by_cases hki : k = i
      · subst hki
        rw [ho] at hok; cases hok
        exact ⟨a, v, hvi, hs, more (fun k hk => hk) ih1⟩
      · obtain ⟨ai, u, h1, h2, h3⟩ := ih2 k ok (by omega) hok
        exact ⟨ai, u, by rw [List.getElem?_append_left (by omega)]; exact h1, h2, more (fun j hj => by omega) h3⟩
/-- Where the drawn order stands. -/
structure InvL (ops : Array Oper) (S : (Nat → Prop) → World → Prop) (a0 : Act) (vs : List Value) (listed : Array Bool) (a : Act) (w : World) : Prop where
  world : S (fun k => listed[k]? = some true) w
  size : listed.size = ops.size
  agree : Agree ops a0 vs (fun k => listed[k]? = some true) a
  closed : ∀ i j, listed[i]? = some true → waits ops i j = true → listed[j]? = some true
theorem wpAny_of_valsL {a0 a' : Act} {vs : List Value} (hord : orderly ops = true) (hf : forwards ops = true) (hedge : ∀ i j, waits ops i j = true → j < ops.size) (hsel : Region.noSelect ops = true) (hdef : ∀ (i : Nat) (o : Oper) c, ops[i]? = some o → o.op ≠ .defer c)
    (hv : ValsL P ops S a0 ops.size vs a') (hfin : ∀ L w, (∀ i, i < ops.size → L i) → S L w → Q .normal a' w) :
    ∀ (fuel : Nat) (listed : Array Bool) (a : Act) (w : World), (listed.toList.count false) ≤ fuel → InvL ops S a0 vs listed a w → wpAnyIn (Wd r) 0 P .any ops Q fuel listed a w := by
  obtain ⟨hA', hsteps⟩ := valsL_at hord hv
  have hlen := valsL_length hv
  have done : ∀ (listed : Array Bool) (a : Act) (w : World), InvL ops S a0 vs listed a w → (∀ i, i < ops.size → listed[i]? = some true) → Q .normal a w := fun listed a w hI hall => by
    have : a = a' := by
      obtain ⟨t1, d1⟩ := a; obtain ⟨t2, d2⟩ := a'
      have hs : t1.size = t2.size := hI.agree.size.trans hA'.size.symm
      have hd : d1 = d2 := hI.agree.defers.trans hA'.defers.symm
      have ht : t1 = t2 := by
        apply Array.ext_getElem?
        intro t
        by_cases hw : ∃ (j : Nat) (oj : Oper), ops[j]? = some oj ∧ oj.dst = some t
        · obtain ⟨j, oj, hj, hdj⟩ := hw
          have hjl := (Array.getElem?_eq_some_iff.1 hj).1
          have hvj : vs[j]? = some (vs[j]'(by omega)) := List.getElem?_eq_getElem (by omega)
          by_cases hts : t < a0.tmps.size
          · exact (hI.agree.new j oj _ t (hall j hjl) hj hdj hvj hts).trans (hA'.new j oj _ t hjl hj hdj hvj hts).symm
          · rw [Array.getElem?_eq_none (by have := hI.agree.size; simp only at this; omega), Array.getElem?_eq_none (by have := hA'.size; simp only at this; omega)]
        · exact (hI.agree.old t (fun k ok _ hok hdk => hw ⟨k, ok, hok, hdk⟩)).trans (hA'.old t (fun k ok _ hok hdk => hw ⟨k, ok, hok, hdk⟩)).symm
      rw [ht, hd]
    rw [this]; exact hfin _ w hall hI.world
  intro fuel
  induction fuel with
  | zero =>
    intro listed a w hc hI
    have hall : ∀ i, i < ops.size → listed[i]? = some true := fun i hi => by
      have hil : i < listed.size := by rw [hI.size]; exact hi
      cases hl : listed[i]'hil with
      | true => rw [Array.getElem?_eq_getElem hil, hl]
      | false =>
        have h1 : List.count false listed.toList = 0 := by omega
        have := List.count_eq_zero.1 h1
        exact absurd (by rw [← hl]; simp : false ∈ listed.toList) this
    refine ⟨?_, done listed a w hI hall⟩
    unfold Region.ready
    rw [List.filter_eq_nil_iff]
    intro i hi
    have := hall i (by simpa using hi)
    simp [Array.getD_eq_getD_getElem?, this]
  | succ fuel ih =>
    intro listed a w hc hI
    refine ⟨fun hr => done listed a w hI (ready_of_unlisted hf hI.size hedge hr), fun i hi => ?_⟩
    obtain ⟨⟨o, ho⟩, hl, hr⟩ := ready_spec hi
    have hil := (Array.getElem?_eq_some_iff.1 ho).1
    have hils : i < listed.size := by rw [hI.size]; exact hil
    have hlf : listed[i]'hils = false := by simpa [Array.getD, hils] using hl
    have hLi : ¬ listed[i]? = some true := by rw [Array.getElem?_eq_getElem hils, hlf]; simp
    have hready : ∀ j, waits ops i j = true → listed[j]? = some true := fun j hj => by
      have := hr j hj
      rw [Array.getD_eq_getD_getElem?] at this
      cases h : listed[j]? with
      | none => rw [h] at this; cases this
      | some b => rw [h] at this; simp at this; rw [this]
    obtain ⟨ai, v, hvi, ⟨hwt, hst⟩, hag⟩ := hsteps i o hil ho
    have hslots := same_slots hord ho hlen hI.agree hag hLi hready (fun j hj hw => hI.closed j i hj hw)
    have hset : ∀ k, (listed.setIfInBounds i true)[k]? = some true ↔ (listed[k]? = some true ∨ k = i) := fun k => by
      by_cases hki : k = i
      · subst hki; rw [Array.getElem?_setIfInBounds_self, if_pos hils]; simp
      · rw [Array.getElem?_setIfInBounds_ne (fun e => hki e.symm)]; simp [hki]
    have hnext : ∀ w', S (fun k => listed[k]? = some true ∨ k = i) w' → wpAnyIn (Wd r) 0 P .any ops Q fuel (listed.setIfInBounds i true) (a.put o.dst v) w' := fun w' hw' => by
      refine ih _ _ _ ?_ ⟨by rw [show (fun k => (listed.setIfInBounds i true)[k]? = some true) = fun k => (listed[k]? = some true ∨ k = i) from funext fun k => propext (hset k)]; exact hw', by simp [hI.size], ?_, fun k j hk hw => ?_⟩
      · have hcnt : List.count false (listed.setIfInBounds i true).toList + 1 = List.count false listed.toList := by
          rw [Array.toList_setIfInBounds]
          exact count_set_true _ i (by simpa using hils) (by simpa using hlf)
        omega
      · have := hI.agree.put hord ho hvi
        exact ⟨this.defers, this.size, fun t ht => this.old t (fun k ok hk => ht k ok ((hset k).2 hk)), fun k ok u t hk => this.new k ok u t ((hset k).1 hk)⟩
      · rcases (hset k).1 hk with hk | rfl
        · exact (hset j).2 (.inl (hI.closed k j hk hw))
        · exact (hset j).2 (.inl (hready j hw))
    refine wpOpIn_step ho (fun K' hK' => ?_)
    rw [wanted_same hslots, hwt, if_pos rfl]
    refine wpIn_of_gives (fun c => hdef i o c ho) (gives_same (exec_same (fun cs b => Region.noSelect_spec hsel i o cs b ho) hslots) (hst _ w hI.world hLi hready hI.closed)) ?_
    rintro u w' ⟨rfl, hw'⟩
    exact hK' _ _ (hnext w' hw')
def noDefer (ops : Array Oper) : Bool := ops.all fun o => match o.op with | .defer _ => false | _ => true
/-- THE LAW: a region that draws its order, walked once. -/
theorem wpIn_region_L {id : Nat} {a : Act} {w : World} (hm : P.follows .mixedOrders = true) (hord : orderly ops = true) (hf : forwards ops = true) (hedge : ((List.range ops.size).all fun i => ((ops[i]?).map fun o => o.after.all fun e => decide (e.on < ops.size)).getD true) = true)
    (hsel : Region.noSelect ops = true) (hdef : noDefer ops = true) (S : (Nat → Prop) → World → Prop) (h0 : S (fun _ => False) w.drew) (hs : StepsL P ops S 0 ops.toList a fun a' => ∀ L w', (∀ i, i < ops.size → L i) → S L w' → Q .normal a' w') : (Code.region id ops true).wpIn (Wd r) 0 P Q a w := by
  refine wpIn_region_any hm ?_
  obtain ⟨vs, a', hv, hfin⟩ := valsL_of_steps ops.toList 0 [] a .nil rfl hs
  have hedge' : ∀ i j, waits ops i j = true → j < ops.size := fun i j hw => by
    unfold waits at hw
    cases ho : ops[i]? with
    | none => rw [ho] at hw; cases hw
    | some o =>
      rw [ho] at hw
      simp only [Option.map_some, Option.getD_some, Array.any_eq_true] at hw
      obtain ⟨x, hx, h2⟩ := hw
      rw [Bool.and_eq_true, beq_iff_eq] at h2
      have h1 := List.all_eq_true.1 hedge i (by simpa using (Array.getElem?_eq_some_iff.1 ho).1)
      rw [ho] at h1
      simp only [Option.map_some, Option.getD_some, Array.all_eq_true] at h1
      have := h1 x hx
      rw [← h2.2]; simpa using this
  have hdef' : ∀ (i : Nat) (o : Oper) c, ops[i]? = some o → o.op ≠ .defer c := fun i o c ho e => by
    obtain ⟨hi, rfl⟩ := Array.getElem?_eq_some_iff.1 ho
    have := Array.all_eq_true.1 hdef i hi
    rw [e] at this
    cases this
  have hemp : (fun k => (Array.replicate ops.size false)[k]? = some true) = fun _ => False := funext fun k => propext (Iff.intro (fun h => by
    rw [Array.getElem?_replicate] at h
    split at h <;> cases h) (fun h => h.elim))
  refine wpAny_of_valsL hord hf hedge' hsel hdef' hv hfin ops.size _ a _ (by simp) ⟨by rw [hemp]; exact h0, by simp, ⟨rfl, rfl, fun _ _ => rfl, fun i _ _ _ hi => ?_⟩, fun i j hi => ?_⟩
  · rw [Array.getElem?_replicate] at hi; split at hi <;> cases hi
  · rw [Array.getElem?_replicate] at hi; split at hi <;> cases hi
end
end Go.Proofs.YteemkkmkkgfofaaGreatDoor
