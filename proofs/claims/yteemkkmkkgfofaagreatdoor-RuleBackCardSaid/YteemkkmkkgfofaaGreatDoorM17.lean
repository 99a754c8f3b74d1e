/- Walks: rule.Parse. Walks of the document's functions on rules: Same. Names, in plain Lean: what is above what; patterns, within and meeting. Policies, in plain Lean: who decides of a name: the nearest pattern's first rule. No program in sight. Policies, in plain Lean: which rules clash. No program in sight. Policies, in plain Lean: the tree of patterns. No program in sight. -/
import Derived.Test.YteemkkmkkgfofaaGreatDoorM16
import Derived.Deep.RegionHeld3
import Derived.Defers
import Derived.Recover
import Derived.RegionTactic
import Derived.ChangeAlike
import Derived.Test.YteemkkmkkgfofaaGreatDoorM12
import Derived.Test.YteemkkmkkgfofaaGreatDoorM08
import Derived.Test.YteemkkmkkgfofaaGreatDoorM03
namespace Go.Proofs.YteemkkmkkgfofaaGreatDoor
open Go.RowKit Nam Pol Go.Maps
attribute [local go_sem] gv_of

set_option maxRecDepth 100000 in
theorem catch_idle (lb ab eb : Nat) (w : World) :
    CallsD Tryz.prog 32 #[.pointer (some ⟨lb, 0, none⟩), .pointer (some ⟨ab, 0, none⟩), .pointer (some ⟨eb, 0, none⟩)] .returning w fun e u' w' => e = .returned (.tuple #[]) ∧ u' = .returning ∧ w' = w := by
  refine callsD_of_wpS Tryz.func32 rfl fun c₀ cs hu => ?_
  apply wpS_seq
  apply wpS_region
  simp [wpOpsS, go_sem, recoverD, hu, Tryz.ntmps32, Exit.thenS]
  refine wpS_of_wp ?_
  go_wp2_with fail
  cases c₀
  simp_all [bodyPostS, results, Tryz.results32]
theorem catch_mem {w W : World} {lb ab eb : Nat} {t1 t2 t3 : TypeId} {lv av ev x y z : Value} (hE : Ext w W) (h1 : Boxed w lb t1 lv) (h2 : Boxed w ab t2 av) (h3 : Boxed w eb t3 ev) (n1 : lb ≠ ab) (n2 : lb ≠ eb) (n3 : ab ≠ eb) :
    Boxed (((W.setCell ⟨lb, 0, none⟩ x).setCell ⟨ab, 0, none⟩ y).setCell ⟨eb, 0, none⟩ z).drew lb t1 x ∧ Boxed (((W.setCell ⟨lb, 0, none⟩ x).setCell ⟨ab, 0, none⟩ y).setCell ⟨eb, 0, none⟩ z).drew ab t2 y ∧
      Boxed (((W.setCell ⟨lb, 0, none⟩ x).setCell ⟨ab, 0, none⟩ y).setCell ⟨eb, 0, none⟩ z).drew eb t3 z ∧ Fr (fun b => b = lb ∨ b = ab ∨ b = eb) w (((W.setCell ⟨lb, 0, none⟩ x).setCell ⟨ab, 0, none⟩ y).setCell ⟨eb, 0, none⟩ z).drew := by
  have a1 := Boxed.set x (ext_boxed hE h1)
  have a2 := Boxed.other (ext_boxed hE h2) n1.symm x
  have a3 := Boxed.other (ext_boxed hE h3) n2.symm x
  have b1 := Boxed.other a1 n1 y
  have b2 := Boxed.set y a2
  have b3 := Boxed.other a3 n3.symm y
  refine ⟨Boxed.other b1 n2 z, Boxed.other b2 n3 z, Boxed.set z b3, ?_⟩
  exact (((((Fr.of_ext hE).trans (Fr.setCell _ ⟨lb, 0, none⟩ x (.inl rfl))).trans (Fr.setCell _ ⟨ab, 0, none⟩ y (.inr (.inl rfl)))).trans (Fr.setCell _ ⟨eb, 0, none⟩ z (.inr (.inr rfl)))).trans (Fr.drew _ _))
set_option maxRecDepth 100000 in
set_option maxHeartbeats 4000000 in
theorem catch_stop (lb ab eb : Nat) (p c : Int) (lv av ev : Value) (older : List PanicEntry) (w : World) (h1 : Boxed w lb 22 lv) (h2 : Boxed w ab 3 av) (h3 : Boxed w eb 25 ev) (n1 : lb ≠ ab) (n2 : lb ≠ eb) (n3 : ab ≠ eb) :
    CallsD Tryz.prog 32 #[.pointer (some ⟨lb, 0, none⟩), .pointer (some ⟨ab, 0, none⟩), .pointer (some ⟨eb, 0, none⟩)] (.panicking ({ v := .iface 62 (.agg #[.int .i64 p, .int .i64 c]), recovered := false } :: older)) w fun e u' w' => e = .returned (.tuple #[]) ∧
      u' = .panicking ({ v := .iface 62 (.agg #[.int .i64 p, .int .i64 c]), recovered := true } :: older) ∧ Boxed w' lb 22 (.slice none 0 0) ∧ Boxed w' ab 3 (.int .i64 p) ∧ Boxed w' eb 25 (.int .i64 c) ∧ Fr (fun b => b = lb ∨ b = ab ∨ b = eb) w w' := by
  refine callsD_of_wpS Tryz.func32 rfl fun c₀ cs hu => ?_
  apply wpS_seq
  apply wpS_region
  simp [wpOpsS, go_sem, recoverD, hu, Tryz.ntmps32, Exit.thenS]
  refine wpS_of_wp ?_
  refine Code.wp_mono (Q := fun e a' w' => e = Exit.normal ∧ a'.defers = [] ∧ Boxed w' lb 22 (.slice none 0 0) ∧ Boxed w' ab 3 (.int .i64 p) ∧ Boxed w' eb 25 (.int .i64 c) ∧ Fr (fun b => b = lb ∨ b = ab ∨ b = eb) w w') ?_ ?_
  · rintro e a' w' ⟨rfl, hd, hr⟩
    simp_all [bodyPostS, results, Tryz.results32]
  clear hu
  have hfr : (#[.pointer (some ⟨lb, 0, none⟩), .pointer (some ⟨ab, 0, none⟩), .pointer (some ⟨eb, 0, none⟩)] ++ (Array.replicate 13 undef).setIfInBounds 3 (Value.iface 62 (Value.agg #[Value.int IntKind.i64 p, Value.int IntKind.i64 c])) : Array Value) = #[.pointer (some ⟨lb, 0, none⟩), .pointer (some ⟨ab, 0, none⟩), .pointer (some ⟨eb, 0, none⟩), undef, undef, undef, Value.iface 62 (Value.agg #[Value.int IntKind.i64 p, Value.int IntKind.i64 c]), undef, undef, undef, undef, undef, undef, undef, undef, undef] := rfl
  rw [hfr]
  clear hfr
  have c1 := h1.cell; have c2 := h2.cell; have c3 := h3.cell
  have f1 := h1.frozen; have f2 := h2.frozen; have f3 := h3.frozen
  have l1 := h1.lt; have l2 := h2.lt; have l3 := h3.lt
  have hta : ∀ W, (Instr.typeAssert (.iface 62 (.agg #[.int .i64 p, .int .i64 c])) 20 62 true).run Tryz.prog W = .ok (.tuple #[.agg #[.int .i64 p, .int .i64 c], .bool true]) W := fun _ => by kernel_rfl
  go_wp2_with fail
  obtain ⟨W, hW⟩ : ∃ W, w.alloc (Obj.cells #[.int .i64 p, .int .i64 c] 62) = W := ⟨_, rfl⟩
  obtain ⟨H, hH⟩ : ∃ H, w.heap.size = H := ⟨_, rfl⟩
  have hE : Ext w W := by rw [← hW]; exact ext_alloc (Below.refl _ w) _
  have d0 : W.cell? ⟨H, 0, none⟩ = some (.int .i64 p) := by rw [← hW, ← hH]; simp [go_sem]
  have d1 : W.cell? ⟨H, 1, none⟩ = some (.int .i64 c) := by rw [← hW, ← hH]; simp [go_sem]
  have m1 : H ≠ lb := by omega
  have m2 : H ≠ ab := by omega
  have m3 : H ≠ eb := by omega
  have e1 := (ext_boxed hE h1).cell; have e2 := (ext_boxed hE h2).cell; have e3 := (ext_boxed hE h3).cell
  have g1 := (ext_boxed hE h1).frozen; have g2 := (ext_boxed hE h2).frozen; have g3 := (ext_boxed hE h3).frozen
  have n1' := n1.symm; have n2' := n2.symm; have n3' := n3.symm
  have HE := Lib.hid hE; have H1 := Lib.hid h1; have H2 := Lib.hid h2; have H3 := Lib.hid h3; have N1 := Lib.hid n1; have N2 := Lib.hid n2; have N3 := Lib.hid n3
  rw [hW, hH]
  clear hW hH hE h1 h2 h3 hta c1 c2 c3 f1 f2 f3 l1 l2 l3
  go_region_held3 (fun w' => w'.cell? ⟨H, 0, none⟩ = some (.int .i64 p) ∧ w'.cell? ⟨H, 1, none⟩ = some (.int .i64 c)) ((constructor <;> (go_simp))) (fail)
  trace_state
  all_goals exact ⟨rfl, rfl, catch_mem HE.out H1.out H2.out H3.out N1.out N2.out N3.out⟩
end Go.Proofs.YteemkkmkkgfofaaGreatDoor
namespace Go.Proofs.YteemkkmkkgfofaaGreatDoor
open Go.RowKit Nam Pol
attribute [local go_sem] gv_of

theorem rul_eq {x y : Rul} : x = y ↔ (x.name = y.name ∧ x.allow = y.allow ∧ x.pats = y.pats ∧ x.keyMin = y.keyMin ∧ x.lifeMax = y.lifeMax ∧ x.most = y.most ∧ x.window = y.window) := by
  cases x; cases y; simp
instance : DecidableEq Rul := fun _ _ => decidable_of_iff _ rul_eq.symm
theorem rul_ne (x y : Rul) (h : (!(x.name.toList == y.name.toList) || !(x.allow == y.allow) || !decide (x.pats = y.pats) || (x.keyMin != y.keyMin) || (x.lifeMax != y.lifeMax) || (x.most != y.most) || (x.window != y.window)) = false) : x = y := by
  simp only [Bool.or_eq_false_iff, Bool.not_eq_false', bne_eq_false_iff_eq, beq_iff_eq, decide_eq_true_eq] at h
  obtain ⟨⟨⟨⟨⟨⟨h1, h2⟩, h3⟩, h4⟩, h5⟩, h6⟩, h7⟩ := h
  exact rul_eq.2 ⟨bytes_eq (by rwa [Lib.toList_data, Lib.toList_data] at h1), h2, h3, h4, h5, h6, h7⟩
theorem take_eq_snoc {α : Type} {l m : List α} {k : Nat} {x y : α} (h : l.take k = m.take k) (hx : l[k]? = some x) (hy : m[k]? = some y) (e : x = y) : l.take (k + 1) = m.take (k + 1) := by
  rw [List.take_add_one, List.take_add_one, h, hx, hy, e]
set_option maxRecDepth 100000 in
set_option maxHeartbeats 4000000 in
theorem r15Same_any (l m : List Rul) (a c : Option Addr) (cap1 cap2 n1 n2 : Nat) (w : World) (h1 : l.length = n1) (h2 : m.length = n2) (hm1 : n1 ≤ maxLen) (hm2 : n2 ≤ maxLen) (hl : Ruls w a l) (hc : Ruls w c m) :
    Calls Tryz.prog 15 #[.slice a n1 cap1, .slice c n2 cap2] w (Ret (.bool (decide (l = m))) w) := by
  unfold maxLen at hm1 hm2
  have N1 := Lib.hid h1; have N2 := Lib.hid h2; have HL := Lib.hid hl; have HC := Lib.hid hc; clear h1 h2 hl hc
  by_cases hne : n1 = n2
  rotate_left 1
  · have t : ((n1 : Int) != n2) = true := by rw [bne_iff_ne]; omega
    have HF := Lib.hid (show decide (l = m) = false by rw [decide_eq_false_iff_not]; intro e; exact hne (by rw [← N1.out, ← N2.out, e]))
    clear hne
    go_enter Tryz.func15, Tryz.ntmps15
    go_wp2_with fail
    go_ret
    exact ⟨ret_bool HF.out.symm, Below.refl _ _⟩
  · subst hne
    have t : ((n1 : Int) != n1) = false := by simp
    go_enter Tryz.func15, Tryz.ntmps15
    go_wp2_with fail
    go_loopw [5] (fun i wr => ∃ k : Nat, k ≤ n1 ∧ i = .int .i64 k ∧ l.take k = m.take k ∧ Ext w wr) (fun i _ => n1 - (intOf i).toNat)
    case atStart => exact ⟨0, Nat.zero_le _, rfl, rfl, Below.refl _ _⟩
    case round =>
      obtain ⟨k, hk, rfl, he, hEr⟩ := hrel
      have HEQ := Lib.hid he; clear he
      by_cases hlt : k < n1
      · obtain ⟨x, hx⟩ := get_some N1.out hlt
        obtain ⟨y, hy⟩ := get_some N2.out hlt
        obtain ⟨b, off, rfl, d0, d1, ⟨pa, pc, d2, l1, l2, hps⟩, d3, d4, d5, d6, hsz, _⟩ := (HL.out.ext hEr) k x hx
        obtain ⟨b', off', rfl, e0, e1, ⟨qa, qc, e2, g1, g2, hqs⟩, e3, e4, e5, e6, hsz', _⟩ := (HC.out.ext hEr) k y hy
        have HX := Lib.hid hx; have HY := Lib.hid hy; have HER := Lib.hid hEr
        have HPS := Lib.hid hps; have HQS := Lib.hid hqs
        have LX := Lib.hid (show x.pats.length ≤ maxLen by omega); have LY := Lib.hid (show y.pats.length ≤ maxLen by omega)
        clear hx hy hEr hps hqs hsz hsz' l1 l2 g1 g2
        go_upto_region 7 with (fail)
        obtain ⟨W0, hW0⟩ : ∃ W0, wr.alloc (Obj.cells #[.string x.name, .bool x.allow, .slice pa x.pats.length pc, .int .u64 x.keyMin, .int .i64 x.lifeMax, .int .i64 x.most, .int .i64 x.window] 40) = W0 := ⟨_, rfl⟩
        have hE0 : Ext wr W0 := by rw [← hW0]; exact ext_alloc (Below.refl _ _) _
        have c0 : W0.cell? ⟨wr.heap.size, 0, none⟩ = some (.string x.name) := by rw [← hW0]; simp [go_sem]
        have c1 : W0.cell? ⟨wr.heap.size, 1, none⟩ = some (.bool x.allow) := by rw [← hW0]; simp [go_sem]
        have c2 : W0.cell? ⟨wr.heap.size, 2, none⟩ = some (.slice pa x.pats.length pc) := by rw [← hW0]; simp [go_sem]
        have c3 : W0.cell? ⟨wr.heap.size, 3, none⟩ = some (.int .u64 x.keyMin) := by rw [← hW0]; simp [go_sem]
        have c4 : W0.cell? ⟨wr.heap.size, 4, none⟩ = some (.int .i64 x.lifeMax) := by rw [← hW0]; simp [go_sem]
        have c5 : W0.cell? ⟨wr.heap.size, 5, none⟩ = some (.int .i64 x.most) := by rw [← hW0]; simp [go_sem]
        have c6 : W0.cell? ⟨wr.heap.size, 6, none⟩ = some (.int .i64 x.window) := by rw [← hW0]; simp [go_sem]
        replace e0 := ext_cell e0 hE0
        replace e1 := ext_cell e1 hE0
        replace e2 := ext_cell e2 hE0
        replace e3 := ext_cell e3 hE0
        replace e4 := ext_cell e4 hE0
        replace e5 := ext_cell e5 hE0
        replace e6 := ext_cell e6 hE0
        rw [hW0]
        have HE0 := Lib.hid hE0
        clear hW0 hE0 d0 d1 d2 d3 d4 d5 d6
        go_upto_region 8 with (fail)
        obtain ⟨W1, hW1⟩ : ∃ W1, W0.alloc (Obj.cells #[.string y.name, .bool y.allow, .slice qa y.pats.length qc, .int .u64 y.keyMin, .int .i64 y.lifeMax, .int .i64 y.most, .int .i64 y.window] 40) = W1 := ⟨_, rfl⟩
        have hE1 : Ext W0 W1 := by rw [← hW1]; exact ext_alloc (Below.refl _ _) _
        have f0 : W1.cell? ⟨W0.heap.size, 0, none⟩ = some (.string y.name) := by rw [← hW1]; simp [go_sem]
        have f1 : W1.cell? ⟨W0.heap.size, 1, none⟩ = some (.bool y.allow) := by rw [← hW1]; simp [go_sem]
        have f2 : W1.cell? ⟨W0.heap.size, 2, none⟩ = some (.slice qa y.pats.length qc) := by rw [← hW1]; simp [go_sem]
        have f3 : W1.cell? ⟨W0.heap.size, 3, none⟩ = some (.int .u64 y.keyMin) := by rw [← hW1]; simp [go_sem]
        have f4 : W1.cell? ⟨W0.heap.size, 4, none⟩ = some (.int .i64 y.lifeMax) := by rw [← hW1]; simp [go_sem]
        have f5 : W1.cell? ⟨W0.heap.size, 5, none⟩ = some (.int .i64 y.most) := by rw [← hW1]; simp [go_sem]
        have f6 : W1.cell? ⟨W0.heap.size, 6, none⟩ = some (.int .i64 y.window) := by rw [← hW1]; simp [go_sem]
        replace c0 := ext_cell c0 hE1
        replace c1 := ext_cell c1 hE1
        replace c2 := ext_cell c2 hE1
        replace c3 := ext_cell c3 hE1
        replace c4 := ext_cell c4 hE1
        replace c5 := ext_cell c5 hE1
        replace c6 := ext_cell c6 hE1
        rw [hW1]
        have HE1 := Lib.hid (ext_trans HE0.out hE1)
        clear hW1 hE1 e0 e1 e2 e3 e4 e5 e6
        refine wp_region_P (fun w' => Ext W1 w') (Below.refl _ _) ?_
        repeat
          first
          | (refine steps_and rfl rfl rfl rfl ?_; simp only [Act.put, List.setIfInBounds_toArray, List.set_cons_succ, List.set_cons_zero])
          | (refine steps_or rfl rfl rfl rfl ?_; simp only [Act.put, List.setIfInBounds_toArray, List.set_cons_succ, List.set_cons_zero])
          | (refine steps_skip rfl ?_; simp only [Act.put, List.setIfInBounds_toArray, List.set_cons_succ, List.set_cons_zero])
          | (refine steps_guard_and rfl rfl rfl rfl rfl ?_; simp only [Act.put, List.setIfInBounds_toArray, List.set_cons_succ, List.set_cons_zero])
          | (refine steps_guard (v := ?_) rfl rfl (fun hb w' hS => ?_) ?_; rotate_left; (focus (have k0 := ext_cell c0 hS; have k1 := ext_cell c1 hS; have k2 := ext_cell c2 hS; have k3 := ext_cell c3 hS; have k4 := ext_cell c4 hS; have k5 := ext_cell c5 hS; have k6 := ext_cell c6 hS; have g0 := ext_cell f0 hS; have g1 := ext_cell f1 hS; have g2 := ext_cell f2 hS; have g3 := ext_cell f3 hS; have g4 := ext_cell f4 hS; have g5 := ext_cell f5 hS; have g6 := ext_cell f6 hS; unfold Gives; go_simp; first | exact is_mk hS | (refine (Texts_any x.pats y.pats pa qa pc qc _ _ _ rfl rfl LX.out LY.out (HPS.out.ext (ext_trans HE1.out hS)) (HQS.out.ext (ext_trans HE1.out hS))).mono ?_; rintro e w'' ⟨rfl, h2⟩; exact gave_mk (ext_trans hS h2)))); simp only [Act.put, List.setIfInBounds_toArray, List.set_cons_succ, List.set_cons_zero])
          | (refine steps_guard2 (v := ?_) rfl rfl rfl (fun hb1 hb w' hS => ?_) ?_; rotate_left; (focus (have k0 := ext_cell c0 hS; have k1 := ext_cell c1 hS; have k2 := ext_cell c2 hS; have k3 := ext_cell c3 hS; have k4 := ext_cell c4 hS; have k5 := ext_cell c5 hS; have k6 := ext_cell c6 hS; have g0 := ext_cell f0 hS; have g1 := ext_cell f1 hS; have g2 := ext_cell f2 hS; have g3 := ext_cell f3 hS; have g4 := ext_cell f4 hS; have g5 := ext_cell f5 hS; have g6 := ext_cell f6 hS; unfold Gives; go_simp; first | exact is_mk hS | (refine (Texts_any x.pats y.pats pa qa pc qc _ _ _ rfl rfl LX.out LY.out (HPS.out.ext (ext_trans HE1.out hS)) (HQS.out.ext (ext_trans HE1.out hS))).mono ?_; rintro e w'' ⟨rfl, h2⟩; exact gave_mk (ext_trans hS h2)))); simp only [Act.put, List.setIfInBounds_toArray, List.set_cons_succ, List.set_cons_zero])
          | (refine steps_run (v := ?_) rfl (fun w' hS => ?_) ?_; rotate_left; (focus (have k0 := ext_cell c0 hS; have k1 := ext_cell c1 hS; have k2 := ext_cell c2 hS; have k3 := ext_cell c3 hS; have k4 := ext_cell c4 hS; have k5 := ext_cell c5 hS; have k6 := ext_cell c6 hS; have g0 := ext_cell f0 hS; have g1 := ext_cell f1 hS; have g2 := ext_cell f2 hS; have g3 := ext_cell f3 hS; have g4 := ext_cell f4 hS; have g5 := ext_cell f5 hS; have g6 := ext_cell f6 hS; unfold Gives; go_simp; first | exact is_mk hS | (refine (Texts_any x.pats y.pats pa qa pc qc _ _ _ rfl rfl LX.out LY.out (HPS.out.ext (ext_trans HE1.out hS)) (HQS.out.ext (ext_trans HE1.out hS))).mono ?_; rintro e w'' ⟨rfl, h2⟩; exact gave_mk (ext_trans hS h2)))); simp only [Act.put, List.setIfInBounds_toArray, List.set_cons_succ, List.set_cons_zero])
        refine steps_end fun w' hE' => ?_
        have HRE := Lib.hid (rul_ne x y)
        cases hq : (!(x.name.toList == y.name.toList) || !(x.allow == y.allow) || !decide (x.pats = y.pats) || (x.keyMin != y.keyMin) || (x.lifeMax != y.lifeMax) || (x.most != y.most) || (x.window != y.window))
        · have HQ := Lib.hid (take_eq_snoc HEQ.out HX.out HY.out (HRE.out hq))
          clear hq
          go_wp2_with fail
          go_roundw
          case rel => exact ⟨k + 1, by omega, by go_num, HQ.out, ext_trans HER.out (ext_trans HE1.out hE')⟩
          case measure => simp [intOf]; omega
        · have HQ := Lib.hid (show decide (l = m) = false by
            rw [decide_eq_false_iff_not]; intro e
            have h1 := HX.out; have h2 := HY.out
            rw [e, h2] at h1; cases h1
            simp at hq)
          clear hq
          go_wp2_with fail
          all_goals
            go_ret
            exact ⟨ret_bool HQ.out.symm, ext_trans HER.out (ext_trans HE1.out hE')⟩
      · obtain rfl : k = n1 := by omega
        have HQ := Lib.hid (show decide (l = m) = true by
          rw [decide_eq_true_iff]
          have := HEQ.out
          rwa [List.take_of_length_le (by rw [N1.out]; omega), List.take_of_length_le (by rw [N2.out]; omega)] at this)
        go_wp2_with fail
        go_ret
        exact ⟨ret_bool HQ.out.symm, hEr⟩
end Go.Proofs.YteemkkmkkgfofaaGreatDoor
namespace Go.Proofs.YteemkkmkkgfofaaGreatDoor
namespace Nam
/-- All that is above, nearest first. -/
def aboveQ (l : Str) : List Str := above (l.length + 1) l
theorem belowB_mem {s o : Str} : belowB s o = true ↔ o ∈ aboveQ s := by
  unfold belowB aboveQ; rw [List.contains_eq_mem, decide_eq_true_eq]
theorem aboveQ_step {s : Str} (h : up s ≠ []) : aboveQ s = up s :: aboveQ (up s) := above_step s h
theorem aboveQ_end {s : Str} (h : up s = []) : aboveQ s = [] := above_end s h
theorem aboveQ_len : ∀ (n : Nat) (s a : Str), s.length < n → a ∈ aboveQ s → a.length < s.length ∧ a ≠ []
  | 0, _, _, h, _ => absurd h (Nat.not_lt_zero _)
  | n + 1, s, a, h, ha => by
    by_cases hu : up s = []
    · rw [aboveQ_end hu] at ha; cases ha
    · rw [aboveQ_step hu] at ha
      have hl := up_lt s hu
      rcases List.mem_cons.1 ha with rfl | ha
      · exact ⟨hl, hu⟩
      · have := aboveQ_len n (up s) a (by omega) ha
        exact ⟨by omega, this.2⟩
theorem below_len {s a : Str} (h : belowB s a = true) : a.length < s.length ∧ a ≠ [] := aboveQ_len _ s a (Nat.lt_succ_self _) (belowB_mem.1 h)
/-- What is above something above it is above it; of two above it one is above the other. -/
theorem aboveQ_trans : ∀ (n : Nat) (s a b : Str), s.length < n → a ∈ aboveQ s → b ∈ aboveQ a → b ∈ aboveQ s
  | 0, _, _, _, h, _, _ => absurd h (Nat.not_lt_zero _)
  | n + 1, s, a, b, h, ha, hb => by
    by_cases hu : up s = []
    · rw [aboveQ_end hu] at ha; cases ha
    · rw [aboveQ_step hu] at ha ⊢
      have hl := up_lt s hu
      rcases List.mem_cons.1 ha with rfl | ha
      · exact List.mem_cons_of_mem _ hb
      · exact List.mem_cons_of_mem _ (aboveQ_trans n (up s) a b (by omega) ha hb)
theorem below_trans {s a b : Str} (h1 : belowB s a = true) (h2 : belowB a b = true) : belowB s b = true :=
  belowB_mem.2 (aboveQ_trans _ s a b (Nat.lt_succ_self _) (belowB_mem.1 h1) (belowB_mem.1 h2))
theorem aboveQ_chain : ∀ (n : Nat) (s a b : Str), s.length < n → a ∈ aboveQ s → b ∈ aboveQ s → a = b ∨ b ∈ aboveQ a ∨ a ∈ aboveQ b
  | 0, _, _, _, h, _, _ => absurd h (Nat.not_lt_zero _)
  | n + 1, s, a, b, h, ha, hb => by
    by_cases hu : up s = []
    · rw [aboveQ_end hu] at ha; cases ha
    · rw [aboveQ_step hu] at ha hb
      have hl := up_lt s hu
      rcases List.mem_cons.1 ha with rfl | ha
      · rcases List.mem_cons.1 hb with rfl | hb
        · exact .inl rfl
        · exact .inr (.inl hb)
      · rcases List.mem_cons.1 hb with rfl | hb
        · exact .inr (.inr ha)
        · exact aboveQ_chain n (up s) a b (by omega) ha hb
theorem below_chain {s a b : Str} (h1 : belowB s a = true) (h2 : belowB s b = true) : a = b ∨ belowB a b = true ∨ belowB b a = true := by
  rcases aboveQ_chain _ s a b (Nat.lt_succ_self _) (belowB_mem.1 h1) (belowB_mem.1 h2) with h | h | h
  · exact .inl h
  · exact .inr (.inl (belowB_mem.2 h))
  · exact .inr (.inr (belowB_mem.2 h))
theorem below_up {s b : Str} (hu : up s ≠ []) : belowB s b = true ↔ b = up s ∨ belowB (up s) b = true := by
  rw [belowB_mem, belowB_mem, aboveQ_step hu, List.mem_cons]
theorem cut_cons {t : Str} {x : Str} (hx : ∀ c ∈ x, c ≠ (46 : UInt8)) : cut (x ++ 46 :: t) = x :: cut t := by
  induction x with
  | nil => simp [cut]
  | cons c x ih =>
    have hc : c ≠ 46 := hx c (by simp)
    have := ih (fun d hd => hx d (by simp [hd]))
    rw [List.cons_append, cut, if_neg hc, this]
theorem afterDot_cons {t : Str} {x : Str} (hx : ∀ c ∈ x, c ≠ (46 : UInt8)) : afterDot (x ++ 46 :: t) = t := by
  induction x with
  | nil => simp [afterDot]
  | cons c x ih =>
    have hc : c ≠ 46 := hx c (by simp)
    rw [List.cons_append, afterDot, if_neg hc]
    exact ih (fun d hd => hx d (by simp [hd]))
/-- A label more ahead of a name. -/
theorem isB_cons {x t : Str} (hx : ∀ c ∈ x, c ≠ (46 : UInt8)) : isB (x ++ 46 :: t) = true ↔ labelB x = true ∧ isB t = true ∧ (x ++ 46 :: t).length ≤ 64 ∧ (cut t).length < 8 := by
  rw [isB_iff, cut_cons hx, isB_iff]
  simp only [List.length_cons, List.mem_cons, List.length_append]
  constructor
  · rintro ⟨h1, h2, h3⟩
    exact ⟨h3 x (.inl rfl), ⟨by omega, by omega, fun y hy => h3 y (.inr hy)⟩, h1, by omega⟩
  · rintro ⟨h1, ⟨h2, h3, h4⟩, h5, h6⟩
    exact ⟨h5, by omega, fun y hy => hy.elim (fun e => e ▸ h1) (h4 y)⟩
theorem up_cons {x t : Str} (hx : ∀ c ∈ x, c ≠ (46 : UInt8)) (h : isB (x ++ 46 :: t) = true) : up (x ++ 46 :: t) = t := by
  unfold up; rw [if_pos h, afterDot_cons hx]
/-- A star matches the names of one letter ahead of what it is of. -/
theorem star_one {a : Str} {c : UInt8} (hc : labelB [c] = true) (hd : c ≠ 46) (h : starB (42 :: 46 :: a) = true) :
    isB (c :: 46 :: a) = true ∧ up (c :: 46 :: a) = a := by
  obtain ⟨t, ht, hn⟩ := (starB_iff _).1 h
  simp at ht; subst ht
  obtain ⟨h1, h2, h3⟩ := nameB_iff.1 hn
  have hx : ∀ d ∈ [c], d ≠ (46 : UInt8) := by intro d hd'; simp at hd'; rw [hd']; exact hd
  have hB : isB ([c] ++ 46 :: a) = true := (isB_cons hx).2 ⟨hc, isB_iff.2 ⟨by omega, by omega, h3⟩, by simp; omega, by omega⟩
  exact ⟨hB, up_cons hx hB⟩
theorem star_form {p : Str} (h : starB p = true) : ∃ a, p = 42 :: 46 :: a ∧ starOf p = a := by
  obtain ⟨t, rfl, _⟩ := (starB_iff p).1 h
  exact ⟨t, rfl, by rw [starOf_eq h]; rfl⟩
theorem rpat_cases {p : Str} (h : rpatB p = true) : isB p = true ∨ starB p = true := by
  unfold rpatB at h; rcases Bool.or_eq_true _ _ ▸ h with h | h
  · exact .inr h
  · exact .inl h
theorem rmatch_name {p s : Str} (hp : isB p = true) : rmatchB p s = (isB s && p == s) := by
  unfold rmatchB; rw [star_false_of_name hp]; cases isB s <;> simp
theorem rmatch_star {p s : Str} (hp : starB p = true) : rmatchB p s = (isB s && belowB s (starOf p)) := by
  unfold rmatchB; rw [hp]; cases isB s <;> simp
theorem rwithin_name {p q : Str} (hp : isB p = true) (hq : rpatB q = true) : rwithinB p q = rmatchB q p := by
  unfold rwithinB; rw [star_false_of_name hp, hq]; unfold rpatB; rw [hp]; simp
theorem rwithin_star {p q : Str} (hp : starB p = true) (hq : rpatB q = true) : rwithinB p q = (starB q && (starOf p == starOf q || belowB (starOf p) (starOf q))) := by
  unfold rwithinB; rw [hp, hq]; unfold rpatB; rw [hp]; simp
theorem rwithin_pats {p q : Str} (h : rwithinB p q = true) : rpatB p = true ∧ rpatB q = true := by
  unfold rwithinB at h
  cases hp : rpatB p
  · rw [hp] at h; simp at h
  · cases hq : rpatB q
    · rw [hq] at h; simp at h
    · exact ⟨rfl, rfl⟩
theorem within_match {p q s : Str} (h : rwithinB p q = true) (hm : rmatchB p s = true) : rmatchB q s = true := by
  obtain ⟨hp, hq⟩ := rwithin_pats h
  rcases rpat_cases hp with hp | hp
  · rw [rmatch_name hp] at hm
    obtain ⟨_, e⟩ := Bool.and_eq_true _ _ ▸ hm
    rw [← beq_iff_eq.1 e, ← rwithin_name hp hq]; exact h
  · rw [rmatch_star hp] at hm
    obtain ⟨hs, hb⟩ := Bool.and_eq_true _ _ ▸ hm
    rw [rwithin_star hp hq] at h
    obtain ⟨hsq, hu⟩ := Bool.and_eq_true _ _ ▸ h
    rw [rmatch_star hsq, hs, Bool.true_and]
    rcases Bool.or_eq_true _ _ ▸ hu with hu | hu
    · rw [← beq_iff_eq.1 hu]; exact hb
    · exact below_trans hb hu
theorem label_x : labelB [120] = true ∧ labelB [121] = true := by decide
/-- Where a star is not within another pattern, the names of x or y ahead show it. -/
theorem within_shown {p q : Str} (hp : starB p = true) (hq : rpatB q = true) (h : rwithinB p q = false) :
    rmatchB p (120 :: p.drop 1) = true ∧ rmatchB p (121 :: p.drop 1) = true ∧ (rmatchB q (120 :: p.drop 1) = false ∨ rmatchB q (121 :: p.drop 1) = false) := by
  obtain ⟨a, rfl, ha⟩ := star_form hp
  have hne := (starOf_name hp).2
  rw [ha] at hne
  obtain ⟨x1, x2⟩ := star_one (c := 120) label_x.1 (by decide) hp
  obtain ⟨y1, y2⟩ := star_one (c := 121) label_x.2 (by decide) hp
  show rmatchB (42 :: 46 :: a) (120 :: 46 :: a) = true ∧ rmatchB (42 :: 46 :: a) (121 :: 46 :: a) = true ∧ (rmatchB q (120 :: 46 :: a) = false ∨ rmatchB q (121 :: 46 :: a) = false)
  refine ⟨?_, ?_, ?_⟩
  · rw [rmatch_star hp, x1, ha, Bool.true_and, below_up (by rw [x2]; exact hne), x2]; exact .inl rfl
  · rw [rmatch_star hp, y1, ha, Bool.true_and, below_up (by rw [y2]; exact hne), y2]; exact .inl rfl
  · rcases rpat_cases hq with hnq | hsq
    · rw [rmatch_name hnq, rmatch_name hnq]
      by_cases e : q = 120 :: 46 :: a
      · right; rw [e]; simp
      · left; rw [show (q == 120 :: 46 :: a) = false from by rw [beq_eq_false_iff_ne]; exact e, Bool.and_false]
    · left
      rw [rwithin_star hp hq, hsq, ha, Bool.true_and] at h
      rw [rmatch_star hsq, x1, Bool.true_and, Bool.eq_false_iff]
      intro hb
      rw [below_up (by rw [x2]; exact hne), x2] at hb
      rcases hb with hb | hb
      · rw [hb] at h; simp at h
      · rw [hb] at h; simp at h
theorem star_len {p : Str} (h : starB p = true) : 3 ≤ p.length := by
  unfold starB at h; simp only [Bool.and_eq_true, decide_eq_true_eq] at h; exact h.1.1.1.1.1
theorem match_pat {p s : Str} (h : rmatchB p s = true) : rpatB p = true := by
  unfold rpatB
  cases hp : starB p
  · unfold rmatchB at h; rw [hp] at h
    cases hs : isB s
    · rw [hs] at h; simp at h
    · rw [hs] at h; simp at h; rw [h, hs]; rfl
  · rfl
theorem match_meets {p q s : Str} (h1 : rmatchB p s = true) (h2 : rmatchB q s = true) : rwithinB p q = true ∨ rwithinB q p = true := by
  have hp := match_pat h1
  have hq := match_pat h2
  rcases rpat_cases hp with hnp | hsp
  · rw [rmatch_name hnp] at h1
    obtain ⟨_, e⟩ := Bool.and_eq_true _ _ ▸ h1
    left; rw [rwithin_name hnp hq, beq_iff_eq.1 e]; exact h2
  · rcases rpat_cases hq with hnq | hsq
    · rw [rmatch_name hnq] at h2
      obtain ⟨_, e⟩ := Bool.and_eq_true _ _ ▸ h2
      right; rw [rwithin_name hnq hp, beq_iff_eq.1 e]; exact h1
    · rw [rmatch_star hsp] at h1
      rw [rmatch_star hsq] at h2
      obtain ⟨_, b1⟩ := Bool.and_eq_true _ _ ▸ h1
      obtain ⟨_, b2⟩ := Bool.and_eq_true _ _ ▸ h2
      rcases below_chain b1 b2 with e | e | e
      · left; rw [rwithin_star hsp hq, hsq, e]; simp
      · left; rw [rwithin_star hsp hq, hsq, e]; simp
      · right; rw [rwithin_star hsq hp, hsp, e]; simp
/-- Where one is within the other there is a name that both match: itself, or x ahead of what it is a star of. -/
theorem within_name {p q : Str} (h : rwithinB p q = true) : (isB p = true ∧ rmatchB p p = true ∧ rmatchB q p = true) ∨
    (isB p = false ∧ 2 < p.length ∧ rmatchB p (120 :: p.drop 1) = true ∧ rmatchB q (120 :: p.drop 1) = true) := by
  obtain ⟨hp, hq⟩ := rwithin_pats h
  rcases rpat_cases hp with hnp | hsp
  · left; exact ⟨hnp, by rw [rmatch_name hnp, hnp]; simp, by rw [← rwithin_name hnp hq]; exact h⟩
  · right
    have hl := star_len hsp
    have hm : rmatchB p (120 :: p.drop 1) = true := by
      obtain ⟨a, rfl, ha⟩ := star_form hsp
      have hne := (starOf_name hsp).2
      rw [ha] at hne
      obtain ⟨x1, x2⟩ := star_one (c := 120) label_x.1 (by decide) hsp
      show rmatchB (42 :: 46 :: a) (120 :: 46 :: a) = true
      rw [rmatch_star hsp, x1, ha, Bool.true_and, below_up (by rw [x2]; exact hne), x2]; exact .inl rfl
    exact ⟨star_not_name hsp, by omega, hm, within_match h hm⟩
theorem within_refl (p : Str) : rwithinB p p = rpatB p := by
  cases hp : rpatB p
  · rw [Bool.eq_false_iff]; intro h; rw [(rwithin_pats h).1] at hp; cases hp
  · rcases rpat_cases hp with hnp | hsp
    · rw [rwithin_name hnp hp, rmatch_name hnp, hnp]; simp
    · rw [rwithin_star hsp hp, hsp]; simp
theorem within_trans {p q o : Str} (h1 : rwithinB p q = true) (h2 : rwithinB q o = true) : rwithinB p o = true := by
  obtain ⟨hp, hq⟩ := rwithin_pats h1
  obtain ⟨_, ho⟩ := rwithin_pats h2
  rcases rpat_cases hp with hnp | hsp
  · rw [rwithin_name hnp hq] at h1
    rw [rwithin_name hnp ho]
    exact within_match h2 h1
  · rw [rwithin_star hsp hq] at h1
    obtain ⟨hsq, u1⟩ := Bool.and_eq_true _ _ ▸ h1
    rw [rwithin_star hsq ho] at h2
    obtain ⟨hso, u2⟩ := Bool.and_eq_true _ _ ▸ h2
    rw [rwithin_star hsp ho, hso, Bool.true_and]
    rcases Bool.or_eq_true _ _ ▸ u1 with u1 | u1
    · rw [beq_iff_eq.1 u1]; exact u2
    · rcases Bool.or_eq_true _ _ ▸ u2 with u2 | u2
      · rw [← beq_iff_eq.1 u2, u1]; simp
      · rw [below_trans u1 u2]; simp
theorem within_anti {p q : Str} (h1 : rwithinB p q = true) (h2 : rwithinB q p = true) : p = q := by
  obtain ⟨hp, hq⟩ := rwithin_pats h1
  rcases rpat_cases hp with hnp | hsp
  · rcases rpat_cases hq with hnq | hsq
    · rw [rwithin_name hnp hq, rmatch_name hnq] at h1
      obtain ⟨_, e⟩ := Bool.and_eq_true _ _ ▸ h1
      exact (beq_iff_eq.1 e).symm
    · rw [rwithin_star hsq hp, star_false_of_name hnp] at h2; cases h2
  · rcases rpat_cases hq with hnq | hsq
    · rw [rwithin_star hsp hq, star_false_of_name hnq] at h1; cases h1
    · rw [rwithin_star hsp hq, hsq, Bool.true_and] at h1
      rw [rwithin_star hsq hp, hsp, Bool.true_and] at h2
      have e : starOf p = starOf q := by
        rcases Bool.or_eq_true _ _ ▸ h1 with u1 | u1
        · exact beq_iff_eq.1 u1
        · rcases Bool.or_eq_true _ _ ▸ h2 with u2 | u2
          · exact (beq_iff_eq.1 u2).symm
          · have a1 := (below_len u1).1; have a2 := (below_len u2).1; omega
      obtain ⟨a, rfl, ha⟩ := star_form hsp
      obtain ⟨b, rfl, hb⟩ := star_form hsq
      rw [ha, hb] at e; rw [e]
end Nam
end Go.Proofs.YteemkkmkkgfofaaGreatDoor
namespace Go.Proofs.YteemkkmkkgfofaaGreatDoor
namespace Pol
open Nam
/-- One pattern more, of rule i: who decides, by which pattern. -/
def dStep (nm : ByteArray) (i : Int) (st : Int × ByteArray) (p : ByteArray) : Int × ByteArray :=
  if rmatchB p.data.toList nm.data.toList && (decide (st.1 < 0) || (!(p.toList == st.2.toList) && rwithinB p.data.toList st.2.data.toList)) then (i, p) else st
/-- Of the first k rules. -/
def dUpTo (nm : ByteArray) (l : List Rul) : Nat → Int × ByteArray
  | 0 => (-1, ⟨#[]⟩)
  | k + 1 => match l[k]? with
    | none => dUpTo nm l k
    | some r => r.pats.foldl (dStep nm k) (dUpTo nm l k)
/-- The rule that decides of a name; -1: none. -/
def decidesB (l : List Rul) (nm : ByteArray) : Int := (dUpTo nm l l.length).1
/-- The first rule with a pattern. -/
def firstRul (l : List Rul) (p : ByteArray) : Option Nat := l.findIdx? fun r => memB r.pats p
/-- "*." ahead. -/
def starred (u : Str) : ByteArray := ⟨((42 : UInt8) :: 46 :: u).toArray⟩
def firstSome {α β : Type} (f : α → Option β) : List α → Option β
  | [] => none
  | x :: l => match f x with
    | some y => some y
    | none => firstSome f l
/-- The patterns that match a name, the nearest first: itself, stars of what is above. -/
def candsOf (nm : ByteArray) : List ByteArray := nm :: (aboveQ nm.data.toList).map starred
def candIdx (l : List Rul) (p : ByteArray) : Option Nat := if rpatB p.data.toList then firstRul l p else none
/-- What the program's decider tells of a name. -/
def decP (l : List Rul) (nm : ByteArray) : Int := match firstSome (candIdx l) (candsOf nm) with
  | some i => (i : Int)
  | none => -1
/-- WHAT DECIDES, BY WHAT IT MEANS: the first rule with the pattern that matches and is within all others that do. -/
def DecSpec (l : List Rul) (nm : ByteArray) (i : Int) : Prop :=
  (i = -1 ∧ ∀ r ∈ l, ∀ p ∈ r.pats, rmatchB p.data.toList nm.data.toList = false) ∨
  ∃ (k : Nat) (r : Rul) (p : ByteArray), i = (k : Int) ∧ l[k]? = some r ∧ p ∈ r.pats ∧ rmatchB p.data.toList nm.data.toList = true ∧
    (∀ r' ∈ l, ∀ q ∈ r'.pats, rmatchB q.data.toList nm.data.toList = true → rwithinB p.data.toList q.data.toList = true) ∧
    ∀ (j : Nat) (r' : Rul), j < k → l[j]? = some r' → p ∉ r'.pats
theorem DecSpec.unique {l : List Rul} {nm : ByteArray} {i j : Int} (h : DecSpec l nm i) (h' : DecSpec l nm j) : i = j := by
  rcases h with ⟨rfl, hn⟩ | ⟨k, r, p, rfl, hk, hp, hm, hw, hf⟩
  · rcases h' with ⟨rfl, _⟩ | ⟨k, r, p, rfl, hk, hp, hm, _, _⟩
    · rfl
    · have := hn r (List.mem_of_getElem? hk) p hp
      rw [hm] at this; cases this
  · rcases h' with ⟨rfl, hn⟩ | ⟨k', r', p', rfl, hk', hp', hm', hw', hf'⟩
    · have := hn r (List.mem_of_getElem? hk) p hp
      rw [hm] at this; cases this
    · have e : p = p' := bytes_eq (within_anti (hw r' (List.mem_of_getElem? hk') p' hp' hm') (hw' r (List.mem_of_getElem? hk) p hp hm))
      subst e
      rcases Nat.lt_trichotomy k k' with h | h | h
      · exact absurd hp (hf' k r h hk)
      · rw [h]
      · exact absurd hp' (hf k' r' h hk')
/-- The fold's invariant: l are the rules ahead, ps the patterns of rule k that have been seen. -/
def DInv (nm : ByteArray) (l : List Rul) (k : Nat) (ps : List ByteArray) (st : Int × ByteArray) : Prop :=
  (st.1 = -1 ∧ (∀ r ∈ l.take k, ∀ p ∈ r.pats, rmatchB p.data.toList nm.data.toList = false) ∧ ∀ p ∈ ps, rmatchB p.data.toList nm.data.toList = false) ∨
  ∃ (i : Nat), st.1 = (i : Int) ∧ ((i < k ∧ ∃ r, l[i]? = some r ∧ st.2 ∈ r.pats) ∨ (i = k ∧ st.2 ∈ ps)) ∧ rmatchB st.2.data.toList nm.data.toList = true ∧
    (∀ r ∈ l.take k, ∀ q ∈ r.pats, rmatchB q.data.toList nm.data.toList = true → rwithinB st.2.data.toList q.data.toList = true) ∧
    (∀ q ∈ ps, rmatchB q.data.toList nm.data.toList = true → rwithinB st.2.data.toList q.data.toList = true) ∧
    ∀ (j : Nat) (r' : Rul), j < i → l[j]? = some r' → st.2 ∉ r'.pats
theorem DInv.step {nm : ByteArray} {l : List Rul} {k : Nat} {ps : List ByteArray} {st : Int × ByteArray} (h : DInv nm l k ps st) (p : ByteArray) : DInv nm l k (ps ++ [p]) (dStep nm k st p) := by
  unfold dStep
  cases hm : rmatchB p.data.toList nm.data.toList
  · rw [Bool.false_and, if_neg (by simp)]
    rcases h with ⟨h1, h2, h3⟩ | ⟨i, h1, h2, h3, h4, h5, h6⟩
    · refine .inl ⟨h1, h2, fun q hq => ?_⟩
      rcases List.mem_append.1 hq with hq | hq
      · exact h3 q hq
      · rw [List.mem_singleton] at hq; subst hq; exact hm
    · refine .inr ⟨i, h1, ?_, h3, h4, fun q hq hqm => ?_, h6⟩
      · rcases h2 with h2 | h2
        · exact .inl h2
        · exact .inr ⟨h2.1, List.mem_append_left _ h2.2⟩
      · rcases List.mem_append.1 hq with hq | hq
        · exact h5 q hq hqm
        · rw [List.mem_singleton] at hq; subst hq; rw [hm] at hqm; cases hqm
  · rw [Bool.true_and]
    rcases h with ⟨h1, h2, h3⟩ | ⟨i, h1, h2, h3, h4, h5, h6⟩
    · rw [show decide (st.1 < 0) = true by rw [h1]; rfl, Bool.true_or, if_pos rfl]
      have hrf : rwithinB p.data.toList p.data.toList = true := by rw [within_refl]; exact match_pat hm
      refine .inr ⟨k, rfl, .inr ⟨rfl, by simp⟩, hm, fun r hr q hq hqm => ?_, fun q hq hqm => ?_, fun j r' hj hr' hp => ?_⟩
      · rw [h2 r hr q hq] at hqm; cases hqm
      · rcases List.mem_append.1 hq with hq | hq
        · rw [h3 q hq] at hqm; cases hqm
        · rw [List.mem_singleton] at hq; subst hq; exact hrf
      · have := h2 r' (List.mem_of_getElem? (i := j) (by rw [List.getElem?_take, if_pos hj]; exact hr')) p hp
        rw [hm] at this; cases this
    · rw [show decide (st.1 < 0) = false by rw [h1]; simp, Bool.false_or]
      have hik : i ≤ k := by rcases h2 with h2 | h2 <;> omega
      by_cases hc : (!(p.toList == st.2.toList) && rwithinB p.data.toList st.2.data.toList) = true
      · rw [if_pos hc]
        rw [Bool.and_eq_true] at hc
        obtain ⟨hne, hwi⟩ := hc
        have hne' : p ≠ st.2 := fun e => by rw [e] at hne; simp at hne
        have tr : ∀ q : ByteArray, rwithinB st.2.data.toList q.data.toList = true → rwithinB p.data.toList q.data.toList = true := fun q hq => within_trans hwi hq
        refine .inr ⟨k, rfl, .inr ⟨rfl, by simp⟩, hm, fun r hr q hq hqm => tr q (h4 r hr q hq hqm), fun q hq hqm => ?_, fun j r' hj hr' hp => ?_⟩
        · rcases List.mem_append.1 hq with hq | hq
          · exact tr q (h5 q hq hqm)
          · rw [List.mem_singleton] at hq; subst hq; rw [within_refl]; exact match_pat hm
        · have := h4 r' (List.mem_of_getElem? (i := j) (by rw [List.getElem?_take, if_pos hj]; exact hr')) p hp hm
          exact hne' (bytes_eq (within_anti hwi this))
      · rw [if_neg hc]
        refine .inr ⟨i, h1, ?_, h3, h4, fun q hq hqm => ?_, h6⟩
        · rcases h2 with h2 | h2
          · exact .inl h2
          · exact .inr ⟨h2.1, List.mem_append_left _ h2.2⟩
        · rcases List.mem_append.1 hq with hq | hq
          · exact h5 q hq hqm
          · rw [List.mem_singleton] at hq; subst hq
            rw [Bool.and_eq_true, not_and] at hc
            by_cases e : q = st.2
            · rw [e, within_refl]; exact match_pat h3
            · have hne : (!(q.toList == st.2.toList)) = true := by
                rw [Bool.not_eq_true', beq_eq_false_iff_ne, Lib.toList_data, Lib.toList_data]
                exact fun hh => e (bytes_eq hh)
              rcases match_meets hqm h3 with hh | hh
              · exact absurd hh (hc hne)
              · exact hh
theorem DInv.fold {nm : ByteArray} {l : List Rul} {k : Nat} : ∀ (qs : List ByteArray) {ps : List ByteArray} {st : Int × ByteArray}, DInv nm l k ps st → DInv nm l k (ps ++ qs) (qs.foldl (dStep nm k) st)
  | [], ps, st, h => by simpa using h
  | q :: qs, ps, st, h => by
    have := DInv.fold qs (h.step q)
    rw [List.append_assoc] at this
    exact this
theorem DInv.next {nm : ByteArray} {l : List Rul} {k : Nat} {r : Rul} {st : Int × ByteArray} (hr : l[k]? = some r) (h : DInv nm l k r.pats st) : DInv nm l (k + 1) [] st := by
  have ht : l.take (k + 1) = l.take k ++ [r] := by rw [List.take_add_one, hr]; rfl
  rcases h with ⟨h1, h2, h3⟩ | ⟨i, h1, h2, h3, h4, h5, h6⟩
  · refine .inl ⟨h1, fun r' hr' => ?_, by simp⟩
    rw [ht] at hr'
    rcases List.mem_append.1 hr' with hr' | hr'
    · exact h2 r' hr'
    · rw [List.mem_singleton] at hr'; subst hr'; exact h3
  · refine .inr ⟨i, h1, .inl ?_, h3, fun r' hr' => ?_, by simp, h6⟩
    · rcases h2 with ⟨a, b⟩ | ⟨a, b⟩
      · exact ⟨by omega, b⟩
      · exact ⟨by omega, r, by rw [a]; exact hr, b⟩
    · rw [ht] at hr'
      rcases List.mem_append.1 hr' with hr' | hr'
      · exact h4 r' hr'
      · rw [List.mem_singleton] at hr'; subst hr'; exact h5
theorem dUpTo_inv (nm : ByteArray) (l : List Rul) : ∀ (k : Nat), k ≤ l.length → DInv nm l k [] (dUpTo nm l k)
  | 0, _ => .inl ⟨rfl, by simp, by simp⟩
  | k + 1, h => by
    have hr : l[k]? = some (l[k]'(by omega)) := List.getElem?_eq_getElem (by omega)
    have ih := dUpTo_inv nm l k (by omega)
    rw [dUpTo, hr]
    have := DInv.fold (l[k]'(by omega)).pats ih
    rw [List.nil_append] at this
    exact DInv.next hr this
theorem decidesB_spec (l : List Rul) (nm : ByteArray) : DecSpec l nm (decidesB l nm) := by
  have h := dUpTo_inv nm l l.length (Nat.le_refl _)
  unfold decidesB
  rcases h with ⟨h1, h2, _⟩ | ⟨i, h1, h2, h3, h4, _, h6⟩
  · rw [List.take_length] at h2
    exact .inl ⟨h1, h2⟩
  · rw [List.take_length] at h4
    rcases h2 with ⟨_, r, hr, hp⟩ | ⟨_, hp⟩
    · exact .inr ⟨i, r, _, h1, hr, hp, h3, h4, h6⟩
    · cases hp
theorem firstRul_some {l : List Rul} {p : ByteArray} {i : Nat} (h : firstRul l p = some i) : (∃ r, l[i]? = some r ∧ p ∈ r.pats) ∧ ∀ (j : Nat) (r' : Rul), j < i → l[j]? = some r' → p ∉ r'.pats := by
  unfold firstRul at h
  rw [List.findIdx?_eq_some_iff_getElem] at h
  obtain ⟨hlt, h1, h2⟩ := h
  refine ⟨⟨l[i], List.getElem?_eq_getElem hlt, memB_iff.1 h1⟩, fun j r' hj hr' hp => ?_⟩
  obtain ⟨hjl, rfl⟩ := List.getElem?_eq_some_iff.1 hr'
  have := h2 j hj
  rw [memB_iff.2 hp] at this; simp at this
theorem firstRul_none {l : List Rul} {p : ByteArray} (h : firstRul l p = none) : ∀ r ∈ l, p ∉ r.pats := by
  unfold firstRul at h
  rw [List.findIdx?_eq_none_iff] at h
  intro r hr hp
  have := h r hr
  rw [memB_iff.2 hp] at this; cases this
theorem firstSome_spec {α β : Type} {f : α → Option β} : ∀ {l : List α} {y : β}, firstSome f l = some y → ∃ (a b : List α) (x : α), l = a ++ x :: b ∧ f x = some y ∧ ∀ z ∈ a, f z = none
  | [], _, h => by simp [firstSome] at h
  | x :: l, y, h => by
    unfold firstSome at h
    split at h
    · rename_i hx; cases h; exact ⟨[], l, x, rfl, hx, by simp⟩
    · rename_i hx
      obtain ⟨a, b, x', h1, h2, h3⟩ := firstSome_spec h
      refine ⟨x :: a, b, x', by rw [h1]; rfl, h2, fun z hz => ?_⟩
      rcases List.mem_cons.1 hz with rfl | hz
      · exact hx
      · exact h3 z hz
theorem firstSome_none {α β : Type} {f : α → Option β} : ∀ {l : List α}, firstSome f l = none → ∀ z ∈ l, f z = none
  | [], _ => by simp
  | x :: l, h => by
    unfold firstSome at h
    split at h
    · cases h
    · rename_i hx
      intro z hz
      rcases List.mem_cons.1 hz with rfl | hz
      · exact hx
      · exact firstSome_none h z hz
theorem starred_data (u : Str) : (starred u).data.toList = 42 :: 46 :: u := rfl
/-- The patterns that match a name are its candidates. -/
theorem match_cand {p nm : ByteArray} (h : rmatchB p.data.toList nm.data.toList = true) : p ∈ candsOf nm := by
  have hp := match_pat h
  unfold candsOf
  rcases rpat_cases hp with hn | hs
  · rw [rmatch_name hn] at h
    rw [Bool.and_eq_true, beq_iff_eq] at h
    rw [bytes_eq h.2]; simp
  · rw [rmatch_star hs, Bool.and_eq_true] at h
    obtain ⟨a, ha, hb⟩ := star_form hs
    rw [hb] at h
    refine List.mem_cons_of_mem _ (List.mem_map.2 ⟨a, belowB_mem.1 h.2, ?_⟩)
    exact bytes_eq (by rw [starred_data, ha])
theorem cand_match {p nm : ByteArray} (hs : isB nm.data.toList = true) (h : p ∈ candsOf nm) (hp : rpatB p.data.toList = true) : rmatchB p.data.toList nm.data.toList = true := by
  unfold candsOf at h
  rcases List.mem_cons.1 h with rfl | h
  · rw [rmatch_name hs, hs]; simp
  · obtain ⟨a, ha, rfl⟩ := List.mem_map.1 h
    rcases rpat_cases hp with hn | hst
    · rw [starred_data] at hn
      have := isB_star (46 :: a)
      rw [hn] at this; cases this
    · rw [rmatch_star hst, hs, Bool.true_and]
      obtain ⟨b, hb, hb2⟩ := star_form hst
      rw [starred_data] at hb
      cases hb
      rw [hb2]; exact belowB_mem.2 ha
/-- Of two candidates the one ahead is within the other. -/
theorem above_pairwise : ∀ (n : Nat) (s : Str), s.length < n → (aboveQ s).Pairwise fun a b => b ∈ aboveQ a
  | 0, _, h => absurd h (Nat.not_lt_zero _)
  | n + 1, s, h => by
    by_cases hu : up s = []
    · rw [aboveQ_end hu]; exact List.Pairwise.nil
    · rw [aboveQ_step hu]
      have := up_lt s hu
      exact List.pairwise_cons.2 ⟨fun b hb => hb, above_pairwise n (up s) (by omega)⟩
theorem cands_within {nm : ByteArray} {a b : List ByteArray} {p q : ByteArray} (hs : isB nm.data.toList = true) (h : candsOf nm = a ++ p :: b) (hq : q ∈ b) (hp : rpatB p.data.toList = true) (hqp : rpatB q.data.toList = true) : rwithinB p.data.toList q.data.toList = true := by
  unfold candsOf at h
  cases a with
  | nil =>
    rw [List.nil_append] at h
    injection h with h1 h2
    subst h1
    rw [rwithin_name hs hqp]
    refine cand_match hs ?_ hqp
    unfold candsOf; rw [h2]; exact List.mem_cons_of_mem _ hq
  | cons x a =>
    injection h with h1 h2
    have hpw := above_pairwise _ nm.data.toList (Nat.lt_succ_self _)
    obtain ⟨c, d, hc, hca, hcb⟩ := List.map_eq_append_iff.1 h2
    obtain ⟨u, e, rfl, hu, he⟩ := List.map_eq_cons_iff.1 hcb
    subst hu he
    obtain ⟨v, hv, rfl⟩ := List.mem_map.1 hq
    rw [hc] at hpw
    have huv : v ∈ aboveQ u := (List.pairwise_cons.1 (List.pairwise_append.1 hpw).2.1).1 v hv
    have stars : ∀ (t : Str), rpatB (starred t).data.toList = true → starB (42 :: 46 :: t) = true ∧ starOf (42 :: 46 :: t) = t := fun t ht => by
      rw [starred_data] at ht
      rcases rpat_cases ht with hn | hst
      · rw [isB_star] at hn; cases hn
      · obtain ⟨b, hb, hb2⟩ := star_form hst
        cases hb
        exact ⟨hst, hb2⟩
    obtain ⟨s1, s2⟩ := stars u hp
    obtain ⟨s3, s4⟩ := stars v hqp
    rw [starred_data, starred_data] at *
    rw [rwithin_star s1 (by unfold rpatB; rw [s3]; rfl), s3, s2, s4, belowB_mem.2 huv]; simp
theorem candIdx_some {l : List Rul} {p : ByteArray} {i : Nat} (h : candIdx l p = some i) : rpatB p.data.toList = true ∧ firstRul l p = some i := by
  unfold candIdx at h
  split at h
  · rename_i hp; exact ⟨hp, h⟩
  · cases h
theorem decP_spec {l : List Rul} {nm : ByteArray} (hs : isB nm.data.toList = true) : DecSpec l nm (decP l nm) := by
  unfold decP
  cases h : firstSome (candIdx l) (candsOf nm) with
  | none =>
    refine .inl ⟨rfl, fun r hr p hp => ?_⟩
    rw [Bool.eq_false_iff]; intro hm
    have := firstSome_none h p (match_cand hm)
    unfold candIdx at this
    rw [if_pos (match_pat hm)] at this
    exact firstRul_none this r hr hp
  | some i =>
    obtain ⟨a, b, p, h1, h2, h3⟩ := firstSome_spec h
    obtain ⟨hp, hf⟩ := candIdx_some h2
    obtain ⟨⟨r, hr, hpr⟩, hfst⟩ := firstRul_some hf
    refine .inr ⟨i, r, p, rfl, hr, hpr, cand_match hs (by rw [h1]; simp) hp, fun r' hr' q hq hqm => ?_, hfst⟩
    have hc := match_cand hqm
    rw [h1] at hc
    rcases List.mem_append.1 hc with hc | hc
    · have := h3 q hc
      unfold candIdx at this
      rw [if_pos (match_pat hqm)] at this
      exact absurd hq (firstRul_none this r' hr')
    · rcases List.mem_cons.1 hc with rfl | hc
      · rw [within_refl]; exact hp
      · exact cands_within hs h1 hc hp (match_pat hqm)
/-- THE PROGRAM's DECIDER IS THE DOCUMENT's. -/
theorem decP_eq {l : List Rul} {nm : ByteArray} (hs : isB nm.data.toList = true) : decP l nm = decidesB l nm := (decP_spec hs).unique (decidesB_spec l nm)
end Pol
end Go.Proofs.YteemkkmkkgfofaaGreatDoor
namespace Go.Proofs.YteemkkmkkgfofaaGreatDoor
namespace Pol
open Nam
/-- Have two rules a pattern in common? -/
def bothB (x y : Rul) : Bool := x.pats.any fun p => memB y.pats p
def bothAt (l : List Rul) (i k : Nat) : Bool := match l[i]?, l[k]? with
  | some x, some y => bothB x y
  | _, _ => false
/-- The pairs that begin with i, up to m. -/
def clashRow (l : List Rul) (i m : Nat) : List (Nat × Nat) := ((List.range m).filter fun k => decide (i < k) && bothAt l i k).map fun k => (i, k)
/-- The pairs that begin below j. -/
def clashTo (l : List Rul) (j : Nat) : List (Nat × Nat) := (List.range j).flatMap fun i => clashRow l i l.length
/-- The rules that clash. -/
def clashL (l : List Rul) : List (Nat × Nat) := clashTo l l.length
theorem bothB_iff {x y : Rul} : bothB x y = true ↔ ∃ p, p ∈ x.pats ∧ p ∈ y.pats := by
  unfold bothB
  rw [List.any_eq_true]
  constructor
  · rintro ⟨p, h1, h2⟩; exact ⟨p, h1, memB_iff.1 h2⟩
  · rintro ⟨p, h1, h2⟩; exact ⟨p, h1, memB_iff.2 h2⟩
theorem bothB_comm (x y : Rul) : bothB x y = bothB y x := by
  rw [Bool.eq_iff_iff, bothB_iff, bothB_iff]
  exact ⟨fun ⟨p, a, b⟩ => ⟨p, b, a⟩, fun ⟨p, a, b⟩ => ⟨p, b, a⟩⟩
theorem bothAt_iff {l : List Rul} {i k : Nat} : bothAt l i k = true ↔ ∃ x y p, l[i]? = some x ∧ l[k]? = some y ∧ p ∈ x.pats ∧ p ∈ y.pats := by
  unfold bothAt
  constructor
  · intro h
    split at h
    · rename_i x y hx hy
      obtain ⟨p, h1, h2⟩ := bothB_iff.1 h
      exact ⟨x, y, p, hx, hy, h1, h2⟩
    · cases h
  · rintro ⟨x, y, p, hx, hy, h1, h2⟩
    rw [hx, hy]; exact bothB_iff.2 ⟨p, h1, h2⟩
theorem clashRow_snoc (l : List Rul) (i m : Nat) : clashRow l i (m + 1) = clashRow l i m ++ if decide (i < m) && bothAt l i m then [(i, m)] else [] := by
  unfold clashRow
  rw [List.range_succ, List.filter_append, List.map_append]
  congr 1
  rw [List.filter_cons]
  split <;> simp
theorem clashRow_nil (l : List Rul) (i : Nat) : clashRow l i (i + 1) = [] := by
  unfold clashRow
  rw [List.map_eq_nil_iff, List.filter_eq_nil_iff]
  intro k hk
  rw [List.mem_range] at hk
  simp; omega
theorem clashTo_snoc (l : List Rul) (j : Nat) : clashTo l (j + 1) = clashTo l j ++ clashRow l j l.length := by
  unfold clashTo
  rw [List.range_succ, List.flatMap_append]; simp
theorem mem_clashRow {l : List Rul} {i m : Nat} {q : Nat × Nat} : q ∈ clashRow l i m ↔ q.1 = i ∧ i < q.2 ∧ q.2 < m ∧ bothAt l i q.2 = true := by
  unfold clashRow
  simp only [List.mem_map, List.mem_filter, List.mem_range, Bool.and_eq_true, decide_eq_true_eq]
  constructor
  · rintro ⟨k, ⟨h1, h2, h3⟩, rfl⟩; exact ⟨rfl, h2, h1, h3⟩
  · rintro ⟨h1, h2, h3, h4⟩; exact ⟨q.2, ⟨h3, h2, h4⟩, by rw [← h1]⟩
theorem mem_clash {l : List Rul} {q : Nat × Nat} : q ∈ clashL l ↔ q.1 < q.2 ∧ bothAt l q.1 q.2 = true := by
  unfold clashL clashTo
  simp only [List.mem_flatMap, List.mem_range, mem_clashRow]
  constructor
  · rintro ⟨i, _, rfl, h1, h2, h3⟩; exact ⟨h1, h3⟩
  · rintro ⟨h1, h2⟩
    obtain ⟨x, y, p, hx, hy, _⟩ := bothAt_iff.1 h2
    exact ⟨q.1, (List.getElem?_eq_some_iff.1 hx).1, rfl, h1, (List.getElem?_eq_some_iff.1 hy).1, h2⟩
def lexlt (a b : Nat × Nat) : Prop := a.1 < b.1 ∨ a.1 = b.1 ∧ a.2 < b.2
theorem lexlt_asymm {a b : Nat × Nat} (h : lexlt a b) (h' : lexlt b a) : False := by
  unfold lexlt at h h'; omega
theorem lexlt_total {a b : Nat × Nat} (h : a ≠ b) : lexlt a b ∨ lexlt b a := by
  unfold lexlt
  have : ¬ (a.1 = b.1 ∧ a.2 = b.2) := fun e => h (Prod.ext e.1 e.2)
  omega
theorem clashRow_sorted (l : List Rul) (i m : Nat) : (clashRow l i m).Pairwise lexlt := by
  induction m with
  | zero => exact List.Pairwise.nil
  | succ m ih =>
    rw [clashRow_snoc]
    refine List.pairwise_append.2 ⟨ih, ?_, fun a ha b hb => ?_⟩
    · split
      · exact List.pairwise_singleton _ _
      · exact List.Pairwise.nil
    · split at hb
      · rw [List.mem_singleton] at hb; subst hb
        obtain ⟨h1, _, h3, _⟩ := mem_clashRow.1 ha
        exact .inr ⟨h1, h3⟩
      · cases hb
theorem clashTo_sorted (l : List Rul) (j : Nat) : (clashTo l j).Pairwise lexlt := by
  induction j with
  | zero => exact List.Pairwise.nil
  | succ j ih =>
    rw [clashTo_snoc]
    refine List.pairwise_append.2 ⟨ih, clashRow_sorted _ _ _, fun a ha b hb => ?_⟩
    obtain ⟨h1, _⟩ := mem_clashRow.1 hb
    unfold clashTo at ha
    obtain ⟨i, hi, hai⟩ := List.mem_flatMap.1 ha
    obtain ⟨h2, _⟩ := mem_clashRow.1 hai
    rw [List.mem_range] at hi
    exact .inl (by omega)
theorem clash_sorted (l : List Rul) : (clashL l).Pairwise lexlt := clashTo_sorted l _
theorem sorted_unique {α : Type} {r : α → α → Prop} (hr : ∀ a b, r a b → r b a → False) : ∀ {l m : List α}, l.Pairwise r → m.Pairwise r → (∀ x, x ∈ l ↔ x ∈ m) → l = m
  | [], [], _, _, _ => rfl
  | [], b :: m, _, _, h => by have := (h b).2 (by simp); cases this
  | a :: l, [], _, _, h => by have := (h a).1 (by simp); cases this
  | a :: l, b :: m, hl, hm, h => by
    obtain ⟨l1, l2⟩ := List.pairwise_cons.1 hl
    obtain ⟨m1, m2⟩ := List.pairwise_cons.1 hm
    have e : a = b := by
      rcases List.mem_cons.1 ((h a).1 (by simp)) with e | ha
      · exact e
      · rcases List.mem_cons.1 ((h b).2 (by simp)) with e | hb
        · exact e.symm
        · exact (hr _ _ (l1 b hb) (m1 a ha)).elim
    subst e
    rw [sorted_unique hr l2 m2 fun x => ?_]
    constructor
    · intro hx
      rcases List.mem_cons.1 ((h x).1 (List.mem_cons_of_mem _ hx)) with rfl | hx'
      · exact (hr _ _ (l1 x hx) (l1 x hx)).elim
      · exact hx'
    · intro hx
      rcases List.mem_cons.1 ((h x).2 (List.mem_cons_of_mem _ hx)) with rfl | hx'
      · exact (hr _ _ (m1 x hx) (m1 x hx)).elim
      · exact hx'
/-- What is in order and holds what clashes is the list of what clashes. -/
theorem clash_of_sorted {l : List Rul} {m : List (Nat × Nat)} (hs : m.Pairwise lexlt) (h : ∀ q, q ∈ m ↔ q.1 < q.2 ∧ bothAt l q.1 q.2 = true) : m = clashL l :=
  sorted_unique (fun _ _ => lexlt_asymm) hs (clash_sorted l) fun q => by rw [h, mem_clash]
theorem clash_nodup (l : List Rul) : (clashL l).Nodup := by
  unfold List.Nodup
  refine (clash_sorted l).imp fun {a b} h => ?_
  rintro rfl; exact lexlt_asymm h h
theorem nodup_length_le {α : Type} [DecidableEq α] : ∀ {l m : List α}, l.Nodup → (∀ x ∈ l, x ∈ m) → l.length ≤ m.length
  | [], _, _, _ => Nat.zero_le _
  | a :: l, m, hl, h => by
    obtain ⟨h1, h2⟩ := List.nodup_cons.1 hl
    have ha := h a (by simp)
    have := nodup_length_le (m := m.erase a) h2 fun x hx => by
      refine (List.mem_erase_of_ne ?_).2 (h x (List.mem_cons_of_mem _ hx))
      rintro rfl; exact h1 hx
    rw [List.length_erase_of_mem ha] at this
    have := List.length_pos_of_mem ha
    simp only [List.length_cons]; omega
/-- The rules of a list with none that clash have no pattern in common. -/
theorem no_clash {l : List Rul} (h : clashL l = []) {i k : Nat} {x y : Rul} {p : ByteArray} (hx : l[i]? = some x) (hy : l[k]? = some y) (hp : p ∈ x.pats) (hq : p ∈ y.pats) : i = k := by
  rcases Nat.lt_trichotomy i k with hlt | e | hlt
  · have : (i, k) ∈ clashL l := mem_clash.2 ⟨hlt, bothAt_iff.2 ⟨x, y, p, hx, hy, hp, hq⟩⟩
    rw [h] at this; cases this
  · exact e
  · have : (k, i) ∈ clashL l := mem_clash.2 ⟨hlt, bothAt_iff.2 ⟨y, x, p, hy, hx, hq, hp⟩⟩
    rw [h] at this; cases this
/-- What the look at rules tells, ahead of the compiling. -/
def rightE (l : List Rul) : Int := if checkE l = 0 then (if clashL l = [] then 0 else 160) else checkE l
end Pol
end Go.Proofs.YteemkkmkkgfofaaGreatDoor
namespace Go.Proofs.YteemkkmkkgfofaaGreatDoor
open Pol Nam
/-- A node, as the program holds it. -/
structure Pol.Nod where
  label : ByteArray
  here' : Int
  below : Int
  kids : List Int
theorem nod_eq {x y : Nod} : x = y ↔ (x.label = y.label ∧ x.here' = y.here' ∧ x.below = y.below ∧ x.kids = y.kids) := by
  cases x; cases y; simp
instance : DecidableEq Nod := fun _ _ => decidable_of_iff _ nod_eq.symm
namespace Pol
/-- A node's kid with a label, among some of its kids. -/
def kidIn (nodes : List Nod) (lab : ByteArray) : List Int → Option Int
  | [] => none
  | k :: l => if ((nodes[k.toNat]?).map fun x => x.label.toList == lab.toList) == some true then some k else kidIn nodes lab l
/-- Kids that are nodes. -/
def kidsIn (nodes : List Nod) (ks : List Int) : Prop := ∀ k ∈ ks, 0 ≤ k ∧ k.toNat < nodes.length
theorem kidIn_take {nodes : List Nod} {lab : ByteArray} : ∀ {ks : List Int} {j : Nat} {q : Int}, ks[j]? = some q → kidIn nodes lab (ks.take j) = none → kidIn nodes lab (ks.take (j + 1)) = if ((nodes[q.toNat]?).map fun x => x.label.toList == lab.toList) == some true then some q else none
  | [], j, q, h, _ => by simp at h
  | x :: ks, 0, q, h, _ => by simp at h; subst h; simp [kidIn]
  | x :: ks, j + 1, q, h, hn => by
    have h' : ks[j]? = some q := by simpa using h
    rw [List.take_succ_cons] at hn ⊢
    unfold kidIn at hn ⊢
    by_cases hc : (((nodes[x.toNat]?).map fun x => x.label.toList == lab.toList) == some true) = true
    · rw [if_pos hc] at hn; cases hn
    · rw [if_neg hc] at hn ⊢; exact kidIn_take h' hn
theorem kidIn_found {nodes : List Nod} {lab : ByteArray} : ∀ {ks : List Int} {j : Nat} {q : Int}, kidIn nodes lab (ks.take j) = some q → kidIn nodes lab ks = some q
  | [], j, q, h => by simpa using h
  | x :: ks, 0, q, h => by simp [kidIn] at h
  | x :: ks, j + 1, q, h => by
    rw [List.take_succ_cons] at h
    unfold kidIn at h ⊢
    split
    · rename_i hc; rw [if_pos hc] at h; exact h
    · rename_i hc; rw [if_neg hc] at h; exact kidIn_found h
theorem kidIn_some {nodes : List Nod} {lab : ByteArray} : ∀ {ks : List Int} {q : Int}, kidIn nodes lab ks = some q → q ∈ ks ∧ ∃ x, nodes[q.toNat]? = some x ∧ x.label = lab
  | [], _, h => by cases h
  | k :: ks, q, h => by
    unfold kidIn at h
    split at h
    · rename_i hc
      cases h
      refine ⟨by simp, ?_⟩
      cases hx : nodes[k.toNat]? with
      | none => rw [hx] at hc; simp at hc
      | some x =>
        rw [hx] at hc
        simp only [Option.map_some, beq_iff_eq, Option.some.injEq] at hc
        exact ⟨x, rfl, bytes_eq (by rwa [Lib.toList_data, Lib.toList_data] at hc)⟩
    · obtain ⟨h1, h2⟩ := kidIn_some h
      exact ⟨List.mem_cons_of_mem _ h1, h2⟩
theorem kidIn_none {nodes : List Nod} {lab : ByteArray} : ∀ {ks : List Int}, kidIn nodes lab ks = none → ∀ q ∈ ks, ∀ x, nodes[q.toNat]? = some x → x.label ≠ lab
  | [], _, q, hq => by cases hq
  | k :: ks, h, q, hq => by
    unfold kidIn at h
    split at h
    · cases h
    · rename_i hc
      rcases List.mem_cons.1 hq with rfl | hq
      · intro x hx e
        exact hc (by rw [hx, Option.map_some, e]; simp)
      · exact kidIn_none h q hq
def blankN (lab : ByteArray) : Nod := ⟨lab, -1, -1, []⟩
/-- Node n has a kid more: the list's new last node. -/
def addKid (ns : List Nod) (n : Nat) : List Nod := ns.modify n fun x => { x with kids := x.kids ++ [(ns.length : Int)] }
def growT (ns : List Nod) (n : Nat) (lab : ByteArray) : List Nod := addKid ns n ++ [blankN lab]
/-- A step down, by a label. -/
def stepT (st : List Nod × Nat) (lab : ByteArray) : List Nod × Nat := match st.1[st.2]? with
  | none => st
  | some x => match kidIn st.1 lab x.kids with
    | some k => (st.1, k.toNat)
    | none => (growT st.1 st.2 lab, st.1.length)
/-- All the way down. -/
def downT (ns : List Nod) (ls : List ByteArray) : List Nod × Nat := ls.foldl stepT (ns, 0)
def setT (ns : List Nod) (n : Nat) (wide : Bool) (i : Int) : List Nod := ns.modify n fun x => if wide then { x with below := i } else { x with here' := i }
/-- A name's labels, from the last one on. -/
def revL (s : Str) : List ByteArray := (cut s).reverse.map fun x => ⟨x.toArray⟩
/-- What a pattern is of. -/
def ofP (p : ByteArray) : Str := if starB p.data.toList then p.data.toList.drop 2 else p.data.toList
def pathP (p : ByteArray) : List ByteArray := revL (ofP p)
/-- A pattern's rule in a tree. -/
def putT (ns : List Nod) (p : ByteArray) (i : Int) : List Nod := setT (downT ns (pathP p)).1 (downT ns (pathP p)).2 (starB p.data.toList) i
def putAll (ns : List Nod) (ps : List ByteArray) (i : Int) : List Nod := ps.foldl (fun ns p => putT ns p i) ns
/-- The tree of the first k rules. -/
def treeTo (l : List Rul) : Nat → List Nod
  | 0 => [blankN ⟨#[]⟩]
  | k + 1 => match l[k]? with
    | none => treeTo l k
    | some r => putAll (treeTo l k) r.pats k
def treeOf (l : List Rul) : List Nod := treeTo l l.length
/-- Who decides of a name, by the tree: from node n, with the last star met. -/
def goT (ns : List Nod) : List ByteArray → Nat → Int → Int
  | [], n, last => match ns[n]? with
    | some x => if x.here' = -1 then last else x.here'
    | none => last
  | lab :: ls, n, last => match ns[n]? with
    | some x => match kidIn ns lab x.kids with
      | some k => goT ns ls k.toNat (if x.below = -1 then last else x.below)
      | none => if x.below = -1 then last else x.below
    | none => last
def decT (ns : List Nod) (nm : ByteArray) : Int := goT ns (revL nm.data.toList) 0 (-1)

/-! The tree's shape: each node stands at a path of labels. -/
structure Tree (ns : List Nod) (ps : List (List ByteArray)) : Prop where
  len : ps.length = ns.length
  root : ps[0]? = some []
  kid : ∀ (j : Nat) (x : Nod), ns[j]? = some x → ∀ k ∈ x.kids, ∃ (m : Nat) (y : Nod) (P : List ByteArray), k = (m : Int) ∧ j < m ∧ ns[m]? = some y ∧ ps[j]? = some P ∧ ps[m]? = some (P ++ [y.label])
  up : ∀ (m : Nat) (y : Nod), 0 < m → ns[m]? = some y → ∃ (j : Nat) (x : Nod), ns[j]? = some x ∧ (m : Int) ∈ x.kids
  nodup : ps.Nodup
  perm : (ns.flatMap (·.kids)).Perm ((List.range (ns.length - 1)).map fun i => ((i + 1 : Nat) : Int))
theorem nodup_get {α : Type} {l : List α} (h : l.Nodup) {i j : Nat} {x : α} (hi : l[i]? = some x) (hj : l[j]? = some x) : i = j := by
  obtain ⟨hi1, hi2⟩ := List.getElem?_eq_some_iff.1 hi
  obtain ⟨hj1, hj2⟩ := List.getElem?_eq_some_iff.1 hj
  exact (List.getElem_inj h).1 (hi2.trans hj2.symm)
theorem Tree.kidsIn {ns : List Nod} {ps : List (List ByteArray)} (h : Tree ns ps) {j : Nat} {x : Nod} (hx : ns[j]? = some x) : kidsIn ns x.kids := fun k hk => by
  obtain ⟨m, y, P, rfl, _, hy, _, _⟩ := h.kid j x hx k hk
  exact ⟨by omega, by rw [Int.toNat_natCast]; exact (List.getElem?_eq_some_iff.1 hy).1⟩
theorem Tree.start : Tree [blankN ⟨#[]⟩] [[]] where
  len := rfl
  root := rfl
  kid := fun j x hx k hk => by
    cases j with
    | zero => simp at hx; subst hx; cases hk
    | succ j => simp at hx
  up := fun m y hm hy => by
    cases m with
    | zero => omega
    | succ j => simp at hy
  nodup := by simp
  perm := by simp [blankN]
/-- The kid with a label is the node at the path behind. -/
theorem Tree.kid_some {ns : List Nod} {ps : List (List ByteArray)} (h : Tree ns ps) {j : Nat} {x : Nod} {P : List ByteArray} {lab : ByteArray} {q : Int} (hx : ns[j]? = some x) (hP : ps[j]? = some P) (hq : kidIn ns lab x.kids = some q) :
    ∃ m : Nat, q = (m : Int) ∧ j < m ∧ ps[m]? = some (P ++ [lab]) := by
  obtain ⟨h1, y, h2, h3⟩ := kidIn_some hq
  obtain ⟨m, y', P', rfl, h4, h5, h6, h7⟩ := h.kid j x hx q h1
  rw [Int.toNat_natCast, h5] at h2; cases h2
  rw [hP] at h6; cases h6
  exact ⟨m, rfl, h4, by rw [← h3]; exact h7⟩
theorem Tree.kid_none {ns : List Nod} {ps : List (List ByteArray)} (h : Tree ns ps) {j : Nat} {x : Nod} {P : List ByteArray} {lab : ByteArray} (hx : ns[j]? = some x) (hP : ps[j]? = some P) (hq : kidIn ns lab x.kids = none) :
    (P ++ [lab]) ∉ ps := by
  intro hm
  obtain ⟨m, hm'⟩ := List.getElem?_of_mem hm
  have hlt : m < ns.length := by rw [← h.len]; exact (List.getElem?_eq_some_iff.1 hm').1
  have hy : ns[m]? = some ns[m] := List.getElem?_eq_getElem hlt
  have h0 : 0 < m := by
    rcases Nat.eq_zero_or_pos m with rfl | h0
    · rw [h.root] at hm'; simp at hm'
    · exact h0
  obtain ⟨j', x', hx', hk⟩ := h.up m _ h0 hy
  obtain ⟨m', y', P', e, h4, h5, h6, h7⟩ := h.kid j' x' hx' _ hk
  obtain rfl : m = m' := by omega
  rw [hm'] at h7
  simp only [Option.some.injEq] at h7
  have e2 := List.append_inj' h7 rfl
  obtain ⟨e3, e4⟩ := e2
  subst e3
  have := nodup_get h.nodup hP h6
  subst this
  rw [hx] at hx'; cases hx'
  have := kidIn_none hq _ hk y' (by rw [Int.toNat_natCast]; exact h5)
  simp at e4
  exact this e4.symm
theorem addKid_length (ns : List Nod) (n : Nat) : (addKid ns n).length = ns.length := by unfold addKid; simp
theorem addKid_get (ns : List Nod) (n j : Nat) : (addKid ns n)[j]? = (ns[j]?).map fun x => if n = j then { x with kids := x.kids ++ [(ns.length : Int)] } else x := by
  unfold addKid
  rw [List.getElem?_modify]
  cases ns[j]? with
  | none => simp
  | some x => by_cases h : n = j <;> simp [h]
theorem growT_length (ns : List Nod) (n : Nat) (lab : ByteArray) : (growT ns n lab).length = ns.length + 1 := by unfold growT; simp [addKid_length]
theorem growT_get_lt (ns : List Nod) (n : Nat) (lab : ByteArray) {j : Nat} (h : j < ns.length) : (growT ns n lab)[j]? = (ns[j]?).map fun x => if n = j then { x with kids := x.kids ++ [(ns.length : Int)] } else x := by
  unfold growT
  rw [List.getElem?_append_left (by rw [addKid_length]; exact h), addKid_get]
theorem growT_get_last (ns : List Nod) (n : Nat) (lab : ByteArray) : (growT ns n lab)[ns.length]? = some (blankN lab) := by
  unfold growT
  rw [List.getElem?_append_right (by rw [addKid_length]; exact Nat.le_refl _), addKid_length]; simp
theorem perm_addKid : ∀ (ns : List Nod) (n : Nat) (k : Int), n < ns.length → ((ns.modify n fun x => { x with kids := x.kids ++ [k] }).flatMap (·.kids)).Perm (ns.flatMap (·.kids) ++ [k])
  | [], n, k, h => by simp at h
  | x :: ns, 0, k, h => by
    simp only [List.modify_zero_cons, List.flatMap_cons, List.append_assoc]
    exact List.Perm.append_left _ List.perm_append_comm
  | x :: ns, n + 1, k, h => by
    simp only [List.modify_succ_cons, List.flatMap_cons, List.append_assoc]
    exact List.Perm.append_left _ (perm_addKid ns n k (by simpa using h))
theorem Tree.grow {ns : List Nod} {ps : List (List ByteArray)} (h : Tree ns ps) {j : Nat} {x : Nod} {P : List ByteArray} {lab : ByteArray} (hx : ns[j]? = some x) (hP : ps[j]? = some P) (hq : kidIn ns lab x.kids = none) :
    Tree (growT ns j lab) (ps ++ [P ++ [lab]]) := by
  have hj : j < ns.length := (List.getElem?_eq_some_iff.1 hx).1
  have hnew := h.kid_none hx hP hq
  have old : ∀ m Q, ps[m]? = some Q → (ps ++ [P ++ [lab]])[m]? = some Q := fun m Q hm => by
    rw [List.getElem?_append_left (List.getElem?_eq_some_iff.1 hm).1]; exact hm
  have getlt : ∀ m y, ns[m]? = some y → (growT ns j lab)[m]? = some (if j = m then { y with kids := y.kids ++ [(ns.length : Int)] } else y) := fun m y hy => by
    rw [growT_get_lt _ _ _ (List.getElem?_eq_some_iff.1 hy).1, hy]; rfl
  refine ⟨by simp [growT_length, h.len], ?_, ?_, ?_, ?_, ?_⟩
  · exact old 0 _ h.root
  · intro i y hy k hk
    have hi : i < (growT ns j lab).length := (List.getElem?_eq_some_iff.1 hy).1
    rw [growT_length] at hi
    by_cases hil : i < ns.length
    · have hy0 : ns[i]? = some ns[i] := List.getElem?_eq_getElem hil
      rw [getlt i _ hy0] at hy
      simp only [Option.some.injEq] at hy
      have hk' : k ∈ (ns[i]).kids ∨ (j = i ∧ k = (ns.length : Int)) := by
        rw [← hy] at hk
        split at hk
        · rename_i e
          rcases List.mem_append.1 hk with hk | hk
          · exact .inl hk
          · exact .inr ⟨e, by simpa using hk⟩
        · exact .inl hk
      rcases hk' with hk' | ⟨rfl, rfl⟩
      · obtain ⟨m, z, Q, rfl, h1, h2, h3, h4⟩ := h.kid i _ hy0 k hk'
        refine ⟨m, _, Q, rfl, h1, getlt m z h2, old _ _ h3, ?_⟩
        rw [old _ _ h4]
        split <;> rfl
      · exact ⟨ns.length, blankN lab, P, rfl, hil, growT_get_last _ _ _, old _ _ hP, by rw [List.getElem?_append_right (by rw [h.len]; exact Nat.le_refl _), h.len]; simp [blankN]⟩
    · obtain rfl : i = ns.length := by omega
      rw [growT_get_last] at hy; cases hy; cases hk
  · intro m y hm hy
    have hml : m < (growT ns j lab).length := (List.getElem?_eq_some_iff.1 hy).1
    rw [growT_length] at hml
    by_cases hil : m < ns.length
    · obtain ⟨i, z, h1, h2⟩ := h.up m _ hm (List.getElem?_eq_getElem hil)
      refine ⟨i, _, getlt i z h1, ?_⟩
      split
      · exact List.mem_append_left _ h2
      · exact h2
    · obtain rfl : m = ns.length := by omega
      refine ⟨j, _, getlt j x hx, ?_⟩
      rw [if_pos rfl]; simp
  · refine List.nodup_append.2 ⟨h.nodup, by simp, fun a ha b hb e => ?_⟩
    rw [List.mem_singleton] at hb; subst hb; subst e; exact hnew ha
  · rw [growT_length]
    have hp := perm_addKid ns j ns.length hj
    have e : (growT ns j lab).flatMap (·.kids) = (ns.modify j fun x => { x with kids := x.kids ++ [(ns.length : Int)] }).flatMap (·.kids) := by
      unfold growT addKid; rw [List.flatMap_append]; simp [blankN]
    rw [e]
    refine hp.trans ?_
    have e2 : ns.length + 1 - 1 = (ns.length - 1) + 1 := by omega
    rw [e2, List.range_succ, List.map_append]
    have e3 : ((ns.length - 1 + 1 : Nat) : Int) = (ns.length : Int) := by omega
    simp only [List.map_cons, List.map_nil, e3]
    exact h.perm.append_right _
/-- What a step down comes to. -/
theorem Tree.step {ns : List Nod} {ps : List (List ByteArray)} (h : Tree ns ps) {n : Nat} {P : List ByteArray} (hP : ps[n]? = some P) (lab : ByteArray) :
    ∃ qs, Tree (stepT (ns, n) lab).1 (ps ++ qs) ∧ (ps ++ qs)[(stepT (ns, n) lab).2]? = some (P ++ [lab]) ∧
      (∀ (m : Nat) (y : Nod), ns[m]? = some y → ∃ y' : Nod, (stepT (ns, n) lab).1[m]? = some y' ∧ y'.here' = y.here' ∧ y'.below = y.below) ∧
      (∀ (m : Nat) (y : Nod), (stepT (ns, n) lab).1[m]? = some y → ns.length ≤ m → y.here' = -1 ∧ y.below = -1) := by
  have hn : n < ns.length := by rw [← h.len]; exact (List.getElem?_eq_some_iff.1 hP).1
  have hx : ns[n]? = some ns[n] := List.getElem?_eq_getElem hn
  unfold stepT
  simp only [hx]
  cases hq : kidIn ns lab (ns[n]).kids with
  | some q =>
    obtain ⟨m, rfl, _, hm⟩ := h.kid_some hx hP hq
    refine ⟨[], by simpa using h, ?_, fun m y hy => ⟨y, hy, rfl, rfl⟩, fun m y hy hl => ?_⟩
    · simp only [Int.toNat_natCast, List.append_nil]; exact hm
    · have := (List.getElem?_eq_some_iff.1 hy).1
      simp only at this; omega
  | none =>
    refine ⟨[P ++ [lab]], h.grow hx hP hq, ?_, fun m y hy => ⟨_, (by rw [growT_get_lt _ _ _ (List.getElem?_eq_some_iff.1 hy).1, hy]; rfl), ?_, ?_⟩, fun m y hy hl => ?_⟩
    · simp only
      rw [List.getElem?_append_right (by rw [h.len]; exact Nat.le_refl _), h.len]; simp
    · split <;> rfl
    · split <;> rfl
    · have := (List.getElem?_eq_some_iff.1 hy).1
      simp only [growT_length] at this
      obtain rfl : m = ns.length := by omega
      simp only [growT_get_last] at hy
      cases hy; exact ⟨rfl, rfl⟩
theorem Tree.down : ∀ (ls : List ByteArray) {ns : List Nod} {ps : List (List ByteArray)} (_ : Tree ns ps) {n : Nat} {P : List ByteArray} (_ : ps[n]? = some P),
    ∃ qs, Tree (ls.foldl stepT (ns, n)).1 (ps ++ qs) ∧ (ps ++ qs)[(ls.foldl stepT (ns, n)).2]? = some (P ++ ls) ∧
      (∀ (m : Nat) (y : Nod), ns[m]? = some y → ∃ y' : Nod, (ls.foldl stepT (ns, n)).1[m]? = some y' ∧ y'.here' = y.here' ∧ y'.below = y.below) ∧
      (∀ (m : Nat) (y : Nod), (ls.foldl stepT (ns, n)).1[m]? = some y → ns.length ≤ m → y.here' = -1 ∧ y.below = -1)
  | [], ns, ps, h, n, P, hP => ⟨[], by simpa using h, by simpa using hP, fun m y hy => ⟨y, hy, rfl, rfl⟩, fun m y hy hl => by
      have := (List.getElem?_eq_some_iff.1 hy).1
      simp only [List.foldl_nil] at this; omega⟩
  | lab :: ls, ns, ps, h, n, P, hP => by
    obtain ⟨qs, h1, h2, h3, h4⟩ := h.step hP lab
    obtain ⟨rs, g1, g2, g3, g4⟩ := Tree.down ls h1 h2
    have el : (lab :: ls).foldl stepT (ns, n) = ls.foldl stepT ((stepT (ns, n) lab).1, (stepT (ns, n) lab).2) := rfl
    rw [el]
    refine ⟨qs ++ rs, by rw [← List.append_assoc]; exact g1, by rw [← List.append_assoc, g2]; simp, fun m y hy => ?_, fun m y hy hl => ?_⟩
    · obtain ⟨y1, a1, a2, a3⟩ := h3 m y hy
      obtain ⟨y2, b1, b2, b3⟩ := g3 m y1 a1
      exact ⟨y2, b1, b2.trans a2, b3.trans a3⟩
    · by_cases hm : m < (stepT (ns, n) lab).1.length
      · obtain ⟨y2, b1, b2, b3⟩ := g3 m _ (List.getElem?_eq_getElem hm)
        rw [hy] at b1; cases b1
        obtain ⟨c1, c2⟩ := h4 m _ (List.getElem?_eq_getElem hm) hl
        exact ⟨b2.trans c1, b3.trans c2⟩
      · exact g4 m y hy (by omega)
theorem setT_length (ns : List Nod) (n : Nat) (wide : Bool) (i : Int) : (setT ns n wide i).length = ns.length := by unfold setT; simp
theorem setT_get (ns : List Nod) (n : Nat) (wide : Bool) (i : Int) (j : Nat) : (setT ns n wide i)[j]? = (ns[j]?).map fun x => if n = j then (if wide then { x with below := i } else { x with here' := i }) else x := by
  unfold setT
  rw [List.getElem?_modify]
  cases ns[j]? with
  | none => simp
  | some x => by_cases h : n = j <;> simp [h]
theorem setT_kids {ns : List Nod} {n : Nat} {wide : Bool} {i : Int} {j : Nat} {x : Nod} (h : (setT ns n wide i)[j]? = some x) : ∃ y, ns[j]? = some y ∧ y.kids = x.kids ∧ y.label = x.label := by
  rw [setT_get] at h
  cases hy : ns[j]? with
  | none => rw [hy] at h; cases h
  | some y =>
    rw [hy] at h
    simp only [Option.map_some, Option.some.injEq] at h
    refine ⟨y, rfl, ?_, ?_⟩ <;> rw [← h] <;> split <;> (try split) <;> rfl
theorem setT_back {ns : List Nod} {n : Nat} {wide : Bool} {i : Int} {j : Nat} {y : Nod} (h : ns[j]? = some y) : ∃ x, (setT ns n wide i)[j]? = some x ∧ y.kids = x.kids ∧ y.label = x.label := by
  refine ⟨_, by rw [setT_get, h]; rfl, ?_, ?_⟩ <;> split <;> (try split) <;> rfl
theorem setT_flat (ns : List Nod) (n : Nat) (wide : Bool) (i : Int) : (setT ns n wide i).flatMap (·.kids) = ns.flatMap (·.kids) := by
  unfold setT
  induction ns generalizing n with
  | nil => cases n <;> rfl
  | cons x ns ih =>
    cases n with
    | zero =>
      simp only [List.modify_zero_cons, List.flatMap_cons]
      congr 1
      split <;> rfl
    | succ n => simp only [List.modify_succ_cons, List.flatMap_cons]; rw [ih]
theorem Tree.set {ns : List Nod} {ps : List (List ByteArray)} (h : Tree ns ps) (n : Nat) (wide : Bool) (i : Int) : Tree (setT ns n wide i) ps := by
  refine ⟨by rw [setT_length]; exact h.len, h.root, fun j x hx k hk => ?_, fun m y hm hy => ?_, h.nodup, by rw [setT_flat, setT_length]; exact h.perm⟩
  · obtain ⟨x', hx', e1, e2⟩ := setT_kids hx
    obtain ⟨m, y, P, rfl, h1, h2, h3, h4⟩ := h.kid j x' hx' k (by rw [e1]; exact hk)
    obtain ⟨y', hy', _, e3⟩ := setT_back (n := n) (wide := wide) (i := i) h2
    exact ⟨m, y', P, rfl, h1, hy', h3, by rw [← e3]; exact h4⟩
  · obtain ⟨y', hy', _, _⟩ := setT_kids hy
    obtain ⟨j, x, hx, hk⟩ := h.up m y' hm hy'
    obtain ⟨x', hx', e1, _⟩ := setT_back (n := n) (wide := wide) (i := i) hx
    exact ⟨j, x', hx', by rw [← e1]; exact hk⟩
end Pol
end Go.Proofs.YteemkkmkkgfofaaGreatDoor
