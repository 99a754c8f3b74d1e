/- What the cards of the laws on rules want, once: what the row's laid variables give, and a world for the witness. -/
import Derived.Test.YteemkkmkkgfofaaGreatDoorM02
import Derived.Test.YteemkkmkkgfofaaGreatDoorM24
import Derived.Test.YteemkkmkkgfofaaGreatDoorM25
import Derived.WideShapes
import Derived.Lib.LaidU8
import Derived.LaidLaws
import Derived.Lay
import Derived.MakeChecks
import Derived.Deep.DeepWitnessRowRef
namespace Go.Proofs.YteemkkmkkgfofaaGreatDoor
open Go.ChangeShapes Go.WideShapes Go.ChangeAt Go.RowKit

noncomputable def laid15 : List (String × DataW Unit) := Rows.ruleBackRow.laid
theorem laid15_H (W : World) : laidMetH Tryz.prog laid15 W = laidMet Tryz.prog laid15 W := MakeChecks.laidMetH_plain _ _ _ (by kernel_rfl)
set_option maxRecDepth 1000000 in
theorem varI_of {n : String} {t : TypeId} {nm : String} {d : DataW Unit} {W : World} (g : Nat) (hg : Tryz.prog.globalNamed n = some g) (hty : (Tryz.prog.globals[g]?).map (·.type) = some t) {ms : Array (String × TypeId)} (ht : Tryz.prog.underlying t = some (.interface ms)) (h : Lib.VarReads Tryz.prog W n (.iface nm d)) : VarI n W := by
  obtain ⟨g', t', cs, fuel, p, h1, h2, h3, h4⟩ := h
  obtain rfl := Option.some.inj (hg.symm.trans h1)
  obtain rfl := Option.some.inj (hty.symm.trans h2)
  obtain ⟨_, u, v, hcs, _⟩ := iface_of_trod ht h4
  refine ⟨u, v, ?_⟩
  rw [h3]
  congr 1
  apply Array.ext'
  exact hcs
set_option maxRecDepth 1000000 in
theorem e15_of {W : World} (h0 : laidMetH Tryz.prog laid15 W) : E15 W := by
  rw [laid15_H] at h0
  have hu : Tryz.prog.underlying 53 = some (.interface #[("Error", 79)]) := by kernel_rfl
  have m1 : ("strconv.ErrSyntax", (Rows.laid_strconv_ErrSyntax : DataW Unit)) ∈ laid15 := by unfold laid15 Rows.ruleBackRow; simp
  have m2 : ("strconv.ErrRange", (Rows.laid_strconv_ErrRange : DataW Unit)) ∈ laid15 := by unfold laid15 Rows.ruleBackRow; simp
  have m3 : ("internal/strconv.uint64pow10", (Rows.laid_internal_strconv_uint64pow10 : DataW Unit)) ∈ laid15 := by unfold laid15 Rows.ruleBackRow; simp
  refine ⟨varI_of 7 (by kernel_rfl) (by kernel_rfl) hu (Lib.laidMet.reads h0 m1), varI_of 8 (by kernel_rfl) (by kernel_rfl) hu (Lib.laidMet.reads h0 m2), ?_⟩
  obtain ⟨g', t', cs, fuel, p, k1, k2, k3, k4⟩ := Lib.laidMet.reads h0 m3
  have hg : Tryz.prog.globalNamed "internal/strconv.uint64pow10" = some 1 := by kernel_rfl
  have hty : (Tryz.prog.globals[1]?).map (·.type) = some 127 := by kernel_rfl
  obtain rfl := Option.some.inj (hg.symm.trans k1)
  obtain rfl := Option.some.inj (hty.symm.trans k2)
  have hc := Lib.cells_of_tab (k := .u64) (n := 20) (e := 38) (zs := Lib.pow10Tab) (by kernel_rfl) Tryz.underlying38 (by kernel_rfl) (by kernel_rfl) k4
  unfold Pow Lib.TabIs
  rw [k3]
  congr 1
  apply Array.ext'
  first | exact hc | exact hc.symm | simpa using hc | simpa using hc.symm
theorem laid_met15 (os : Os) (args : Array Value) : laidMet Tryz.prog laid15 ((World.laidAll Tryz.prog os laid15).forCall (fun _ _ => 0) ⟨#[], args, []⟩).memory := laidMet_laidAll _ (by kernel_rfl) (by kernel_rfl)
theorem vars15 (os : Os) (args : Array Value) : ((World.laidAll Tryz.prog os laid15).forCall (fun _ _ => 0) ⟨#[], args, []⟩).variablesRefB Tryz.prog = true := by kernel_rfl
theorem rest15 (os : Os) (args : Array Value) : (((World.laidAll Tryz.prog os laid15).forCall (fun _ _ => 0) ⟨#[], args, []⟩).heap.toList.drop Tryz.prog.globals.size).take ((begin Tryz.prog (fun _ _ => 0) default).world.heap.size - Tryz.prog.globals.size) =
      (begin Tryz.prog (fun _ _ => 0) default).world.heap.toList.drop Tryz.prog.globals.size := by kernel_rfl
section
open Nam Pol
variable {H : Type} {enc : TypeId × Value → H} {w : World}
theorem wf_u64R {n : Int} (h : (Lit.int .u64 n).wf = true) : 0 ≤ n ∧ n < 18446744073709551616 := by
  have h2 : (decide (IntKind.u64.min ≤ n) && decide (n ≤ IntKind.u64.max)) = true := h
  rw [Bool.and_eq_true, decide_eq_true_eq, decide_eq_true_eq] at h2
  have a : IntKind.u64.min = 0 := by kernel_rfl
  have b : IntKind.u64.max = 18446744073709551615 := by kernel_rfl
  omega
theorem str_readR (b o : Nat) (es : List Value) (_hlen : es.length = 1) (hc : ∀ j v, es[j]? = some v → w.cell? ⟨b, o + j, none⟩ = some v) (h : Rds enc Tryz.prog w 9 es) : ∃ s : ByteArray, StrAt w b o s ∧ True := by
  obtain ⟨s, rfl, hs⟩ := h.string Tryz.underlying9
  exact ⟨s, ⟨hc 0 _ rfl, hs⟩, trivial⟩
theorem strs_readR {cs : List Value} (h : Rds enc Tryz.prog w 37 cs) : ∃ a l cap, cs = [.slice a (l : List ByteArray).length cap] ∧ l.length ≤ cap ∧ cap ≤ maxLen ∧ Strs w a l := by
  obtain ⟨a, l, cap, h1, h2, h3, h4, _⟩ := h.list (R := StrAt) (Q := fun _ => True) (C := 1) Tryz.underlying37 (by kernel_rfl) (by decide) str_readR
  exact ⟨a, l, cap, h1, h2, h3, h4⟩
theorem rul_readR (b o : Nat) (es : List Value) (hlen : es.length = 7) (hc : ∀ j v, es[j]? = some v → w.cell? ⟨b, o + j, none⟩ = some v) (h : Rds enc Tryz.prog w 40 es) : ∃ r : Rul, RulAt w b o r ∧ True := by
  have ht := Tryz.underlying40
  match es, hlen with
  | [e0, e1, e2, e3, e4, e5, e6], _ =>
    obtain ⟨v0, h0, z0⟩ := (h.at ht 0 9 0 1 rfl (by kernel_rfl)).string Tryz.underlying9
    obtain ⟨v1, h1⟩ := (h.at ht 1 4 1 1 rfl (by kernel_rfl)).bool Tryz.underlying4
    obtain ⟨a, l, cap, h2, z1, z2, z3⟩ := strs_readR (h.at ht 2 37 2 1 rfl (by kernel_rfl))
    obtain ⟨v3, h3, z4⟩ := (h.at ht 3 38 3 1 rfl (by kernel_rfl)).int Tryz.underlying38
    obtain ⟨v4, h4, _⟩ := (h.at ht 4 3 4 1 rfl (by kernel_rfl)).int Tryz.underlying3
    obtain ⟨v5, h5, _⟩ := (h.at ht 5 3 5 1 rfl (by kernel_rfl)).int Tryz.underlying3
    obtain ⟨v6, h6, _⟩ := (h.at ht 6 3 6 1 rfl (by kernel_rfl)).int Tryz.underlying3
    exact ⟨⟨v0, v1, l, v3, v4, v5, v6⟩, ⟨hc 0 _ (cut_get h0), hc 1 _ (cut_get h1), ⟨a, cap, hc 2 _ (cut_get h2), z1, z2, z3⟩, hc 3 _ (cut_get h3), hc 4 _ (cut_get h4), hc 5 _ (cut_get h5), hc 6 _ (cut_get h6), z0, (wf_u64R z4).1⟩, trivial⟩
theorem rules_readR {cs : List Value} (h : Rds enc Tryz.prog w 22 cs) : ∃ a l cap, cs = [.slice a (l : List Rul).length cap] ∧ l.length ≤ cap ∧ cap ≤ maxLen ∧ Ruls w a l := by
  obtain ⟨a, l, cap, h1, h2, h3, h4, _⟩ := h.list (R := RulAt) (Q := fun _ => True) (C := 7) Tryz.underlying22 (by kernel_rfl) (by decide) rul_readR
  exact ⟨a, l, cap, h1, h2, h3, h4⟩
theorem u8_readR (b o : Nat) (es : List Value) (_hlen : es.length = 1) (hc : ∀ j v, es[j]? = some v → w.cell? ⟨b, o + j, none⟩ = some v) (h : Rds enc Tryz.prog w 5 es) : ∃ c : UInt8, U8At w b o c ∧ True := by
  obtain ⟨n, rfl, hw⟩ := h.int Tryz.underlying5
  have h2 : (decide (IntKind.u8.min ≤ n) && decide (n ≤ IntKind.u8.max)) = true := hw
  rw [Bool.and_eq_true, decide_eq_true_eq, decide_eq_true_eq] at h2
  have a : IntKind.u8.min = 0 := by kernel_rfl
  have b' : IntKind.u8.max = 255 := by kernel_rfl
  refine ⟨UInt8.ofNat n.toNat, ?_, trivial⟩
  unfold U8At
  have h0 : w.cell? ⟨b, o, none⟩ = some (.int .u8 n) := hc 0 _ rfl
  rw [h0, UInt8.toNat_ofNat', Nat.mod_eq_of_lt (by omega), Int.toNat_of_nonneg (by omega)]
theorem bytes_readR {cs : List Value} (h : Rds enc Tryz.prog w 28 cs) : ∃ a l cap, cs = [.slice a (l : List UInt8).length cap] ∧ l.length ≤ cap ∧ cap ≤ maxLen ∧ Byts w a l := by
  obtain ⟨a, l, cap, h1, h2, h3, h4, _⟩ := h.list (R := U8At) (Q := fun _ => True) (C := 1) Tryz.underlying28 (by kernel_rfl) (by decide) u8_readR
  exact ⟨a, l, cap, h1, h2, h3, h4⟩
end
end Go.Proofs.YteemkkmkkgfofaaGreatDoor
