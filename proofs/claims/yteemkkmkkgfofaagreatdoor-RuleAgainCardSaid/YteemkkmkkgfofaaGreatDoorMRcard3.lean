/- The law RuleAgain: whatever the input, the call returns true and what it was handed reads as it read. Conditions: the package-level variables that the row lists hold what the program's text lays (the card ties them). -/
import Derived.Test.YteemkkmkkgfofaaGreatDoorM26
import Derived.Test.YteemkkmkkgfofaaGreatDoorM27
namespace Go.Proofs.YteemkkmkkgfofaaGreatDoor.lawRuleAgain
open Go.ChangeShapes Go.WideShapes Go.ChangeAt Go.RowKit
open Go.ChangeMaps (open_string)

set_option maxRecDepth 100000 in
theorem contract (H : Type) (enc : TypeId × Value → H) (W : World) (base : Nat) (args : Array Value) (ds gs : List (DataW H)) (before : List MemPlace)
    (hval : ∀ (j : Nat) t v, Tryz.f6.params[j]? = some t → args[j]? = some v → Value.okWide Tryz.prog W .any base t v)
    (hW : DataW.Whole enc Tryz.prog Tryz.f6.params.toList Rows.ruleAgainSpec.vars false W args.toList ds gs before) (hlaid : laidMetH Tryz.prog laid15 W) :
    Calls Tryz.prog 6 args W fun e W' => ∃ v, e = .returned v ∧ Rows.ruleAgainSpec.post enc Tryz.prog Tryz.f6 false true false false W args v W' := by
  have hread : ∀ t ∈ Tryz.f6.params.toList, Tryz.prog.readableRec t = true ∧ t < Tryz.prog.types.size := by
    rw [Tryz.params6]
    intro t ht
    obtain rfl : t = 28 := by simpa using ht
    exact ⟨by kernel_rfl, of_decide_eq_true (by kernel_rfl)⟩
  have hW2 := hW
  obtain ⟨p, q, hA0, hV, rfl, hfz, hnd⟩ := hW2
  have hA : DataW.TrodAll enc Tryz.prog W 0 (fun _ => true) true Tryz.f6.params.toList args.toList ds p := hA0
  rw [Tryz.params6] at hA hval
  obtain ⟨v0, vs0, d0, ds0, p0, q0, hargs, rfl, rfl, h0, r0⟩ := trodAll_cons hA
  obtain ⟨rfl, rfl, rfl⟩ := trodAll_nil r0
  obtain rfl : args = #[v0] := by cases args; simp_all
  have hr0 := Rds.of_trod h0
  obtain ⟨xa0, xn0, xc0, rfl⟩ := okWide_slice Tryz.underlying28 (hval 0 28 v0 rfl rfl)
  obtain ⟨a0, l0, c0, e0, p01, p02, p03⟩ := bytes_readR hr0
  have f0 : [Value.slice xa0 xn0 xc0] = [.slice a0 l0.length c0] := e0
  cases f0
  have hw : E15 W := e15_of hlaid
  refine (RuleAgain_any l0 xa0 _ xc0 W rfl p01 p02 p03 hw).mono fun e W' ⟨he, hE⟩ => ?_
  subst he
  exact ⟨_, rfl, law_post hW rfl hread ⟨rfl, rfl, rfl⟩ rfl hE⟩
theorem reads (os : Os) {H : Type} (enc : TypeId × Value → H) : ∃ places, DataW.whole enc Tryz.prog ((World.laidAll Tryz.prog os laid15).forCall (fun _ _ => 0) ⟨#[], #[Value.slice none 0 0], []⟩).memory Tryz.f6.params.toList Rows.ruleAgainSpec.vars false (#[Value.slice none 0 0]).toList 8 = some ([.nil], [], places) :=
  ⟨[], by kernel_rfl⟩
set_option maxRecDepth 100000 in
theorem lifted (os : Os) (started : os.Started) (H : Type) (enc : TypeId × Value → H) (F : Stop.Interp) :
    ReturnsInHanded {} Tryz.checked os 6 .any ((OpenSpec.ofChange Rows.ruleAgainSpec).preRow enc Tryz.prog Tryz.f6 Rows.ruleAgainRow.domain false Rows.ruleAgainRow.laid) (((OpenSpec.ofChange Rows.ruleAgainSpec).at F).post enc Tryz.prog Tryz.f6 false true false false) := by
  obtain ⟨places, hx⟩ := reads os enc
  refine returnsInHanded_of_row (C := Tryz.checked) (s := OpenSpec.ofChange Rows.ruleAgainSpec) own started (by kernel_rfl) Tryz.func6
    (witness_row_atRef (enc := enc) (C := Tryz.checked) false (World.laidAll Tryz.prog os laid15) #[Value.slice none 0 0] (World.laidAll_os _ _ _) (vars15 os _) (rest15 os _) (by kernel_rfl)
      (OpenSpec.preRow_of_cond 8 hx (by kernel_rfl) (fun k hk => by cases hk) (by kernel_rfl) (Eq.mpr (laid15_H _) (laid_met15 os _)))) ?_
  intro W base args ds gs before hval hW _ _ _ hlaid _ _
  exact contract H enc W base args ds gs before hval hW hlaid
theorem said : Rows.RuleAgainSaid :=
  OpenClaim.holds_of_cond 6 Tryz.f6 rfl rfl rfl rfl rfl rfl rfl ⟨rfl, rfl, rfl, rfl, rfl⟩ rfl rfl rfl rfl rfl (by kernel_rfl) Tryz.func6 (by kernel_rfl)
    (of_decide_eq_true (by kernel_rfl)) (by unfold Func.isWrapper; first | (rw [if_pos (by decide +kernel)]; kernel_rfl) | (rw [if_neg (by decide +kernel)]; exact ⟨rfl, rfl⟩))
    (fun os started H enc _ F => by rw [OpenClaim.pre_eq_preRow]; exact lifted os started H enc F)
theorem plain (f : FuncId) (fn : Func) (hf : Tryz.pinned.checked.prog.funcNamed "greatseal/greatseallaw15.RuleAgain" = some f) (hfn : Tryz.pinned.checked.prog.funcs[f]? = some fn) :
    true = Tryz.pinned.checked.prog.looks [] ∧ ∀ (j : Nat) t, fn.params[j]? = some t → Tryz.pinned.checked.prog.wantsStandIn t = false := by
  obtain rfl : f = 6 := Option.some.inj ((show Tryz.prog.funcNamed "greatseal/greatseallaw15.RuleAgain" = some 6 by kernel_rfl).symm.trans hf) |>.symm
  obtain rfl : fn = Tryz.f6 := (Option.some.inj (Tryz.func6.symm.trans hfn)).symm
  refine ⟨by kernel_rfl, fun j t ht => ?_⟩
  rw [Tryz.params6] at ht
  have hm := Array.mem_of_getElem? ht
  obtain rfl : t = 28 := by simpa using hm
  exact (show Tryz.prog.wantsStandIn 28 = false by kernel_rfl)
/-- THE CARD. -/
theorem card : Rows.RuleAgainCardSaid :=
  Claim7.holds_tied_plain_at .later [] _ _ _ _ said (fun _ h => by cases h) (by kernel_rfl) (fun _ h => by cases h) ruleAgain_row_tie rfl ⟨rfl, rfl⟩ (by kernel_rfl) rfl plain (by kernel_rfl)
end Go.Proofs.YteemkkmkkgfofaaGreatDoor.lawRuleAgain
