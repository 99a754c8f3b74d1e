/- Walks: names.Meets (over slices.ContainsFunc), names.Labels. -/
import Derived.Test.YtjjkonaopmipoaaDoorNmE
namespace Go.Proofs.YtjjkonaopmipoaaDoor
open Go.RowKit Nam
attribute [local go_sem] Oper.semAt_some wide_fn wide_depth wide_some

theorem pairIs.ext {w w' : World} {b : Nat} {p q : ByteArray} (h : pairIs w b p q) (hE : Ext w w') : pairIs w' b p q := ⟨h.1.ext hE, h.2.ext hE⟩
structure MeetArgs (w : World) (B b0 b1 : Nat) (p q : ByteArray) : Prop where
  env : Env w
  c0 : CellIs w B 0 (.slice (some ⟨b0, 0, none⟩) 2 2)
  c1 : CellIs w B 1 (.slice (some ⟨b1, 0, none⟩) 2 2)
  p0 : pairIs w b0 p q
  p1 : pairIs w b1 q p
theorem MeetArgs.ext {w w' : World} {B b0 b1 : Nat} {p q : ByteArray} (h : MeetArgs w B b0 b1 p q) (hE : Ext w w') : MeetArgs w' B b0 b1 p q :=
  ⟨h.env.ext hE, h.c0.ext hE, h.c1.ext hE, h.p0.ext hE, h.p1.ext hE⟩
def two (a b : Bool) : Int := if a then 0 else if b then 1 else -1
set_option maxHeartbeats 1000000 in
theorem IndexFunc_two (p q : ByteArray) (B b0 b1 : Nat) (w : World) (hp : p.size ≤ 9223372036854775807) (hq : q.size ≤ 9223372036854775807) (hA : MeetArgs w B b0 b1 p q) :
    Calls Tryd.prog 62 #[.slice (some ⟨B, 0, none⟩) 2 2, .func (.func 52) #[] #[]] w (Ret (.int .i64 (two (withinB p.data.toList q.data.toList) (withinB q.data.toList p.data.toList))) w) := by
  have HA := Lib.hid hA; clear hA
  cases hx : withinB p.data.toList q.data.toList
  all_goals cases hy : withinB q.data.toList p.data.toList
  all_goals
    have HX := Lib.hid hx; have HY := Lib.hid hy; clear hx hy
    go_enter Tryd.func62, Tryd.ntmps62
    have c0 : w.cell? ⟨B, 0, none⟩ = _ := HA.out.c0
    have c1 : w.cell? ⟨B, 1, none⟩ = _ := HA.out.c1
    go_wp2
    refine wp_loop_rounds 3 ?_; rw [rounds_succ]
    go_wp2_with fail
    refine (Meets1_any p q _ _ hp hq HA.out.env HA.out.p0).mono ?_; rintro e w1 ⟨rfl, hE1⟩
    rw [HX.out]
    have HA1 := Lib.hid (HA.out.ext hE1)
    have d1 : w1.cell? ⟨B, 1, none⟩ = _ := HA1.out.c1
    clear c0 c1
    go_wp2
  · rw [rounds_succ]
    go_wp2_with fail
    refine (Meets1_any q p _ _ hq hp HA1.out.env HA1.out.p1).mono ?_; rintro e w2 ⟨rfl, hE2⟩
    rw [HY.out]
    clear d1
    go_wp2
    rw [rounds_succ]
    go_wp2
    go_ret
    exact ⟨rfl, ext_trans hE1 hE2⟩
  · rw [rounds_succ]
    go_wp2_with fail
    refine (Meets1_any q p _ _ hq hp HA1.out.env HA1.out.p1).mono ?_; rintro e w2 ⟨rfl, hE2⟩
    rw [HY.out]
    clear d1
    go_wp2
    go_ret
    exact ⟨rfl, ext_trans hE1 hE2⟩
  all_goals
    go_ret
    exact ⟨rfl, hE1⟩
theorem two_ge (a b : Bool) : decide (0 ≤ two a b) = (a || b) := by cases a <;> cases b <;> rfl
set_option maxHeartbeats 1000000 in
theorem ContainsFunc_two (p q : ByteArray) (B b0 b1 : Nat) (w : World) (hp : p.size ≤ 9223372036854775807) (hq : q.size ≤ 9223372036854775807) (hA : MeetArgs w B b0 b1 p q) :
    Calls Tryd.prog 53 #[.slice (some ⟨B, 0, none⟩) 2 2, .func (.func 52) #[] #[]] w (Ret (.bool (meetsB p.data.toList q.data.toList)) w) := by
  have HA := Lib.hid hA; clear hA
  have h := two_ge (withinB p.data.toList q.data.toList) (withinB q.data.toList p.data.toList)
  obtain ⟨x, hx⟩ : ∃ x, x = two (withinB p.data.toList q.data.toList) (withinB q.data.toList p.data.toList) := ⟨_, rfl⟩
  rw [← hx] at h
  have H := Lib.hid h; have HX := Lib.hid hx; clear h hx
  go_enter Tryd.func53, Tryd.ntmps53
  go_wp2_with (go_at_call 62; refine (IndexFunc_two p q B b0 b1 _ hp hq HA.out).mono ?_; rintro e w1 ⟨rfl, hE1⟩; rw [← HX.out])
  go_ret
  exact ⟨ret_bool H.out, hE1⟩
set_option maxHeartbeats 1000000 in
theorem Meets_any (p q : ByteArray) (w : World) (hp : p.size ≤ 9223372036854775807) (hq : q.size ≤ 9223372036854775807) (hw : Env w) :
    Calls Tryd.prog 36 #[.string p, .string q] w (Ret (.bool (meetsB p.data.toList q.data.toList)) w) := by
  have HW := Lib.hid hw; clear hw
  obtain ⟨W0, hW0⟩ : ∃ W0, ((w.alloc (Obj.cells #[Value.string p, Value.string q] 9)).alloc (Obj.cells #[Value.string q, Value.string p] 9)).alloc (Obj.cells #[Value.slice (some { block := w.heap.size, off := 0 }) 2 2, Value.slice (some { block := w.heap.size + 1, off := 0 }) 2 2] 47) = W0 := ⟨_, rfl⟩
  have hB : Ext w W0 := by rw [← hW0]; exact (((Below.refl _ _).alloc (Nat.le_refl _) _).alloc (by simp) _).alloc (by simp; omega) _
  have hA : MeetArgs W0 (w.heap.size + 1 + 1) w.heap.size (w.heap.size + 1) p q := by
    refine ⟨HW.out.ext hB, ?_, ?_, ⟨?_, ?_⟩, ⟨?_, ?_⟩⟩ <;> (rw [← hW0]; unfold CellIs; simp [go_sem])
  have HA := Lib.hid hA; have H0 := Lib.hid hW0; clear hA hW0
  go_enter Tryd.func36, Tryd.ntmps36
  go_wp2_with fail
  rw [H0.out]
  refine (ContainsFunc_two p q _ _ _ W0 hp hq HA.out).mono ?_; rintro e w1 ⟨rfl, hE1⟩
  go_wp2
  go_ret
  exact ⟨rfl, ext_trans hB hE1⟩
end Go.Proofs.YtjjkonaopmipoaaDoor
