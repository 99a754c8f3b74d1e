/- The law AuditOwns, of any world that is read. -/
import Derived.Test.YtjjkonaopmipoaaDoorAuI
import Derived.Test.YtjjkonaopmipoaaDoorAuJ
namespace Go.Proofs.YtjjkonaopmipoaaDoor
open Go.RowKit Nam Aud

section
variable {H : Type} {enc : TypeId × Value → H}
/-- The law, of any world that is read. -/
theorem AuditOwns_any (cs : Array Value) (s : ByteArray) (now : Int) (w : World) (hw : Env w) (h : Rds enc Tryd.prog w 62 cs.toList) (hs : s.size ≤ 9223372036854775807) {p : Prop} (_ : p) :
    Calls Tryd.prog 3 #[.agg cs, .string s, .int .i64 now] w (Ret (.bool true) w) := by
  have ht := Tryd.underlying62
  obtain ⟨ll, lc, lk, al, ac, ak, zl, zc, zk, hf⟩ := few_read cs h
  obtain ⟨need, k6, _⟩ := (h.at ht 3 3 6 1 rfl (by kernel_rfl)).int Tryd.underlying3
  obtain ⟨t, k16, _⟩ := ((h.at ht 7 44 16 4 rfl (by kernel_rfl)).at Tryd.underlying44 0 3 0 1 rfl (by kernel_rfl)).int Tryd.underlying3
  obtain ⟨a, l, cap, k42, h1, h2, h3, h4⟩ := (h.at ht 17 60 42 1 rfl (by kernel_rfl)).list (R := EvAt) (Q := fun e : Ev => (Lit.int .i64 e.n).wf = true) (C := 6) Tryd.underlying60 (by kernel_rfl) (by decide) ev_read
  have hsz : cs.size = 43 := by have := h.len ht; rw [show Tryd.prog.cellsOf 62 = 43 by kernel_rfl] at this; simpa using this
  exact AuditOwns_of l cs need t a cap l.length s now w hw hs hsz rfl h1 h2 h3 h4 (get_toList (cut_get k6)) (get_toList (cut_get2 k16)) (get_toList (cut_get k42))
    (fun w' hE => few_any cs ll lc lk al ac ak zl zc zk w' (fewCs_ext hf hE))
end
end Go.Proofs.YtjjkonaopmipoaaDoor
