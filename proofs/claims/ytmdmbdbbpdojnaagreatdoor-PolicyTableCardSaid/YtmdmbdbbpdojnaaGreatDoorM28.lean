/- Pairs of ints are compared. -/
import Derived.Test.YtmdmbdbbpdojnaaGreatDoorM15
namespace Go.Proofs.YtmdmbdbbpdojnaaGreatDoor
open Go.RowKit

theorem pair_eq (a b c d : Int) (w : World) : Sem.run Tryz.prog (Op.equalIn 10000 38 (.agg #[.int .i64 a, .int .i64 b]) (.agg #[.int .i64 c, .int .i64 d])) w = .ok (a == c && b == d) w := by
  have hu := Tryz.underlying38
  have hu1 := Tryz.underlying3
  have ha : ∀ w, Sem.run Tryz.prog (isAgg 3) w = .ok false w := fun _ => by kernel_rfl
  have hz : ∀ w, Sem.run Tryz.prog (sizeOf 3) w = .ok 1 w := fun _ => by kernel_rfl
  have he : ∀ (x y : Int) w, Sem.run Tryz.prog (Op.equalIn 9999 3 (.int .i64 x) (.int .i64 y)) w = .ok (x == y) w := fun _ _ _ => by kernel_rfl
  unfold Op.equalIn
  cases h : (a == c)
  · simp [go_sem, h, ha, hz, he, List.range']
  · simp [go_sem, h, ha, hz, he, List.range']
    by_cases hb : b = d
    · rw [if_pos hb]; simp [hb]
    · rw [if_neg hb]; simp [hb]
end Go.Proofs.YtmdmbdbbpdojnaaGreatDoor
