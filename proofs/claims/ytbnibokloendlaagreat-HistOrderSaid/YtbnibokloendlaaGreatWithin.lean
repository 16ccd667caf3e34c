/-
  Whether a number is within bounds, where that is known.
-/
import Derived.Test.YtbnibokloendlaaGreatNumA
namespace Go.Proofs.YtbnibokloendlaaGreat
open Go.RowKit
theorem within_is (n a b : Int) (c : Bool) (h : (decide (a ≤ n) && decide (n ≤ b)) = c) (w : World) : Calls Tryz.prog 34 #[.int .i64 n, .int .i64 a, .int .i64 b] w (Q (.bool c) w) := by rw [← h]; exact within_any n a b w
theorem within_is' (n a b : Int) (c : Bool) (h : (decide (a ≤ n) && decide (n ≤ b)) = c) (w : World) : Calls Tryz.prog 34 #[.int .i64 n, .int .i64 a, .int .i64 b] w (fun e w' => e = .returned (.bool c) ∧ w' = w) := by
  rw [← h]; exact (within_any n a b w).mono fun _ _ h => ⟨h.1, h.2.symm⟩
theorem within_yes (n a b : Int) (h : a ≤ n ∧ n ≤ b) (w : World) : Calls Tryz.prog 34 #[.int .i64 n, .int .i64 a, .int .i64 b] w (Q (.bool true) w) := within_is n a b true (by simp; omega) w
theorem within_no (n a b : Int) (h : ¬ (a ≤ n ∧ n ≤ b)) (w : World) : Calls Tryz.prog 34 #[.int .i64 n, .int .i64 a, .int .i64 b] w (Q (.bool false) w) := within_is n a b false (by simp; omega) w
end Go.Proofs.YtbnibokloendlaaGreat
