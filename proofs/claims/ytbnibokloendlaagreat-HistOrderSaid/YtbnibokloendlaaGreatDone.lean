/-
  Whether a call is done, whether it is on its way; the word that says whether calls may have been made so.
-/
import Derived.Test.YtbnibokloendlaaGreatOps
import Derived.Test.YtbnibokloendlaaGreatMaps
import Derived.Test.YtbnibokloendlaaGreatNumB
namespace Go.Proofs.YtbnibokloendlaaGreat
open Go.RowKit

abbrev opV (o : OpV) : Value := .agg #[.int .i64 o.thread, .int .u8 o.call.op, .int .u8 o.call.r, .int .u8 o.call.h, .int .u8 o.call.v, .int .i64 o.call.a, .int .i64 o.call.b, .int .i64 o.call.c, .int .i64 o.start, .int .i64 o.point, .int .i64 o.stop, .int .i64 o.code, .int .i64 o.n, .slice o.sa o.sn o.sc]
def dn (o : OpV) : Bool := decide (0 ≤ o.start) && decide (o.start ≤ o.point) && decide (o.point ≤ o.stop)
def wy (o : OpV) : Bool := decide (0 ≤ o.start) && decide (o.point = -1) && decide (o.stop = -1)
set_option maxHeartbeats 1000000 in
theorem done_any (o : OpV) (w : World) : Calls Tryz.prog 35 #[opV o] w (R1 (.bool (dn o)) w) := by
  unfold opV
  go_enter Tryz.func35, Tryz.ntmps35
  go_wp2
  all_goals
    first | go_quiet (fail) | skip
    go_wp2
    go_ret
    refine R1.bool ?_
    simp only [dn]
    first | (simp_all; done) | (rw [Bool.eq_iff_iff]; simp <;> omega) | (simp at *; omega)
set_option maxHeartbeats 1000000 in
theorem way_any (o : OpV) (w : World) : Calls Tryz.prog 36 #[opV o] w (R1 (.bool (wy o)) w) := by
  unfold opV
  go_enter Tryz.func36, Tryz.ntmps36
  go_wp2
  all_goals
    first | go_quiet (fail) | skip
    go_wp2
    go_ret
    refine R1.bool ?_
    simp only [wy]
    first | (simp_all; done) | (rw [Bool.eq_iff_iff]; simp <;> omega) | (simp at *; omega)
set_option maxHeartbeats 1000000 in
theorem r22done_any (o : OpV) (w : World) : Calls Tryz.prog 38 #[opV o] w (R1 (.bool (dn o)) w) := by
  unfold opV
  go_enter Tryz.func38, Tryz.ntmps38
  go_wp2
  all_goals
    first | go_quiet (fail) | skip
    go_wp2
    go_ret
    refine R1.bool ?_
    simp only [dn]
    first | (simp_all; done) | (rw [Bool.eq_iff_iff]; simp <;> omega) | (simp at *; omega)
set_option maxHeartbeats 1000000 in
theorem r22way_any (o : OpV) (w : World) : Calls Tryz.prog 39 #[opV o] w (R1 (.bool (wy o)) w) := by
  unfold opV
  go_enter Tryz.func39, Tryz.ntmps39
  go_wp2
  all_goals
    first | go_quiet (fail) | skip
    go_wp2
    go_ret
    refine R1.bool ?_
    simp only [wy]
    first | (simp_all; done) | (rw [Bool.eq_iff_iff]; simp <;> omega) | (simp at *; omega)
end Go.Proofs.YtbnibokloendlaaGreat
