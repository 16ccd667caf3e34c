/-
  Contracts of functions on numbers alone (2): handles, heads.
-/
import Derived.Test.YtbnibokloendlaaGreatNumA
import Derived.Test.YtbnibokloendlaaGreatBits
namespace Go.Proofs.YtbnibokloendlaaGreat
open Go.RowKit

set_option maxHeartbeats 400000 in
theorem r06Pack_any (a b c : Int) (w : World) :
    Calls Tryz.prog 95 #[.agg #[.int .i64 a, .int .i64 b, .int .i64 c]] w (R1 (.tuple #[.int .u64 ((Pen.refPack ⟨a, b, c⟩).1), .int .i64 ((Pen.refPack ⟨a, b, c⟩).2)]) w) := by
  go_enter Tryz.func95, Tryz.ntmps95
  go_wp2
  all_goals
    refine ⟨rfl, ?_⟩
    simp [results, Tryz.results95, go_sem, setCell_drewN, *]
    refine R1.mk ?_
    try simp only [beq_iff_eq, beq_eq_false_iff_ne, bne_iff_ne, bne_eq_false_iff_eq, ne_eq, Bool.not_eq_true', Bool.not_eq_false', decide_eq_true_eq, decide_eq_false_iff_not, Int.not_le, Int.not_lt] at *
    try subst_vars
    first | done | (simp (disch := omega) [Pen.refPack, Pen.refRight, Pen.refWord, if_pos, if_neg, *] <;> omega) | (exfalso; simp at *; omega) | (simp at *; omega)

set_option maxHeartbeats 400000 in
theorem r06Unpack_any (x : Int) (h0 : 0 ≤ x) (h1 : x ≤ 18446744073709551615) (w : World) :
    Calls Tryz.prog 151 #[.int .u64 x] w (Rn (.tuple #[(.agg #[.int .i64 ((Pen.refUnpack x).1).scope, .int .i64 ((Pen.refUnpack x).1).epoch, .int .i64 ((Pen.refUnpack x).1).pos]), .int .i64 ((Pen.refUnpack x).2)]) w) := by
  go_enter Tryz.func151, Tryz.ntmps151
  go_wp2_with (go_at_call 95; refine (r06Pack_any _ _ _ _).mono ?_; rintro e w' ⟨X, rfl, rfl⟩)
  all_goals
    refine ⟨rfl, ?_⟩
    simp [results, Tryz.results151, go_sem, setCell_drewN, *]
    refine Rn.mk ?_ ?_
    rotate_left
    · repeat (first | exact Below.refl _ _ | refine Below.alloc ?_ (by simp; try omega) _ | refine below_drewN ?_ _)
    try simp only [beq_iff_eq, beq_eq_false_iff_ne, bne_iff_ne, bne_eq_false_iff_eq, ne_eq, Bool.not_eq_true', Bool.not_eq_false', decide_eq_true_eq, decide_eq_false_iff_not, Int.not_le, Int.not_lt] at *
    try subst_vars
    first | (simp (disch := omega) [Pen.refUnpack, if_neg]; done) | ((by_cases hR : Pen.refRight ⟨x / 16777216 % 256, x / 4294967296, 8 * (x % 16777216)⟩ = true) <;> simp_all [Pen.refUnpack, Pen.refRead, Pen.refPack] <;> omega)

set_option maxHeartbeats 400000 in
theorem r07Pack_any (a b c : Int) (d : Bool) (e f : Int) (w : World) :
    Calls Tryz.prog 191 #[.agg #[.int .i64 a, .int .i64 b, .int .i64 c, .bool d, .int .i64 e, .int .i64 f]] w (R2d (.tuple #[.int .u64 (if Pen.headRight ⟨a, b, c, d, e, f⟩ then Pen.headOne ⟨a, b, c, d, e, f⟩ else 0), .int .u64 (if Pen.headRight ⟨a, b, c, d, e, f⟩ then Pen.headTwo ⟨a, b, c, d, e, f⟩ else 0), .int .i64 (if Pen.headRight ⟨a, b, c, d, e, f⟩ then 0 else 1)]) w) := by
  rcases Bool.eq_false_or_eq_true (Pen.headRight ⟨a, b, c, d, e, f⟩) with hR | hR
  all_goals try obtain ⟨h1, h2, h3, h4, h5, h6, h7, h8, h9, h10, h11⟩ := Pen.headRight_bd hR
  all_goals
    go_enter Tryz.func191, Tryz.ntmps191
    go_wp2_with (go_at_call 225; refine (r07Right_any _ _ _ _ _ _ _).mono ?_; rintro e w' ⟨X, rfl, rfl⟩)
    all_goals try (go_quiet (fail); go_wp2)
    all_goals
      refine ⟨rfl, ?_⟩
      simp [results, Tryz.results191, go_sem, setCell_drewN, *]
      first | refine R2d.mk ?_ | refine R2d.mk0 ?_
      try simp only [beq_iff_eq, beq_eq_false_iff_ne, bne_iff_ne, bne_eq_false_iff_eq, ne_eq, Bool.not_eq_true', Bool.not_eq_false', decide_eq_true_eq, decide_eq_false_iff_not, Int.not_le, Int.not_lt] at *
      try subst_vars
      first | done | (simp (disch := omega) [Pen.headOne, Pen.headTwo, if_pos, if_neg, *] <;> omega) | (exfalso; simp at *; omega) | (simp at *; omega)

set_option maxHeartbeats 400000 in
theorem r07Unpack_any (x y : Int) (h0 : 0 ≤ x) (h1 : x ≤ 18446744073709551615) (h2 : 0 ≤ y) (h3 : y ≤ 18446744073709551615) (w : World) :
    Calls Tryz.prog 231 #[.int .u64 x, .int .u64 y] w (Rn (.tuple #[(.agg #[.int .i64 ((Pen.headUnpack x y).1).size, .int .i64 ((Pen.headUnpack x y).1).slots, .int .i64 ((Pen.headUnpack x y).1).tag, .bool ((Pen.headUnpack x y).1).done, .int .i64 ((Pen.headUnpack x y).1).scope, .int .i64 ((Pen.headUnpack x y).1).epoch]), .int .i64 ((Pen.headUnpack x y).2)]) w) := by
  go_enter Tryz.func231, Tryz.ntmps231
  go_wp2_with (go_at_call 191; refine (r07Pack_any _ _ _ _ _ _ _).mono ?_; rintro e w' ⟨X, Y, n, rfl, rfl⟩)
  all_goals
    refine ⟨rfl, ?_⟩
    simp [results, Tryz.results231, go_sem, setCell_drewN, *]
    refine Rn.mk ?_ ?_
    rotate_left
    · repeat (first | exact Below.refl _ _ | refine Below.alloc ?_ (by simp; try omega) _ | refine below_drewN ?_ _)
    try simp only [beq_iff_eq, beq_eq_false_iff_ne, bne_iff_ne, bne_eq_false_iff_eq, ne_eq, Bool.not_eq_true', Bool.not_eq_false', decide_eq_true_eq, decide_eq_false_iff_not, Int.not_le, Int.not_lt] at *
    try subst_vars
    simp_all [Pen.headUnpack, Pen.headRead, Pen.head0]

set_option maxHeartbeats 400000 in
theorem planRight_any (a b c d : Int) (w : World) :
    Calls Tryz.prog 33 #[.agg #[.int .i64 a, .int .i64 b, .int .i64 c, .int .i64 d]] w (R1 (.bool (Pen.planRight ⟨a, b, c, d⟩)) w) := by
  go_enter Tryz.func33, Tryz.ntmps33
  go_wp2_with (go_at_call 34; refine (within_any _ _ _ _).mono ?_; rintro e w' ⟨rfl, rfl⟩)
  all_goals
    go_ret
    refine R1.bool ?_
    try simp only [beq_iff_eq, beq_eq_false_iff_ne, bne_iff_ne, bne_eq_false_iff_eq, ne_eq, Bool.not_eq_true', Bool.not_eq_false', decide_eq_true_eq, decide_eq_false_iff_not, Int.not_le, Int.not_lt] at *
    rw [Bool.eq_iff_iff]
    simp (disch := omega) [Pen.planRight, or_mod8, *] <;> first | omega | (simp at *; omega)

set_option maxHeartbeats 400000 in
theorem ctlRight_any (a b c d : Int) (w : World) :
    Calls Tryz.prog 216 #[.agg #[.int .i64 a, .int .i64 b, .int .i64 c, .int .i64 d]] w (R1 (.bool (Pen.ctlRight ⟨a, b, c, d⟩)) w) := by
  go_enter Tryz.func216, Tryz.ntmps216
  go_wp2_with (first | (go_at_call 34; refine (within_any _ _ _ _).mono ?_; rintro e w' ⟨rfl, rfl⟩) | go_in)
  all_goals
    go_ret
    refine R1.bool ?_
    try simp only [beq_iff_eq, beq_eq_false_iff_ne, bne_iff_ne, bne_eq_false_iff_eq, ne_eq, Bool.not_eq_true', Bool.not_eq_false', decide_eq_true_eq, decide_eq_false_iff_not, Int.not_le, Int.not_lt] at *
    rw [Bool.eq_iff_iff]
    simp [Pen.ctlRight, *] <;> first | omega | (simp at *; omega)

end Go.Proofs.YtbnibokloendlaaGreat
