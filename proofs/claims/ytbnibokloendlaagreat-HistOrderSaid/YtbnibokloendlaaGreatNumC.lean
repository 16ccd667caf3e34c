/-
  Contracts of functions on numbers alone (3): the program's.
-/
import Derived.Test.YtbnibokloendlaaGreatNumB
namespace Go.Proofs.YtbnibokloendlaaGreat
open Go.RowKit

set_option maxHeartbeats 400000 in
theorem ctlEnter_any (a b c d f : Int) (w : World) :
    Calls Tryz.prog 165 #[.agg #[.int .i64 a, .int .i64 b, .int .i64 c, .int .i64 d], .int .i64 f] w (Rn (.tuple #[(.agg #[.int .i64 ((Pen.ctlEnter ⟨a, b, c, d⟩ f).1).state, .int .i64 ((Pen.ctlEnter ⟨a, b, c, d⟩ f).1).count, .int .i64 ((Pen.ctlEnter ⟨a, b, c, d⟩ f).1).parent, .int .i64 ((Pen.ctlEnter ⟨a, b, c, d⟩ f).1).epoch]), .int .i64 ((Pen.ctlEnter ⟨a, b, c, d⟩ f).2)]) w) := by
  rcases Bool.eq_false_or_eq_true (Pen.ctlRight ⟨a, b, c, d⟩) with hR | hR
  all_goals try obtain ⟨h1, h2, h3, h4, h5, h6, h7, h8⟩ := Pen.ctlRight_bd hR
  all_goals have hI := Pen.ctlRight_idle b c d
  all_goals
    go_enter Tryz.func165, Tryz.ntmps165
    go_wp2_with (first | (go_at_call 216; refine (ctlRight_any _ _ _ _ _).mono ?_; rintro e w' ⟨X, rfl, rfl⟩) | (go_at_call 34; refine (within_any _ _ _ _).mono ?_; rintro e w' ⟨rfl, rfl⟩) | go_in)
    all_goals
      refine ⟨rfl, ?_⟩
      simp [results, Tryz.results165, go_sem, setCell_drewN, *]
      refine Rn.mk ?_ ?_
      rotate_left
      · repeat (first | exact Below.refl _ _ | refine Below.alloc ?_ (by simp; try omega) _ | refine below_drewN ?_ _)
      try simp only [beq_iff_eq, beq_eq_false_iff_ne, bne_iff_ne, bne_eq_false_iff_eq, ne_eq, Bool.not_eq_true', Bool.not_eq_false', decide_eq_true_eq, decide_eq_false_iff_not, Int.not_le, Int.not_lt] at *
      try subst_vars
      first | done | (simp (disch := omega) [Pen.ctlEnter, Pen.ctl0, i64_and_epoch, if_pos, if_neg, *] <;> omega) | (obtain rfl := hI hR; simp (disch := omega) [Pen.ctlEnter, Pen.ctl0, i64_and_epoch, if_pos, if_neg, *])

set_option maxHeartbeats 400000 in
theorem ctlLeave_any (a b c d : Int) (w : World) :
    Calls Tryz.prog 170 #[.agg #[.int .i64 a, .int .i64 b, .int .i64 c, .int .i64 d]] w (Rn (.tuple #[(.agg #[.int .i64 ((Pen.ctlLeave ⟨a, b, c, d⟩).1).state, .int .i64 ((Pen.ctlLeave ⟨a, b, c, d⟩).1).count, .int .i64 ((Pen.ctlLeave ⟨a, b, c, d⟩).1).parent, .int .i64 ((Pen.ctlLeave ⟨a, b, c, d⟩).1).epoch]), .int .i64 ((Pen.ctlLeave ⟨a, b, c, d⟩).2)]) w) := by
  rcases Bool.eq_false_or_eq_true (Pen.ctlRight ⟨a, b, c, d⟩) with hR | hR
  all_goals try obtain ⟨h1, h2, h3, h4, h5, h6, h7, h8⟩ := Pen.ctlRight_bd hR
  all_goals have hI := Pen.ctlRight_idle b c d
  all_goals
    go_enter Tryz.func170, Tryz.ntmps170
    go_wp2_with (first | (go_at_call 216; refine (ctlRight_any _ _ _ _ _).mono ?_; rintro e w' ⟨X, rfl, rfl⟩) | (go_at_call 34; refine (within_any _ _ _ _).mono ?_; rintro e w' ⟨rfl, rfl⟩) | go_in)
    all_goals
      refine ⟨rfl, ?_⟩
      simp [results, Tryz.results170, go_sem, setCell_drewN, *]
      refine Rn.mk ?_ ?_
      rotate_left
      · repeat (first | exact Below.refl _ _ | refine Below.alloc ?_ (by simp; try omega) _ | refine below_drewN ?_ _)
      try simp only [beq_iff_eq, beq_eq_false_iff_ne, bne_iff_ne, bne_eq_false_iff_eq, ne_eq, Bool.not_eq_true', Bool.not_eq_false', decide_eq_true_eq, decide_eq_false_iff_not, Int.not_le, Int.not_lt] at *
      try subst_vars
      first | done | (simp (disch := omega) [Pen.ctlLeave, Pen.ctl0, i64_and_epoch, if_pos, if_neg, *] <;> omega) | (obtain rfl := hI hR; simp (disch := omega) [Pen.ctlLeave, Pen.ctl0, i64_and_epoch, if_pos, if_neg, *])

set_option maxHeartbeats 400000 in
theorem ctlOpen_any (a b c d : Int) (w : World) :
    Calls Tryz.prog 171 #[.agg #[.int .i64 a, .int .i64 b, .int .i64 c, .int .i64 d]] w (Rn (.tuple #[(.agg #[.int .i64 ((Pen.ctlOpen ⟨a, b, c, d⟩).1).state, .int .i64 ((Pen.ctlOpen ⟨a, b, c, d⟩).1).count, .int .i64 ((Pen.ctlOpen ⟨a, b, c, d⟩).1).parent, .int .i64 ((Pen.ctlOpen ⟨a, b, c, d⟩).1).epoch]), .int .i64 ((Pen.ctlOpen ⟨a, b, c, d⟩).2)]) w) := by
  rcases Bool.eq_false_or_eq_true (Pen.ctlRight ⟨a, b, c, d⟩) with hR | hR
  all_goals try obtain ⟨h1, h2, h3, h4, h5, h6, h7, h8⟩ := Pen.ctlRight_bd hR
  all_goals have hI := Pen.ctlRight_idle b c d
  all_goals
    go_enter Tryz.func171, Tryz.ntmps171
    go_wp2_with (first | (go_at_call 216; refine (ctlRight_any _ _ _ _ _).mono ?_; rintro e w' ⟨X, rfl, rfl⟩) | (go_at_call 34; refine (within_any _ _ _ _).mono ?_; rintro e w' ⟨rfl, rfl⟩) | go_in)
    all_goals
      refine ⟨rfl, ?_⟩
      simp [results, Tryz.results171, go_sem, setCell_drewN, *]
      refine Rn.mk ?_ ?_
      rotate_left
      · repeat (first | exact Below.refl _ _ | refine Below.alloc ?_ (by simp; try omega) _ | refine below_drewN ?_ _)
      try simp only [beq_iff_eq, beq_eq_false_iff_ne, bne_iff_ne, bne_eq_false_iff_eq, ne_eq, Bool.not_eq_true', Bool.not_eq_false', decide_eq_true_eq, decide_eq_false_iff_not, Int.not_le, Int.not_lt] at *
      try subst_vars
      first | done | (simp (disch := omega) [Pen.ctlOpen, Pen.ctl0, i64_and_epoch, if_pos, if_neg, *] <;> omega) | (obtain rfl := hI hR; simp (disch := omega) [Pen.ctlOpen, Pen.ctl0, i64_and_epoch, if_pos, if_neg, *])

set_option maxHeartbeats 400000 in
theorem numAdd_any (a b : Int) (h0 : 0 ≤ a) (h1 : a ≤ 100000) (h2 : 1 ≤ b) (h3 : b ≤ 100000) (w : World) :
    Calls Tryz.prog 211 #[.int .i64 a, .int .i64 b] w (Q (.tuple #[.int .i64 (a + b), .int .i64 0]) w) := by
  go_enter Tryz.func211, Tryz.ntmps211
  go_wp2
  all_goals
    refine ⟨rfl, ?_⟩
    simp [results, Tryz.results211, go_sem, setCell_drewN, *]
    refine Q.mk ?_
    try simp only [beq_iff_eq, beq_eq_false_iff_ne, bne_iff_ne, bne_eq_false_iff_eq, ne_eq, Bool.not_eq_true', Bool.not_eq_false', decide_eq_true_eq, decide_eq_false_iff_not, Int.not_le, Int.not_lt] at *
    try subst_vars
    first | done | (simp (disch := omega) [if_pos, if_neg, *] <;> omega) | (exfalso; simp at *; omega) | (simp at *; omega)

set_option maxHeartbeats 400000 in
theorem numUp_any (a : Int) (h0 : 0 ≤ a) (h1 : a ≤ 90000) (w : World) :
    Calls Tryz.prog 158 #[.int .i64 a] w (Q (.tuple #[.int .i64 ((a + 7) / 8 * 8), .int .i64 0]) w) := by
  go_enter Tryz.func158, Tryz.ntmps158
  go_wp2_with (go_at_call 211; refine (numAdd_any _ _ (by omega) (by omega) (by omega) (by omega) _).mono ?_; rintro e w' ⟨rfl, rfl⟩)
  all_goals
    refine ⟨rfl, ?_⟩
    simp [results, Tryz.results158, go_sem, setCell_drewN, *]
    refine Q.mk ?_
    try simp only [beq_iff_eq, beq_eq_false_iff_ne, bne_iff_ne, bne_eq_false_iff_eq, ne_eq, Bool.not_eq_true', Bool.not_eq_false', decide_eq_true_eq, decide_eq_false_iff_not, Int.not_le, Int.not_lt] at *
    try subst_vars
    first | done | (simp (disch := omega) [i64_andNot_7, if_pos, if_neg, *] <;> omega) | (exfalso; simp at *; omega) | (simp at *; omega)

set_option maxHeartbeats 400000 in
theorem headWords_any (a b : Int) (w : World) :
    Calls Tryz.prog 121 #[.int .i64 a, .int .i64 b] w (Q (.tuple #[.int .i64 ((Pen.headWords a b).1), .int .i64 ((Pen.headWords a b).2)]) w) := by
  by_cases hg : 0 ≤ a ∧ a ≤ 6 ∧ 0 ≤ b ∧ b ≤ 512
  all_goals try obtain ⟨g1, g2, g3, g4⟩ := hg
  all_goals
    go_enter Tryz.func121, Tryz.ntmps121
    go_wp2_with (first | (go_at_call 34; refine (within_any _ _ _ _).mono ?_; rintro e w' ⟨rfl, rfl⟩) | go_in)
    all_goals
      refine ⟨rfl, ?_⟩
      simp [results, Tryz.results121, go_sem, setCell_drewN, *]
      refine Q.mk ?_
      try simp only [beq_iff_eq, beq_eq_false_iff_ne, bne_iff_ne, bne_eq_false_iff_eq, ne_eq, Bool.not_eq_true', Bool.not_eq_false', decide_eq_true_eq, decide_eq_false_iff_not, Int.not_le, Int.not_lt] at *
      try subst_vars
      first | done | (simp (disch := omega) [Pen.headWords, i64_andNot_7, Int.tdiv_eq_ediv_of_nonneg, IntWalk.wrap64_in, if_pos, if_neg, *] <;> omega) | (exfalso; simp at *; omega) | (simp at *; omega)

set_option maxHeartbeats 400000 in
theorem planImm_any (a b c d : Int) (hR : Pen.planRight ⟨a, b, c, d⟩ = true) (h1 : 1 ≤ a) (h2 : a ≤ 8) (w : World) :
    Calls Tryz.prog 104 #[.agg #[.int .i64 a, .int .i64 b, .int .i64 c, .int .i64 d]] w (Rn (.tuple #[(.agg #[.int .i64 (Pen.planImm ⟨a, b, c, d⟩).pos, .int .i64 (Pen.planImm ⟨a, b, c, d⟩).size]), .int .i64 0]) w) := by
  go_enter Tryz.func104, Tryz.ntmps104
  go_wp2_with (go_at_call 33; refine (planRight_any _ _ _ _ _).mono ?_; rintro e w' ⟨X, rfl, rfl⟩)
  all_goals
    refine ⟨rfl, ?_⟩
    simp [results, Tryz.results104, go_sem, setCell_drewN, *]
    refine Rn.mk ?_ ?_
    rotate_left
    · repeat (first | exact Below.refl _ _ | refine Below.alloc ?_ (by simp; try omega) _ | refine below_drewN ?_ _)
    try simp only [beq_iff_eq, beq_eq_false_iff_ne, bne_iff_ne, bne_eq_false_iff_eq, ne_eq, Bool.not_eq_true', Bool.not_eq_false', decide_eq_true_eq, decide_eq_false_iff_not, Int.not_le, Int.not_lt] at *
    try subst_vars
    first | done | (simp (disch := omega) [Pen.planImm, if_pos, if_neg, *] <;> omega) | (exfalso; simp at *; omega) | (simp at *; omega)

set_option maxHeartbeats 400000 in
theorem refPack_any (a b c : Int) (w : World) :
    Calls Tryz.prog 174 #[.agg #[.int .i64 a, .int .i64 b, .int .i64 c]] w (R1 (.tuple #[.int .u64 ((Pen.refPack ⟨a, b, c⟩).1), .int .i64 ((Pen.refPack ⟨a, b, c⟩).2)]) w) := by
  go_enter Tryz.func174, Tryz.ntmps174
  go_wp2_with (go_at_call 34; refine (within_any _ _ _ _).mono ?_; rintro e w' ⟨rfl, rfl⟩)
  all_goals
    refine ⟨rfl, ?_⟩
    simp [results, Tryz.results174, go_sem, setCell_drewN, *]
    refine R1.mk ?_
    try simp only [beq_iff_eq, beq_eq_false_iff_ne, bne_iff_ne, bne_eq_false_iff_eq, ne_eq, Bool.not_eq_true', Bool.not_eq_false', decide_eq_true_eq, decide_eq_false_iff_not, Int.not_le, Int.not_lt] at *
    try subst_vars
    first | done | (simp (disch := omega) [Pen.refPack, Pen.refRight, Pen.refWord, u64_or_24, u64_or_32, if_pos, if_neg, *] <;> omega) | (exfalso; simp at *; omega) | (simp at *; omega)

end Go.Proofs.YtbnibokloendlaaGreat
