/-
  Contracts of functions on numbers alone (1).
-/
import Derived.Test.YtbnibokloendlaaGreatBase
import Derived.Test.YtbnibokloendlaaGreatPlain
namespace Go.Proofs.YtbnibokloendlaaGreat
open Go.RowKit

set_option maxHeartbeats 400000 in
theorem within_any (n a b : Int) (w : World) :
    Calls Tryz.prog 34 #[.int .i64 n, .int .i64 a, .int .i64 b] w (Q (.bool (decide (a ≤ n) && decide (n ≤ b))) w) := by
  go_enter Tryz.func34, Tryz.ntmps34
  go_wp2
  all_goals
    go_ret
    refine Q.bool ?_
    try simp only [beq_iff_eq, beq_eq_false_iff_ne, bne_iff_ne, bne_eq_false_iff_eq, ne_eq, Bool.not_eq_true', Bool.not_eq_false', decide_eq_true_eq, decide_eq_false_iff_not, Int.not_le, Int.not_lt] at *
    rw [Bool.eq_iff_iff]
    simp [*] <;> first | omega | (simp at *; omega)

set_option maxHeartbeats 400000 in
theorem r03Right_any (a b c d : Int) (w : World) :
    Calls Tryz.prog 208 #[.agg #[.int .i64 a, .int .i64 b, .int .i64 c, .int .i64 d]] w (R1 (.bool (Pen.ctlRight ⟨a, b, c, d⟩)) w) := by
  go_enter Tryz.func208, Tryz.ntmps208
  go_wp2
  all_goals
    go_ret
    refine R1.bool ?_
    try simp only [beq_iff_eq, beq_eq_false_iff_ne, bne_iff_ne, bne_eq_false_iff_eq, ne_eq, Bool.not_eq_true', Bool.not_eq_false', decide_eq_true_eq, decide_eq_false_iff_not, Int.not_le, Int.not_lt] at *
    rw [Bool.eq_iff_iff]
    simp [Pen.ctlRight, *] <;> first | omega | (simp at *; omega)

set_option maxHeartbeats 400000 in
theorem r05Right_any (a b c d : Int) (w : World) :
    Calls Tryz.prog 37 #[.agg #[.int .i64 a, .int .i64 b, .int .i64 c, .int .i64 d]] w (R1 (.bool (Pen.planRight ⟨a, b, c, d⟩)) w) := by
  go_enter Tryz.func37, Tryz.ntmps37
  go_wp2
  all_goals
    go_ret
    refine R1.bool ?_
    try simp only [beq_iff_eq, beq_eq_false_iff_ne, bne_iff_ne, bne_eq_false_iff_eq, ne_eq, Bool.not_eq_true', Bool.not_eq_false', decide_eq_true_eq, decide_eq_false_iff_not, Int.not_le, Int.not_lt] at *
    rw [Bool.eq_iff_iff]
    simp [Pen.planRight, *] <;> first | omega | (simp at *; omega)

set_option maxHeartbeats 400000 in
theorem r03Enter_any (a b c d f : Int) (w : World) :
    Calls Tryz.prog 146 #[.agg #[.int .i64 a, .int .i64 b, .int .i64 c, .int .i64 d], .int .i64 f] w (R3 (.tuple #[(.agg #[.int .i64 ((Pen.ctlEnter ⟨a, b, c, d⟩ f).1).state, .int .i64 ((Pen.ctlEnter ⟨a, b, c, d⟩ f).1).count, .int .i64 ((Pen.ctlEnter ⟨a, b, c, d⟩ f).1).parent, .int .i64 ((Pen.ctlEnter ⟨a, b, c, d⟩ f).1).epoch]), .int .i64 ((Pen.ctlEnter ⟨a, b, c, d⟩ f).2)]) w) := by
  rcases Bool.eq_false_or_eq_true (Pen.ctlRight ⟨a, b, c, d⟩) with hR | hR
  all_goals try obtain ⟨h1, h2, h3, h4, h5, h6, h7, h8⟩ := Pen.ctlRight_bd hR
  all_goals
    go_enter Tryz.func146, Tryz.ntmps146
    go_wp2_with (go_at_call 208; refine (r03Right_any _ _ _ _ _).mono ?_; rintro e w' ⟨X, rfl, rfl⟩)
    all_goals
      refine ⟨rfl, ?_⟩
      simp [results, Tryz.results146, go_sem, setCell_drewN, *]
      refine R3.mk ?_
      try simp only [beq_iff_eq, beq_eq_false_iff_ne, bne_iff_ne, bne_eq_false_iff_eq, ne_eq, Bool.not_eq_true', Bool.not_eq_false', decide_eq_true_eq, decide_eq_false_iff_not, Int.not_le, Int.not_lt] at *
      try subst_vars
      first | done | (simp (disch := omega) [Pen.ctlEnter, Pen.ctl0, if_pos, if_neg, *] <;> omega) | (exfalso; simp at *; omega) | (simp at *; omega)

set_option maxHeartbeats 400000 in
theorem r03Leave_any (a b c d : Int) (w : World) :
    Calls Tryz.prog 148 #[.agg #[.int .i64 a, .int .i64 b, .int .i64 c, .int .i64 d]] w (R3 (.tuple #[(.agg #[.int .i64 ((Pen.ctlLeave ⟨a, b, c, d⟩).1).state, .int .i64 ((Pen.ctlLeave ⟨a, b, c, d⟩).1).count, .int .i64 ((Pen.ctlLeave ⟨a, b, c, d⟩).1).parent, .int .i64 ((Pen.ctlLeave ⟨a, b, c, d⟩).1).epoch]), .int .i64 ((Pen.ctlLeave ⟨a, b, c, d⟩).2)]) w) := by
  rcases Bool.eq_false_or_eq_true (Pen.ctlRight ⟨a, b, c, d⟩) with hR | hR
  all_goals try obtain ⟨h1, h2, h3, h4, h5, h6, h7, h8⟩ := Pen.ctlRight_bd hR
  all_goals
    go_enter Tryz.func148, Tryz.ntmps148
    go_wp2_with (go_at_call 208; refine (r03Right_any _ _ _ _ _).mono ?_; rintro e w' ⟨X, rfl, rfl⟩)
    all_goals
      refine ⟨rfl, ?_⟩
      simp [results, Tryz.results148, go_sem, setCell_drewN, *]
      refine R3.mk ?_
      try simp only [beq_iff_eq, beq_eq_false_iff_ne, bne_iff_ne, bne_eq_false_iff_eq, ne_eq, Bool.not_eq_true', Bool.not_eq_false', decide_eq_true_eq, decide_eq_false_iff_not, Int.not_le, Int.not_lt] at *
      try subst_vars
      first | done | (simp (disch := omega) [Pen.ctlLeave, Pen.ctl0, if_pos, if_neg, *] <;> omega) | (exfalso; simp at *; omega) | (simp at *; omega)

set_option maxHeartbeats 400000 in
theorem r03Open_any (a b c d : Int) (w : World) :
    Calls Tryz.prog 150 #[.agg #[.int .i64 a, .int .i64 b, .int .i64 c, .int .i64 d]] w (R3 (.tuple #[(.agg #[.int .i64 ((Pen.ctlOpen ⟨a, b, c, d⟩).1).state, .int .i64 ((Pen.ctlOpen ⟨a, b, c, d⟩).1).count, .int .i64 ((Pen.ctlOpen ⟨a, b, c, d⟩).1).parent, .int .i64 ((Pen.ctlOpen ⟨a, b, c, d⟩).1).epoch]), .int .i64 ((Pen.ctlOpen ⟨a, b, c, d⟩).2)]) w) := by
  rcases Bool.eq_false_or_eq_true (Pen.ctlRight ⟨a, b, c, d⟩) with hR | hR
  all_goals try obtain ⟨h1, h2, h3, h4, h5, h6, h7, h8⟩ := Pen.ctlRight_bd hR
  all_goals
    go_enter Tryz.func150, Tryz.ntmps150
    go_wp2_with (go_at_call 208; refine (r03Right_any _ _ _ _ _).mono ?_; rintro e w' ⟨X, rfl, rfl⟩)
    all_goals
      refine ⟨rfl, ?_⟩
      simp [results, Tryz.results150, go_sem, setCell_drewN, *]
      refine R3.mk ?_
      try simp only [beq_iff_eq, beq_eq_false_iff_ne, bne_iff_ne, bne_eq_false_iff_eq, ne_eq, Bool.not_eq_true', Bool.not_eq_false', decide_eq_true_eq, decide_eq_false_iff_not, Int.not_le, Int.not_lt] at *
      try subst_vars
      first | done | (simp (disch := omega) [Pen.ctlOpen, Pen.ctl0, if_pos, if_neg, *] <;> omega) | (exfalso; simp at *; omega) | (simp at *; omega)

set_option maxHeartbeats 400000 in
theorem r03Hold_any (a b c d : Int) (w : World) :
    Calls Tryz.prog 201 #[.agg #[.int .i64 a, .int .i64 b, .int .i64 c, .int .i64 d]] w (R3 (.tuple #[(.agg #[.int .i64 ((Pen.ctlHold ⟨a, b, c, d⟩).1).state, .int .i64 ((Pen.ctlHold ⟨a, b, c, d⟩).1).count, .int .i64 ((Pen.ctlHold ⟨a, b, c, d⟩).1).parent, .int .i64 ((Pen.ctlHold ⟨a, b, c, d⟩).1).epoch]), .int .i64 ((Pen.ctlHold ⟨a, b, c, d⟩).2)]) w) := by
  rcases Bool.eq_false_or_eq_true (Pen.ctlRight ⟨a, b, c, d⟩) with hR | hR
  all_goals try obtain ⟨h1, h2, h3, h4, h5, h6, h7, h8⟩ := Pen.ctlRight_bd hR
  all_goals
    go_enter Tryz.func201, Tryz.ntmps201
    go_wp2_with (go_at_call 208; refine (r03Right_any _ _ _ _ _).mono ?_; rintro e w' ⟨X, rfl, rfl⟩)
    all_goals
      refine ⟨rfl, ?_⟩
      simp [results, Tryz.results201, go_sem, setCell_drewN, *]
      refine R3.mk ?_
      try simp only [beq_iff_eq, beq_eq_false_iff_ne, bne_iff_ne, bne_eq_false_iff_eq, ne_eq, Bool.not_eq_true', Bool.not_eq_false', decide_eq_true_eq, decide_eq_false_iff_not, Int.not_le, Int.not_lt] at *
      try subst_vars
      first | done | (simp (disch := omega) [Pen.ctlHold, Pen.ctl0, if_pos, if_neg, *] <;> omega) | (exfalso; simp at *; omega) | (simp at *; omega)

set_option maxHeartbeats 400000 in
theorem r03Pack_any (a b c d : Int) (w : World) :
    Calls Tryz.prog 179 #[.agg #[.int .i64 a, .int .i64 b, .int .i64 c, .int .i64 d]] w (R2 (.tuple #[.int .u64 ((Pen.ctlPack ⟨a, b, c, d⟩).1), .int .i64 ((Pen.ctlPack ⟨a, b, c, d⟩).2)]) w) := by
  rcases Bool.eq_false_or_eq_true (Pen.ctlRight ⟨a, b, c, d⟩) with hR | hR
  all_goals try obtain ⟨h1, h2, h3, h4, h5, h6, h7, h8⟩ := Pen.ctlRight_bd hR
  all_goals
    go_enter Tryz.func179, Tryz.ntmps179
    go_wp2_with (go_at_call 208; refine (r03Right_any _ _ _ _ _).mono ?_; rintro e w' ⟨X, rfl, rfl⟩)
    all_goals
      refine ⟨rfl, ?_⟩
      simp [results, Tryz.results179, go_sem, setCell_drewN, *]
      refine R2.mk ?_
      try simp only [beq_iff_eq, beq_eq_false_iff_ne, bne_iff_ne, bne_eq_false_iff_eq, ne_eq, Bool.not_eq_true', Bool.not_eq_false', decide_eq_true_eq, decide_eq_false_iff_not, Int.not_le, Int.not_lt] at *
      try subst_vars
      first | done | (simp (disch := omega) [Pen.ctlPack, Pen.ctlWord, if_pos, if_neg, *] <;> omega) | (exfalso; simp at *; omega) | (simp at *; omega)

set_option maxHeartbeats 400000 in
theorem r03Unpack_any (x : Int) (h0 : 0 ≤ x) (h1 : x ≤ 18446744073709551615) (w : World) :
    Calls Tryz.prog 194 #[.int .u64 x] w (R4 (.tuple #[(.agg #[.int .i64 ((Pen.ctlUnpack x).1).state, .int .i64 ((Pen.ctlUnpack x).1).count, .int .i64 ((Pen.ctlUnpack x).1).parent, .int .i64 ((Pen.ctlUnpack x).1).epoch]), .int .i64 ((Pen.ctlUnpack x).2)]) w) := by
  go_enter Tryz.func194, Tryz.ntmps194
  go_wp2_with (go_at_call 179; refine (r03Pack_any _ _ _ _ _).mono ?_; rintro e w' ⟨X, Y, rfl, rfl⟩)
  all_goals
    refine ⟨rfl, ?_⟩
    simp [results, Tryz.results194, go_sem, setCell_drewN, *]
    refine R4.mk ?_
    try simp only [beq_iff_eq, beq_eq_false_iff_ne, bne_iff_ne, bne_eq_false_iff_eq, ne_eq, Bool.not_eq_true', Bool.not_eq_false', decide_eq_true_eq, decide_eq_false_iff_not, Int.not_le, Int.not_lt] at *
    try subst_vars
    (by_cases hR : Pen.ctlRight ⟨x % 4, x / 4 % 256, x / 1024 % 256 - 1, x / 262144 % 16777216⟩ = true) <;> simp_all [Pen.ctlUnpack, Pen.ctlRead, Pen.ctlPack, Pen.ctl0]

set_option maxHeartbeats 400000 in
theorem r05Immortal_any (a b c d : Int) (h1 : 1 ≤ a) (h2 : a ≤ 8) (w : World) :
    Calls Tryz.prog 80 #[.agg #[.int .i64 a, .int .i64 b, .int .i64 c, .int .i64 d]] w (R2 (.agg #[.int .i64 (Pen.planImm ⟨a, b, c, d⟩).pos, .int .i64 (Pen.planImm ⟨a, b, c, d⟩).size]) w) := by
  go_enter Tryz.func80, Tryz.ntmps80
  go_wp2
  all_goals
    refine ⟨rfl, ?_⟩
    simp [results, Tryz.results80, go_sem, setCell_drewN, *]
    refine R2.mk ?_
    try simp only [beq_iff_eq, beq_eq_false_iff_ne, bne_iff_ne, bne_eq_false_iff_eq, ne_eq, Bool.not_eq_true', Bool.not_eq_false', decide_eq_true_eq, decide_eq_false_iff_not, Int.not_le, Int.not_lt] at *
    try subst_vars
    first | done | (simp (disch := omega) [Pen.planImm, if_pos, if_neg, *] <;> omega) | (exfalso; simp at *; omega) | (simp at *; omega)

set_option maxHeartbeats 400000 in
theorem r05Heap_any (a b c d : Int) (h1 : 1 ≤ a) (h2 : a ≤ 8) (h3 : 0 ≤ c) (h4 : c ≤ 2048) (w : World) :
    Calls Tryz.prog 81 #[.agg #[.int .i64 a, .int .i64 b, .int .i64 c, .int .i64 d]] w (R2 (.agg #[.int .i64 (Pen.planHeap ⟨a, b, c, d⟩).pos, .int .i64 (Pen.planHeap ⟨a, b, c, d⟩).size]) w) := by
  go_enter Tryz.func81, Tryz.ntmps81
  go_wp2
  all_goals
    refine ⟨rfl, ?_⟩
    simp [results, Tryz.results81, go_sem, setCell_drewN, *]
    refine R2.mk ?_
    try simp only [beq_iff_eq, beq_eq_false_iff_ne, bne_iff_ne, bne_eq_false_iff_eq, ne_eq, Bool.not_eq_true', Bool.not_eq_false', decide_eq_true_eq, decide_eq_false_iff_not, Int.not_le, Int.not_lt] at *
    try subst_vars
    first | done | (simp (disch := omega) [Pen.planHeap, if_pos, if_neg, *] <;> omega) | (exfalso; simp at *; omega) | (simp at *; omega)

set_option maxHeartbeats 400000 in
theorem r05Size_any (a b c d : Int) (h1 : 1 ≤ a) (h2 : a ≤ 8) (h3 : 0 ≤ c) (h4 : c ≤ 2048) (h5 : 0 ≤ d) (h6 : d ≤ 8192) (w : World) :
    Calls Tryz.prog 134 #[.agg #[.int .i64 a, .int .i64 b, .int .i64 c, .int .i64 d]] w (R1 (.int .i64 (Pen.planSize ⟨a, b, c, d⟩)) w) := by
  go_enter Tryz.func134, Tryz.ntmps134
  go_wp2
  all_goals
    refine ⟨rfl, ?_⟩
    simp [results, Tryz.results134, go_sem, setCell_drewN, *]
    refine R1.mk ?_
    try simp only [beq_iff_eq, beq_eq_false_iff_ne, bne_iff_ne, bne_eq_false_iff_eq, ne_eq, Bool.not_eq_true', Bool.not_eq_false', decide_eq_true_eq, decide_eq_false_iff_not, Int.not_le, Int.not_lt] at *
    try subst_vars
    first | done | (simp (disch := omega) [Pen.planSize, if_pos, if_neg, *] <;> omega) | (exfalso; simp at *; omega) | (simp at *; omega)

set_option maxHeartbeats 400000 in
theorem r05At_any (a b : Int) (h1 : 0 ≤ a) (h2 : a ≤ 4) (h3 : 0 ≤ b) (h4 : b ≤ 8) (w : World) :
    Calls Tryz.prog 181 #[.int .i64 a, .int .i64 b] w (Q (.int .i64 (Pen.planAt a b)) w) := by
  go_enter Tryz.func181, Tryz.ntmps181
  go_wp2
  all_goals
    refine ⟨rfl, ?_⟩
    simp [results, Tryz.results181, go_sem, setCell_drewN, *]
    refine Q.mk ?_
    try simp only [beq_iff_eq, beq_eq_false_iff_ne, bne_iff_ne, bne_eq_false_iff_eq, ne_eq, Bool.not_eq_true', Bool.not_eq_false', decide_eq_true_eq, decide_eq_false_iff_not, Int.not_le, Int.not_lt] at *
    try subst_vars
    first | done | (simp (disch := omega) [Pen.planAt, if_pos, if_neg, *] <;> omega) | (exfalso; simp at *; omega) | (simp at *; omega)

set_option maxHeartbeats 400000 in
theorem r07Words_any (a b : Int) (w : World) :
    Calls Tryz.prog 94 #[.int .i64 a, .int .i64 b] w (Q (.tuple #[.int .i64 ((Pen.headWords a b).1), .int .i64 ((Pen.headWords a b).2)]) w) := by
  go_enter Tryz.func94, Tryz.ntmps94
  go_wp2
  all_goals
    refine ⟨rfl, ?_⟩
    simp [results, Tryz.results94, go_sem, setCell_drewN, *]
    refine Q.mk ?_
    try simp only [beq_iff_eq, beq_eq_false_iff_ne, bne_iff_ne, bne_eq_false_iff_eq, ne_eq, Bool.not_eq_true', Bool.not_eq_false', decide_eq_true_eq, decide_eq_false_iff_not, Int.not_le, Int.not_lt] at *
    try subst_vars
    first | done | (simp (disch := omega) [Pen.headWords, if_pos, if_neg, *] <;> omega) | (exfalso; simp at *; omega) | (simp at *; omega)

set_option maxHeartbeats 400000 in
theorem r07Right_any (a b c : Int) (d : Bool) (e f : Int) (w : World) :
    Calls Tryz.prog 225 #[.agg #[.int .i64 a, .int .i64 b, .int .i64 c, .bool d, .int .i64 e, .int .i64 f]] w (R1 (.bool (Pen.headRight ⟨a, b, c, d, e, f⟩)) w) := by
  go_enter Tryz.func225, Tryz.ntmps225
  go_wp2
  all_goals
    go_ret
    refine R1.bool ?_
    try simp only [beq_iff_eq, beq_eq_false_iff_ne, bne_iff_ne, bne_eq_false_iff_eq, ne_eq, Bool.not_eq_true', Bool.not_eq_false', decide_eq_true_eq, decide_eq_false_iff_not, Int.not_le, Int.not_lt] at *
    rw [Bool.eq_iff_iff]
    simp [Pen.headRight, *] <;> first | omega | (simp at *; omega)

set_option maxHeartbeats 400000 in
theorem r12code_any (e : Int) (w : World) :
    Calls Tryz.prog 46 #[.int .i64 e] w (R1 (.agg #[.int .i64 e, .int .i64 0, .slice none 0 0]) w) := by
  go_enter Tryz.func46, Tryz.ntmps46
  go_wp2
  all_goals
    refine ⟨rfl, ?_⟩
    simp [results, Tryz.results46, go_sem, setCell_drewN, *]
    refine R1.mk ?_
    try simp only [beq_iff_eq, beq_eq_false_iff_ne, bne_iff_ne, bne_eq_false_iff_eq, ne_eq, Bool.not_eq_true', Bool.not_eq_false', decide_eq_true_eq, decide_eq_false_iff_not, Int.not_le, Int.not_lt] at *
    try subst_vars
    first | done | (simp (disch := omega) [if_pos, if_neg, *] <;> omega) | (exfalso; simp at *; omega) | (simp at *; omega)

end Go.Proofs.YtbnibokloendlaaGreat
