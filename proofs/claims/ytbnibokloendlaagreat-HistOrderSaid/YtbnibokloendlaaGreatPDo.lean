/-
  The program's model: which registers a call names; what is told.
-/
import Derived.Test.YtbnibokloendlaaGreatMaps
import Derived.Test.YtbnibokloendlaaGreatAgg
import Derived.Test.YtbnibokloendlaaGreatWithin
namespace Go.Proofs.YtbnibokloendlaaGreat
open Go.RowKit

abbrev ansE (c n : Int) : Value := .agg #[.int .i64 c, .int .i64 n, .slice none 0 0]
set_option maxHeartbeats 1000000 in
theorem code_any (e : Int) (w : World) : Calls Tryz.prog 71 #[.int .i64 e] w (Rn (ansE e 0) w) := by
  go_enter Tryz.func71, Tryz.ntmps71
  go_wp2
  refine ⟨rfl, ?_⟩
  simp [results, Tryz.results71, go_sem, *]
  refine Rn.mk rfl ?_
  repeat (with_reducible first | exact Below.refl _ _ | refine Below.alloc ?_ (by simp <;> omega) _)
set_option maxHeartbeats 1000000 in
theorem chainPop_nil (A : Option Addr) (c : Nat) (w : World) : Calls Tryz.prog 114 #[.slice A 0 c] w (Rn (.tuple #[.slice none 0 0, .agg #[.int .i64 0, .bool false], .int .i64 23]) w) := by
  go_enter Tryz.func114, Tryz.ntmps114
  go_wp2
  refine ⟨rfl, ?_⟩
  simp [results, Tryz.results114, go_sem, *]
  refine Rn.mk rfl ?_
  repeat (with_reducible first | exact Below.refl _ _ | refine Below.alloc ?_ (by simp <;> omega) _)
set_option maxHeartbeats 1000000 in
theorem indexFunc8_nil (f : Value) (w : World) : Calls Tryz.prog 177 #[.slice none 0 0, f] w (Q (.int .i64 (-1)) w) := by
  go_enter Tryz.func177, Tryz.ntmps177
  go_wp2
  go_loop [8] (fun i => i = .int .i64 0) (fun _ => 0)
  case atStart => rfl
  case round =>
    subst hrel
    go_wp2
    go_ret
    exact Q.int rfl
set_option maxHeartbeats 1000000 in
theorem containsFunc8_nil (f : Value) (w : World) : Calls Tryz.prog 128 #[.slice none 0 0, f] w (Q (.bool false) w) := by
  go_enter Tryz.func128, Tryz.ntmps128
  go_wp2_with (go_at_call 177; refine (indexFunc8_nil _ _).mono ?_; rintro e w' ⟨rfl, rfl⟩)
  go_ret
  exact Q.bool rfl
theorem zeroS8 (w : World) : (zeroValue 39).run Tryz.prog w = .ok (.slice none 0 0) w := by kernel_rfl
set_option maxRecDepth 100000 in
set_option maxHeartbeats 2000000 in
theorem registers_5 (r h v : Int) (a b c : Int) (w : World) :
    Calls Tryz.prog 70 #[.agg #[.int .u8 5, .int .u8 r, .int .u8 h, .int .u8 v, .int .i64 a, .int .i64 b, .int .i64 c]] w (R (.bool true) w) := by
  have hmm := @run_makeMap Tryz.prog
  have HF : Hid (FA ((w.alloc (.cells #[.int .u8 5, .int .u8 r, .int .u8 h, .int .u8 v, .int .i64 a, .int .i64 b, .int .i64 c] 47)).alloc (.map #[] 0)) w.heap.size [.int .u8 5, .int .u8 r, .int .u8 h, .int .u8 v, .int .i64 a, .int .i64 b, .int .i64 c]) := (FA.new' w _ [.int .u8 5, .int .u8 r, .int .u8 h, .int .u8 v, .int .i64 a, .int .i64 b, .int .i64 c] _ rfl).alloc _
  obtain ⟨M, HM, h5⟩ : ∃ N, Hid (MapI ((w.alloc (.cells #[.int .u8 5, .int .u8 r, .int .u8 h, .int .u8 v, .int .i64 a, .int .i64 b, .int .i64 c] 47)).alloc (.map #[] 0)) (w.heap.size + 1) .u8 N) ∧ Hid (N 5 = none) := ⟨_, MapI.made _ _ _ (by simp), rfl⟩
  have HB : Hid (Below w.heap.size w ((w.alloc (.cells #[.int .u8 5, .int .u8 r, .int .u8 h, .int .u8 v, .int .i64 a, .int .i64 b, .int .i64 c] 47)).alloc (.map #[] 0))) := below_a2 w _ _
  have c0 := (unhide HF).cell 0 rfl
  have c1 := (unhide HF).cell 1 rfl
  have c2 := (unhide HF).cell 2 rfl
  have c3 := (unhide HF).cell 3 rfl
  have hza := (unhide HM).lt
  have hzb := (unhide HF).lt
  go_enter Tryz.func70, Tryz.ntmps70
  go_wp2_with (first | ((with_reducible refine next_is (.insert 211 (.tmp 4) _ _) rfl ?_); (refine wpList_insI _ rfl (.tmp 4) _ _ 211 rfl 5 39 .u8 Tryz.underlying211 Tryz.underlying5 (w.heap.size + 1) M rfl (by repeat (first | exact unhide HM | refine MapI.alloc ?_ _)) _ rfl _ rfl ?_); intro wz hMz hUz; have hFz : FA wz w.heap.size [.int .u8 5, .int .u8 r, .int .u8 h, .int .u8 v, .int .i64 a, .int .i64 b, .int .i64 c] := FA.upd (by repeat (first | exact unhide HF | refine FA.alloc ?_ _)) hUz (by simp); have hBz : Below w.heap.size w wz := ((Upd.of_below (M := []) (by repeat (first | exact unhide HB | refine Below.alloc ?_ (by first | exact Nat.le_of_lt hzb | (simp; omega)) _))).trans hUz (by simp)).to_below; clear HF HB c0 c1 c2 c3 hza hzb; have hza := hMz.lt; have hzb := hFz.lt; have c0 := hFz.cell 0 rfl; have c1 := hFz.cell 1 rfl; have c2 := hFz.cell 2 rfl; have c3 := hFz.cell 3 rfl; obtain ⟨M, HM, h5⟩ : ∃ N, Hid (MapI wz (w.heap.size + 1) .u8 N) ∧ Hid (N 5 = none) := ⟨_, hMz, by unfold Hid putM; rw [if_neg (by decide)]; exact unhide h5⟩; have HF := hide hFz; have HB := hide hBz; clear hMz hFz hBz hUz) | (at_lookup; (refine wpList_lookI _ rfl (.tmp 28) (.tmp 30) 211 false rfl 5 39 .u8 Tryz.underlying211 Tryz.underlying5 (.slice none 0 0) (zeroS8 _) (w.heap.size + 1) M rfl (unhide HM) 5 rfl (.slice none 0 0) (by rw [unhide h5]; rfl) ?_)) | (go_at_call 128; refine (containsFunc8_nil _ _).mono ?_; rintro e w' ⟨rfl, rfl⟩))
  go_ret
  exact R.bool rfl (unhide HB)
end Go.Proofs.YtbnibokloendlaaGreat
