/-
  The program's model, new, with no finalizers.
-/
import Derived.Test.YtbnibokloendlaaGreatPScopes
import Derived.Test.YtbnibokloendlaaGreatFinR
namespace Go.Proofs.YtbnibokloendlaaGreat
open Go.RowKit

def areaZ : List Value := [.int .i64 0, .int .u64 0, .slice none 0 0]
def thrZ : List Value := [.int .u64 0, .int .u64 0, .int .u64 0, .int .u64 0, .slice none 0 0]
theorem infoArea : (Tryz.prog.info? 198).map (fun i => (i.zero, i.size, i.bytes)) = some (some (.agg #[.int .i64 0, .int .u64 0, .slice none 0 0]), 3, 40) := by kernel_rfl
theorem infoThread : (Tryz.prog.info? 123).map (fun i => (i.zero, i.size, i.bytes)) = some (some (.agg #[.int .u64 0, .int .u64 0, .int .u64 0, .int .u64 0, .slice none 0 0]), 5, 56) := by kernel_rfl
theorem finRight_nil (w : World) : Calls Tryz.prog 24 #[.slice none 0 0] w (R (.bool true) w) :=
  finRight_any none 0 0 [] w ⟨[], Arr.nil_ _ _ _ _, rfl, fun i hi => by omega⟩
def NewP (n th : Nat) (w : World) (e : Ending) (w' : World) : Prop :=
  ∃ mb fb sb ab tb kb, ∃ im hp : Int, e = .returned (.tuple #[.pointer (some ⟨mb, 0, none⟩), .int .i64 0]) ∧ FA w' mb [.int .i64 n, .int .i64 th, .int .i64 im, .int .i64 hp, .slice (some ⟨fb, 0, none⟩) 0 0, .pointer (some ⟨sb, 0, none⟩), .slice (some ⟨ab, 0, none⟩) n n, .slice (some ⟨tb, 0, none⟩) th th, .map (some kb)] ∧
    FA w' tb ((List.replicate th ()).flatMap fun _ => thrZ) ∧ w.heap.size ≤ mb ∧ w.heap.size ≤ tb ∧ mb ≠ tb ∧ Below w.heap.size w w'
set_option maxRecDepth 100000 in
set_option maxHeartbeats 4000000 in
theorem modelNew_nil (n im hp th : Nat) (w : World) (hR : Pen.planRight ⟨n, th, im, hp⟩ = true) :
    Calls Tryz.prog 25 #[.agg #[.int .i64 n, .int .i64 th, .int .i64 im, .int .i64 hp], .slice none 0 0] w (NewP n th w) := by
  have hbd : 1 ≤ n ∧ n ≤ 8 ∧ 1 ≤ th ∧ th ≤ 4 := by
    unfold Pen.planRight at hR
    simp at hR
    omega
  obtain ⟨h1, h2, h3, h4⟩ := hbd
  have HR := hide hR
  clear hR
  have hmm := @run_makeMap Tryz.prog
  obtain ⟨ia, hi0, hz0, hz1, hz2⟩ := info_parts infoArea
  obtain ⟨it, ti0, tz0, tz1, tz2⟩ := info_parts infoThread
  have hmA : ∀ w : World, (Instr.makeSlice 116 (.int .i64 (n : Int)) (.int .i64 (n : Int))).run Tryz.prog w = .ok (.slice (some ⟨w.heap.size, 0, none⟩) n n) (w.alloc (.cells ((List.replicate n ()).flatMap fun _ => areaZ).toArray 198)) := by
    intro w
    rw [run_make_rowN (P := Tryz.prog) 116 198 ia _ Tryz.underlying116 hi0 hz0 .i64 .i64 n n (Nat.le_refl _) (by rw [hz2]; omega) (by omega) w, hz1]
    rw [show ((Value.agg #[.int .i64 0, .int .u64 0, .slice none 0 0]).cells : Array Value) = #[.int .i64 0, .int .u64 0, .slice none 0 0] from rfl]
    rw [madeCells_flat (fun _ : Unit => areaZ) 3 (fun _ => rfl) (by omega) () #[.int .i64 0, .int .u64 0, .slice none 0 0] rfl n]
  have hmT : ∀ w : World, (Instr.makeSlice 117 (.int .i64 (th : Int)) (.int .i64 (th : Int))).run Tryz.prog w = .ok (.slice (some ⟨w.heap.size, 0, none⟩) th th) (w.alloc (.cells ((List.replicate th ()).flatMap fun _ => thrZ).toArray 123)) := by
    intro w
    rw [run_make_rowN (P := Tryz.prog) 117 123 it _ Tryz.underlying117 ti0 tz0 .i64 .i64 th th (Nat.le_refl _) (by rw [tz2]; omega) (by omega) w, tz1]
    rw [show ((Value.agg #[.int .u64 0, .int .u64 0, .int .u64 0, .int .u64 0, .slice none 0 0]).cells : Array Value) = #[.int .u64 0, .int .u64 0, .int .u64 0, .int .u64 0, .slice none 0 0] from rfl]
    rw [madeCells_flat (fun _ : Unit => thrZ) 5 (fun _ => rfl) (by omega) () #[.int .u64 0, .int .u64 0, .int .u64 0, .int .u64 0, .slice none 0 0] rfl th]
  have hmF : ∀ w : World, (Instr.makeSlice 24 (.int .i64 0) (.int .i64 0)).run Tryz.prog w = .ok (.slice (some ⟨w.heap.size, 0, none⟩) 0 0) (w.alloc (.cells #[] 58)) := fun _ => by kernel_rfl
  go_enter Tryz.func25, Tryz.ntmps25
  go_wp2_with (first | (go_at_call 33; refine (planRight_any _ _ _ _ _).mono ?_; rw [unhide HR]; rintro e w' ⟨X, rfl, rfl⟩) | (go_at_call 24; refine (finRight_nil _).mono ?_; rintro e w1 ⟨rfl, hb1⟩; have hF : FA w1 w.heap.size [.int .i64 n, .int .i64 th, .int .i64 im, .int .i64 hp] := ((FA.new' w w.heap.size [.int .i64 n, .int .i64 th, .int .i64 im, .int .i64 hp] 23 rfl).alloc _).below hb1; have p0 := hF.cell 0 rfl; have p1 := hF.cell 1 rfl; have p2 := hF.cell 2 rfl; have p3 := hF.cell 3 rfl; have hB1 := hide ((below_a2 w _ _).trans (hb1.mono (by simp <;> omega))); have HF := hide hF; clear hF hb1) | (go_at_call 56; refine (scopesNew_any n im hp th _ (unhide HR)).mono ?_; rintro e w2 ⟨sb, lb, gb, F, rfl, hPS, hbl, hb2⟩; have hF := (unhide HF).below hb2; clear p0 p1 p2 p3; have p0 := hF.cell 0 rfl; have p1 := hF.cell 1 rfl; have p2 := hF.cell 2 rfl; have p3 := hF.cell 3 rfl; have hz := hF.lt; have hza := Nat.lt_add_right 1 hz; have hzb := Nat.lt_add_right 1 hza; have hzc := Nat.lt_add_right 1 hzb; have hB2 := hide ((unhide hB1).trans (hb2.mono (unhide hB1).size)); have HF2 := hide hF; have HPS := hide hPS; have HBL := hide hbl; clear hF hb2 hPS hbl HF hB1))
  go_loop [29] (fun i => i = .int .i64 0) (fun _ => 0)
  case atStart => rfl
  case round =>
    subst hrel
    go_wp2
    go_region
    all_goals
      go_wp2
      go_ret2
      refine ⟨_, _, _, _, _, _, im, hp, rfl, FA.drew (FA.new' _ _ _ _ (by simp)), ?_, ?_, ?_, ?_, ?_⟩
      · repeat (with_reducible first | exact FA.new' _ _ _ _ (by simp) | refine FA.drew ?_ | refine FA.alloc ?_ _)
      · omega
      · omega
      · omega
      · repeat (with_reducible first | exact unhide hB2 | refine Below.drew ?_ | refine Below.alloc ?_ (by first | exact Nat.le_of_lt hz | exact Nat.le_of_lt (by simpa using hza) | exact Nat.le_of_lt (by simpa using hzb) | exact Nat.le_of_lt (by simpa using hzc) | exact Nat.le_of_lt (by simpa using Nat.lt_add_right 1 hzc)) _)
end Go.Proofs.YtbnibokloendlaaGreat
