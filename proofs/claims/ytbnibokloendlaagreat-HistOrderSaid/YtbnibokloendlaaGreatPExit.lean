/-
  The program's model: an exit of a thread that is within nothing.
-/
import Derived.Test.YtbnibokloendlaaGreatPDo
import Derived.BigRegion
namespace Go.Proofs.YtbnibokloendlaaGreat
open Go.RowKit

def UpdP (M : List Nat) (v : Value) (w : World) (e : Ending) (w' : World) : Prop := e = .returned v ∧ Upd M w w'
theorem UpdP.mk {M : List Nat} {u v : Value} {w w' : World} (h : u = v) (hu : Upd M w w') : UpdP M v w (.returned u) w' := ⟨by rw [h], hu⟩
set_option maxRecDepth 100000 in
set_option maxHeartbeats 2000000 in
theorem exit_nil (mb tb : Nat) (op r h v a b c : Int) (q0 q1 q2 q3 : Value) (rest : List Value) (w : World) (hT : FA w tb (q0 :: q1 :: q2 :: q3 :: .slice none 0 0 :: rest)) :
    Calls Tryz.prog 63 #[.agg #[.pointer (some ⟨mb, 0, none⟩), .pointer (some ⟨tb, 0, none⟩), .int .u8 op, .int .u8 r, .int .u8 h, .int .u8 v, .int .i64 a, .int .i64 b, .int .i64 c]] w (UpdP [tb] (ansE 23 0) w) := by
  have t4 := hT.cell 4 rfl
  have tz := hT.lt
  have HT := hide hT
  clear hT
  go_enter Tryz.func63, Tryz.ntmps63
  have HG : Hid (FA ((w.alloc (.cells #[.pointer (some ⟨mb, 0, none⟩), .pointer (some ⟨tb, 0, none⟩), .int .u8 op, .int .u8 r, .int .u8 h, .int .u8 v, .int .i64 a, .int .i64 b, .int .i64 c] 125)).alloc (.cells #[.int .i64 0, .int .i64 0, .slice none 0 0] 45)) w.heap.size [.pointer (some ⟨mb, 0, none⟩), .pointer (some ⟨tb, 0, none⟩), .int .u8 op, .int .u8 r, .int .u8 h, .int .u8 v, .int .i64 a, .int .i64 b, .int .i64 c]) := (FA.new' w _ [.pointer (some ⟨mb, 0, none⟩), .pointer (some ⟨tb, 0, none⟩), .int .u8 op, .int .u8 r, .int .u8 h, .int .u8 v, .int .i64 a, .int .i64 b, .int .i64 c] _ rfl).alloc _
  have HR : Hid (FA ((w.alloc (.cells #[.pointer (some ⟨mb, 0, none⟩), .pointer (some ⟨tb, 0, none⟩), .int .u8 op, .int .u8 r, .int .u8 h, .int .u8 v, .int .i64 a, .int .i64 b, .int .i64 c] 125)).alloc (.cells #[.int .i64 0, .int .i64 0, .slice none 0 0] 45)) (w.heap.size + 1) [.int .i64 0, .int .i64 0, .slice none 0 0]) := FA.new' _ _ [.int .i64 0, .int .i64 0, .slice none 0 0] _ (by simp)
  have HTT : Hid (FA ((w.alloc (.cells #[.pointer (some ⟨mb, 0, none⟩), .pointer (some ⟨tb, 0, none⟩), .int .u8 op, .int .u8 r, .int .u8 h, .int .u8 v, .int .i64 a, .int .i64 b, .int .i64 c] 125)).alloc (.cells #[.int .i64 0, .int .i64 0, .slice none 0 0] 45)) tb (q0 :: q1 :: q2 :: q3 :: .slice none 0 0 :: rest)) := ((unhide HT).alloc _).alloc _
  have HU : Hid (Upd [tb] w ((w.alloc (.cells #[.pointer (some ⟨mb, 0, none⟩), .pointer (some ⟨tb, 0, none⟩), .int .u8 op, .int .u8 r, .int .u8 h, .int .u8 v, .int .i64 a, .int .i64 b, .int .i64 c] 125)).alloc (.cells #[.int .i64 0, .int .i64 0, .slice none 0 0] 45))) := Upd.of_below (below_a2 _ _ _)
  have tne : Not (tb = w.heap.size) := by omega
  have tne1 : Not (tb = w.heap.size + 1) := by omega
  go_wp2_with (first | (go_at_call 114; refine (chainPop_nil _ _ _).mono ?_; rintro e w1 ⟨rfl, hb⟩; have hG := (unhide HG).below hb; have hR := (unhide HR).below hb; have hT1 := (unhide HTT).below hb; have hU1 := (unhide HU).below hb; clear t4; have t4 := hT1.cell 4 rfl; have tf := hT1.free; have tz1 := hT1.lt; have g1 := hG.cell 1 rfl; have gz := hG.lt; have rz := hR.lt; have HG1 := hide hG; have HR1 := hide hR; have HT1 := hide hT1; have HU1 := hide hU1; clear hb hG hR hT1 hU1) | (go_at_call 71; refine (code_any _ _).mono ?_; rintro e w2 ⟨rfl, hb⟩; have hR := (((unhide HR1).far (p := ⟨tb, 4, none⟩) (by simp; omega) (.slice none 0 0)).alloc (.cells #[.int .i64 0, .bool false] 103)).below hb; have hU1 := (((unhide HU1).setCell (p := ⟨tb, 4, none⟩) (.inl (by simp)) (.slice none 0 0)).alloc (.cells #[.int .i64 0, .bool false] 103)).below hb; clear t4 tf tz1 g1 gz rz; have r0 := hR.cell 0 rfl; have r1 := hR.cell 1 rfl; have r2 := hR.cell 2 rfl; have rf := hR.free; have HR2 := hide hR; have HU2 := hide hU1; clear hb hR hU1))
  refine ⟨rfl, ?_⟩
  simp [results, Tryz.results63, go_sem, *]
  refine UpdP.mk rfl ?_
  repeat (with_reducible first | exact unhide HU2 | refine Upd.setCell ?_ (.inr (by simp)) _)
end Go.Proofs.YtbnibokloendlaaGreat
