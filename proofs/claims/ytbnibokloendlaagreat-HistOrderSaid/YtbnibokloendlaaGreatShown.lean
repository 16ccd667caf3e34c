/-
  The document's example of layer 22.
-/
import Derived.Test.YtbnibokloendlaaGreatLegal0
namespace Go.Proofs.YtbnibokloendlaaGreat
open Go.RowKit

theorem exop_at (W : World) (g : Nat) (hg : g = W.heap.size) (e : Int) : OpsAt (W.alloc (.cells #[.int .i64 0, .int .u8 5, .int .u8 0, .int .u8 0, .int .u8 0, .int .i64 0, .int .i64 0, .int .i64 0, .int .i64 0, .int .i64 0, .int .i64 0, .int .i64 e, .int .i64 0, .slice none 0 0] 49)) (some ⟨g, 0, none⟩) 1 [exop e] := by
  have h : FA (W.alloc (.cells #[.int .i64 0, .int .u8 5, .int .u8 0, .int .u8 0, .int .u8 0, .int .i64 0, .int .i64 0, .int .i64 0, .int .i64 0, .int .i64 0, .int .i64 0, .int .i64 e, .int .i64 0, .slice none 0 0] 49)) g ([exop e].flatMap opE) := FA.new' W g [.int .i64 0, .int .u8 5, .int .u8 0, .int .u8 0, .int .u8 0, .int .i64 0, .int .i64 0, .int .i64 0, .int .i64 0, .int .i64 0, .int .i64 0, .int .i64 e, .int .i64 0, .slice none 0 0] _ hg
  exact FA.arr opE_len h (by simp)
set_option maxRecDepth 100000 in
set_option maxHeartbeats 4000000 in
theorem shown_any (w : World) : Calls Tryz.prog 9 #[] w (R (.bool true) w) := by
  go_enter Tryz.func9, Tryz.ntmps9
  go_wp2_with fail
  refine (legal_exop (some ⟨w.heap.size + 1 + 1, 0, none⟩) 1 0 false _ (exop_at _ _ (by simp) 0) (by decide)).mono ?_
  rintro e w1 ⟨rfl, hb⟩
  have hP : FA w1 w.heap.size [.int .i64 2, .int .i64 1, .int .i64 0, .int .i64 0] := (((FA.new' w _ [.int .i64 2, .int .i64 1, .int .i64 0, .int .i64 0] _ rfl).alloc _).alloc _).below hb
  have hC : FA w1 (w.heap.size + 1) [.int .u8 5, .int .u8 0, .int .u8 0, .int .u8 0, .int .i64 0, .int .i64 0, .int .i64 0] := ((FA.new' _ _ [.int .u8 5, .int .u8 0, .int .u8 0, .int .u8 0, .int .i64 0, .int .i64 0, .int .i64 0] _ (by simp)).alloc _).below hb
  have hB := (below_a3 w _ _ _).trans (hb.mono (by simp <;> omega))
  have p0 := hP.cell 0 rfl
  have p1 := hP.cell 1 rfl
  have p2 := hP.cell 2 rfl
  have p3 := hP.cell 3 rfl
  have c0 := hC.cell 0 rfl
  have c1 := hC.cell 1 rfl
  have c2 := hC.cell 2 rfl
  have c3 := hC.cell 3 rfl
  have c4 := hC.cell 4 rfl
  have c5 := hC.cell 5 rfl
  have c6 := hC.cell 6 rfl
  have hz := hP.lt
  have HB := hide hB
  clear hP hC hB hb
  go_wp2_with fail
  refine (legal_exop (some ⟨w1.heap.size, 0, none⟩) 1 23 true _ (exop_at _ _ rfl 23) (by decide)).mono ?_
  rintro e w2 ⟨rfl, hb⟩
  have HB2 := hide ((unhide HB).trans ((below_a1 w1 _).trans (hb.mono (by simp <;> omega)) |>.mono (by have := (unhide HB).size; omega)))
  clear hb p0 p1 p2 p3 c0 c1 c2 c3 c4 c5 c6 HB hz
  go_wp2
  go_ret
  exact R.bool rfl (unhide HB2)
end Go.Proofs.YtbnibokloendlaaGreat
