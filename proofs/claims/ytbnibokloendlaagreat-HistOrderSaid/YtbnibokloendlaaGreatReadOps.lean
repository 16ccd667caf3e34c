/-
  A row of calls that came in: what lies in its cells.
-/
import Derived.Test.YtbnibokloendlaaGreatOps
import Derived.Deep.Slices
import Derived.Deep.Fields
import Derived.ChangeSame
namespace Go.Proofs.YtbnibokloendlaaGreat
open Go.RowKit Go.ChangeShapes Go.WideShapes Go.Deep

section
variable {H : Type} {enc : TypeId × Value → H} {w : World} {base : Nat} {spare : Nat → Bool} {held : Bool}
theorem cellsInt : Tryz.prog.cellsOf 3 = 1 := by kernel_rfl
theorem cellsU8 : Tryz.prog.cellsOf 5 = 1 := by kernel_rfl
theorem cellsErr : Tryz.prog.cellsOf 30 = 1 := by kernel_rfl
theorem cellsInts : Tryz.prog.cellsOf 34 = 1 := by kernel_rfl
theorem cellsCall : Tryz.prog.cellsOf 47 = 7 := by kernel_rfl
theorem cellsAns : Tryz.prog.cellsOf 45 = 3 := by kernel_rfl
theorem cellsOp : Tryz.prog.cellsOf 49 = 14 := by kernel_rfl
theorem trod_ints_head {fuel : Nat} {cs : List Value} {x : DataW H × List MemPlace} (h : DataW.trod enc Tryz.prog w base spare held fuel 34 cs = some x) :
    ∃ (A : Option Addr) (n c : Nat), cs = [.slice A n c] ∧ n ≤ c ∧ c ≤ 9223372036854775807 := by
  rcases open_slice Tryz.underlying34 h with ⟨rfl, _⟩ | ⟨a, len, cap, m, n, D, Pl, rfl, _, hl, hm, _⟩
  · exact ⟨none, 0, 0, rfl, by omega, by omega⟩
  · exact ⟨some a, len, cap, rfl, hl, by unfold maxLen at hm; omega⟩
/-- A field's reading, of cells that are written out. -/
theorem trod_fld {fuel m k : Nat} {t : TypeId} {cs ds : List Value} {xs : List (DataW H × List MemPlace)} {i : Nat} (ht : Tryz.prog.cellsOf t = k) (hd : (cs.drop m).take k = ds) (h : DataW.trod enc Tryz.prog w base spare held fuel t ((cs.drop m).take (Tryz.prog.cellsOf t)) = xs[i]?) (hi : i < xs.length) : ∃ x, DataW.trod enc Tryz.prog w base spare held fuel t ds = some x := by
  rw [ht, hd, List.getElem?_eq_getElem hi] at h
  exact ⟨_, h⟩
set_option maxRecDepth 100000 in
theorem trod_call {fuel : Nat} {cs : List Value} {x : DataW H × List MemPlace} (h : DataW.trod enc Tryz.prog w base spare held fuel 47 cs = some x) : ∃ c : Pen.Call, cs = callE c := by
  obtain ⟨xs, n, _, _, hlen, hxl, hf⟩ := DataW.trod_struct Tryz.underlying47 h
  rw [cellsCall] at hlen
  have hx7 : xs.length = 7 := hxl
  match cs, hlen with
  | [c0, c1, c2, c3, c4, c5, c6], _ =>
    obtain ⟨y0, g0⟩ := trod_fld (t := 5) (m := 0) (ds := [c0]) cellsU8 rfl (hf 0 _ rfl) (by omega)
    obtain ⟨y1, g1⟩ := trod_fld (t := 5) (m := 1) (ds := [c1]) cellsU8 rfl (hf 1 _ rfl) (by omega)
    obtain ⟨y2, g2⟩ := trod_fld (t := 5) (m := 2) (ds := [c2]) cellsU8 rfl (hf 2 _ rfl) (by omega)
    obtain ⟨y3, g3⟩ := trod_fld (t := 5) (m := 3) (ds := [c3]) cellsU8 rfl (hf 3 _ rfl) (by omega)
    obtain ⟨y4, g4⟩ := trod_fld (t := 3) (m := 4) (ds := [c4]) cellsInt rfl (hf 4 _ rfl) (by omega)
    obtain ⟨y5, g5⟩ := trod_fld (t := 3) (m := 5) (ds := [c5]) cellsInt rfl (hf 5 _ rfl) (by omega)
    obtain ⟨y6, g6⟩ := trod_fld (t := 3) (m := 6) (ds := [c6]) cellsInt rfl (hf 6 _ rfl) (by omega)
    obtain ⟨a0, e0, _⟩ := DataW.trod_int Tryz.underlying5 g0
    obtain ⟨a1, e1, _⟩ := DataW.trod_int Tryz.underlying5 g1
    obtain ⟨a2, e2, _⟩ := DataW.trod_int Tryz.underlying5 g2
    obtain ⟨a3, e3, _⟩ := DataW.trod_int Tryz.underlying5 g3
    obtain ⟨a4, e4, _⟩ := DataW.trod_int Tryz.underlying3 g4
    obtain ⟨a5, e5, _⟩ := DataW.trod_int Tryz.underlying3 g5
    obtain ⟨a6, e6, _⟩ := DataW.trod_int Tryz.underlying3 g6
    simp only [List.cons.injEq, and_true] at e0 e1 e2 e3 e4 e5 e6
    subst e0 e1 e2 e3 e4 e5 e6
    exact ⟨⟨a0, a1, a2, a3, a4, a5, a6⟩, rfl⟩
set_option maxRecDepth 100000 in
theorem trod_op {fuel : Nat} {cs : List Value} {x : DataW H × List MemPlace} (h : DataW.trod enc Tryz.prog w base spare held fuel 49 cs = some x) : ∃ o : OpV, cs = opE o ∧ o.sn ≤ o.sc ∧ o.sc ≤ 9223372036854775807 := by
  obtain ⟨xs, n, _, _, hlen, hxl, hf⟩ := DataW.trod_struct Tryz.underlying49 h
  rw [cellsOp] at hlen
  have hx6 : xs.length = 6 := hxl
  match cs, hlen with
  | [c0, c1, c2, c3, c4, c5, c6, c7, c8, c9, c10, c11, c12, c13], _ =>
    obtain ⟨y0, g0⟩ := trod_fld (t := 3) (m := 0) (ds := [c0]) cellsInt rfl (hf 0 _ rfl) (by omega)
    obtain ⟨y1, g1⟩ := trod_fld (t := 47) (m := 1) (ds := [c1, c2, c3, c4, c5, c6, c7]) cellsCall rfl (hf 1 _ rfl) (by omega)
    obtain ⟨y2, g2⟩ := trod_fld (t := 3) (m := 8) (ds := [c8]) cellsInt rfl (hf 2 _ rfl) (by omega)
    obtain ⟨y3, g3⟩ := trod_fld (t := 3) (m := 9) (ds := [c9]) cellsInt rfl (hf 3 _ rfl) (by omega)
    obtain ⟨y4, g4⟩ := trod_fld (t := 3) (m := 10) (ds := [c10]) cellsInt rfl (hf 4 _ rfl) (by omega)
    obtain ⟨y5, g5⟩ := trod_fld (t := 45) (m := 11) (ds := [c11, c12, c13]) cellsAns rfl (hf 5 _ rfl) (by omega)
    obtain ⟨a0, e0, _⟩ := DataW.trod_int Tryz.underlying3 g0
    obtain ⟨cl, e1⟩ := trod_call g1
    obtain ⟨a2, e2, _⟩ := DataW.trod_int Tryz.underlying3 g2
    obtain ⟨a3, e3, _⟩ := DataW.trod_int Tryz.underlying3 g3
    obtain ⟨a4, e4, _⟩ := DataW.trod_int Tryz.underlying3 g4
    obtain ⟨zs, k, _, _, _, hzl, hz⟩ := DataW.trod_struct Tryz.underlying45 g5
    have hz3 : zs.length = 3 := hzl
    obtain ⟨z0, q0⟩ := trod_fld (t := 30) (m := 0) (ds := [c11]) cellsErr rfl (hz 0 _ rfl) (by omega)
    obtain ⟨z1, q1⟩ := trod_fld (t := 3) (m := 1) (ds := [c12]) cellsInt rfl (hz 1 _ rfl) (by omega)
    obtain ⟨z2, q2⟩ := trod_fld (t := 34) (m := 2) (ds := [c13]) cellsInts rfl (hz 2 _ rfl) (by omega)
    obtain ⟨b0, f0, _⟩ := DataW.trod_int Tryz.underlying30 q0
    obtain ⟨b1, f1, _⟩ := DataW.trod_int Tryz.underlying3 q1
    obtain ⟨A, sn, sc, f2, hs1, hs2⟩ := trod_ints_head q2
    simp only [List.cons.injEq, and_true, callE] at e0 e1 e2 e3 e4 f0 f1 f2
    obtain ⟨r1, r2, r3, r4, r5, r6, r7⟩ := e1
    subst e0 r1 r2 r3 r4 r5 r6 r7 e2 e3 e4 f0 f1 f2
    exact ⟨⟨a0, cl, a2, a3, a4, b0, b1, A, sn, sc⟩, rfl, hs1, hs2⟩
end
end Go.Proofs.YtbnibokloendlaaGreat
