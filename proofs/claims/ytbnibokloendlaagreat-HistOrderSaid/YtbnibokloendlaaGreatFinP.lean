/-
  Whether finalizers may be: the program's.
-/
import Derived.Test.YtbnibokloendlaaGreatHeap
import Derived.Test.YtbnibokloendlaaGreatAgg
import Derived.Test.YtbnibokloendlaaGreatNumB
namespace Go.Proofs.YtbnibokloendlaaGreat
open Go.RowKit

def fopE (o : Pen.FOp) : List Value := [.int .u8 o.op, .int .i64 o.a, .int .i64 o.b]
theorem fopE_len (o : Pen.FOp) : (fopE o).length = 3 := rfl
/-- A slice's head. -/
structure SlV where
  A : Option Addr
  n : Nat
  c : Nat
deriving Inhabited
def slE (s : SlV) : List Value := [.slice s.A s.n s.c]
theorem slE_len (s : SlV) : (slE s).length = 1 := rfl
/-- Programs: a row of rows of ops. -/
def FinsAt (w : World) (A : Option Addr) (n : Nat) (f : List (List Pen.FOp)) : Prop :=
  ∃ hs : List SlV, Arr slE 1 w A n hs ∧ f.length = n ∧ ∀ i, i < n → Arr fopE 3 w (hs.getD i default).A (hs.getD i default).n (f.getD i []) ∧ (hs.getD i default).n ≤ (hs.getD i default).c ∧ ∀ o ∈ f.getD i [], 0 ≤ o.op ∧ o.op ≤ 255
theorem FinsAt.below {w w' : World} {A : Option Addr} {n : Nat} {f : List (List Pen.FOp)} (h : FinsAt w A n f) (hb : Below w.heap.size w w') : FinsAt w' A n f := by
  obtain ⟨hs, h1, h2, h3⟩ := h
  exact ⟨hs, h1.below hb, h2, fun i hi => ⟨(h3 i hi).1.below hb, (h3 i hi).2⟩⟩
def opsRight (l : List Pen.FOp) : Bool := decide (l.length ≤ 8) && l.all Pen.fopRight
theorem finsRight_eq (f : List (List Pen.FOp)) : Pen.finsRight f = (decide (f.length ≤ 8) && f.all opsRight) := rfl
theorem fins_take {f : List (List Pen.FOp)} {i : Nat} (hi : i < f.length) (h : (f.take i).all opsRight = true) (h' : opsRight (f.getD i []) = true) : (f.take (i + 1)).all opsRight = true := by
  rw [List.take_succ_eq_append_getElem hi, List.all_append, h]
  rw [List.getD_eq_getElem?_getD, List.getElem?_eq_getElem hi] at h'
  simpa using h'
theorem ops_take {l : List Pen.FOp} {i : Nat} (hi : i < l.length) (h : (l.take i).all Pen.fopRight = true) (h' : Pen.fopRight (l.getD i default) = true) : (l.take (i + 1)).all Pen.fopRight = true := by
  rw [List.take_succ_eq_append_getElem hi, List.all_append, h]
  rw [List.getD_eq_getElem?_getD, List.getElem?_eq_getElem hi] at h'
  simpa using h'
theorem fins_bad {f : List (List Pen.FOp)} {i : Nat} (hi : i < f.length) (h : opsRight (f.getD i []) = false) : Pen.finsRight f = false := by
  rw [finsRight_eq, Bool.and_eq_false_iff, List.all_eq_false]
  rw [List.getD_eq_getElem?_getD, List.getElem?_eq_getElem hi] at h
  exact .inr ⟨f[i], List.getElem_mem hi, by simpa using h⟩
theorem ops_bad {l : List Pen.FOp} {i : Nat} (hi : i < l.length) (h : Pen.fopRight (l.getD i default) = false) : opsRight l = false := by
  unfold opsRight
  rw [Bool.and_eq_false_iff, List.all_eq_false]
  rw [List.getD_eq_getElem?_getD, List.getElem?_eq_getElem hi] at h
  exact .inr ⟨l[i], List.getElem_mem hi, by simpa using h⟩
theorem fins_end {f : List (List Pen.FOp)} (h : (f.take f.length).all opsRight = true) : Pen.finsRight f = decide (f.length ≤ 8) := by
  rw [List.take_length] at h
  rw [finsRight_eq, h, Bool.and_true]
/-- How great A, and B, of an op may be. -/
def mostA (k : Nat) : Int := if k = 0 then 99 else if k = 4 then 0 else 5
def mostB (k : Nat) : Int := if k = 2 then 5 else if k = 3 then 8 else 0
theorem fop_small {o : Pen.FOp} {k : Nat} (hk : o.op = k) (h : k < 5) : Pen.fopRight o = (decide (0 ≤ o.a) && decide (o.a ≤ mostA k) && (decide (0 ≤ o.b) && decide (o.b ≤ mostB k))) := by
  unfold Pen.fopRight mostA mostB
  rw [hk]
  rcases k with _ | _ | _ | _ | _ | k
  all_goals first | omega | skip
  all_goals rw [Bool.eq_iff_iff]; simp <;> omega
theorem fop_great {o : Pen.FOp} (h : 5 ≤ o.op) : Pen.fopRight o = false := by
  unfold Pen.fopRight
  rw [if_neg (by omega), if_neg (by omega), if_neg (by omega), if_neg (by omega)]
  have : decide (o.op = 4) = false := by simp; omega
  rw [this]; rfl
def kindsC : List Value := [.int .i64 99, .int .i64 0, .func (.func 98) #[] #[], .int .i64 5, .int .i64 0, .func (.func 99) #[] #[], .int .i64 5, .int .i64 5, .func (.func 101) #[] #[], .int .i64 5, .int .i64 8, .func (.func 102) #[] #[], .int .i64 0, .int .i64 0, .func (.func 103) #[] #[]]
theorem kindsOne : kindsC.toArray.all (·.oneCell') = true := by simp [kindsC, Value.oneCell']
theorem sizeKinds : (Tryz.prog.info? 110).map (·.size) = some 15 := by kernel_rfl
theorem zeroKinds (w : World) : (zeroValue 110).run Tryz.prog w = .ok (.agg #[.int .i64 0, .int .i64 0, .nilFunc, .int .i64 0, .int .i64 0, .nilFunc, .int .i64 0, .int .i64 0, .nilFunc, .int .i64 0, .int .i64 0, .nilFunc, .int .i64 0, .int .i64 0, .nilFunc]) w := by kernel_rfl
set_option maxHeartbeats 1000000 in
theorem kinds_any (w : World) : Calls Tryz.prog 55 #[] w (R1 (.agg kindsC.toArray) w) := by
  obtain ⟨z, hz, hzs⟩ : ∃ z : Array Value, Hid (∀ w, (zeroValue 110).run Tryz.prog w = .ok (.agg z) w) ∧ Hid (z.size = 15) := ⟨_, fun w => zeroKinds w, rfl⟩
  go_enter Tryz.func55, Tryz.ntmps55
  go_wp2_with (first | ((with_reducible refine next_is (.alloc 110) rfl ?_); refine wpList_allocZ rfl 110 rfl z (unhide hz) ?_) | ((with_reducible refine next_is (.store 110 (.tmp 0) (.tmp 6)) rfl ?_); refine wpList_storeN rfl 110 (.tmp 0) (.tmp 6) rfl w.heap.size rfl rfl kindsC.toArray z rfl sizeKinds (unhide hzs) kindsOne ?_))
  refine bodyPost_ret (v := .agg kindsC.toArray) (results_cell_row (P := Tryz.prog) (by rfl) _ _ w.heap.size 110 kindsC.toArray (0, 0) _ (by rfl) (by rw [heap_alloc_new]) Tryz.underlying110 rfl sizeKinds) rfl ?_
  exact R1.mk rfl
end Go.Proofs.YtbnibokloendlaaGreat
