/-
  Words for memory and for contracts, used by all walks of this claim.
-/
import Derived.Test.YtbnibokloendlaaGreatProg
import Derived.WalkKit
import Derived.WalkSpells
import Derived.WalkLawsBesides
import Derived.BigQuiet
import Derived.Deep.QuietTactic
namespace Go.Proofs.YtbnibokloendlaaGreat
open Go.RowKit

theorem hide {p : Prop} (h : p) : Hid p := h
theorem unhide {p : Prop} (h : Hid p) : p := h
theorem setCell_drewN (w : World) (n : Nat) (a : Addr) (v : Value) : (w.drewN n).setCell a v = (w.setCell a v).drewN n := rfl
theorem alloc_drewN (w : World) (n : Nat) (o : Obj) : (w.drewN n).alloc o = (w.alloc o).drewN n := rfl
theorem below_drewN {B : Nat} {a w : World} (h : Below B a w) (n : Nat) : Below B a (w.drewN n) := ⟨h.os, h.tape, h.output, h.size, h.block⟩
/-- A call that hands back v; of what was there nothing has turned. -/
def R (v : Value) (w : World) (e : Ending) (w' : World) : Prop := e = .returned v ∧ Below w.heap.size w w'
theorem R.mk {v u : Value} {w w' : World} (h : u = v) (hb : Below w.heap.size w w') : R v w (.returned u) w' := ⟨by rw [h], hb⟩
/-- A call that hands back v and leaves the world alone. -/
def Q (v : Value) (w : World) (e : Ending) (w' : World) : Prop := e = .returned v ∧ w = w'
theorem Q.mk {v u : Value} {w : World} (h : u = v) : Q v w (.returned u) w := ⟨by rw [h], rfl⟩
theorem Q.bool {x y : Bool} {w : World} (h : x = y) : Q (.bool y) w (.returned (.bool x)) w := ⟨by rw [h], rfl⟩
theorem Q.int {k : IntKind} {x y : Int} {w : World} (h : x = y) : Q (.int k y) w (.returned (.int k x)) w := ⟨by rw [h], rfl⟩
theorem R.bool {x y : Bool} {w w' : World} (h : x = y) (hb : Below w.heap.size w w') : R (.bool y) w (.returned (.bool x)) w' := ⟨by rw [h], hb⟩
theorem R.int {k : IntKind} {x y : Int} {w w' : World} (h : x = y) (hb : Below w.heap.size w w') : R (.int k y) w (.returned (.int k x)) w' := ⟨by rw [h], hb⟩
/-- A call that hands back v and lays one, two, three new blocks, and turns nothing. -/
def R1 (v : Value) (w : World) (e : Ending) (w' : World) : Prop := ∃ X, e = .returned v ∧ w' = w.alloc X
def R2 (v : Value) (w : World) (e : Ending) (w' : World) : Prop := ∃ X Y, e = .returned v ∧ w' = (w.alloc X).alloc Y
def R3 (v : Value) (w : World) (e : Ending) (w' : World) : Prop := ∃ X Y Z, e = .returned v ∧ w' = ((w.alloc X).alloc Y).alloc Z
theorem R1.bool {x y : Bool} {w : World} {X : Obj} (h : x = y) : R1 (.bool y) w (.returned (.bool x)) (w.alloc X) := ⟨X, by rw [h], rfl⟩
theorem R1.int {k : IntKind} {x y : Int} {w : World} {X : Obj} (h : x = y) : R1 (.int k y) w (.returned (.int k x)) (w.alloc X) := ⟨X, by rw [h], rfl⟩
theorem R1.mk {u v : Value} {w : World} {X : Obj} (h : u = v) : R1 v w (.returned u) (w.alloc X) := ⟨X, by rw [h], rfl⟩
theorem R2.mk {u v : Value} {w : World} {X Y : Obj} (h : u = v) : R2 v w (.returned u) ((w.alloc X).alloc Y) := ⟨X, Y, by rw [h], rfl⟩
theorem R3.mk {u v : Value} {w : World} {X Y Z : Obj} (h : u = v) : R3 v w (.returned u) (((w.alloc X).alloc Y).alloc Z) := ⟨X, Y, Z, by rw [h], rfl⟩
def R4 (v : Value) (w : World) (e : Ending) (w' : World) : Prop := ∃ X Y Z U, e = .returned v ∧ w' = (((w.alloc X).alloc Y).alloc Z).alloc U
theorem R4.mk {u v : Value} {w : World} {X Y Z U : Obj} (h : u = v) : R4 v w (.returned u) ((((w.alloc X).alloc Y).alloc Z).alloc U) := ⟨X, Y, Z, U, by rw [h], rfl⟩
/-- .. some new blocks, at most four -/
def Rn (v : Value) (w : World) (e : Ending) (w' : World) : Prop := e = .returned v ∧ Below w.heap.size w w'
theorem Rn.mk {u v : Value} {w w' : World} (h : u = v) (hb : Below w.heap.size w w') : Rn v w (.returned u) w' := ⟨by rw [h], hb⟩
def R1d (v : Value) (w : World) (e : Ending) (w' : World) : Prop := ∃ X n, e = .returned v ∧ w' = (w.alloc X).drewN n
theorem R1d.mk {u v : Value} {w : World} {X : Obj} {n : Nat} (h : u = v) : R1d v w (.returned u) ((w.alloc X).drewN n) := ⟨X, n, by rw [h], rfl⟩
def R2d (v : Value) (w : World) (e : Ending) (w' : World) : Prop := ∃ X Y n, e = .returned v ∧ w' = ((w.alloc X).alloc Y).drewN n
theorem R2d.mk {u v : Value} {w : World} {X Y : Obj} {n : Nat} (h : u = v) : R2d v w (.returned u) (((w.alloc X).alloc Y).drewN n) := ⟨X, Y, n, by rw [h], rfl⟩
theorem R2d.mk0 {u v : Value} {w : World} {X Y : Obj} (h : u = v) : R2d v w (.returned u) ((w.alloc X).alloc Y) := ⟨X, Y, 0, by rw [h], rfl⟩
def R3d (v : Value) (w : World) (e : Ending) (w' : World) : Prop := ∃ X Y Z n, e = .returned v ∧ w' = (((w.alloc X).alloc Y).alloc Z).drewN n
theorem R3d.mk {u v : Value} {w : World} {X Y Z : Obj} {n : Nat} (h : u = v) : R3d v w (.returned u) ((((w.alloc X).alloc Y).alloc Z).drewN n) := ⟨X, Y, Z, n, by rw [h], rfl⟩
def Qd (v : Value) (w : World) (e : Ending) (w' : World) : Prop := ∃ n, e = .returned v ∧ w' = w.drewN n
theorem Qd.mk {u v : Value} {w : World} {n : Nat} (h : u = v) : Qd v w (.returned u) (w.drewN n) := ⟨n, by rw [h], rfl⟩
theorem bcell {W w1 : World} (hb : Below W.heap.size W w1) : (∀ b o, b < W.heap.size → w1.cell? ⟨b, o, none⟩ = W.cell? ⟨b, o, none⟩) ∧ (∀ b o, b < W.heap.size → w1.frozen? ⟨b, o, none⟩ = W.frozen? ⟨b, o, none⟩) :=
  ⟨fun b o h => hb.cell (p := ⟨b, o, none⟩) h, fun b o h => hb.frozen (p := ⟨b, o, none⟩) h⟩
end Go.Proofs.YtbnibokloendlaaGreat
