/-
  Calls as they were made, in memory; the comparison of two by their Points.
-/
import Derived.Test.YtbnibokloendlaaGreatSortB
namespace Go.Proofs.YtbnibokloendlaaGreat
open Go.RowKit

/-- A call as it was made: what lies in its cells. -/
structure OpV where
  thread : Int
  call : Pen.Call
  start : Int
  point : Int
  stop : Int
  code : Int
  n : Int
  sa : Option Addr
  sn : Nat
  sc : Nat
deriving Inhabited
def callE (c : Pen.Call) : List Value := [.int .u8 c.op, .int .u8 c.r, .int .u8 c.h, .int .u8 c.v, .int .i64 c.a, .int .i64 c.b, .int .i64 c.c]
def opE (o : OpV) : List Value := [.int .i64 o.thread, .int .u8 o.call.op, .int .u8 o.call.r, .int .u8 o.call.h, .int .u8 o.call.v, .int .i64 o.call.a, .int .i64 o.call.b, .int .i64 o.call.c, .int .i64 o.start, .int .i64 o.point, .int .i64 o.stop, .int .i64 o.code, .int .i64 o.n, .slice o.sa o.sn o.sc]
theorem opE_len (o : OpV) : (opE o).length = 14 := rfl
abbrev OpsAt (w : World) (A : Option Addr) (n : Nat) (l : List OpV) : Prop := Arr opE 14 w A n l
def keyOf (l : List OpV) (i : Nat) : Int := (l.getD i default).point
set_option maxHeartbeats 1000000 in
theorem order1_any (A : Option Addr) (n c bl : Nat) (l : List OpV) (x y : Nat) (w : World) (h : OpsAt w A n l) (hb : w.cell? ⟨bl, 0, none⟩ = some (.slice A n c)) (hx : x < n) (hy : y < n) (hn : n ≤ 1000) :
    Calls Tryz.prog 31 #[.int .i64 x, .int .i64 y, .pointer (some ⟨bl, 0, none⟩)] w (Qd (.int .i64 (cmp3 (keyOf l x) (keyOf l y))) w) := by
  obtain ⟨b, off, rfl, hlt, hc⟩ := h.at_ (by omega)
  have c1 : w.cell? ⟨b, off + x * 14 + 9, none⟩ = some (.int .i64 (keyOf l x)) := hc x hx 9 _ rfl
  have c2 : w.cell? ⟨b, off + y * 14 + 9, none⟩ = some (.int .i64 (keyOf l y)) := hc y hy 9 _ rfl
  clear hc h
  have hx' : (x : Int) < (n : Int) := by omega
  have hy' : (y : Int) < (n : Int) := by omega
  go_enter Tryz.func31, Tryz.ntmps31
  go_wp2
  go_quiet ((go_at_call 32; exact Calls.quiet_of_same ((compare_any _ _ _).mono fun _ _ h => ⟨h.1, h.2.symm⟩)))
  go_wp2
  go_ret
  exact Qd.mk rfl
theorem cmpAt_order {A : Option Addr} {n c bl g : Nat} {l : List OpV} {w : World} (h : OpsAt w A n l) (hb : w.cell? ⟨bl, 0, none⟩ = some (.slice A n c)) (hbl : bl < w.heap.size) (hn : n ≤ 1000) (hg : bl ≠ g) (hA : ∀ a, A = some a → a.block ≠ g) :
    CmpAt 31 #[.pointer (some ⟨bl, 0, none⟩)] g n (keyOf l) w := by
  intro W hU x y hx hy
  refine order1_any A n c bl l x y W (h.upd hU (fun a ha => by simpa using hA a ha)) ?_ hx hy hn
  rw [World.cell?_of_block (a := ⟨bl, 0, none⟩) (hU.block bl hbl (by simpa using hg))]
  exact hb
end Go.Proofs.YtbnibokloendlaaGreat
