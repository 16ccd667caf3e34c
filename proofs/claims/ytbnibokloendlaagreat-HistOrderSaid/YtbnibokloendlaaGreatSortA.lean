/-
  A row of numbers in a block of its own; swapRange.
-/
import Derived.Test.YtbnibokloendlaaGreatHeap
import Derived.BigRegion
namespace Go.Proofs.YtbnibokloendlaaGreat
open Go.RowKit

/-- Block g begins with the n numbers A. -/
def Row (w : World) (g n : Nat) (A : Nat → Nat) : Prop :=
  g < w.heap.size ∧ (∀ i, i < n → w.cell? ⟨g, i, none⟩ = some (.int .i64 (A i))) ∧ (∀ o, w.frozen? ⟨g, o, none⟩ = false)
theorem Row.congr {w : World} {g n : Nat} {A B : Nat → Nat} (h : Row w g n A) (e : ∀ i, i < n → B i = A i) : Row w g n B :=
  ⟨h.1, fun i hi => by rw [e i hi]; exact h.2.1 i hi, h.2.2⟩
theorem Row.drewN {w : World} {g n : Nat} {A : Nat → Nat} (h : Row w g n A) (m : Nat) : Row (w.drewN m) g n A := h
def put (A : Nat → Nat) (i v : Nat) : Nat → Nat := fun k => if k = i then v else A k
theorem Row.set {w : World} {g n : Nat} {A : Nat → Nat} (h : Row w g n A) (i v : Nat) (hi : i < n) : Row (w.setCell ⟨g, i, none⟩ (.int .i64 v)) g n (put A i v) := by
  refine ⟨by simpa [World.setCell] using h.1, fun k hk => ?_, fun o => by rw [World.frozen?_setCell]; exact h.2.2 o⟩
  by_cases e : k = i
  · subst e
    rw [World.cell?_setCell_same _ _ _ (h.2.1 k hk)]
    simp [put]
  · rw [World.cell?_setCell_other _ _ _ _ (by intro x; injection x with _ x _; exact e x.symm)]
    simp [put, e, h.2.1 k hk]
def RowP (g n : Nat) (A : Nat → Nat) (w : World) (e : Ending) (w' : World) : Prop := e = .returned (.tuple #[]) ∧ Row w' g n A ∧ Upd [g] w w'
/-- The rows a .. and b .. of i numbers have changed places. -/
def swr (A : Nat → Nat) (a b i : Nat) : Nat → Nat := fun k => if a ≤ k ∧ k < a + i then A (k - a + b) else if b ≤ k ∧ k < b + i then A (k - b + a) else A k
set_option maxHeartbeats 2000000 in
theorem swapRange_any (g n cap a b k : Nat) (f : Value) (A : Nat → Nat) (w : World) (hR : Row w g n A) (h1 : a + k ≤ b) (h2 : b + k ≤ n) (hn : n ≤ 100) :
    Calls Tryz.prog 223 #[.slice (some ⟨g, 0, none⟩) n cap, .int .i64 a, .int .i64 b, .int .i64 k, f] w (RowP g n (swr A a b k) w) := by
  go_enter Tryz.func223, Tryz.ntmps223
  go_wp2
  go_loopw [10] (fun i wr => ∃ (j : Nat), j ≤ k ∧ i = .int .i64 j ∧ Row wr g n (swr A a b j) ∧ Upd [g] w wr) (fun i _ => k - (intOf i).toNat)
  case atStart =>
    exact ⟨0, by omega, rfl, hR.congr (fun i _ => by unfold swr; rw [if_neg (by omega), if_neg (by omega)]), Upd.refl _ _⟩
  case round =>
    obtain ⟨j, hj, rfl, hW, hU⟩ := hrel
    by_cases hlt : j < k
    · have ca := hW.2.1 (a + j) (by omega)
      have cb := hW.2.1 (b + j) (by omega)
      have fr := hW.2.2
      replace hW := hide hW; replace hU := hide hU
      go_wp2
      go_region
      go_wp2
      go_roundw
      case rel =>
        refine ⟨j + 1, by omega, by go_num, ((((unhide hW).set (a + j) (swr A a b j (b + j)) (by omega)).set (b + j) (swr A a b j (a + j)) (by omega)).drewN 1).congr (fun i hi => ?_), (((unhide hU).setCell (.inl (by simp)) _).setCell (.inl (by simp)) _).drew⟩
        simp only [swr, put]
        repeat' split
        all_goals first | rfl | (exfalso; omega) | (congr 1; omega)
      case measure => simp [intOf]; omega
    · have e : j = k := by omega
      subst e
      go_wp2
      go_end0
      exact ⟨rfl, hW, hU⟩
/-- The rows a .. m and m .. b have changed places. -/
def rot (A : Nat → Nat) (a m b : Nat) : Nat → Nat := fun k => if a ≤ k ∧ k < a + (b - m) then A (k + (m - a)) else if a + (b - m) ≤ k ∧ k < b then A (k - (b - m)) else A k
theorem rot_left (A : Nat → Nat) (m i j k : Nat) (hi : i ≤ m) (h : j < i) (hj : 0 < j) : rot (swr A (m - i) m j) (m - (i - j)) m (m + j) k = rot A (m - i) m (m + j) k := by
  simp only [rot, swr]
  repeat' split
  all_goals first | rfl | (exfalso; omega) | (congr 1; omega)
theorem rot_right (A : Nat → Nat) (m i j k : Nat) (hi : i ≤ m) (h : i < j) (hj : 0 < i) : rot (swr A (m - i) (m + j - i) i) (m - i) m (m + (j - i)) k = rot A (m - i) m (m + j) k := by
  simp only [rot, swr]
  repeat' split
  all_goals first | rfl | (exfalso; omega) | (congr 1; omega)
theorem rot_end (A : Nat → Nat) (m i k : Nat) (hi : i ≤ m) : swr A (m - i) m i k = rot A (m - i) m (m + i) k := by
  simp only [rot, swr]
  repeat' split
  all_goals first | rfl | (exfalso; omega) | (congr 1; omega)
set_option maxHeartbeats 2000000 in
theorem rotate_any (g n cap a m b : Nat) (f : Value) (A : Nat → Nat) (w : World) (hR : Row w g n A) (h1 : a < m) (h2 : m < b) (h3 : b ≤ n) (hn : n ≤ 100) :
    Calls Tryz.prog 178 #[.slice (some ⟨g, 0, none⟩) n cap, .int .i64 a, .int .i64 m, .int .i64 b, f] w (RowP g n (rot A a m b) w) := by
  go_enter Tryz.func178, Tryz.ntmps178
  go_wp2
  go_loopw [10, 11] (fun i j wr => ∃ (p q : Nat) (C : Nat → Nat), 0 < p ∧ 0 < q ∧ p ≤ m ∧ m + q ≤ b ∧ i = .int .i64 p ∧ j = .int .i64 q ∧ Row wr g n C ∧ Upd [g] w wr ∧ ∀ k, rot C (m - p) m (m + q) k = rot A a m b k) (fun i j _ => (intOf i).toNat + (intOf j).toNat)
  case atStart =>
    refine ⟨m - a, b - m, A, by omega, by omega, by omega, by omega, by go_num, by go_num, hR, Upd.refl _ _, fun k => ?_⟩
    have e1 : m - (m - a) = a := by omega
    have e2 : m + (b - m) = b := by omega
    rw [e1, e2]
  case round =>
    obtain ⟨p, q, C, hp, hq, hpm, hqb, rfl, rfl, hW, hU, hC⟩ := hrel
    by_cases hpq : p = q
    · subst hpq
      replace hW := hide hW; replace hU := hide hU
      have e1 : (m : Int) - (p : Int) = ((m - p : Nat) : Int) := by omega
      go_wp2_with (go_at_call 223; refine (swapRange_any g n cap (m - p) m p f C _ (unhide hW) (by omega) (by omega) hn).mono ?_; rintro e w' ⟨rfl, hW1, hU1⟩)
      go_end0
      refine ⟨rfl, hW1.congr (fun k hk => ?_), (unhide hU).trans hU1 (by simp)⟩
      rw [← hC k, rot_end C m p k hpm]
    · by_cases hlt : q < p
      · replace hW := hide hW; replace hU := hide hU
        have e1 : (m : Int) - (p : Int) = ((m - p : Nat) : Int) := by omega
        go_wp2_with (go_at_call 223; refine (swapRange_any g n cap (m - p) m q f C _ (unhide hW) (by omega) (by omega) hn).mono ?_; rintro e w' ⟨rfl, hW1, hU1⟩; replace hW1 := hide hW1; replace hU1 := hide hU1)
        go_roundw
        case rel => exact ⟨p - q, q, _, by omega, by omega, by omega, by omega, by go_num, rfl, unhide hW1, (unhide hU).trans (unhide hU1) (by simp), fun k => (rot_left C m p q k hpm hlt hq).trans (hC k)⟩
        case measure => simp [intOf]; omega
      · replace hW := hide hW; replace hU := hide hU
        have e1 : (m : Int) - (p : Int) = ((m - p : Nat) : Int) := by omega
        have e2 : (m : Int) + (q : Int) - (p : Int) = ((m + q - p : Nat) : Int) := by omega
        go_wp2_with (go_at_call 223; refine (swapRange_any g n cap (m - p) (m + q - p) p f C _ (unhide hW) (by omega) (by omega) hn).mono ?_; rintro e w' ⟨rfl, hW1, hU1⟩; replace hW1 := hide hW1; replace hU1 := hide hU1)
        go_roundw
        case rel => exact ⟨p, q - p, _, by omega, by omega, by omega, by omega, rfl, by go_num, unhide hW1, (unhide hU).trans (unhide hU1) (by simp), fun k => (rot_right C m p q k hpm (by omega) hp).trans (hC k)⟩
        case measure => simp [intOf]; omega
end Go.Proofs.YtbnibokloendlaaGreat
