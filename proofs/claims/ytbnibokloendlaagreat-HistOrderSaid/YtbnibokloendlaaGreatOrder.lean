/-
  Calls put in order by their Points: what the program's Order hands back.
-/
import Derived.Test.YtbnibokloendlaaGreatSortG
import Derived.Test.YtbnibokloendlaaGreatOps
namespace Go.Proofs.YtbnibokloendlaaGreat
open Go.RowKit

/-- The places of the first k calls that took place. -/
def took (l : List OpV) (k : Nat) : List Nat := (List.range k).filter fun i => decide (0 ≤ keyOf l i)
theorem took_succ (l : List OpV) (k : Nat) : took l (k + 1) = took l k ++ (if 0 ≤ keyOf l k then [k] else []) := by
  unfold took
  rw [List.range_succ, List.filter_append]
  by_cases h : 0 ≤ keyOf l k <;> simp [h]
theorem took_len (l : List OpV) (k : Nat) : (took l k).length ≤ k := by
  have := List.length_filter_le (fun i => decide (0 ≤ keyOf l i)) (List.range k)
  unfold took; simpa using this
theorem took_mem {l : List OpV} {k i : Nat} : i ∈ took l k ↔ i < k ∧ 0 ≤ keyOf l i := by simp [took]
theorem took_up (l : List OpV) (k : Nat) : ∀ i j, i < j → j < (took l k).length → (took l k).getD i 0 < (took l k).getD j 0 := by
  intro i j h1 h2
  have hp : List.Pairwise (· < ·) (took l k) := List.Pairwise.filter _ (List.pairwise_lt_range)
  have := List.pairwise_iff_getElem.1 hp i j (by omega) h2 h1
  rw [List.getD_eq_getElem?_getD, List.getD_eq_getElem?_getD, List.getElem?_eq_getElem (by omega), List.getElem?_eq_getElem h2]
  exact this
def natE (i : Nat) : List Value := [.int .i64 (i : Int)]
theorem natE_len (i : Nat) : (natE i).length = 1 := rfl
/-- A row of places: each that took place once, in order. -/
structure InOrder (l : List OpV) (n : Nat) (os : List Nat) : Prop where
  len : os.length = (took l n).length
  mem : ∀ i ∈ os, i ∈ took l n
  ord : os.Pairwise (lex (keyOf l))
/-- What Order hands back. -/
def OrderP (l : List OpV) (n : Nat) (w : World) (e : Ending) (w' : World) : Prop :=
  ∃ A c os, e = .returned (.slice A (os.length) c) ∧ InOrder l n os ∧ Arr natE 1 w' A os.length os ∧ (∀ a, A = some a → w.heap.size ≤ a.block) ∧ os.length ≤ c ∧ Below w.heap.size w w'
theorem inOrder_of {l : List OpV} {n : Nat} {C : Nat → Nat} (h : Srt (keyOf l) (fun i => (took l n).getD i 0) (took l n).length C) : InOrder l n ((List.range (took l n).length).map C) := by
  refine ⟨by simp, fun i hi => ?_, ?_⟩
  · obtain ⟨p, hp, rfl⟩ := List.mem_map.1 hi
    obtain ⟨q, hq, e⟩ := h.i p (by simpa using hp)
    rw [e, List.getD_eq_getElem?_getD, List.getElem?_eq_getElem hq]
    exact List.getElem_mem hq
  · rw [List.pairwise_map]
    refine List.Pairwise.imp_of_mem ?_ (List.pairwise_lt_range)
    intro p q _ hq hpq
    exact h.s p q hpq (by simpa using hq)
theorem infoInt : (Tryz.prog.info? 3).map (fun i => (i.zero, i.size, i.bytes)) = some (some (.int .i64 0), 1, 8) := by kernel_rfl
def NoneP (w : World) (e : Ending) (w' : World) : Prop := e = .returned (.tuple #[]) ∧ w = w'
set_option maxHeartbeats 1000000 in
theorem insertion_none (lb : Array Value) (w : World) : Calls Tryz.prog 131 #[.slice none 0 0, .int .i64 0, .int .i64 0, .func (.func 31) #[] lb] w (NoneP w) := by
  go_enter Tryz.func131, Tryz.ntmps131
  go_wp2
  go_loop [8] (fun i => i = .int .i64 1) (fun _ => 0)
  case atStart => rfl
  case round =>
    subst hrel
    go_wp2
    go_end0
    exact ⟨rfl, rfl⟩
set_option maxHeartbeats 1000000 in
theorem stable_none (lb : Array Value) (w : World) : Calls Tryz.prog 74 #[.slice none 0 0, .int .i64 0, .func (.func 31) #[] lb] w (NoneP w) := by
  go_enter Tryz.func74, Tryz.ntmps74
  go_wp2
  go_loop [7, 8] (fun x y => x = .int .i64 0 ∧ y = .int .i64 20) (fun _ _ => 0)
  case atStart => exact ⟨rfl, rfl⟩
  case round =>
    obtain ⟨rfl, rfl⟩ := hrel
    go_wp2_with (go_at_call 131; refine (insertion_none _ _).mono ?_; rintro e w' ⟨rfl, rfl⟩)
    go_loop [6] (fun x => x = .int .i64 20) (fun _ => 0)
    case atStart => rfl
    case round =>
      subst hrel
      go_wp2
      go_end0
      exact ⟨rfl, rfl⟩
set_option maxHeartbeats 1000000 in
theorem sortStable_none (lb : Array Value) (w : World) : Calls Tryz.prog 30 #[.slice none 0 0, .func (.func 31) #[] lb] w (NoneP w) := by
  go_enter Tryz.func30, Tryz.ntmps30
  go_wp2_with (go_at_call 74; refine (stable_none _ _).mono ?_; rintro e w' ⟨rfl, rfl⟩)
  go_end0
  exact ⟨rfl, rfl⟩
set_option maxHeartbeats 1000000 in
theorem sortStable_any (g n cap N : Nat) (lb : Array Value) (K : Nat → Int) (A : Nat → Nat) (w : World) (hR : Row w g n A) (hC : CmpAt 31 lb g N K w) (hn : n ≤ 100) (hN : ∀ i, i < n → A i < N) (hup : ∀ i j, i < j → j < n → A i < A j) :
    Calls Tryz.prog 30 #[.slice (some ⟨g, 0, none⟩) n cap, .func (.func 31) #[] lb] w (StabP K g n A w) := by
  go_enter Tryz.func30, Tryz.ntmps30
  go_wp2_with (go_at_call 74; refine (stable_any g n cap N lb K A _ hR hC hn hN hup).mono ?_; rintro e w' ⟨C, rfl, hW, hU, hS⟩; replace hW := hide hW; replace hU := hide hU; replace hS := hide hS)
  go_end0
  exact ⟨C, rfl, unhide hW, unhide hU, unhide hS⟩
end Go.Proofs.YtbnibokloendlaaGreat
