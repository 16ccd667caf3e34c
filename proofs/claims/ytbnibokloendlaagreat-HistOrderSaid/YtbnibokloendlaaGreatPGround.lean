/-
  The program's ground and forest of scopes, when they are new.
-/
import Derived.Test.YtbnibokloendlaaGreatAgg
import Derived.Test.YtbnibokloendlaaGreatGroundB
import Derived.Test.YtbnibokloendlaaGreatNumC
import Derived.Test.YtbnibokloendlaaGreatFinR
namespace Go.Proofs.YtbnibokloendlaaGreat
open Go.RowKit

/-- The program's ground in block gb: from a to e, the free extents l, in a block of their own (one of F) if there are any. -/
def PG (w : World) (gb : Nat) (F : List Nat) (a e : Int) (l : List Pen.Extent) : Prop :=
  ∃ A c, FA w gb [.int .i64 a, .int .i64 e, .slice A l.length c] ∧ l.length ≤ c ∧ (0 < l.length → ∃ fb, F = [fb] ∧ A = some ⟨fb, 0, none⟩ ∧ FA w fb (l.flatMap extE)) ∧ gb ∉ F
theorem PG.upd {w w' : World} {gb : Nat} {F M : List Nat} {a e : Int} {l : List Pen.Extent} (h : PG w gb F a e l) (hu : Upd M w w') (hg : gb ∉ M) (hF : ∀ x ∈ F, x ∉ M) : PG w' gb F a e l := by
  obtain ⟨A, c, h1, h2, h3, h4⟩ := h
  refine ⟨A, c, h1.upd hu hg, h2, fun h => ?_, h4⟩
  obtain ⟨fb, rfl, hA, hf⟩ := h3 h
  exact ⟨fb, rfl, hA, hf.upd hu (hF fb (by simp))⟩
def groundFree (a s : Int) : List Pen.Extent := if 0 < s then [⟨a, s⟩] else []
def GNewP (a s : Int) (w : World) (e : Ending) (w' : World) : Prop :=
  ∃ gb F, e = .returned (.tuple #[.pointer (some ⟨gb, 0, none⟩), .int .i64 0]) ∧ PG w' gb F a (a + s) (groundFree a s) ∧ w.heap.size ≤ gb ∧ (∀ x ∈ F, w.heap.size ≤ x) ∧ gb < w'.heap.size ∧ (∀ x ∈ F, x < w'.heap.size) ∧ Below w.heap.size w w'
set_option maxHeartbeats 1000000 in
theorem groundNew_any (a s : Int) (h0 : 0 ≤ a) (h1 : a ≤ 9000) (h2 : 0 ≤ s) (h3 : s ≤ 9000) (h4 : a % 8 = 0) (h5 : s % 8 = 0) (w : World) :
    Calls Tryz.prog 106 #[.int .i64 a, .int .i64 s] w (GNewP a s w) := by
  have hb : ((bits .or .i64 a s).tmod 8 != 0) = false := by
    have := (or_mod8 a s h0 (by omega) h2 (by omega)).2 ⟨h4, h5⟩
    rw [this]; rfl
  have H4 := hide h4; have H5 := hide h5
  clear h4 h5
  by_cases hs : 0 < s
  · go_enter Tryz.func106, Tryz.ntmps106
    go_wp2_with (go_at_call 34; refine (within_yes _ _ _ (by omega) _).mono ?_; rintro e w' ⟨rfl, rfl⟩)
    go_ret2
    refine ⟨w.heap.size, [w.heap.size + 1], rfl, ⟨some ⟨w.heap.size + 1, 0, none⟩, 1, ?_, ?_, fun _ => ⟨w.heap.size + 1, rfl, rfl, ?_⟩, by simp⟩, by omega, by simp, by simp; omega, by simp, ?_⟩
    · have : groundFree a s = [⟨a, s⟩] := if_pos hs
      rw [this]
      exact (FA.new' w _ [.int .i64 a, .int .i64 (a + s), .slice (some ⟨w.heap.size + 1, 0, none⟩) 1 1] _ rfl).alloc _
    · have : groundFree a s = [⟨a, s⟩] := if_pos hs
      rw [this]; simp
    · have : groundFree a s = [⟨a, s⟩] := if_pos hs
      rw [this]
      exact FA.new' _ _ [.int .i64 a, .int .i64 s] _ (by simp)
    · exact below_a2 _ _ _
  · go_enter Tryz.func106, Tryz.ntmps106
    go_wp2_with (go_at_call 34; refine (within_yes _ _ _ (by omega) _).mono ?_; rintro e w' ⟨rfl, rfl⟩)
    go_ret2
    have hf : groundFree a s = [] := if_neg (by omega)
    refine ⟨w.heap.size, [], rfl, ⟨none, 0, ?_, by rw [hf]; simp, fun h => by rw [hf] at h; simp at h, by simp⟩, by omega, by simp, by simp, by simp, below_a1 _ _⟩
    rw [hf]
    exact FA.new' w _ [.int .i64 a, .int .i64 (a + s), .slice none 0 0] _ rfl
end Go.Proofs.YtbnibokloendlaaGreat
