/-
  Words for blocks that are known cell by cell.
-/
import Derived.Test.YtbnibokloendlaaGreatOwn
namespace Go.Proofs.YtbnibokloendlaaGreat
open Go.RowKit

/-- Block b holds the cells cs, and may be written. -/
def FA (w : World) (b : Nat) (cs : List Value) : Prop :=
  b < w.heap.size ∧ (∀ j u, cs[j]? = some u → w.cell? ⟨b, j, none⟩ = some u) ∧ (∀ o, w.frozen? ⟨b, o, none⟩ = false)
section
variable {w w' : World} {b : Nat} {cs : List Value}
theorem FA.lt (h : FA w b cs) : b < w.heap.size := h.1
theorem FA.cell (h : FA w b cs) (j : Nat) {u : Value} (hu : cs[j]? = some u) : w.cell? ⟨b, j, none⟩ = some u := h.2.1 j u hu
theorem FA.free (h : FA w b cs) : ∀ o, w.frozen? ⟨b, o, none⟩ = false := h.2.2
theorem FA.keep (h : FA w b cs) (hs : w.heap.size ≤ w'.heap.size) (hk : w'.heap[b]? = w.heap[b]?) : FA w' b cs :=
  ⟨by have := h.1; omega, fun j u hu => (World.cell?_of_block (a := ⟨b, j, none⟩) hk).trans (h.2.1 j u hu), fun o => (World.frozen?_of_block (a := ⟨b, o, none⟩) hk).trans (h.2.2 o)⟩
theorem FA.below (h : FA w b cs) (hb : Below w.heap.size w w') : FA w' b cs := h.keep hb.size (hb.block b h.1)
theorem FA.drewN (h : FA w b cs) (n : Nat) : FA (w.drewN n) b cs := h
theorem FA.drew (h : FA w b cs) : FA w.drew b cs := h
theorem FA.alloc (h : FA w b cs) (o : Obj) : FA (w.alloc o) b cs := h.below ((Below.refl _ _).alloc (Nat.le_refl _) o)
theorem FA.new (w : World) (cs : List Value) (t : TypeId) : FA (w.alloc (.cells cs.toArray t)) w.heap.size cs :=
  ⟨by simp, fun j u hu => by rw [World.cell?_alloc_new]; simpa using hu, fun o => by unfold World.frozen?; simp only [heap_alloc_new]; simp⟩
theorem FA.new' (w : World) (g : Nat) (cs : List Value) (t : TypeId) (hg : g = w.heap.size) : FA (w.alloc (.cells cs.toArray t)) g cs := by subst hg; exact FA.new w cs t
theorem FA.far (h : FA w b cs) {p : Addr} (hp : p.block ≠ b) (v : Value) : FA (w.setCell p v) b cs :=
  h.keep (by simp [World.setCell]) (Below.heap_setCell _ _ _ _ (fun e => hp e.symm))
theorem FA.set (h : FA w b cs) (j : Nat) (hj : j < cs.length) (v : Value) : FA (w.setCell ⟨b, j, none⟩ v) b (cs.set j v) := by
  refine ⟨by simpa [World.setCell] using h.1, fun i u hu => ?_, fun o => by rw [World.frozen?_setCell]; exact h.2.2 o⟩
  by_cases hij : i = j
  · subst hij
    rw [List.getElem?_set_self hj] at hu
    injection hu with hu
    subst hu
    exact World.cell?_setCell_same _ _ _ (h.2.1 i _ (List.getElem?_eq_getElem hj))
  · rw [List.getElem?_set_ne (fun e => hij e.symm)] at hu
    rw [World.cell?_setCell_other _ _ _ _ (by intro e; injection e with _ e _; exact hij e.symm)]
    exact h.2.1 i u hu
theorem FA.grown {row : Option Nat} (h : FA w b cs) (hg : w.grownBy w' row) (hr : row ≠ some b) : FA w' b cs := h.keep hg.size (hg.block b h.1 (fun e => hr e.symm))
theorem FA.arr {α : Type} [Inhabited α] {enc : α → List Value} {k : Nat} (hk : ∀ x, (enc x).length = k) {l : List α} (h : FA w b (l.flatMap enc)) (hn : l.length ≤ 1000000) : Arr enc k w (some ⟨b, 0, none⟩) l.length l := by
  refine ⟨rfl, hn, fun _ => ⟨b, 0, rfl, h.1, fun i hi j u hu => ?_⟩⟩
  have hj : j < k := by rw [← hk (l.getD i default)]; exact (List.getElem?_eq_some_iff.1 hu).1
  rw [Nat.zero_add]
  exact h.2.1 _ u ((flat_get enc k hk l i j hi hj).trans hu)
end

theorem FA.of_own {w : World} {base e k n g cap : Nat} {xs : List Value} (h : w.ownsRow base e k (.slice (some ⟨g, 0, none⟩) n cap) n xs) : FA w g xs :=
  ⟨(h.lt g rfl).2, fun j u hu => by
    have hj : j < xs.length := (List.getElem?_eq_some_iff.1 hu).1
    rw [h.cellAt j (by rw [← h.1]; exact hj)]; exact hu, fun o => h.frozenAt o⟩
/-- Of what was there only the blocks M may have turned. -/
structure Upd (M : List Nat) (w w' : World) : Prop where
  os : w'.os = w.os
  tape : w'.tape = w.tape
  output : w'.output = w.output
  size : w.heap.size ≤ w'.heap.size
  block : ∀ k, k < w.heap.size → k ∉ M → w'.heap[k]? = w.heap[k]?
theorem Upd.refl (M : List Nat) (w : World) : Upd M w w := ⟨rfl, rfl, rfl, Nat.le_refl _, fun _ _ _ => rfl⟩
theorem Upd.of_below {M : List Nat} {w w' : World} (h : Below w.heap.size w w') : Upd M w w' := ⟨h.os, h.tape, h.output, h.size, fun k hk _ => h.block k hk⟩
theorem Upd.trans {M M' : List Nat} {a b c : World} (h : Upd M a b) (k : Upd M' b c) (hM : ∀ x ∈ M', x ∈ M ∨ a.heap.size ≤ x) : Upd M a c :=
  ⟨k.os.trans h.os, k.tape.trans h.tape, k.output.trans h.output, Nat.le_trans h.size k.size, fun i hi hm => (k.block i (Nat.lt_of_lt_of_le hi h.size) (fun hi' => by rcases hM i hi' with h1 | h1; exact hm h1; omega)).trans (h.block i hi hm)⟩
theorem Upd.below {M : List Nat} {a b c : World} (h : Upd M a b) (k : Below b.heap.size b c) : Upd M a c := h.trans (Upd.of_below (M := []) k) (by simp)
theorem Upd.alloc {M : List Nat} {a w : World} (h : Upd M a w) (o : Obj) : Upd M a (w.alloc o) := h.below ((Below.refl _ _).alloc (Nat.le_refl _) o)
theorem Upd.drewN {M : List Nat} {a w : World} (h : Upd M a w) (n : Nat) : Upd M a (w.drewN n) := ⟨h.os, h.tape, h.output, h.size, h.block⟩
theorem Upd.drew {M : List Nat} {a w : World} (h : Upd M a w) : Upd M a w.drew := ⟨h.os, h.tape, h.output, h.size, h.block⟩
theorem Upd.setCell {M : List Nat} {a w : World} (h : Upd M a w) {p : Addr} (hp : p.block ∈ M ∨ a.heap.size ≤ p.block) (v : Value) : Upd M a (w.setCell p v) :=
  ⟨h.os, h.tape, h.output, by simpa [World.setCell] using h.size, fun k hk hm => (Below.heap_setCell w p v k (fun e => by subst e; rcases hp with h1 | h1; exact hm h1; omega)).trans (h.block k hk hm)⟩
theorem Upd.mono {M M' : List Nat} {a w : World} (h : Upd M a w) (hM : ∀ x ∈ M, x ∈ M') : Upd M' a w := ⟨h.os, h.tape, h.output, h.size, fun k hk hm => h.block k hk (fun hx => hm (hM k hx))⟩
theorem Upd.to_below {a w : World} (h : Upd [] a w) : Below a.heap.size a w := ⟨h.os, h.tape, h.output, h.size, fun k hk => h.block k hk (by simp)⟩
theorem FA.upd {M : List Nat} {w w' : World} {b : Nat} {cs : List Value} (h : FA w b cs) (hu : Upd M w w') (hb : b ∉ M) : FA w' b cs := h.keep hu.size (hu.block b h.1 hb)
theorem Arr.upd {α : Type} [Inhabited α] {enc : α → List Value} {k n : Nat} {l : List α} {M : List Nat} {w w' : World} {A : Option Addr} (h : Arr enc k w A n l) (hu : Upd M w w') (hA : ∀ a, A = some a → a.block ∉ M) : Arr enc k w' A n l := by
  rcases Nat.eq_zero_or_pos n with h0 | h0
  · subst h0
    have := h.1
    have : l = [] := List.eq_nil_of_length_eq_zero this
    subst this
    exact Arr.nil_ _ _ _ _
  · obtain ⟨b, off, e, hlt, _⟩ := h.2.2 h0
    subst e
    exact h.keep hu.size (fun b' hb' => by simp at hb'; subst hb'; exact hu.block _ hlt (hA _ rfl))
end Go.Proofs.YtbnibokloendlaaGreat
