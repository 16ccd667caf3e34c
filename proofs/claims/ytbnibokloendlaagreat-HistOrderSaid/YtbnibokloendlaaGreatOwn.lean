/-
  Small laws on slices that the call itself makes.
-/
import Derived.Test.YtbnibokloendlaaGreatMem
import Derived.Laws.MakeOwn
import Derived.Laws.Entries
namespace Go.Proofs.YtbnibokloendlaaGreat
open Go.RowKit
theorem own_empty (w : World) (base e size g : Nat) (hb : base ≤ w.heap.size) (hg : g = w.heap.size) : (w.alloc (.cells #[] e)).ownsRow base e size (.slice (some ⟨g, 0, none⟩) 0 0) 0 [] := by
  subst hg
  exact ⟨by simp, .inr ⟨w.heap.size, 0, #[], rfl, hb, heap_alloc_new w _, Nat.le_refl _, by unfold maxLen; omega, by simp, by simp⟩⟩
theorem reads_new (w : World) (t size m g B : Nat) (cs : List Value) (h : cs.length = m * size) (hg : g = w.heap.size) (hB : B = w.heap.size + 1) : Reads (w.alloc (.cells cs.toArray t)) B size (some ⟨g, 0, none⟩) m cs := by
  subst hg hB
  refine ⟨h, fun _ => ⟨_, rfl, by simp, fun j u hu => ?_⟩⟩
  rw [add_off, Nat.zero_add, World.cell?_alloc_new]
  simpa using hu
theorem reads_far {w w' : World} {B size m : Nat} {ad : Addr} {cs : List Value} {row : Option Nat} (h : Reads w B size (some ad) m cs) (hg : w.grownBy w' row) (hlt : ad.block < w.heap.size) (hne : some ad.block ≠ row) : Reads w' B size (some ad) m cs := by
  refine ⟨h.1, fun hm => ?_⟩
  obtain ⟨ad', e, hb, hc⟩ := h.2 hm
  injection e with e
  subst e
  exact ⟨_, rfl, hb, fun j u hu => (World.cell?_of_block (hg.block _ (by rw [block_of_add]; exact hlt) (by rw [block_of_add]; exact hne))).trans (hc j u hu)⟩
theorem own_cap {w : World} {base k n c : Nat} {A : Option Addr} {e : TypeId} {xs : List Value} (h : w.ownsRow base e k (.slice A n c) n xs) : n ≤ c := by
  rcases h.2 with ⟨hv, hn⟩ | ⟨g, cap, cur, hv, _, _, hc, _⟩
  · omega
  · injection hv with _ _ h3
    omega
theorem own_fresh {w : World} {base k n c : Nat} {A : Option Addr} {e : TypeId} {xs : List Value} (h : w.ownsRow base e k (.slice A n c) n xs) : ∀ a, A = some a → base ≤ a.block := by
  intro a ha
  subst ha
  exact (h.lt a.block rfl).1
theorem own_row_ge {w : World} {base k n : Nat} {e : TypeId} {v : Value} {xs : List Value} (h : w.ownsRow base e k v n xs) {q : Nat} (hq : v.ownBlock = some q) : base ≤ q := (h.lt q hq).1
theorem own_arr {α : Type} [Inhabited α] {enc : α → List Value} {k n base : Nat} {e : TypeId} {w : World} {v : Value} {l : List α} (h : w.ownsRow base e k v n (l.flatMap enc)) (hk : ∀ x, (enc x).length = k) (hk0 : 0 < k) (hl : l.length = n) (h0 : 0 < n) (hn : n ≤ 1000000) :
    ∃ A c, v = .slice A n c ∧ n ≤ c ∧ (∀ a, A = some a → base ≤ a.block) ∧ Arr enc k w A n l := by
  obtain ⟨g, cap, hv, _, hlt⟩ := h.form h0
  subst hv
  have hcap := own_cap h
  exact ⟨_, cap, rfl, hcap, own_fresh h, Arr.of_reads (Reads.of_own h) hk hk0 hl hn (Nat.le_refl _)⟩
theorem own_slice {w : World} {base k n : Nat} {e : TypeId} {v : Value} {xs : List Value} (h : w.ownsRow base e k v n xs) : ∃ A c, v = .slice A n c ∧ n ≤ c ∧ (∀ a, A = some a → base ≤ a.block) := by
  rcases h.2 with ⟨rfl, rfl⟩ | ⟨g, cap, cur, rfl, _, _, hc, _⟩
  · exact ⟨none, 0, rfl, by omega, by simp⟩
  · exact ⟨_, cap, rfl, hc, own_fresh h⟩
theorem one_of_enc {α : Type} {enc : α → List Value} (h : ∀ x, ∀ u ∈ enc x, u.oneCell' = true) (l : List α) : ∀ u ∈ l.flatMap enc, u.oneCell' = true := by
  intro u hu
  obtain ⟨x, _, hx⟩ := List.mem_flatMap.1 hu
  exact h x u hx
/-- A call that hands back a slice of n things that reads as l; of what was there nothing has turned. -/
def Gives {α : Type} [Inhabited α] (enc : α → List Value) (k n : Nat) (l : List α) (w : World) (e : Ending) (w' : World) : Prop :=
  ∃ A c, e = .returned (.slice A n c) ∧ n ≤ c ∧ (∀ a, A = some a → w.heap.size ≤ a.block) ∧ Arr enc k w' A n l ∧ Below w.heap.size w w'
theorem Gives.mk {α : Type} [Inhabited α] {enc : α → List Value} {k n m : Nat} {l : List α} {w w' : World} {A : Option Addr} {c : Nat} (hc : m ≤ c) (hfr : ∀ a, A = some a → w.heap.size ≤ a.block) (h : Arr enc k w' A m l) (hb : Below w.heap.size w w') (hm : m = n) : Gives enc k n l w (.returned (.slice A m c)) w' := by
  subst hm; exact ⟨A, c, rfl, hc, hfr, h, hb⟩
/-- .. and the code OK -/
def Gives0 {α : Type} [Inhabited α] (enc : α → List Value) (k n : Nat) (l : List α) (w : World) (e : Ending) (w' : World) : Prop :=
  ∃ A c, e = .returned (.tuple #[.slice A n c, .int .i64 0]) ∧ n ≤ c ∧ (∀ a, A = some a → w.heap.size ≤ a.block) ∧ Arr enc k w' A n l ∧ Below w.heap.size w w'
theorem Gives0.mk {α : Type} [Inhabited α] {enc : α → List Value} {k n m : Nat} {l : List α} {w w' : World} {A : Option Addr} {c : Nat} (hc : m ≤ c) (hfr : ∀ a, A = some a → w.heap.size ≤ a.block) (h : Arr enc k w' A m l) (hb : Below w.heap.size w w') (hm : m = n) : Gives0 enc k n l w (.returned (.tuple #[.slice A m c, .int .i64 0])) w' := by
  subst hm; exact ⟨A, c, rfl, hc, hfr, h, hb⟩
theorem Arr.none_ {α : Type} [Inhabited α] {enc : α → List Value} {k n : Nat} {l : List α} {w : World} (h : Arr enc k w none n l) : n = 0 := by
  rcases Nat.eq_zero_or_pos n with h0 | h0
  · exact h0
  · obtain ⟨_, _, e, _⟩ := h.2.2 h0
    cases e
theorem Arr.far {α : Type} [Inhabited α] {enc : α → List Value} {k n : Nat} {l : List α} {w : World} {A : Option Addr} (h : Arr enc k w A n l) {p : Addr} (hp : ∀ a, A = some a → p.block ≠ a.block) (v : Value) : Arr enc k (w.setCell p v) A n l :=
  h.keep (by simp [World.setCell]) (fun b hb => by
    cases A with
    | none => cases hb
    | some a =>
      simp at hb
      exact Below.heap_setCell _ _ _ _ (by have := hp a rfl; omega))
theorem cell_new2 (w : World) (u v : Value) (t : TypeId) : ∀ j x, [u, v][j]? = some x → (w.alloc (.cells #[u, v] t)).cell? ((⟨w.heap.size, 0, none⟩ : Addr).add j) = some x := by
  intro j x hj
  rw [add_off, Nat.zero_add, World.cell?_alloc_new]
  simpa using hj
theorem run_make_rowN {P : Program} (t e : TypeId) (i : TypeInfo) (z : Value) (ht : P.underlying t = some (.slice e)) (hi : P.info? e = some i) (hz : i.zero = some z)
    (kl kc : IntKind) (n c : Nat) (hnc : n ≤ c) (hbytes : i.bytes * c ≤ 281474976710656) (h63 : c ≤ 9223372036854775807) (w : World) :
    (Instr.makeSlice t (.int kl (n : Int)) (.int kc (c : Int))).run P w = .ok (.slice (some ⟨w.heap.size, 0, none⟩) n c) (w.alloc (.cells (madeCells z.cells (c * i.size)) e)) := by
  have hb : (i.bytes : Int) * (c : Int) ≤ 281474976710656 := by
    have h : ((i.bytes * c : Nat) : Int) ≤ 281474976710656 := by omega
    rwa [Int.natCast_mul] at h
  have hr := run_make (P := P) w t e i z ht hi hz kl kc n c (by omega) (by omega) hb (by omega)
  simp only [Int.toNat_natCast] at hr
  exact hr
theorem madeCells_one (z : Value) (n : Nat) : madeCells #[z] (n * 1) = (List.replicate n z).toArray := by
  apply Array.ext
  · simp [madeCells]
  · intro i h1 h2
    simp [madeCells, Nat.mod_one]
theorem below_a1 (w : World) (X : Obj) : Below w.heap.size w (w.alloc X) := (Below.refl _ _).alloc (Nat.le_refl _) X
theorem below_a2 (w : World) (X Y : Obj) : Below w.heap.size w ((w.alloc X).alloc Y) := (below_a1 w X).alloc (by simp) Y
theorem below_a3 (w : World) (X Y Z : Obj) : Below w.heap.size w (((w.alloc X).alloc Y).alloc Z) := (below_a2 w X Y).alloc (by simp; omega) Z
theorem below_a4 (w : World) (X Y Z U : Obj) : Below w.heap.size w ((((w.alloc X).alloc Y).alloc Z).alloc U) := (below_a3 w X Y Z).alloc (by simp; omega) U
theorem below_a5 (w : World) (X Y Z U V : Obj) : Below w.heap.size w (((((w.alloc X).alloc Y).alloc Z).alloc U).alloc V) := (below_a4 w X Y Z U).alloc (by simp; omega) V
theorem infoEntry : (Tryz.prog.info? 103).map (fun i => (i.zero, i.size, i.bytes)) = some (some (.agg #[.int .i64 0, .bool false]), 2, 16) := by kernel_rfl
end Go.Proofs.YtbnibokloendlaaGreat
