/-
  Slices that read as lists of things, k cells each.
-/
import Derived.Test.YtbnibokloendlaaGreatRead
import Derived.Test.YtbnibokloendlaaGreatPlain
namespace Go.Proofs.YtbnibokloendlaaGreat
open Go.RowKit

theorem add_off (b off k : Nat) : (⟨b, off, none⟩ : Addr).add k = ⟨b, off + k, none⟩ := by unfold Addr.add; split <;> simp_all
theorem flat_len {α : Type} (enc : α → List Value) (k : Nat) (hk : ∀ x, (enc x).length = k) (l : List α) : (l.flatMap enc).length = l.length * k := by
  induction l with
  | nil => simp
  | cons x l ih => simp [ih, hk, Nat.succ_mul, Nat.add_comm]
section
variable {α : Type} [Inhabited α]
/-- The slice value '.slice A n c' reads as the list l, of each thing its cells, k of them. -/
def Arr (enc : α → List Value) (k : Nat) (w : World) (A : Option Addr) (n : Nat) (l : List α) : Prop :=
  l.length = n ∧ n ≤ 1000000 ∧ (0 < n → ∃ b off, A = some ⟨b, off, none⟩ ∧ b < w.heap.size ∧
    ∀ i, i < n → ∀ j u, (enc (l.getD i default))[j]? = some u → w.cell? ⟨b, off + i * k + j, none⟩ = some u)
variable {enc : α → List Value} {k : Nat} {w w' : World} {A : Option Addr} {n : Nat} {l : List α}
theorem Arr.nil_ (enc : α → List Value) (k : Nat) (w : World) (A : Option Addr) : Arr enc k w A 0 [] := ⟨rfl, by omega, fun h => absurd h (by omega)⟩
theorem Arr.keep (h : Arr enc k w A n l) (hs : w.heap.size ≤ w'.heap.size) (hk : ∀ b, A.map (·.block) = some b → w'.heap[b]? = w.heap[b]?) : Arr enc k w' A n l := by
  refine ⟨h.1, h.2.1, fun hn => ?_⟩
  obtain ⟨b, off, e, hlt, hc⟩ := h.2.2 hn
  subst e
  exact ⟨b, off, rfl, by omega, fun i hi j u hu => (World.cell?_of_block (a := ⟨b, off + i * k + j, none⟩) (hk b rfl)).trans (hc i hi j u hu)⟩
theorem Arr.below (h : Arr enc k w A n l) (hb : Below w.heap.size w w') : Arr enc k w' A n l := by
  refine ⟨h.1, h.2.1, fun hn => ?_⟩
  obtain ⟨b, off, e, hlt, hc⟩ := h.2.2 hn
  have hs := hb.size
  exact ⟨b, off, e, by omega, fun i hi j u hu => (hb.cell (p := ⟨b, off + i * k + j, none⟩) hlt).trans (hc i hi j u hu)⟩
theorem Arr.drewN (h : Arr enc k w A n l) (m : Nat) : Arr enc k (w.drewN m) A n l := h
theorem Arr.alloc (h : Arr enc k w A n l) (o : Obj) : Arr enc k (w.alloc o) A n l := h.below ((Below.refl _ _).alloc (Nat.le_refl _) o)
theorem Arr.at_ (h : Arr enc k w A n l) (hn : 0 < n) : ∃ b off, A = some ⟨b, off, none⟩ ∧ b < w.heap.size ∧ ∀ i, i < n → ∀ j u, (enc (l.getD i default))[j]? = some u → w.cell? ⟨b, off + i * k + j, none⟩ = some u := h.2.2 hn
theorem flat_get (enc : α → List Value) (k : Nat) (hk : ∀ x, (enc x).length = k) : ∀ (l : List α) (i j : Nat), i < l.length → j < k → (l.flatMap enc)[i * k + j]? = (enc (l.getD i default))[j]?
  | [], i, j, h, _ => by simp at h
  | x :: l, 0, j, _, hj => by simp [List.getElem?_append_left, hk, hj]
  | x :: l, i + 1, j, h, hj => by
    have ih := flat_get enc k hk l i j (by simpa using h) hj
    simp only [List.flatMap_cons]
    rw [List.getElem?_append_right (by rw [hk, Nat.succ_mul]; omega), hk]
    have e : (i + 1) * k + j - k = i * k + j := by rw [Nat.succ_mul]; omega
    rw [e, ih]; simp
theorem Arr.reads (h : Arr enc k w A n l) (hk : ∀ x, (enc x).length = k) : Reads w w.heap.size k A n (l.flatMap enc) := by
  refine ⟨by rw [flat_len enc k hk, h.1], fun hn => ?_⟩
  obtain ⟨b, off, e, hlt, hc⟩ := h.2.2 hn
  refine ⟨_, e, hlt, fun j u hu => ?_⟩
  have hjl : j < (l.flatMap enc).length := (List.getElem?_eq_some_iff.1 hu).1
  rw [flat_len enc k hk, h.1] at hjl
  have hk0 : 0 < k := by
    rcases Nat.eq_zero_or_pos k with h0 | h0
    · subst h0; simp at hjl
    · exact h0
  have hi : j / k < n := Nat.div_lt_of_lt_mul (by rw [Nat.mul_comm]; exact hjl)
  have hj : j % k < k := Nat.mod_lt _ hk0
  have e2 : j / k * k + j % k = j := by rw [Nat.mul_comm]; exact Nat.div_add_mod j k
  have hu' : (enc (l.getD (j / k) default))[j % k]? = some u := by
    rw [← flat_get enc k hk l (j / k) (j % k) (by rw [h.1]; exact hi) hj, e2]; exact hu
  have := hc (j / k) hi (j % k) u hu'
  rw [Nat.add_assoc, e2] at this
  rw [add_off]; exact this
theorem Arr.of_reads {B : Nat} (h : Reads w B k A n (l.flatMap enc)) (hk : ∀ x, (enc x).length = k) (hk0 : 0 < k) (hl : l.length = n) (hn : n ≤ 1000000) (hB : B ≤ w.heap.size) : Arr enc k w A n l := by
  refine ⟨hl, hn, fun hpos => ?_⟩
  obtain ⟨ad, e, hlt, hc⟩ := h.2 hpos
  have hsp : ad.spot = none := by
    have h0 : 0 < (l.flatMap enc).length := by rw [flat_len enc k hk, hl]; exact Nat.mul_pos hpos hk0
    have hx := hc 0 _ (List.getElem?_eq_getElem h0)
    rcases hs : ad.spot with _ | s
    · rfl
    · exfalso
      have e0 : ad.add 0 = ad := by simp [Addr.add]
      rw [e0] at hx
      simp only [World.cell?, hs] at hx
      split at hx <;> simp at hx
  obtain ⟨b, off, sp⟩ := ad
  simp only at hsp
  subst hsp
  refine ⟨b, off, e, by have : b < B := hlt; omega, fun i hi j u hu => ?_⟩
  have hj : j < k := by rw [← hk (l.getD i default)]; exact (List.getElem?_eq_some_iff.1 hu).1
  have hf := flat_get enc k hk l i j (by omega) hj
  have := hc (i * k + j) u (hf.trans hu)
  rw [add_off, ← Nat.add_assoc] at this; exact this
end
/-- whether an entry is a scope's, counted -/
def hit (e : Pen.Entry) (s : Int) : Bool := e.counted && decide (e.scope = s)
theorem hit_yes {e : Pen.Entry} {s : Int} (h1 : e.counted = true) (h2 : (e.scope == s) = true) : hit e s = true := by simp [hit, h1]; simpa using h2
theorem hit_no {e : Pen.Entry} {s : Int} (h2 : (e.scope == s) = false) : hit e s = false := by simp [hit]; intro _; simpa using h2
theorem hit_not {e : Pen.Entry} {s : Int} (h1 : ¬ e.counted = true) : hit e s = false := by simp [hit, h1]
theorem any_step (l : List Pen.Entry) (s : Int) (k : Nat) (hk : k < l.length) (h : (l.take k).any (hit · s) = false) (h' : hit l[k] s = false) : (l.take (k + 1)).any (hit · s) = false := by
  rw [List.take_succ_eq_append_getElem hk, List.any_append, h]
  simp [h']
theorem reach_eq (l : List Pen.Entry) (s : Int) : Pen.reach l s = (l.any (hit · s) || decide (s = 0)) := rfl
theorem any_of_hit {l : List Pen.Entry} {s : Int} {k : Nat} (hk : k < l.length) (h : hit l[k] s = true) : l.any (hit · s) = true := by
  rw [List.any_eq_true]
  exact ⟨l[k], List.getElem_mem hk, h⟩

def entE (e : Pen.Entry) : List Value := [.int .i64 e.scope, .bool e.counted]
abbrev Ents (w : World) (A : Option Addr) (n : Nat) (l : List Pen.Entry) : Prop := Arr entE 2 w A n l
theorem entE_len (e : Pen.Entry) : (entE e).length = 2 := rfl
theorem area_nil : Pen.area [] = 0 := rfl
theorem area_at {l : List Pen.Entry} {n : Nat} (hl : l.length = n) (h : 0 < n) : Pen.area l = (l.getD (n - 1) default).scope := by
  unfold Pen.area
  rw [List.getLast?_eq_getElem?, hl, List.getD_eq_getElem?_getD]
  have : n - 1 < l.length := by omega
  simp [this]
theorem entered_hit {l : List Pen.Entry} {s : Int} {k : Nat} (hk : k < l.length) (hno : (l.take k).any (hit · s) = false) (h : hit l[k] s = true) : Pen.entered l s = some k := by
  unfold Pen.entered
  rw [List.findIdx?_eq_some_iff_getElem]
  refine ⟨hk, h, fun j hj => ?_⟩
  rw [List.any_eq_false] at hno
  have := hno (l[j]'(by omega)) (by rw [List.mem_take_iff_getElem]; exact ⟨j, by omega, rfl⟩)
  exact this
theorem entered_none {l : List Pen.Entry} {s : Int} (hno : l.any (hit · s) = false) : Pen.entered l s = none := by
  unfold Pen.entered
  rw [List.findIdx?_eq_none_iff]
  rw [List.any_eq_false] at hno
  intro x hx
  simpa [hit] using hno x hx
theorem parent_hit {l : List Pen.Entry} {s : Int} {k : Nat} (hk : k < l.length) (hno : (l.take k).any (hit · s) = false) (h : hit l[k] s = true) : Pen.parent l s = Pen.area (l.take k) := by
  unfold Pen.parent; rw [entered_hit hk hno h]
theorem parent_none {l : List Pen.Entry} {s : Int} (hno : l.any (hit · s) = false) : Pen.parent l s = -1 := by
  unfold Pen.parent; rw [entered_none hno]
theorem Arr.take {α : Type} [Inhabited α] {enc : α → List Value} {k : Nat} {w : World} {A : Option Addr} {n m : Nat} {l : List α} (h : Arr enc k w A n l) (hm : m ≤ n) : Arr enc k w A m (l.take m) := by
  refine ⟨by rw [List.length_take, h.1]; omega, by have := h.2.1; omega, fun hpos => ?_⟩
  obtain ⟨b, off, e, hlt, hc⟩ := h.2.2 (by omega)
  refine ⟨b, off, e, hlt, fun i hi j u hu => hc i (by omega) j u ?_⟩
  have hl := h.1
  rw [List.getD_eq_getElem?_getD, List.getElem?_take_of_lt hi] at hu
  rw [List.getD_eq_getElem?_getD]; exact hu
end Go.Proofs.YtbnibokloendlaaGreat
