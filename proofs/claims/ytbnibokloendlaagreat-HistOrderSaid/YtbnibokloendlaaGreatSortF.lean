/-
  The stable sort, whole, of at most 100 numbers that lie in rising order.
-/
import Derived.Test.YtbnibokloendlaaGreatSortE
namespace Go.Proofs.YtbnibokloendlaaGreat
open Go.RowKit

structure Bk (K : Nat → Int) (A : Nat → Nat) (n s t a : Nat) (C : Nat → Nat) : Prop where
  s1 : ∀ p q, p < q → q < n → q < a → p / t = q / t → lex K (C p) (C q)
  s2 : ∀ p q, p < q → q < n → p / s = q / s → lex K (C p) (C q)
  i1 : ∀ p, p < n → ∃ q, q < n ∧ p / t = q / t ∧ C p = A q
  i2 : ∀ p, p < n → a ≤ p → ∃ q, q < n ∧ p / s = q / s ∧ C p = A q
structure Ik (K : Nat → Int) (A : Nat → Nat) (n a : Nat) (C : Nat → Nat) : Prop where
  s : ∀ p q, p < q → q < n → q < a → p / 20 = q / 20 → lex K (C p) (C q)
  i : ∀ p, p < n → ∃ q, q < n ∧ p / 20 = q / 20 ∧ C p = A q
  o : ∀ p, p < n → a ≤ p → C p = A p
/-- Everything in order. -/
structure Srt (K : Nat → Int) (A : Nat → Nat) (n : Nat) (C : Nat → Nat) : Prop where
  s : ∀ p q, p < q → q < n → lex K (C p) (C q)
  i : ∀ p, p < n → ∃ q, q < n ∧ C p = A q
def Lev (s t : Nat) : Prop := (s = 20 ∧ t = 40) ∨ (s = 40 ∧ t = 80) ∨ (s = 80 ∧ t = 160)
theorem Ik.start (K : Nat → Int) (A : Nat → Nat) (n : Nat) : Ik K A n 0 A := ⟨fun p q _ _ h => by omega, fun p h => ⟨p, h, rfl, rfl⟩, fun _ _ _ => rfl⟩
theorem Ik.step {K : Nat → Int} {A C D : Nat → Nat} {n a b : Nat} (h : Ik K A n a C) (ha : a % 20 = 0) (hb : b = a + 20 ∨ (b = n ∧ n < a + 20)) (hbn : b ≤ n) (hab : a ≤ b) (o : Ord K C a b D) : Ik K A n b D := by
  refine ⟨fun p q h1 h2 h3 h4 => ?_, fun p h1 => ?_, fun p h1 h2 => ?_⟩
  · by_cases e : q < a
    · rw [o.out p (.inl (by omega)), o.out q (.inl e)]; exact h.s p q h1 h2 e h4
    · exact o.s p q (by omega) h1 h3
  · by_cases e : a ≤ p ∧ p < b
    · obtain ⟨q, q1, q2, q3⟩ := o.img p e.1 e.2
      exact ⟨q, by omega, by omega, by rw [q3, h.o q (by omega) q1]⟩
    · rw [o.out p (by omega)]; exact h.i p h1
  · rw [o.out p (.inr h2)]; exact h.o p h1 (by omega)
theorem Ik.bk {K : Nat → Int} {A C : Nat → Nat} {n : Nat} (h : Ik K A n n C) : Bk K A n 20 40 0 C :=
  ⟨fun p q _ _ h3 => by omega, fun p q h1 h2 h3 => h.s p q h1 h2 h2 h3, fun p h1 => by obtain ⟨q, q1, q2, q3⟩ := h.i p h1; exact ⟨q, q1, by omega, q3⟩, fun p h1 _ => h.i p h1⟩
theorem Bk.pre {K : Nat → Int} {A C : Nat → Nat} {N n s t a m b : Nat} (h : Bk K A n s t a C) (l : Lev s t) (ha : a % t = 0) (hm : m = a + s) (hb : b = a + t ∨ (b = n ∧ n ≤ a + t)) (hmb : m < b) (hbn : b ≤ n)
    (hN : ∀ i, i < n → A i < N) (hup : ∀ i j, i < j → j < n → A i < A j) : Pre K N a m b C := by
  have cr : ∀ p q, a ≤ p → p < m → m ≤ q → q < b → C p < C q := by
    intro p q g1 g2 g3 g4
    obtain ⟨x, x1, x2, x3⟩ := h.i2 p (by omega) g1
    obtain ⟨y, y1, y2, y3⟩ := h.i2 q (by omega) (by omega)
    rw [x3, y3]
    rcases l with ⟨rfl, rfl⟩ | ⟨rfl, rfl⟩ | ⟨rfl, rfl⟩ <;> exact hup x y (by omega) y1
  refine ⟨?_, hmb, fun p q g1 g2 g3 => ?_, fun p q g1 g2 g3 => ?_, cr, fun p g1 g2 => ?_⟩
  · rcases l with ⟨rfl, rfl⟩ | ⟨rfl, rfl⟩ | ⟨rfl, rfl⟩ <;> omega
  · refine h.s2 p q g2 (by omega) ?_
    rcases l with ⟨rfl, rfl⟩ | ⟨rfl, rfl⟩ | ⟨rfl, rfl⟩ <;> omega
  · refine h.s2 p q g2 (by omega) ?_
    rcases l with ⟨rfl, rfl⟩ | ⟨rfl, rfl⟩ | ⟨rfl, rfl⟩ <;> omega
  · obtain ⟨x, x1, _, x3⟩ := h.i1 p (by omega)
    rw [x3]; exact hN x x1
theorem Bk.step {K : Nat → Int} {A C D : Nat → Nat} {n s t a b : Nat} (h : Bk K A n s t a C) (l : Lev s t) (ha : a % t = 0) (hb : b = a + t ∨ (b = n ∧ n ≤ a + t)) (hbn : b ≤ n) (o : Ord K C a b D) : Bk K A n s t b D := by
  refine ⟨fun p q h1 h2 h3 h4 => ?_, fun p q h1 h2 h3 => ?_, fun p h1 => ?_, fun p h1 h2 => ?_⟩
  · by_cases e : q < a
    · rw [o.out p (.inl (by omega)), o.out q (.inl e)]; exact h.s1 p q h1 h2 e h4
    · refine o.s p q ?_ h1 h3
      rcases l with ⟨rfl, rfl⟩ | ⟨rfl, rfl⟩ | ⟨rfl, rfl⟩ <;> omega
  · by_cases e : q < a
    · rw [o.out p (.inl (by omega)), o.out q (.inl e)]; exact h.s2 p q h1 h2 h3
    · by_cases e2 : q < b
      · refine o.s p q ?_ h1 e2
        rcases l with ⟨rfl, rfl⟩ | ⟨rfl, rfl⟩ | ⟨rfl, rfl⟩ <;> omega
      · have e3 : b ≤ p := by rcases l with ⟨rfl, rfl⟩ | ⟨rfl, rfl⟩ | ⟨rfl, rfl⟩ <;> omega
        rw [o.out p (.inr e3), o.out q (.inr (by omega))]; exact h.s2 p q h1 h2 h3
  · by_cases e : a ≤ p ∧ p < b
    · obtain ⟨q, q1, q2, q3⟩ := o.img p e.1 e.2
      obtain ⟨x, x1, x2, x3⟩ := h.i1 q (by omega)
      refine ⟨x, x1, ?_, by rw [q3, x3]⟩
      rcases l with ⟨rfl, rfl⟩ | ⟨rfl, rfl⟩ | ⟨rfl, rfl⟩ <;> omega
    · rw [o.out p (by omega)]; exact h.i1 p h1
  · rw [o.out p (.inr h2)]; exact h.i2 p h1 (by omega)
/-- What is left of the last pair, if it has one part alone, is in order already. -/
theorem Bk.rest {K : Nat → Int} {A C : Nat → Nat} {n s t a : Nat} (h : Bk K A n s t a C) (l : Lev s t) (ha : a % t = 0) (hn : n ≤ a + s) : Bk K A n s t n C := by
  refine ⟨fun p q h1 h2 _ h4 => ?_, h.s2, h.i1, fun p h1 h2 => by omega⟩
  by_cases e : q < a
  · exact h.s1 p q h1 h2 e h4
  · refine h.s2 p q h1 h2 ?_
    rcases l with ⟨rfl, rfl⟩ | ⟨rfl, rfl⟩ | ⟨rfl, rfl⟩ <;> omega
theorem Bk.next {K : Nat → Int} {A C : Nat → Nat} {n s t a : Nat} (h : Bk K A n s t a C) (l : Lev s t) (ha : n ≤ a) : Bk K A n t (2 * t) 0 C := by
  refine ⟨fun p q _ _ h3 => by omega, fun p q h1 h2 h3 => h.s1 p q h1 h2 (by omega) h3, fun p h1 => ?_, fun p h1 _ => h.i1 p h1⟩
  obtain ⟨q, q1, q2, q3⟩ := h.i1 p h1
  refine ⟨q, q1, ?_, q3⟩
  rcases l with ⟨rfl, rfl⟩ | ⟨rfl, rfl⟩ | ⟨rfl, rfl⟩ <;> omega
theorem Bk.srt {K : Nat → Int} {A C : Nat → Nat} {n s t a : Nat} (h : Bk K A n s t a C) (hs : n ≤ s) : Srt K A n C :=
  ⟨fun p q h1 h2 => h.s2 p q h1 h2 (by rw [Nat.div_eq_of_lt (by omega), Nat.div_eq_of_lt (by omega)]), fun p h1 => by obtain ⟨q, q1, _, q3⟩ := h.i1 p h1; exact ⟨q, q1, q3⟩⟩
def StabP (K : Nat → Int) (g n : Nat) (A : Nat → Nat) (w : World) (e : Ending) (w' : World) : Prop := ∃ C, e = .returned (.tuple #[]) ∧ Row w' g n C ∧ Upd [g] w w' ∧ Srt K A n C
end Go.Proofs.YtbnibokloendlaaGreat
