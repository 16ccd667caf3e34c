/-
  Plain laws for the merge in place.
-/
import Derived.Test.YtbnibokloendlaaGreatSortB
namespace Go.Proofs.YtbnibokloendlaaGreat
open Go.RowKit

/-- Two rows side by side that may be merged: each in order, the left one's numbers under the right one's. -/
structure Pre (K : Nat → Int) (N a m b : Nat) (A : Nat → Nat) : Prop where
  am : a < m
  mb : m < b
  s1 : ∀ p q, a ≤ p → p < q → q < m → lex K (A p) (A q)
  s2 : ∀ p q, m ≤ p → p < q → q < b → lex K (A p) (A q)
  cr : ∀ p q, a ≤ p → p < m → m ≤ q → q < b → A p < A q
  hN : ∀ p, a ≤ p → p < b → A p < N
/-- A a stands at place k, those between one place to the left. -/
def shl (A : Nat → Nat) (a k : Nat) : Nat → Nat := fun x => if a ≤ x ∧ x < k then A (x + 1) else if x = k then A a else A x
def shr (A : Nat → Nat) (m k : Nat) : Nat → Nat := fun x => if x = k then A m else if k < x ∧ x ≤ m then A (x - 1) else A x
theorem lex_cr {K : Nat → Int} {x y : Nat} (h : x < y) (hn : ¬ cmp3 (K y) (K x) < 0) : lex K x y := lex_of_not hn h
theorem shl_ord {K : Nat → Int} {N a b i : Nat} {A : Nat → Nat} (h : Pre K N a (a + 1) b A) (h1 : a + 1 ≤ i) (h2 : i ≤ b) (hl : i = a + 1 ∨ lex K (A (i - 1)) (A a)) (hr : i = b ∨ lex K (A a) (A i)) : Ord K A a b (shl A a (i - 1)) := by
  have L : ∀ q, a + 1 ≤ q → q < i → lex K (A q) (A a) := by
    intro q g1 g2
    rcases hl with hl | hl
    · omega
    · by_cases e : q = i - 1
      · subst e; exact hl
      · exact (h.s2 q (i - 1) g1 (by omega) (by omega)).trans hl
  have G : ∀ q, i ≤ q → q < b → lex K (A a) (A q) := by
    intro q g1 g2
    rcases hr with hr | hr
    · omega
    · by_cases e : q = i
      · subst e; exact hr
      · exact hr.trans (h.s2 i q (by omega) (by omega) g2)
  refine ⟨fun p q g1 g2 g3 => ?_, fun p g1 g2 => ?_, fun p hp => ?_⟩
  · simp only [shl]
    by_cases p1 : p < i - 1
    · rw [if_pos ⟨g1, p1⟩]
      by_cases q1 : q < i - 1
      · rw [if_pos ⟨by omega, q1⟩]; exact h.s2 _ _ (by omega) (by omega) (by omega)
      · rw [if_neg (by omega)]
        by_cases q2 : q = i - 1
        · rw [if_pos q2]; exact L _ (by omega) (by omega)
        · rw [if_neg q2]; exact h.s2 _ _ (by omega) (by omega) g3
    · rw [if_neg (by omega), if_neg (by omega : ¬ (a ≤ q ∧ q < i - 1)), if_neg (by omega : ¬ q = i - 1)]
      by_cases p2 : p = i - 1
      · rw [if_pos p2]; exact G q (by omega) g3
      · rw [if_neg p2]; exact h.s2 _ _ (by omega) g2 g3
  · simp only [shl]
    by_cases p1 : p < i - 1
    · rw [if_pos ⟨g1, p1⟩]; exact ⟨p + 1, by omega, by omega, rfl⟩
    · rw [if_neg (by omega)]
      by_cases p2 : p = i - 1
      · rw [if_pos p2]; exact ⟨a, by omega, by omega, rfl⟩
      · rw [if_neg p2]; exact ⟨p, g1, g2, rfl⟩
  · simp only [shl]
    rw [if_neg (by omega), if_neg (by omega)]
theorem shr_ord {K : Nat → Int} {N a m i : Nat} {A : Nat → Nat} (h : Pre K N a m (m + 1) A) (h1 : a ≤ i) (h2 : i ≤ m) (hl : i = a ∨ lex K (A (i - 1)) (A m)) (hr : i = m ∨ lex K (A m) (A i)) : Ord K A a (m + 1) (shr A m i) := by
  have L : ∀ q, a ≤ q → q < i → lex K (A q) (A m) := by
    intro q g1 g2
    rcases hl with hl | hl
    · omega
    · by_cases e : q = i - 1
      · subst e; exact hl
      · exact (h.s1 q (i - 1) g1 (by omega) (by omega)).trans hl
  have G : ∀ q, i ≤ q → q < m → lex K (A m) (A q) := by
    intro q g1 g2
    rcases hr with hr | hr
    · omega
    · by_cases e : q = i
      · subst e; exact hr
      · exact hr.trans (h.s1 i q (by omega) (by omega) g2)
  refine ⟨fun p q g1 g2 g3 => ?_, fun p g1 g2 => ?_, fun p hp => ?_⟩
  · simp only [shr]
    by_cases p0 : p = i
    · rw [if_pos p0, if_neg (by omega), if_pos ⟨by omega, by omega⟩]; exact G _ (by omega) (by omega)
    · rw [if_neg p0]
      by_cases q0 : q = i
      · rw [if_pos q0, if_neg (by omega)]; exact L _ g1 (by omega)
      · rw [if_neg q0]
        by_cases p1 : i < p
        · rw [if_pos ⟨p1, by omega⟩, if_pos ⟨by omega, by omega⟩]; exact h.s1 _ _ (by omega) (by omega) (by omega)
        · rw [if_neg (by omega)]
          by_cases q1 : i < q
          · rw [if_pos ⟨q1, by omega⟩]; exact h.s1 _ _ g1 (by omega) (by omega)
          · rw [if_neg (by omega)]; exact h.s1 _ _ g1 g2 (by omega)
  · simp only [shr]
    by_cases p0 : p = i
    · rw [if_pos p0]; exact ⟨m, by omega, by omega, rfl⟩
    · rw [if_neg p0]
      by_cases p1 : i < p
      · rw [if_pos ⟨p1, by omega⟩]; exact ⟨p - 1, by omega, by omega, rfl⟩
      · rw [if_neg (by omega)]; exact ⟨p, g1, g2, rfl⟩
  · simp only [shr]
    rw [if_neg (by omega), if_neg (by omega)]
/-- Where the two rows part: s and e with s + e = mid + m. -/
structure Cutp (K : Nat → Int) (a m b mid s e : Nat) (A : Nat → Nat) : Prop where
  sa : a ≤ s
  sm : s ≤ m
  me : m ≤ e
  eb : e ≤ b
  sum : s + e = mid + m
  l : s = a ∨ e = b ∨ lex K (A (s - 1)) (A e)
  h : s = m ∨ e = m ∨ lex K (A (e - 1)) (A s)
theorem Cutp.cross {K : Nat → Int} {N a m b mid s e : Nat} {A : Nat → Nat} (c : Cutp K a m b mid s e A) (h : Pre K N a m b A) : ∀ x y, a ≤ x → x < mid → mid ≤ y → y < b → lex K (rot A s m e x) (rot A s m e y) := by
  obtain ⟨sa, sm, me, eb, sum, l, hh⟩ := c
  have LR : ∀ x y, a ≤ x → x < s → e ≤ y → y < b → lex K (A x) (A y) := by
    intro x y g1 g2 g3 g4
    rcases l with l | l | l
    · omega
    · omega
    · have h1 : x = s - 1 ∨ lex K (A x) (A (s - 1)) := by
        by_cases e1 : x = s - 1
        · exact .inl e1
        · exact .inr (h.s1 _ _ g1 (by omega) (by omega))
      have h2 : y = e ∨ lex K (A e) (A y) := by
        by_cases e1 : y = e
        · exact .inl e1
        · exact .inr (h.s2 _ _ (by omega) (by omega) g4)
      rcases h1 with rfl | h1 <;> rcases h2 with rfl | h2
      · exact l
      · exact l.trans h2
      · exact h1.trans l
      · exact h1.trans (l.trans h2)
  have RL : ∀ x y, m ≤ x → x < e → s ≤ y → y < m → lex K (A x) (A y) := by
    intro x y g1 g2 g3 g4
    rcases hh with l | l | l
    · omega
    · omega
    · have h1 : x = e - 1 ∨ lex K (A x) (A (e - 1)) := by
        by_cases e1 : x = e - 1
        · exact .inl e1
        · exact .inr (h.s2 _ _ g1 (by omega) (by omega))
      have h2 : y = s ∨ lex K (A s) (A y) := by
        by_cases e1 : y = s
        · exact .inl e1
        · exact .inr (h.s1 _ _ (by omega) (by omega) g4)
      rcases h1 with rfl | h1 <;> rcases h2 with rfl | h2
      · exact l
      · exact l.trans h2
      · exact h1.trans l
      · exact h1.trans (l.trans h2)
  intro x y g1 g2 g3 g4
  simp only [rot]
  by_cases x1 : s ≤ x
  · rw [if_pos ⟨x1, by omega⟩]
    rw [if_neg (by omega)]
    by_cases y1 : y < e
    · rw [if_pos ⟨by omega, y1⟩]; exact RL _ _ (by omega) (by omega) (by omega) (by omega)
    · rw [if_neg (by omega)]; exact h.s2 _ _ (by omega) (by omega) g4
  · rw [if_neg (by omega), if_neg (by omega), if_neg (by omega)]
    by_cases y1 : y < e
    · rw [if_pos ⟨by omega, y1⟩]; exact h.s1 _ _ g1 (by omega) (by omega)
    · rw [if_neg (by omega)]; exact LR _ _ g1 (by omega) (by omega) g4
theorem Cutp.pre1 {K : Nat → Int} {N a m b mid s e : Nat} {A : Nat → Nat} (c : Cutp K a m b mid s e A) (h : Pre K N a m b A) (h1 : a < s) (h2 : s < mid) : Pre K N a s mid (rot A s m e) := by
  obtain ⟨sa, sm, me, eb, sum, l, hh⟩ := c
  refine ⟨h1, h2, fun p q g1 g2 g3 => ?_, fun p q g1 g2 g3 => ?_, fun p q g1 g2 g3 g4 => ?_, fun p g1 g2 => ?_⟩
  all_goals simp only [rot]
  · rw [if_neg (by omega), if_neg (by omega), if_neg (by omega), if_neg (by omega)]; exact h.s1 _ _ g1 g2 (by omega)
  · rw [if_pos ⟨by omega, by omega⟩, if_pos ⟨by omega, by omega⟩]; exact h.s2 _ _ (by omega) (by omega) (by omega)
  · rw [if_neg (by omega), if_neg (by omega), if_pos ⟨by omega, by omega⟩]; exact h.cr _ _ g1 (by omega) (by omega) (by omega)
  · by_cases x1 : s ≤ p
    · rw [if_pos ⟨x1, by omega⟩]; exact h.hN _ (by omega) (by omega)
    · rw [if_neg (by omega), if_neg (by omega)]; exact h.hN _ (by omega) (by omega)
theorem Cutp.pre2 {K : Nat → Int} {N a m b mid s e : Nat} {A : Nat → Nat} (c : Cutp K a m b mid s e A) (h : Pre K N a m b A) (h1 : mid < e) (h2 : e < b) : Pre K N mid e b (rot A s m e) := by
  obtain ⟨sa, sm, me, eb, sum, l, hh⟩ := c
  refine ⟨h1, h2, fun p q g1 g2 g3 => ?_, fun p q g1 g2 g3 => ?_, fun p q g1 g2 g3 g4 => ?_, fun p g1 g2 => ?_⟩
  all_goals simp only [rot]
  · rw [if_neg (by omega), if_pos ⟨by omega, by omega⟩, if_neg (by omega), if_pos ⟨by omega, by omega⟩]; exact h.s1 _ _ (by omega) (by omega) (by omega)
  · rw [if_neg (by omega), if_neg (by omega), if_neg (by omega), if_neg (by omega)]; exact h.s2 _ _ (by omega) (by omega) (by omega)
  · rw [if_neg (by omega), if_pos ⟨by omega, by omega⟩, if_neg (by omega), if_neg (by omega)]; exact h.cr _ _ (by omega) (by omega) (by omega) (by omega)
  · by_cases x1 : p < e
    · rw [if_neg (by omega), if_pos ⟨by omega, by omega⟩]; exact h.hN _ (by omega) (by omega)
    · rw [if_neg (by omega), if_neg (by omega)]; exact h.hN _ (by omega) (by omega)
theorem Cutp.flat1 {K : Nat → Int} {N a m b mid s e : Nat} {A : Nat → Nat} (c : Cutp K a m b mid s e A) (h : Pre K N a m b A) (h1 : ¬ (a < s ∧ s < mid)) : ∀ p q, a ≤ p → p < q → q < mid → lex K (rot A s m e p) (rot A s m e q) := by
  obtain ⟨sa, sm, me, eb, sum, l, hh⟩ := c
  intro p q g1 g2 g3
  simp only [rot]
  by_cases e1 : s = a
  · rw [if_pos ⟨by omega, by omega⟩, if_pos ⟨by omega, by omega⟩]; exact h.s2 _ _ (by omega) (by omega) (by omega)
  · rw [if_neg (by omega), if_neg (by omega), if_neg (by omega), if_neg (by omega)]; exact h.s1 _ _ (by omega) (by omega) (by omega)
theorem Cutp.flat2 {K : Nat → Int} {N a m b mid s e : Nat} {A : Nat → Nat} (c : Cutp K a m b mid s e A) (h : Pre K N a m b A) (h1 : ¬ (mid < e ∧ e < b)) : ∀ p q, mid ≤ p → p < q → q < b → lex K (rot A s m e p) (rot A s m e q) := by
  obtain ⟨sa, sm, me, eb, sum, l, hh⟩ := c
  intro p q g1 g2 g3
  simp only [rot]
  by_cases e1 : e = b
  · rw [if_neg (by omega), if_pos ⟨by omega, by omega⟩, if_neg (by omega), if_pos ⟨by omega, by omega⟩]; exact h.s1 _ _ (by omega) (by omega) (by omega)
  · rw [if_neg (by omega), if_neg (by omega), if_neg (by omega), if_neg (by omega)]; exact h.s2 _ _ (by omega) (by omega) (by omega)
theorem Cutp.all {K : Nat → Int} {N a m b mid s e : Nat} {A C D : Nat → Nat} (c : Cutp K a m b mid s e A) (h : Pre K N a m b A) (am : a ≤ mid) (mb : mid ≤ b) (h1 : Ord K (rot A s m e) a mid C) (h2 : Ord K C mid b D) : Ord K A a b D := by
  have cr := c.cross h
  obtain ⟨sa, sm, me, eb, sum, l, hh⟩ := c
  have im : ∀ x, a ≤ x → x < b → ∃ y, a ≤ y ∧ y < b ∧ rot A s m e x = A y := by
    intro x g1 g2
    simp only [rot]
    by_cases x1 : s ≤ x ∧ x < s + (e - m)
    · rw [if_pos x1]; exact ⟨_, by omega, by omega, rfl⟩
    · rw [if_neg x1]
      by_cases x2 : s + (e - m) ≤ x ∧ x < e
      · rw [if_pos x2]; exact ⟨_, by omega, by omega, rfl⟩
      · rw [if_neg x2]; exact ⟨_, g1, g2, rfl⟩
  have lo : ∀ x, a ≤ x → x < mid → ∃ y, a ≤ y ∧ y < mid ∧ D x = rot A s m e y := by
    intro x g1 g2
    obtain ⟨y, y1, y2, y3⟩ := h1.img x g1 g2
    exact ⟨y, y1, y2, by rw [h2.out x (.inl g2), y3]⟩
  have hi : ∀ x, mid ≤ x → x < b → ∃ y, mid ≤ y ∧ y < b ∧ D x = rot A s m e y := by
    intro x g1 g2
    obtain ⟨y, y1, y2, y3⟩ := h2.img x g1 g2
    exact ⟨y, y1, y2, by rw [y3, h1.out y (.inr y1)]⟩
  refine ⟨fun p q g1 g2 g3 => ?_, fun p g1 g2 => ?_, fun p hp => ?_⟩
  · by_cases q1 : q < mid
    · rw [h2.out p (.inl (by omega)), h2.out q (.inl q1)]; exact h1.s p q g1 g2 q1
    · by_cases p1 : p < mid
      · obtain ⟨x, x1, x2, x3⟩ := lo p g1 p1
        obtain ⟨y, y1, y2, y3⟩ := hi q (by omega) g3
        rw [x3, y3]; exact cr x y x1 x2 y1 y2
      · exact h2.s p q (by omega) g2 g3
  · by_cases p1 : p < mid
    · obtain ⟨x, x1, x2, x3⟩ := lo p g1 p1
      rw [x3]; exact im x x1 (by omega)
    · obtain ⟨x, x1, x2, x3⟩ := hi p (by omega) g2
      rw [x3]; exact im x (by omega) x2
  · rw [h2.out p (by omega), h1.out p (by omega)]
    simp only [rot]
    rw [if_neg (by omega), if_neg (by omega)]
theorem Ord.same {K : Nat → Int} {A : Nat → Nat} {a b : Nat} (h : ∀ p q, a ≤ p → p < q → q < b → lex K (A p) (A q)) : Ord K A a b A := ⟨h, fun p g1 g2 => ⟨p, g1, g2, rfl⟩, fun _ _ => rfl⟩
end Go.Proofs.YtbnibokloendlaaGreat
