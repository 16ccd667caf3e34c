/-
  The comparison of two places by their Points; the insertion sort.
-/
import Derived.Test.YtbnibokloendlaaGreatSortA
namespace Go.Proofs.YtbnibokloendlaaGreat
open Go.RowKit

def cmp3 (x y : Int) : Int := if x < y then -1 else if y < x then 1 else 0
set_option maxHeartbeats 400000 in
theorem isNaN_any (x : Int) (w : World) : Calls Tryz.prog 75 #[.int .i64 x] w (Q (.bool false) w) := by
  go_enter Tryz.func75, Tryz.ntmps75
  go_wp2
  all_goals
    go_ret
    exact Q.bool (by simp)
set_option maxHeartbeats 400000 in
theorem compare_any (x y : Int) (w : World) : Calls Tryz.prog 32 #[.int .i64 x, .int .i64 y] w (Q (.int .i64 (cmp3 x y)) w) := by
  go_enter Tryz.func32, Tryz.ntmps32
  go_wp2_with (go_at_call 75; refine (isNaN_any _ _).mono ?_; rintro e w' ⟨rfl, rfl⟩)
  all_goals
    go_ret
    refine Q.int ?_
    try simp only [decide_eq_true_eq, decide_eq_false_iff_not, Int.not_lt, Int.not_le, gt_iff_lt] at *
    unfold cmp3
    repeat' split
    all_goals omega
/-- What a comparison by keys gives, for numbers under N, in each world in which but block g has turned. -/
def CmpAt (c : Nat) (lb : Array Value) (g N : Nat) (K : Nat → Int) (w : World) : Prop :=
  ∀ W, Upd [g] w W → ∀ x y : Nat, x < N → y < N → Calls Tryz.prog c (#[.int .i64 x, .int .i64 y] ++ lb) W (Qd (.int .i64 (cmp3 (K x) (K y))) W)
theorem CmpAt.upd {c : Nat} {lb : Array Value} {g N : Nat} {K : Nat → Int} {w w' : World} (h : CmpAt c lb g N K w) (hU : Upd [g] w w') : CmpAt c lb g N K w' :=
  fun W hW => h W (hU.trans hW (by simp))
def lex (K : Nat → Int) (x y : Nat) : Prop := K x < K y ∨ (K x = K y ∧ x < y)
theorem lex.trans {K : Nat → Int} {x y z : Nat} (h : lex K x y) (k : lex K y z) : lex K x z := by
  unfold lex at *; omega
theorem cmp3_neg {K : Nat → Int} {x y : Nat} : cmp3 (K x) (K y) < 0 ↔ K x < K y := by
  unfold cmp3
  split
  · simp [*]
  · split <;> simp [*] <;> omega
theorem lex_of_not {K : Nat → Int} {x y : Nat} (h : ¬ cmp3 (K x) (K y) < 0) (hlt : y < x) : lex K y x := by
  rw [cmp3_neg] at h; unfold lex; omega
theorem lex_of {K : Nat → Int} {x y : Nat} (h : cmp3 (K x) (K y) < 0) : lex K x y := by
  rw [cmp3_neg] at h; exact .inl h
structure Ins (K : Nat → Int) (A : Nat → Nat) (a i : Nat) (C : Nat → Nat) : Prop where
  s : ∀ p q, a ≤ p → p < q → q < i → lex K (C p) (C q)
  img : ∀ p, a ≤ p → p < i → ∃ q, a ≤ q ∧ q < i ∧ C p = A q
  out : ∀ p, p < a ∨ i ≤ p → C p = A p
structure Mov (K : Nat → Int) (A : Nat → Nat) (a i j : Nat) (C : Nat → Nat) : Prop where
  s : ∀ p q, a ≤ p → p < q → q ≤ i → p ≠ j → q ≠ j → lex K (C p) (C q)
  r : ∀ q, j < q → q ≤ i → lex K (C j) (C q)
  img : ∀ p, a ≤ p → p ≤ i → p ≠ j → ∃ q, a ≤ q ∧ q < i ∧ C p = A q
  me : C j = A i
  out : ∀ p, p < a ∨ i < p → C p = A p
theorem Ins.start (K : Nat → Int) (A : Nat → Nat) (a : Nat) : Ins K A a (a + 1) A :=
  ⟨fun p q h1 h2 h3 => by omega, fun p h1 h2 => ⟨p, h1, h2, rfl⟩, fun p _ => rfl⟩
theorem Ins.mov {K : Nat → Int} {A C : Nat → Nat} {a i : Nat} (h : Ins K A a i C) : Mov K A a i i C :=
  ⟨fun p q h1 h2 h3 h4 h5 => h.s p q h1 h2 (by omega), fun q h1 h2 => by omega, fun p h1 h2 h3 => h.img p h1 (by omega), h.out i (.inr (Nat.le_refl _)), fun p hp => h.out p (by omega)⟩
theorem Mov.step {K : Nat → Int} {A C : Nat → Nat} {a i j : Nat} (h : Mov K A a i j C) (h1 : a < j) (h2 : j ≤ i) (hl : lex K (C j) (C (j - 1))) : Mov K A a i (j - 1) (put (put C j (C (j - 1))) (j - 1) (C j)) := by
  refine ⟨fun p q g1 g2 g3 g4 g5 => ?_, fun q g1 g2 => ?_, fun p g1 g2 g3 => ?_, ?_, fun p hp => ?_⟩
  · by_cases e1 : p = j
    · subst e1
      have e2 : q ≠ p := by omega
      simp [put, g4, g5, e2]
      exact h.s (p - 1) q (by omega) (by omega) g3 (by omega) (by omega)
    · by_cases e2 : q = j
      · subst e2
        simp [put, g4, g5, e1]
        exact h.s p (q - 1) g1 (by omega) (by omega) e1 (by omega)
      · simp [put, g4, g5, e1, e2]
        exact h.s p q g1 g2 g3 e1 e2
  · have e0 : q ≠ j - 1 := by omega
    by_cases e1 : q = j
    · subst e1
      have e3 : q ≠ q - 1 := by omega
      simp [put, e3]
      exact hl
    · simp [put, e0, e1]
      exact h.r q (by omega) g2
  · by_cases e1 : p = j
    · subst e1
      simp [put, g3]
      exact h.img (p - 1) (by omega) (by omega) (by omega)
    · simp [put, g3, e1]
      exact h.img p g1 g2 e1
  · simp [put, h.me]
  · have e0 : p ≠ j - 1 := by omega
    have e1 : p ≠ j := by omega
    simp [put, e0, e1]
    exact h.out p hp
theorem Mov.end_ {K : Nat → Int} {A C : Nat → Nat} {a i j : Nat} (h : Mov K A a i j C) (h1 : a ≤ j) (h2 : j ≤ i) (hl : j = a ∨ lex K (C (j - 1)) (C j)) : Ins K A a (i + 1) C := by
  refine ⟨fun p q g1 g2 g3 => ?_, fun p g1 g2 => ?_, fun p hp => h.out p (by omega)⟩
  · by_cases e1 : p = j
    · subst e1; exact h.r q g2 (by omega)
    · by_cases e2 : q = j
      · subst e2
        rcases hl with hl | hl
        · omega
        · by_cases e3 : p = q - 1
          · subst e3; exact hl
          · exact (h.s p (q - 1) g1 (by omega) (by omega) e1 (by omega)).trans hl
      · exact h.s p q g1 g2 (by omega) e1 e2
  · by_cases e1 : p = j
    · subst e1; exact ⟨i, by omega, by omega, h.me⟩
    · obtain ⟨q, a1, a2, a3⟩ := h.img p g1 (by omega) e1
      exact ⟨q, a1, by omega, a3⟩
/-- Behind a call that puts the numbers a .. b in order: the others are as they were. -/
structure Ord (K : Nat → Int) (A : Nat → Nat) (a b : Nat) (C : Nat → Nat) : Prop where
  s : ∀ p q, a ≤ p → p < q → q < b → lex K (C p) (C q)
  img : ∀ p, a ≤ p → p < b → ∃ q, a ≤ q ∧ q < b ∧ C p = A q
  out : ∀ p, p < a ∨ b ≤ p → C p = A p
def SortP (K : Nat → Int) (g n a b : Nat) (A : Nat → Nat) (w : World) (e : Ending) (w' : World) : Prop := ∃ C, e = .returned (.tuple #[]) ∧ Row w' g n C ∧ Upd [g] w w' ∧ Ord K A a b C
set_option maxHeartbeats 2000000 in
theorem insertion_any (g n cap a b N : Nat) (lb : Array Value) (K : Nat → Int) (A : Nat → Nat) (w : World) (hR : Row w g n A) (hC : CmpAt 31 lb g N K w) (h2 : a ≤ b) (h3 : b ≤ n) (hn : n ≤ 100) (hN : ∀ i, a ≤ i → i < b → A i < N)
    (hup : ∀ i j, a ≤ i → i < j → j < b → A i < A j) :
    Calls Tryz.prog 131 #[.slice (some ⟨g, 0, none⟩) n cap, .int .i64 a, .int .i64 b, .func (.func 31) #[] lb] w (SortP K g n a b A w) := by
  go_enter Tryz.func131, Tryz.ntmps131
  go_wp2
  go_loopw [8] (fun i wr => ∃ (k : Nat) (C : Nat → Nat), a < k ∧ (k ≤ b ∨ k = a + 1) ∧ i = .int .i64 k ∧ Row wr g n C ∧ Upd [g] w wr ∧ Ins K A a k C) (fun i _ => b - (intOf i).toNat)
  case atStart => exact ⟨a + 1, A, by omega, .inr rfl, by go_num, hR, Upd.refl _ _, Ins.start K A a⟩
  case round =>
    obtain ⟨k, C, ha, hb, rfl, hW, hU, hI⟩ := hrel
    by_cases hlt : k < b
    · replace hW := hide hW; replace hU := hide hU; replace hI := hide hI
      go_wp2
      go_loopw [9] (fun i wr => ∃ (j : Nat) (D : Nat → Nat), a ≤ j ∧ j ≤ k ∧ i = .int .i64 j ∧ Row wr g n D ∧ Upd [g] w wr ∧ Mov K A a k j D) (fun i _ => (intOf i).toNat)
      case atStart => exact ⟨k, C, by omega, by omega, rfl, unhide hW, unhide hU, (unhide hI).mov⟩
      case round =>
        obtain ⟨j, D, ha1, hj, rfl, hW1, hU1, hM⟩ := hrel
        by_cases hja : a < j
        · obtain ⟨jp, rfl⟩ : ∃ jp, j = jp + 1 := ⟨j - 1, by omega⟩
          have c1 := hW1.2.1 (jp + 1) (by omega)
          have c2 := hW1.2.1 jp (by omega)
          have fr := hW1.2.2
          have hD1 : D (jp + 1) < N := by rw [hM.me]; exact hN k (by omega) hlt
          have hD2 : D jp < N := by
            obtain ⟨q, q1, q2, q3⟩ := hM.img jp (by omega) (by omega) (by omega)
            rw [q3]; exact hN q q1 (by omega)
          have hDlt : Hid (D jp < D (jp + 1)) := by
            obtain ⟨q, q1, q2, q3⟩ := hM.img jp (by omega) (by omega) (by omega)
            show D jp < D (jp + 1)
            rw [q3, hM.me]; exact hup q k q1 q2 hlt
          have hc : ∀ m, Calls Tryz.prog 31 (#[.int .i64 (D (jp + 1)), .int .i64 (D jp)] ++ lb) (wr.drewN m) (fun e w' => e = .returned (.int .i64 (cmp3 (K (D (jp + 1))) (K (D jp)))) ∧ ∃ q, w' = (wr.drewN m).drewN q) :=
            fun m => (hC _ (hU1.drewN m) (D (jp + 1)) (D jp) hD1 hD2).mono (fun e w' ⟨q, h1, h2⟩ => ⟨h1, q, h2⟩)
          replace hW1 := hide hW1; replace hU1 := hide hU1; replace hM := hide hM
          have jz : (jp : Int) + 1 < (n : Int) := by omega
          have hjaz : (a : Int) < (jp : Int) + 1 := by omega
          by_cases hlv : cmp3 (K (D (jp + 1))) (K (D jp)) < 0
          · go_wp2
            go_quiet (first | (go_at_call 31; refine Calls.quiet_of (hc _)))
            go_wp2
            have c1' : (wr.drewN nq).cell? ⟨g, jp + 1, none⟩ = some (.int .i64 (D (jp + 1))) := c1
            have c2' : (wr.drewN nq).cell? ⟨g, jp, none⟩ = some (.int .i64 (D jp)) := c2
            have fr' : ∀ o, (wr.drewN nq).frozen? ⟨g, o, none⟩ = false := fr
            have hW2 : Hid (Row (wr.drewN nq) g n D) := (unhide hW1).drewN nq
            have hU2 : Hid (Upd [g] w (wr.drewN nq)) := (unhide hU1).drewN nq
            clear c1 c2 fr hc hW1 hU1
            generalize wr.drewN nq = wq at *
            go_region
            go_wp2
            go_roundw
            case rel => exact ⟨jp, _, by omega, by omega, by go_num, (((unhide hW2).set (jp + 1) (D jp) (by omega)).set jp (D (jp + 1)) (by omega)).drewN 1, (((unhide hU2).setCell (.inl (by simp)) _).setCell (.inl (by simp)) _).drew, (unhide hM).step (by omega) (by omega) (lex_of hlv)⟩
            case measure => simp [intOf] <;> omega
          · go_wp2
            go_quiet (first | (go_at_call 31; refine Calls.quiet_of (hc _)))
            go_wp2
            go_roundw
            case rel => exact ⟨k + 1, D, by omega, by omega, by go_num, (unhide hW1).drewN nq, (unhide hU1).drewN nq, (unhide hM).end_ (by omega) (by omega) (.inr (lex_of_not (Int.not_lt.2 hlv) (unhide hDlt)))⟩
            case measure => simp [intOf] <;> omega
        · have e : j = a := by omega
          subst e
          have fr := hW1.2.2
          replace hW1 := hide hW1; replace hU1 := hide hU1; replace hM := hide hM
          go_wp2
          go_quiet (fail)
          go_wp2
          go_roundw
          case rel => exact ⟨k + 1, D, by omega, by omega, by go_num, (unhide hW1).drewN nq, (unhide hU1).drewN nq, (unhide hM).end_ (by omega) (by omega) (.inl rfl)⟩
          case measure => simp [intOf] <;> omega
    · go_wp2
      go_end0
      have hb' : Ord K A a b C := by
        rcases hb with hb | hb
        · have e : k = b := by omega
          subst e
          exact ⟨hI.s, hI.img, hI.out⟩
        · subst hb
          exact ⟨fun p q h1 h2 h3 => by omega, fun p h1 h2 => ⟨p, h1, h2, by have := hI.img p h1 (by omega); obtain ⟨q, q1, q2, q3⟩ := this; rw [q3]; congr 1; omega⟩, fun p hp => by
            by_cases e : p = a
            · subst e; obtain ⟨q, q1, q2, q3⟩ := hI.img p (by omega) (by omega); rw [q3]; congr 1; omega
            · exact hI.out p (by omega)⟩
      exact ⟨C, rfl, hW, hU, hb'⟩
end Go.Proofs.YtbnibokloendlaaGreat
