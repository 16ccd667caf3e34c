/-
  Whether calls may have been made so: the words, and their plain laws.
-/
import Derived.Test.YtbnibokloendlaaGreatDone
namespace Go.Proofs.YtbnibokloendlaaGreat
open Go.RowKit

def opI (l : List OpV) (i : Nat) : OpV := l.getD i default
def okOp (p : Pen.Plan) (o : OpV) : Bool := decide (0 ≤ o.thread) && decide (o.thread < p.threads) && (dn o || wy o)
/-- An earlier call and a later one that may not both have been made. -/
def clash (x o : OpV) : Bool := (dn x && dn o && decide (x.point = o.point)) || (decide (x.thread = o.thread) && (!dn x || decide (o.start ≤ x.stop)))
def okAt (p : Pen.Plan) (l : List OpV) (i : Nat) : Bool := okOp p (opI l i) && (List.range i).all fun k => !clash (opI l k) (opI l i)
def okTo (p : Pen.Plan) (l : List OpV) (n : Nat) : Bool := (List.range n).all (okAt p l)
def chk (p : Pen.Plan) (l : List OpV) : Int := if Pen.planRight p && okTo p l l.length then 0 else 1
theorem okTo_succ {p : Pen.Plan} {l : List OpV} {n : Nat} (h : okTo p l n = true) (h' : okAt p l n = true) : okTo p l (n + 1) = true := by
  unfold okTo at *
  rw [List.range_succ, List.all_append, h]
  simp [h']
theorem okTo_bad {p : Pen.Plan} {l : List OpV} {n m : Nat} (h : okAt p l n = false) (hn : n < m) : okTo p l m = false := by
  unfold okTo
  rw [List.all_eq_false]
  exact ⟨n, by simpa using hn, by simp [h]⟩
theorem okTo_at {p : Pen.Plan} {l : List OpV} {n i : Nat} (h : okTo p l n = true) (hi : i < n) : okAt p l i = true := by
  unfold okTo at h
  rw [List.all_eq_true] at h
  exact h i (by simpa using hi)
def lastOf (l : List OpV) : Nat → Int → Option OpV
  | 0, _ => none
  | k + 1, t => if t = (opI l k).thread then some (opI l k) else lastOf l k t
def ptsOf (l : List OpV) : Nat → Int → Option Value
  | 0, _ => none
  | k + 1, t => if t = (opI l k).point ∧ dn (opI l k) = true then some (.int .i64 1) else ptsOf l k t
def lastM (l : List OpV) (k : Nat) : Int → Option Value := fun t => (lastOf l k t).map opV
theorem lastM_zero (l : List OpV) : lastM l 0 = fun _ => none := rfl
theorem lastM_succ (l : List OpV) (k : Nat) (o : OpV) (ho : o = opI l k) : putM (lastM l k) o.thread (opV o) = lastM l (k + 1) := by
  subst ho
  funext t
  unfold putM lastM
  simp only [lastOf]
  split <;> rfl
theorem ptsOf_zero (l : List OpV) : ptsOf l 0 = fun _ => none := rfl
theorem ptsOf_succ (l : List OpV) (k : Nat) (o : OpV) (ho : o = opI l k) (hd : dn o = true) : putM (ptsOf l k) o.point (.int .i64 1) = ptsOf l (k + 1) := by
  subst ho
  funext t
  simp [putM, ptsOf, hd]
theorem ptsOf_skip (l : List OpV) (k : Nat) (o : OpV) (ho : o = opI l k) (hd : dn o = false) : ptsOf l k = ptsOf l (k + 1) := by
  subst ho
  funext t
  simp [ptsOf, hd]
theorem pts_val {l : List OpV} {t : Int} {v : Value} : ∀ {k : Nat}, ptsOf l k t = some v → v = .int .i64 1 ∧ ∃ j, j < k ∧ dn (opI l j) = true ∧ (opI l j).point = t
  | 0, h => by simp [ptsOf] at h
  | k + 1, h => by
    simp only [ptsOf] at h
    split at h
    · rename_i hc
      injection h with h
      exact ⟨h.symm, k, by omega, hc.2, hc.1.symm⟩
    · obtain ⟨h1, j, h2, h3⟩ := pts_val h
      exact ⟨h1, j, by omega, h3⟩
theorem pts_none {l : List OpV} {t : Int} : ∀ {k : Nat}, ptsOf l k t = none → ∀ j, j < k → dn (opI l j) = true → (opI l j).point ≠ t
  | 0, _, j, hj, _ => by omega
  | k + 1, h, j, hj, hd => by
    simp only [ptsOf] at h
    split at h
    · cases h
    · rename_i hc
      by_cases e : j = k
      · subst e; intro e2; exact hc ⟨e2.symm, hd⟩
      · exact pts_none h j (by omega) hd
theorem last_is {l : List OpV} {t : Int} {x : OpV} : ∀ {k : Nat}, lastOf l k t = some x → ∃ j, j < k ∧ x = opI l j ∧ x.thread = t
  | 0, h => by simp [lastOf] at h
  | k + 1, h => by
    simp only [lastOf] at h
    split at h
    · rename_i hc
      injection h with h
      exact ⟨k, by omega, h.symm, by rw [← h]; exact hc.symm⟩
    · obtain ⟨j, h2, h3⟩ := last_is h
      exact ⟨j, by omega, h3⟩
theorem no_clash {p : Pen.Plan} {l : List OpV} {k : Nat} (h : okTo p l k = true) {i j : Nat} (hi : i < k) (hj : j < i) : clash (opI l j) (opI l i) = false := by
  have := okTo_at h hi
  unfold okAt at this
  rw [Bool.and_eq_true, List.all_eq_true] at this
  simpa using this.2 j (by simpa using hj)
theorem same_thread {x o : OpV} (h : clash x o = false) (ht : x.thread = o.thread) : dn x = true ∧ x.stop < o.start := by
  unfold clash at h
  simp [ht] at h
  exact ⟨h.2.1, by omega⟩
theorem last_all {p : Pen.Plan} {l : List OpV} {t : Int} : ∀ {k : Nat}, okTo p l k = true → ∀ j, j < k → (opI l j).thread = t → ∃ x, lastOf l k t = some x ∧ (opI l j = x ∨ (dn (opI l j) = true ∧ (opI l j).stop < x.start))
  | 0, _, j, hj, _ => by omega
  | k + 1, h, j, hj, ht => by
    simp only [lastOf]
    split
    · rename_i hc
      refine ⟨_, rfl, ?_⟩
      by_cases e : j = k
      · subst e; exact .inl rfl
      · exact .inr (same_thread (no_clash h (Nat.lt_succ_self k) (by omega)) (by rw [ht, hc]))
    · rename_i hc
      have e : j ≠ k := by intro e; subst e; exact hc ht.symm
      have h' : okTo p l k = true := by
        unfold okTo at *
        rw [List.range_succ, List.all_append, Bool.and_eq_true] at h
        exact h.1
      exact last_all h' j (by omega) ht
theorem ok_step {p : Pen.Plan} {l : List OpV} {k : Nat} {o : OpV} (ho : o = opI l k) (h : okTo p l k = true) (h1 : 0 ≤ o.thread) (h2 : o.thread < p.threads) (h3 : dn o = true ∨ wy o = true)
    (h4 : ∀ x, lastOf l k o.thread = some x → dn x = true ∧ x.stop < o.start) (h5 : dn o = true → ptsOf l k o.point = none) : okTo p l (k + 1) = true := by
  subst ho
  refine okTo_succ h ?_
  unfold okAt okOp
  rw [Bool.and_eq_true, List.all_eq_true]
  refine ⟨by simp [h1, h2, h3], fun j hj => ?_⟩
  have hj : j < k := by simpa using hj
  have a1 : ¬ (dn (opI l j) = true ∧ dn (opI l k) = true ∧ (opI l j).point = (opI l k).point) := fun ⟨q1, q2, q3⟩ => pts_none (h5 q2) j hj q1 q3
  have a2 : (opI l j).thread = (opI l k).thread → dn (opI l j) = true ∧ (opI l j).stop < (opI l k).start := by
    intro ht
    obtain ⟨x, hx, hc⟩ := last_all h j hj ht
    obtain ⟨q1, q2⟩ := h4 x hx
    rcases hc with hc | ⟨q3, q4⟩
    · rw [hc]; exact ⟨q1, q2⟩
    · refine ⟨q3, ?_⟩
      unfold dn at q1
      simp at q1
      omega
  unfold clash
  by_cases ht : (opI l j).thread = (opI l k).thread
  · obtain ⟨q1, q2⟩ := a2 ht
    simp only [q1, true_and] at a1
    simp only [ht, q1, decide_true, Bool.true_and, Bool.not_true, Bool.false_or, Bool.not_eq_true', Bool.or_eq_false_iff, Bool.and_eq_false_iff, decide_eq_false_iff_not]
    refine ⟨?_, by omega⟩
    by_cases q3 : dn (opI l k) = true
    · exact .inr fun e => a1 ⟨q3, e⟩
    · exact .inl (by simpa using q3)
  · simp only [ht, decide_false, Bool.false_and, Bool.or_false, Bool.not_eq_true', Bool.and_eq_false_iff, decide_eq_false_iff_not]
    by_cases q1 : dn (opI l j) = true
    · by_cases q2 : dn (opI l k) = true
      · exact .inr fun e => a1 ⟨q1, q2, e⟩
      · exact .inl (.inr (by simpa using q2))
    · exact .inl (.inl (by simpa using q1))
theorem bad_op {p : Pen.Plan} {l : List OpV} {k : Nat} {o : OpV} (ho : o = opI l k) (h : okOp p o = false) : okAt p l k = false := by
  subst ho; unfold okAt; rw [h]; rfl
theorem bad_clash {p : Pen.Plan} {l : List OpV} {k j : Nat} {o : OpV} (ho : o = opI l k) (hj : j < k) (h : clash (opI l j) o = true) : okAt p l k = false := by
  subst ho
  unfold okAt
  rw [Bool.and_eq_false_iff, List.all_eq_false]
  exact .inr ⟨j, by simpa using hj, by simp [h]⟩
theorem bad_last {p : Pen.Plan} {l : List OpV} {k : Nat} {o x : OpV} (ho : o = opI l k) (hx : lastOf l k o.thread = some x) (h : dn x = false ∨ o.start ≤ x.stop) : okAt p l k = false := by
  obtain ⟨j, hj, rfl, ht⟩ := last_is hx
  refine bad_clash ho hj ?_
  unfold clash
  rcases h with h | h <;> simp [ht, h]
theorem bad_pts {p : Pen.Plan} {l : List OpV} {k : Nat} {o : OpV} {v : Value} (ho : o = opI l k) (hd : dn o = true) (hx : ptsOf l k o.point = some v) : okAt p l k = false := by
  obtain ⟨_, j, hj, h1, h2⟩ := pts_val hx
  refine bad_clash ho hj ?_
  unfold clash
  simp [h1, h2, hd]
theorem chk_bad {p : Pen.Plan} {l : List OpV} {k n : Nat} (hl : l.length = n) (hk : k < n) (h : okAt p l k = false) : chk p l = 1 := by
  unfold chk; rw [okTo_bad h (by omega : k < l.length)]; simp
theorem chk_ok {p : Pen.Plan} {l : List OpV} (hp : Pen.planRight p = true) (h : okTo p l l.length = true) : chk p l = 0 := by
  unfold chk; rw [hp, h]; rfl
theorem chk_plan {p : Pen.Plan} {l : List OpV} (hp : Pen.planRight p = false) : chk p l = 1 := by
  unfold chk; rw [hp]; rfl
theorem not_both {o : OpV} (h : wy o = true) : dn o = false := by
  unfold wy at h; unfold dn; simp at *; omega
end Go.Proofs.YtbnibokloendlaaGreat
