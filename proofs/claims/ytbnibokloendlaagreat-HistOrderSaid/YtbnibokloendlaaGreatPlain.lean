/-
  Plain laws about the document's functions on numbers.
-/
import Derived.Test.YtbnibokloendlaaGreatSpec
namespace Pen
theorem ctlRight_bd {a b c d : Int} (h : ctlRight ⟨a, b, c, d⟩ = true) : 0 ≤ a ∧ a ≤ 3 ∧ 0 ≤ b ∧ b ≤ 7 ∧ -1 ≤ c ∧ c ≤ 7 ∧ 0 ≤ d ∧ d ≤ 16777215 := by
  unfold ctlRight at h
  simp only at h
  split at h
  · simp at h; omega
  · split at h
    · simp at h; omega
    · split at h
      · simp at h; omega
      · simp at h
theorem ctlRight_idle (b c d : Int) : ctlRight ⟨1, b, c, d⟩ = true → b = 0 := by
  intro h; unfold ctlRight at h; simp at h; omega
theorem headRight_bd {a b c : Int} {d : Bool} {e f : Int} (h : headRight ⟨a, b, c, d, e, f⟩ = true) : 2 ≤ a ∧ a ≤ 72 ∧ 0 ≤ b ∧ b ≤ 6 ∧ 2 + b ≤ a ∧ 0 ≤ c ∧ c ≤ 7 ∧ 0 ≤ e ∧ e ≤ 7 ∧ 0 ≤ f ∧ f ≤ 16777215 := by
  unfold headRight at h
  simp at h
  omega
/-- P11.2's Create, on the parts alone: the scopes, their extents, the ground, the number and the code -/
def createS (a : Int) (cs : List Ctl) (xs : List Extent) (g : List Bool) (size : Int) : List Ctl × List Extent × List Bool × Int × Int :=
  if size < 1 ∨ 8192 < size then (cs, xs, g, 0, 1)
  else
    match (cs.drop 1).findIdx? fun c => decide (c.state = 0) with
    | none => (cs, xs, g, 0, 13)
    | some i =>
      match carve a g ((size + 7) / 8 * 8) with
      | (none, _) => (cs, xs, g, 0, 14)
      | (some p, g') => (cs.set (i + 1) { cs.getD (i + 1) default with state := 1 }, xs.set (i + 1) ⟨p, (size + 7) / 8 * 8⟩, g', i + 1, 0)
theorem create_eq (m : Mod) (size : Int) :
    m.create size = ({ m with c := (createS (gpos m.p) m.c m.x m.g size).1, x := (createS (gpos m.p) m.c m.x m.g size).2.1, g := (createS (gpos m.p) m.c m.x m.g size).2.2.1 },
      ⟨(createS (gpos m.p) m.c m.x m.g size).2.2.2.2, (createS (gpos m.p) m.c m.x m.g size).2.2.2.1, []⟩) := by
  unfold Mod.create createS
  split
  · rfl
  · cases h : (m.c.drop 1).findIdx? fun c => decide (c.state = 0) with
    | none => simp [code]
    | some i =>
      rcases hc : carve (gpos m.p) m.g ((size + 7) / 8 * 8) with ⟨o, g'⟩
      cases o <;> simp [code, hc]
def noFree (cs : List Ctl) (k : Nat) : Prop := ∀ j, 1 ≤ j → j < k → (cs.getD j default).state ≠ 0
theorem find_free {cs : List Ctl} {k : Nat} (hk : k < cs.length) (h1 : 1 ≤ k) (hno : noFree cs k) (hf : (cs.getD k default).state = 0) : (cs.drop 1).findIdx? (fun c => decide (c.state = 0)) = some (k - 1) := by
  rw [List.findIdx?_eq_some_iff_getElem]
  refine ⟨by simp; omega, ?_, fun j hj => ?_⟩
  · simp only [List.getElem_drop, decide_eq_true_eq]
    have : 1 + (k - 1) = k := by omega
    simp only [this]
    simpa [hk] using hf
  · simp only [List.getElem_drop, decide_eq_true_eq]
    have := hno (1 + j) (by omega) (by omega)
    have hl : 1 + j < cs.length := by omega
    simpa [hl] using this
theorem find_none {cs : List Ctl} (hno : noFree cs cs.length) : (cs.drop 1).findIdx? (fun c => decide (c.state = 0)) = none := by
  rw [List.findIdx?_eq_none_iff]
  intro x hx
  obtain ⟨j, hj, rfl⟩ := List.getElem_of_mem hx
  simp only [List.getElem_drop]
  simp at hj
  have := hno (1 + j) (by omega) (by omega)
  have hl : 1 + j < cs.length := by omega
  simpa [hl] using this
theorem carve_none_same {a : Int} {g g' : List Bool} {sz : Int} (h : carve a g sz = (none, g')) : g' = g := by
  unfold carve at h
  split at h
  · injection h with _ h; exact h.symm
  · split at h
    · injection h with _ h; exact h.symm
    · cases h
/-- P11.2's Destroy, on the parts alone -/
def destroyS (a : Int) (cs : List Ctl) (xs : List Extent) (g : List Bool) (s : Int) : List Ctl × List Extent × List Bool × Int :=
  if s < 1 ∨ (cs.length : Int) ≤ s then (cs, xs, g, 11)
  else if (cs.getD s.toNat default).state = 0 then (cs, xs, g, 11)
  else if (cs.getD s.toNat default).state ≠ 1 then (cs, xs, g, 12)
  else (cs.set s.toNat ⟨0, 0, -1, ((cs.getD s.toNat default).epoch + 1) % 16777216⟩, xs.set s.toNat ⟨0, 0⟩, give a g (xs.getD s.toNat default).pos (xs.getD s.toNat default).size, 0)
theorem destroy_eq (m : Mod) (s : Int) :
    m.destroy s = ({ m with c := (destroyS (gpos m.p) m.c m.x m.g s).1, x := (destroyS (gpos m.p) m.c m.x m.g s).2.1, g := (destroyS (gpos m.p) m.c m.x m.g s).2.2.1 }, (destroyS (gpos m.p) m.c m.x m.g s).2.2.2) := by
  unfold Mod.destroy destroyS Mod.ctl Mod.ext
  split
  · rfl
  · split
    · rfl
    · split <;> rfl
end Pen
