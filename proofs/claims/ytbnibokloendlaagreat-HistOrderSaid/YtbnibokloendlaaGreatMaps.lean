/-
  Maps whose keys are integers, that the call itself makes: what they have at each key.
-/
import Derived.Test.YtbnibokloendlaaGreatHeap
import Derived.Maps.OwnSet
namespace Go.Proofs.YtbnibokloendlaaGreat
open Go.RowKit

/-- Block b is a map with keys of the kind q that has M. -/
def MapI (w : World) (b : Nat) (q : IntKind) (M : Int → Option Value) : Prop :=
  ∃ es clock, w.heap[b]? = some (.map es clock) ∧ (∀ x ∈ es.toList, ∃ a, x.key = .int q a) ∧ es.toList.Pairwise (fun x y => x.key ≠ y.key) ∧ ∀ a v, M a = some v ↔ ∃ x ∈ es.toList, x.key = .int q a ∧ x.val = v
section
variable {w w' : World} {b : Nat} {q : IntKind} {M : Int → Option Value}
theorem MapI.keep (h : MapI w b q M) (hk : w'.heap[b]? = w.heap[b]?) : MapI w' b q M := by
  obtain ⟨es, c, h1, h2⟩ := h
  exact ⟨es, c, by rw [hk]; exact h1, h2⟩
theorem MapI.lt (h : MapI w b q M) : b < w.heap.size := by
  obtain ⟨es, c, h1, _⟩ := h
  exact (Array.getElem?_eq_some_iff.1 h1).1
theorem MapI.alloc (h : MapI w b q M) (o : Obj) : MapI (w.alloc o) b q M := h.keep (Below.heap_alloc w o b h.lt)
theorem MapI.drewN (h : MapI w b q M) (n : Nat) : MapI (w.drewN n) b q M := h
theorem MapI.below (h : MapI w b q M) (hb : Below w.heap.size w w') : MapI w' b q M := h.keep (hb.block b h.lt)
theorem MapI.upd {L : List Nat} (h : MapI w b q M) (hu : Upd L w w') (hb : b ∉ L) : MapI w' b q M := h.keep (hu.block b h.lt hb)
theorem MapI.far (h : MapI w b q M) {p : Addr} (hp : p.block ≠ b) (v : Value) : MapI (w.setCell p v) b q M := h.keep (Below.heap_setCell _ _ _ _ (fun e => hp e.symm))
theorem MapI.made (w : World) (q : IntKind) (g : Nat) (hg : g = w.heap.size) : MapI (w.alloc (.map #[] 0)) g q (fun _ => none) := by
  subst hg
  exact ⟨#[], 0, heap_alloc_new w _, by simp, by simp, by simp⟩
theorem int_inj {q : IntKind} {a c : Int} (h : Value.int q a = Value.int q c) : a = c := by injection h
theorem MapI.run_look {P : Program} {t k e : TypeId} (h : MapI w b q M) (ht : P.underlying t = some (.map k e)) (hk : P.underlying k = some (.int q)) {z : Value} (hz : (zeroValue e).run P w = .ok z w) (a : Int) (c : Bool) :
    (Instr.lookup t (.map (some b)) (.int q a) c).run P w = .ok (if c then .tuple #[(M a).getD z, .bool (M a).isSome] else (M a).getD z) w := by
  obtain ⟨es, clock, hb, hkeys, hd, hM⟩ := h
  have hik : MapKept.IsKey (.int q) (.int q a) := rfl
  have hks : ∀ x ∈ es.toList, MapKept.IsKey (.int q) x.key := fun x hx => by obtain ⟨a', e'⟩ := hkeys x hx; rw [e']; rfl
  rcases MapKept.findNow_spec hik es.toList 0 hks with ⟨h1, h2⟩ | ⟨j, e0, h1, h2, h3⟩
  · have hn : M a = none := by
      cases hc : M a with
      | none => rfl
      | some v => obtain ⟨x, hx, h3, _⟩ := (hM a v).1 hc; exact absurd h3 (h2 x hx)
    cases c <;> simp [Instr.lookup, run_underlying ht, MapKept.run_getObj_map hb, MapKept.run_checkKey hk hik, MapKept.run_findKey hk h1, hz, Result.andThen, hn]
  · have hs : M a = some e0.val := (hM a e0.val).2 ⟨e0, List.mem_of_getElem? h2, h3, rfl⟩
    cases c <;> simp [Instr.lookup, run_underlying ht, MapKept.run_getObj_map hb, MapKept.run_checkKey hk hik, MapKept.run_findKey hk h1, Result.andThen, hs]
/-- A map but for what it has at one key. -/
def putM (M : Int → Option Value) (a : Int) (v : Value) : Int → Option Value := fun c => if c = a then some v else M c
theorem MapI.run_put {P : Program} {t k e : TypeId} (h : MapI w b q M) (ht : P.underlying t = some (.map k e)) (hk : P.underlying k = some (.int q)) (a : Int) (v : Value) :
    ∃ w', (Instr.mapUpdate t (.map (some b)) (.int q a) v).run P w = .ok () w' ∧ MapI w' b q (putM M a v) ∧ Upd [b] w w' := by
  obtain ⟨es, clock, hb, hkeys, hd, hM⟩ := h
  have hik : MapKept.IsKey (.int q) (.int q a) := rfl
  have hks : ∀ x ∈ es.toList, MapKept.IsKey (.int q) x.key := fun x hx => by obtain ⟨a', e'⟩ := hkeys x hx; rw [e']; rfl
  have hu : ∀ o, Upd [b] w { w with heap := w.heap.setIfInBounds b o } := fun o => ⟨rfl, rfl, rfl, by simp, fun i hi hm => (MapKept.heap_set (o' := o) hb).2 i (by simpa using hm)⟩
  rcases MapKept.findNow_spec hik es.toList 0 hks with ⟨h1, h2⟩ | ⟨j, e0, h1, h2, h3⟩
  · refine ⟨_, by simp [Instr.mapUpdate, run_underlying ht, MapKept.run_getObj_map hb, MapKept.run_checkKey hk hik, MapKept.run_findKey hk h1, MapKept.run_setObj_map _ hb, Result.andThen]; rfl, ⟨_, _, (MapKept.heap_set hb).1, ?_, ?_, ?_⟩, hu _⟩
    · intro x hx
      simp only [Array.toList_push, List.mem_append, List.mem_singleton] at hx
      rcases hx with hx | rfl
      · exact hkeys x hx
      · exact ⟨a, rfl⟩
    · rw [Array.toList_push, List.pairwise_append]
      exact ⟨hd, by simp, fun x hx y hy => by simp at hy; subst hy; exact h2 x hx⟩
    · intro c u
      simp only [Array.toList_push, List.mem_append, List.mem_singleton, putM]
      by_cases hc : c = a
      · subst hc
        rw [if_pos rfl]
        constructor
        · intro e; injection e with e; subst e; exact ⟨_, .inr rfl, rfl, rfl⟩
        · rintro ⟨x, hx | rfl, h4, h5⟩
          · exact absurd h4 (h2 x hx)
          · rw [← h5]
      · rw [if_neg hc, hM c u]
        constructor
        · rintro ⟨x, hx, h4⟩; exact ⟨x, .inl hx, h4⟩
        · rintro ⟨x, hx | rfl, h4, h5⟩
          · exact ⟨x, hx, h4, h5⟩
          · exact absurd (int_inj h4).symm hc
  · have hj : es[j]? = some e0 := by simpa using h2
    refine ⟨_, by simp [Instr.mapUpdate, run_underlying ht, MapKept.run_getObj_map hb, MapKept.run_checkKey hk hik, MapKept.run_findKey hk h1, hj, h3, MapKept.run_keyThatStays hik, MapKept.run_setObj_map _ hb, Result.andThen]; rfl, ⟨_, _, (MapKept.heap_set hb).1, ?_, ?_, ?_⟩, hu _⟩
    all_goals
      have hml : (es.modify j fun e => { e with key := .int q a, val := v }).toList = es.toList.modify j (fun e => { e with key := .int q a, val := v }) := by simp
      try rw [hml]
    · intro x hx
      obtain ⟨i, hi, rfl⟩ := List.getElem_of_mem hx
      rw [List.getElem_modify]
      split
      · exact ⟨a, rfl⟩
      · exact hkeys _ (List.getElem_mem _)
    · have hmap : (es.toList.modify j (fun e => { e with key := .int q a, val := v })).map (·.key) = es.toList.map (·.key) := by
        apply List.ext_getElem? 
        intro i
        simp only [List.getElem?_map, List.getElem?_modify]
        by_cases hij : j = i
        · subst hij
          rw [h2]; simp [h3]
        · simp [hij]
      have hp := List.pairwise_map.2 hd
      rw [← hmap] at hp
      exact List.pairwise_map.1 hp
    · intro c u
      simp only [putM]
      have hpi := List.pairwise_iff_getElem.1 hd
      by_cases hc : c = a
      · subst hc
        rw [if_pos rfl]
        constructor
        · intro e
          injection e with e
          subst e
          have hjl : j < es.toList.length := (List.getElem?_eq_some_iff.1 h2).1
          refine ⟨{ e0 with key := .int q c, val := v }, ?_, rfl, rfl⟩
          refine List.mem_of_getElem? (i := j) ?_
          rw [List.getElem?_modify]
          simp [h2]
        · rintro ⟨x, hx, h4, h5⟩
          obtain ⟨i, hi, rfl⟩ := List.getElem_of_mem hx
          rw [List.getElem_modify] at h4 h5
          split at h4
          · rename_i hij
            rw [if_pos hij] at h5
            rw [← h5]
          · rename_i hij
            exfalso
            simp only [List.length_modify] at hi
            obtain ⟨hjl, hje⟩ := List.getElem?_eq_some_iff.1 h2
            rcases Nat.lt_or_ge i j with hlt | hge
            · exact hpi i j hi hjl hlt (by rw [h4, hje, h3])
            · exact hpi j i hjl hi (by omega) (by rw [h4, hje, h3])
      · rw [if_neg hc, hM c u]
        constructor
        · rintro ⟨x, hx, h4, h5⟩
          obtain ⟨i, hi, rfl⟩ := List.getElem_of_mem hx
          refine ⟨es.toList[i], ?_, h4, h5⟩
          refine List.mem_of_getElem? (i := i) ?_
          rw [List.getElem?_modify]
          have : j ≠ i := by
            intro hij; subst hij
            obtain ⟨hjl, hje⟩ := List.getElem?_eq_some_iff.1 h2
            rw [hje, h3] at h4
            exact hc (int_inj h4).symm
          simp [this]
        · rintro ⟨x, hx, h4, h5⟩
          obtain ⟨i, hi, rfl⟩ := List.getElem_of_mem hx
          rw [List.getElem_modify] at h4 h5
          split at h4
          · exact absurd (int_inj h4).symm hc
          · rename_i hij
            rw [if_neg hij] at h5
            exact ⟨_, List.getElem_mem _, h4, h5⟩
end
section
variable {P : Program} (w : World) {ops : Array Oper} {rest : List Oper} {o : Oper} {a : Act} {Q : Exit → Act → World → Prop}
theorem wpList_lookI (hg : o.guard = none) (m x : Operand) (t : TypeId) (c : Bool) (hop : o.op = Op.lookup t m x c) (k e : TypeId) (q : IntKind) (ht : P.underlying t = some (.map k e)) (hk : P.underlying k = some (.int q))
    (z : Value) (hz : (zeroValue e).run P w = .ok z w) (b : Nat) (M : Int → Option Value) (hm : a.eval m = .map (some b)) (h : MapI w b q M) (y : Int) (hx : a.eval x = .int q y)
    (v : Value) (hv : v = if c then .tuple #[(M y).getD z, .bool (M y).isSome] else (M y).getD z)
    (hK : wpList P ops Q rest (a.put o.dst v) w) : wpList P ops Q (o :: rest) a w := by
  refine wpList_plain hg fun K' hK' => ?_
  have hrun := h.run_look ht hk hz y c
  rw [← hv] at hrun
  unfold Oper.wp
  simp [execOp, hop, hm, hx, hrun, Result.andThen]
  exact hK' _ _ hK
theorem wpList_putI (hg : o.guard = none) (m x v : Operand) (t : TypeId) (hop : o.op = Op.mapUpdate t m x v) (k e : TypeId) (q : IntKind) (ht : P.underlying t = some (.map k e)) (hk : P.underlying k = some (.int q))
    (b : Nat) (M : Int → Option Value) (hm : a.eval m = .map (some b)) (h : MapI w b q M) (y : Int) (hx : a.eval x = .int q y) (u : Value) (hv : a.eval v = u)
    (hK : ∀ w', MapI w' b q (putM M y u) → Upd [b] w w' → wpList P ops Q rest (a.put o.dst undef) w') : wpList P ops Q (o :: rest) a w := by
  refine wpList_plain hg fun K' hK' => ?_
  obtain ⟨w', hrun, r1, r2⟩ := h.run_put ht hk y u
  unfold Oper.wp
  simp [execOp, hop, hm, hx, hv, hrun, Result.andThen]
  exact hK' _ _ (hK w' r1 r2)
theorem wpList_insI (hg : o.guard = none) (m x v : Operand) (t : TypeId) (hop : o.op = Op.insert t m x v) (k e : TypeId) (q : IntKind) (ht : P.underlying t = some (.map k e)) (hk : P.underlying k = some (.int q))
    (b : Nat) (M : Int → Option Value) (hm : a.eval m = .map (some b)) (h : MapI w b q M) (y : Int) (hx : a.eval x = .int q y) (u : Value) (hv : a.eval v = u)
    (hK : ∀ w', MapI w' b q (putM M y u) → Upd [b] w w' → wpList P ops Q rest (a.put o.dst undef) w') : wpList P ops Q (o :: rest) a w := by
  refine wpList_plain hg fun K' hK' => ?_
  obtain ⟨w', hrun, r1, r2⟩ := h.run_put ht hk y u
  unfold Oper.wp
  simp [execOp, hop, hm, hx, hv, hrun, Result.andThen]
  exact hK' _ _ (hK w' r1 r2)
end
end Go.Proofs.YtbnibokloendlaaGreat
