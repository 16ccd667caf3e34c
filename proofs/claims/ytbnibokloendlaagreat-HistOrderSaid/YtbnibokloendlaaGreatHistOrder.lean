/-
  Proved: for every row of calls the law HistOrder returns true, and the row reads afterwards as it did. No condition.
-/
import Derived.Test.YtbnibokloendlaaGreatRows
import Derived.Test.YtbnibokloendlaaGreatLawOrder
import Derived.Test.YtbnibokloendlaaGreatReadOps
import Derived.ProofKit
import Derived.OpenShut
import Derived.ShutString
import Derived.ChangeOld
import Derived.Below
namespace Go.Proofs.YtbnibokloendlaaGreat
open Go.ChangeShapes Go.WideShapes Go.ChangeAt Go.RowKit Go.Deep

theorem cell_lt {w : World} {p : Addr} {u : Value} (h : w.cell? p = some u) : p.block < w.heap.size := by
  rcases Nat.lt_or_ge p.block w.heap.size with hlt | hge
  · exact hlt
  · exfalso
    have hn : w.heap[p.block]? = none := Array.getElem?_eq_none hge
    unfold World.cell? at h
    rw [hn] at h
    cases p.spot <;> simp at h
theorem read_ops {H : Type} {enc : TypeId × Value → H} {w : World} {base : Nat} {spare : Nat → Bool} {held : Bool} {fuel : Nat} {A : Option Addr} {n c : Nat} {x : DataW H × List MemPlace}
    (h : DataW.trod enc Tryz.prog w base spare held fuel 25 [.slice A n c] = some x) (q : Nat) (hq : q ≤ n) (hq2 : q ≤ 1000000) :
    ∃ l : List OpV, OpsAt w A q l ∧ n ≤ 9223372036854775807 ∧ ∀ o ∈ l, o.sn ≤ o.sc ∧ o.sc ≤ 9223372036854775807 := by
  rcases open_slice Tryz.underlying25 h with ⟨e, _⟩ | ⟨a, len, cap, m, k, D, Pl, e, _, hl, hm, hmm, _, hi⟩
  · simp only [List.cons.injEq, Value.slice.injEq, and_true] at e
    obtain ⟨rfl, rfl, rfl⟩ := e
    obtain rfl : q = 0 := by omega
    exact ⟨[], Arr.nil_ _ _ _ _, by omega, by simp⟩
  · simp only [List.cons.injEq, Value.slice.injEq, and_true] at e
    obtain ⟨rfl, rfl, rfl⟩ := e
    have hnm : n ≤ m := by rw [hmm]; split <;> omega
    have hex : ∀ i, ∃ o : OpV, i < q → (o.sn ≤ o.sc ∧ o.sc ≤ 9223372036854775807) ∧ ∀ j u, (opE o)[j]? = some u → w.cell? ((a.add (i * 14)).add j) = some u := by
      intro i
      by_cases hiq : i < q
      · obtain ⟨cs', hc, ht⟩ := hi i (by omega)
        obtain ⟨o, rfl, h1, h2⟩ := trod_op ht
        rw [cellsOp] at hc
        obtain ⟨_, _, hat⟩ := World.cells?_some hc
        refine ⟨o, fun _ => ⟨⟨h1, h2⟩, fun j u hu => ?_⟩⟩
        have hj : j < 14 := (List.getElem?_eq_some_iff.1 hu).1
        rw [hat j hj]; exact hu
      · exact ⟨default, fun h => absurd h hiq⟩
    obtain ⟨f, hf⟩ := Classical.axiomOfChoice hex
    refine ⟨(List.range q).map f, ⟨by simp, hq2, fun hpos => ?_⟩, by unfold maxLen at hm; omega, ?_⟩
    · obtain ⟨b, off, sp⟩ := a
      have h0 := (hf 0 hpos).2 0 _ rfl
      have hsp : sp = none := by simpa [Addr.add] using World.cell?_spot h0
      subst hsp
      refine ⟨b, off, rfl, by have := cell_lt h0; rw [block_of_add, block_of_add] at this; exact this, fun i hi j u hu => ?_⟩
      have e : ((List.range q).map f).getD i default = f i := by simp [List.getD_eq_getElem?_getD, hi]
      rw [e] at hu
      have := (hf i hi).2 j u hu
      rw [add_of_add, add_off, ← Nat.add_assoc] at this
      exact this
    · intro o ho
      obtain ⟨i, hi, rfl⟩ := List.mem_map.1 ho
      exact (hf i (by simpa using hi)).1
theorem own : ownKnob Tryz.prog.godebug = none := by kernel_rfl
theorem laidOut : laidOutB Tryz.prog = true := by kernel_rfl
set_option maxRecDepth 100000 in
theorem histOrder_lifted (os : Os) (started : os.Started) (H : Type) (enc : TypeId × Value → H) :
    ReturnsInHanded {} Tryz.checked os 7 .any (Rows.histOrderSpec.pre6 enc Tryz.prog Tryz.f7 Rows.histOrderRow.domain false) (Rows.histOrderSpec.post enc Tryz.prog Tryz.f7 false true false false) := by
  refine returnsInHanded_of_change (C := Tryz.checked) own started (by kernel_rfl) Tryz.func7
    (ChangeSpec.witness6 (enc := enc) (C := Tryz.checked) false ⟨#[], #[.slice none 0 0], []⟩ 8 (by kernel_rfl) (by kernel_rfl) (by kernel_rfl) (by kernel_rfl)) ?_
  intro W base args ds gs before hval0 hW hcnd _
  have hval : ∀ (j : Nat) t v, Tryz.f7.params[j]? = some t → args[j]? = some v → Value.okWide Tryz.prog W .any base t v := hval0
  have hW' := hW
  obtain ⟨p, q, hA0, hV, rfl, hfz, hnd⟩ := hW
  have hA : DataW.TrodAll enc Tryz.prog W 0 (fun _ => true) true Tryz.f7.params.toList args.toList ds p := hA0
  rw [Tryz.params7] at hA hval
  obtain ⟨v0, vs0, d0, ds0, p0, q0, hargs, rfl, rfl, h0, r0⟩ := trodAll_cons hA
  obtain ⟨rfl, rfl, rfl⟩ := trodAll_nil r0
  obtain rfl : args = #[v0] := by cases args; simp_all
  obtain ⟨rfl, rfl⟩ := trodVars_none hV
  obtain ⟨a0, len0, cap0, rfl⟩ := okWide_slice Tryz.underlying25 (hval 0 25 v0 rfl rfl)
  have k0 := h0
  have lt0 : ∀ x ∈ p0, x.block < W.heap.size := by obtain ⟨m, hm⟩ := k0; exact DataW.trod_lt m _ _ _ hm
  obtain ⟨fuel, hf⟩ := h0
  obtain ⟨l, hl, hn, hv⟩ := read_ops (A := a0) (n := len0) (c := cap0) (by simpa [Value.cells] using hf) (min len0 30) (by omega) (by omega)
  clear hA0 hval0
  refine (lawOrder_any a0 len0 cap0 l W hl hn hv).mono fun e W' ⟨he, bel⟩ => ?_
  subst he
  exact ⟨_, rfl, _, _, _, [], _, [], hW', trodAll_mk1 (shut_bool Tryz.underlying4 _), (trodAll_cons_mk (Below.trod laidOut (by kernel_rfl) (of_decide_eq_true (by kernel_rfl)) k0 bel lt0) trodAll_mk0), rfl, bel.frame _, fun h => by cases h⟩
theorem histOrder_over : Rows.histOrderRow.holds Tryz.pinned (OpenSpec.ofChange Rows.histOrderSpec) :=
  OpenClaim.holds_of_wide 7 Tryz.f7 rfl rfl rfl rfl rfl rfl rfl ⟨rfl, rfl, rfl, rfl, rfl⟩ rfl rfl rfl rfl rfl (by kernel_rfl) Tryz.func7 (by kernel_rfl)
    (of_decide_eq_true (by kernel_rfl)) (by unfold Func.isWrapper; first | (rw [if_pos (by decide +kernel)]; kernel_rfl) | (rw [if_neg (by decide +kernel)]; exact ⟨rfl, rfl⟩))
    (fun os started H enc _ => histOrder_lifted os started H enc)
theorem histOrder_holds : Rows.HistOrderSaid := histOrder_over
#print axioms histOrder_holds
end Go.Proofs.YtbnibokloendlaaGreat
