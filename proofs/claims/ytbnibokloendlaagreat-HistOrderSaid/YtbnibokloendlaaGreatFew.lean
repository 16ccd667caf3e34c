/-
  The first 30 calls, of each what was said cut at 10.
-/
import Derived.Test.YtbnibokloendlaaGreatOps
import Derived.Test.YtbnibokloendlaaGreatAgg
import Derived.Test.YtbnibokloendlaaGreatWithin
namespace Go.Proofs.YtbnibokloendlaaGreat
open Go.RowKit

def trim (o : OpV) : OpV := { o with sn := (if 10 < (o.sn : Int) then (10 : Int) else (o.sn : Int)).toNat }
def fewL (l : List OpV) : List OpV := (l.take 30).map trim
theorem infoOp : (Tryz.prog.info? 49).map (fun i => (i.zero, i.size, i.bytes)) = some (some (.agg #[.int .i64 0, .int .u8 0, .int .u8 0, .int .u8 0, .int .u8 0, .int .i64 0, .int .i64 0, .int .i64 0, .int .i64 0, .int .i64 0, .int .i64 0, .int .i64 0, .int .i64 0, .slice none 0 0]), 14, 104) := by kernel_rfl
theorem sizeOpF : (Tryz.prog.info? 49).map (·.size) = some 14 := by kernel_rfl
theorem zeroOpF (w : World) : (zeroValue 49).run Tryz.prog w = .ok (.agg #[.int .i64 0, .int .u8 0, .int .u8 0, .int .u8 0, .int .u8 0, .int .i64 0, .int .i64 0, .int .i64 0, .int .i64 0, .int .i64 0, .int .i64 0, .int .i64 0, .int .i64 0, .slice none 0 0]) w := by kernel_rfl
theorem opOneF (o : OpV) : (#[.int .i64 o.thread, .int .u8 o.call.op, .int .u8 o.call.r, .int .u8 o.call.h, .int .u8 o.call.v, .int .i64 o.call.a, .int .i64 o.call.b, .int .i64 o.call.c, .int .i64 o.start, .int .i64 o.point, .int .i64 o.stop, .int .i64 o.code, .int .i64 o.n, .slice o.sa o.sn o.sc] : Array Value).all (·.oneCell') = true := by simp [Value.oneCell']
theorem opE_one (o : OpV) : ∀ u ∈ opE o, u.oneCell' = true := by simp [opE, Value.oneCell']
theorem few_step (l : List OpV) (k : Nat) (o : OpV) (hk : k < l.length) (ho : o = l.getD k default) : ((l.take (k + 1)).map trim).flatMap opE = ((l.take k).map trim).flatMap opE ++ opE (trim o) := by
  subst ho
  rw [List.take_succ_eq_append_getElem hk, List.map_append, List.flatMap_append]
  simp [hk]
theorem cells_new2 (w : World) (X : Obj) (vs : List Value) (t : TypeId) (g : Nat) (hg : g = w.heap.size + 1 := by rfl) : ∀ j u, vs[j]? = some u → ((w.alloc X).alloc (.cells vs.toArray t)).cell? ((⟨g, 0, none⟩ : Addr).add j) = some u := by
  subst hg
  intro j u hu
  rw [add_off, Nat.zero_add]
  have e : w.heap.size + 1 = (w.alloc X).heap.size := by simp
  rw [e, World.cell?_alloc_new]
  simpa using hu
/-- What few hands back: the new row. -/
def FewP (l : List OpV) (w : World) (e : Ending) (w' : World) : Prop :=
  ∃ A c, e = .returned (.slice A (fewL l).length c) ∧ OpsAt w' A (fewL l).length (fewL l) ∧ (fewL l).length ≤ c ∧ (∀ a, A = some a → w.heap.size ≤ a.block) ∧ Below w.heap.size w w'
theorem FewP.mk {l : List OpV} {w w' : World} {A : Option Addr} {c : Nat} {e : TypeId} (h : w'.ownsRow w.heap.size e 14 (.slice A (fewL l).length c) (fewL l).length (((l.take 30).map trim).flatMap opE)) (hb : Below w.heap.size w w') : FewP l w (.returned (.slice A (fewL l).length c)) w' := by
  have hl : (fewL l).length ≤ 30 := by simp [fewL]; omega
  have hc := own_cap h
  refine ⟨A, c, rfl, ?_, hc, own_fresh h, hb⟩
  rcases Nat.eq_zero_or_pos (fewL l).length with h0 | h0
  · have : fewL l = [] := List.eq_nil_of_length_eq_zero h0
    rw [this]
    exact Arr.nil_ _ _ _ _
  · obtain ⟨A', c', hv, _, _, hA⟩ := own_arr (l := fewL l) h opE_len (by omega) rfl h0 (by omega)
    injection hv with h1 _ h3
    subst h1
    exact hA
set_option maxRecDepth 100000 in
set_option maxHeartbeats 4000000 in
theorem few_any (A : Option Addr) (n c : Nat) (l : List OpV) (w : World) (h : OpsAt w A (min n 30) l) (hnn : n ≤ 9223372036854775807) (hv : ∀ o ∈ l, o.sn ≤ o.sc ∧ o.sc ≤ 9223372036854775807) :
    Calls Tryz.prog 12 #[.slice A n c] w (FewP l w) := by
  obtain ⟨i0, hi0, hz0, hz1, hz2⟩ := info_parts infoOp
  obtain ⟨z, hz, hzs⟩ : ∃ z : Array Value, Hid (∀ w, (zeroValue 49).run Tryz.prog w = .ok (.agg z) w) ∧ Hid (z.size = 14) := ⟨_, fun w => zeroOpF w, rfl⟩
  have hl := h.1
  go_enter Tryz.func12, Tryz.ntmps12
  go_wp2
  go_loopw [3, 4] (fun v i wr => ∃ k : Nat, k ≤ n ∧ k ≤ 30 ∧ i = .int .i64 k ∧ wr.ownsRow w.heap.size 49 14 v k (((l.take k).map trim).flatMap opE) ∧ Below w.heap.size w wr) (fun _ i _ => n - (intOf i).toNat)
  case atStart => exact ⟨0, by omega, by omega, rfl, own_empty _ _ _ _ _ (Nat.le_refl _) rfl, below_a1 _ _⟩
  case round =>
    obtain ⟨k, hk, hk30, rfl, hown, hB⟩ := hrel
    by_cases hlt : k < n ∧ k < 30
    · obtain ⟨hlt, hlt30⟩ := hlt
      obtain ⟨b, off, rfl, hb, hc⟩ := h.at_ (by omega)
      obtain ⟨o, ho⟩ : ∃ o, o = l.getD k default := ⟨_, rfl⟩
      have hcell : ∀ j u, (opE o)[j]? = some u → wr.cell? ⟨b, off + k * 14 + j, none⟩ = some u := by
        intro j u hu
        rw [hB.cell (by simp; omega)]
        exact hc k (by omega) j u (by rw [← ho]; exact hu)
      have hvo := hv o (by rw [ho, List.getD_eq_getElem?_getD, List.getElem?_eq_getElem (by omega)]; exact List.getElem_mem _)
      obtain ⟨hs1, hs2⟩ := hvo
      have hst := few_step l k o (by omega) ho
      have HST := hide hst; have HC := hide hcell; have HB := hide hB; have HV := hide hv; have HH := hide h; have HL := hide hl; have HO := hide ho
      obtain ⟨A', c', rfl, hc', hf'⟩ := own_slice hown
      have HOW := hide hown
      clear hst hcell hc hB hv h hl ho hown
      have htr : opE (trim o) = (#[.int .i64 o.thread, .int .u8 o.call.op, .int .u8 o.call.r, .int .u8 o.call.h, .int .u8 o.call.v, .int .i64 o.call.a, .int .i64 o.call.b, .int .i64 o.call.c, .int .i64 o.start, .int .i64 o.point, .int .i64 o.stop, .int .i64 o.code, .int .i64 o.n, .slice o.sa (if 10 < (o.sn : Int) then (10 : Int) else (o.sn : Int)).toNat o.sc] : Array Value).toList := rfl
      have HTR := hide htr
      clear htr
      go_wp2_with (first | ((with_reducible refine next_is (.load 49 (.tmp 19)) rfl ?_); refine wpList_loadC rfl 49 (.tmp 19) rfl b (off + k * 14) rfl #[.int .i64 o.thread, .int .u8 o.call.op, .int .u8 o.call.r, .int .u8 o.call.h, .int .u8 o.call.v, .int .i64 o.call.a, .int .i64 o.call.b, .int .i64 o.call.c, .int .i64 o.start, .int .i64 o.point, .int .i64 o.stop, .int .i64 o.code, .int .i64 o.n, .slice o.sa o.sn o.sc] _ (unhide HC) Tryz.underlying49 rfl sizeOpF ?_) | ((with_reducible refine next_is (.alloc 49) rfl ?_); refine wpList_allocZ rfl 49 rfl z (unhide hz) ?_) | ((with_reducible refine next_is (.store 49 (.tmp 5) (.tmp 20)) rfl ?_); refine wpList_storeN rfl 49 (.tmp 5) (.tmp 20) rfl wr.heap.size rfl rfl _ z rfl sizeOpF (unhide hzs) (opOneF o) ?_) | ((with_reducible refine next_is (.load 49 (.tmp 5)) rfl ?_); refine wpList_loadF rfl 49 (.tmp 5) rfl wr.heap.size rfl #[.int .i64 o.thread, .int .u8 o.call.op, .int .u8 o.call.r, .int .u8 o.call.h, .int .u8 o.call.v, .int .i64 o.call.a, .int .i64 o.call.b, .int .i64 o.call.c, .int .i64 o.start, .int .i64 o.point, .int .i64 o.stop, .int .i64 o.code, .int .i64 o.n, .slice o.sa (if 10 < (o.sn : Int) then (10 : Int) else (o.sn : Int)).toNat o.sc] _ (FA.new' wr wr.heap.size ((#[.int .i64 o.thread, .int .u8 o.call.op, .int .u8 o.call.r, .int .u8 o.call.h, .int .u8 o.call.v, .int .i64 o.call.a, .int .i64 o.call.b, .int .i64 o.call.c, .int .i64 o.start, .int .i64 o.point, .int .i64 o.stop, .int .i64 o.code, .int .i64 o.n, .slice o.sa (if 10 < (o.sn : Int) then (10 : Int) else (o.sn : Int)).toNat o.sc] : Array Value).toList) 49 rfl) Tryz.underlying49 rfl sizeOpF ?_) | (at_builtin; (refine wpList_append_own _ rfl (.tmp 32) (.tmp 34) 25 rfl w.heap.size 49 i0 _ 14 104 Tryz.underlying25 hi0 hz0 hz1 hz2 rfl (by omega) (.slice A' k c') k _ rfl (((unhide HOW).alloc _).alloc _) ⟨wr.heap.size + 1, 0, none⟩ 1 1 (opE (trim o)) rfl rfl (by rw [unhide HTR]; exact cells_new2 _ _ _ _ _) (opE_one _) (by unfold maxLen; omega) (by omega) (by have := (unhide HB).size; simp; omega) ?_); intro v1 w1 hown1 hgrow1 hnil1; replace hown1 := hide hown1; replace hgrow1 := hide hgrow1; clear hnil1))
      go_roundw
      case rel =>
        refine ⟨k + 1, by omega, by omega, by go_num, ?_, ?_⟩
        · rw [unhide HST]; exact unhide hown1
        · exact Below.grown (((unhide HB).alloc (unhide HB).size _).alloc (by have := (unhide HB).size; simp; omega) _) (unhide hgrow1) (by have := (unhide HB).size; simp; omega) (fun q hq => own_row_ge (unhide HOW) hq)
      case measure => simp [intOf] <;> omega
    · have e : k = (fewL l).length := by simp [fewL]; omega
      have e2 : l.take k = l.take 30 := by
        rw [List.take_of_length_le (by omega), List.take_of_length_le (by omega)]
      have HB := hide hB; have HOW := hide hown; have HE := hide e; have HE2 := hide e2; have HL := hide hl
      clear hB hown e e2 hl hv h
      obtain ⟨A', c', rfl, hc', hf'⟩ := own_slice (unhide HOW)
      go_wp2
      all_goals
        go_ret
        have hO := unhide HOW
        rw [unhide HE2] at hO
        have hk := unhide HE
        subst hk
        exact FewP.mk hO (unhide HB)
end Go.Proofs.YtbnibokloendlaaGreat
