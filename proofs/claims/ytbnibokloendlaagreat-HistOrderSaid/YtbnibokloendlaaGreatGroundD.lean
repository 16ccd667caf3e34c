/-
  Contracts: the reference's ground: given back, and new.
-/
import Derived.Test.YtbnibokloendlaaGreatGroundC
namespace Go.Proofs.YtbnibokloendlaaGreat
open Go.RowKit


def Gave (gb fb a : Nat) (g : List Bool) (w : World) (e : Ending) (w' : World) : Prop := e = .returned (.int .i64 0) ∧ GR w' gb fb a g ∧ Upd [fb] w w'
set_option maxHeartbeats 1000000 in
theorem r04Give_any (gb fb a p sz : Nat) (g : List Bool) (w : World) (hG : GR w gb fb a g) (hok : Pen.giveOk a g p sz = true) :
    Calls Tryz.prog 85 #[.pointer (some ⟨gb, 0, none⟩), .int .i64 p, .int .i64 sz] w (Gave gb fb a (Pen.give a g p sz) w) := by
  have hgive : Hid (Pen.give a g p sz = Pen.setBits g ((p - a) / 8) (sz / 8) true) := by
    unfold Pen.give
    rw [if_pos hok]
    have q2 : (((p : Int) - a) / 8).toNat = (p - a) / 8 := by unfold Pen.giveOk at hok; simp at hok; omega
    have q3 : ((sz : Int) / 8).toNat = sz / 8 := by omega
    rw [q2, q3]; rfl
  have hgl := hG.2.2.2.1
  have hga := hG.2.2.2.2
  have d0 := hG.1.cell 0 rfl
  have d1 := hG.1.cell 1 rfl
  have lg := hG.1.lt
  have lf := hG.2.1.lt
  unfold Pen.giveOk at hok
  simp only [Bool.and_eq_true, decide_eq_true_eq] at hok
  obtain ⟨⟨⟨⟨⟨⟨h1, h2⟩, h3⟩, h4⟩, h5⟩, h6⟩, h7⟩ := hok
  have hfree : ∀ k, k < sz / 8 → g.getD ((p - a) / 8 + k) false = false := by
    intro k hk
    rw [List.all_eq_true] at h7
    have q2 : (((p : Int) - a) / 8).toNat = (p - a) / 8 := by omega
    have q3 : ((sz : Int) / 8).toNat = sz / 8 := by omega
    rw [q2, q3] at h7
    have hlen : (p - a) / 8 + k < g.length := by omega
    have := h7 (g[(p - a) / 8 + k]) (by rw [List.mem_take_iff_getElem]; exact ⟨k, by simp; omega, by simp⟩)
    simpa [hlen] using this
  have hcell : ∀ k, k < sz / 8 → w.cell? ⟨fb, (p - a) / 8 + k, none⟩ = some (.bool false) := fun k hk => hG.2.1.cell _ (by
    have hlen : (p - a) / 8 + k < g.length := by omega
    have := hfree k hk
    simp [hlen] at this
    simp [hlen, this])
  clear h7 hfree
  have t2 : ((sz : Int) % 8 != 0) = false := by simp; omega
  have t3 : ((p : Int) % 8 != 0) = false := by simp; omega
  replace hG := hide hG; clear h2 h3
  replace hcell := hide hcell
  go_enter Tryz.func85, Tryz.ntmps85
  go_wp2
  go_region
  all_goals go_wp2
  go_loopw [8] (fun i wr => ∃ k m : Nat, k ≤ sz / 8 ∧ i = .int .i64 k ∧ wr = w.drewN m) (fun i _ => sz / 8 - (intOf i).toNat)
  case atStart => exact ⟨0, 1, by omega, rfl, rfl⟩
  case round =>
    obtain ⟨k, m, hk, rfl, rfl⟩ := hrel
    by_cases hlt : k < sz / 8
    · have ck := (unhide hcell) k hlt
      have hix : (p - a) / 8 + k < g.length := by omega
      go_wp2
      go_region
      all_goals go_wp2
      all_goals
        go_roundw
        case rel => exact ⟨k + 1, m + 1, by omega, by go_num, rfl⟩
        case measure => simp [intOf]; omega
    · have hkn : k = sz / 8 := by omega
      subst hkn
      have hG1 : GR (w.drewN m) gb fb a g := unhide hG
      replace hG1 := hide hG1
      have hm1 : a ≤ p := by omega
      have hm2 : (p - a) / 8 + sz / 8 ≤ g.length := by omega
      go_wp2_with (go_at_call 145; refine (r04set_any gb fb a p sz g true _ (unhide hG1) hm1 (by omega) (by omega) hm2).mono ?_; rintro e w2 ⟨rfl, hG2, hU2⟩; replace hG2 := hide hG2; replace hU2 := hide hU2)
      go_ret
      refine ⟨rfl, ?_, ?_⟩
      · rw [unhide hgive]; exact unhide hG2
      · exact (((Upd.refl [fb] w).drewN m).trans (unhide hU2) (by simp))


theorem infoBool : (Tryz.prog.info? 4).map (fun i => (i.zero, i.size, i.bytes)) = some (some (.bool false), 1, 1) := by kernel_rfl
def NewG (a : Nat) (g : List Bool) (w : World) (e : Ending) (w' : World) : Prop := ∃ gb fb, e = .returned (.pointer (some ⟨gb, 0, none⟩)) ∧ GR w' gb fb a g ∧ Below w.heap.size w w' ∧ w.heap.size ≤ gb ∧ w.heap.size ≤ fb
theorem rep_set_true (n k : Nat) (hk : k < n) : ((List.replicate k true ++ List.replicate (n - k) false).map Value.bool).set k (.bool true) = (List.replicate (k + 1) true ++ List.replicate (n - (k + 1)) false).map Value.bool := by
  have e : n - k = (n - (k + 1)) + 1 := by omega
  rw [e, List.replicate_succ, List.map_append, List.set_append_right _ _ (by simp)]
  simp [List.replicate_succ']
set_option maxRecDepth 100000 in
set_option maxHeartbeats 1000000 in
theorem r04New_any (a sz : Nat) (w : World) (ha : a ≤ 65536) (hs : sz ≤ 8192) :
    Calls Tryz.prog 82 #[.int .i64 a, .int .i64 sz] w (NewG a (List.replicate (sz / 8) true) w) := by
  obtain ⟨i0, hi0, hz0, hz1, hz2⟩ := info_parts infoBool
  obtain ⟨n, hn⟩ : ∃ n, sz / 8 = n := ⟨_, rfl⟩
  have hmk := fun W => run_make_rowN (P := Tryz.prog) 225 4 i0 (.bool false) Tryz.underlying225 hi0 hz0 .i64 .i64 (sz / 8) (sz / 8) (Nat.le_refl _) (by rw [hz2]; omega) (by omega) W
  simp only [hz1, Value.cells, madeCells_one] at hmk
  clear hi0 hz0 hz1 hz2
  rw [show ((sz / 8 : Nat) : Int) = (sz : Int) / 8 from by omega] at hmk
  go_enter Tryz.func82, Tryz.ntmps82
  go_wp2
  have hn1 : n ≤ 1024 := by omega
  replace hn := hide hn
  go_loopw [6] (fun i wr => ∃ k : Nat, k ≤ n ∧ i = .int .i64 k ∧ FA wr w.heap.size ((List.replicate k true ++ List.replicate (n - k) false).map Value.bool) ∧ FA wr (w.heap.size + 1) [.int .i64 (a : Int), .slice (some ⟨w.heap.size, 0, none⟩) n n] ∧ Below w.heap.size w wr) (fun i _ => n - (intOf i).toNat)
  case atStart =>
    refine ⟨0, by omega, rfl, ?_, ?_, ((Below.refl _ _).alloc (Nat.le_refl _) _).alloc (by simp) _⟩
    · have h := (FA.new w (List.replicate n (Value.bool false)) 4).alloc (.cells #[Value.int IntKind.i64 ↑a, Value.slice (some ⟨w.heap.size, 0, none⟩) n n] 227)
      simpa using h
    · have h := FA.new (w.alloc (.cells (Array.replicate n (Value.bool false)) 4)) [Value.int IntKind.i64 ↑a, Value.slice (some ⟨w.heap.size, 0, none⟩) n n] 227
      simpa using h
  case round =>
    obtain ⟨k, hk, rfl, hF, hS, hB⟩ := hrel
    have d1 := hS.cell 1 rfl
    have lF := hF.lt
    have lS := hS.lt
    by_cases hlt : k < n
    · have dk := hF.cell k (u := .bool false) (by rw [List.getElem?_map, List.getElem?_append_right (by simp), List.length_replicate, Nat.sub_self, List.getElem?_replicate, if_pos (by omega)]; rfl)
      have hfr := hF.free
      have hst := hF.set k (by simp; omega) (.bool true)
      rw [rep_set_true n k hlt] at hst
      replace hst := hide hst
      have hS2 := hide (hS.far (p := ⟨w.heap.size, k, none⟩) (by simp) (.bool true))
      have hB2 := hide (hB.setCell (p := ⟨w.heap.size, k, none⟩) (Nat.le_refl _) (.bool true))
      clear hF hS hB
      go_wp2
      go_roundw
      case rel => exact ⟨k + 1, by omega, by go_num, unhide hst, unhide hS2, unhide hB2⟩
      case measure => simp [intOf]; omega
    · have hkn : k = n := by omega
      subst hkn
      replace hF := hide hF; replace hS := hide hS; replace hB := hide hB
      go_wp2
      go_ret
      rw [unhide hn]
      refine ⟨_, w.heap.size, rfl, ⟨?_, ?_, by omega, by simp; omega, ha⟩, unhide hB, by omega, Nat.le_refl _⟩
      · simpa using unhide hS
      · have := unhide hF; simpa using this

end Go.Proofs.YtbnibokloendlaaGreat
