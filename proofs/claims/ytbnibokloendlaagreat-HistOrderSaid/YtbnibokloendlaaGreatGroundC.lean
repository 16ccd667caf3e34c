/-
  Contracts: the reference's ground: carved.
-/
import Derived.Test.YtbnibokloendlaaGreatGroundB
namespace Go.Proofs.YtbnibokloendlaaGreat
open Go.RowKit


theorem GR.upd {w w' : World} {gb fb a : Nat} {g : List Bool} {M : List Nat} (h : GR w gb fb a g) (hu : Upd M w w') (h1 : gb ∉ M) (h2 : fb ∉ M) : GR w' gb fb a g :=
  ⟨h.1.upd hu h1, h.2.1.upd hu h2, h.2.2.1, h.2.2.2.1, h.2.2.2.2⟩
theorem GR.below {w w' : World} {gb fb a : Nat} {g : List Bool} (h : GR w gb fb a g) (hb : Below w.heap.size w w') : GR w' gb fb a g := h.upd (Upd.of_below (M := []) hb) (by simp) (by simp)
def Carves (gb fb a : Nat) (g : List Bool) (sz : Int) (w : World) (e : Ending) (w' : World) : Prop :=
  e = .returned (.tuple #[.int .i64 ((Pen.carve a g sz).1.getD 0), .bool (Pen.carve a g sz).1.isSome]) ∧ GR w' gb fb a (Pen.carve a g sz).2 ∧ Upd [fb] w w'
theorem carve_some {a : Int} {g : List Bool} {sz : Int} {k : Nat} {L : List Pen.Extent} (hL : Pen.exts a g = L) (h1 : 1 ≤ sz) (h8 : sz % 8 = 0) (hk : k < L.length) (hno : (L.take k).find? (fun x => decide (sz ≤ x.size)) = none) (hy : sz ≤ L[k].size) :
    Pen.carve a g sz = (some L[k].pos, Pen.setBits g ((L[k].pos - a) / 8).toNat (sz / 8).toNat false) := by
  have hf : L.find? (fun x => decide (sz ≤ x.size)) = some L[k] := by
    rw [List.find?_eq_some_iff_getElem]
    refine ⟨by simpa using hy, k, hk, rfl, fun j hj => ?_⟩
    rw [List.find?_eq_none] at hno
    have := hno (L[j]'(by omega)) (by rw [List.mem_take_iff_getElem]; exact ⟨j, by omega, rfl⟩)
    simpa using this
  unfold Pen.carve
  rw [if_neg (by omega), hL, hf]
theorem carve_none {a : Int} {g : List Bool} {sz : Int} {L : List Pen.Extent} (hL : Pen.exts a g = L) (hno : L.find? (fun x => decide (sz ≤ x.size)) = none) : Pen.carve a g sz = (none, g) := by
  unfold Pen.carve
  split
  · rfl
  · rw [hL, hno]
theorem find_step {sz : Int} {k : Nat} {L : List Pen.Extent} (hk : k < L.length) (hno : (L.take k).find? (fun x => decide (sz ≤ x.size)) = none) (hn : ¬ sz ≤ L[k].size) : (L.take (k + 1)).find? (fun x => decide (sz ≤ x.size)) = none := by
  rw [List.take_succ_eq_append_getElem hk, List.find?_append, hno]
  simp; omega
set_option maxHeartbeats 1000000 in
theorem r04Carve_any (gb fb a sz : Nat) (g : List Bool) (w : World) (hG : GR w gb fb a g) (h1 : 1 ≤ sz) (h2 : sz ≤ 9000) (h8 : sz % 8 = 0) :
    Calls Tryz.prog 83 #[.pointer (some ⟨gb, 0, none⟩), .int .i64 sz] w (Carves gb fb a g sz w) := by
  replace hG := hide hG
  have hm : ((sz : Int) % 8 != 0) = false := by simp; omega
  go_enter Tryz.func83, Tryz.ntmps83
  go_wp2_with (go_at_call 144; refine (r04Extents_any gb fb a g _ (unhide hG)).mono ?_; rintro e w1 ⟨⟨A, c, rfl, hc, hfr, hL, hB⟩, hS⟩)
  generalize hLL : Pen.exts a g = L at hc hL hS
  have hn := hL.1
  have hG1 := hide ((unhide hG).below hB)
  have hn6 := hL.2.1
  replace hL := hide hL; replace hB := hide hB; replace hLL := hide hLL; replace hS := hide hS
  clear hn
  go_wp2
  go_loop [7] (fun i => ∃ k : Nat, k ≤ L.length ∧ i = .int .i64 k ∧ (L.take k).find? (fun x => decide ((sz : Int) ≤ x.size)) = none) (fun i => L.length - (intOf i).toNat)
  case atStart => exact ⟨0, by omega, rfl, rfl⟩
  case round =>
    obtain ⟨k, hk, rfl, hno⟩ := hrel
    replace hno := hide hno
    by_cases hlt : k < L.length
    · have hnpos : 0 < L.length := by omega
      obtain ⟨b, off, rfl, hb, hcell⟩ := (unhide hL).2.2 hnpos
      have e1 : w1.cell? ⟨b, off + k * 2, none⟩ = some (.int .i64 L[k].pos) := by have := hcell k hlt 0 _ rfl; simpa [hlt] using this
      have e2 : w1.cell? ⟨b, off + k * 2 + 1, none⟩ = some (.int .i64 L[k].size) := by have := hcell k hlt 1 _ rfl; simpa [hlt] using this
      clear hcell
      obtain ⟨s1, s2, s3, s4⟩ := (unhide hS).2 L[k] (List.getElem_mem hlt)
      have hgl := (unhide hG).2.2.2.1
      have hga := (unhide hG).2.2.2.2
      have hbf : b ≠ fb := by have := hfr _ rfl; have := (unhide hG).2.1.lt; simp at *; omega
      have hfind := hide (find_step (sz := sz) (k := k) (L := L) hlt (unhide hno))
      have hyes := hide (carve_some (sz := sz) (k := k) (unhide hLL) (by omega) (by omega) hlt (unhide hno))
      generalize hx : L[k] = x at *
      obtain ⟨xp, xs⟩ := x
      simp only at e1 e2 s1 s2 s3 s4 hfind hyes
      obtain ⟨p, rfl⟩ : ∃ p : Nat, xp = p := ⟨xp.toNat, by omega⟩
      replace hbf := hide hbf
      by_cases hs : (sz : Int) ≤ xs
      · have hy := hide ((unhide hyes) hs)
        clear hyes hfind
        have hm1 : a ≤ p := by omega
        have hm2 : (p - a) / 8 + sz / 8 ≤ g.length := by omega
        go_wp2_with (go_at_call 145; refine (r04set_any gb fb a p sz g false _ (unhide hG1) hm1 (by omega) (by omega) hm2).mono ?_; rintro e w2 ⟨rfl, hG2, hU2⟩; have e1' : w2.cell? ⟨b, off + k * 2, none⟩ = some (.int .i64 p) := (World.cell?_of_block (a := ⟨b, off + k * 2, none⟩) (hU2.block b hb (by simpa using unhide hbf))).trans e1; replace hG2 := hide hG2; replace hU2 := hide hU2)
        go_ret2
        have q1 : ((p : Int) - a).toNat / 8 = (p - a) / 8 := by omega
        have q2 : (((p : Int) - a) / 8).toNat = (p - a) / 8 := by omega
        have q3 : ((sz : Int) / 8).toNat = sz / 8 := by omega
        unfold Carves
        rw [unhide hy]
        refine ⟨rfl, ?_, ?_⟩
        · simp only [q2, q3]; exact unhide hG2
        · exact ((Upd.of_below (M := [fb]) (unhide hB)).trans (unhide hU2) (by simp))
      · have hf := hide ((unhide hfind) hs)
        clear hyes hfind
        go_wp2
        go_round
        case rel => exact ⟨k + 1, by omega, by go_num, unhide hf⟩
        case measure => simp [intOf]; omega
    · have hkn : k = L.length := by omega
      subst hkn
      go_wp2
      go_ret2
      have hc0 := carve_none (unhide hLL) (by have := unhide hno; rwa [List.take_of_length_le (Nat.le_refl _)] at this)
      unfold Carves
      rw [hc0]
      exact ⟨rfl, unhide hG1, Upd.of_below (unhide hB)⟩

end Go.Proofs.YtbnibokloendlaaGreat
