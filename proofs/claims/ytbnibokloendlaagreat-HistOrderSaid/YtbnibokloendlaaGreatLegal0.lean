/-
  Whether one exit may be told so: the program's Legal at the document's example.
-/
import Derived.Test.YtbnibokloendlaaGreatOrderW
import Derived.Test.YtbnibokloendlaaGreatCheck
import Derived.Test.YtbnibokloendlaaGreatPNew
import Derived.Test.YtbnibokloendlaaGreatPDoE
import Derived.Deep.RegionWith
import Derived.Deep.CutRange
import Derived.Deep.LoopGhost
namespace Go.Proofs.YtbnibokloendlaaGreat
open Go.RowKit

set_option maxHeartbeats 1000000 in
theorem equal_nil (A B : Option Addr) (c d : Nat) (w : World) : Calls Tryz.prog 27 #[.slice A 0 c, .slice B 0 d] w (Q (.bool true) w) := by
  go_enter Tryz.func27, Tryz.ntmps27
  go_wp2
  go_loop [13] (fun i => i = .int .i64 0) (fun _ => 0)
  case atStart => rfl
  case round =>
    subst hrel
    go_wp2
    go_ret
    exact Q.bool rfl
theorem upd_of_drew {M : List Nat} {w w' : World} (h : Upd M w.drew w') : Upd M w w' := ⟨h.os, h.tape, h.output, h.size, h.block⟩
/-- The one call of the example, told e. -/
def exop (e : Int) : OpV := ⟨0, ⟨5, 0, 0, 0, 0, 0, 0⟩, 0, 0, 0, e, 0, none, 0, 0⟩
theorem exop_order {os : List Nat} {e : Int} (h : InOrder [exop e] 1 os) : os = [0] := by
  have ht : took [exop e] 1 = [0] := by simp [took, keyOf, exop, List.range_succ]
  have hl := h.len
  rw [ht] at hl
  obtain ⟨x, rfl⟩ := List.length_eq_one_iff.1 hl
  have := h.mem x (by simp)
  rw [ht] at this
  simpa using this
theorem exop_chk (e : Int) : chk ⟨2, 1, 0, 0⟩ [exop e] = 0 := by
  unfold chk okTo okAt okOp dn wy opI exop
  simp [Pen.planRight, List.range_succ]
set_option maxRecDepth 100000 in
set_option maxHeartbeats 4000000 in
theorem legal_exop (A : Option Addr) (c : Nat) (e : Int) (x : Bool) (w : World) (hA : OpsAt w A 1 [exop e]) (hx : x = decide (e = 23)) :
    Calls Tryz.prog 13 #[.agg #[.int .i64 2, .int .i64 1, .int .i64 0, .int .i64 0], .slice none 0 0, .slice A 1 c] w (R (.tuple #[.bool x, .int .i64 0]) w) := by
  have hN : ∀ w, Calls Tryz.prog 25 #[.agg #[.int .i64 2, .int .i64 1, .int .i64 0, .int .i64 0], .slice none 0 0] w (NewP 2 1 w) := fun w => by
    have := modelNew_nil 2 0 0 1 w (by decide)
    simpa using this
  have hK : ∀ w, OpsAt w A 1 [exop e] → Calls Tryz.prog 18 #[.agg #[.int .i64 2, .int .i64 1, .int .i64 0, .int .i64 0], .slice A 1 c] w (CheckP 0 w) := fun w h => by
    have := check_any A 1 c 2 1 0 0 [exop e] w h
    rw [exop_chk] at this
    exact this
  have HX := hide hx; have HA := hide hA; have HA0 := hide hA
  clear hx hA
  have PB : Hid (FA (w.alloc (.cells #[.int .i64 2, .int .i64 1, .int .i64 0, .int .i64 0] 23)) w.heap.size [.int .i64 2, .int .i64 1, .int .i64 0, .int .i64 0]) := FA.new' w _ [.int .i64 2, .int .i64 1, .int .i64 0, .int .i64 0] _ rfl
  go_enter Tryz.func13, Tryz.ntmps13
  go_wp2_with (first | (go_at_call 18; refine (hK _ ((unhide HA).alloc _)).mono ?_; rintro e1 w1 ⟨rfl, hb⟩; have hA1 := ((unhide HA).alloc (.cells #[.int .i64 2, .int .i64 1, .int .i64 0, .int .i64 0] 23)).below hb; have hP1 := (unhide PB).below hb; have hB := (below_a1 w (.cells #[.int .i64 2, .int .i64 1, .int .i64 0, .int .i64 0] 23)).trans (hb.mono (by simp <;> omega)); clear HA PB; have HA := hide hA1; have PB := hide hP1; have HB := hide hB; clear hb hA1 hP1 hB) | (go_at_call 24; refine (finRight_nil _).mono ?_; rintro e1 w2 ⟨rfl, hb⟩; have hA1 := (unhide HA).below hb; have hP1 := (unhide PB).below hb; have hB := (unhide HB).trans (hb.mono (unhide HB).size); clear HA PB HB; have HA := hide hA1; have HB := hide hB; have p0 := hP1.cell 0 rfl; have p1 := hP1.cell 1 rfl; have p2 := hP1.cell 2 rfl; have p3 := hP1.cell 3 rfl; clear hb hA1 hP1 hB) | (go_at_call 25; refine (hN _).mono ?_; rintro e1 w3 ⟨mb, fb, sb, ab, tb, kb, im, hp, rfl, hM, hT, hm, ht, hmt, hb⟩; have hA1 := (unhide HA).below hb; have hB := (unhide HB).trans (hb.mono (unhide HB).size); have hz := (unhide HB).size; clear HA HB p0 p1 p2 p3; have HA := hide hA1; have HB := hide hB; have HM := hide hM; have HT := hide hT; have HZ := hide (And.intro hz (And.intro hm (And.intro ht hmt))); clear hb hA1 hB hM hT hz hm ht hmt) | (go_at_call 16; refine (order_any A 1 c [exop e] _ (unhide HA) (by omega)).mono ?_; rintro e1 w4 ⟨B, c2, os, rfl, hin, hos, _, hc2, hb⟩; obtain rfl := exop_order hin; have hA1 := (unhide HA).below hb; have hB := (unhide HB).trans (hb.mono (unhide HB).size); have hM := (unhide HM).below hb; have hT := (unhide HT).below hb; clear HA HB HM HT; have HA := hide hA1; have HB := hide hB; have HM := hide hM; have HT := hide hT; have HO := hide hos; clear hb hA1 hB hM hT hos hin))
  go_loopg [33] 1 (fun gn i wr => ∃ k : Nat, k + gn = 1 ∧ i = .int .i64 k ∧ (k = 1 → x = true) ∧ (k = 0 → FA wr mb [.int .i64 ((2 : Nat) : Int), .int .i64 ((1 : Nat) : Int), .int .i64 im, .int .i64 hp, .slice (some ⟨fb, 0, none⟩) 0 0, .pointer (some ⟨sb, 0, none⟩), .slice (some ⟨ab, 0, none⟩) 2 2, .slice (some ⟨tb, 0, none⟩) 1 1, .map (some kb)] ∧ FA wr tb ((List.replicate 1 ()).flatMap fun _ => thrZ) ∧ Arr natE 1 wr B 1 [0]) ∧ OpsAt wr A 1 [exop e] ∧ Below w.heap.size w wr)
  case atStart => exact ⟨0, by omega, rfl, fun h => by omega, fun _ => ⟨unhide HM, unhide HT, unhide HO⟩, unhide HA, unhide HB⟩
  case round =>
    obtain ⟨k, hk, rfl, hx1, h0, hA, hB⟩ := hrel
    clear HM HT HO
    rcases k with _ | _ | k
    · obtain ⟨hM, hT, hO⟩ := h0 rfl
      obtain ⟨bo, off, rfl, hb, hc⟩ := (unhide HA0).at_ (by omega)
      obtain ⟨bB, oB, rfl, hbB, hcB⟩ := hO.at_ (by omega)
      have o0 : wr.cell? ⟨bB, oB, none⟩ = some (.int .i64 0) := hcB 0 (by omega) 0 _ rfl
      obtain ⟨_, _, hAe, hbw, hcell0⟩ := hA.at_ (by omega)
      injection hAe with hAe
      injection hAe with hAe1 hAe2
      subst hAe1 hAe2
      have hcell : ∀ j u, (opE (exop e))[j]? = some u → wr.cell? ⟨bo, off + j, none⟩ = some u := fun j u hu => by
        have := hcell0 0 (by omega) j u hu
        simpa using this
      clear hcell0 hcB hc
      have c0 : wr.cell? ⟨bo, off, none⟩ = some (.int .i64 0) := hcell 0 _ rfl
      have c1 : wr.cell? ⟨bo, off + 1, none⟩ = some (.int .u8 5) := hcell 1 _ rfl
      have c2 : wr.cell? ⟨bo, off + 1 + 1, none⟩ = some (.int .u8 0) := hcell 2 _ rfl
      have c3 : wr.cell? ⟨bo, off + 1 + 2, none⟩ = some (.int .u8 0) := hcell 3 _ rfl
      have c4 : wr.cell? ⟨bo, off + 1 + 3, none⟩ = some (.int .u8 0) := hcell 4 _ rfl
      have c5 : wr.cell? ⟨bo, off + 1 + 4, none⟩ = some (.int .i64 0) := hcell 5 _ rfl
      have c6 : wr.cell? ⟨bo, off + 1 + 5, none⟩ = some (.int .i64 0) := hcell 6 _ rfl
      have c7 : wr.cell? ⟨bo, off + 1 + 6, none⟩ = some (.int .i64 0) := hcell 7 _ rfl
      have HM := hide hM; have HT := hide hT; have HA := hide hA; have HO := hide hO; have HB1 := hide hB; have HC := hide hcell
      clear hM hT hA hO hB hcell hx1 h0 HB
      have htl := (unhide HT).lt
      go_wp2
      go_cut [11, 12, 33] from 33 to 77 (fun s11 s12 s33 wx => s11 = .int .i64 0 ∧ s33 = .int .i64 0 ∧ ∃ g, s12 = .pointer (some ⟨g, 0, none⟩) ∧ FA wx g [.int .i64 23, .int .i64 0, .slice none 0 0] ∧ Upd [tb] wr wx)
      case first =>
        go_region_with (go_at_call 26; refine (do_exit_nil mb fb sb ab tb kb 2 1 im hp 0 0 0 0 0 0 [] _ (by repeat (first | exact unhide HM | refine FA.drew ?_ | refine FA.alloc ?_ _)) (by repeat (first | exact unhide HT | refine FA.drew ?_ | refine FA.alloc ?_ _)) (by omega) (by omega)).mono ?_; rintro e5 w5 ⟨rfl, hu⟩; (try (have hG : FA w5 wr.heap.size [.int .i64 0, .int .i64 0, .slice none 0 0] := FA.upd (FA.drew (FA.new' wr wr.heap.size [.int .i64 0, .int .i64 0, .slice none 0 0] _ rfl)) hu (by simp; omega); have g0 := hG.cell 0 rfl; have g1 := hG.cell 1 rfl; have g2 := hG.cell 2 rfl; have gf := hG.free; have HG := hide hG; clear hG)); replace hu := hide hu)
        all_goals
          go_wp2_with fail
          go_meet
          case rel =>
            first
            | exact ⟨rfl, rfl, _, rfl, FA.new' _ _ [.int .i64 23, .int .i64 0, .slice none 0 0] _ rfl, (upd_of_drew (unhide hu)).alloc _⟩
            | exact ⟨rfl, rfl, _, rfl, (((unhide HG).set 0 (by simp) (.int .i64 23)).set 1 (by simp) (.int .i64 0)).set 2 (by simp) (.slice none 0 0), ((((Upd.of_below (M := [tb]) (below_a1 wr _)).trans (upd_of_drew (unhide hu)) (by simp)).setCell (.inr (by simp)) _).setCell (.inr (by simp)) _).setCell (.inr (by simp)) _⟩
      case rest =>
        obtain ⟨rfl, rfl, g, rfl, hG, hu⟩ := hcut
        obtain ⟨hz1, hz2, hz3, hz4⟩ := unhide HZ
        have hbt : bo ≠ tb := by omega
        have hk : ∀ o, wc.cell? ⟨bo, o, none⟩ = wr.cell? ⟨bo, o, none⟩ := fun o => World.cell?_of_block (a := ⟨bo, o, none⟩) (hu.block bo hbw (by simpa using hbt))
        have a1 : wc.cell? ⟨bo, off + 11, none⟩ = some (.int .i64 e) := by rw [hk]; exact unhide HC 11 _ rfl
        have a2 : wc.cell? ⟨bo, off + 11 + 1, none⟩ = some (.int .i64 0) := by rw [hk]; exact unhide HC 12 _ rfl
        have a3 : wc.cell? ⟨bo, off + 11 + 2, none⟩ = some (.slice none 0 0) := by rw [hk]; exact unhide HC 13 _ rfl
        have hA2 : OpsAt wc (some ⟨bo, off, none⟩) 1 [exop e] := (unhide HA).upd hu (by intro a ha; injection ha with ha; subst ha; simpa using hbt)
        have hbB2 : bB ≠ tb ∨ True := .inr trivial
        have hB2 : Below w.heap.size w wc := ((Upd.of_below (M := []) (unhide HB1)).trans hu (by simp; omega)).to_below
        have g0 := hG.cell 0 rfl
        have g1 := hG.cell 1 rfl
        have g2 := hG.cell 2 rfl
        have gz := hG.lt
        have HA2 := hide hA2; have HB2 := hide hB2; have HG := hide hG; have HU := hide hu
        clear hA2 hB2 hk hu hG c0 c1 c2 c3 c4 c5 c6 c7 o0 hz1 hz2 hz3 hz4 hbB2
        by_cases he : e = 23
        · subst he
          go_wp2_with (go_at_call 27; refine (equal_nil none none 0 0 _).mono ?_; rintro e' w' ⟨rfl, rfl⟩)
          go_roundg 0
          case measure => omega
          case rel =>
            refine ⟨1, by omega, by go_num, fun _ => by have := unhide HX; simpa using this, fun h => by omega, (unhide HA2).alloc _, (unhide HB2).alloc (by have := (unhide HB2).size; omega) _⟩
        · have hd : ((23 : Int) != e) = true := by simp; omega
          have HE := hide he
          clear he
          go_wp2
          go_ret2
          exact R.mk (by have := unhide HX; have h2 := unhide HE; rw [this]; simp [h2]) ((unhide HB2).alloc (by have := (unhide HB2).size; omega) _)
    · have hx := hx1 rfl
      subst hx
      have HB2 := hide hB
      clear hx1 h0 hA hB
      go_wp2
      go_ret2
      exact R.mk rfl (unhide HB2)
    · omega
end Go.Proofs.YtbnibokloendlaaGreat
