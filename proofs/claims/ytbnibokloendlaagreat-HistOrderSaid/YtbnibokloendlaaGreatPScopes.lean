/-
  The program's forest of scopes: where it lies; a new one.
-/
import Derived.Test.YtbnibokloendlaaGreatPGround
import Derived.Test.YtbnibokloendlaaGreatScopes
import Derived.Deep.RegionWith
import Derived.Deep.Cut
namespace Go.Proofs.YtbnibokloendlaaGreat
open Go.RowKit

theorem below_of_drew {w w' : World} (h : Below w.drew.heap.size w.drew w') : Below w.heap.size w w' := ⟨h.os, h.tape, h.output, h.size, h.block⟩
theorem flat_set {α : Type} [Inhabited α] (enc : α → List Value) (k : Nat) (hk : ∀ x, (enc x).length = k) : ∀ (l : List α) (i j : Nat) (x : α) (v : Value), i < l.length → j < k → enc x = (enc (l.getD i default)).set j v → (l.flatMap enc).set (i * k + j) v = (l.set i x).flatMap enc
  | [], i, j, x, v, h, _, _ => by simp at h
  | y :: l, 0, j, x, v, _, hj, hx => by
    simp only [Nat.zero_mul, Nat.zero_add, List.flatMap_cons, List.set_cons_zero]
    rw [List.set_append_left _ _ (by rw [hk]; exact hj), hx]; rfl
  | y :: l, i + 1, j, x, v, h, hj, hx => by
    have ih := flat_set enc k hk l i j x v (by simpa using h) hj (by simpa using hx)
    simp only [List.flatMap_cons, List.set_cons_succ]
    rw [List.set_append_right _ _ (by rw [hk, Nat.succ_mul]; omega), hk]
    have e : (i + 1) * k + j - k = i * k + j := by rw [Nat.succ_mul]; omega
    rw [e, ih]
theorem madeCells_flat {α : Type} [Inhabited α] (enc : α → List Value) (k : Nat) (hk : ∀ x, (enc x).length = k) (h0 : 0 < k) (x : α) (z : Array Value) (hz : z.toList = enc x) (n : Nat) : madeCells z (n * k) = ((List.replicate n x).flatMap enc).toArray := by
  have hzs : z.size = k := by rw [← hk x, ← hz]; simp
  apply Array.ext
  · simp [madeCells, flat_len enc k hk]
  · intro i h1 h2
    simp only [madeCells, Array.size_map, Array.size_range] at h1
    have hi : i / k < n := Nat.div_lt_of_lt_mul (by rw [Nat.mul_comm]; exact h1)
    have hj : i % k < k := Nat.mod_lt _ h0
    have e2 : i / k * k + i % k = i := by rw [Nat.mul_comm]; exact Nat.div_add_mod i k
    have hf := flat_get enc k hk (List.replicate n x) (i / k) (i % k) (by simpa using hi) hj
    rw [e2] at hf
    have hx : (List.replicate n x).getD (i / k) default = x := by rw [List.getD_eq_getElem?_getD, List.getElem?_eq_getElem (by simpa using hi)]; simp
    rw [hx, ← hz] at hf
    have : ((List.replicate n x).flatMap enc).toArray[i]? = z[i % k]? := by simpa using hf
    simp only [madeCells, Array.getElem_map, Array.getElem_range]
    rw [Array.getElem?_eq_getElem h2] at this
    rw [Array.getElem?_eq_getElem (by omega)] at this
    injection this with this
    rw [this]
    simp [hzs, hj]
/-- What the program keeps of a scope. -/
def scE (p : Pen.Ctl × Pen.Extent) : List Value := [.int .i64 p.1.state, .int .i64 p.1.count, .int .i64 p.1.parent, .int .i64 p.1.epoch, .int .i64 p.2.pos, .int .i64 p.2.size]
theorem scE_len (p : Pen.Ctl × Pen.Extent) : (scE p).length = 6 := rfl
/-- The program's scopes: block sb leads to the row lb and to the ground gb. -/
structure PS (w : World) (sb lb gb : Nat) (F : List Nat) (a e : Int) (ps : List (Pen.Ctl × Pen.Extent)) (l : List Pen.Extent) : Prop where
  top : ∃ c, ps.length ≤ c ∧ FA w sb [.slice (some ⟨lb, 0, none⟩) ps.length c, .pointer (some ⟨gb, 0, none⟩)]
  row : FA w lb (ps.flatMap scE)
  ground : PG w gb F a e l
  apart : sb ≠ lb ∧ sb ≠ gb ∧ lb ≠ gb ∧ sb ∉ F ∧ lb ∉ F
  few : ps.length ≤ 8
theorem PS.upd {w w' : World} {sb lb gb : Nat} {F M : List Nat} {a e : Int} {ps : List (Pen.Ctl × Pen.Extent)} {l : List Pen.Extent} (h : PS w sb lb gb F a e ps l) (hu : Upd M w w') (h1 : sb ∉ M) (h2 : lb ∉ M) (h3 : gb ∉ M) (h4 : ∀ x ∈ F, x ∉ M) : PS w' sb lb gb F a e ps l := by
  obtain ⟨c, k1, k2⟩ := h.top
  exact ⟨⟨c, k1, k2.upd hu h1⟩, h.row.upd hu h2, h.ground.upd hu h3 h4, h.apart, h.few⟩
def scs0 (n : Nat) (im : Int) : List (Pen.Ctl × Pen.Extent) := (List.replicate n (Pen.idle0, ⟨0, 0⟩)).set 0 (⟨2, 1, -1, 0⟩, ⟨64 * n, im⟩)
/-- .. when k of the n have been turned -/
def scsK (n k : Nat) : List (Pen.Ctl × Pen.Extent) := List.replicate k (Pen.idle0, ⟨0, 0⟩) ++ List.replicate (n - k) (Pen.ctl0, ⟨0, 0⟩)
theorem scsK_at {n k : Nat} (h : k < n) : (scsK n k).getD k default = (Pen.ctl0, ⟨0, 0⟩) := by
  unfold scsK
  rw [List.getD_eq_getElem?_getD, List.getElem?_append_right (by simp), List.length_replicate, Nat.sub_self, List.getElem?_eq_getElem (by simp; omega)]
  simp
theorem scsK_succ {n k : Nat} (h : k < n) : (scsK n k).set k (Pen.idle0, ⟨0, 0⟩) = scsK n (k + 1) := by
  unfold scsK
  rw [List.set_append_right _ _ (by simp), List.length_replicate, Nat.sub_self]
  obtain ⟨d, hd⟩ : ∃ d, n - k = d + 1 := ⟨n - k - 1, by omega⟩
  rw [hd, List.replicate_succ, List.set_cons_zero, show n - (k + 1) = d by omega, List.replicate_succ', List.append_assoc]
  rfl
def SNewP (n : Nat) (im hp : Int) (w : World) (e : Ending) (w' : World) : Prop :=
  ∃ sb lb gb F, e = .returned (.tuple #[.pointer (some ⟨sb, 0, none⟩), .int .i64 0]) ∧ PS w' sb lb gb F (64 * n + im) (64 * n + im + hp) (scs0 n im) (groundFree (64 * n + im) hp) ∧ (∀ x ∈ sb :: lb :: gb :: F, w.heap.size ≤ x ∧ x < w'.heap.size) ∧ Below w.heap.size w w'
theorem infoScope : (Tryz.prog.info? 185).map (fun i => (i.zero, i.size, i.bytes)) = some (some (.agg #[.int .i64 0, .int .i64 0, .int .i64 0, .int .i64 0, .int .i64 0, .int .i64 0]), 6, 48) := by kernel_rfl
set_option maxHeartbeats 1000000 in
theorem planHeap_any (a b c d : Int) (hR : Pen.planRight ⟨a, b, c, d⟩ = true) (h1 : 1 ≤ a) (h2 : a ≤ 8) (h3 : 0 ≤ c) (h4 : c ≤ 2048) (w : World) :
    Calls Tryz.prog 105 #[.agg #[.int .i64 a, .int .i64 b, .int .i64 c, .int .i64 d]] w (Rn (.tuple #[(.agg #[.int .i64 (64 * a + c), .int .i64 d]), .int .i64 0]) w) := by
  have hI := planImm_any a b c d hR h1 h2
  have HR := hide hR
  clear hR
  go_enter Tryz.func105, Tryz.ntmps105
  go_wp2_with fail
  refine (hI _).mono ?_
  rintro e w' ⟨rfl, hb⟩
  unfold Pen.planImm
  have hF : FA w' w.heap.size [.int .i64 a, .int .i64 b, .int .i64 c, .int .i64 d] := ((FA.new' w w.heap.size [.int .i64 a, .int .i64 b, .int .i64 c, .int .i64 d] 23 rfl).alloc _).below hb
  have hG : FA w' (w.heap.size + 1) [.int .i64 0, .int .i64 0] := (FA.new' _ (w.heap.size + 1) [.int .i64 0, .int .i64 0] 152 (by simp)).below hb
  have p0 := hF.cell 0 rfl
  have p3 := hF.cell 3 rfl
  have q0 := hG.cell 0 rfl
  have q1 := hG.cell 1 rfl
  have fr := hG.free
  have hz1 := hF.lt
  have hz2 := hG.lt
  have HB := hide hb
  clear hb hF hG
  go_wp2
  refine ⟨rfl, ?_⟩
  simp [results, Tryz.results105, go_sem, *]
  refine Rn.mk (by simp) ?_
  have hB : Below w.heap.size w w' := (below_a2 w _ _).trans ((unhide HB).mono (by simp <;> omega))
  exact ((hB.setCell (p := ⟨w.heap.size + 1, 0, none⟩) (by simp) _).setCell (p := ⟨w.heap.size + 1, 1, none⟩) (by simp) _).alloc (by simp [World.setCell] <;> omega) _
theorem planImm_val (a b c d : Int) : Pen.planImm ⟨a, b, c, d⟩ = ⟨64 * a, c⟩ := rfl
set_option maxRecDepth 100000 in
set_option maxHeartbeats 4000000 in
theorem scopesNew_any (n im hp : Nat) (th : Int) (w : World) (hR : Pen.planRight ⟨n, th, im, hp⟩ = true) :
    Calls Tryz.prog 56 #[.agg #[.int .i64 n, .int .i64 th, .int .i64 im, .int .i64 hp]] w (SNewP n im hp w) := by
  have hbd : 1 ≤ n ∧ n ≤ 8 ∧ im ≤ 2048 ∧ hp ≤ 8192 ∧ im % 8 = 0 ∧ hp % 8 = 0 := by
    unfold Pen.planRight at hR
    simp at hR
    omega
  obtain ⟨h1, h2, h3, h4, h5, h6⟩ := hbd
  have HR := hide hR
  have H5 := hide h5; have H6 := hide h6
  clear hR h5 h6
  obtain ⟨is, hi0, hz0, hz1, hz2⟩ := info_parts infoScope
  have hmk : ∀ w : World, (Instr.makeSlice 180 (.int .i64 (n : Int)) (.int .i64 (n : Int))).run Tryz.prog w = .ok (.slice (some ⟨w.heap.size, 0, none⟩) n n) (w.alloc (.cells ((List.replicate n (Pen.ctl0, (⟨0, 0⟩ : Pen.Extent))).flatMap scE).toArray 185)) := by
    intro w
    rw [run_make_rowN (P := Tryz.prog) 180 185 is _ Tryz.underlying180 hi0 hz0 .i64 .i64 n n (Nat.le_refl _) (by rw [hz2]; omega) (by omega) w, hz1]
    rw [show ((Value.agg #[.int .i64 0, .int .i64 0, .int .i64 0, .int .i64 0, .int .i64 0, .int .i64 0]).cells : Array Value) = #[.int .i64 0, .int .i64 0, .int .i64 0, .int .i64 0, .int .i64 0, .int .i64 0] from rfl]
    rw [madeCells_flat scE 6 scE_len (by omega) (Pen.ctl0, (⟨0, 0⟩ : Pen.Extent)) #[.int .i64 0, .int .i64 0, .int .i64 0, .int .i64 0, .int .i64 0, .int .i64 0] rfl n]
  go_enter Tryz.func56, Tryz.ntmps56
  go_wp2_with (go_at_call 33; refine (planRight_any _ _ _ _ _).mono ?_; rw [unhide HR]; rintro e w' ⟨X, rfl, rfl⟩)
  go_loopw [21] (fun i wr => ∃ k : Nat, k ≤ n ∧ i = .int .i64 k ∧ FA wr w.heap.size [.int .i64 n, .int .i64 th, .int .i64 im, .int .i64 hp] ∧ FA wr (w.heap.size + 2) ((scsK n k).flatMap scE) ∧ FA wr (w.heap.size + 3) [.slice (some ⟨w.heap.size + 2, 0, none⟩) n n, .pointer none] ∧ Below w.heap.size w wr) (fun i _ => n - (intOf i).toNat)
  case atStart =>
    refine ⟨0, by omega, rfl, ?_, ?_, ?_, below_a4 _ _ _ _ _⟩
    · exact (((FA.new' w _ [.int .i64 n, .int .i64 th, .int .i64 im, .int .i64 hp] _ rfl).alloc _).alloc _).alloc _
    · exact (FA.new' _ (w.heap.size + 2) _ _ (by simp)).alloc _
    · exact FA.new' _ (w.heap.size + 3) [.slice (some ⟨w.heap.size + 2, 0, none⟩) n n, .pointer none] _ (by simp)
  case round =>
    obtain ⟨k, hk, rfl, hP, hL, hS, hB⟩ := hrel
    have s0 := hS.cell 0 rfl
    have sf := hS.free
    have lf := hL.free
    have zS := hS.lt
    have zL := hL.lt
    have zP := hP.lt
    by_cases hlt : k < n
    · have l2 : wr.cell? ⟨w.heap.size + 2, k * 6 + 2, none⟩ = some (.int .i64 0) := hL.cell _ (by rw [flat_get scE 6 scE_len _ k 2 (by simp [scsK]; omega) (by omega), scsK_at hlt]; rfl)
      replace hP := hide hP; replace hL := hide hL; replace hS := hide hS; replace hB := hide hB
      go_wp2
      go_roundw
      case rel =>
        refine ⟨k + 1, by omega, by go_num, (unhide hP).far (by simp) _, ?_, (unhide hS).far (by simp) _, (unhide hB).setCell (p := ⟨w.heap.size + 2, k * 6 + 2, none⟩) (by simp) _⟩
        have := (unhide hL).set (k * 6 + 2) (by rw [flat_len scE 6 scE_len]; simp [scsK]; omega) (.int .i64 (-1))
        rw [flat_set scE 6 scE_len (scsK n k) k 2 (Pen.idle0, ⟨0, 0⟩) _ (by simp [scsK]; omega) (by omega) (by rw [scsK_at hlt]; rfl), scsK_succ hlt] at this
        exact this
      case measure => simp [intOf] <;> omega
    · have e : k = n := by omega
      subst e
      obtain ⟨q, rfl⟩ : ∃ q, k = q + 1 := ⟨k - 1, by omega⟩
      have hfull : (scsK (q + 1) (q + 1)).flatMap scE = .int .i64 0 :: .int .i64 0 :: .int .i64 (-1) :: .int .i64 0 :: .int .i64 0 :: .int .i64 0 :: (List.replicate q (Pen.idle0, (⟨0, 0⟩ : Pen.Extent))).flatMap scE := by
        simp only [scsK, Nat.sub_self, List.replicate_zero, List.append_nil, List.replicate_succ, List.flatMap_cons]
        rfl
      have hend : (scs0 (q + 1) im).flatMap scE = .int .i64 2 :: .int .i64 1 :: .int .i64 (-1) :: .int .i64 0 :: .int .i64 (64 * ((q : Int) + 1)) :: .int .i64 im :: (List.replicate q (Pen.idle0, (⟨0, 0⟩ : Pen.Extent))).flatMap scE := by
        simp only [scs0, List.replicate_succ, List.set_cons_zero, List.flatMap_cons]
        simp [scE]
      have hlen : (scs0 (q + 1) im).length = q + 1 := by simp [scs0]
      rw [hfull] at hL
      generalize (List.replicate q (Pen.idle0, (⟨0, 0⟩ : Pen.Extent))).flatMap scE = rest at *
      have HE := hide hend; have HN := hide hlen
      clear hfull hend hlen
      have l0 := hL.cell 0 rfl
      have l1 := hL.cell 1 rfl
      have l2 := hL.cell 2 rfl
      have l3 := hL.cell 3 rfl
      have kz : (0 : Int) < (q : Int) + 1 := by omega
      have p0 := hP.cell 0 rfl
      have p1 := hP.cell 1 rfl
      have p2 := hP.cell 2 rfl
      have p3 := hP.cell 3 rfl
      replace hP := hide hP; replace hL := hide hL; replace hS := hide hS; replace hB := hide hB
      go_wp2
      have hL1 := ((((unhide hL).set 0 (by simp) (.int .i64 2)).set 1 (by simp) (.int .i64 1)).set 2 (by simp) (.int .i64 (-1))).set 3 (by simp) (.int .i64 0)
      have hP1 := ((((unhide hP).far (p := ⟨w.heap.size + 2, 0, none⟩) (by simp) (.int .i64 2)).far (p := ⟨w.heap.size + 2, 1, none⟩) (by simp) (.int .i64 1)).far (p := ⟨w.heap.size + 2, 2, none⟩) (by simp) (.int .i64 (-1))).far (p := ⟨w.heap.size + 2, 3, none⟩) (by simp) (.int .i64 0)
      have hS1 := ((((unhide hS).far (p := ⟨w.heap.size + 2, 0, none⟩) (by simp) (.int .i64 2)).far (p := ⟨w.heap.size + 2, 1, none⟩) (by simp) (.int .i64 1)).far (p := ⟨w.heap.size + 2, 2, none⟩) (by simp) (.int .i64 (-1))).far (p := ⟨w.heap.size + 2, 3, none⟩) (by simp) (.int .i64 0)
      have hB1 := ((((unhide hB).setCell (p := ⟨w.heap.size + 2, 0, none⟩) (by simp) (.int .i64 2)).setCell (p := ⟨w.heap.size + 2, 1, none⟩) (by simp) (.int .i64 1)).setCell (p := ⟨w.heap.size + 2, 2, none⟩) (by simp) (.int .i64 (-1))).setCell (p := ⟨w.heap.size + 2, 3, none⟩) (by simp) (.int .i64 0)
      clear hL hP hS hB l0 l1 l2 l3 p0 p1 p2 p3 s0 sf lf zS zL zP
      generalize ((((wr.setCell ⟨w.heap.size + 2, 0, none⟩ (.int .i64 2)).setCell ⟨w.heap.size + 2, 1, none⟩ (.int .i64 1)).setCell ⟨w.heap.size + 2, 2, none⟩ (.int .i64 (-1))).setCell ⟨w.heap.size + 2, 3, none⟩ (.int .i64 0)) = W1 at *
      simp only [List.set_cons_zero, List.set_cons_succ] at hL1
      have s0 := hS1.cell 0 rfl
      have zP := hP1.lt
      have zL := hL1.lt
      have zS := hS1.lt
      have p0 := hP1.cell 0 rfl
      have p1 := hP1.cell 1 rfl
      have p2 := hP1.cell 2 rfl
      have p3 := hP1.cell 3 rfl
      replace hP1 := hide hP1; replace hL1 := hide hL1; replace hS1 := hide hS1; replace hB1 := hide hB1
      have hI := planImm_any ((q : Int) + 1) th im hp (by have := unhide HR; simpa using this) (by omega) (by omega)
      go_cut [] from 8 (fun wx => FA wx w.heap.size [.int .i64 ((q : Int) + 1), .int .i64 th, .int .i64 im, .int .i64 hp] ∧ FA wx (w.heap.size + 2) (.int .i64 2 :: .int .i64 1 :: .int .i64 (-1) :: .int .i64 0 :: .int .i64 (64 * ((q : Int) + 1)) :: .int .i64 im :: rest) ∧ FA wx (w.heap.size + 3) [.slice (some ⟨w.heap.size + 2, 0, none⟩) (q + 1) (q + 1), .pointer none] ∧ Below w.heap.size w wx)
      case first =>
        go_region_with (go_at_call 104; refine (hI _).mono ?_; rintro e w' ⟨rfl, hb⟩; rw [planImm_val]; have hb' : Below W1.heap.size W1 w' := below_of_drew hb; have hL2 := (unhide hL1).below hb'; have hP2 := (unhide hP1).below hb'; have hS2 := (unhide hS1).below hb'; have hB2 := (unhide hB1).trans (hb'.mono (by have := (unhide hB1).size; omega)); clear hb hb' s0 zP zL zS p0 p1 p2 p3; have l4 := hL2.cell 4 rfl; have l5 := hL2.cell 5 rfl; have lf := hL2.free; have s0 := hS2.cell 0 rfl; have zL := hL2.lt; have zS := hS2.lt; have zP := hP2.lt; have HL2 := hide hL2; have HP2 := hide hP2; have HS2 := hide hS2; have HB2 := hide hB2; clear hL2 hP2 hS2 hB2)
        all_goals
          go_wp2_with fail
          go_meet
          case rel =>
            refine ⟨?_, ?_, ?_, ?_⟩
            · exact ((unhide HP2).far (p := ⟨w.heap.size + 2, 4, none⟩) (by simp) _).far (p := ⟨w.heap.size + 2, 5, none⟩) (by simp) _
            · have := ((unhide HL2).set 4 (by simp) (.int .i64 (64 * ((q : Int) + 1)))).set 5 (by simp) (.int .i64 im)
              simp only [List.set_cons_zero, List.set_cons_succ] at this
              exact this
            · exact ((unhide HS2).far (p := ⟨w.heap.size + 2, 4, none⟩) (by simp) _).far (p := ⟨w.heap.size + 2, 5, none⟩) (by simp) _
            · exact ((unhide HB2).setCell (p := ⟨w.heap.size + 2, 4, none⟩) (by simp) _).setCell (p := ⟨w.heap.size + 2, 5, none⟩) (by simp) _
      case rest =>
        obtain ⟨hP3, hL3, hS3, hB3⟩ := hcut
        have HRq : Pen.planRight ⟨(q : Int) + 1, th, im, hp⟩ = true := by have := unhide HR; simpa using this
        have hH := planHeap_any ((q : Int) + 1) th im hp HRq (by omega) (by omega) (by omega) (by omega)
        clear HRq
        have p0 := hP3.cell 0 rfl
        have p1 := hP3.cell 1 rfl
        have p2 := hP3.cell 2 rfl
        have p3 := hP3.cell 3 rfl
        replace hP3 := hide hP3; replace hL3 := hide hL3; replace hS3 := hide hS3; replace hB3 := hide hB3
        clear hI
        go_wp2_with (go_at_call 105; refine (hH _).mono ?_; rintro e w' ⟨rfl, hb⟩; have hL2 := (unhide hL3).below hb; have hS2 := (unhide hS3).below hb; have hB2 := (unhide hB3).trans (hb.mono (by have := (unhide hB3).size; omega)); clear hb hH p0 p1 p2 p3; have HL2 := hide hL2; have HS2 := hide hS2; have HB2 := hide hB2; clear hL2 hS2 hB2)
        have hG := groundNew_any (64 * ((q : Int) + 1) + im) hp (by omega) (by omega) (by omega) (by omega) (by have := unhide H5; omega) (by have := unhide H6; omega)
        refine (hG _).mono ?_
        rintro e w2 ⟨gb, F, rfl, hPG, hg1, hF1, hg2, hF2, hb⟩
        have hz1 : w'.heap.size < w2.heap.size := by have := hb.size; simp at this; omega
        have hL4 := ((unhide HL2).alloc (.cells #[.int .i64 (64 * ((q : Int) + 1) + im), .int .i64 hp] 152)).below hb
        have hS4 := ((unhide HS2).alloc (.cells #[.int .i64 (64 * ((q : Int) + 1) + im), .int .i64 hp] 152)).below hb
        have hlt1 := (unhide HS2).lt
        have hB4 : Below w.heap.size w w2 := ((unhide HB2).alloc (by omega) _).trans (hb.mono (by simp; omega))
        simp only [World.size_alloc] at hg1 hF1
        have s1 := hS4.cell 1 rfl
        have sf := hS4.free
        have zS := hS4.lt
        have HPG := hide hPG; have HG := hide (And.intro hg1 (And.intro hg2 (And.intro hF1 hF2))); have HL4 := hide hL4; have HS4 := hide hS4; have HB4 := hide hB4
        clear hG hPG hg1 hF1 hg2 hF2 hb hL4 hS4 hB4 HL2 HS2 HB2
        go_wp2
        go_ret2
        obtain ⟨hg1, hg2, hF1, hF2⟩ := unhide HG
        refine ⟨w.heap.size + 3, w.heap.size + 2, gb, F, rfl, ⟨⟨q + 1, by rw [unhide HN]; exact Nat.le_refl _, ?_⟩, ?_, ?_, ?_, by rw [unhide HN]; omega⟩, ?_, (unhide HB4).setCell (p := ⟨w.heap.size + 3, 1, none⟩) (by simp) _⟩
        · have := (unhide HS4).set 1 (by simp) (.pointer (some ⟨gb, 0, none⟩))
          rw [unhide HN]
          exact this
        · rw [unhide HE]
          exact (unhide HL4).far (p := ⟨w.heap.size + 3, 1, none⟩) (by simp) _
        · exact (unhide HPG).upd ((Upd.refl [w.heap.size + 3] w2).setCell (p := ⟨w.heap.size + 3, 1, none⟩) (.inl (by simp)) _) (by simp; omega) (fun x hx => by have := hF1 x hx; simp; omega)
        · refine ⟨by omega, by omega, by omega, fun hx => ?_, fun hx => ?_⟩
          · have := hF1 _ hx; omega
          · have := hF1 _ hx; omega
        · intro x hx
          simp only [List.mem_cons] at hx
          have hsz : (w2.setCell ⟨w.heap.size + 3, 1, none⟩ (.pointer (some ⟨gb, 0, none⟩))).heap.size = w2.heap.size := by simp [World.setCell]
          rw [hsz]
          rcases hx with rfl | rfl | rfl | hx
          · omega
          · omega
          · omega
          · have := hF1 x hx; have := hF2 x hx; omega
end Go.Proofs.YtbnibokloendlaaGreat
