/-
  Contracts: the reference's ground: its free extents.
-/
import Derived.Test.YtbnibokloendlaaGreatGround
namespace Go.Proofs.YtbnibokloendlaaGreat
open Go.RowKit


def extE (x : Pen.Extent) : List Value := [.int .i64 x.pos, .int .i64 x.size]
theorem extE_len (x : Pen.Extent) : (extE x).length = 2 := rfl
abbrev Exts (w : World) (A : Option Addr) (n : Nat) (l : List Pen.Extent) : Prop := Arr extE 2 w A n l
theorem infoExtent : (Tryz.prog.info? 152).map (fun i => (i.zero, i.size, i.bytes)) = some (some (.agg #[.int .i64 0, .int .i64 0]), 2, 16) := by kernel_rfl
theorem bump_snoc (L : List Pen.Extent) (x : Pen.Extent) : Pen.bump (L ++ [x]) = L ++ [(⟨x.pos, x.size + 8⟩ : Pen.Extent)] := by
  unfold Pen.bump; simp
theorem flat_set1 : ∀ (L : List Pen.Extent) (x : Pen.Extent) (u : Int), ((L ++ [x]).flatMap extE).set (L.length * 2 + 1) (.int .i64 u) = (L ++ [Pen.Extent.mk x.pos u]).flatMap extE
  | [], x, u => rfl
  | y :: L, x, u => by
    have ih := flat_set1 L x u
    simp only [List.cons_append, List.flatMap_cons]
    rw [List.set_append_right _ _ (by simp [extE]; omega)]
    congr 1
    rw [← ih]
    congr 1
    simp [extE]; omega
theorem snoc_of_ne {L : List Pen.Extent} (h : L ≠ []) : ∃ M x, L = M ++ [x] := ⟨L.dropLast, L.getLast h, (List.dropLast_concat_getLast h).symm⟩
/-- A ground's size, told once: extents are no more than words, and each is no greater than all -/
def Small (a k : Nat) (L : List Pen.Extent) : Prop := L.length ≤ k ∧ ∀ x ∈ L, 0 ≤ x.size ∧ x.size ≤ 8 * k ∧ (a : Int) ≤ x.pos ∧ x.pos + x.size ≤ a + 8 * k
theorem Small.more {a k : Nat} {L : List Pen.Extent} (h : Small a k L) : Small a (k + 1) L := ⟨by have := h.1; omega, fun x hx => by have := h.2 x hx; omega⟩
theorem Small.snoc {a k : Nat} {L : List Pen.Extent} (h : Small a k L) (p : Int) (hp : p = a + 8 * k) : Small a (k + 1) (L ++ [Pen.Extent.mk p 8]) :=
  ⟨by have := h.1; simp; omega, fun x hx => by
    rw [List.mem_append] at hx
    rcases hx with hx | hx
    · have := h.2 x hx; omega
    · simp at hx; subst hx; simp; omega⟩
theorem Small.grow {a k : Nat} {M : List Pen.Extent} {x : Pen.Extent} (h : Small a k (M ++ [x])) : Small a (k + 1) (M ++ [⟨x.pos, x.size + 8⟩]) :=
  ⟨by have := h.1; simp at this ⊢; omega, fun y hy => by
    rw [List.mem_append] at hy
    rcases hy with hy | hy
    · have := h.2 y (by simp [hy]); omega
    · have := h.2 x (by simp)
      simp at hy; subst hy; simp; omega⟩
theorem ext_last {w : World} {base e gg cap n : Nat} {L : List Pen.Extent} {p : Int} (h : w.ownsRow base e 2 (.slice (some ⟨gg, 0, none⟩) (n + 1) cap) (n + 1) (L.flatMap extE ++ [.int .i64 p, .int .i64 0])) (hn : L.length = n) :
    w.cell? ⟨gg, n * 2 + 1, none⟩ = some (.int .i64 0) ∧ w.frozen? ⟨gg, n * 2 + 1, none⟩ = false ∧
    (w.setCell ⟨gg, n * 2 + 1, none⟩ (.int .i64 8)).ownsRow base e 2 (.slice (some ⟨gg, 0, none⟩) (n + 1) cap) (n + 1) ((L ++ [Pen.Extent.mk p 8]).flatMap extE) ∧ w.grownBy (w.setCell ⟨gg, n * 2 + 1, none⟩ (.int .i64 8)) (some gg) := by
  subst hn
  have e1 : L.flatMap extE ++ [.int .i64 p, .int .i64 0] = (L ++ [Pen.Extent.mk p 0]).flatMap extE := by simp [extE]
  rw [e1] at h
  have hs := h.stored (L.length * 2 + 1) (.int .i64 8)
  rw [flat_set1] at hs
  refine ⟨?_, h.frozenAt _, hs.1, hs.2⟩
  rw [h.cellAt _ (by omega), flat_get extE 2 extE_len (L ++ [Pen.Extent.mk p 0]) L.length 1 (by simp) (by omega)]
  simp [extE]
set_option maxRecDepth 100000 in
set_option maxHeartbeats 2000000 in
theorem r04Extents_any (gb fb a : Nat) (g : List Bool) (w : World) (hG : GR w gb fb a g) :
    Calls Tryz.prog 144 #[.pointer (some ⟨gb, 0, none⟩)] w (fun e w' => Gives extE 2 (Pen.exts a g).length (Pen.exts a g) w e w' ∧ Small a g.length (Pen.exts a g)) := by
  obtain ⟨i0, hi0, hz0, hz1, hz2⟩ := info_parts infoExtent
  obtain ⟨hg, hf, hne, hlen, ha⟩ := hG
  have lg := hg.lt
  have lf := hf.lt
  replace hg := hide hg; replace hf := hide hf
  clear hne
  go_enter Tryz.func144, Tryz.ntmps144
  go_wp2
  go_loopw [3, 4] (fun v i wr => ∃ (k : Nat) (L : List Pen.Extent) (prev : Bool), k ≤ g.length ∧ i = .int .i64 k ∧ wr.ownsRow w.heap.size 152 2 v L.length (L.flatMap extE) ∧ Below w.heap.size w wr ∧
      Pen.exts a g = Pen.extsGo (a + 8 * k) prev L (g.drop k) ∧ (prev = true → L ≠ []) ∧ prev = (decide (0 < k) && g.getD (k - 1) false) ∧ Small a k L) (fun _ i _ => g.length - (intOf i).toNat)
  case atStart => exact ⟨0, [], false, by omega, rfl, own_empty _ _ _ _ _ (Nat.le_refl _) rfl, (Below.refl _ _).alloc (Nat.le_refl _) _, by simp [Pen.exts], by simp, by simp, by simp [Small]⟩
  case round =>
    obtain ⟨k, L, prev, hk, rfl, hown, hB, hgo, hpl, hprev, hsm⟩ := hrel
    have hgr := (unhide hg).below hB
    have hfr := (unhide hf).below hB
    have d0 := hgr.cell 0 rfl
    have d1 := hgr.cell 1 rfl
    have hk1 := hsm.1
    have hsz := hB.size
    replace hgo := hide hgo; replace hB := hide hB; replace hprev := hide hprev; replace hsm := hide hsm
    by_cases hlt : k < g.length
    · have dk : wr.cell? ⟨fb, k, none⟩ = some (.bool (g.getD k false)) := hfr.cell k (by simp [hlt])
      have hdrop : Hid (g.drop k = g.getD k false :: g.drop (k + 1)) := by rw [List.drop_eq_getElem_cons hlt]; simp [Hid, hlt]
      have dp : 0 < k → wr.cell? ⟨fb, k - 1, none⟩ = some (.bool (g.getD (k - 1) false)) := fun h0 => hfr.cell (k - 1) (by rw [List.getElem?_map, List.getElem?_eq_getElem (by omega)]; simp; rw [List.getElem?_eq_getElem (by omega)]; rfl)
      clear hgr hfr
      generalize hb : g.getD k false = b at *
      replace hb := hide hb
      cases b with
      | false =>
        go_wp2
        go_roundw
        case rel =>
          refine ⟨k + 1, L, false, by omega, by go_num, hown, unhide hB, ?_, by simp, by have := unhide hb; rw [show k + 1 - 1 = k from rfl, this]; simp, (unhide hsm).more⟩
          rw [unhide hgo, unhide hdrop]
          show Pen.extsGo (a + 8 * k + 8) false L _ = _
          congr 1 <;> omega
        case measure => simp [intOf]; omega
      | true =>
        cases prev with
        | true =>
          have h0k : 0 < k := by
            have := unhide hprev
            rcases Nat.eq_zero_or_pos k with h0 | h0
            · subst h0; simp at this
            · exact h0
          have hp1 : g.getD (k - 1) false = true := by
            have := unhide hprev
            simp [h0k] at this
            simpa using this.symm
          replace dp := dp h0k
          rw [hp1] at dp
          have hk0 : ((k : Int) == 0) = false := by simp; omega
          obtain ⟨M, x, rfl⟩ := snoc_of_ne (hpl rfl)
          have hM : M.length + 1 ≤ k := by simpa using hk1
          clear hk1
          obtain ⟨gg, cap, hv, hgb, hgl⟩ := hown.form (by simp)
          subst hv
          have cx : wr.cell? ⟨gg, M.length * 2 + 1, none⟩ = some (.int .i64 x.size) := by
            rw [hown.cellAt _ (by simp; omega)]
            rw [flat_get extE 2 extE_len (M ++ [x]) M.length 1 (by simp) (by omega)]
            simp [extE]
          have fx := hown.frozenAt (M.length * 2 + 1)
          have hst := hide (hown.stored (M.length * 2 + 1) (.int .i64 (x.size + 8)))
          have hx := (unhide hsm).2 x (by simp)
          have hx1 := hx.1
          have hx2 := hx.2.1
          replace hown := hide hown
          clear hx
          go_wp2
          go_roundw
          case rel =>
            refine ⟨k + 1, M ++ [⟨x.pos, x.size + 8⟩], true, by omega, by go_num, ?_, ?_, ?_, by simp, ?_, (unhide hsm).grow⟩
            · have h := (unhide hst).1
              rw [flat_set1] at h
              rw [show (M ++ [Pen.Extent.mk x.pos (x.size + 8)]).length = (M ++ [x]).length from by simp]
              exact h
            · exact (unhide hB).grown (unhide hst).2 hsz (fun q hq => by injection hq with hq; omega)
            · rw [unhide hgo, unhide hdrop]
              show Pen.extsGo (a + 8 * k + 8) true (Pen.bump (M ++ [x])) _ = _
              rw [bump_snoc]
              congr 1 <;> omega
            · have := unhide hb; rw [show k + 1 - 1 = k from rfl, this]; simp
          case measure => simp [intOf]; omega
        | false =>
          have hnew : k = 0 ∨ (0 < k ∧ g.getD (k - 1) false = false) := by
            have := unhide hprev
            rcases Nat.eq_zero_or_pos k with h0 | h0
            · exact .inl h0
            · simp [h0] at this; exact .inr ⟨h0, by simpa using this⟩
          obtain ⟨A', c', rfl, hc', hf'⟩ := own_slice hown
          replace hown := hide hown
          rcases hnew with h0 | ⟨h0, hp1⟩
          · subst h0
            clear dp
            have hL : L = [] := List.eq_nil_of_length_eq_zero (by omega)
            subst hL
            go_wp2_with (at_builtin; (refine wpList_append_own _ rfl (.tmp 36) (.tmp 45) 146 rfl w.heap.size 152 i0 _ 2 16 Tryz.underlying146 hi0 hz0 hz1 hz2 rfl (by omega) (.slice A' 0 c') 0 [] rfl ((unhide hown).alloc _) ⟨wr.heap.size, 0, none⟩ 1 1 [.int .i64 (a : Int), .int .i64 0] rfl rfl (cell_new2 _ _ _ _) (by simp [Value.oneCell']) (by unfold maxLen; omega) (by omega) (by simp; omega) ?_); go_loud (intro v1 w1 hown1 hgrow1 hgat; obtain ⟨gg, cap, hv, hgb, hgl⟩ := hown1.form (by omega); subst hv; obtain ⟨cx, fx, hst1, hst2⟩ := ext_last (L := []) hown1 rfl; replace hst1 := hide hst1; replace hst2 := hide hst2; replace hown1 := hide hown1))
            · go_roundw
              case rel =>
                have hsw := hgrow1.size
                simp at hsw
                have hB1 : Below w.heap.size w w1 := ((unhide hB).alloc hsz _).grown hgrow1 (by simp; omega) (by intro q hq; have := own_row_ge (unhide hown) hq; exact this)
                refine ⟨1, [] ++ [Pen.Extent.mk a 8], true, by omega, by go_num, ?_, ?_, ?_, by simp, ?_, (unhide hsm).snoc _ (by simp)⟩
                · have h := unhide hst1
                  exact h
                · exact hB1.grown (unhide hst2) (by omega) (fun q hq => by injection hq with hq; omega)
                · rw [unhide hgo, unhide hdrop]
                  show Pen.extsGo (a + 8 * (0 : Nat) + 8) true (Pen.bump ([] ++ [Pen.Extent.mk (a + 8 * (0 : Nat)) 0])) _ = _
                  rw [bump_snoc]
                  congr 1 <;> simp
                · have := unhide hb; rw [this]; simp
              case measure => simp [intOf]; omega
          · rw [hp1] at dp
            replace dp := dp h0
            have hk0 : ((k : Int) == 0) = false := by simp; omega
            go_wp2_with (at_builtin; (refine wpList_append_own _ rfl (.tmp 36) (.tmp 45) 146 rfl w.heap.size 152 i0 _ 2 16 Tryz.underlying146 hi0 hz0 hz1 hz2 rfl (by omega) (.slice A' L.length c') L.length (L.flatMap extE) rfl ((unhide hown).alloc _) ⟨wr.heap.size, 0, none⟩ 1 1 [.int .i64 ((a : Int) + 8 * k), .int .i64 0] rfl rfl (cell_new2 _ _ _ _) (by simp [Value.oneCell']) (by unfold maxLen; omega) (by omega) (by simp; omega) ?_); go_loud (intro v1 w1 hown1 hgrow1 hgat; obtain ⟨gg, cap, hv, hgb, hgl⟩ := hown1.form (by omega); subst hv; obtain ⟨cx, fx, hst1, hst2⟩ := ext_last hown1 rfl; replace hst1 := hide hst1; replace hst2 := hide hst2; replace hown1 := hide hown1))
            · go_roundw
              case rel =>
                have hsw := hgrow1.size
                simp at hsw
                have hB1 : Below w.heap.size w w1 := ((unhide hB).alloc hsz _).grown hgrow1 (by simp; omega) (by intro q hq; have := own_row_ge (unhide hown) hq; exact this)
                refine ⟨(k + 1), L ++ [Pen.Extent.mk (a + 8 * k) 8], true, by omega, by go_num, ?_, ?_, ?_, by simp, ?_, (unhide hsm).snoc _ (by simp)⟩
                · have h := unhide hst1
                  rw [show (L ++ [Pen.Extent.mk (a + 8 * k) 8]).length = L.length + 1 from by simp]
                  exact h
                · exact hB1.grown (unhide hst2) (by omega) (fun q hq => by injection hq with hq; omega)
                · rw [unhide hgo, unhide hdrop]
                  show Pen.extsGo (a + 8 * k + 8) true (Pen.bump (L ++ [Pen.Extent.mk (a + 8 * k) 0])) _ = _
                  rw [bump_snoc]
                  congr 1 <;> omega
                · have := unhide hb; rw [show (k + 1) - 1 = k from rfl, this]; simp
              case measure => simp [intOf]; omega
    · have hkn : k = g.length := by omega
      subst hkn
      have hL : Pen.exts a g = L := by rw [unhide hgo, List.drop_length]; rfl
      replace hL := hide hL
      obtain ⟨A', c', rfl, hc', hf'⟩ := own_slice hown
      replace hown := hide hown
      clear hgr hfr
      go_wp2
      go_ret
      rw [unhide hL]
      exact ⟨Gives.mk (c := c') hc' hf' (Arr.of_reads (Reads.of_own (unhide hown)) extE_len (by omega) rfl (by omega) (Nat.le_refl _)) (unhide hB) rfl, unhide hsm⟩

end Go.Proofs.YtbnibokloendlaaGreat
