/-
  Calls put in order by their Points: the walk of the program's Order.
-/
import Derived.Test.YtbnibokloendlaaGreatOrder
namespace Go.Proofs.YtbnibokloendlaaGreat
open Go.RowKit

theorem one_new2 (w : World) (X : Obj) (v : Value) (t : TypeId) (g : Nat) (hg : g = w.heap.size + 1 := by rfl) : ∀ j u, [v][j]? = some u → ((w.alloc X).alloc (.cells #[v] t)).cell? ((⟨g, 0, none⟩ : Addr).add j) = some u := by
  subst hg
  intro j u hu
  rw [add_off, Nat.zero_add]
  have e : w.heap.size + 1 = (w.alloc X).heap.size := by simp
  rw [e, World.cell?_alloc_new]
  simpa using hu
theorem getD_mem {l : List Nat} (i d : Nat) (h : i < l.length) : l.getD i d ∈ l := by
  rw [List.getD_eq_getElem?_getD, List.getElem?_eq_getElem h]; exact List.getElem_mem h
theorem row_of_own {w : World} {base g cap : Nat} {l : List Nat} {e : TypeId} (h : w.ownsRow base e 1 (.slice (some ⟨g, 0, none⟩) l.length cap) l.length (l.flatMap natE)) : Row w g l.length (fun i => l.getD i 0) := by
  have hf := FA.of_own h
  refine ⟨hf.lt, fun i hi => hf.cell i ?_, hf.free⟩
  have := flat_get natE 1 natE_len l i 0 hi (by omega)
  simp only [Nat.mul_one, Nat.add_zero] at this
  rw [this]; rfl
theorem row_arr {w : World} {g n : Nat} {C : Nat → Nat} (h : Row w g n C) (hn : n ≤ 1000000) : Arr natE 1 w (some ⟨g, 0, none⟩) n ((List.range n).map C) := by
  refine ⟨by simp, hn, fun _ => ⟨g, 0, rfl, h.1, fun i hi j u hu => ?_⟩⟩
  have hj : j < 1 := (List.getElem?_eq_some_iff.1 hu).1
  obtain rfl : j = 0 := by omega
  have e : ((List.range n).map C).getD i default = C i := by simp [List.getD_eq_getElem?_getD, hi]
  rw [e] at hu
  have : u = .int .i64 (C i) := by simpa [natE] using hu.symm
  subst this
  simpa using h.2.1 i hi
set_option maxRecDepth 100000 in
set_option maxHeartbeats 4000000 in
theorem order_any (A : Option Addr) (n c : Nat) (l : List OpV) (w : World) (h : OpsAt w A n l) (hn : n ≤ 100) :
    Calls Tryz.prog 16 #[.slice A n c] w (OrderP l n w) := by
  obtain ⟨i0, hi0, hz0, hz1, hz2⟩ := info_parts infoInt
  go_enter Tryz.func16, Tryz.ntmps16
  go_wp2
  go_loopw [3, 8] (fun v i wr => ∃ k : Nat, k ≤ n ∧ i = .int .i64 k ∧ wr.ownsRow (w.heap.size + 1) 3 1 v (took l k).length ((took l k).flatMap natE) ∧ (took l k = [] → v = .slice none 0 0) ∧ Below (w.heap.size + 1) (w.alloc (.cells #[.slice A n c] 25)) wr) (fun _ i _ => n - (intOf i).toNat)
  case atStart => exact ⟨0, by omega, rfl, ⟨rfl, .inl ⟨rfl, rfl⟩⟩, fun _ => rfl, Below.refl _ _⟩
  case round =>
    obtain ⟨k, hk, rfl, hown, hnil, hbel⟩ := hrel
    by_cases hlt : k < n
    · obtain ⟨b, off, rfl, hb, hc⟩ := h.at_ (by omega)
      obtain ⟨o, ho⟩ : ∃ o, o = l.getD k default := ⟨_, rfl⟩
      have hcell : ∀ j u, (opE o)[j]? = some u → wr.cell? ⟨b, off + k * 14 + j, none⟩ = some u := by
        intro j u hu
        rw [hbel.cell (by simp; omega)]
        rw [World.cell?_alloc_lt _ _ _ (by simp; omega)]
        exact hc k hlt j u (by rw [← ho]; exact hu)
      have hkey : keyOf l k = o.point := by rw [ho]; rfl
      clear hc ho
      have c0 : wr.cell? ⟨b, off + k * 14, none⟩ = _ := hcell 0 _ rfl
      have c1 := hcell 1 _ rfl
      have c2 := hcell 2 _ rfl
      have c3 := hcell 3 _ rfl
      have c4 := hcell 4 _ rfl
      have c5 := hcell 5 _ rfl
      have c6 := hcell 6 _ rfl
      have c7 := hcell 7 _ rfl
      have c8 := hcell 8 _ rfl
      have c9 := hcell 9 _ rfl
      have c10 := hcell 10 _ rfl
      have c11 := hcell 11 _ rfl
      have c12 := hcell 12 _ rfl
      have c13 := hcell 13 _ rfl
      have hln := took_len l k
      have hts := took_succ l k
      rw [hkey] at hts
      have HT := hide hts; have HN := hide hnil
      clear hts hnil hcell
      replace hkey := hide hkey
      have HB := hide hbel
      clear hbel
      have hsz := hide ((unhide HB).size)
      replace hown := hide hown
      by_cases hp : 0 ≤ o.point
      · obtain ⟨A', c', rfl, hc', hf'⟩ := own_slice (unhide hown)
        go_wp2_with (at_builtin; (refine wpList_append_own _ rfl (.tmp 16) (.tmp 18) 34 rfl (w.heap.size + 1) 3 i0 (.int .i64 0) 1 8 Tryz.underlying34 hi0 hz0 hz1 hz2 rfl (by omega) _ _ _ rfl (((unhide hown).alloc _).alloc _) ⟨wr.heap.size + 1, 0, none⟩ 1 1 [.int .i64 (k : Int)] rfl rfl (one_new2 _ _ _ _ _) (by simp [Value.oneCell']) (by unfold maxLen; omega) (by omega) (by have := unhide hsz; simp at this ⊢; omega) ?_); intro v1 w1 hown1 hgrow1 hnil1; replace hown1 := hide hown1; replace hgrow1 := hide hgrow1; clear hnil1)
        go_roundw
        case rel =>
          refine ⟨k + 1, by omega, by go_num, ?_, ?_, ?_⟩
          · rw [unhide HT, if_pos hp, List.length_append, List.flatMap_append]; exact unhide hown1
          · rw [unhide HT, if_pos hp]; simp
          · refine Below.grown (((unhide HB).alloc (by have := unhide hsz; simpa using this) _).alloc (by have := unhide hsz; simp at this ⊢; omega) _) (unhide hgrow1) (by have := unhide hsz; simp at this ⊢; omega) (fun q hq => own_row_ge (unhide hown) hq)
        case measure => simp [intOf] <;> omega
      · go_wp2
        go_roundw
        case rel => exact ⟨k + 1, by omega, by go_num, by rw [unhide HT, if_neg hp, List.append_nil]; exact (unhide hown).alloc _, by rw [unhide HT, if_neg hp, List.append_nil]; exact unhide HN, (unhide HB).alloc (by have := unhide hsz; simp at this; omega) _⟩
        case measure => simp [intOf] <;> omega
    · have e : k = n := by omega
      subst e
      have hsz := hbel.size
      simp only [World.size_alloc] at hsz
      have hbox : wr.cell? ⟨w.heap.size, 0, none⟩ = some (.slice A k c) := by
        rw [hbel.cell (by simp)]
        rw [World.cell?_alloc_new]; rfl
      have hB : Below w.heap.size w wr := (below_a1 w _).trans (hbel.mono (by omega))
      rcases Nat.eq_zero_or_pos (took l k).length with h0 | h0
      · have ht : took l k = [] := List.eq_nil_of_length_eq_zero h0
        obtain rfl := hnil ht
        have HT := hide ht; have HB := hide hB
        clear ht h0 hown hnil hbel hB hbox
        go_wp2_with (go_at_call 30; refine (sortStable_none _ _).mono ?_; rintro e w' ⟨rfl, rfl⟩)
        go_ret
        exact ⟨none, 0, [], rfl, ⟨by rw [unhide HT], by simp, List.Pairwise.nil⟩, Arr.nil_ _ _ _ _, by simp, by simp, unhide HB⟩
      · obtain ⟨g, cap, rfl, hg, hgl⟩ := hown.form h0
        have hcap := own_cap hown
        have hR : Row wr g (took l k).length (fun i => (took l k).getD i 0) := row_of_own hown
        have hkp : 0 < k := Nat.lt_of_lt_of_le h0 (took_len l k)
        obtain ⟨b, off, rfl, hb, _⟩ := h.at_ hkp
        have hC : CmpAt 31 #[.pointer (some ⟨w.heap.size, 0, none⟩)] g k (keyOf l) wr := cmpAt_order (h.below hB) hbox (by omega) (by omega) (by omega) (by intro a ha; injection ha with ha; subst ha; show b ≠ g; omega)
        have hln := took_len l k
        have HB := hide hB; have HC := hide hC; have HR := hide hR
        clear hB hC hR hown hnil hbel hbox
        go_wp2_with (go_at_call 30; refine (sortStable_any g (took l k).length cap k _ (keyOf l) _ _ (unhide HR) (unhide HC) (by omega) (fun i hi => (took_mem.1 (getD_mem _ _ hi)).1) (took_up l k)).mono ?_; rintro e w' ⟨C, rfl, hW, hU, hS⟩; replace hW := hide hW; replace hU := hide hU; replace hS := hide hS)
        go_ret
        refine ⟨some ⟨g, 0, none⟩, cap, (List.range (took l k).length).map C, ?_, inOrder_of (unhide hS), ?_, ?_, by simpa using hcap, ?_⟩
        · simp
        · have := row_arr (unhide hW) (by omega)
          simpa using this
        · intro a ha; injection ha with ha; subst ha; show w.heap.size ≤ g; omega
        · have := (Upd.of_below (M := []) (unhide HB)).trans (unhide hU) (by intro x hx; simp at hx; subst hx; right; omega)
          exact this.to_below
end Go.Proofs.YtbnibokloendlaaGreat
