/-
  Whether finalizers may be: the walk of the program's Right.
-/
import Derived.Test.YtbnibokloendlaaGreatFinP
import Derived.Test.YtbnibokloendlaaGreatWithin
namespace Go.Proofs.YtbnibokloendlaaGreat
open Go.RowKit

set_option maxRecDepth 100000 in
set_option maxHeartbeats 4000000 in
theorem finRight_any (A : Option Addr) (n c : Nat) (f : List (List Pen.FOp)) (w : World) (h : FinsAt w A n f) :
    Calls Tryz.prog 24 #[.slice A n c] w (R (.bool (Pen.finsRight f)) w) := by
  obtain ⟨hs, hA, hl, hF⟩ := h
  have hn6 := hA.2.1
  obtain ⟨z, hz, hzs⟩ : ∃ z : Array Value, Hid (∀ w, (zeroValue 110).run Tryz.prog w = .ok (.agg z) w) ∧ Hid (z.size = 15) := ⟨_, fun w => zeroKinds w, rfl⟩
  go_enter Tryz.func24, Tryz.ntmps24
  go_wp2_with (first | ((with_reducible refine next_is (.alloc 110) rfl ?_); refine wpList_allocZ rfl 110 rfl z (unhide hz) ?_) | ((with_reducible refine next_is (.store 110 (.tmp 3) (.tmp 8)) rfl ?_); refine wpList_storeN rfl 110 (.tmp 3) (.tmp 8) rfl _ rfl (by simp) kindsC.toArray z rfl sizeKinds (unhide hzs) kindsOne ?_) | (go_at_call 55; refine (kinds_any _).mono ?_; rintro e w' ⟨X, rfl, rfl⟩))
  go_loopw [11] (fun x wr => ∃ i : Nat, i ≤ n ∧ x = .int .i64 i ∧ (f.take i).all opsRight = true ∧ FA wr (w.heap.size + 1) kindsC ∧ Below w.heap.size w wr) (fun x _ => n - (intOf x).toNat)
  case atStart => exact ⟨0, by omega, rfl, by simp, FA.new' _ _ kindsC _ (by simp), below_a2 _ _ _⟩
  case round =>
    obtain ⟨i, hi, rfl, hok, hK, hB⟩ := hrel
    by_cases hlt : i < n
    · obtain ⟨b, off, rfl, hb, hc⟩ := hA.at_ (by omega)
      obtain ⟨hO, hcap, hwf⟩ := hF i hlt
      have ch : wr.cell? ⟨b, off + i, none⟩ = some (.slice (hs.getD i default).A (hs.getD i default).n (hs.getD i default).c) := by
        rw [hB.cell (by simp; omega)]
        have := hc i hlt 0 _ rfl
        simpa using this
      obtain ⟨sv, hsv⟩ : ∃ sv, sv = hs.getD i default := ⟨_, rfl⟩
      obtain ⟨ops, hops⟩ : ∃ ops, ops = f.getD i [] := ⟨_, rfl⟩
      rw [← hsv] at ch hO hcap
      rw [← hops] at hO hwf
      obtain ⟨OA, m, oc⟩ := sv
      simp only at ch hO hcap
      have hml := hO.1
      have hm6 := hO.2.1
      have HS := hide hsv; have HO := hide hops; have HK := hide hok; have HKC := hide hK; have HB := hide hB; have HL := hide hl; have HM := hide hml; have HOO := hide hO; have HWF := hide hwf
      clear hsv hops hok hK hB hl hml hO hc hwf hF hA
      go_wp2
      go_loopw [17] (fun x wr2 => ∃ j : Nat, j ≤ m ∧ x = .int .i64 j ∧ (ops.take j).all Pen.fopRight = true ∧ FA wr2 (w.heap.size + 1) kindsC ∧ Below w.heap.size w wr2) (fun x _ => m - (intOf x).toNat)
      case atStart => exact ⟨0, by omega, rfl, by simp, unhide HKC, unhide HB⟩
      case round =>
        obtain ⟨j, hj, rfl, hok, hK, hB⟩ := hrel
        clear ch
        by_cases hlj : j < m
        · obtain ⟨bo, oo, rfl, hbo, hco⟩ := (unhide HOO).at_ (by omega)
          obtain ⟨o, ho⟩ : ∃ o, o = ops.getD j default := ⟨_, rfl⟩
          have hcell : ∀ q u, (fopE o)[q]? = some u → wr.cell? ⟨bo, oo + j * 3 + q, none⟩ = some u := by
            intro q u hu
            rw [hB.cell (by simp; omega)]
            exact hco j hlj q u (by rw [← ho]; exact hu)
          have hw0 : 0 ≤ o.op ∧ o.op ≤ 255 := unhide HWF o (by rw [ho, List.getD_eq_getElem?_getD, List.getElem?_eq_getElem (by have := unhide HM; omega)]; exact List.getElem_mem _)
          have hzz := hK.lt
          have hz0 : w.heap.size + 1 < wr.heap.size := hzz
          clear hco hzz
          by_cases h5 : o.op < 5
          · obtain ⟨k, hk⟩ : ∃ k : Nat, o.op = k := ⟨o.op.toNat, by omega⟩
            have hk5 : k < 5 := by omega
            have e0 : wr.cell? ⟨bo, oo + j * 3, none⟩ = some (.int .u8 (k : Int)) := by rw [← hk]; exact hcell 0 _ rfl
            have e1 := hcell 1 _ rfl
            have e2 := hcell 2 _ rfl
            have ka : wr.cell? ⟨w.heap.size + 1, k * 3, none⟩ = some (.int .i64 (mostA k)) := hK.cell (k * 3) (by rcases k with _ | _ | _ | _ | _ | k <;> first | rfl | omega)
            have kb : wr.cell? ⟨w.heap.size + 1, k * 3 + 1, none⟩ = some (.int .i64 (mostB k)) := hK.cell (k * 3 + 1) (by rcases k with _ | _ | _ | _ | _ | k <;> first | rfl | omega)
            have hfo := hide (fop_small hk hk5)
            have HOK := hide hok; have HK2 := hide hK; have HB2 := hide hB; have HO2 := hide ho; have HKK := hide hk
            have k5 : (k : Int) < 5 := by omega
            have kd : decide ((5 : Int) ≤ (k : Int)) = false := by simp; omega
            clear hcell hok hK hB ho hk hw0 h5
            by_cases ha : 0 ≤ o.a ∧ o.a ≤ mostA k
            · have hda : Hid ((decide (0 ≤ o.a) && decide (o.a ≤ mostA k)) = true) := by simp only [Hid]; simp; omega
              clear ha
              by_cases hb' : 0 ≤ o.b ∧ o.b ≤ mostB k
              · have hdb : Hid ((decide (0 ≤ o.b) && decide (o.b ≤ mostB k)) = true) := by simp only [Hid]; simp; omega
                clear hb'
                go_wp2
                go_quiet (((go_at_call 34; first | (with_reducible exact Calls.quiet_of_same (within_is' o.a 0 (mostA k) _ (unhide hda) _)) | (with_reducible exact Calls.quiet_of_same (within_is' o.b 0 (mostB k) _ (unhide hdb) _)))))
                go_wp2
                go_roundw
                case rel => exact ⟨j + 1, by omega, by go_num, ops_take (by have := unhide HM; omega) (unhide HOK) (by rw [← unhide HO2, unhide hfo, unhide hda, unhide hdb]; rfl), ((unhide HK2).alloc _).drewN nq, below_drewN ((unhide HB2).alloc (by omega) _) nq⟩
                case measure => simp [intOf] <;> omega
              · have hdb : Hid ((decide (0 ≤ o.b) && decide (o.b ≤ mostB k)) = false) := by simp only [Hid]; simp; omega
                clear hb'
                go_wp2
                go_quiet (((go_at_call 34; first | (with_reducible exact Calls.quiet_of_same (within_is' o.a 0 (mostA k) _ (unhide hda) _)) | (with_reducible exact Calls.quiet_of_same (within_is' o.b 0 (mostB k) _ (unhide hdb) _)))))
                go_wp2
                go_ret
                exact R.bool (fins_bad (i := i) (by have := unhide HL; omega) (ops_bad (i := j) (by have := unhide HM; rw [← unhide HO]; omega) (by rw [← unhide HO, ← unhide HO2, unhide hfo, unhide hda, unhide hdb]; rfl))).symm (below_drewN ((unhide HB2).alloc (by omega) _) nq)
            · have hda : Hid ((decide (0 ≤ o.a) && decide (o.a ≤ mostA k)) = false) := by simp only [Hid]; simp; omega
              clear ha
              go_wp2
              go_quiet ((go_at_call 34; exact Calls.quiet_of_same (within_is' _ _ _ _ (unhide hda) _)))
              go_wp2
              go_ret
              exact R.bool (fins_bad (i := i) (by have := unhide HL; omega) (ops_bad (i := j) (by have := unhide HM; rw [← unhide HO]; omega) (by rw [← unhide HO, ← unhide HO2, unhide hfo, unhide hda]; rfl))).symm (below_drewN ((unhide HB2).alloc (by omega) _) nq)
          · have kd : decide ((5 : Int) ≤ o.op) = true := by simp; omega
            have e0 : wr.cell? ⟨bo, oo + j * 3, none⟩ = some (.int .u8 o.op) := hcell 0 _ rfl
            have e1 := hcell 1 _ rfl
            have e2 := hcell 2 _ rfl
            have hfo := hide (fop_great (o := o) (by omega))
            obtain ⟨w0, w1⟩ := hw0
            have HOK := hide hok; have HB2 := hide hB; have HO2 := hide ho
            clear hcell hok hK hB ho h5
            go_wp2
            go_quiet (fail)
            go_wp2
            go_ret
            exact R.bool (fins_bad (i := i) (by have := unhide HL; omega) (ops_bad (i := j) (by have := unhide HM; rw [← unhide HO]; omega) (by rw [← unhide HO, ← unhide HO2]; exact unhide hfo))).symm (below_drewN ((unhide HB2).alloc (by omega) _) nq)
        · have e : j = m := by omega
          subst e
          have HOK := hide hok; have HK2 := hide hK; have HB2 := hide hB
          clear hok hK hB
          by_cases h8 : j ≤ 8
          · go_wp2
            go_roundw
            case rel => exact ⟨i + 1, by omega, by go_num, fins_take (by have := unhide HL; omega) (unhide HK) (by unfold opsRight; have hm := unhide HM; have h := unhide HOK; rw [← unhide HO]; rw [List.take_of_length_le (by omega)] at h; rw [h]; simp; omega), unhide HK2, unhide HB2⟩
            case measure => simp [intOf] <;> omega
          · go_wp2
            go_ret
            exact R.bool (fins_bad (i := i) (by have := unhide HL; omega) (by unfold opsRight; have hm := unhide HM; rw [← unhide HO, Bool.and_eq_false_iff]; left; simp; omega)).symm (unhide HB2)
    · have e : i = n := by omega
      subst e
      have HB := hide hB; have HT := hide (fins_end (f := f) (by rw [hl]; exact hok))
      have HL := hide hl
      clear hok hK hB hF hA hl
      go_wp2
      go_ret
      exact R.bool (by rw [unhide HT, unhide HL, Bool.eq_iff_iff]; simp <;> omega) (unhide HB)
end Go.Proofs.YtbnibokloendlaaGreat
