/-
  The law HistOrder: it returns true.
-/
import Derived.Test.YtbnibokloendlaaGreatShown
import Derived.Test.YtbnibokloendlaaGreatFew
namespace Go.Proofs.YtbnibokloendlaaGreat
open Go.RowKit

set_option maxRecDepth 100000 in
set_option maxHeartbeats 8000000 in
theorem lawOrder_any (A : Option Addr) (n c : Nat) (l : List OpV) (w : World) (h : OpsAt w A (min n 30) l) (hnn : n ≤ 9223372036854775807) (hv : ∀ o ∈ l, o.sn ≤ o.sc ∧ o.sc ≤ 9223372036854775807) :
    Calls Tryz.prog 7 #[.slice A n c] w (R (.bool true) w) := by
  have hm : (fewL l).length ≤ 30 := by simp [fewL]; omega
  have H0 := hide h; have HV := hide hv
  clear h hv
  go_enter Tryz.func7, Tryz.ntmps7
  go_wp2_with (first | (go_at_call 9; refine (shown_any _).mono ?_; rintro e w1 ⟨rfl, hb⟩; have H1 := hide ((unhide H0).below hb); have HB1 := hide hb; clear hb) | (go_at_call 12; refine (few_any A n c l _ (unhide H1) hnn (unhide HV)).mono ?_; rintro e w2 ⟨A2, c2, rfl, hO2, hc2, _, hb⟩; have HB2 := hide ((unhide HB1).trans (hb.mono (unhide HB1).size)); have HO2 := hide hO2; clear hb hO2) | (go_at_call 16; refine (order_any A2 _ c2 (fewL l) _ (unhide HO2) (by omega)).mono ?_; rintro e w3 ⟨A3, c3, os, rfl, hin, hO3, _, hc3, hb⟩; have HB3 := hide ((unhide HB2).trans (hb.mono (unhide HB2).size)); have HO3 := hide hO3; have HA3 := hide ((unhide HO2).below hb); have HIN := hide hin; rw [hin.len]; clear hb hO3 hin))
  generalize hL : fewL l = L at *
  generalize hM : L.length = m at *
  generalize hq : (took L m).length = q at *
  have HM := hide hM; have HQ := hide hq
  clear hL hM hq
  have hqm : q ≤ m := by have := took_len L m; have h2 := unhide HQ; omega
  have hlo : os.length = q := by have := (unhide HIN).len; rw [this]; exact unhide HQ
  have HLO := hide hlo
  clear hlo
  go_loop [6, 7] (fun x i => ∃ k : Nat, k ≤ m ∧ i = .int .i64 k ∧ x = .int .i64 ((took L k).length : Nat)) (fun _ i => m - (intOf i).toNat)
  case atStart => exact ⟨0, by omega, rfl, rfl⟩
  case round =>
    obtain ⟨k, hk, rfl, rfl⟩ := hrel
    by_cases hlt : k < m
    · obtain ⟨b, off, rfl, hb, hc⟩ := (unhide HA3).at_ (by omega)
      have cp : w3.cell? ⟨b, off + k * 14 + 9, none⟩ = some (.int .i64 (keyOf L k)) := hc k hlt 9 _ rfl
      have hts := took_succ L k
      have hln := took_len L k
      have HT := hide hts
      clear hc hts
      by_cases hp : 0 ≤ keyOf L k
      · go_wp2
        go_round
        case rel => exact ⟨k + 1, by omega, by go_num, by rw [unhide HT, if_pos hp, List.length_append]; go_num⟩
        case measure => simp [intOf]; omega
      · go_wp2
        go_round
        case rel => exact ⟨k + 1, by omega, by go_num, by rw [unhide HT, if_neg hp, List.append_nil]⟩
        case measure => simp [intOf]; omega
    · have e : k = m := by omega
      subst e
      have hq' : (took L k).length = q := unhide HQ
      rw [hq']
      clear hq'
      go_wp2
      go_loopw [8] (fun i wr => ∃ j : Nat, j ≤ q ∧ i = .int .i64 j ∧ OpsAt wr A2 k L ∧ Arr natE 1 wr A3 os.length os ∧ Below w.heap.size w wr) (fun i _ => q - (intOf i).toNat)
      case atStart => exact ⟨0, by omega, rfl, unhide HA3, unhide HO3, unhide HB3⟩
      case round =>
        obtain ⟨j, hj, rfl, hA4, hO4, hB4⟩ := hrel
        have HA4 := hide hA4; have HO4 := hide hO4; have HB4 := hide hB4
        clear hA4 hO4 hB4 HA3 HO3 HB3
        by_cases hlj : j < q
        · obtain ⟨bo, oo, rfl, hbo, hco⟩ := (unhide HO4).at_ (by have := unhide HLO; omega)
          have hjo : j < os.length := by have := unhide HLO; omega
          have cj : wr.cell? ⟨bo, oo + j, none⟩ = some (.int .i64 (os.getD j default : Nat)) := by have := hco j hjo 0 _ rfl; simpa using this
          obtain ⟨x, hx⟩ : ∃ x, x = os.getD j default := ⟨_, rfl⟩
          have hxm : x ∈ took L k := by rw [hx]; exact (unhide HIN).mem _ (getD_mem _ _ hjo)
          obtain ⟨hx1, hx2⟩ := took_mem.1 hxm
          rw [← hx] at cj
          obtain ⟨b, off, rfl, hb, hc⟩ := (unhide HA4).at_ (by omega)
          have cx : wr.cell? ⟨b, off + x * 14 + 9, none⟩ = some (.int .i64 (keyOf L x)) := hc x hx1 9 _ rfl
          have HX := hide hx
          have d1 : decide ((x : Int) < 0) = false := by simp
          have d2 : decide (k ≤ x) = false := by simp; omega
          have d3 : decide (keyOf L x < 0) = false := by simp; omega
          have xk : (x : Int) < (k : Int) := by omega
          clear hx hxm
          rcases Nat.eq_zero_or_pos j with h0 | h0
          · have d0 : ((j : Int) == 0) = true := by simp; omega
            clear hc hco h0
            go_wp2
            go_roundw
            case rel => exact ⟨j + 1, by omega, by go_num, unhide HA4, unhide HO4, unhide HB4⟩
            case measure => simp [intOf] <;> omega
          · obtain ⟨jp, rfl⟩ : ∃ jp, j = jp + 1 := ⟨j - 1, by omega⟩
            have cjp : wr.cell? ⟨bo, oo + jp, none⟩ = some (.int .i64 (os.getD jp default : Nat)) := by have := hco jp (by omega) 0 _ rfl; simpa using this
            obtain ⟨y, hy⟩ : ∃ y, y = os.getD jp default := ⟨_, rfl⟩
            have hym : y ∈ took L k := by rw [hy]; exact (unhide HIN).mem _ (getD_mem _ _ (by omega))
            obtain ⟨hy1, hy2⟩ := took_mem.1 hym
            rw [← hy] at cjp
            have cy : wr.cell? ⟨b, off + y * 14 + 9, none⟩ = some (.int .i64 (keyOf L y)) := hc y hy1 9 _ rfl
            have hlex : lex (keyOf L) y x := by
              have := List.pairwise_iff_getElem.1 (unhide HIN).ord jp (jp + 1) (by omega) hjo (by omega)
              have e1 := unhide HX
              rw [hy, e1, List.getD_eq_getElem?_getD, List.getD_eq_getElem?_getD, List.getElem?_eq_getElem (by omega), List.getElem?_eq_getElem hjo]
              exact this
            have yk : (y : Int) < (k : Int) := by omega
            clear hy hym hc hco
            rcases hlex with hlt' | ⟨heq, hlt'⟩
            · have d4 : decide (keyOf L x < keyOf L y) = false := by simp; omega
              have d5 : (keyOf L y == keyOf L x) = false := by simp; omega
              go_wp2
              go_quiet (fail)
              go_wp2
              go_roundw
              case rel => exact ⟨jp + 1 + 1, by omega, by go_num, (unhide HA4).drewN nq, (unhide HO4).drewN nq, below_drewN (unhide HB4) nq⟩
              case measure => simp [intOf] <;> omega
            · have d4 : decide (keyOf L x < keyOf L y) = false := by simp; omega
              have d5 : (keyOf L y == keyOf L x) = true := by simp; omega
              have d6 : decide (x ≤ y) = false := by simp; omega
              clear heq
              go_wp2
              go_quiet (fail)
              go_wp2
              go_roundw
              case rel => exact ⟨jp + 1 + 1, by omega, by go_num, (unhide HA4).drewN nq, (unhide HO4).drewN nq, below_drewN (unhide HB4) nq⟩
              case measure => simp [intOf] <;> omega
        · go_wp2
          go_ret
          exact R.bool rfl (unhide HB4)
end Go.Proofs.YtbnibokloendlaaGreat
