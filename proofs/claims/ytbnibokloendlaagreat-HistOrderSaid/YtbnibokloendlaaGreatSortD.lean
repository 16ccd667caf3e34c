/-
  The merge in place.
-/
import Derived.Test.YtbnibokloendlaaGreatSortC
namespace Go.Proofs.YtbnibokloendlaaGreat
open Go.RowKit

theorem u64_small {x : Int} (h0 : 0 ≤ x) (h1 : x ≤ 1000) : IntKind.u64.wrap x = x := by rw [IntKind.wrap_u64]; omega
theorem i64_small {x : Int} (h0 : 0 ≤ x) (h1 : x ≤ 1000) : IntKind.i64.wrap x = x := by rw [IntKind.wrap_i64]; omega
set_option maxRecDepth 100000 in
set_option maxHeartbeats 4000000 in
theorem symMerge_one (g n cap a m b N : Nat) (lb : Array Value) (K : Nat → Int) (A : Nat → Nat) (w : World) (hR : Row w g n A) (hC : CmpAt 31 lb g N K w) (h3 : b ≤ n) (hn : n ≤ 100) (hP : Pre K N a m b A) (hm : m = a + 1) :
    Calls Tryz.prog 132 #[.slice (some ⟨g, 0, none⟩) n cap, .int .i64 a, .int .i64 m, .int .i64 b, .func (.func 31) #[] lb] w (SortP K g n a b A w) := by
  have am := hP.am
  have mb := hP.mb
  have hb1 : ((m : Int) - (a : Int) == 1) = true := by simp; omega
  have HM := hide hm
  clear hm
  go_enter Tryz.func132, Tryz.ntmps132
  go_wp2
  go_loopw [10, 11] (fun i j wr => ∃ (p q : Nat), m ≤ p ∧ p ≤ q ∧ q ≤ b ∧ i = .int .i64 p ∧ j = .int .i64 q ∧ Row wr g n A ∧ Upd [g] w wr ∧ (p = m ∨ lex K (A (p - 1)) (A a)) ∧ (q = b ∨ lex K (A a) (A q))) (fun i j _ => (intOf j).toNat - (intOf i).toNat)
  case atStart => exact ⟨m, b, by omega, by omega, by omega, rfl, rfl, hR, Upd.refl _ _, .inl rfl, .inl rfl⟩
  case round =>
    obtain ⟨p, q, h4, h5, h6, rfl, rfl, hW, hU, hl, hr⟩ := hrel
    by_cases hlt : p < q
    · obtain ⟨h, hh⟩ : ∃ h : Nat, h = (p + q) / 2 := ⟨_, rfl⟩
      have e1 : ((p : Int) + (q : Int)) / 2 = (h : Int) := by omega
      have hph : p ≤ h := by omega
      have hhq : h < q := by omega
      clear hh
      have c1 := hW.2.1 h (by omega)
      have c2 := hW.2.1 a (by omega)
      have hc : ∀ m, Calls Tryz.prog 31 (#[.int .i64 (A h), .int .i64 (A a)] ++ lb) (wr.drewN m) (fun e w' => e = .returned (.int .i64 (cmp3 (K (A h)) (K (A a)))) ∧ ∃ q, w' = (wr.drewN m).drewN q) :=
        fun m => (hC _ (hU.drewN m) (A h) (A a) (hP.hN _ (by omega) (by omega)) (hP.hN _ (by omega) (by omega))).mono (fun e w' ⟨q, h1, h2⟩ => ⟨h1, q, h2⟩)
      have hgt : A a < A h := hP.cr a h (by omega) (by omega) (by omega) (by omega)
      replace hW := hide hW; replace hU := hide hU; replace hl := hide hl; replace hr := hide hr; replace hgt := hide hgt
      go_wp2
      by_cases hlv : cmp3 (K (A h)) (K (A a)) < 0
      · go_wp2
        go_quiet (first | (go_at_call 31; refine Calls.quiet_of (hc _)))
        go_wp2
        go_roundw
        case rel => exact ⟨h + 1, q, by omega, by omega, h6, by go_num, rfl, (unhide hW).drewN nq, (unhide hU).drewN nq, .inr (lex_of hlv), unhide hr⟩
        case measure => simp [intOf] <;> omega
      · go_wp2
        go_quiet (first | (go_at_call 31; refine Calls.quiet_of (hc _)))
        go_wp2
        go_roundw
        case rel => exact ⟨p, h, by omega, by omega, by omega, rfl, rfl, (unhide hW).drewN nq, (unhide hU).drewN nq, unhide hl, .inr (lex_of_not (Int.not_lt.2 hlv) (unhide hgt))⟩
        case measure => simp [intOf] <;> omega
    · have e : q = p := by omega
      subst e
      have hO := hide (shl_ord (by have hm := unhide HM; subst hm; exact hP) (by have hm := unhide HM; omega) h6 (by have hm := unhide HM; subst hm; exact hl) hr)
      replace hW := hide hW; replace hU := hide hU; replace hl := hide hl; replace hr := hide hr
      go_wp2
      go_loopw [13] (fun i wr => ∃ (k : Nat), a ≤ k ∧ k + 1 ≤ q ∧ i = .int .i64 k ∧ Row wr g n (shl A a k) ∧ Upd [g] w wr) (fun i _ => q - (intOf i).toNat)
      case atStart => exact ⟨a, by omega, by omega, rfl, (unhide hW).congr (fun i _ => by
        simp only [shl]
        repeat' split
        all_goals first | rfl | (exfalso; omega) | (congr 1; omega)), unhide hU⟩
      case round =>
        obtain ⟨k, h7, h8, rfl, hW1, hU1⟩ := hrel
        by_cases hk : k + 1 < q
        · have c1 := hW1.2.1 k (by omega)
          have c2 := hW1.2.1 (k + 1) (by omega)
          have fr := hW1.2.2
          replace hW1 := hide hW1; replace hU1 := hide hU1
          go_wp2
          go_region
          go_wp2
          go_roundw
          case rel =>
            refine ⟨k + 1, by omega, by omega, by go_num, ((((unhide hW1).set k (shl A a k (k + 1)) (by omega)).set (k + 1) (shl A a k k) (by omega)).drewN 1).congr (fun i hi => ?_), (((unhide hU1).setCell (.inl (by simp)) _).setCell (.inl (by simp)) _).drew⟩
            simp only [shl, put, Nat.lt_irrefl, and_false, if_false, if_true]
            repeat' split
            all_goals first | rfl | (exfalso; omega) | (congr 1; omega)
          case measure => simp [intOf] <;> omega
        · have e : q = k + 1 := by omega
          subst e
          go_wp2
          go_end0
          exact ⟨shl A a k, rfl, hW1, hU1, unhide hO⟩
set_option maxRecDepth 100000 in
set_option maxHeartbeats 4000000 in
theorem symMerge_last (g n cap a m b N : Nat) (lb : Array Value) (K : Nat → Int) (A : Nat → Nat) (w : World) (hR : Row w g n A) (hC : CmpAt 31 lb g N K w) (h3 : b ≤ n) (hn : n ≤ 100) (hP : Pre K N a m b A) (hm : b = m + 1) (hma : m ≠ a + 1) :
    Calls Tryz.prog 132 #[.slice (some ⟨g, 0, none⟩) n cap, .int .i64 a, .int .i64 m, .int .i64 b, .func (.func 31) #[] lb] w (SortP K g n a b A w) := by
  have am := hP.am
  have mb := hP.mb
  have hb1 : ((m : Int) - (a : Int) == 1) = false := by simp; omega
  have hb2 : ((b : Int) - (m : Int) == 1) = true := by simp; omega
  have HM := hide hm
  clear hm
  go_enter Tryz.func132, Tryz.ntmps132
  go_wp2
  go_loopw [14, 15] (fun i j wr => ∃ (p q : Nat), a ≤ p ∧ p ≤ q ∧ q ≤ m ∧ i = .int .i64 p ∧ j = .int .i64 q ∧ Row wr g n A ∧ Upd [g] w wr ∧ (p = a ∨ lex K (A (p - 1)) (A m)) ∧ (q = m ∨ lex K (A m) (A q))) (fun i j _ => (intOf j).toNat - (intOf i).toNat)
  case atStart => exact ⟨a, m, by omega, by omega, by omega, rfl, rfl, hR, Upd.refl _ _, .inl rfl, .inl rfl⟩
  case round =>
    obtain ⟨p, q, h4, h5, h6, rfl, rfl, hW, hU, hl, hr⟩ := hrel
    by_cases hlt : p < q
    · obtain ⟨h, hh⟩ : ∃ h : Nat, h = (p + q) / 2 := ⟨_, rfl⟩
      have e1 : ((p : Int) + (q : Int)) / 2 = (h : Int) := by omega
      have hph : p ≤ h := by omega
      have hhq : h < q := by omega
      clear hh
      have c1 := hW.2.1 h (by omega)
      have c2 := hW.2.1 m (by omega)
      have hc : ∀ t, Calls Tryz.prog 31 (#[.int .i64 (A m), .int .i64 (A h)] ++ lb) (wr.drewN t) (fun e w' => e = .returned (.int .i64 (cmp3 (K (A m)) (K (A h)))) ∧ ∃ q, w' = (wr.drewN t).drewN q) :=
        fun t => (hC _ (hU.drewN t) (A m) (A h) (hP.hN _ (by omega) (by omega)) (hP.hN _ (by omega) (by omega))).mono (fun e w' ⟨q, h1, h2⟩ => ⟨h1, q, h2⟩)
      have hgt : A h < A m := hP.cr h m (by omega) (by omega) (by omega) (by omega)
      replace hW := hide hW; replace hU := hide hU; replace hl := hide hl; replace hr := hide hr; replace hgt := hide hgt
      by_cases hlv : cmp3 (K (A m)) (K (A h)) < 0
      · go_wp2
        go_quiet (first | (go_at_call 31; refine Calls.quiet_of (hc _)))
        go_wp2
        go_roundw
        case rel => exact ⟨p, h, by omega, by omega, by omega, rfl, rfl, (unhide hW).drewN nq, (unhide hU).drewN nq, unhide hl, .inr (lex_of hlv)⟩
        case measure => simp [intOf] <;> omega
      · have hd : decide (cmp3 (K (A m)) (K (A h)) < 0) = false := decide_eq_false hlv
        go_wp2
        go_quiet (first | (go_at_call 31; refine Calls.quiet_of (hc _)))
        go_wp2
        go_roundw
        case rel => exact ⟨h + 1, q, by omega, by omega, h6, by go_num, rfl, (unhide hW).drewN nq, (unhide hU).drewN nq, .inr (lex_of_not (Int.not_lt.2 hlv) (unhide hgt)), unhide hr⟩
        case measure => simp [intOf] <;> omega
    · have e : q = p := by omega
      subst e
      have hO := hide (shr_ord (by have hm := unhide HM; subst hm; exact hP) h4 h6 hl hr)
      replace hW := hide hW; replace hU := hide hU; replace hl := hide hl; replace hr := hide hr
      go_wp2
      go_loopw [17] (fun i wr => ∃ (k : Nat), q ≤ k ∧ k ≤ m ∧ i = .int .i64 k ∧ Row wr g n (shr A m k) ∧ Upd [g] w wr) (fun i _ => (intOf i).toNat)
      case atStart =>
        refine ⟨m, by omega, by omega, rfl, (unhide hW).congr (fun i _ => ?_), unhide hU⟩
        simp only [shr]
        repeat' split
        all_goals first | rfl | (exfalso; omega) | (congr 1; omega)
      case round =>
        obtain ⟨k, h7, h8, rfl, hW1, hU1⟩ := hrel
        by_cases hk : q < k
        · obtain ⟨kp, rfl⟩ : ∃ kp, k = kp + 1 := ⟨k - 1, by omega⟩
          have c1 := hW1.2.1 (kp + 1) (by omega)
          have c2 := hW1.2.1 kp (by omega)
          have fr := hW1.2.2
          replace hW1 := hide hW1; replace hU1 := hide hU1
          have kz : (q : Int) < (kp : Int) + 1 := by omega
          go_wp2
          go_region
          go_wp2
          go_roundw
          case rel =>
            refine ⟨kp, by omega, by omega, by go_num, ((((unhide hW1).set (kp + 1) (shr A m (kp + 1) kp) (by omega)).set kp (shr A m (kp + 1) (kp + 1)) (by omega)).drewN 1).congr (fun i hi => ?_), (((unhide hU1).setCell (.inl (by simp)) _).setCell (.inl (by simp)) _).drew⟩
            simp only [shr, put, Nat.lt_irrefl, false_and, if_false, if_true]
            repeat' split
            all_goals first | rfl | (exfalso; omega) | (congr 1; omega)
          case measure => simp [intOf] <;> omega
        · have e : q = k := by omega
          subst e
          go_wp2
          go_end0
          exact ⟨shr A m q, rfl, hW1, hU1, by have hm := unhide HM; subst hm; exact unhide hO⟩
end Go.Proofs.YtbnibokloendlaaGreat
