/-
  The merge in place, whole.
-/
import Derived.Test.YtbnibokloendlaaGreatSortD
import Derived.Deep.Cut
namespace Go.Proofs.YtbnibokloendlaaGreat
open Go.RowKit

theorem rot_id {A : Nat → Nat} {s m e i : Nat} (h1 : s ≤ m) (h2 : m ≤ e) (h : ¬ (s < m ∧ m < e)) : rot A s m e i = A i := by
  simp only [rot]
  repeat' split
  all_goals first | rfl | (exfalso; omega) | (congr 1; omega)
theorem Pre.congr {K : Nat → Int} {N a m b : Nat} {A B : Nat → Nat} (h : Pre K N a m b A) (e : ∀ p, a ≤ p → p < b → B p = A p) : Pre K N a m b B := by
  have am := h.am
  have mb := h.mb
  refine ⟨am, mb, fun p q g1 g2 g3 => ?_, fun p q g1 g2 g3 => ?_, fun p q g1 g2 g3 g4 => ?_, fun p g1 g2 => ?_⟩
  · rw [e p (by omega) (by omega), e q (by omega) (by omega)]; exact h.s1 p q g1 g2 g3
  · rw [e p (by omega) (by omega), e q (by omega) (by omega)]; exact h.s2 p q g1 g2 g3
  · rw [e p (by omega) (by omega), e q (by omega) (by omega)]; exact h.cr p q g1 g2 g3 g4
  · rw [e p g1 g2]; exact h.hN p g1 g2
set_option maxRecDepth 100000 in
set_option maxHeartbeats 8000000 in
theorem symMerge_any (g n cap N : Nat) (lb : Array Value) (K : Nat → Int) (hn : n ≤ 100) : ∀ (d a m b : Nat) (A : Nat → Nat) (w : World), b - a ≤ d → Row w g n A → CmpAt 31 lb g N K w → b ≤ n → Pre K N a m b A →
    Calls Tryz.prog 132 #[.slice (some ⟨g, 0, none⟩) n cap, .int .i64 a, .int .i64 m, .int .i64 b, .func (.func 31) #[] lb] w (SortP K g n a b A w) := by
  intro d
  induction d with
  | zero => intro a m b A w h1 hR hC h3 hP; have := hP.am; have := hP.mb; omega
  | succ d ih =>
  intro a m b A w hd hR hC h3 hP
  by_cases hma : m = a + 1
  · exact symMerge_one g n cap a m b N lb K A w hR hC h3 hn hP hma
  by_cases hmb : b = m + 1
  · exact symMerge_last g n cap a m b N lb K A w hR hC h3 hn hP hmb hma
  have am := hP.am
  have mb := hP.mb
  have hb1 : ((m : Int) - (a : Int) == 1) = false := by simp; omega
  have hb2 : ((b : Int) - (m : Int) == 1) = false := by simp; omega
  obtain ⟨mid, hmid⟩ : ∃ h : Nat, h = (a + b) / 2 := ⟨_, rfl⟩
  have e1 : ((a : Int) + (b : Int)) / 2 = (mid : Int) := by omega
  have m1 : a < mid := by omega
  have m2 : mid < b := by omega
  have m3 : 2 * mid ≤ a + b := by omega
  have m4 : a + b < 2 * mid + 2 := by omega
  clear hmid
  have IH := hide ih
  clear ih
  rcases Nat.lt_or_ge mid m with hmm | hmm
  all_goals
    first
    | have hb3 : decide (mid < m) = true := decide_eq_true hmm
    | have hb3 : decide (mid < m) = false := decide_eq_false (by omega)
    go_enter Tryz.func132, Tryz.ntmps132
    go_wp2
    go_loopw [20, 21] (fun i j wr => ∃ (s r : Nat), a ≤ s ∧ s ≤ r ∧ r ≤ m ∧ r ≤ mid ∧ mid + m - s ≤ b ∧ i = .int .i64 s ∧ j = .int .i64 r ∧ Row wr g n A ∧ Upd [g] w wr ∧ (s = a ∨ mid + m - s = b ∨ lex K (A (s - 1)) (A (mid + m - s))) ∧ (r = m ∨ r = mid ∨ lex K (A (mid + m - 1 - r)) (A r))) (fun i j _ => (intOf j).toNat - (intOf i).toNat)
    case atStart => first | exact ⟨mid + m - b, mid, by omega, by omega, by omega, by omega, by omega, by go_num, rfl, hR, Upd.refl _ _, .inr (.inl (by omega)), .inr (.inl rfl)⟩ | exact ⟨a, m, by omega, by omega, by omega, by omega, by omega, rfl, rfl, hR, Upd.refl _ _, .inl rfl, .inl rfl⟩
    case round =>
      obtain ⟨s, r, h4, h5, h6, h7, h8, rfl, rfl, hW, hU, hl, hr⟩ := hrel
      by_cases hlt : s < r
      · obtain ⟨c, hh⟩ : ∃ h : Nat, h = (s + r) / 2 := ⟨_, rfl⟩
        have e2 : ((s : Int) + (r : Int)) / 2 = (c : Int) := by omega
        have hph : s ≤ c := by omega
        have hhq : c < r := by omega
        clear hh
        obtain ⟨pc, hpc⟩ : ∃ h : Nat, h = mid + m - 1 - c := ⟨_, rfl⟩
        have e3 : (mid : Int) + (m : Int) - 1 - (c : Int) = (pc : Int) := by omega
        have p1 : m ≤ pc := by omega
        have p2 : pc < b := by omega
        have HPC := hide hpc
        clear hpc
        have c1 := hW.2.1 pc (by omega)
        have c2 := hW.2.1 c (by omega)
        have hc : ∀ t, Calls Tryz.prog 31 (#[.int .i64 (A pc), .int .i64 (A c)] ++ lb) (wr.drewN t) (fun e w' => e = .returned (.int .i64 (cmp3 (K (A pc)) (K (A c)))) ∧ ∃ q, w' = (wr.drewN t).drewN q) :=
          fun t => (hC _ (hU.drewN t) (A pc) (A c) (hP.hN _ (by omega) (by omega)) (hP.hN _ (by omega) (by omega))).mono (fun e w' ⟨q, h1, h2⟩ => ⟨h1, q, h2⟩)
        have hgt : A c < A pc := hP.cr c pc (by omega) (by omega) (by omega) (by omega)
        replace hW := hide hW; replace hU := hide hU; replace hl := hide hl; replace hr := hide hr; replace hgt := hide hgt
        by_cases hlv : cmp3 (K (A pc)) (K (A c)) < 0
        · go_wp2
          go_quiet (first | (go_at_call 31; refine Calls.quiet_of (hc _)))
          go_wp2
          go_roundw
          case rel => exact ⟨s, c, by omega, by omega, by omega, by omega, by omega, rfl, rfl, (unhide hW).drewN nq, (unhide hU).drewN nq, unhide hl, .inr (.inr (by have := unhide HPC; rw [← this]; exact lex_of hlv))⟩
          case measure => simp [intOf] <;> omega
        · have hd : decide (cmp3 (K (A pc)) (K (A c)) < 0) = false := decide_eq_false hlv
          go_wp2
          go_quiet (first | (go_at_call 31; refine Calls.quiet_of (hc _)))
          go_wp2
          go_roundw
          case rel => exact ⟨c + 1, r, by omega, by omega, by omega, by omega, by omega, by go_num, rfl, (unhide hW).drewN nq, (unhide hU).drewN nq, .inr (.inr (by have h := unhide HPC; rw [show mid + m - (c + 1) = pc by omega]; exact lex_of_not (Int.not_lt.2 hlv) (unhide hgt))), unhide hr⟩
          case measure => simp [intOf] <;> omega
      · have e : r = s := by omega
        subst e
        obtain ⟨e, he⟩ : ∃ h : Nat, h = mid + m - r := ⟨_, rfl⟩
        have e2 : (mid : Int) + (m : Int) - (r : Int) = (e : Int) := by omega
        have cc : Hid (Cutp K a m b mid r e A) := ⟨by omega, by omega, by omega, by omega, by omega, by subst he; exact hl, by
          rcases hr with h | h | h
          · exact .inl h
          · exact .inr (.inl (by omega))
          · exact .inr (.inr (by rw [show e - 1 = mid + m - 1 - r by omega]; exact h))⟩
        have b1 : m ≤ e := by omega
        have b2 : e ≤ b := by omega
        have HE := hide he
        clear he
        replace hW := hide hW; replace hU := hide hU; replace hl := hide hl; replace hr := hide hr
        clear hl hr
        as_aux_lemma =>
        go_upto_region 39 with fail
        go_cut [185] from 25 (fun s wx => s = .bool (decide (r < m ∧ m < e)) ∧ Row wx g n A ∧ Upd [g] w wx)
        case first => as_aux_lemma =>
          by_cases q : r < m ∧ m < e
          · obtain ⟨qa, qb⟩ := q
            have hd : decide (r < m ∧ m < e) = true := decide_eq_true ⟨qa, qb⟩
            go_wp2
            go_meet
            case rel => exact ⟨by rw [hd], unhide hW, unhide hU⟩
          · have hd : Hid (decide (r < m ∧ m < e) = false) := decide_eq_false q
            go_wp2
            all_goals
              go_meet
              case rel => exact ⟨by first | (rw [unhide hd]; done) | (rw [unhide hd]; congr 1; simp; omega), unhide hW, unhide hU⟩
        case rest => as_aux_lemma =>
          obtain ⟨rfl, hX, hY⟩ := hcut
          clear hW hU
          have hW := hide hX; have hU := hide hY; clear hX hY
          go_upto_if 185 with fail
          go_cut [] from 25 (fun wx => Row wx g n (rot A r m e) ∧ Upd [g] w wx)
          case first => as_aux_lemma =>
            by_cases q1 : r < m ∧ m < e
            · have hd : decide (r < m ∧ m < e) = true := decide_eq_true q1
              obtain ⟨q1a, q1b⟩ := q1
              go_wp2_with (go_at_call 178; refine (rotate_any g n cap r m e _ A _ (unhide hW) q1a q1b (by omega) hn).mono ?_; rintro e' w1 ⟨rfl, hW1, hU1⟩; replace hW1 := hide hW1; replace hU1 := hide ((unhide hU).trans hU1 (by simp)))
              go_meet
              case rel => exact ⟨unhide hW1, unhide hU1⟩
            · have hd : decide (r < m ∧ m < e) = false := decide_eq_false q1
              go_wp2
              go_meet
              case rel => exact ⟨(unhide hW).congr (fun i _ => rot_id (by omega) (by omega) q1), unhide hU⟩
          case rest => as_aux_lemma =>
            obtain ⟨hX, hY⟩ := hcut
            clear hW hU
            have hW1 := hide hX; have hU1 := hide hY; clear hX hY
            go_upto_region 41 with fail
            go_cut [199] from 25 (fun s wx => s = .bool (decide (a < r ∧ r < mid)) ∧ Row wx g n (rot A r m e) ∧ Upd [g] w wx)
            case first => as_aux_lemma =>
              by_cases q : a < r ∧ r < mid
              · obtain ⟨qa, qb⟩ := q
                have hd : decide (a < r ∧ r < mid) = true := decide_eq_true ⟨qa, qb⟩
                go_wp2
                go_meet
                case rel => exact ⟨by rw [hd], unhide hW1, unhide hU1⟩
              · have hd : Hid (decide (a < r ∧ r < mid) = false) := decide_eq_false q
                go_wp2
                all_goals
                  go_meet
                  case rel => exact ⟨by first | (rw [unhide hd]; done) | (rw [unhide hd]; congr 1; simp; omega), unhide hW1, unhide hU1⟩
            case rest => as_aux_lemma =>
              obtain ⟨rfl, hX, hY⟩ := hcut
              clear hW1 hU1
              have hW1 := hide hX; have hU1 := hide hY; clear hX hY
              go_upto_if 199 with fail
              go_cut [] from 25 (fun wx => ∃ C, Row wx g n C ∧ Upd [g] w wx ∧ Ord K (rot A r m e) a mid C)
              case first => as_aux_lemma =>
                by_cases q2 : a < r ∧ r < mid
                · have hd : decide (a < r ∧ r < mid) = true := decide_eq_true q2
                  obtain ⟨q2a, q2b⟩ := q2
                  go_wp2_with (go_at_call 132; refine ((unhide IH) a r mid _ _ (by omega) (unhide hW1) (hC.upd (unhide hU1)) (by omega) ((unhide cc).pre1 hP q2a q2b)).mono ?_; rintro e' w2 ⟨C1, rfl, hW2, hU2, hO1⟩; replace hW2 := hide hW2; replace hU2 := hide ((unhide hU1).trans hU2 (by simp)); replace hO1 := hide hO1)
                  go_meet
                  case rel => exact ⟨C1, unhide hW2, unhide hU2, unhide hO1⟩
                · have hd : decide (a < r ∧ r < mid) = false := decide_eq_false q2
                  go_wp2
                  go_meet
                  case rel => exact ⟨_, unhide hW1, unhide hU1, Ord.same ((unhide cc).flat1 hP q2)⟩
              case rest => as_aux_lemma =>
                obtain ⟨C1, hX, hY, hZ⟩ := hcut
                clear hW1 hU1
                have hW2 := hide hX; have hU2 := hide hY; have hO1 := hide hZ; clear hX hY hZ
                go_upto_region 43 with fail
                go_cut [213] from 25 (fun s wx => s = .bool (decide (mid < e ∧ e < b)) ∧ Row wx g n C1 ∧ Upd [g] w wx)
                case first => as_aux_lemma =>
                  by_cases q : mid < e ∧ e < b
                  · obtain ⟨qa, qb⟩ := q
                    have hd : decide (mid < e ∧ e < b) = true := decide_eq_true ⟨qa, qb⟩
                    go_wp2
                    go_meet
                    case rel => exact ⟨by rw [hd], unhide hW2, unhide hU2⟩
                  · have hd : Hid (decide (mid < e ∧ e < b) = false) := decide_eq_false q
                    go_wp2
                    all_goals
                      go_meet
                      case rel => exact ⟨by first | (rw [unhide hd]; done) | (rw [unhide hd]; congr 1; simp; omega), unhide hW2, unhide hU2⟩
                case rest => as_aux_lemma =>
                  obtain ⟨rfl, hX, hY⟩ := hcut
                  clear hW2 hU2
                  have hW2 := hide hX; have hU2 := hide hY; clear hX hY
                  by_cases q3 : mid < e ∧ e < b
                  · have hd : decide (mid < e ∧ e < b) = true := decide_eq_true q3
                    obtain ⟨q3a, q3b⟩ := q3
                    go_wp2_with (go_at_call 132; refine ((unhide IH) mid e b _ _ (by omega) (unhide hW2) (hC.upd (unhide hU2)) (by omega) (((unhide cc).pre2 hP q3a q3b).congr (fun p hp _ => (unhide hO1).out p (.inr hp)))).mono ?_; rintro e' w3 ⟨C2, rfl, hW3, hU3, hO2⟩; replace hW3 := hide hW3; replace hU3 := hide ((unhide hU2).trans hU3 (by simp)); replace hO2 := hide hO2)
                    go_end0
                    exact ⟨_, rfl, unhide hW3, unhide hU3, (unhide cc).all hP (by omega) (by omega) (unhide hO1) (unhide hO2)⟩
                  · have hd : decide (mid < e ∧ e < b) = false := decide_eq_false q3
                    go_wp2
                    go_end0
                    exact ⟨_, rfl, unhide hW2, unhide hU2, (unhide cc).all hP (by omega) (by omega) (unhide hO1) (Ord.same (fun p q g1 g2 g3 => by rw [(unhide hO1).out p (.inr g1), (unhide hO1).out q (.inr (by omega))]; exact (unhide cc).flat2 hP q3 p q g1 g2 g3))⟩
end Go.Proofs.YtbnibokloendlaaGreat
