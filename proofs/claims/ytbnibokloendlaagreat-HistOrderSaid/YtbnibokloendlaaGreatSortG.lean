/-
  The stable sort's own walk.
-/
import Derived.Test.YtbnibokloendlaaGreatSortF
import Derived.Deep.DeepCutAuto
namespace Go.Proofs.YtbnibokloendlaaGreat
open Go.RowKit

set_option maxRecDepth 100000 in
set_option maxHeartbeats 4000000 in
theorem stable_any (g n cap N : Nat) (lb : Array Value) (K : Nat → Int) (A : Nat → Nat) (w : World) (hR : Row w g n A) (hC : CmpAt 31 lb g N K w) (hn : n ≤ 100) (hN : ∀ i, i < n → A i < N) (hup : ∀ i j, i < j → j < n → A i < A j) :
    Calls Tryz.prog 74 #[.slice (some ⟨g, 0, none⟩) n cap, .int .i64 n, .func (.func 31) #[] lb] w (StabP K g n A w) := by
  go_enter Tryz.func74, Tryz.ntmps74
  go_wp2
  go_loopw [7, 8] (fun x y wr => ∃ (a : Nat) (C : Nat → Nat), a ≤ n ∧ a % 20 = 0 ∧ x = .int .i64 a ∧ y = .int .i64 (a + 20 : Nat) ∧ Row wr g n C ∧ Upd [g] w wr ∧ Ik K A n a C) (fun x _ _ => n - (intOf x).toNat)
  case atStart => exact ⟨0, A, by omega, rfl, rfl, rfl, hR, Upd.refl _ _, Ik.start K A n⟩
  case round =>
    obtain ⟨a, C, h1, h2, rfl, rfl, hW, hU, hI⟩ := hrel
    have hNa : ∀ b, b ≤ n → ∀ i, a ≤ i → i < b → C i < N := fun b hb i g1 g2 => by rw [hI.o i (by omega) g1]; exact hN i (by omega)
    have hua : ∀ b, b ≤ n → ∀ i j, a ≤ i → i < j → j < b → C i < C j := fun b hb i j g1 g2 g3 => by rw [hI.o i (by omega) g1, hI.o j (by omega) (by omega)]; exact hup i j g2 (by omega)
    by_cases hlt : a + 20 ≤ n
    · replace hW := hide hW; replace hU := hide hU; replace hI := hide hI; replace hNa := hide hNa; replace hua := hide hua; replace h2 := hide h2
      go_wp2_with (go_at_call 131; refine (insertion_any g n cap a (a + 20) N lb K C _ (unhide hW) (hC.upd (unhide hU)) (by omega) hlt hn (unhide hNa _ hlt) (unhide hua _ hlt)).mono ?_; rintro e w' ⟨D, rfl, hW1, hU1, hO⟩; replace hW1 := hide hW1; replace hU1 := hide hU1; replace hO := hide hO)
      go_roundw
      case rel => exact ⟨a + 20, D, hlt, by have := unhide h2; omega, by go_num, by go_num, unhide hW1, (unhide hU).trans (unhide hU1) (by simp), (unhide hI).step (unhide h2) (.inl rfl) hlt (by omega) (unhide hO)⟩
      case measure => simp [intOf] <;> omega
    · replace hW := hide hW; replace hU := hide hU; replace hI := hide hI; replace hNa := hide hNa; replace hua := hide hua; replace h2 := hide h2
      go_wp2_with (go_at_call 131; refine (insertion_any g n cap a n N lb K C _ (unhide hW) (hC.upd (unhide hU)) h1 (Nat.le_refl _) hn (unhide hNa _ (Nat.le_refl _)) (unhide hua _ (Nat.le_refl _))).mono ?_; rintro e w' ⟨D, rfl, hW1, hU1, hO⟩; replace hW1 := hide hW1; replace hU1 := hide ((unhide hU).trans hU1 (by simp)); replace hO := hide ((unhide hI).step (unhide h2) (.inr ⟨rfl, by omega⟩) (Nat.le_refl _) h1 hO).bk)
      clear hW hU hI hNa hua
      go_loopw [6] (fun x wr => ∃ (s t : Nat) (C : Nat → Nat), (Lev s t ∨ s = 160) ∧ x = .int .i64 s ∧ Row wr g n C ∧ Upd [g] w wr ∧ Bk K A n s t 0 C) (fun x _ => 200 - (intOf x).toNat)
      case atStart => exact ⟨20, 40, D, .inl (.inl ⟨rfl, rfl⟩), rfl, unhide hW1, unhide hU1, unhide hO⟩
      case round =>
        obtain ⟨s, t, C, hL, rfl, hW, hU, hB⟩ := hrel
        clear hW1 hU1 hO
        by_cases hs : s < n
        · have L : Lev s t := by rcases hL with h | h; exact h; omega
          have s0 : 20 ≤ s := by rcases L with ⟨h, _⟩ | ⟨h, _⟩ | ⟨h, _⟩ <;> omega
          have s1 : s ≤ 80 := by rcases L with ⟨h, _⟩ | ⟨h, _⟩ | ⟨h, _⟩ <;> omega
          have st : Hid (t = 2 * s) := by rcases L with ⟨rfl, rfl⟩ | ⟨rfl, rfl⟩ | ⟨rfl, rfl⟩ <;> rfl
          have L' : Hid (Lev (2 * s) (2 * t) ∨ 2 * s = 160) := by rcases L with ⟨rfl, rfl⟩ | ⟨rfl, rfl⟩ | ⟨rfl, rfl⟩ <;> simp [Hid, Lev]
          clear hL
          replace hW := hide hW; replace hU := hide hU; replace hB := hide hB; replace L := hide L
          go_wp2
          go_loopw [7, 8] (fun x y wr => ∃ (a : Nat) (D : Nat → Nat), a ≤ n ∧ Hid (a % t = 0) ∧ x = .int .i64 a ∧ y = .int .i64 ((a : Int) + 2 * (s : Int)) ∧ Row wr g n D ∧ Upd [g] w wr ∧ Bk K A n s t a D) (fun x _ _ => n - (intOf x).toNat)
          case atStart => exact ⟨0, C, by omega, Nat.zero_mod _, rfl, by go_num, unhide hW, unhide hU, unhide hB⟩
          case round =>
            obtain ⟨a, D, h3, h4, rfl, rfl, hW1, hU1, hB1⟩ := hrel
            clear hW hU hB
            replace hW1 := hide hW1; replace hU1 := hide hU1; replace hB1 := hide hB1
            by_cases hlt : a + 2 * s ≤ n
            · have hP : Hid (Pre K N a (a + s) (a + 2 * s) D) := (unhide hB1).pre (unhide L) (unhide h4) rfl (.inl (by have := unhide st; omega)) (by omega) hlt hN hup
              go_wp2_with (go_at_call 132; refine (symMerge_any g n cap N lb K hn _ a (a + s) (a + 2 * s) D _ (Nat.le_refl _) (unhide hW1) (hC.upd (unhide hU1)) hlt (unhide hP)).mono ?_; rintro e w' ⟨E, rfl, hW2, hU2, hO⟩; replace hW2 := hide hW2; replace hU2 := hide ((unhide hU1).trans hU2 (by simp)); replace hO := hide hO)
              go_roundw
              case rel => exact ⟨a + 2 * s, E, hlt, by have h := unhide h4; rw [← unhide st]; show (a + t) % t = 0; rw [Nat.add_mod_right]; exact h, by go_num, by go_num, unhide hW2, unhide hU2, (unhide hB1).step (unhide L) (unhide h4) (.inl (by have := unhide st; omega)) hlt (unhide hO)⟩
              case measure => simp [intOf] <;> omega
            · by_cases hm : a + s < n
              · have hP : Hid (Pre K N a (a + s) n D) := (unhide hB1).pre (unhide L) (unhide h4) rfl (.inr ⟨rfl, by have := unhide st; omega⟩) hm (Nat.le_refl _) hN hup
                go_wp2_with (go_at_call 132; refine (symMerge_any g n cap N lb K hn _ a (a + s) n D _ (Nat.le_refl _) (unhide hW1) (hC.upd (unhide hU1)) (Nat.le_refl _) (unhide hP)).mono ?_; rintro e w' ⟨E, rfl, hW2, hU2, hO⟩; replace hW2 := hide hW2; replace hU2 := hide ((unhide hU1).trans hU2 (by simp)); replace hO := hide hO)
                go_roundw
                case rel => exact ⟨2 * s, 2 * t, E, unhide L', by go_num, unhide hW2, unhide hU2, by have := ((unhide hB1).step (unhide L) (unhide h4) (.inr ⟨rfl, by have := unhide st; omega⟩) (Nat.le_refl _) (unhide hO)).next (unhide L) (Nat.le_refl _); rw [unhide st] at this; rw [unhide st]; exact this⟩
                case measure => simp [intOf] <;> omega
              · go_wp2
                go_roundw
                case rel => exact ⟨2 * s, 2 * t, D, unhide L', by go_num, unhide hW1, unhide hU1, by have := ((unhide hB1).rest (unhide L) (unhide h4) (by omega)).next (unhide L) (Nat.le_refl _); rw [unhide st] at this; rw [unhide st]; exact this⟩
                case measure => simp [intOf] <;> omega
        · clear hL
          replace hW := hide hW; replace hU := hide hU; replace hB := hide hB
          go_wp2
          go_end0
          exact ⟨C, rfl, unhide hW, unhide hU, (unhide hB).srt (by omega)⟩
end Go.Proofs.YtbnibokloendlaaGreat
