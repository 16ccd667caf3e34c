/-
  Contracts: the reference's ground.
-/
import Derived.Test.YtbnibokloendlaaGreatHeap
import Derived.Test.YtbnibokloendlaaGreatNumC
namespace Go.Proofs.YtbnibokloendlaaGreat
open Go.RowKit


/-- Blocks gb and fb are a ground: where it begins, and of each word whether it is free. -/
def GR (w : World) (gb fb : Nat) (a : Nat) (g : List Bool) : Prop :=
  FA w gb [.int .i64 (a : Int), .slice (some ⟨fb, 0, none⟩) g.length g.length] ∧ FA w fb (g.map .bool) ∧ gb ≠ fb ∧ g.length ≤ 1024 ∧ a ≤ 65536
theorem setBits_len : ∀ (g : List Bool) (i n : Nat) (b : Bool), (Pen.setBits g i n b).length = g.length
  | g, _, 0, _ => by cases g <;> rfl
  | [], 0, n + 1, _ => rfl
  | [], i + 1, n + 1, _ => rfl
  | _ :: g, 0, n + 1, b => by simp [Pen.setBits, setBits_len g 0 n b]
  | _ :: g, i + 1, n + 1, b => by simp [Pen.setBits, setBits_len g i (n + 1) b]
theorem setBits_zero (g : List Bool) (i : Nat) (b : Bool) : Pen.setBits g i 0 b = g := by cases g <;> cases i <;> rfl
theorem setBits_step : ∀ (g : List Bool) (i n : Nat) (b : Bool), i + n < g.length → Pen.setBits g i (n + 1) b = (Pen.setBits g i n b).set (i + n) b
  | [], _, _, _, h => by simp at h
  | x :: g, 0, 0, b, _ => by simp [Pen.setBits, setBits_zero]
  | x :: g, 0, n + 1, b, h => by
    have ih := setBits_step g 0 n b (by simp at h; omega)
    simp only [Nat.zero_add] at ih ⊢
    show b :: Pen.setBits g 0 (n + 1) b = (b :: Pen.setBits g 0 n b).set (n + 1) b
    rw [ih]; rfl
  | x :: g, i + 1, 0, b, h => by
    have ih := setBits_step g i 0 b (by simp at h; omega)
    show x :: Pen.setBits g i 1 b = _
    rw [ih, setBits_zero, setBits_zero]; simp
  | x :: g, i + 1, n + 1, b, h => by
    have ih := setBits_step g i (n + 1) b (by simp at h; omega)
    show x :: Pen.setBits g i (n + 1 + 1) b = (x :: Pen.setBits g i (n + 1) b).set (i + 1 + (n + 1)) b
    rw [ih, show i + 1 + (n + 1) = (i + (n + 1)) + 1 from by omega]; rfl


def Sets (gb fb a : Nat) (g : List Bool) (w : World) (e : Ending) (w' : World) : Prop := e = .returned (.tuple #[]) ∧ GR w' gb fb a g ∧ Upd [fb] w w'
set_option maxHeartbeats 1000000 in
theorem r04set_any (gb fb a p sz : Nat) (g : List Bool) (b : Bool) (w : World) (hG : GR w gb fb a g) (hp : a ≤ p) (hsz : sz ≤ 100000) (hp2 : p ≤ 100000) (hin : (p - a) / 8 + sz / 8 ≤ g.length) :
    Calls Tryz.prog 145 #[.pointer (some ⟨gb, 0, none⟩), .int .i64 p, .int .i64 sz, .bool b] w (Sets gb fb a (Pen.setBits g ((p - a) / 8) (sz / 8) b) w) := by
  obtain ⟨hg, hf, hne, hlen, ha⟩ := hG
  have lg := hg.lt
  have lf := hf.lt
  have c0 := hg.cell 0 rfl
  have c1 := hg.cell 1 rfl
  have hg := hide hg; have hf := hide hf
  have hne := hide hne
  go_enter Tryz.func145, Tryz.ntmps145
  go_wp2
  go_loopw [8] (fun i wr => ∃ k : Nat, k ≤ sz / 8 ∧ i = .int .i64 k ∧ FA wr fb ((Pen.setBits g ((p - a) / 8) k b).map .bool) ∧ Upd [fb] w wr) (fun i _ => sz / 8 - (intOf i).toNat)
  case atStart => exact ⟨0, by omega, rfl, by rw [setBits_zero]; exact unhide hf, Upd.refl _ _⟩
  case round =>
    obtain ⟨k, hk, rfl, hF, hU⟩ := hrel
    have hgw := (unhide hg).upd hU (by simpa using unhide hne)
    have lgw := hgw.lt
    have d0 := hgw.cell 0 rfl
    have d1 := hgw.cell 1 rfl
    have hfr := hF.free
    by_cases hlt : k < sz / 8
    · have hix : (p - a) / 8 + k < g.length := by omega
      have dk := hF.cell ((p - a) / 8 + k) (u := .bool ((Pen.setBits g ((p - a) / 8) k b).getD ((p - a) / 8 + k) false)) (by
        rw [List.getElem?_map, List.getElem?_eq_getElem (by rw [setBits_len]; exact hix)]; simp [setBits_len, hix])
      have hst := setBits_step g ((p - a) / 8) k b hix
      have hF2 := hF.set ((p - a) / 8 + k) (by simp [setBits_len]; exact hix) (.bool b)
      rw [← List.map_set, ← hst] at hF2
      have hU2 := hU.setCell (p := ⟨fb, (p - a) / 8 + k, none⟩) (.inl (by simp)) (.bool b)
      have hF2 := hide hF2; have hU2 := hide hU2; have hst := hide hst
      clear hF hU hgw
      generalize ((Pen.setBits g ((p - a) / 8) k b).getD ((p - a) / 8 + k) false) = old at dk
      go_wp2
      go_region
      all_goals go_wp2
      all_goals
        go_roundw
        case rel => exact ⟨k + 1, by omega, by go_num, (unhide hF2).drew, (unhide hU2).drew⟩
        case measure => simp [intOf]; omega
    · have hkn : k = sz / 8 := by omega
      subst hkn
      have hF := hide hF; have hU := hide hU; have hgw := hide hgw
      go_wp2
      go_end0
      exact ⟨rfl, ⟨by rw [setBits_len]; exact unhide hgw, unhide hF, unhide hne, by rw [setBits_len]; exact hlen, ha⟩, unhide hU⟩

end Go.Proofs.YtbnibokloendlaaGreat
