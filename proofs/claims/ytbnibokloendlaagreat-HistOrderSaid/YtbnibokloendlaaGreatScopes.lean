/-
  Contracts: the reference's scopes.
-/
import Derived.Test.YtbnibokloendlaaGreatGroundD
namespace Go.Proofs.YtbnibokloendlaaGreat
open Go.RowKit


def ctlE (c : Pen.Ctl) : List Value := [.int .i64 c.state, .int .i64 c.count, .int .i64 c.parent, .int .i64 c.epoch]
theorem ctlE_len (c : Pen.Ctl) : (ctlE c).length = 4 := rfl
/-- Blocks sb, cb, xb, gb, fb are scopes: what each is, what extent it has, and the ground. -/
structure SR (w : World) (sb cb xb gb fb a : Nat) (cs : List Pen.Ctl) (xs : List Pen.Extent) (g : List Bool) : Prop where
  top : ∃ cc xc, cs.length ≤ cc ∧ xs.length ≤ xc ∧ FA w sb [.slice (some ⟨cb, 0, none⟩) cs.length cc, .slice (some ⟨xb, 0, none⟩) xs.length xc, .pointer (some ⟨gb, 0, none⟩)]
  ctls : FA w cb (cs.flatMap ctlE)
  exts : FA w xb (xs.flatMap extE)
  ground : GR w gb fb a g
  apart : sb ≠ cb ∧ sb ≠ xb ∧ sb ≠ gb ∧ sb ≠ fb ∧ cb ≠ xb ∧ cb ≠ gb ∧ cb ≠ fb ∧ xb ≠ gb ∧ xb ≠ fb
  same : xs.length = cs.length
  few : cs.length ≤ 8
theorem SR.upd {w w' : World} {sb cb xb gb fb a : Nat} {cs : List Pen.Ctl} {xs : List Pen.Extent} {g : List Bool} {M : List Nat} (h : SR w sb cb xb gb fb a cs xs g) (hu : Upd M w w') (h1 : sb ∉ M) (h2 : cb ∉ M) (h3 : xb ∉ M) (h4 : gb ∉ M) (h5 : fb ∉ M) : SR w' sb cb xb gb fb a cs xs g := by
  obtain ⟨cc, xc, k1, k2, ht⟩ := h.top
  exact ⟨⟨cc, xc, k1, k2, ht.upd hu h1⟩, h.ctls.upd hu h2, h.exts.upd hu h3, h.ground.upd hu h4 h5, h.apart, h.same, h.few⟩
theorem SR.below {w w' : World} {sb cb xb gb fb a : Nat} {cs : List Pen.Ctl} {xs : List Pen.Extent} {g : List Bool} (h : SR w sb cb xb gb fb a cs xs g) (hb : Below w.heap.size w w') : SR w' sb cb xb gb fb a cs xs g :=
  h.upd (Upd.of_below (M := []) hb) (by simp) (by simp) (by simp) (by simp) (by simp)
theorem flat_set4 : ∀ (cs : List Pen.Ctl) (k : Nat) (c : Pen.Ctl), k < cs.length →
    ((((cs.flatMap ctlE).set (k * 4) (.int .i64 c.state)).set (k * 4 + 1) (.int .i64 c.count)).set (k * 4 + 2) (.int .i64 c.parent)).set (k * 4 + 3) (.int .i64 c.epoch) = (cs.set k c).flatMap ctlE
  | [], k, c, h => by simp at h
  | x :: cs, 0, c, _ => by simp [ctlE]
  | x :: cs, k + 1, c, h => by
    have ih := flat_set4 cs k c (by simpa using h)
    simp only [List.flatMap_cons, List.set_cons_succ]
    rw [← ih]
    simp only [ctlE, List.cons_append, List.nil_append]
    rw [show (k + 1) * 4 = k * 4 + 1 + 1 + 1 + 1 from by omega]
    simp only [List.set_cons_succ, Nat.add_assoc, Nat.reduceAdd]
theorem FA.ctl {w : World} {cb : Nat} {cs : List Pen.Ctl} (h : FA w cb (cs.flatMap ctlE)) (k : Nat) (hk : k < cs.length) (j : Nat) (hj : j < 4) {u : Value} (hu : (ctlE (cs.getD k default))[j]? = some u) : w.cell? ⟨cb, k * 4 + j, none⟩ = some u :=
  h.cell _ ((flat_get ctlE 4 ctlE_len cs k j hk hj).trans hu)
theorem FA.setCtl {w : World} {cb : Nat} {cs : List Pen.Ctl} (h : FA w cb (cs.flatMap ctlE)) (k : Nat) (hk : k < cs.length) (c : Pen.Ctl) :
    FA ((((w.setCell ⟨cb, k * 4, none⟩ (.int .i64 c.state)).setCell ⟨cb, k * 4 + 1, none⟩ (.int .i64 c.count)).setCell ⟨cb, k * 4 + 2, none⟩ (.int .i64 c.parent)).setCell ⟨cb, k * 4 + 3, none⟩ (.int .i64 c.epoch)) cb ((cs.set k c).flatMap ctlE) := by
  rw [← flat_set4 cs k c hk]
  have hl := flat_len ctlE 4 ctlE_len cs
  exact (((h.set _ (by rw [hl]; omega) _).set _ (by simp [hl]; omega) _).set _ (by simp [hl]; omega) _).set _ (by simp [hl]; omega) _
theorem beq_eq_decide' (a b : Int) : (a == b) = decide (a = b) := by by_cases h : a = b <;> simp [h]
def chgC (cs : List Pen.Ctl) (k : Nat) (d : Pen.Ctl × Int) : List Pen.Ctl := if d.2 = 0 then cs.set k d.1 else cs
/-- A call of scopes: what it hands back, and what they are then. -/
def SPost (sb cb xb gb fb a : Nat) (cs : List Pen.Ctl) (xs : List Pen.Extent) (g : List Bool) (v : Value) (w : World) (e : Ending) (w' : World) : Prop :=
  e = .returned v ∧ SR w' sb cb xb gb fb a cs xs g ∧ Upd [cb, xb, fb] w w'


set_option maxHeartbeats 1000000 in
theorem r11become_any (sb cb xb gb fb a k : Nat) (cs : List Pen.Ctl) (xs : List Pen.Extent) (g : List Bool) (c : Pen.Ctl) (e : Int) (w : World) (hS : SR w sb cb xb gb fb a cs xs g) (hk : k < cs.length) :
    Calls Tryz.prog 147 #[.pointer (some ⟨sb, 0, none⟩), .int .i64 k, .agg #[.int .i64 c.state, .int .i64 c.count, .int .i64 c.parent, .int .i64 c.epoch], .int .i64 e] w (SPost sb cb xb gb fb a (chgC cs k (c, e)) xs g (.int .i64 e) w) := by
  obtain ⟨cc, xc, k1, k2, ht⟩ := hS.top
  have d0 := ht.cell 0 rfl
  have ls := ht.lt
  have lc := hS.ctls.lt
  have e0 := hS.ctls.ctl k hk 0 (by omega) rfl
  have e1 := hS.ctls.ctl k hk 1 (by omega) rfl
  have e2 := hS.ctls.ctl k hk 2 (by omega) rfl
  have e3 := hS.ctls.ctl k hk 3 (by omega) rfl
  rw [Nat.add_zero] at e0
  have hfr := hS.ctls.free
  have hset := hide (hS.ctls.setCtl k hk c)
  clear k1 k2 ht
  have hap := hide hS.apart
  replace hS := hide hS
  obtain ⟨c0, c1, c2, c3⟩ := c
  simp only at *
  generalize (cs.getD k default).state = o0 at e0
  generalize (cs.getD k default).count = o1 at e1
  generalize (cs.getD k default).parent = o2 at e2
  generalize (cs.getD k default).epoch = o3 at e3
  by_cases he : e = 0
  · subst he
    go_enter Tryz.func147, Tryz.ntmps147
    go_wp2
    go_region
    all_goals go_wp2
    all_goals
      go_ret
      obtain ⟨a1, a2, a3, a4, a5, a6, a7, a8, a9⟩ := unhide hap
      have hS := unhide hS
      have hU : Upd [cb] w ((((w.setCell ⟨cb, k * 4, none⟩ (.int .i64 c0)).setCell ⟨cb, k * 4 + 1, none⟩ (.int .i64 c1)).setCell ⟨cb, k * 4 + 2, none⟩ (.int .i64 c2)).setCell ⟨cb, k * 4 + 3, none⟩ (.int .i64 c3)) :=
        ((((Upd.refl [cb] w).setCell (.inl (by simp)) _).setCell (.inl (by simp)) _).setCell (.inl (by simp)) _).setCell (.inl (by simp)) _
      obtain ⟨cc', xc', k1, k2, ht⟩ := hS.top
      refine ⟨rfl, ⟨⟨cc', xc', by simpa [chgC] using k1, k2, ?_⟩, ?_, ?_, ?_, unhide hap, by simpa [chgC] using hS.same, by simpa [chgC] using hS.few⟩, ?_⟩
      · simp only [chgC, if_true, List.length_set]
        exact ((ht.upd hU (by simp; exact a1)).alloc _).drew
      · exact ((unhide hset).alloc _).drew
      · exact ((hS.exts.upd hU (by simp; exact Ne.symm a5)).alloc _).drew
      · exact (hS.ground.upd hU (by simp; exact Ne.symm a6) (by simp; exact Ne.symm a7)).below (((Below.refl _ _).alloc (Nat.le_refl _) _).drew)
      · exact ((hU.mono (by simp)).alloc _).drew
  · have he' : (e == 0) = false := by simpa using he
    go_enter Tryz.func147, Tryz.ntmps147
    go_wp2
    go_ret
    rw [show chgC cs k (⟨c0, c1, c2, c3⟩, e) = cs from if_neg he]
    exact ⟨rfl, (unhide hS).below ((Below.refl _ _).alloc (Nat.le_refl _) _), (Upd.refl _ _).alloc _⟩


set_option maxHeartbeats 400000 in
theorem r11Is_any (sb cb xb gb fb a : Nat) (k : Int) (cs : List Pen.Ctl) (xs : List Pen.Extent) (g : List Bool) (w : World) (hS : SR w sb cb xb gb fb a cs xs g) :
    Calls Tryz.prog 84 #[.pointer (some ⟨sb, 0, none⟩), .int .i64 k] w (Q (.bool (decide (1 ≤ k) && decide (k < cs.length))) w) := by
  obtain ⟨cc, xc, k1, k2, ht⟩ := hS.top
  have d0 := ht.cell 0 rfl
  clear ht hS
  by_cases h1 : 1 ≤ k
  all_goals
    go_enter Tryz.func84, Tryz.ntmps84
    go_wp2
    go_ret
    refine Q.bool ?_
    simp [*] <;> omega


set_option maxHeartbeats 1000000 in
theorem r11Enter_any (sb cb xb gb fb a k : Nat) (fr : Int) (cs : List Pen.Ctl) (xs : List Pen.Extent) (g : List Bool) (w : World) (hS : SR w sb cb xb gb fb a cs xs g) (h1 : 1 ≤ k) (hk : k < cs.length) :
    Calls Tryz.prog 88 #[.pointer (some ⟨sb, 0, none⟩), .int .i64 k, .int .i64 fr] w (SPost sb cb xb gb fb a (chgC cs k (Pen.ctlEnter (cs.getD k default) fr)) xs g (.int .i64 (Pen.ctlEnter (cs.getD k default) fr).2) w) := by
  obtain ⟨cc, xc, k1, k2, ht⟩ := hS.top
  have d0 := ht.cell 0 rfl
  have ls := ht.lt
  have lc := hS.ctls.lt
  have lx := hS.exts.lt
  have lf := hS.ground.2.1.lt
  have e0 := hS.ctls.ctl k hk 0 (by omega) rfl
  have e1 := hS.ctls.ctl k hk 1 (by omega) rfl
  have e2 := hS.ctls.ctl k hk 2 (by omega) rfl
  have e3 := hS.ctls.ctl k hk 3 (by omega) rfl
  rw [Nat.add_zero] at e0
  have hsm := hS.few
  have h1i : (1 : Int) ≤ (k : Int) := by omega
  have hki : (k : Int) < (cs.length : Int) := by omega
  clear ht k1 k2
  replace hS := hide hS
  generalize cs.getD k default = c at *
  obtain ⟨c0, c1, c2, c3⟩ := c
  simp only at e0 e1 e2 e3
  go_enter Tryz.func88, Tryz.ntmps88
  go_wp2_with (first | (go_at_call 84; refine (r11Is_any sb cb xb gb fb a _ cs xs g _ (unhide hS)).mono ?_; rintro e w' ⟨rfl, rfl⟩) | (go_at_call 146; refine (r03Enter_any _ _ _ _ _ _).mono ?_; rintro e w' ⟨X, Y, Z, rfl, rfl⟩) | (go_at_call 147; refine (r11become_any sb cb xb gb fb a k cs xs g (Pen.ctlEnter ⟨c0, c1, c2, c3⟩ fr).1 _ _ ((unhide hS).below (by first | exact below_a3 _ _ _ _ | exact below_a4 _ _ _ _ _ | exact below_a5 _ _ _ _ _ _ | exact below_a2 _ _ _)) hk).mono ?_; rintro e w' ⟨rfl, hS', hU'⟩))
  all_goals
    go_ret
    refine ⟨rfl, hS', (Upd.of_below (M := [cb, xb, fb]) (by first | exact below_a3 _ _ _ _ | exact below_a4 _ _ _ _ _ | exact below_a5 _ _ _ _ _ _ | exact below_a2 _ _ _)).trans hU' (by simp)⟩


set_option maxHeartbeats 1000000 in
theorem r11Open_any (sb cb xb gb fb a k : Nat) (cs : List Pen.Ctl) (xs : List Pen.Extent) (g : List Bool) (w : World) (hS : SR w sb cb xb gb fb a cs xs g) (h1 : 1 ≤ k) (hk : k < cs.length) :
    Calls Tryz.prog 93 #[.pointer (some ⟨sb, 0, none⟩), .int .i64 k] w (SPost sb cb xb gb fb a (chgC cs k (Pen.ctlOpen (cs.getD k default))) xs g (.int .i64 (Pen.ctlOpen (cs.getD k default)).2) w) := by
  obtain ⟨cc, xc, k1, k2, ht⟩ := hS.top
  have d0 := ht.cell 0 rfl
  have ls := ht.lt
  have lc := hS.ctls.lt
  have lx := hS.exts.lt
  have lf := hS.ground.2.1.lt
  have e0 := hS.ctls.ctl k hk 0 (by omega) rfl
  have e1 := hS.ctls.ctl k hk 1 (by omega) rfl
  have e2 := hS.ctls.ctl k hk 2 (by omega) rfl
  have e3 := hS.ctls.ctl k hk 3 (by omega) rfl
  rw [Nat.add_zero] at e0
  have hsm := hS.few
  have h1i : (1 : Int) ≤ (k : Int) := by omega
  have hki : (k : Int) < (cs.length : Int) := by omega
  clear ht k1 k2
  replace hS := hide hS
  generalize cs.getD k default = c at *
  obtain ⟨c0, c1, c2, c3⟩ := c
  simp only at e0 e1 e2 e3
  go_enter Tryz.func93, Tryz.ntmps93
  go_wp2_with (first | (go_at_call 84; refine (r11Is_any sb cb xb gb fb a _ cs xs g _ (unhide hS)).mono ?_; rintro e w' ⟨rfl, rfl⟩) | (go_at_call 150; refine (r03Open_any _ _ _ _ _).mono ?_; rintro e w' ⟨X, Y, Z, rfl, rfl⟩) | (go_at_call 147; refine (r11become_any sb cb xb gb fb a k cs xs g (Pen.ctlOpen ⟨c0, c1, c2, c3⟩).1 _ _ ((unhide hS).below (by first | exact below_a3 _ _ _ _ | exact below_a4 _ _ _ _ _ | exact below_a5 _ _ _ _ _ _ | exact below_a2 _ _ _)) hk).mono ?_; rintro e w' ⟨rfl, hS', hU'⟩))
  all_goals
    go_ret
    refine ⟨rfl, hS', (Upd.of_below (M := [cb, xb, fb]) (by first | exact below_a3 _ _ _ _ | exact below_a4 _ _ _ _ _ | exact below_a5 _ _ _ _ _ _ | exact below_a2 _ _ _)).trans hU' (by simp)⟩


set_option maxHeartbeats 1000000 in
theorem r11Leave_any (sb cb xb gb fb a k : Nat) (cs : List Pen.Ctl) (xs : List Pen.Extent) (g : List Bool) (w : World) (hS : SR w sb cb xb gb fb a cs xs g) (h1 : 1 ≤ k) (hk : k < cs.length) :
    Calls Tryz.prog 90 #[.pointer (some ⟨sb, 0, none⟩), .int .i64 k] w (SPost sb cb xb gb fb a (chgC cs k (Pen.ctlLeave (cs.getD k default))) xs g (.tuple #[.bool (decide ((Pen.ctlLeave (cs.getD k default)).2 = 0) && decide ((Pen.ctlLeave (cs.getD k default)).1.state = 3)), .int .i64 (Pen.ctlLeave (cs.getD k default)).2]) w) := by
  obtain ⟨cc, xc, k1, k2, ht⟩ := hS.top
  have d0 := ht.cell 0 rfl
  have ls := ht.lt
  have lc := hS.ctls.lt
  have lx := hS.exts.lt
  have lf := hS.ground.2.1.lt
  have e0 := hS.ctls.ctl k hk 0 (by omega) rfl
  have e1 := hS.ctls.ctl k hk 1 (by omega) rfl
  have e2 := hS.ctls.ctl k hk 2 (by omega) rfl
  have e3 := hS.ctls.ctl k hk 3 (by omega) rfl
  rw [Nat.add_zero] at e0
  have hsm := hS.few
  have h1i : (1 : Int) ≤ (k : Int) := by omega
  have hki : (k : Int) < (cs.length : Int) := by omega
  clear ht k1 k2
  replace hS := hide hS
  generalize cs.getD k default = c at *
  obtain ⟨c0, c1, c2, c3⟩ := c
  simp only at e0 e1 e2 e3
  go_enter Tryz.func90, Tryz.ntmps90
  go_wp2_with (first | (go_at_call 84; refine (r11Is_any sb cb xb gb fb a _ cs xs g _ (unhide hS)).mono ?_; rintro e w' ⟨rfl, rfl⟩) | (go_at_call 148; refine (r03Leave_any _ _ _ _ _).mono ?_; rintro e w' ⟨X, Y, Z, rfl, rfl⟩) | (go_at_call 147; refine (r11become_any sb cb xb gb fb a k cs xs g (Pen.ctlLeave ⟨c0, c1, c2, c3⟩).1 _ _ ((unhide hS).below (by first | exact below_a3 _ _ _ _ | exact below_a4 _ _ _ _ _ | exact below_a5 _ _ _ _ _ _ | exact below_a2 _ _ _)) hk).mono ?_; rintro e w' ⟨rfl, hS', hU'⟩; have hck := fun o => World.cell?_of_block (a := ⟨w.heap.size + 3, o, none⟩) (hU'.block (w.heap.size + 3) (by simp <;> omega) (by simp; omega))))
  all_goals
    go_ret2
    refine ⟨by (simp [*]; try exact beq_eq_decide' _ _), hS', (Upd.of_below (M := [cb, xb, fb]) (by first | exact below_a3 _ _ _ _ | exact below_a4 _ _ _ _ _ | exact below_a5 _ _ _ _ _ _ | exact below_a2 _ _ _)).trans hU' (by simp)⟩

end Go.Proofs.YtbnibokloendlaaGreat
