/-
  No cell of these rows narrows 'for every input' (looked for: loops, veiled, ifaces, maps, wideKeys, modest, calm, conditions, laid).
  DERIVED. THE GIVEN ROWS OF THIS SEAT. 6 by the template 'for every input the law returns true; each argument reads behind the call as it read before'; 0 by the template 'total and deterministic' (their statements: YtbnibokloendlaaGreatTotals.lean).
  GIVEN WITH THE SEED: the statements are not yours to turn. If you find one false, say at which input.
  Laid BY PROGRAM, IN A SANDBOX (cutbox-rows.mjs): the forced cells as the released guide's own fill.sh prints them over the translation ff8ef13d303766b7… (all of the seat's roots in one cut). By AI agents, Wed Nov 11 2026. No macro, syntax, notation, axiom, sorry.
-/
import Derived.Test.YtbnibokloendlaaGreatChecked
import GoSem.Claim
import GoSem.ClaimJoined
import GoSem.ClaimMapViews
import Derived.JoinedTies
import Derived.KernelRfl
namespace Go.Proofs.YtbnibokloendlaaGreat
/- THE CELL 'sum', in the pinned program and in every row, IS THE sha256 OF THE DUMP (.gsa) THAT YtbnibokloendlaaGreatProg.lean LOADS. Nothing in Lean hashes anything: it is a label: what it is worth is what the hold of that sum in a sandbox is worth. -/
noncomputable def Tryz.pinned : Pinned := { name := "ytbnibokloendlaagreat", sum := "ff8ef13d303766b779566df55feecb417300282623f8f2ce2368a90da5851f90", checked := Tryz.checked }
namespace Rows
def none {H : Type} : Left H := { results := [], args := [] }

/-- 'penfoldlaw22.HistAll': WHATEVER THE INPUT: true; the input reads as it did. -/
def histAllSpec : ChangeSpec := { name := "histAll", fn := fun _ => fun
  | [d1, d2, d3] => { results := [.lit (.bool true)], args := [d1, d2, d3] }
  | _ => none }
def histAllRow : OpenClaim := { program := "ytbnibokloendlaagreat", sum := "ff8ef13d303766b779566df55feecb417300282623f8f2ce2368a90da5851f90", func := "penfold/penfoldlaw22.HistAll", spec := "histAll", unfollowed := true, recurses := true, plainKeys := false, apart := false }
def HistAllSaid : Prop := histAllRow.holds Tryz.pinned (OpenSpec.ofChange histAllSpec)

/-- ITS FALSE NEIGHBOUR: 'it returns false'. Refute it at one input. -/
def histAllWrong : ChangeSpec := { name := "histAll", fn := fun _ => fun
  | [d1, d2, d3] => { results := [.lit (.bool false)], args := [d1, d2, d3] }
  | _ => none }
def HistAllWrongFalsely : Prop := histAllRow.holds Tryz.pinned (OpenSpec.ofChange histAllWrong)

/-- 'penfoldlaw22.HistWorlds': WHATEVER THE INPUT: true; the input reads as it did. -/
def histWorldsSpec : ChangeSpec := { name := "histWorlds", fn := fun _ => fun
  | [d1, d2, d3] => { results := [.lit (.bool true)], args := [d1, d2, d3] }
  | _ => none }
def histWorldsRow : OpenClaim := { program := "ytbnibokloendlaagreat", sum := "ff8ef13d303766b779566df55feecb417300282623f8f2ce2368a90da5851f90", func := "penfold/penfoldlaw22.HistWorlds", spec := "histWorlds", unfollowed := true, recurses := true, plainKeys := false, apart := false }
def HistWorldsSaid : Prop := histWorldsRow.holds Tryz.pinned (OpenSpec.ofChange histWorldsSpec)

/-- ITS FALSE NEIGHBOUR: 'it returns false'. Refute it at one input. -/
def histWorldsWrong : ChangeSpec := { name := "histWorlds", fn := fun _ => fun
  | [d1, d2, d3] => { results := [.lit (.bool false)], args := [d1, d2, d3] }
  | _ => none }
def HistWorldsWrongFalsely : Prop := histWorldsRow.holds Tryz.pinned (OpenSpec.ofChange histWorldsWrong)

/-- 'penfoldlaw22.HistTime': WHATEVER THE INPUT: true; the input reads as it did. -/
def histTimeSpec : ChangeSpec := { name := "histTime", fn := fun _ => fun
  | [d] => { results := [.lit (.bool true)], args := [d] }
  | _ => none }
def histTimeRow : OpenClaim := { program := "ytbnibokloendlaagreat", sum := "ff8ef13d303766b779566df55feecb417300282623f8f2ce2368a90da5851f90", func := "penfold/penfoldlaw22.HistTime", spec := "histTime", unfollowed := true, recurses := true, plainKeys := false, apart := false }
def HistTimeSaid : Prop := histTimeRow.holds Tryz.pinned (OpenSpec.ofChange histTimeSpec)

/-- ITS FALSE NEIGHBOUR: 'it returns false'. Refute it at one input. -/
def histTimeWrong : ChangeSpec := { name := "histTime", fn := fun _ => fun
  | [d] => { results := [.lit (.bool false)], args := [d] }
  | _ => none }
def HistTimeWrongFalsely : Prop := histTimeRow.holds Tryz.pinned (OpenSpec.ofChange histTimeWrong)

/-- 'penfoldlaw22.HistSequences': WHATEVER THE INPUT: true; the input reads as it did. -/
def histSequencesSpec : ChangeSpec := { name := "histSequences", fn := fun _ => fun
  | [d1, d2, d3] => { results := [.lit (.bool true)], args := [d1, d2, d3] }
  | _ => none }
def histSequencesRow : OpenClaim := { program := "ytbnibokloendlaagreat", sum := "ff8ef13d303766b779566df55feecb417300282623f8f2ce2368a90da5851f90", func := "penfold/penfoldlaw22.HistSequences", spec := "histSequences", unfollowed := true, recurses := true, plainKeys := false, apart := false }
def HistSequencesSaid : Prop := histSequencesRow.holds Tryz.pinned (OpenSpec.ofChange histSequencesSpec)

/-- ITS FALSE NEIGHBOUR: 'it returns false'. Refute it at one input. -/
def histSequencesWrong : ChangeSpec := { name := "histSequences", fn := fun _ => fun
  | [d1, d2, d3] => { results := [.lit (.bool false)], args := [d1, d2, d3] }
  | _ => none }
def HistSequencesWrongFalsely : Prop := histSequencesRow.holds Tryz.pinned (OpenSpec.ofChange histSequencesWrong)

/-- 'penfoldlaw22.HistOrder': WHATEVER THE INPUT: true; the input reads as it did. -/
def histOrderSpec : ChangeSpec := { name := "histOrder", fn := fun _ => fun
  | [d] => { results := [.lit (.bool true)], args := [d] }
  | _ => none }
def histOrderRow : OpenClaim := { program := "ytbnibokloendlaagreat", sum := "ff8ef13d303766b779566df55feecb417300282623f8f2ce2368a90da5851f90", func := "penfold/penfoldlaw22.HistOrder", spec := "histOrder", unfollowed := true, recurses := true, plainKeys := false, apart := false }
def HistOrderSaid : Prop := histOrderRow.holds Tryz.pinned (OpenSpec.ofChange histOrderSpec)

/-- ITS FALSE NEIGHBOUR: 'it returns false'. Refute it at one input. -/
def histOrderWrong : ChangeSpec := { name := "histOrder", fn := fun _ => fun
  | [d] => { results := [.lit (.bool false)], args := [d] }
  | _ => none }
def HistOrderWrongFalsely : Prop := histOrderRow.holds Tryz.pinned (OpenSpec.ofChange histOrderWrong)

/-- 'penfoldlaw22.HistNones': WHATEVER THE INPUT: true; the input reads as it did. -/
def histNonesSpec : ChangeSpec := { name := "histNones", fn := fun _ => fun
  | [d1, d2, d3] => { results := [.lit (.bool true)], args := [d1, d2, d3] }
  | _ => none }
def histNonesRow : OpenClaim := { program := "ytbnibokloendlaagreat", sum := "ff8ef13d303766b779566df55feecb417300282623f8f2ce2368a90da5851f90", func := "penfold/penfoldlaw22.HistNones", spec := "histNones", unfollowed := true, recurses := true, plainKeys := false, apart := false }
def HistNonesSaid : Prop := histNonesRow.holds Tryz.pinned (OpenSpec.ofChange histNonesSpec)

/-- ITS FALSE NEIGHBOUR: 'it returns false'. Refute it at one input. -/
def histNonesWrong : ChangeSpec := { name := "histNones", fn := fun _ => fun
  | [d1, d2, d3] => { results := [.lit (.bool false)], args := [d1, d2, d3] }
  | _ => none }
def HistNonesWrongFalsely : Prop := histNonesRow.holds Tryz.pinned (OpenSpec.ofChange histNonesWrong)

/- THE SECOND FORM. 'bulk': how many values and letters a reading holds, each counted each time it is reached (what is shared counts as often as it is met; a slice's spare places count too). A statement '..UptoSaid' is the law's where the arguments, and the package variables that the reading takes, are together of bulk at most 1048576: NARROWER than '..Said'. Prove '..Said' where nothing that the law and all that it calls make is longer than what came in: it says more and counts as full. Else prove '..UptoSaid'. A law counts once. -/
mutual
def uptoBulk {H : Type} : DataW H → Nat
  | .lit (.string bytes) => bytes.length + 1
  | .lit _ => 1
  | .nil => 1
  | .ptr d => uptoBulk d + 1
  | .slice elems spare => uptoBulkAll elems + uptoBulkAll spare + 1
  | .agg parts => uptoBulkAll parts + 1
  | .iface _ d => uptoBulk d + 1
  | .map entries => uptoBulkEntries entries + 1
  | .held _ => 1
def uptoBulkAll {H : Type} : List (DataW H) → Nat
  | [] => 0
  | d :: r => uptoBulk d + uptoBulkAll r
def uptoBulkEntries {H : Type} : List (Lit × DataW H) → Nat
  | [] => 0
  | x :: r => uptoBulkEntry x + uptoBulkEntries r
def uptoBulkEntry {H : Type} : Lit × DataW H → Nat
  | (.string bytes, d) => bytes.length + uptoBulk d + 1
  | (_, d) => uptoBulk d + 1
 end
def uptoSmall : (H : Type) → List (DataW H) → Bool := fun _ ds => decide (uptoBulkAll ds ≤ 1048576)
def OpenSpec.upto (s : _root_.Go.ChangeSpec) : _root_.Go.OpenSpec := { _root_.Go.OpenSpec.ofChange s with cond := some uptoSmall }

/-- 'penfoldlaw22.HistAll', WHERE WHAT IT READS IS OF BULK AT MOST 1048576: true; the input reads as it did. -/
def histAllUptoRow : OpenClaim := { program := "ytbnibokloendlaagreat", sum := "ff8ef13d303766b779566df55feecb417300282623f8f2ce2368a90da5851f90", func := "penfold/penfoldlaw22.HistAll", spec := "histAll", unfollowed := true, recurses := true, plainKeys := false, apart := false, narrowed := true }
def HistAllUptoSaid : Prop := histAllUptoRow.holds Tryz.pinned (OpenSpec.upto histAllSpec)

/-- 'penfoldlaw22.HistWorlds', WHERE WHAT IT READS IS OF BULK AT MOST 1048576: true; the input reads as it did. -/
def histWorldsUptoRow : OpenClaim := { program := "ytbnibokloendlaagreat", sum := "ff8ef13d303766b779566df55feecb417300282623f8f2ce2368a90da5851f90", func := "penfold/penfoldlaw22.HistWorlds", spec := "histWorlds", unfollowed := true, recurses := true, plainKeys := false, apart := false, narrowed := true }
def HistWorldsUptoSaid : Prop := histWorldsUptoRow.holds Tryz.pinned (OpenSpec.upto histWorldsSpec)

/-- 'penfoldlaw22.HistTime', WHERE WHAT IT READS IS OF BULK AT MOST 1048576: true; the input reads as it did. -/
def histTimeUptoRow : OpenClaim := { program := "ytbnibokloendlaagreat", sum := "ff8ef13d303766b779566df55feecb417300282623f8f2ce2368a90da5851f90", func := "penfold/penfoldlaw22.HistTime", spec := "histTime", unfollowed := true, recurses := true, plainKeys := false, apart := false, narrowed := true }
def HistTimeUptoSaid : Prop := histTimeUptoRow.holds Tryz.pinned (OpenSpec.upto histTimeSpec)

/-- 'penfoldlaw22.HistSequences', WHERE WHAT IT READS IS OF BULK AT MOST 1048576: true; the input reads as it did. -/
def histSequencesUptoRow : OpenClaim := { program := "ytbnibokloendlaagreat", sum := "ff8ef13d303766b779566df55feecb417300282623f8f2ce2368a90da5851f90", func := "penfold/penfoldlaw22.HistSequences", spec := "histSequences", unfollowed := true, recurses := true, plainKeys := false, apart := false, narrowed := true }
def HistSequencesUptoSaid : Prop := histSequencesUptoRow.holds Tryz.pinned (OpenSpec.upto histSequencesSpec)

/-- 'penfoldlaw22.HistOrder', WHERE WHAT IT READS IS OF BULK AT MOST 1048576: true; the input reads as it did. -/
def histOrderUptoRow : OpenClaim := { program := "ytbnibokloendlaagreat", sum := "ff8ef13d303766b779566df55feecb417300282623f8f2ce2368a90da5851f90", func := "penfold/penfoldlaw22.HistOrder", spec := "histOrder", unfollowed := true, recurses := true, plainKeys := false, apart := false, narrowed := true }
def HistOrderUptoSaid : Prop := histOrderUptoRow.holds Tryz.pinned (OpenSpec.upto histOrderSpec)

/-- 'penfoldlaw22.HistNones', WHERE WHAT IT READS IS OF BULK AT MOST 1048576: true; the input reads as it did. -/
def histNonesUptoRow : OpenClaim := { program := "ytbnibokloendlaagreat", sum := "ff8ef13d303766b779566df55feecb417300282623f8f2ce2368a90da5851f90", func := "penfold/penfoldlaw22.HistNones", spec := "histNones", unfollowed := true, recurses := true, plainKeys := false, apart := false, narrowed := true }
def HistNonesUptoSaid : Prop := histNonesUptoRow.holds Tryz.pinned (OpenSpec.upto histNonesSpec)

end Rows
end Go.Proofs.YtbnibokloendlaaGreat
