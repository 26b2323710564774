/-
  No cell of these rows narrows 'for every input' (looked for: loops, veiled, ifaces, maps, wideKeys, modest, calm, conditions, laid).
  DERIVED. THE GIVEN ROWS OF THIS SEAT. 5 by the template 'for every input the law returns true; each argument reads behind the call as it read before'; 0 by the template 'total and deterministic' (their statements: YtfapcagleghlaaaTotals.lean).
  GIVEN WITH THE SEED: the statements are not yours to turn. If you find one false, say at which input.
  Laid BY PROGRAM, IN A SANDBOX (cutbox-rows.mjs): the forced cells as the released guide's own fill.sh prints them over the translation 0fa7882f4514b6f1… (all of the seat's roots in one cut). By AI agents, Wed Nov 11 2026. No macro, syntax, notation, axiom, sorry.
-/
import Derived.Test.YtfapcagleghlaaaChecked
import GoSem.Claim
import GoSem.ClaimJoined
import GoSem.ClaimMapViews
import Derived.JoinedTies
import Derived.KernelRfl
namespace Go.Proofs.Ytfapcagleghlaaa
/- THE CELL 'sum', in the pinned program and in every row, IS THE sha256 OF THE DUMP (.gsa) THAT YtfapcagleghlaaaProg.lean LOADS. Nothing in Lean hashes anything: it is a label: what it is worth is what the hold of that sum in a sandbox is worth. -/
noncomputable def Try.pinned : Pinned := { name := "ytfapcagleghlaaa", sum := "0fa7882f4514b6f17762cde89d267669ab68b4259228da7a4ee3c5455afd5cab", checked := Try.checked }
namespace Rows
def none {H : Type} : Left H := { results := [], args := [] }

/-- 'regattalaw14.SuperMeets': WHATEVER THE INPUT: true; the input reads as it did. -/
def superMeetsSpec : ChangeSpec := { name := "superMeets", fn := fun _ => fun
  | [d1, d2] => { results := [.lit (.bool true)], args := [d1, d2] }
  | _ => none }
def superMeetsRow : OpenClaim := { program := "ytfapcagleghlaaa", sum := "0fa7882f4514b6f17762cde89d267669ab68b4259228da7a4ee3c5455afd5cab", func := "regatta/regattalaw14.SuperMeets", spec := "superMeets", unfollowed := true, recurses := true, apart := false }
def SuperMeetsSaid : Prop := superMeetsRow.holds Try.pinned (OpenSpec.ofChange superMeetsSpec)

/-- ITS FALSE NEIGHBOUR: 'it returns false'. Refute it at one input. -/
def superMeetsWrong : ChangeSpec := { name := "superMeets", fn := fun _ => fun
  | [d1, d2] => { results := [.lit (.bool false)], args := [d1, d2] }
  | _ => none }
def SuperMeetsWrongFalsely : Prop := superMeetsRow.holds Try.pinned (OpenSpec.ofChange superMeetsWrong)

/-- 'regattalaw14.SuperFollows': WHATEVER THE INPUT: true; the input reads as it did. -/
def superFollowsSpec : ChangeSpec := { name := "superFollows", fn := fun _ => fun
  | [d1, d2] => { results := [.lit (.bool true)], args := [d1, d2] }
  | _ => none }
def superFollowsRow : OpenClaim := { program := "ytfapcagleghlaaa", sum := "0fa7882f4514b6f17762cde89d267669ab68b4259228da7a4ee3c5455afd5cab", func := "regatta/regattalaw14.SuperFollows", spec := "superFollows", unfollowed := true, recurses := true, apart := false }
def SuperFollowsSaid : Prop := superFollowsRow.holds Try.pinned (OpenSpec.ofChange superFollowsSpec)

/-- ITS FALSE NEIGHBOUR: 'it returns false'. Refute it at one input. -/
def superFollowsWrong : ChangeSpec := { name := "superFollows", fn := fun _ => fun
  | [d1, d2] => { results := [.lit (.bool false)], args := [d1, d2] }
  | _ => none }
def SuperFollowsWrongFalsely : Prop := superFollowsRow.holds Try.pinned (OpenSpec.ofChange superFollowsWrong)

/-- 'regattalaw14.SuperLater': WHATEVER THE INPUT: true; the input reads as it did. -/
def superLaterSpec : ChangeSpec := { name := "superLater", fn := fun _ => fun
  | [d1, d2, d3] => { results := [.lit (.bool true)], args := [d1, d2, d3] }
  | _ => none }
def superLaterRow : OpenClaim := { program := "ytfapcagleghlaaa", sum := "0fa7882f4514b6f17762cde89d267669ab68b4259228da7a4ee3c5455afd5cab", func := "regatta/regattalaw14.SuperLater", spec := "superLater", unfollowed := true, recurses := true, apart := false }
def SuperLaterSaid : Prop := superLaterRow.holds Try.pinned (OpenSpec.ofChange superLaterSpec)

/-- ITS FALSE NEIGHBOUR: 'it returns false'. Refute it at one input. -/
def superLaterWrong : ChangeSpec := { name := "superLater", fn := fun _ => fun
  | [d1, d2, d3] => { results := [.lit (.bool false)], args := [d1, d2, d3] }
  | _ => none }
def SuperLaterWrongFalsely : Prop := superLaterRow.holds Try.pinned (OpenSpec.ofChange superLaterWrong)

/-- 'regattalaw14.SuperOrder': WHATEVER THE INPUT: true; the input reads as it did. -/
def superOrderSpec : ChangeSpec := { name := "superOrder", fn := fun _ => fun
  | [d1, d2] => { results := [.lit (.bool true)], args := [d1, d2] }
  | _ => none }
def superOrderRow : OpenClaim := { program := "ytfapcagleghlaaa", sum := "0fa7882f4514b6f17762cde89d267669ab68b4259228da7a4ee3c5455afd5cab", func := "regatta/regattalaw14.SuperOrder", spec := "superOrder", unfollowed := true, recurses := true, apart := false }
def SuperOrderSaid : Prop := superOrderRow.holds Try.pinned (OpenSpec.ofChange superOrderSpec)

/-- ITS FALSE NEIGHBOUR: 'it returns false'. Refute it at one input. -/
def superOrderWrong : ChangeSpec := { name := "superOrder", fn := fun _ => fun
  | [d1, d2] => { results := [.lit (.bool false)], args := [d1, d2] }
  | _ => none }
def SuperOrderWrongFalsely : Prop := superOrderRow.holds Try.pinned (OpenSpec.ofChange superOrderWrong)

/-- 'regattalaw14.SuperPlays': WHATEVER THE INPUT: true; the input reads as it did. -/
def superPlaysSpec : ChangeSpec := { name := "superPlays", fn := fun _ => fun
  | [d1, d2, d3] => { results := [.lit (.bool true)], args := [d1, d2, d3] }
  | _ => none }
def superPlaysRow : OpenClaim := { program := "ytfapcagleghlaaa", sum := "0fa7882f4514b6f17762cde89d267669ab68b4259228da7a4ee3c5455afd5cab", func := "regatta/regattalaw14.SuperPlays", spec := "superPlays", unfollowed := true, recurses := true, apart := false }
def SuperPlaysSaid : Prop := superPlaysRow.holds Try.pinned (OpenSpec.ofChange superPlaysSpec)

/-- ITS FALSE NEIGHBOUR: 'it returns false'. Refute it at one input. -/
def superPlaysWrong : ChangeSpec := { name := "superPlays", fn := fun _ => fun
  | [d1, d2, d3] => { results := [.lit (.bool false)], args := [d1, d2, d3] }
  | _ => none }
def SuperPlaysWrongFalsely : Prop := superPlaysRow.holds Try.pinned (OpenSpec.ofChange superPlaysWrong)

/- THE SECOND FORM. 'bulk': how many values and letters a reading holds, each counted each time it is reached (what is shared counts as often as it is met; a slice's spare places count too). A statement '..UptoSaid' is the law's where the arguments, and the package variables that the reading takes, are together of bulk at most 1048576: NARROWER than '..Said'. Prove '..Said' where nothing that the law and all that it calls make is longer than what came in: it says more and counts as full. Else prove '..UptoSaid'. A law counts once. -/
mutual
def uptoBulk {H : Type} : DataW H → Nat
  | .lit (.string bytes) => bytes.length + 1
  | .lit _ => 1
  | .nil => 1
  | .ptr d => uptoBulk d + 1
  | .slice elems spare => uptoBulkAll elems + uptoBulkAll spare + 1
  | .agg parts => uptoBulkAll parts + 1
  | .iface _ d => uptoBulk d + 1
  | .map entries => uptoBulkEntries entries + 1
  | .held _ => 1
def uptoBulkAll {H : Type} : List (DataW H) → Nat
  | [] => 0
  | d :: r => uptoBulk d + uptoBulkAll r
def uptoBulkEntries {H : Type} : List (Lit × DataW H) → Nat
  | [] => 0
  | x :: r => uptoBulkEntry x + uptoBulkEntries r
def uptoBulkEntry {H : Type} : Lit × DataW H → Nat
  | (.string bytes, d) => bytes.length + uptoBulk d + 1
  | (_, d) => uptoBulk d + 1
 end
def uptoSmall : (H : Type) → List (DataW H) → Bool := fun _ ds => decide (uptoBulkAll ds ≤ 1048576)
def OpenSpec.upto (s : _root_.Go.ChangeSpec) : _root_.Go.OpenSpec := { _root_.Go.OpenSpec.ofChange s with cond := some uptoSmall }

/-- 'regattalaw14.SuperMeets', WHERE WHAT IT READS IS OF BULK AT MOST 1048576: true; the input reads as it did. -/
def superMeetsUptoRow : OpenClaim := { program := "ytfapcagleghlaaa", sum := "0fa7882f4514b6f17762cde89d267669ab68b4259228da7a4ee3c5455afd5cab", func := "regatta/regattalaw14.SuperMeets", spec := "superMeets", unfollowed := true, recurses := true, apart := false, narrowed := true }
def SuperMeetsUptoSaid : Prop := superMeetsUptoRow.holds Try.pinned (OpenSpec.upto superMeetsSpec)

/-- 'regattalaw14.SuperFollows', WHERE WHAT IT READS IS OF BULK AT MOST 1048576: true; the input reads as it did. -/
def superFollowsUptoRow : OpenClaim := { program := "ytfapcagleghlaaa", sum := "0fa7882f4514b6f17762cde89d267669ab68b4259228da7a4ee3c5455afd5cab", func := "regatta/regattalaw14.SuperFollows", spec := "superFollows", unfollowed := true, recurses := true, apart := false, narrowed := true }
def SuperFollowsUptoSaid : Prop := superFollowsUptoRow.holds Try.pinned (OpenSpec.upto superFollowsSpec)

/-- 'regattalaw14.SuperLater', WHERE WHAT IT READS IS OF BULK AT MOST 1048576: true; the input reads as it did. -/
def superLaterUptoRow : OpenClaim := { program := "ytfapcagleghlaaa", sum := "0fa7882f4514b6f17762cde89d267669ab68b4259228da7a4ee3c5455afd5cab", func := "regatta/regattalaw14.SuperLater", spec := "superLater", unfollowed := true, recurses := true, apart := false, narrowed := true }
def SuperLaterUptoSaid : Prop := superLaterUptoRow.holds Try.pinned (OpenSpec.upto superLaterSpec)

/-- 'regattalaw14.SuperOrder', WHERE WHAT IT READS IS OF BULK AT MOST 1048576: true; the input reads as it did. -/
def superOrderUptoRow : OpenClaim := { program := "ytfapcagleghlaaa", sum := "0fa7882f4514b6f17762cde89d267669ab68b4259228da7a4ee3c5455afd5cab", func := "regatta/regattalaw14.SuperOrder", spec := "superOrder", unfollowed := true, recurses := true, apart := false, narrowed := true }
def SuperOrderUptoSaid : Prop := superOrderUptoRow.holds Try.pinned (OpenSpec.upto superOrderSpec)

/-- 'regattalaw14.SuperPlays', WHERE WHAT IT READS IS OF BULK AT MOST 1048576: true; the input reads as it did. -/
def superPlaysUptoRow : OpenClaim := { program := "ytfapcagleghlaaa", sum := "0fa7882f4514b6f17762cde89d267669ab68b4259228da7a4ee3c5455afd5cab", func := "regatta/regattalaw14.SuperPlays", spec := "superPlays", unfollowed := true, recurses := true, apart := false, narrowed := true }
def SuperPlaysUptoSaid : Prop := superPlaysUptoRow.holds Try.pinned (OpenSpec.upto superPlaysSpec)

end Rows
end Go.Proofs.Ytfapcagleghlaaa
