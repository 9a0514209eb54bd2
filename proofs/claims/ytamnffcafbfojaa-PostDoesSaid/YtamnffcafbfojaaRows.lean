/-
  No cell of these rows narrows 'for every input' (looked for: loops, veiled, ifaces, maps, wideKeys, modest, calm, conditions, laid).
  DERIVED. THE GIVEN ROWS OF THIS SEAT. 5 by the template 'for every input the law returns true; each argument reads behind the call as it read before'; 0 by the template 'total and deterministic' (their statements: YtamnffcafbfojaaTotals.lean).
  GIVEN WITH THE SEED: the statements are not yours to turn. If you find one false, say at which input.
  Laid BY PROGRAM, IN A SANDBOX (cutbox-rows.mjs): the forced cells as the released guide's own fill.sh prints them over the translation f682b7a55510c74e… (all of the seat's roots in one cut). By AI agents, Wed Nov 11 2026. No macro, syntax, notation, axiom, sorry.
-/
import Derived.Test.YtamnffcafbfojaaChecked
import GoSem.Claim
import GoSem.ClaimJoined
import GoSem.ClaimMapViews
import Derived.JoinedTies
import Derived.KernelRfl
namespace Go.Proofs.Ytamnffcafbfojaa
/- THE CELL 'sum', in the pinned program and in every row, IS THE sha256 OF THE DUMP (.gsa) THAT YtamnffcafbfojaaProg.lean LOADS. Nothing in Lean hashes anything: it is a label: what it is worth is what the hold of that sum in a sandbox is worth. -/
noncomputable def Try.pinned : Pinned := { name := "ytamnffcafbfojaa", sum := "f682b7a55510c74e53a385524b68fac7ac8342733a44798d2e8ca54aa823f863", checked := Try.checked }
namespace Rows
def none {H : Type} : Left H := { results := [], args := [] }

/-- 'tribunallaw19.PostWaits': WHATEVER THE INPUT: true; the input reads as it did. -/
def postWaitsSpec : ChangeSpec := { name := "postWaits", fn := fun _ => fun
  | [d1, d2, d3] => { results := [.lit (.bool true)], args := [d1, d2, d3] }
  | _ => none }
def postWaitsRow : OpenClaim := { program := "ytamnffcafbfojaa", sum := "f682b7a55510c74e53a385524b68fac7ac8342733a44798d2e8ca54aa823f863", func := "tribunal/tribunallaw19.PostWaits", spec := "postWaits", unfollowed := true, recurses := true, plainKeys := false, apart := false }
def PostWaitsSaid : Prop := postWaitsRow.holds Try.pinned (OpenSpec.ofChange postWaitsSpec)

/-- ITS FALSE NEIGHBOUR: 'it returns false'. Refute it at one input. -/
def postWaitsWrong : ChangeSpec := { name := "postWaits", fn := fun _ => fun
  | [d1, d2, d3] => { results := [.lit (.bool false)], args := [d1, d2, d3] }
  | _ => none }
def PostWaitsWrongFalsely : Prop := postWaitsRow.holds Try.pinned (OpenSpec.ofChange postWaitsWrong)

/-- 'tribunallaw19.PostAges': WHATEVER THE INPUT: true; the input reads as it did. -/
def postAgesSpec : ChangeSpec := { name := "postAges", fn := fun _ => fun
  | [d1, d2, d3] => { results := [.lit (.bool true)], args := [d1, d2, d3] }
  | _ => none }
def postAgesRow : OpenClaim := { program := "ytamnffcafbfojaa", sum := "f682b7a55510c74e53a385524b68fac7ac8342733a44798d2e8ca54aa823f863", func := "tribunal/tribunallaw19.PostAges", spec := "postAges", unfollowed := true, recurses := true, plainKeys := false, apart := false }
def PostAgesSaid : Prop := postAgesRow.holds Try.pinned (OpenSpec.ofChange postAgesSpec)

/-- ITS FALSE NEIGHBOUR: 'it returns false'. Refute it at one input. -/
def postAgesWrong : ChangeSpec := { name := "postAges", fn := fun _ => fun
  | [d1, d2, d3] => { results := [.lit (.bool false)], args := [d1, d2, d3] }
  | _ => none }
def PostAgesWrongFalsely : Prop := postAgesRow.holds Try.pinned (OpenSpec.ofChange postAgesWrong)

/-- 'tribunallaw19.PostFirst': WHATEVER THE INPUT: true; the input reads as it did. -/
def postFirstSpec : ChangeSpec := { name := "postFirst", fn := fun _ => fun
  | [d1, d2, d3] => { results := [.lit (.bool true)], args := [d1, d2, d3] }
  | _ => none }
def postFirstRow : OpenClaim := { program := "ytamnffcafbfojaa", sum := "f682b7a55510c74e53a385524b68fac7ac8342733a44798d2e8ca54aa823f863", func := "tribunal/tribunallaw19.PostFirst", spec := "postFirst", unfollowed := true, recurses := true, plainKeys := false, apart := false }
def PostFirstSaid : Prop := postFirstRow.holds Try.pinned (OpenSpec.ofChange postFirstSpec)

/-- ITS FALSE NEIGHBOUR: 'it returns false'. Refute it at one input. -/
def postFirstWrong : ChangeSpec := { name := "postFirst", fn := fun _ => fun
  | [d1, d2, d3] => { results := [.lit (.bool false)], args := [d1, d2, d3] }
  | _ => none }
def PostFirstWrongFalsely : Prop := postFirstRow.holds Try.pinned (OpenSpec.ofChange postFirstWrong)

/-- 'tribunallaw19.PostLoads': WHATEVER THE INPUT: true; the input reads as it did. -/
def postLoadsSpec : ChangeSpec := { name := "postLoads", fn := fun _ => fun
  | [d] => { results := [.lit (.bool true)], args := [d] }
  | _ => none }
def postLoadsRow : OpenClaim := { program := "ytamnffcafbfojaa", sum := "f682b7a55510c74e53a385524b68fac7ac8342733a44798d2e8ca54aa823f863", func := "tribunal/tribunallaw19.PostLoads", spec := "postLoads", unfollowed := true, recurses := true, plainKeys := false, apart := false }
def PostLoadsSaid : Prop := postLoadsRow.holds Try.pinned (OpenSpec.ofChange postLoadsSpec)

/-- ITS FALSE NEIGHBOUR: 'it returns false'. Refute it at one input. -/
def postLoadsWrong : ChangeSpec := { name := "postLoads", fn := fun _ => fun
  | [d] => { results := [.lit (.bool false)], args := [d] }
  | _ => none }
def PostLoadsWrongFalsely : Prop := postLoadsRow.holds Try.pinned (OpenSpec.ofChange postLoadsWrong)

/-- 'tribunallaw19.PostDoes': WHATEVER THE INPUT: true; the input reads as it did. -/
def postDoesSpec : ChangeSpec := { name := "postDoes", fn := fun _ => fun
  | [d] => { results := [.lit (.bool true)], args := [d] }
  | _ => none }
def postDoesRow : OpenClaim := { program := "ytamnffcafbfojaa", sum := "f682b7a55510c74e53a385524b68fac7ac8342733a44798d2e8ca54aa823f863", func := "tribunal/tribunallaw19.PostDoes", spec := "postDoes", unfollowed := true, recurses := true, plainKeys := false, apart := false }
def PostDoesSaid : Prop := postDoesRow.holds Try.pinned (OpenSpec.ofChange postDoesSpec)

/-- ITS FALSE NEIGHBOUR: 'it returns false'. Refute it at one input. -/
def postDoesWrong : ChangeSpec := { name := "postDoes", fn := fun _ => fun
  | [d] => { results := [.lit (.bool false)], args := [d] }
  | _ => none }
def PostDoesWrongFalsely : Prop := postDoesRow.holds Try.pinned (OpenSpec.ofChange postDoesWrong)

/- THE SECOND FORM. 'bulk': how many values and letters a reading holds, each counted each time it is reached (what is shared counts as often as it is met; a slice's spare places count too). A statement '..UptoSaid' is the law's where the arguments, and the package variables that the reading takes, are together of bulk at most 1048576: NARROWER than '..Said'. Prove '..Said' where nothing that the law and all that it calls make is longer than what came in: it says more and counts as full. Else prove '..UptoSaid'. A law counts once. -/
mutual
def uptoBulk {H : Type} : DataW H → Nat
  | .lit (.string bytes) => bytes.length + 1
  | .lit _ => 1
  | .nil => 1
  | .ptr d => uptoBulk d + 1
  | .slice elems spare => uptoBulkAll elems + uptoBulkAll spare + 1
  | .agg parts => uptoBulkAll parts + 1
  | .iface _ d => uptoBulk d + 1
  | .map entries => uptoBulkEntries entries + 1
  | .held _ => 1
def uptoBulkAll {H : Type} : List (DataW H) → Nat
  | [] => 0
  | d :: r => uptoBulk d + uptoBulkAll r
def uptoBulkEntries {H : Type} : List (Lit × DataW H) → Nat
  | [] => 0
  | x :: r => uptoBulkEntry x + uptoBulkEntries r
def uptoBulkEntry {H : Type} : Lit × DataW H → Nat
  | (.string bytes, d) => bytes.length + uptoBulk d + 1
  | (_, d) => uptoBulk d + 1
 end
def uptoSmall : (H : Type) → List (DataW H) → Bool := fun _ ds => decide (uptoBulkAll ds ≤ 1048576)
def OpenSpec.upto (s : _root_.Go.ChangeSpec) : _root_.Go.OpenSpec := { _root_.Go.OpenSpec.ofChange s with cond := some uptoSmall }

/-- 'tribunallaw19.PostWaits', WHERE WHAT IT READS IS OF BULK AT MOST 1048576: true; the input reads as it did. -/
def postWaitsUptoRow : OpenClaim := { program := "ytamnffcafbfojaa", sum := "f682b7a55510c74e53a385524b68fac7ac8342733a44798d2e8ca54aa823f863", func := "tribunal/tribunallaw19.PostWaits", spec := "postWaits", unfollowed := true, recurses := true, plainKeys := false, apart := false, narrowed := true }
def PostWaitsUptoSaid : Prop := postWaitsUptoRow.holds Try.pinned (OpenSpec.upto postWaitsSpec)

/-- 'tribunallaw19.PostAges', WHERE WHAT IT READS IS OF BULK AT MOST 1048576: true; the input reads as it did. -/
def postAgesUptoRow : OpenClaim := { program := "ytamnffcafbfojaa", sum := "f682b7a55510c74e53a385524b68fac7ac8342733a44798d2e8ca54aa823f863", func := "tribunal/tribunallaw19.PostAges", spec := "postAges", unfollowed := true, recurses := true, plainKeys := false, apart := false, narrowed := true }
def PostAgesUptoSaid : Prop := postAgesUptoRow.holds Try.pinned (OpenSpec.upto postAgesSpec)

/-- 'tribunallaw19.PostFirst', WHERE WHAT IT READS IS OF BULK AT MOST 1048576: true; the input reads as it did. -/
def postFirstUptoRow : OpenClaim := { program := "ytamnffcafbfojaa", sum := "f682b7a55510c74e53a385524b68fac7ac8342733a44798d2e8ca54aa823f863", func := "tribunal/tribunallaw19.PostFirst", spec := "postFirst", unfollowed := true, recurses := true, plainKeys := false, apart := false, narrowed := true }
def PostFirstUptoSaid : Prop := postFirstUptoRow.holds Try.pinned (OpenSpec.upto postFirstSpec)

/-- 'tribunallaw19.PostLoads', WHERE WHAT IT READS IS OF BULK AT MOST 1048576: true; the input reads as it did. -/
def postLoadsUptoRow : OpenClaim := { program := "ytamnffcafbfojaa", sum := "f682b7a55510c74e53a385524b68fac7ac8342733a44798d2e8ca54aa823f863", func := "tribunal/tribunallaw19.PostLoads", spec := "postLoads", unfollowed := true, recurses := true, plainKeys := false, apart := false, narrowed := true }
def PostLoadsUptoSaid : Prop := postLoadsUptoRow.holds Try.pinned (OpenSpec.upto postLoadsSpec)

/-- 'tribunallaw19.PostDoes', WHERE WHAT IT READS IS OF BULK AT MOST 1048576: true; the input reads as it did. -/
def postDoesUptoRow : OpenClaim := { program := "ytamnffcafbfojaa", sum := "f682b7a55510c74e53a385524b68fac7ac8342733a44798d2e8ca54aa823f863", func := "tribunal/tribunallaw19.PostDoes", spec := "postDoes", unfollowed := true, recurses := true, plainKeys := false, apart := false, narrowed := true }
def PostDoesUptoSaid : Prop := postDoesUptoRow.holds Try.pinned (OpenSpec.upto postDoesSpec)

end Rows
end Go.Proofs.Ytamnffcafbfojaa
