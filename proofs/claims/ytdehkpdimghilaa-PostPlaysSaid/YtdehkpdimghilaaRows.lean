/-
  No cell of these rows narrows 'for every input' (looked for: loops, veiled, ifaces, maps, wideKeys, modest, calm, conditions, laid).
  DERIVED. THE GIVEN ROWS OF THIS SEAT. 5 by the template 'for every input the law returns true; each argument reads behind the call as it read before'; 0 by the template 'total and deterministic' (their statements: YtdehkpdimghilaaTotals.lean).
  GIVEN WITH THE SEED: the statements are not yours to turn. If you find one false, say at which input.
  Laid BY PROGRAM, IN A SANDBOX (cutbox-rows.mjs): the forced cells as the released guide's own fill.sh prints them over the translation 2b7e8b2062d9c7b4… (all of the seat's roots in one cut). By AI agents, Wed Nov 11 2026. No macro, syntax, notation, axiom, sorry.
-/
import Derived.Test.YtdehkpdimghilaaChecked
import GoSem.Claim
import GoSem.ClaimJoined
import GoSem.ClaimMapViews
import Derived.JoinedTies
import Derived.KernelRfl
namespace Go.Proofs.Ytdehkpdimghilaa
/- THE CELL 'sum', in the pinned program and in every row, IS THE sha256 OF THE DUMP (.gsa) THAT YtdehkpdimghilaaProg.lean LOADS. Nothing in Lean hashes anything: it is a label: what it is worth is what the hold of that sum in a sandbox is worth. -/
noncomputable def Try.pinned : Pinned := { name := "ytdehkpdimghilaa", sum := "2b7e8b2062d9c7b4ff0782879f43fbd98d0e8d98bf1510043d4273023c6d0ce3", checked := Try.checked }
namespace Rows
def none {H : Type} : Left H := { results := [], args := [] }

/-- 'outworkerlaw23.PostPlays': WHATEVER THE INPUT: true; the input reads as it did. -/
def postPlaysSpec : ChangeSpec := { name := "postPlays", fn := fun _ => fun
  | [d1, d2] => { results := [.lit (.bool true)], args := [d1, d2] }
  | _ => none }
def postPlaysRow : OpenClaim := { program := "ytdehkpdimghilaa", sum := "2b7e8b2062d9c7b4ff0782879f43fbd98d0e8d98bf1510043d4273023c6d0ce3", func := "outworker/outworkerlaw23.PostPlays", spec := "postPlays", apart := false }
def PostPlaysSaid : Prop := postPlaysRow.holds Try.pinned (OpenSpec.ofChange postPlaysSpec)

/-- ITS FALSE NEIGHBOUR: 'it returns false'. Refute it at one input. -/
def postPlaysWrong : ChangeSpec := { name := "postPlays", fn := fun _ => fun
  | [d1, d2] => { results := [.lit (.bool false)], args := [d1, d2] }
  | _ => none }
def PostPlaysWrongFalsely : Prop := postPlaysRow.holds Try.pinned (OpenSpec.ofChange postPlaysWrong)

/-- 'outworkerlaw23.PostTypes': WHATEVER THE INPUT: true; the input reads as it did. -/
def postTypesSpec : ChangeSpec := { name := "postTypes", fn := fun _ => fun
  | [d] => { results := [.lit (.bool true)], args := [d] }
  | _ => none }
def postTypesRow : OpenClaim := { program := "ytdehkpdimghilaa", sum := "2b7e8b2062d9c7b4ff0782879f43fbd98d0e8d98bf1510043d4273023c6d0ce3", func := "outworker/outworkerlaw23.PostTypes", spec := "postTypes", apart := false }
def PostTypesSaid : Prop := postTypesRow.holds Try.pinned (OpenSpec.ofChange postTypesSpec)

/-- ITS FALSE NEIGHBOUR: 'it returns false'. Refute it at one input. -/
def postTypesWrong : ChangeSpec := { name := "postTypes", fn := fun _ => fun
  | [d] => { results := [.lit (.bool false)], args := [d] }
  | _ => none }
def PostTypesWrongFalsely : Prop := postTypesRow.holds Try.pinned (OpenSpec.ofChange postTypesWrong)

/-- 'outworkerlaw23.PostTurns': WHATEVER THE INPUT: true; the input reads as it did. -/
def postTurnsSpec : ChangeSpec := { name := "postTurns", fn := fun _ => fun
  | [d1, d2] => { results := [.lit (.bool true)], args := [d1, d2] }
  | _ => none }
def postTurnsRow : OpenClaim := { program := "ytdehkpdimghilaa", sum := "2b7e8b2062d9c7b4ff0782879f43fbd98d0e8d98bf1510043d4273023c6d0ce3", func := "outworker/outworkerlaw23.PostTurns", spec := "postTurns", apart := false }
def PostTurnsSaid : Prop := postTurnsRow.holds Try.pinned (OpenSpec.ofChange postTurnsSpec)

/-- ITS FALSE NEIGHBOUR: 'it returns false'. Refute it at one input. -/
def postTurnsWrong : ChangeSpec := { name := "postTurns", fn := fun _ => fun
  | [d1, d2] => { results := [.lit (.bool false)], args := [d1, d2] }
  | _ => none }
def PostTurnsWrongFalsely : Prop := postTurnsRow.holds Try.pinned (OpenSpec.ofChange postTurnsWrong)

/-- 'outworkerlaw23.PostNil': WHATEVER THE INPUT: true; the input reads as it did. -/
def postNilSpec : ChangeSpec := { name := "postNil", fn := fun _ => fun
  | [d] => { results := [.lit (.bool true)], args := [d] }
  | _ => none }
def postNilRow : OpenClaim := { program := "ytdehkpdimghilaa", sum := "2b7e8b2062d9c7b4ff0782879f43fbd98d0e8d98bf1510043d4273023c6d0ce3", func := "outworker/outworkerlaw23.PostNil", spec := "postNil", apart := false }
def PostNilSaid : Prop := postNilRow.holds Try.pinned (OpenSpec.ofChange postNilSpec)

/-- ITS FALSE NEIGHBOUR: 'it returns false'. Refute it at one input. -/
def postNilWrong : ChangeSpec := { name := "postNil", fn := fun _ => fun
  | [d] => { results := [.lit (.bool false)], args := [d] }
  | _ => none }
def PostNilWrongFalsely : Prop := postNilRow.holds Try.pinned (OpenSpec.ofChange postNilWrong)

/-- 'outworkerlaw23.PostApart': WHATEVER THE INPUT: true; the input reads as it did. -/
def postApartSpec : ChangeSpec := { name := "postApart", fn := fun _ => fun
  | [d1, d2, d3] => { results := [.lit (.bool true)], args := [d1, d2, d3] }
  | _ => none }
def postApartRow : OpenClaim := { program := "ytdehkpdimghilaa", sum := "2b7e8b2062d9c7b4ff0782879f43fbd98d0e8d98bf1510043d4273023c6d0ce3", func := "outworker/outworkerlaw23.PostApart", spec := "postApart", apart := false }
def PostApartSaid : Prop := postApartRow.holds Try.pinned (OpenSpec.ofChange postApartSpec)

/-- ITS FALSE NEIGHBOUR: 'it returns false'. Refute it at one input. -/
def postApartWrong : ChangeSpec := { name := "postApart", fn := fun _ => fun
  | [d1, d2, d3] => { results := [.lit (.bool false)], args := [d1, d2, d3] }
  | _ => none }
def PostApartWrongFalsely : Prop := postApartRow.holds Try.pinned (OpenSpec.ofChange postApartWrong)

/- THE SECOND FORM. 'bulk': how many values and letters a reading holds, each counted each time it is reached (what is shared counts as often as it is met; a slice's spare places count too). A statement '..UptoSaid' is the law's where the arguments, and the package variables that the reading takes, are together of bulk at most 1048576: NARROWER than '..Said'. Prove '..Said' where nothing that the law and all that it calls make is longer than what came in: it says more and counts as full. Else prove '..UptoSaid'. A law counts once. -/
mutual
def uptoBulk {H : Type} : DataW H → Nat
  | .lit (.string bytes) => bytes.length + 1
  | .lit _ => 1
  | .nil => 1
  | .ptr d => uptoBulk d + 1
  | .slice elems spare => uptoBulkAll elems + uptoBulkAll spare + 1
  | .agg parts => uptoBulkAll parts + 1
  | .iface _ d => uptoBulk d + 1
  | .map entries => uptoBulkEntries entries + 1
  | .held _ => 1
def uptoBulkAll {H : Type} : List (DataW H) → Nat
  | [] => 0
  | d :: r => uptoBulk d + uptoBulkAll r
def uptoBulkEntries {H : Type} : List (Lit × DataW H) → Nat
  | [] => 0
  | x :: r => uptoBulkEntry x + uptoBulkEntries r
def uptoBulkEntry {H : Type} : Lit × DataW H → Nat
  | (.string bytes, d) => bytes.length + uptoBulk d + 1
  | (_, d) => uptoBulk d + 1
 end
def uptoSmall : (H : Type) → List (DataW H) → Bool := fun _ ds => decide (uptoBulkAll ds ≤ 1048576)
def OpenSpec.upto (s : _root_.Go.ChangeSpec) : _root_.Go.OpenSpec := { _root_.Go.OpenSpec.ofChange s with cond := some uptoSmall }

/-- 'outworkerlaw23.PostPlays', WHERE WHAT IT READS IS OF BULK AT MOST 1048576: true; the input reads as it did. -/
def postPlaysUptoRow : OpenClaim := { program := "ytdehkpdimghilaa", sum := "2b7e8b2062d9c7b4ff0782879f43fbd98d0e8d98bf1510043d4273023c6d0ce3", func := "outworker/outworkerlaw23.PostPlays", spec := "postPlays", apart := false, narrowed := true }
def PostPlaysUptoSaid : Prop := postPlaysUptoRow.holds Try.pinned (OpenSpec.upto postPlaysSpec)

/-- 'outworkerlaw23.PostTypes', WHERE WHAT IT READS IS OF BULK AT MOST 1048576: true; the input reads as it did. -/
def postTypesUptoRow : OpenClaim := { program := "ytdehkpdimghilaa", sum := "2b7e8b2062d9c7b4ff0782879f43fbd98d0e8d98bf1510043d4273023c6d0ce3", func := "outworker/outworkerlaw23.PostTypes", spec := "postTypes", apart := false, narrowed := true }
def PostTypesUptoSaid : Prop := postTypesUptoRow.holds Try.pinned (OpenSpec.upto postTypesSpec)

/-- 'outworkerlaw23.PostTurns', WHERE WHAT IT READS IS OF BULK AT MOST 1048576: true; the input reads as it did. -/
def postTurnsUptoRow : OpenClaim := { program := "ytdehkpdimghilaa", sum := "2b7e8b2062d9c7b4ff0782879f43fbd98d0e8d98bf1510043d4273023c6d0ce3", func := "outworker/outworkerlaw23.PostTurns", spec := "postTurns", apart := false, narrowed := true }
def PostTurnsUptoSaid : Prop := postTurnsUptoRow.holds Try.pinned (OpenSpec.upto postTurnsSpec)

/-- 'outworkerlaw23.PostNil', WHERE WHAT IT READS IS OF BULK AT MOST 1048576: true; the input reads as it did. -/
def postNilUptoRow : OpenClaim := { program := "ytdehkpdimghilaa", sum := "2b7e8b2062d9c7b4ff0782879f43fbd98d0e8d98bf1510043d4273023c6d0ce3", func := "outworker/outworkerlaw23.PostNil", spec := "postNil", apart := false, narrowed := true }
def PostNilUptoSaid : Prop := postNilUptoRow.holds Try.pinned (OpenSpec.upto postNilSpec)

/-- 'outworkerlaw23.PostApart', WHERE WHAT IT READS IS OF BULK AT MOST 1048576: true; the input reads as it did. -/
def postApartUptoRow : OpenClaim := { program := "ytdehkpdimghilaa", sum := "2b7e8b2062d9c7b4ff0782879f43fbd98d0e8d98bf1510043d4273023c6d0ce3", func := "outworker/outworkerlaw23.PostApart", spec := "postApart", apart := false, narrowed := true }
def PostApartUptoSaid : Prop := postApartUptoRow.holds Try.pinned (OpenSpec.upto postApartSpec)

end Rows
end Go.Proofs.Ytdehkpdimghilaa
