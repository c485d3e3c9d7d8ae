/-
  No cell of these rows narrows 'for every input' (looked for: loops, veiled, ifaces, maps, wideKeys, modest, calm, conditions, laid).
  DERIVED. THE GIVEN ROWS OF THIS SEAT. 6 by the template 'for every input the law returns true; each argument reads behind the call as it read before'; 0 by the template 'total and deterministic' (their statements: YtjampaggidelgaaTotals.lean).
  GIVEN WITH THE SEED: the statements are not yours to turn. If you find one false, say at which input.
  Laid BY PROGRAM, IN A SANDBOX (cutbox-rows.mjs): the forced cells as the released guide's own fill.sh prints them over the translation 9c3e661f1712b107… (all of the seat's roots in one cut). By AI agents, Wed Nov 11 2026. No macro, syntax, notation, axiom, sorry.
-/
import Derived.Test.YtjampaggidelgaaChecked
import GoSem.Claim
import GoSem.ClaimJoined
import GoSem.ClaimMapViews
import Derived.JoinedTies
import Derived.KernelRfl
namespace Go.Proofs.Ytjampaggidelgaa
/- THE CELL 'sum', in the pinned program and in every row, IS THE sha256 OF THE DUMP (.gsa) THAT YtjampaggidelgaaProg.lean LOADS. Nothing in Lean hashes anything: it is a label: what it is worth is what the hold of that sum in a sandbox is worth. -/
noncomputable def Try.pinned : Pinned := { name := "ytjampaggidelgaa", sum := "9c3e661f1712b1076707da0db6a509236a8eef8b0339ba306b75cbc6d82d5970", checked := Try.checked }
namespace Rows
def none {H : Type} : Left H := { results := [], args := [] }

/-- 'outworkerlaw22.LeaseAll': WHATEVER THE INPUT: true; the input reads as it did. -/
def leaseAllSpec : ChangeSpec := { name := "leaseAll", fn := fun _ => fun
  | [d1, d2, d3] => { results := [.lit (.bool true)], args := [d1, d2, d3] }
  | _ => none }
def leaseAllRow : OpenClaim := { program := "ytjampaggidelgaa", sum := "9c3e661f1712b1076707da0db6a509236a8eef8b0339ba306b75cbc6d82d5970", func := "outworker/outworkerlaw22.LeaseAll", spec := "leaseAll", unfollowed := true, recurses := true, apart := false }
def LeaseAllSaid : Prop := leaseAllRow.holds Try.pinned (OpenSpec.ofChange leaseAllSpec)

/-- ITS FALSE NEIGHBOUR: 'it returns false'. Refute it at one input. -/
def leaseAllWrong : ChangeSpec := { name := "leaseAll", fn := fun _ => fun
  | [d1, d2, d3] => { results := [.lit (.bool false)], args := [d1, d2, d3] }
  | _ => none }
def LeaseAllWrongFalsely : Prop := leaseAllRow.holds Try.pinned (OpenSpec.ofChange leaseAllWrong)

/-- 'outworkerlaw22.LeaseLate': WHATEVER THE INPUT: true; the input reads as it did. -/
def leaseLateSpec : ChangeSpec := { name := "leaseLate", fn := fun _ => fun
  | [d1, d2, d3] => { results := [.lit (.bool true)], args := [d1, d2, d3] }
  | _ => none }
def leaseLateRow : OpenClaim := { program := "ytjampaggidelgaa", sum := "9c3e661f1712b1076707da0db6a509236a8eef8b0339ba306b75cbc6d82d5970", func := "outworker/outworkerlaw22.LeaseLate", spec := "leaseLate", unfollowed := true, recurses := true, apart := false }
def LeaseLateSaid : Prop := leaseLateRow.holds Try.pinned (OpenSpec.ofChange leaseLateSpec)

/-- ITS FALSE NEIGHBOUR: 'it returns false'. Refute it at one input. -/
def leaseLateWrong : ChangeSpec := { name := "leaseLate", fn := fun _ => fun
  | [d1, d2, d3] => { results := [.lit (.bool false)], args := [d1, d2, d3] }
  | _ => none }
def LeaseLateWrongFalsely : Prop := leaseLateRow.holds Try.pinned (OpenSpec.ofChange leaseLateWrong)

/-- 'outworkerlaw22.LeaseOnce': WHATEVER THE INPUT: true; the input reads as it did. -/
def leaseOnceSpec : ChangeSpec := { name := "leaseOnce", fn := fun _ => fun
  | [d1, d2, d3] => { results := [.lit (.bool true)], args := [d1, d2, d3] }
  | _ => none }
def leaseOnceRow : OpenClaim := { program := "ytjampaggidelgaa", sum := "9c3e661f1712b1076707da0db6a509236a8eef8b0339ba306b75cbc6d82d5970", func := "outworker/outworkerlaw22.LeaseOnce", spec := "leaseOnce", unfollowed := true, recurses := true, apart := false }
def LeaseOnceSaid : Prop := leaseOnceRow.holds Try.pinned (OpenSpec.ofChange leaseOnceSpec)

/-- ITS FALSE NEIGHBOUR: 'it returns false'. Refute it at one input. -/
def leaseOnceWrong : ChangeSpec := { name := "leaseOnce", fn := fun _ => fun
  | [d1, d2, d3] => { results := [.lit (.bool false)], args := [d1, d2, d3] }
  | _ => none }
def LeaseOnceWrongFalsely : Prop := leaseOnceRow.holds Try.pinned (OpenSpec.ofChange leaseOnceWrong)

/-- 'outworkerlaw22.LeaseWaits': WHATEVER THE INPUT: true; the input reads as it did. -/
def leaseWaitsSpec : ChangeSpec := { name := "leaseWaits", fn := fun _ => fun
  | [d1, d2, d3] => { results := [.lit (.bool true)], args := [d1, d2, d3] }
  | _ => none }
def leaseWaitsRow : OpenClaim := { program := "ytjampaggidelgaa", sum := "9c3e661f1712b1076707da0db6a509236a8eef8b0339ba306b75cbc6d82d5970", func := "outworker/outworkerlaw22.LeaseWaits", spec := "leaseWaits", unfollowed := true, recurses := true, apart := false }
def LeaseWaitsSaid : Prop := leaseWaitsRow.holds Try.pinned (OpenSpec.ofChange leaseWaitsSpec)

/-- ITS FALSE NEIGHBOUR: 'it returns false'. Refute it at one input. -/
def leaseWaitsWrong : ChangeSpec := { name := "leaseWaits", fn := fun _ => fun
  | [d1, d2, d3] => { results := [.lit (.bool false)], args := [d1, d2, d3] }
  | _ => none }
def LeaseWaitsWrongFalsely : Prop := leaseWaitsRow.holds Try.pinned (OpenSpec.ofChange leaseWaitsWrong)

/-- 'outworkerlaw22.LeasePlays': WHATEVER THE INPUT: true; the input reads as it did. -/
def leasePlaysSpec : ChangeSpec := { name := "leasePlays", fn := fun _ => fun
  | [d1, d2, d3, d4, d5] => { results := [.lit (.bool true)], args := [d1, d2, d3, d4, d5] }
  | _ => none }
def leasePlaysRow : OpenClaim := { program := "ytjampaggidelgaa", sum := "9c3e661f1712b1076707da0db6a509236a8eef8b0339ba306b75cbc6d82d5970", func := "outworker/outworkerlaw22.LeasePlays", spec := "leasePlays", unfollowed := true, recurses := true, apart := false }
def LeasePlaysSaid : Prop := leasePlaysRow.holds Try.pinned (OpenSpec.ofChange leasePlaysSpec)

/-- ITS FALSE NEIGHBOUR: 'it returns false'. Refute it at one input. -/
def leasePlaysWrong : ChangeSpec := { name := "leasePlays", fn := fun _ => fun
  | [d1, d2, d3, d4, d5] => { results := [.lit (.bool false)], args := [d1, d2, d3, d4, d5] }
  | _ => none }
def LeasePlaysWrongFalsely : Prop := leasePlaysRow.holds Try.pinned (OpenSpec.ofChange leasePlaysWrong)

/-- 'outworkerlaw22.LeaseNil': WHATEVER THE INPUT: true; the input reads as it did. -/
def leaseNilSpec : ChangeSpec := { name := "leaseNil", fn := fun _ => fun
  | [d] => { results := [.lit (.bool true)], args := [d] }
  | _ => none }
def leaseNilRow : OpenClaim := { program := "ytjampaggidelgaa", sum := "9c3e661f1712b1076707da0db6a509236a8eef8b0339ba306b75cbc6d82d5970", func := "outworker/outworkerlaw22.LeaseNil", spec := "leaseNil", unfollowed := true, recurses := true, apart := false }
def LeaseNilSaid : Prop := leaseNilRow.holds Try.pinned (OpenSpec.ofChange leaseNilSpec)

/-- ITS FALSE NEIGHBOUR: 'it returns false'. Refute it at one input. -/
def leaseNilWrong : ChangeSpec := { name := "leaseNil", fn := fun _ => fun
  | [d] => { results := [.lit (.bool false)], args := [d] }
  | _ => none }
def LeaseNilWrongFalsely : Prop := leaseNilRow.holds Try.pinned (OpenSpec.ofChange leaseNilWrong)

/- THE SECOND FORM. 'bulk': how many values and letters a reading holds, each counted each time it is reached (what is shared counts as often as it is met; a slice's spare places count too). A statement '..UptoSaid' is the law's where the arguments, and the package variables that the reading takes, are together of bulk at most 1048576: NARROWER than '..Said'. Prove '..Said' where nothing that the law and all that it calls make is longer than what came in: it says more and counts as full. Else prove '..UptoSaid'. A law counts once. -/
mutual
def uptoBulk {H : Type} : DataW H → Nat
  | .lit (.string bytes) => bytes.length + 1
  | .lit _ => 1
  | .nil => 1
  | .ptr d => uptoBulk d + 1
  | .slice elems spare => uptoBulkAll elems + uptoBulkAll spare + 1
  | .agg parts => uptoBulkAll parts + 1
  | .iface _ d => uptoBulk d + 1
  | .map entries => uptoBulkEntries entries + 1
  | .held _ => 1
def uptoBulkAll {H : Type} : List (DataW H) → Nat
  | [] => 0
  | d :: r => uptoBulk d + uptoBulkAll r
def uptoBulkEntries {H : Type} : List (Lit × DataW H) → Nat
  | [] => 0
  | x :: r => uptoBulkEntry x + uptoBulkEntries r
def uptoBulkEntry {H : Type} : Lit × DataW H → Nat
  | (.string bytes, d) => bytes.length + uptoBulk d + 1
  | (_, d) => uptoBulk d + 1
 end
def uptoSmall : (H : Type) → List (DataW H) → Bool := fun _ ds => decide (uptoBulkAll ds ≤ 1048576)
def OpenSpec.upto (s : _root_.Go.ChangeSpec) : _root_.Go.OpenSpec := { _root_.Go.OpenSpec.ofChange s with cond := some uptoSmall }

/-- 'outworkerlaw22.LeaseAll', WHERE WHAT IT READS IS OF BULK AT MOST 1048576: true; the input reads as it did. -/
def leaseAllUptoRow : OpenClaim := { program := "ytjampaggidelgaa", sum := "9c3e661f1712b1076707da0db6a509236a8eef8b0339ba306b75cbc6d82d5970", func := "outworker/outworkerlaw22.LeaseAll", spec := "leaseAll", unfollowed := true, recurses := true, apart := false, narrowed := true }
def LeaseAllUptoSaid : Prop := leaseAllUptoRow.holds Try.pinned (OpenSpec.upto leaseAllSpec)

/-- 'outworkerlaw22.LeaseLate', WHERE WHAT IT READS IS OF BULK AT MOST 1048576: true; the input reads as it did. -/
def leaseLateUptoRow : OpenClaim := { program := "ytjampaggidelgaa", sum := "9c3e661f1712b1076707da0db6a509236a8eef8b0339ba306b75cbc6d82d5970", func := "outworker/outworkerlaw22.LeaseLate", spec := "leaseLate", unfollowed := true, recurses := true, apart := false, narrowed := true }
def LeaseLateUptoSaid : Prop := leaseLateUptoRow.holds Try.pinned (OpenSpec.upto leaseLateSpec)

/-- 'outworkerlaw22.LeaseOnce', WHERE WHAT IT READS IS OF BULK AT MOST 1048576: true; the input reads as it did. -/
def leaseOnceUptoRow : OpenClaim := { program := "ytjampaggidelgaa", sum := "9c3e661f1712b1076707da0db6a509236a8eef8b0339ba306b75cbc6d82d5970", func := "outworker/outworkerlaw22.LeaseOnce", spec := "leaseOnce", unfollowed := true, recurses := true, apart := false, narrowed := true }
def LeaseOnceUptoSaid : Prop := leaseOnceUptoRow.holds Try.pinned (OpenSpec.upto leaseOnceSpec)

/-- 'outworkerlaw22.LeaseWaits', WHERE WHAT IT READS IS OF BULK AT MOST 1048576: true; the input reads as it did. -/
def leaseWaitsUptoRow : OpenClaim := { program := "ytjampaggidelgaa", sum := "9c3e661f1712b1076707da0db6a509236a8eef8b0339ba306b75cbc6d82d5970", func := "outworker/outworkerlaw22.LeaseWaits", spec := "leaseWaits", unfollowed := true, recurses := true, apart := false, narrowed := true }
def LeaseWaitsUptoSaid : Prop := leaseWaitsUptoRow.holds Try.pinned (OpenSpec.upto leaseWaitsSpec)

/-- 'outworkerlaw22.LeasePlays', WHERE WHAT IT READS IS OF BULK AT MOST 1048576: true; the input reads as it did. -/
def leasePlaysUptoRow : OpenClaim := { program := "ytjampaggidelgaa", sum := "9c3e661f1712b1076707da0db6a509236a8eef8b0339ba306b75cbc6d82d5970", func := "outworker/outworkerlaw22.LeasePlays", spec := "leasePlays", unfollowed := true, recurses := true, apart := false, narrowed := true }
def LeasePlaysUptoSaid : Prop := leasePlaysUptoRow.holds Try.pinned (OpenSpec.upto leasePlaysSpec)

/-- 'outworkerlaw22.LeaseNil', WHERE WHAT IT READS IS OF BULK AT MOST 1048576: true; the input reads as it did. -/
def leaseNilUptoRow : OpenClaim := { program := "ytjampaggidelgaa", sum := "9c3e661f1712b1076707da0db6a509236a8eef8b0339ba306b75cbc6d82d5970", func := "outworker/outworkerlaw22.LeaseNil", spec := "leaseNil", unfollowed := true, recurses := true, apart := false, narrowed := true }
def LeaseNilUptoSaid : Prop := leaseNilUptoRow.holds Try.pinned (OpenSpec.upto leaseNilSpec)

end Rows
end Go.Proofs.Ytjampaggidelgaa
