/-
  No cell of these rows narrows 'for every input' (looked for: loops, veiled, ifaces, maps, wideKeys, modest, calm, conditions, laid).
  DERIVED. THE GIVEN ROWS OF THIS SEAT. 6 by the template 'for every input the law returns true; each argument reads behind the call as it read before'; 0 by the template 'total and deterministic' (their statements: YtghmjconljdapaaTotals.lean).
  GIVEN WITH THE SEED: the statements are not yours to turn. If you find one false, say at which input.
  Laid BY PROGRAM, IN A SANDBOX (cutbox-rows.mjs): the forced cells as the released guide's own fill.sh prints them over the translation a9d5be9f68b8f985… (all of the seat's roots in one cut). By AI agents, Wed Nov 11 2026. No macro, syntax, notation, axiom, sorry.
-/
import Derived.Test.YtghmjconljdapaaChecked
import GoSem.Claim
import GoSem.ClaimJoined
import GoSem.ClaimMapViews
import Derived.JoinedTies
import Derived.KernelRfl
namespace Go.Proofs.Ytghmjconljdapaa
/- THE CELL 'sum', in the pinned program and in every row, IS THE sha256 OF THE DUMP (.gsa) THAT YtghmjconljdapaaProg.lean LOADS. Nothing in Lean hashes anything: it is a label: what it is worth is what the hold of that sum in a sandbox is worth. -/
noncomputable def Try.pinned : Pinned := { name := "ytghmjconljdapaa", sum := "a9d5be9f68b8f98502821efc56aed4a5402fe0afb786cc23f57171873d785bfe", checked := Try.checked }
namespace Rows
def none {H : Type} : Left H := { results := [], args := [] }

/-- 'screelaw19.HistMore': WHATEVER THE INPUT: true; the input reads as it did. -/
def histMoreSpec : ChangeSpec := { name := "histMore", fn := fun _ => fun
  | [d1, d2] => { results := [.lit (.bool true)], args := [d1, d2] }
  | _ => none }
def histMoreRow : OpenClaim := { program := "ytghmjconljdapaa", sum := "a9d5be9f68b8f98502821efc56aed4a5402fe0afb786cc23f57171873d785bfe", func := "scree/screelaw19.HistMore", spec := "histMore", unfollowed := true, recurses := true, apart := false }
def HistMoreSaid : Prop := histMoreRow.holds Try.pinned (OpenSpec.ofChange histMoreSpec)

/-- ITS FALSE NEIGHBOUR: 'it returns false'. Refute it at one input. -/
def histMoreWrong : ChangeSpec := { name := "histMore", fn := fun _ => fun
  | [d1, d2] => { results := [.lit (.bool false)], args := [d1, d2] }
  | _ => none }
def HistMoreWrongFalsely : Prop := histMoreRow.holds Try.pinned (OpenSpec.ofChange histMoreWrong)

/-- 'screelaw19.HistOrder': WHATEVER THE INPUT: true; the input reads as it did. -/
def histOrderSpec : ChangeSpec := { name := "histOrder", fn := fun _ => fun
  | [d1, d2] => { results := [.lit (.bool true)], args := [d1, d2] }
  | _ => none }
def histOrderRow : OpenClaim := { program := "ytghmjconljdapaa", sum := "a9d5be9f68b8f98502821efc56aed4a5402fe0afb786cc23f57171873d785bfe", func := "scree/screelaw19.HistOrder", spec := "histOrder", unfollowed := true, recurses := true, apart := false }
def HistOrderSaid : Prop := histOrderRow.holds Try.pinned (OpenSpec.ofChange histOrderSpec)

/-- ITS FALSE NEIGHBOUR: 'it returns false'. Refute it at one input. -/
def histOrderWrong : ChangeSpec := { name := "histOrder", fn := fun _ => fun
  | [d1, d2] => { results := [.lit (.bool false)], args := [d1, d2] }
  | _ => none }
def HistOrderWrongFalsely : Prop := histOrderRow.holds Try.pinned (OpenSpec.ofChange histOrderWrong)

/-- 'screelaw19.HistSerial': WHATEVER THE INPUT: true; the input reads as it did. -/
def histSerialSpec : ChangeSpec := { name := "histSerial", fn := fun _ => fun
  | [d] => { results := [.lit (.bool true)], args := [d] }
  | _ => none }
def histSerialRow : OpenClaim := { program := "ytghmjconljdapaa", sum := "a9d5be9f68b8f98502821efc56aed4a5402fe0afb786cc23f57171873d785bfe", func := "scree/screelaw19.HistSerial", spec := "histSerial", unfollowed := true, recurses := true, apart := false }
def HistSerialSaid : Prop := histSerialRow.holds Try.pinned (OpenSpec.ofChange histSerialSpec)

/-- ITS FALSE NEIGHBOUR: 'it returns false'. Refute it at one input. -/
def histSerialWrong : ChangeSpec := { name := "histSerial", fn := fun _ => fun
  | [d] => { results := [.lit (.bool false)], args := [d] }
  | _ => none }
def HistSerialWrongFalsely : Prop := histSerialRow.holds Try.pinned (OpenSpec.ofChange histSerialWrong)

/-- 'screelaw19.HistSaw': WHATEVER THE INPUT: true; the input reads as it did. -/
def histSawSpec : ChangeSpec := { name := "histSaw", fn := fun _ => fun
  | [d] => { results := [.lit (.bool true)], args := [d] }
  | _ => none }
def histSawRow : OpenClaim := { program := "ytghmjconljdapaa", sum := "a9d5be9f68b8f98502821efc56aed4a5402fe0afb786cc23f57171873d785bfe", func := "scree/screelaw19.HistSaw", spec := "histSaw", unfollowed := true, recurses := true, apart := false }
def HistSawSaid : Prop := histSawRow.holds Try.pinned (OpenSpec.ofChange histSawSpec)

/-- ITS FALSE NEIGHBOUR: 'it returns false'. Refute it at one input. -/
def histSawWrong : ChangeSpec := { name := "histSaw", fn := fun _ => fun
  | [d] => { results := [.lit (.bool false)], args := [d] }
  | _ => none }
def HistSawWrongFalsely : Prop := histSawRow.holds Try.pinned (OpenSpec.ofChange histSawWrong)

/-- 'screelaw19.HistFaults': WHATEVER THE INPUT: true; the input reads as it did. -/
def histFaultsSpec : ChangeSpec := { name := "histFaults", fn := fun _ => fun
  | [d] => { results := [.lit (.bool true)], args := [d] }
  | _ => none }
def histFaultsRow : OpenClaim := { program := "ytghmjconljdapaa", sum := "a9d5be9f68b8f98502821efc56aed4a5402fe0afb786cc23f57171873d785bfe", func := "scree/screelaw19.HistFaults", spec := "histFaults", unfollowed := true, recurses := true, apart := false }
def HistFaultsSaid : Prop := histFaultsRow.holds Try.pinned (OpenSpec.ofChange histFaultsSpec)

/-- ITS FALSE NEIGHBOUR: 'it returns false'. Refute it at one input. -/
def histFaultsWrong : ChangeSpec := { name := "histFaults", fn := fun _ => fun
  | [d] => { results := [.lit (.bool false)], args := [d] }
  | _ => none }
def HistFaultsWrongFalsely : Prop := histFaultsRow.holds Try.pinned (OpenSpec.ofChange histFaultsWrong)

/-- 'screelaw19.HistOpen': WHATEVER THE INPUT: true; the input reads as it did. -/
def histOpenSpec : ChangeSpec := { name := "histOpen", fn := fun _ => fun
  | [d] => { results := [.lit (.bool true)], args := [d] }
  | _ => none }
def histOpenRow : OpenClaim := { program := "ytghmjconljdapaa", sum := "a9d5be9f68b8f98502821efc56aed4a5402fe0afb786cc23f57171873d785bfe", func := "scree/screelaw19.HistOpen", spec := "histOpen", unfollowed := true, recurses := true, apart := false }
def HistOpenSaid : Prop := histOpenRow.holds Try.pinned (OpenSpec.ofChange histOpenSpec)

/-- ITS FALSE NEIGHBOUR: 'it returns false'. Refute it at one input. -/
def histOpenWrong : ChangeSpec := { name := "histOpen", fn := fun _ => fun
  | [d] => { results := [.lit (.bool false)], args := [d] }
  | _ => none }
def HistOpenWrongFalsely : Prop := histOpenRow.holds Try.pinned (OpenSpec.ofChange histOpenWrong)

/- THE SECOND FORM. 'bulk': how many values and letters a reading holds, each counted each time it is reached (what is shared counts as often as it is met; a slice's spare places count too). A statement '..UptoSaid' is the law's where the arguments, and the package variables that the reading takes, are together of bulk at most 1048576: NARROWER than '..Said'. Prove '..Said' where nothing that the law and all that it calls make is longer than what came in: it says more and counts as full. Else prove '..UptoSaid'. A law counts once. -/
mutual
def uptoBulk {H : Type} : DataW H → Nat
  | .lit (.string bytes) => bytes.length + 1
  | .lit _ => 1
  | .nil => 1
  | .ptr d => uptoBulk d + 1
  | .slice elems spare => uptoBulkAll elems + uptoBulkAll spare + 1
  | .agg parts => uptoBulkAll parts + 1
  | .iface _ d => uptoBulk d + 1
  | .map entries => uptoBulkEntries entries + 1
  | .held _ => 1
def uptoBulkAll {H : Type} : List (DataW H) → Nat
  | [] => 0
  | d :: r => uptoBulk d + uptoBulkAll r
def uptoBulkEntries {H : Type} : List (Lit × DataW H) → Nat
  | [] => 0
  | x :: r => uptoBulkEntry x + uptoBulkEntries r
def uptoBulkEntry {H : Type} : Lit × DataW H → Nat
  | (.string bytes, d) => bytes.length + uptoBulk d + 1
  | (_, d) => uptoBulk d + 1
 end
def uptoSmall : (H : Type) → List (DataW H) → Bool := fun _ ds => decide (uptoBulkAll ds ≤ 1048576)
def OpenSpec.upto (s : _root_.Go.ChangeSpec) : _root_.Go.OpenSpec := { _root_.Go.OpenSpec.ofChange s with cond := some uptoSmall }

/-- 'screelaw19.HistMore', WHERE WHAT IT READS IS OF BULK AT MOST 1048576: true; the input reads as it did. -/
def histMoreUptoRow : OpenClaim := { program := "ytghmjconljdapaa", sum := "a9d5be9f68b8f98502821efc56aed4a5402fe0afb786cc23f57171873d785bfe", func := "scree/screelaw19.HistMore", spec := "histMore", unfollowed := true, recurses := true, apart := false, narrowed := true }
def HistMoreUptoSaid : Prop := histMoreUptoRow.holds Try.pinned (OpenSpec.upto histMoreSpec)

/-- 'screelaw19.HistOrder', WHERE WHAT IT READS IS OF BULK AT MOST 1048576: true; the input reads as it did. -/
def histOrderUptoRow : OpenClaim := { program := "ytghmjconljdapaa", sum := "a9d5be9f68b8f98502821efc56aed4a5402fe0afb786cc23f57171873d785bfe", func := "scree/screelaw19.HistOrder", spec := "histOrder", unfollowed := true, recurses := true, apart := false, narrowed := true }
def HistOrderUptoSaid : Prop := histOrderUptoRow.holds Try.pinned (OpenSpec.upto histOrderSpec)

/-- 'screelaw19.HistSerial', WHERE WHAT IT READS IS OF BULK AT MOST 1048576: true; the input reads as it did. -/
def histSerialUptoRow : OpenClaim := { program := "ytghmjconljdapaa", sum := "a9d5be9f68b8f98502821efc56aed4a5402fe0afb786cc23f57171873d785bfe", func := "scree/screelaw19.HistSerial", spec := "histSerial", unfollowed := true, recurses := true, apart := false, narrowed := true }
def HistSerialUptoSaid : Prop := histSerialUptoRow.holds Try.pinned (OpenSpec.upto histSerialSpec)

/-- 'screelaw19.HistSaw', WHERE WHAT IT READS IS OF BULK AT MOST 1048576: true; the input reads as it did. -/
def histSawUptoRow : OpenClaim := { program := "ytghmjconljdapaa", sum := "a9d5be9f68b8f98502821efc56aed4a5402fe0afb786cc23f57171873d785bfe", func := "scree/screelaw19.HistSaw", spec := "histSaw", unfollowed := true, recurses := true, apart := false, narrowed := true }
def HistSawUptoSaid : Prop := histSawUptoRow.holds Try.pinned (OpenSpec.upto histSawSpec)

/-- 'screelaw19.HistFaults', WHERE WHAT IT READS IS OF BULK AT MOST 1048576: true; the input reads as it did. -/
def histFaultsUptoRow : OpenClaim := { program := "ytghmjconljdapaa", sum := "a9d5be9f68b8f98502821efc56aed4a5402fe0afb786cc23f57171873d785bfe", func := "scree/screelaw19.HistFaults", spec := "histFaults", unfollowed := true, recurses := true, apart := false, narrowed := true }
def HistFaultsUptoSaid : Prop := histFaultsUptoRow.holds Try.pinned (OpenSpec.upto histFaultsSpec)

/-- 'screelaw19.HistOpen', WHERE WHAT IT READS IS OF BULK AT MOST 1048576: true; the input reads as it did. -/
def histOpenUptoRow : OpenClaim := { program := "ytghmjconljdapaa", sum := "a9d5be9f68b8f98502821efc56aed4a5402fe0afb786cc23f57171873d785bfe", func := "scree/screelaw19.HistOpen", spec := "histOpen", unfollowed := true, recurses := true, apart := false, narrowed := true }
def HistOpenUptoSaid : Prop := histOpenUptoRow.holds Try.pinned (OpenSpec.upto histOpenSpec)

end Rows
end Go.Proofs.Ytghmjconljdapaa
