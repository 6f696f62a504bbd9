/-
  No cell of these rows narrows 'for every input' (looked for: loops, veiled, ifaces, maps, wideKeys, modest, calm, conditions, laid).
  DERIVED. THE GIVEN ROWS OF THIS SEAT. 14 by the template 'for every input the law returns true; each argument reads behind the call as it read before'; 0 by the template 'total and deterministic' (their statements: YtabcaiecoiejkaaTotals.lean).
  GIVEN WITH THE SEED: the statements are not yours to turn. If you find one false, say at which input.
  Laid BY PROGRAM, IN A SANDBOX (cutbox-rows.mjs): the forced cells as the released guide's own fill.sh prints them over the translation 3aafa2510b3d5ae2… (all of the seat's roots in one cut). By AI agents, Wed Nov 11 2026. No macro, syntax, notation, axiom, sorry.
-/
import Derived.Test.YtabcaiecoiejkaaChecked
import GoSem.Claim
import GoSem.ClaimJoined
import GoSem.ClaimMapViews
import Derived.JoinedTies
import Derived.KernelRfl
namespace Go.Proofs.Ytabcaiecoiejkaa
/- THE CELL 'sum', in the pinned program and in every row, IS THE sha256 OF THE DUMP (.gsa) THAT YtabcaiecoiejkaaProg.lean LOADS. Nothing in Lean hashes anything: it is a label: what it is worth is what the hold of that sum in a sandbox is worth. -/
noncomputable def Try.pinned : Pinned := { name := "ytabcaiecoiejkaa", sum := "3aafa2510b3d5ae2556902ff292eb71fbca06764b73dafa8f31991dc257fe77d", checked := Try.checked }
namespace Rows
def none {H : Type} : Left H := { results := [], args := [] }

/-- 'aditlaw16.UdpBytes': WHATEVER THE INPUT: true; the input reads as it did. -/
def udpBytesSpec : ChangeSpec := { name := "udpBytes", fn := fun _ => fun
  | [d1, d2, d3] => { results := [.lit (.bool true)], args := [d1, d2, d3] }
  | _ => none }
def udpBytesRow : OpenClaim := { program := "ytabcaiecoiejkaa", sum := "3aafa2510b3d5ae2556902ff292eb71fbca06764b73dafa8f31991dc257fe77d", func := "adit/aditlaw16.UdpBytes", spec := "udpBytes", unfollowed := true, recurses := true, apart := false }
def UdpBytesSaid : Prop := udpBytesRow.holds Try.pinned (OpenSpec.ofChange udpBytesSpec)

/-- ITS FALSE NEIGHBOUR: 'it returns false'. Refute it at one input. -/
def udpBytesWrong : ChangeSpec := { name := "udpBytes", fn := fun _ => fun
  | [d1, d2, d3] => { results := [.lit (.bool false)], args := [d1, d2, d3] }
  | _ => none }
def UdpBytesWrongFalsely : Prop := udpBytesRow.holds Try.pinned (OpenSpec.ofChange udpBytesWrong)

/-- 'aditlaw18.SegBytes': WHATEVER THE INPUT: true; the input reads as it did. -/
def segBytesSpec : ChangeSpec := { name := "segBytes", fn := fun _ => fun
  | [d1, d2, d3] => { results := [.lit (.bool true)], args := [d1, d2, d3] }
  | _ => none }
def segBytesRow : OpenClaim := { program := "ytabcaiecoiejkaa", sum := "3aafa2510b3d5ae2556902ff292eb71fbca06764b73dafa8f31991dc257fe77d", func := "adit/aditlaw18.SegBytes", spec := "segBytes", unfollowed := true, recurses := true, apart := false }
def SegBytesSaid : Prop := segBytesRow.holds Try.pinned (OpenSpec.ofChange segBytesSpec)

/-- ITS FALSE NEIGHBOUR: 'it returns false'. Refute it at one input. -/
def segBytesWrong : ChangeSpec := { name := "segBytes", fn := fun _ => fun
  | [d1, d2, d3] => { results := [.lit (.bool false)], args := [d1, d2, d3] }
  | _ => none }
def SegBytesWrongFalsely : Prop := segBytesRow.holds Try.pinned (OpenSpec.ofChange segBytesWrong)

/-- 'aditlaw18.SegTurned': WHATEVER THE INPUT: true; the input reads as it did. -/
def segTurnedSpec : ChangeSpec := { name := "segTurned", fn := fun _ => fun
  | [d1, d2, d3] => { results := [.lit (.bool true)], args := [d1, d2, d3] }
  | _ => none }
def segTurnedRow : OpenClaim := { program := "ytabcaiecoiejkaa", sum := "3aafa2510b3d5ae2556902ff292eb71fbca06764b73dafa8f31991dc257fe77d", func := "adit/aditlaw18.SegTurned", spec := "segTurned", unfollowed := true, recurses := true, apart := false }
def SegTurnedSaid : Prop := segTurnedRow.holds Try.pinned (OpenSpec.ofChange segTurnedSpec)

/-- ITS FALSE NEIGHBOUR: 'it returns false'. Refute it at one input. -/
def segTurnedWrong : ChangeSpec := { name := "segTurned", fn := fun _ => fun
  | [d1, d2, d3] => { results := [.lit (.bool false)], args := [d1, d2, d3] }
  | _ => none }
def SegTurnedWrongFalsely : Prop := segTurnedRow.holds Try.pinned (OpenSpec.ofChange segTurnedWrong)

/-- 'aditlaw18.SegSizes': WHATEVER THE INPUT: true; the input reads as it did. -/
def segSizesSpec : ChangeSpec := { name := "segSizes", fn := fun _ => fun
  | [d1, d2] => { results := [.lit (.bool true)], args := [d1, d2] }
  | _ => none }
def segSizesRow : OpenClaim := { program := "ytabcaiecoiejkaa", sum := "3aafa2510b3d5ae2556902ff292eb71fbca06764b73dafa8f31991dc257fe77d", func := "adit/aditlaw18.SegSizes", spec := "segSizes", unfollowed := true, recurses := true, apart := false }
def SegSizesSaid : Prop := segSizesRow.holds Try.pinned (OpenSpec.ofChange segSizesSpec)

/-- ITS FALSE NEIGHBOUR: 'it returns false'. Refute it at one input. -/
def segSizesWrong : ChangeSpec := { name := "segSizes", fn := fun _ => fun
  | [d1, d2] => { results := [.lit (.bool false)], args := [d1, d2] }
  | _ => none }
def SegSizesWrongFalsely : Prop := segSizesRow.holds Try.pinned (OpenSpec.ofChange segSizesWrong)

/-- 'aditlaw18.SegLoose': WHATEVER THE INPUT: true; the input reads as it did. -/
def segLooseSpec : ChangeSpec := { name := "segLoose", fn := fun _ => fun
  | [d1, d2, d3] => { results := [.lit (.bool true)], args := [d1, d2, d3] }
  | _ => none }
def segLooseRow : OpenClaim := { program := "ytabcaiecoiejkaa", sum := "3aafa2510b3d5ae2556902ff292eb71fbca06764b73dafa8f31991dc257fe77d", func := "adit/aditlaw18.SegLoose", spec := "segLoose", unfollowed := true, recurses := true, apart := false }
def SegLooseSaid : Prop := segLooseRow.holds Try.pinned (OpenSpec.ofChange segLooseSpec)

/-- ITS FALSE NEIGHBOUR: 'it returns false'. Refute it at one input. -/
def segLooseWrong : ChangeSpec := { name := "segLoose", fn := fun _ => fun
  | [d1, d2, d3] => { results := [.lit (.bool false)], args := [d1, d2, d3] }
  | _ => none }
def SegLooseWrongFalsely : Prop := segLooseRow.holds Try.pinned (OpenSpec.ofChange segLooseWrong)

/-- 'aditlaw22.SocksCuts': WHATEVER THE INPUT: true; the input reads as it did. -/
def socksCutsSpec : ChangeSpec := { name := "socksCuts", fn := fun _ => fun
  | [d1, d2, d3] => { results := [.lit (.bool true)], args := [d1, d2, d3] }
  | _ => none }
def socksCutsRow : OpenClaim := { program := "ytabcaiecoiejkaa", sum := "3aafa2510b3d5ae2556902ff292eb71fbca06764b73dafa8f31991dc257fe77d", func := "adit/aditlaw22.SocksCuts", spec := "socksCuts", inPlace := ["internal/bytealg.IndexByteString"], unfollowed := true, recurses := true, apart := false }
def SocksCutsSaid : Prop := socksCutsRow.holds Try.pinned (OpenSpec.ofChange socksCutsSpec)

/-- ITS FALSE NEIGHBOUR: 'it returns false'. Refute it at one input. -/
def socksCutsWrong : ChangeSpec := { name := "socksCuts", fn := fun _ => fun
  | [d1, d2, d3] => { results := [.lit (.bool false)], args := [d1, d2, d3] }
  | _ => none }
def SocksCutsWrongFalsely : Prop := socksCutsRow.holds Try.pinned (OpenSpec.ofChange socksCutsWrong)

/-- 'aditlaw22.SocksFails': WHATEVER THE INPUT: true; the input reads as it did. -/
def socksFailsSpec : ChangeSpec := { name := "socksFails", fn := fun _ => fun
  | [d1, d2, d3] => { results := [.lit (.bool true)], args := [d1, d2, d3] }
  | _ => none }
def socksFailsRow : OpenClaim := { program := "ytabcaiecoiejkaa", sum := "3aafa2510b3d5ae2556902ff292eb71fbca06764b73dafa8f31991dc257fe77d", func := "adit/aditlaw22.SocksFails", spec := "socksFails", inPlace := ["internal/bytealg.IndexByteString"], unfollowed := true, recurses := true, apart := false }
def SocksFailsSaid : Prop := socksFailsRow.holds Try.pinned (OpenSpec.ofChange socksFailsSpec)

/-- ITS FALSE NEIGHBOUR: 'it returns false'. Refute it at one input. -/
def socksFailsWrong : ChangeSpec := { name := "socksFails", fn := fun _ => fun
  | [d1, d2, d3] => { results := [.lit (.bool false)], args := [d1, d2, d3] }
  | _ => none }
def SocksFailsWrongFalsely : Prop := socksFailsRow.holds Try.pinned (OpenSpec.ofChange socksFailsWrong)

/-- 'aditlaw22.SocksWhole': WHATEVER THE INPUT: true; the input reads as it did. -/
def socksWholeSpec : ChangeSpec := { name := "socksWhole", fn := fun _ => fun
  | [d1, d2] => { results := [.lit (.bool true)], args := [d1, d2] }
  | _ => none }
def socksWholeRow : OpenClaim := { program := "ytabcaiecoiejkaa", sum := "3aafa2510b3d5ae2556902ff292eb71fbca06764b73dafa8f31991dc257fe77d", func := "adit/aditlaw22.SocksWhole", spec := "socksWhole", inPlace := ["internal/bytealg.IndexByteString"], unfollowed := true, recurses := true, apart := false }
def SocksWholeSaid : Prop := socksWholeRow.holds Try.pinned (OpenSpec.ofChange socksWholeSpec)

/-- ITS FALSE NEIGHBOUR: 'it returns false'. Refute it at one input. -/
def socksWholeWrong : ChangeSpec := { name := "socksWhole", fn := fun _ => fun
  | [d1, d2] => { results := [.lit (.bool false)], args := [d1, d2] }
  | _ => none }
def SocksWholeWrongFalsely : Prop := socksWholeRow.holds Try.pinned (OpenSpec.ofChange socksWholeWrong)

/-- 'aditlaw22.SocksPlays': WHATEVER THE INPUT: true; the input reads as it did. -/
def socksPlaysSpec : ChangeSpec := { name := "socksPlays", fn := fun _ => fun
  | [d1, d2] => { results := [.lit (.bool true)], args := [d1, d2] }
  | _ => none }
def socksPlaysRow : OpenClaim := { program := "ytabcaiecoiejkaa", sum := "3aafa2510b3d5ae2556902ff292eb71fbca06764b73dafa8f31991dc257fe77d", func := "adit/aditlaw22.SocksPlays", spec := "socksPlays", inPlace := ["internal/bytealg.IndexByteString"], unfollowed := true, recurses := true, apart := false }
def SocksPlaysSaid : Prop := socksPlaysRow.holds Try.pinned (OpenSpec.ofChange socksPlaysSpec)

/-- ITS FALSE NEIGHBOUR: 'it returns false'. Refute it at one input. -/
def socksPlaysWrong : ChangeSpec := { name := "socksPlays", fn := fun _ => fun
  | [d1, d2] => { results := [.lit (.bool false)], args := [d1, d2] }
  | _ => none }
def SocksPlaysWrongFalsely : Prop := socksPlaysRow.holds Try.pinned (OpenSpec.ofChange socksPlaysWrong)

/-- 'aditlaw22.SocksRelays': WHATEVER THE INPUT: true; the input reads as it did. -/
def socksRelaysSpec : ChangeSpec := { name := "socksRelays", fn := fun _ => fun
  | [d1, d2] => { results := [.lit (.bool true)], args := [d1, d2] }
  | _ => none }
def socksRelaysRow : OpenClaim := { program := "ytabcaiecoiejkaa", sum := "3aafa2510b3d5ae2556902ff292eb71fbca06764b73dafa8f31991dc257fe77d", func := "adit/aditlaw22.SocksRelays", spec := "socksRelays", inPlace := ["internal/bytealg.IndexByteString"], unfollowed := true, recurses := true, apart := false }
def SocksRelaysSaid : Prop := socksRelaysRow.holds Try.pinned (OpenSpec.ofChange socksRelaysSpec)

/-- ITS FALSE NEIGHBOUR: 'it returns false'. Refute it at one input. -/
def socksRelaysWrong : ChangeSpec := { name := "socksRelays", fn := fun _ => fun
  | [d1, d2] => { results := [.lit (.bool false)], args := [d1, d2] }
  | _ => none }
def SocksRelaysWrongFalsely : Prop := socksRelaysRow.holds Try.pinned (OpenSpec.ofChange socksRelaysWrong)

/-- 'aditlaw22.SocksNil': WHATEVER THE INPUT: true; the input reads as it did. -/
def socksNilSpec : ChangeSpec := { name := "socksNil", fn := fun _ => fun
  | [d1, d2] => { results := [.lit (.bool true)], args := [d1, d2] }
  | _ => none }
def socksNilRow : OpenClaim := { program := "ytabcaiecoiejkaa", sum := "3aafa2510b3d5ae2556902ff292eb71fbca06764b73dafa8f31991dc257fe77d", func := "adit/aditlaw22.SocksNil", spec := "socksNil", inPlace := ["internal/bytealg.IndexByteString"], unfollowed := true, recurses := true, apart := false }
def SocksNilSaid : Prop := socksNilRow.holds Try.pinned (OpenSpec.ofChange socksNilSpec)

/-- ITS FALSE NEIGHBOUR: 'it returns false'. Refute it at one input. -/
def socksNilWrong : ChangeSpec := { name := "socksNil", fn := fun _ => fun
  | [d1, d2] => { results := [.lit (.bool false)], args := [d1, d2] }
  | _ => none }
def SocksNilWrongFalsely : Prop := socksNilRow.holds Try.pinned (OpenSpec.ofChange socksNilWrong)

/-- 'aditlaw16.UdpOnce': WHATEVER THE INPUT: true; the input reads as it did. -/
def udpOnceSpec : ChangeSpec := { name := "udpOnce", fn := fun _ => fun
  | [d1, d2] => { results := [.lit (.bool true)], args := [d1, d2] }
  | _ => none }
def udpOnceRow : OpenClaim := { program := "ytabcaiecoiejkaa", sum := "3aafa2510b3d5ae2556902ff292eb71fbca06764b73dafa8f31991dc257fe77d", func := "adit/aditlaw16.UdpOnce", spec := "udpOnce", unfollowed := true, recurses := true, apart := false }
def UdpOnceSaid : Prop := udpOnceRow.holds Try.pinned (OpenSpec.ofChange udpOnceSpec)

/-- ITS FALSE NEIGHBOUR: 'it returns false'. Refute it at one input. -/
def udpOnceWrong : ChangeSpec := { name := "udpOnce", fn := fun _ => fun
  | [d1, d2] => { results := [.lit (.bool false)], args := [d1, d2] }
  | _ => none }
def UdpOnceWrongFalsely : Prop := udpOnceRow.holds Try.pinned (OpenSpec.ofChange udpOnceWrong)

/-- 'aditlaw16.UdpPorts': WHATEVER THE INPUT: true; the input reads as it did. -/
def udpPortsSpec : ChangeSpec := { name := "udpPorts", fn := fun _ => fun
  | [d] => { results := [.lit (.bool true)], args := [d] }
  | _ => none }
def udpPortsRow : OpenClaim := { program := "ytabcaiecoiejkaa", sum := "3aafa2510b3d5ae2556902ff292eb71fbca06764b73dafa8f31991dc257fe77d", func := "adit/aditlaw16.UdpPorts", spec := "udpPorts", unfollowed := true, recurses := true, apart := false }
def UdpPortsSaid : Prop := udpPortsRow.holds Try.pinned (OpenSpec.ofChange udpPortsSpec)

/-- ITS FALSE NEIGHBOUR: 'it returns false'. Refute it at one input. -/
def udpPortsWrong : ChangeSpec := { name := "udpPorts", fn := fun _ => fun
  | [d] => { results := [.lit (.bool false)], args := [d] }
  | _ => none }
def UdpPortsWrongFalsely : Prop := udpPortsRow.holds Try.pinned (OpenSpec.ofChange udpPortsWrong)

/-- 'aditlaw16.UdpApart': WHATEVER THE INPUT: true; the input reads as it did. -/
def udpApartSpec : ChangeSpec := { name := "udpApart", fn := fun _ => fun
  | [d] => { results := [.lit (.bool true)], args := [d] }
  | _ => none }
def udpApartRow : OpenClaim := { program := "ytabcaiecoiejkaa", sum := "3aafa2510b3d5ae2556902ff292eb71fbca06764b73dafa8f31991dc257fe77d", func := "adit/aditlaw16.UdpApart", spec := "udpApart", unfollowed := true, recurses := true, apart := false }
def UdpApartSaid : Prop := udpApartRow.holds Try.pinned (OpenSpec.ofChange udpApartSpec)

/-- ITS FALSE NEIGHBOUR: 'it returns false'. Refute it at one input. -/
def udpApartWrong : ChangeSpec := { name := "udpApart", fn := fun _ => fun
  | [d] => { results := [.lit (.bool false)], args := [d] }
  | _ => none }
def UdpApartWrongFalsely : Prop := udpApartRow.holds Try.pinned (OpenSpec.ofChange udpApartWrong)

/- THE SECOND FORM. 'bulk': how many values and letters a reading holds, each counted each time it is reached (what is shared counts as often as it is met; a slice's spare places count too). A statement '..UptoSaid' is the law's where the arguments, and the package variables that the reading takes, are together of bulk at most 1048576: NARROWER than '..Said'. Prove '..Said' where nothing that the law and all that it calls make is longer than what came in: it says more and counts as full. Else prove '..UptoSaid'. A law counts once. -/
mutual
def uptoBulk {H : Type} : DataW H → Nat
  | .lit (.string bytes) => bytes.length + 1
  | .lit _ => 1
  | .nil => 1
  | .ptr d => uptoBulk d + 1
  | .slice elems spare => uptoBulkAll elems + uptoBulkAll spare + 1
  | .agg parts => uptoBulkAll parts + 1
  | .iface _ d => uptoBulk d + 1
  | .map entries => uptoBulkEntries entries + 1
  | .held _ => 1
def uptoBulkAll {H : Type} : List (DataW H) → Nat
  | [] => 0
  | d :: r => uptoBulk d + uptoBulkAll r
def uptoBulkEntries {H : Type} : List (Lit × DataW H) → Nat
  | [] => 0
  | x :: r => uptoBulkEntry x + uptoBulkEntries r
def uptoBulkEntry {H : Type} : Lit × DataW H → Nat
  | (.string bytes, d) => bytes.length + uptoBulk d + 1
  | (_, d) => uptoBulk d + 1
 end
def uptoSmall : (H : Type) → List (DataW H) → Bool := fun _ ds => decide (uptoBulkAll ds ≤ 1048576)
def OpenSpec.upto (s : _root_.Go.ChangeSpec) : _root_.Go.OpenSpec := { _root_.Go.OpenSpec.ofChange s with cond := some uptoSmall }

/-- 'aditlaw16.UdpBytes', WHERE WHAT IT READS IS OF BULK AT MOST 1048576: true; the input reads as it did. -/
def udpBytesUptoRow : OpenClaim := { program := "ytabcaiecoiejkaa", sum := "3aafa2510b3d5ae2556902ff292eb71fbca06764b73dafa8f31991dc257fe77d", func := "adit/aditlaw16.UdpBytes", spec := "udpBytes", unfollowed := true, recurses := true, apart := false, narrowed := true }
def UdpBytesUptoSaid : Prop := udpBytesUptoRow.holds Try.pinned (OpenSpec.upto udpBytesSpec)

/-- 'aditlaw18.SegBytes', WHERE WHAT IT READS IS OF BULK AT MOST 1048576: true; the input reads as it did. -/
def segBytesUptoRow : OpenClaim := { program := "ytabcaiecoiejkaa", sum := "3aafa2510b3d5ae2556902ff292eb71fbca06764b73dafa8f31991dc257fe77d", func := "adit/aditlaw18.SegBytes", spec := "segBytes", unfollowed := true, recurses := true, apart := false, narrowed := true }
def SegBytesUptoSaid : Prop := segBytesUptoRow.holds Try.pinned (OpenSpec.upto segBytesSpec)

/-- 'aditlaw18.SegTurned', WHERE WHAT IT READS IS OF BULK AT MOST 1048576: true; the input reads as it did. -/
def segTurnedUptoRow : OpenClaim := { program := "ytabcaiecoiejkaa", sum := "3aafa2510b3d5ae2556902ff292eb71fbca06764b73dafa8f31991dc257fe77d", func := "adit/aditlaw18.SegTurned", spec := "segTurned", unfollowed := true, recurses := true, apart := false, narrowed := true }
def SegTurnedUptoSaid : Prop := segTurnedUptoRow.holds Try.pinned (OpenSpec.upto segTurnedSpec)

/-- 'aditlaw18.SegSizes', WHERE WHAT IT READS IS OF BULK AT MOST 1048576: true; the input reads as it did. -/
def segSizesUptoRow : OpenClaim := { program := "ytabcaiecoiejkaa", sum := "3aafa2510b3d5ae2556902ff292eb71fbca06764b73dafa8f31991dc257fe77d", func := "adit/aditlaw18.SegSizes", spec := "segSizes", unfollowed := true, recurses := true, apart := false, narrowed := true }
def SegSizesUptoSaid : Prop := segSizesUptoRow.holds Try.pinned (OpenSpec.upto segSizesSpec)

/-- 'aditlaw18.SegLoose', WHERE WHAT IT READS IS OF BULK AT MOST 1048576: true; the input reads as it did. -/
def segLooseUptoRow : OpenClaim := { program := "ytabcaiecoiejkaa", sum := "3aafa2510b3d5ae2556902ff292eb71fbca06764b73dafa8f31991dc257fe77d", func := "adit/aditlaw18.SegLoose", spec := "segLoose", unfollowed := true, recurses := true, apart := false, narrowed := true }
def SegLooseUptoSaid : Prop := segLooseUptoRow.holds Try.pinned (OpenSpec.upto segLooseSpec)

/-- 'aditlaw22.SocksCuts', WHERE WHAT IT READS IS OF BULK AT MOST 1048576: true; the input reads as it did. -/
def socksCutsUptoRow : OpenClaim := { program := "ytabcaiecoiejkaa", sum := "3aafa2510b3d5ae2556902ff292eb71fbca06764b73dafa8f31991dc257fe77d", func := "adit/aditlaw22.SocksCuts", spec := "socksCuts", inPlace := ["internal/bytealg.IndexByteString"], unfollowed := true, recurses := true, apart := false, narrowed := true }
def SocksCutsUptoSaid : Prop := socksCutsUptoRow.holds Try.pinned (OpenSpec.upto socksCutsSpec)

/-- 'aditlaw22.SocksFails', WHERE WHAT IT READS IS OF BULK AT MOST 1048576: true; the input reads as it did. -/
def socksFailsUptoRow : OpenClaim := { program := "ytabcaiecoiejkaa", sum := "3aafa2510b3d5ae2556902ff292eb71fbca06764b73dafa8f31991dc257fe77d", func := "adit/aditlaw22.SocksFails", spec := "socksFails", inPlace := ["internal/bytealg.IndexByteString"], unfollowed := true, recurses := true, apart := false, narrowed := true }
def SocksFailsUptoSaid : Prop := socksFailsUptoRow.holds Try.pinned (OpenSpec.upto socksFailsSpec)

/-- 'aditlaw22.SocksWhole', WHERE WHAT IT READS IS OF BULK AT MOST 1048576: true; the input reads as it did. -/
def socksWholeUptoRow : OpenClaim := { program := "ytabcaiecoiejkaa", sum := "3aafa2510b3d5ae2556902ff292eb71fbca06764b73dafa8f31991dc257fe77d", func := "adit/aditlaw22.SocksWhole", spec := "socksWhole", inPlace := ["internal/bytealg.IndexByteString"], unfollowed := true, recurses := true, apart := false, narrowed := true }
def SocksWholeUptoSaid : Prop := socksWholeUptoRow.holds Try.pinned (OpenSpec.upto socksWholeSpec)

/-- 'aditlaw22.SocksPlays', WHERE WHAT IT READS IS OF BULK AT MOST 1048576: true; the input reads as it did. -/
def socksPlaysUptoRow : OpenClaim := { program := "ytabcaiecoiejkaa", sum := "3aafa2510b3d5ae2556902ff292eb71fbca06764b73dafa8f31991dc257fe77d", func := "adit/aditlaw22.SocksPlays", spec := "socksPlays", inPlace := ["internal/bytealg.IndexByteString"], unfollowed := true, recurses := true, apart := false, narrowed := true }
def SocksPlaysUptoSaid : Prop := socksPlaysUptoRow.holds Try.pinned (OpenSpec.upto socksPlaysSpec)

/-- 'aditlaw22.SocksRelays', WHERE WHAT IT READS IS OF BULK AT MOST 1048576: true; the input reads as it did. -/
def socksRelaysUptoRow : OpenClaim := { program := "ytabcaiecoiejkaa", sum := "3aafa2510b3d5ae2556902ff292eb71fbca06764b73dafa8f31991dc257fe77d", func := "adit/aditlaw22.SocksRelays", spec := "socksRelays", inPlace := ["internal/bytealg.IndexByteString"], unfollowed := true, recurses := true, apart := false, narrowed := true }
def SocksRelaysUptoSaid : Prop := socksRelaysUptoRow.holds Try.pinned (OpenSpec.upto socksRelaysSpec)

/-- 'aditlaw22.SocksNil', WHERE WHAT IT READS IS OF BULK AT MOST 1048576: true; the input reads as it did. -/
def socksNilUptoRow : OpenClaim := { program := "ytabcaiecoiejkaa", sum := "3aafa2510b3d5ae2556902ff292eb71fbca06764b73dafa8f31991dc257fe77d", func := "adit/aditlaw22.SocksNil", spec := "socksNil", inPlace := ["internal/bytealg.IndexByteString"], unfollowed := true, recurses := true, apart := false, narrowed := true }
def SocksNilUptoSaid : Prop := socksNilUptoRow.holds Try.pinned (OpenSpec.upto socksNilSpec)

/-- 'aditlaw16.UdpOnce', WHERE WHAT IT READS IS OF BULK AT MOST 1048576: true; the input reads as it did. -/
def udpOnceUptoRow : OpenClaim := { program := "ytabcaiecoiejkaa", sum := "3aafa2510b3d5ae2556902ff292eb71fbca06764b73dafa8f31991dc257fe77d", func := "adit/aditlaw16.UdpOnce", spec := "udpOnce", unfollowed := true, recurses := true, apart := false, narrowed := true }
def UdpOnceUptoSaid : Prop := udpOnceUptoRow.holds Try.pinned (OpenSpec.upto udpOnceSpec)

/-- 'aditlaw16.UdpPorts', WHERE WHAT IT READS IS OF BULK AT MOST 1048576: true; the input reads as it did. -/
def udpPortsUptoRow : OpenClaim := { program := "ytabcaiecoiejkaa", sum := "3aafa2510b3d5ae2556902ff292eb71fbca06764b73dafa8f31991dc257fe77d", func := "adit/aditlaw16.UdpPorts", spec := "udpPorts", unfollowed := true, recurses := true, apart := false, narrowed := true }
def UdpPortsUptoSaid : Prop := udpPortsUptoRow.holds Try.pinned (OpenSpec.upto udpPortsSpec)

/-- 'aditlaw16.UdpApart', WHERE WHAT IT READS IS OF BULK AT MOST 1048576: true; the input reads as it did. -/
def udpApartUptoRow : OpenClaim := { program := "ytabcaiecoiejkaa", sum := "3aafa2510b3d5ae2556902ff292eb71fbca06764b73dafa8f31991dc257fe77d", func := "adit/aditlaw16.UdpApart", spec := "udpApart", unfollowed := true, recurses := true, apart := false, narrowed := true }
def UdpApartUptoSaid : Prop := udpApartUptoRow.holds Try.pinned (OpenSpec.upto udpApartSpec)

end Rows
end Go.Proofs.Ytabcaiecoiejkaa
