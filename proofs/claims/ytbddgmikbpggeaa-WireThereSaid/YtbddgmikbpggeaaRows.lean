/-
  No cell of these rows narrows 'for every input' (looked for: loops, veiled, ifaces, maps, wideKeys, modest, calm, conditions, laid).
  DERIVED. THE GIVEN ROWS OF THIS SEAT. 12 by the template 'for every input the law returns true; each argument reads behind the call as it read before'; 0 by the template 'total and deterministic' (their statements: YtbddgmikbpggeaaTotals.lean).
  GIVEN WITH THE SEED: the statements are not yours to turn. If you find one false, say at which input.
  Laid BY PROGRAM, IN A SANDBOX (cutbox-rows.mjs): the forced cells as the released guide's own fill.sh prints them over the translation 67846f8041a33df1… (all of the seat's roots in one cut). By AI agents, Wed Nov 11 2026. No macro, syntax, notation, axiom, sorry.
-/
import Derived.Test.YtbddgmikbpggeaaChecked
import GoSem.Claim
import GoSem.ClaimJoined
import GoSem.ClaimMapViews
import Derived.JoinedTies
import Derived.KernelRfl
namespace Go.Proofs.Ytbddgmikbpggeaa
/- THE CELL 'sum', in the pinned program and in every row, IS THE sha256 OF THE DUMP (.gsa) THAT YtbddgmikbpggeaaProg.lean LOADS. Nothing in Lean hashes anything: it is a label: what it is worth is what the hold of that sum in a sandbox is worth. -/
noncomputable def Try.pinned : Pinned := { name := "ytbddgmikbpggeaa", sum := "67846f8041a33df1bf9cd33f310036c4c6e0b202545fa7872ebb99bf3fd18b4f", checked := Try.checked }
namespace Rows
def none {H : Type} : Left H := { results := [], args := [] }

/-- 'monocoquelaw02.WirePuts': WHATEVER THE INPUT: true; the input reads as it did. -/
def wirePutsSpec : ChangeSpec := { name := "wirePuts", fn := fun _ => fun
  | [d1, d2, d3, d4] => { results := [.lit (.bool true)], args := [d1, d2, d3, d4] }
  | _ => none }
def wirePutsRow : OpenClaim := { program := "ytbddgmikbpggeaa", sum := "67846f8041a33df1bf9cd33f310036c4c6e0b202545fa7872ebb99bf3fd18b4f", func := "monocoque/monocoquelaw02.WirePuts", spec := "wirePuts", plainKeys := false, apart := false }
def WirePutsSaid : Prop := wirePutsRow.holds Try.pinned (OpenSpec.ofChange wirePutsSpec)

/-- ITS FALSE NEIGHBOUR: 'it returns false'. Refute it at one input. -/
def wirePutsWrong : ChangeSpec := { name := "wirePuts", fn := fun _ => fun
  | [d1, d2, d3, d4] => { results := [.lit (.bool false)], args := [d1, d2, d3, d4] }
  | _ => none }
def WirePutsWrongFalsely : Prop := wirePutsRow.holds Try.pinned (OpenSpec.ofChange wirePutsWrong)

/-- 'monocoquelaw02.WireApart': WHATEVER THE INPUT: true; the input reads as it did. -/
def wireApartSpec : ChangeSpec := { name := "wireApart", fn := fun _ => fun
  | [d1, d2, d3] => { results := [.lit (.bool true)], args := [d1, d2, d3] }
  | _ => none }
def wireApartRow : OpenClaim := { program := "ytbddgmikbpggeaa", sum := "67846f8041a33df1bf9cd33f310036c4c6e0b202545fa7872ebb99bf3fd18b4f", func := "monocoque/monocoquelaw02.WireApart", spec := "wireApart", plainKeys := false, apart := false }
def WireApartSaid : Prop := wireApartRow.holds Try.pinned (OpenSpec.ofChange wireApartSpec)

/-- ITS FALSE NEIGHBOUR: 'it returns false'. Refute it at one input. -/
def wireApartWrong : ChangeSpec := { name := "wireApart", fn := fun _ => fun
  | [d1, d2, d3] => { results := [.lit (.bool false)], args := [d1, d2, d3] }
  | _ => none }
def WireApartWrongFalsely : Prop := wireApartRow.holds Try.pinned (OpenSpec.ofChange wireApartWrong)

/-- 'monocoquelaw02.WireOpens': WHATEVER THE INPUT: true; the input reads as it did. -/
def wireOpensSpec : ChangeSpec := { name := "wireOpens", fn := fun _ => fun
  | [d] => { results := [.lit (.bool true)], args := [d] }
  | _ => none }
def wireOpensRow : OpenClaim := { program := "ytbddgmikbpggeaa", sum := "67846f8041a33df1bf9cd33f310036c4c6e0b202545fa7872ebb99bf3fd18b4f", func := "monocoque/monocoquelaw02.WireOpens", spec := "wireOpens", plainKeys := false, apart := false }
def WireOpensSaid : Prop := wireOpensRow.holds Try.pinned (OpenSpec.ofChange wireOpensSpec)

/-- ITS FALSE NEIGHBOUR: 'it returns false'. Refute it at one input. -/
def wireOpensWrong : ChangeSpec := { name := "wireOpens", fn := fun _ => fun
  | [d] => { results := [.lit (.bool false)], args := [d] }
  | _ => none }
def WireOpensWrongFalsely : Prop := wireOpensRow.holds Try.pinned (OpenSpec.ofChange wireOpensWrong)

/-- 'monocoquelaw02.WireTurns': WHATEVER THE INPUT: true; the input reads as it did. -/
def wireTurnsSpec : ChangeSpec := { name := "wireTurns", fn := fun _ => fun
  | [d1, d2, d3] => { results := [.lit (.bool true)], args := [d1, d2, d3] }
  | _ => none }
def wireTurnsRow : OpenClaim := { program := "ytbddgmikbpggeaa", sum := "67846f8041a33df1bf9cd33f310036c4c6e0b202545fa7872ebb99bf3fd18b4f", func := "monocoque/monocoquelaw02.WireTurns", spec := "wireTurns", plainKeys := false, apart := false }
def WireTurnsSaid : Prop := wireTurnsRow.holds Try.pinned (OpenSpec.ofChange wireTurnsSpec)

/-- ITS FALSE NEIGHBOUR: 'it returns false'. Refute it at one input. -/
def wireTurnsWrong : ChangeSpec := { name := "wireTurns", fn := fun _ => fun
  | [d1, d2, d3] => { results := [.lit (.bool false)], args := [d1, d2, d3] }
  | _ => none }
def WireTurnsWrongFalsely : Prop := wireTurnsRow.holds Try.pinned (OpenSpec.ofChange wireTurnsWrong)

/-- 'monocoquelaw02.WireThere': WHATEVER THE INPUT: true; the input reads as it did. -/
def wireThereSpec : ChangeSpec := { name := "wireThere", fn := fun _ => fun
  | [d1, d2, d3] => { results := [.lit (.bool true)], args := [d1, d2, d3] }
  | _ => none }
def wireThereRow : OpenClaim := { program := "ytbddgmikbpggeaa", sum := "67846f8041a33df1bf9cd33f310036c4c6e0b202545fa7872ebb99bf3fd18b4f", func := "monocoque/monocoquelaw02.WireThere", spec := "wireThere", unfollowed := true, recurses := true, plainKeys := false, apart := false }
def WireThereSaid : Prop := wireThereRow.holds Try.pinned (OpenSpec.ofChange wireThereSpec)

/-- ITS FALSE NEIGHBOUR: 'it returns false'. Refute it at one input. -/
def wireThereWrong : ChangeSpec := { name := "wireThere", fn := fun _ => fun
  | [d1, d2, d3] => { results := [.lit (.bool false)], args := [d1, d2, d3] }
  | _ => none }
def WireThereWrongFalsely : Prop := wireThereRow.holds Try.pinned (OpenSpec.ofChange wireThereWrong)

/-- 'monocoquelaw02.WireNil': WHATEVER THE INPUT: true; the input reads as it did. -/
def wireNilSpec : ChangeSpec := { name := "wireNil", fn := fun _ => fun
  | [d1, d2] => { results := [.lit (.bool true)], args := [d1, d2] }
  | _ => none }
def wireNilRow : OpenClaim := { program := "ytbddgmikbpggeaa", sum := "67846f8041a33df1bf9cd33f310036c4c6e0b202545fa7872ebb99bf3fd18b4f", func := "monocoque/monocoquelaw02.WireNil", spec := "wireNil", unfollowed := true, recurses := true, plainKeys := false, apart := false }
def WireNilSaid : Prop := wireNilRow.holds Try.pinned (OpenSpec.ofChange wireNilSpec)

/-- ITS FALSE NEIGHBOUR: 'it returns false'. Refute it at one input. -/
def wireNilWrong : ChangeSpec := { name := "wireNil", fn := fun _ => fun
  | [d1, d2] => { results := [.lit (.bool false)], args := [d1, d2] }
  | _ => none }
def WireNilWrongFalsely : Prop := wireNilRow.holds Try.pinned (OpenSpec.ofChange wireNilWrong)

/-- 'monocoquelaw02.WireReads': WHATEVER THE INPUT: true; the input reads as it did. -/
def wireReadsSpec : ChangeSpec := { name := "wireReads", fn := fun _ => fun
  | [d1, d2] => { results := [.lit (.bool true)], args := [d1, d2] }
  | _ => none }
def wireReadsRow : OpenClaim := { program := "ytbddgmikbpggeaa", sum := "67846f8041a33df1bf9cd33f310036c4c6e0b202545fa7872ebb99bf3fd18b4f", func := "monocoque/monocoquelaw02.WireReads", spec := "wireReads", unfollowed := true, recurses := true, plainKeys := false, apart := false }
def WireReadsSaid : Prop := wireReadsRow.holds Try.pinned (OpenSpec.ofChange wireReadsSpec)

/-- ITS FALSE NEIGHBOUR: 'it returns false'. Refute it at one input. -/
def wireReadsWrong : ChangeSpec := { name := "wireReads", fn := fun _ => fun
  | [d1, d2] => { results := [.lit (.bool false)], args := [d1, d2] }
  | _ => none }
def WireReadsWrongFalsely : Prop := wireReadsRow.holds Try.pinned (OpenSpec.ofChange wireReadsWrong)

/-- 'monocoquelaw36.LogApart': WHATEVER THE INPUT: true; the input reads as it did. -/
def logApartSpec : ChangeSpec := { name := "logApart", fn := fun _ => fun
  | [d1, d2, d3] => { results := [.lit (.bool true)], args := [d1, d2, d3] }
  | _ => none }
def logApartRow : OpenClaim := { program := "ytbddgmikbpggeaa", sum := "67846f8041a33df1bf9cd33f310036c4c6e0b202545fa7872ebb99bf3fd18b4f", func := "monocoque/monocoquelaw36.LogApart", spec := "logApart", unfollowed := true, recurses := true, plainKeys := false, apart := false }
def LogApartSaid : Prop := logApartRow.holds Try.pinned (OpenSpec.ofChange logApartSpec)

/-- ITS FALSE NEIGHBOUR: 'it returns false'. Refute it at one input. -/
def logApartWrong : ChangeSpec := { name := "logApart", fn := fun _ => fun
  | [d1, d2, d3] => { results := [.lit (.bool false)], args := [d1, d2, d3] }
  | _ => none }
def LogApartWrongFalsely : Prop := logApartRow.holds Try.pinned (OpenSpec.ofChange logApartWrong)

/-- 'monocoquelaw36.LogRooms': WHATEVER THE INPUT: true; the input reads as it did. -/
def logRoomsSpec : ChangeSpec := { name := "logRooms", fn := fun _ => fun
  | [d1, d2, d3] => { results := [.lit (.bool true)], args := [d1, d2, d3] }
  | _ => none }
def logRoomsRow : OpenClaim := { program := "ytbddgmikbpggeaa", sum := "67846f8041a33df1bf9cd33f310036c4c6e0b202545fa7872ebb99bf3fd18b4f", func := "monocoque/monocoquelaw36.LogRooms", spec := "logRooms", unfollowed := true, recurses := true, plainKeys := false, apart := false }
def LogRoomsSaid : Prop := logRoomsRow.holds Try.pinned (OpenSpec.ofChange logRoomsSpec)

/-- ITS FALSE NEIGHBOUR: 'it returns false'. Refute it at one input. -/
def logRoomsWrong : ChangeSpec := { name := "logRooms", fn := fun _ => fun
  | [d1, d2, d3] => { results := [.lit (.bool false)], args := [d1, d2, d3] }
  | _ => none }
def LogRoomsWrongFalsely : Prop := logRoomsRow.holds Try.pinned (OpenSpec.ofChange logRoomsWrong)

/-- 'monocoquelaw36.LogTold': WHATEVER THE INPUT: true; the input reads as it did. -/
def logToldSpec : ChangeSpec := { name := "logTold", fn := fun _ => fun
  | [d1, d2] => { results := [.lit (.bool true)], args := [d1, d2] }
  | _ => none }
def logToldRow : OpenClaim := { program := "ytbddgmikbpggeaa", sum := "67846f8041a33df1bf9cd33f310036c4c6e0b202545fa7872ebb99bf3fd18b4f", func := "monocoque/monocoquelaw36.LogTold", spec := "logTold", unfollowed := true, recurses := true, plainKeys := false, apart := false }
def LogToldSaid : Prop := logToldRow.holds Try.pinned (OpenSpec.ofChange logToldSpec)

/-- ITS FALSE NEIGHBOUR: 'it returns false'. Refute it at one input. -/
def logToldWrong : ChangeSpec := { name := "logTold", fn := fun _ => fun
  | [d1, d2] => { results := [.lit (.bool false)], args := [d1, d2] }
  | _ => none }
def LogToldWrongFalsely : Prop := logToldRow.holds Try.pinned (OpenSpec.ofChange logToldWrong)

/-- 'monocoquelaw36.LogNil': WHATEVER THE INPUT: true; the input reads as it did. -/
def logNilSpec : ChangeSpec := { name := "logNil", fn := fun _ => fun
  | [d] => { results := [.lit (.bool true)], args := [d] }
  | _ => none }
def logNilRow : OpenClaim := { program := "ytbddgmikbpggeaa", sum := "67846f8041a33df1bf9cd33f310036c4c6e0b202545fa7872ebb99bf3fd18b4f", func := "monocoque/monocoquelaw36.LogNil", spec := "logNil", unfollowed := true, recurses := true, plainKeys := false, apart := false }
def LogNilSaid : Prop := logNilRow.holds Try.pinned (OpenSpec.ofChange logNilSpec)

/-- ITS FALSE NEIGHBOUR: 'it returns false'. Refute it at one input. -/
def logNilWrong : ChangeSpec := { name := "logNil", fn := fun _ => fun
  | [d] => { results := [.lit (.bool false)], args := [d] }
  | _ => none }
def LogNilWrongFalsely : Prop := logNilRow.holds Try.pinned (OpenSpec.ofChange logNilWrong)

/-- 'monocoquelaw40.ReplayParts': WHATEVER THE INPUT: true; the input reads as it did. -/
def replayPartsSpec : ChangeSpec := { name := "replayParts", fn := fun _ => fun
  | [d1, d2, d3] => { results := [.lit (.bool true)], args := [d1, d2, d3] }
  | _ => none }
def replayPartsRow : OpenClaim := { program := "ytbddgmikbpggeaa", sum := "67846f8041a33df1bf9cd33f310036c4c6e0b202545fa7872ebb99bf3fd18b4f", func := "monocoque/monocoquelaw40.ReplayParts", spec := "replayParts", plainKeys := false, apart := false }
def ReplayPartsSaid : Prop := replayPartsRow.holds Try.pinned (OpenSpec.ofChange replayPartsSpec)

/-- ITS FALSE NEIGHBOUR: 'it returns false'. Refute it at one input. -/
def replayPartsWrong : ChangeSpec := { name := "replayParts", fn := fun _ => fun
  | [d1, d2, d3] => { results := [.lit (.bool false)], args := [d1, d2, d3] }
  | _ => none }
def ReplayPartsWrongFalsely : Prop := replayPartsRow.holds Try.pinned (OpenSpec.ofChange replayPartsWrong)

/- THE SECOND FORM. 'bulk': how many values and letters a reading holds, each counted each time it is reached (what is shared counts as often as it is met; a slice's spare places count too). A statement '..UptoSaid' is the law's where the arguments, and the package variables that the reading takes, are together of bulk at most 1048576: NARROWER than '..Said'. Prove '..Said' where nothing that the law and all that it calls make is longer than what came in: it says more and counts as full. Else prove '..UptoSaid'. A law counts once. -/
mutual
def uptoBulk {H : Type} : DataW H → Nat
  | .lit (.string bytes) => bytes.length + 1
  | .lit _ => 1
  | .nil => 1
  | .ptr d => uptoBulk d + 1
  | .slice elems spare => uptoBulkAll elems + uptoBulkAll spare + 1
  | .agg parts => uptoBulkAll parts + 1
  | .iface _ d => uptoBulk d + 1
  | .map entries => uptoBulkEntries entries + 1
  | .held _ => 1
def uptoBulkAll {H : Type} : List (DataW H) → Nat
  | [] => 0
  | d :: r => uptoBulk d + uptoBulkAll r
def uptoBulkEntries {H : Type} : List (Lit × DataW H) → Nat
  | [] => 0
  | x :: r => uptoBulkEntry x + uptoBulkEntries r
def uptoBulkEntry {H : Type} : Lit × DataW H → Nat
  | (.string bytes, d) => bytes.length + uptoBulk d + 1
  | (_, d) => uptoBulk d + 1
 end
def uptoSmall : (H : Type) → List (DataW H) → Bool := fun _ ds => decide (uptoBulkAll ds ≤ 1048576)
def OpenSpec.upto (s : _root_.Go.ChangeSpec) : _root_.Go.OpenSpec := { _root_.Go.OpenSpec.ofChange s with cond := some uptoSmall }

/-- 'monocoquelaw02.WirePuts', WHERE WHAT IT READS IS OF BULK AT MOST 1048576: true; the input reads as it did. -/
def wirePutsUptoRow : OpenClaim := { program := "ytbddgmikbpggeaa", sum := "67846f8041a33df1bf9cd33f310036c4c6e0b202545fa7872ebb99bf3fd18b4f", func := "monocoque/monocoquelaw02.WirePuts", spec := "wirePuts", plainKeys := false, apart := false, narrowed := true }
def WirePutsUptoSaid : Prop := wirePutsUptoRow.holds Try.pinned (OpenSpec.upto wirePutsSpec)

/-- 'monocoquelaw02.WireApart', WHERE WHAT IT READS IS OF BULK AT MOST 1048576: true; the input reads as it did. -/
def wireApartUptoRow : OpenClaim := { program := "ytbddgmikbpggeaa", sum := "67846f8041a33df1bf9cd33f310036c4c6e0b202545fa7872ebb99bf3fd18b4f", func := "monocoque/monocoquelaw02.WireApart", spec := "wireApart", plainKeys := false, apart := false, narrowed := true }
def WireApartUptoSaid : Prop := wireApartUptoRow.holds Try.pinned (OpenSpec.upto wireApartSpec)

/-- 'monocoquelaw02.WireOpens', WHERE WHAT IT READS IS OF BULK AT MOST 1048576: true; the input reads as it did. -/
def wireOpensUptoRow : OpenClaim := { program := "ytbddgmikbpggeaa", sum := "67846f8041a33df1bf9cd33f310036c4c6e0b202545fa7872ebb99bf3fd18b4f", func := "monocoque/monocoquelaw02.WireOpens", spec := "wireOpens", plainKeys := false, apart := false, narrowed := true }
def WireOpensUptoSaid : Prop := wireOpensUptoRow.holds Try.pinned (OpenSpec.upto wireOpensSpec)

/-- 'monocoquelaw02.WireTurns', WHERE WHAT IT READS IS OF BULK AT MOST 1048576: true; the input reads as it did. -/
def wireTurnsUptoRow : OpenClaim := { program := "ytbddgmikbpggeaa", sum := "67846f8041a33df1bf9cd33f310036c4c6e0b202545fa7872ebb99bf3fd18b4f", func := "monocoque/monocoquelaw02.WireTurns", spec := "wireTurns", plainKeys := false, apart := false, narrowed := true }
def WireTurnsUptoSaid : Prop := wireTurnsUptoRow.holds Try.pinned (OpenSpec.upto wireTurnsSpec)

/-- 'monocoquelaw02.WireThere', WHERE WHAT IT READS IS OF BULK AT MOST 1048576: true; the input reads as it did. -/
def wireThereUptoRow : OpenClaim := { program := "ytbddgmikbpggeaa", sum := "67846f8041a33df1bf9cd33f310036c4c6e0b202545fa7872ebb99bf3fd18b4f", func := "monocoque/monocoquelaw02.WireThere", spec := "wireThere", unfollowed := true, recurses := true, plainKeys := false, apart := false, narrowed := true }
def WireThereUptoSaid : Prop := wireThereUptoRow.holds Try.pinned (OpenSpec.upto wireThereSpec)

/-- 'monocoquelaw02.WireNil', WHERE WHAT IT READS IS OF BULK AT MOST 1048576: true; the input reads as it did. -/
def wireNilUptoRow : OpenClaim := { program := "ytbddgmikbpggeaa", sum := "67846f8041a33df1bf9cd33f310036c4c6e0b202545fa7872ebb99bf3fd18b4f", func := "monocoque/monocoquelaw02.WireNil", spec := "wireNil", unfollowed := true, recurses := true, plainKeys := false, apart := false, narrowed := true }
def WireNilUptoSaid : Prop := wireNilUptoRow.holds Try.pinned (OpenSpec.upto wireNilSpec)

/-- 'monocoquelaw02.WireReads', WHERE WHAT IT READS IS OF BULK AT MOST 1048576: true; the input reads as it did. -/
def wireReadsUptoRow : OpenClaim := { program := "ytbddgmikbpggeaa", sum := "67846f8041a33df1bf9cd33f310036c4c6e0b202545fa7872ebb99bf3fd18b4f", func := "monocoque/monocoquelaw02.WireReads", spec := "wireReads", unfollowed := true, recurses := true, plainKeys := false, apart := false, narrowed := true }
def WireReadsUptoSaid : Prop := wireReadsUptoRow.holds Try.pinned (OpenSpec.upto wireReadsSpec)

/-- 'monocoquelaw36.LogApart', WHERE WHAT IT READS IS OF BULK AT MOST 1048576: true; the input reads as it did. -/
def logApartUptoRow : OpenClaim := { program := "ytbddgmikbpggeaa", sum := "67846f8041a33df1bf9cd33f310036c4c6e0b202545fa7872ebb99bf3fd18b4f", func := "monocoque/monocoquelaw36.LogApart", spec := "logApart", unfollowed := true, recurses := true, plainKeys := false, apart := false, narrowed := true }
def LogApartUptoSaid : Prop := logApartUptoRow.holds Try.pinned (OpenSpec.upto logApartSpec)

/-- 'monocoquelaw36.LogRooms', WHERE WHAT IT READS IS OF BULK AT MOST 1048576: true; the input reads as it did. -/
def logRoomsUptoRow : OpenClaim := { program := "ytbddgmikbpggeaa", sum := "67846f8041a33df1bf9cd33f310036c4c6e0b202545fa7872ebb99bf3fd18b4f", func := "monocoque/monocoquelaw36.LogRooms", spec := "logRooms", unfollowed := true, recurses := true, plainKeys := false, apart := false, narrowed := true }
def LogRoomsUptoSaid : Prop := logRoomsUptoRow.holds Try.pinned (OpenSpec.upto logRoomsSpec)

/-- 'monocoquelaw36.LogTold', WHERE WHAT IT READS IS OF BULK AT MOST 1048576: true; the input reads as it did. -/
def logToldUptoRow : OpenClaim := { program := "ytbddgmikbpggeaa", sum := "67846f8041a33df1bf9cd33f310036c4c6e0b202545fa7872ebb99bf3fd18b4f", func := "monocoque/monocoquelaw36.LogTold", spec := "logTold", unfollowed := true, recurses := true, plainKeys := false, apart := false, narrowed := true }
def LogToldUptoSaid : Prop := logToldUptoRow.holds Try.pinned (OpenSpec.upto logToldSpec)

/-- 'monocoquelaw36.LogNil', WHERE WHAT IT READS IS OF BULK AT MOST 1048576: true; the input reads as it did. -/
def logNilUptoRow : OpenClaim := { program := "ytbddgmikbpggeaa", sum := "67846f8041a33df1bf9cd33f310036c4c6e0b202545fa7872ebb99bf3fd18b4f", func := "monocoque/monocoquelaw36.LogNil", spec := "logNil", unfollowed := true, recurses := true, plainKeys := false, apart := false, narrowed := true }
def LogNilUptoSaid : Prop := logNilUptoRow.holds Try.pinned (OpenSpec.upto logNilSpec)

/-- 'monocoquelaw40.ReplayParts', WHERE WHAT IT READS IS OF BULK AT MOST 1048576: true; the input reads as it did. -/
def replayPartsUptoRow : OpenClaim := { program := "ytbddgmikbpggeaa", sum := "67846f8041a33df1bf9cd33f310036c4c6e0b202545fa7872ebb99bf3fd18b4f", func := "monocoque/monocoquelaw40.ReplayParts", spec := "replayParts", plainKeys := false, apart := false, narrowed := true }
def ReplayPartsUptoSaid : Prop := replayPartsUptoRow.holds Try.pinned (OpenSpec.upto replayPartsSpec)

end Rows
end Go.Proofs.Ytbddgmikbpggeaa
