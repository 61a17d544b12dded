/-
  No cell of these rows narrows 'for every input' (looked for: loops, veiled, ifaces, maps, wideKeys, modest, calm, conditions, laid).
  DERIVED. THE GIVEN ROWS OF THIS SEAT. 20 by the template 'for every input the law returns true; each argument reads behind the call as it read before'; 0 by the template 'total and deterministic' (their statements: YtpmbjlmplfejgaaTotals.lean).
  GIVEN WITH THE SEED: the statements are not yours to turn. If you find one false, say at which input.
  Laid BY PROGRAM, IN A SANDBOX (cutbox-rows.mjs): the forced cells as the released guide's own fill.sh prints them over the translation a8e1fd5daf676884… (all of the seat's roots in one cut). By AI agents, Wed Nov 11 2026. No macro, syntax, notation, axiom, sorry.
-/
import Derived.Test.YtpmbjlmplfejgaaChecked
import GoSem.Claim
import GoSem.ClaimJoined
import GoSem.ClaimMapViews
import Derived.JoinedTies
import Derived.KernelRfl
namespace Go.Proofs.Ytpmbjlmplfejgaa
/- THE CELL 'sum', in the pinned program and in every row, IS THE sha256 OF THE DUMP (.gsa) THAT YtpmbjlmplfejgaaProg.lean LOADS. Nothing in Lean hashes anything: it is a label: what it is worth is what the hold of that sum in a sandbox is worth. -/
noncomputable def Try.pinned : Pinned := { name := "ytpmbjlmplfejgaa", sum := "a8e1fd5daf67688414792c18081274c439ff3ae7a83a7220850fc385882c17b8", checked := Try.checked }
namespace Rows
def none {H : Type} : Left H := { results := [], args := [] }

/-- 'trencherlaw03.SumBytes': WHATEVER THE INPUT: true; the input reads as it did. -/
def sumBytesSpec : ChangeSpec := { name := "sumBytes", fn := fun _ => fun
  | [d] => { results := [.lit (.bool true)], args := [d] }
  | _ => none }
def sumBytesRow : OpenClaim := { program := "ytpmbjlmplfejgaa", sum := "a8e1fd5daf67688414792c18081274c439ff3ae7a83a7220850fc385882c17b8", func := "trencher/trencherlaw03.SumBytes", spec := "sumBytes", apart := false }
def SumBytesSaid : Prop := sumBytesRow.holds Try.pinned (OpenSpec.ofChange sumBytesSpec)

/-- ITS FALSE NEIGHBOUR: 'it returns false'. Refute it at one input. -/
def sumBytesWrong : ChangeSpec := { name := "sumBytes", fn := fun _ => fun
  | [d] => { results := [.lit (.bool false)], args := [d] }
  | _ => none }
def SumBytesWrongFalsely : Prop := sumBytesRow.holds Try.pinned (OpenSpec.ofChange sumBytesWrong)

/-- 'trencherlaw03.SumWords': WHATEVER THE INPUT: true; the input reads as it did. -/
def sumWordsSpec : ChangeSpec := { name := "sumWords", fn := fun _ => fun
  | [d1, d2] => { results := [.lit (.bool true)], args := [d1, d2] }
  | _ => none }
def sumWordsRow : OpenClaim := { program := "ytpmbjlmplfejgaa", sum := "a8e1fd5daf67688414792c18081274c439ff3ae7a83a7220850fc385882c17b8", func := "trencher/trencherlaw03.SumWords", spec := "sumWords", apart := false }
def SumWordsSaid : Prop := sumWordsRow.holds Try.pinned (OpenSpec.ofChange sumWordsSpec)

/-- ITS FALSE NEIGHBOUR: 'it returns false'. Refute it at one input. -/
def sumWordsWrong : ChangeSpec := { name := "sumWords", fn := fun _ => fun
  | [d1, d2] => { results := [.lit (.bool false)], args := [d1, d2] }
  | _ => none }
def SumWordsWrongFalsely : Prop := sumWordsRow.holds Try.pinned (OpenSpec.ofChange sumWordsWrong)

/-- 'trencherlaw03.SumTurned': WHATEVER THE INPUT: true; the input reads as it did. -/
def sumTurnedSpec : ChangeSpec := { name := "sumTurned", fn := fun _ => fun
  | [d1, d2, d3] => { results := [.lit (.bool true)], args := [d1, d2, d3] }
  | _ => none }
def sumTurnedRow : OpenClaim := { program := "ytpmbjlmplfejgaa", sum := "a8e1fd5daf67688414792c18081274c439ff3ae7a83a7220850fc385882c17b8", func := "trencher/trencherlaw03.SumTurned", spec := "sumTurned", apart := false }
def SumTurnedSaid : Prop := sumTurnedRow.holds Try.pinned (OpenSpec.ofChange sumTurnedSpec)

/-- ITS FALSE NEIGHBOUR: 'it returns false'. Refute it at one input. -/
def sumTurnedWrong : ChangeSpec := { name := "sumTurned", fn := fun _ => fun
  | [d1, d2, d3] => { results := [.lit (.bool false)], args := [d1, d2, d3] }
  | _ => none }
def SumTurnedWrongFalsely : Prop := sumTurnedRow.holds Try.pinned (OpenSpec.ofChange sumTurnedWrong)

/-- 'trencherlaw07.SuperWrites': WHATEVER THE INPUT: true; the input reads as it did. -/
def superWritesSpec : ChangeSpec := { name := "superWrites", fn := fun _ => fun
  | [d] => { results := [.lit (.bool true)], args := [d] }
  | _ => none }
def superWritesRow : OpenClaim := { program := "ytpmbjlmplfejgaa", sum := "a8e1fd5daf67688414792c18081274c439ff3ae7a83a7220850fc385882c17b8", func := "trencher/trencherlaw07.SuperWrites", spec := "superWrites", unfollowed := true, recurses := true, apart := false }
def SuperWritesSaid : Prop := superWritesRow.holds Try.pinned (OpenSpec.ofChange superWritesSpec)

/-- ITS FALSE NEIGHBOUR: 'it returns false'. Refute it at one input. -/
def superWritesWrong : ChangeSpec := { name := "superWrites", fn := fun _ => fun
  | [d] => { results := [.lit (.bool false)], args := [d] }
  | _ => none }
def SuperWritesWrongFalsely : Prop := superWritesRow.holds Try.pinned (OpenSpec.ofChange superWritesWrong)

/-- 'trencherlaw08.HeadWords': WHATEVER THE INPUT: true; the input reads as it did. -/
def headWordsSpec : ChangeSpec := { name := "headWords", fn := fun _ => fun
  | [d] => { results := [.lit (.bool true)], args := [d] }
  | _ => none }
def headWordsRow : OpenClaim := { program := "ytpmbjlmplfejgaa", sum := "a8e1fd5daf67688414792c18081274c439ff3ae7a83a7220850fc385882c17b8", func := "trencher/trencherlaw08.HeadWords", spec := "headWords", unfollowed := true, recurses := true, apart := false }
def HeadWordsSaid : Prop := headWordsRow.holds Try.pinned (OpenSpec.ofChange headWordsSpec)

/-- ITS FALSE NEIGHBOUR: 'it returns false'. Refute it at one input. -/
def headWordsWrong : ChangeSpec := { name := "headWords", fn := fun _ => fun
  | [d] => { results := [.lit (.bool false)], args := [d] }
  | _ => none }
def HeadWordsWrongFalsely : Prop := headWordsRow.holds Try.pinned (OpenSpec.ofChange headWordsWrong)

/-- 'trencherlaw08.HeadReads': WHATEVER THE INPUT: true; the input reads as it did. -/
def headReadsSpec : ChangeSpec := { name := "headReads", fn := fun _ => fun
  | [d1, d2] => { results := [.lit (.bool true)], args := [d1, d2] }
  | _ => none }
def headReadsRow : OpenClaim := { program := "ytpmbjlmplfejgaa", sum := "a8e1fd5daf67688414792c18081274c439ff3ae7a83a7220850fc385882c17b8", func := "trencher/trencherlaw08.HeadReads", spec := "headReads", unfollowed := true, recurses := true, apart := false }
def HeadReadsSaid : Prop := headReadsRow.holds Try.pinned (OpenSpec.ofChange headReadsSpec)

/-- ITS FALSE NEIGHBOUR: 'it returns false'. Refute it at one input. -/
def headReadsWrong : ChangeSpec := { name := "headReads", fn := fun _ => fun
  | [d1, d2] => { results := [.lit (.bool false)], args := [d1, d2] }
  | _ => none }
def HeadReadsWrongFalsely : Prop := headReadsRow.holds Try.pinned (OpenSpec.ofChange headReadsWrong)

/-- 'trencherlaw10.EntryWords': WHATEVER THE INPUT: true; the input reads as it did. -/
def entryWordsSpec : ChangeSpec := { name := "entryWords", fn := fun _ => fun
  | [d1, d2] => { results := [.lit (.bool true)], args := [d1, d2] }
  | _ => none }
def entryWordsRow : OpenClaim := { program := "ytpmbjlmplfejgaa", sum := "a8e1fd5daf67688414792c18081274c439ff3ae7a83a7220850fc385882c17b8", func := "trencher/trencherlaw10.EntryWords", spec := "entryWords", unfollowed := true, recurses := true, apart := false }
def EntryWordsSaid : Prop := entryWordsRow.holds Try.pinned (OpenSpec.ofChange entryWordsSpec)

/-- ITS FALSE NEIGHBOUR: 'it returns false'. Refute it at one input. -/
def entryWordsWrong : ChangeSpec := { name := "entryWords", fn := fun _ => fun
  | [d1, d2] => { results := [.lit (.bool false)], args := [d1, d2] }
  | _ => none }
def EntryWordsWrongFalsely : Prop := entryWordsRow.holds Try.pinned (OpenSpec.ofChange entryWordsWrong)

/-- 'trencherlaw10.EntryReads': WHATEVER THE INPUT: true; the input reads as it did. -/
def entryReadsSpec : ChangeSpec := { name := "entryReads", fn := fun _ => fun
  | [d1, d2] => { results := [.lit (.bool true)], args := [d1, d2] }
  | _ => none }
def entryReadsRow : OpenClaim := { program := "ytpmbjlmplfejgaa", sum := "a8e1fd5daf67688414792c18081274c439ff3ae7a83a7220850fc385882c17b8", func := "trencher/trencherlaw10.EntryReads", spec := "entryReads", unfollowed := true, recurses := true, apart := false }
def EntryReadsSaid : Prop := entryReadsRow.holds Try.pinned (OpenSpec.ofChange entryReadsSpec)

/-- ITS FALSE NEIGHBOUR: 'it returns false'. Refute it at one input. -/
def entryReadsWrong : ChangeSpec := { name := "entryReads", fn := fun _ => fun
  | [d1, d2] => { results := [.lit (.bool false)], args := [d1, d2] }
  | _ => none }
def EntryReadsWrongFalsely : Prop := entryReadsRow.holds Try.pinned (OpenSpec.ofChange entryReadsWrong)

/-- 'trencherlaw10.EntryTurned': WHATEVER THE INPUT: true; the input reads as it did. -/
def entryTurnedSpec : ChangeSpec := { name := "entryTurned", fn := fun _ => fun
  | [d1, d2, d3] => { results := [.lit (.bool true)], args := [d1, d2, d3] }
  | _ => none }
def entryTurnedRow : OpenClaim := { program := "ytpmbjlmplfejgaa", sum := "a8e1fd5daf67688414792c18081274c439ff3ae7a83a7220850fc385882c17b8", func := "trencher/trencherlaw10.EntryTurned", spec := "entryTurned", unfollowed := true, recurses := true, apart := false }
def EntryTurnedSaid : Prop := entryTurnedRow.holds Try.pinned (OpenSpec.ofChange entryTurnedSpec)

/-- ITS FALSE NEIGHBOUR: 'it returns false'. Refute it at one input. -/
def entryTurnedWrong : ChangeSpec := { name := "entryTurned", fn := fun _ => fun
  | [d1, d2, d3] => { results := [.lit (.bool false)], args := [d1, d2, d3] }
  | _ => none }
def EntryTurnedWrongFalsely : Prop := entryTurnedRow.holds Try.pinned (OpenSpec.ofChange entryTurnedWrong)

/-- 'trencherlaw07.SuperReads': WHATEVER THE INPUT: true; the input reads as it did. -/
def superReadsSpec : ChangeSpec := { name := "superReads", fn := fun _ => fun
  | [d] => { results := [.lit (.bool true)], args := [d] }
  | _ => none }
def superReadsRow : OpenClaim := { program := "ytpmbjlmplfejgaa", sum := "a8e1fd5daf67688414792c18081274c439ff3ae7a83a7220850fc385882c17b8", func := "trencher/trencherlaw07.SuperReads", spec := "superReads", unfollowed := true, recurses := true, apart := false }
def SuperReadsSaid : Prop := superReadsRow.holds Try.pinned (OpenSpec.ofChange superReadsSpec)

/-- ITS FALSE NEIGHBOUR: 'it returns false'. Refute it at one input. -/
def superReadsWrong : ChangeSpec := { name := "superReads", fn := fun _ => fun
  | [d] => { results := [.lit (.bool false)], args := [d] }
  | _ => none }
def SuperReadsWrongFalsely : Prop := superReadsRow.holds Try.pinned (OpenSpec.ofChange superReadsWrong)

/-- 'trencherlaw07.SuperTurned': WHATEVER THE INPUT: true; the input reads as it did. -/
def superTurnedSpec : ChangeSpec := { name := "superTurned", fn := fun _ => fun
  | [d1, d2, d3, d4] => { results := [.lit (.bool true)], args := [d1, d2, d3, d4] }
  | _ => none }
def superTurnedRow : OpenClaim := { program := "ytpmbjlmplfejgaa", sum := "a8e1fd5daf67688414792c18081274c439ff3ae7a83a7220850fc385882c17b8", func := "trencher/trencherlaw07.SuperTurned", spec := "superTurned", unfollowed := true, recurses := true, apart := false }
def SuperTurnedSaid : Prop := superTurnedRow.holds Try.pinned (OpenSpec.ofChange superTurnedSpec)

/-- ITS FALSE NEIGHBOUR: 'it returns false'. Refute it at one input. -/
def superTurnedWrong : ChangeSpec := { name := "superTurned", fn := fun _ => fun
  | [d1, d2, d3, d4] => { results := [.lit (.bool false)], args := [d1, d2, d3, d4] }
  | _ => none }
def SuperTurnedWrongFalsely : Prop := superTurnedRow.holds Try.pinned (OpenSpec.ofChange superTurnedWrong)

/-- 'trencherlaw10.EntryLast': WHATEVER THE INPUT: true; the input reads as it did. -/
def entryLastSpec : ChangeSpec := { name := "entryLast", fn := fun _ => fun
  | [d] => { results := [.lit (.bool true)], args := [d] }
  | _ => none }
def entryLastRow : OpenClaim := { program := "ytpmbjlmplfejgaa", sum := "a8e1fd5daf67688414792c18081274c439ff3ae7a83a7220850fc385882c17b8", func := "trencher/trencherlaw10.EntryLast", spec := "entryLast", unfollowed := true, recurses := true, apart := false }
def EntryLastSaid : Prop := entryLastRow.holds Try.pinned (OpenSpec.ofChange entryLastSpec)

/-- ITS FALSE NEIGHBOUR: 'it returns false'. Refute it at one input. -/
def entryLastWrong : ChangeSpec := { name := "entryLast", fn := fun _ => fun
  | [d] => { results := [.lit (.bool false)], args := [d] }
  | _ => none }
def EntryLastWrongFalsely : Prop := entryLastRow.holds Try.pinned (OpenSpec.ofChange entryLastWrong)

/-- 'trencherlaw11.AddrSpots': WHATEVER THE INPUT: true; the input reads as it did. -/
def addrSpotsSpec : ChangeSpec := { name := "addrSpots", fn := fun _ => fun
  | [d1, d2, d3, d4, d5] => { results := [.lit (.bool true)], args := [d1, d2, d3, d4, d5] }
  | _ => none }
def addrSpotsRow : OpenClaim := { program := "ytpmbjlmplfejgaa", sum := "a8e1fd5daf67688414792c18081274c439ff3ae7a83a7220850fc385882c17b8", func := "trencher/trencherlaw11.AddrSpots", spec := "addrSpots", unfollowed := true, recurses := true, apart := false }
def AddrSpotsSaid : Prop := addrSpotsRow.holds Try.pinned (OpenSpec.ofChange addrSpotsSpec)

/-- ITS FALSE NEIGHBOUR: 'it returns false'. Refute it at one input. -/
def addrSpotsWrong : ChangeSpec := { name := "addrSpots", fn := fun _ => fun
  | [d1, d2, d3, d4, d5] => { results := [.lit (.bool false)], args := [d1, d2, d3, d4, d5] }
  | _ => none }
def AddrSpotsWrongFalsely : Prop := addrSpotsRow.holds Try.pinned (OpenSpec.ofChange addrSpotsWrong)

/-- 'trencherlaw11.AddrAll': WHATEVER THE INPUT: true; the input reads as it did. -/
def addrAllSpec : ChangeSpec := { name := "addrAll", fn := fun _ => fun
  | [d1, d2] => { results := [.lit (.bool true)], args := [d1, d2] }
  | _ => none }
def addrAllRow : OpenClaim := { program := "ytpmbjlmplfejgaa", sum := "a8e1fd5daf67688414792c18081274c439ff3ae7a83a7220850fc385882c17b8", func := "trencher/trencherlaw11.AddrAll", spec := "addrAll", unfollowed := true, recurses := true, apart := false }
def AddrAllSaid : Prop := addrAllRow.holds Try.pinned (OpenSpec.ofChange addrAllSpec)

/-- ITS FALSE NEIGHBOUR: 'it returns false'. Refute it at one input. -/
def addrAllWrong : ChangeSpec := { name := "addrAll", fn := fun _ => fun
  | [d1, d2] => { results := [.lit (.bool false)], args := [d1, d2] }
  | _ => none }
def AddrAllWrongFalsely : Prop := addrAllRow.holds Try.pinned (OpenSpec.ofChange addrAllWrong)

/-- 'trencherlaw12.ImageReplays': WHATEVER THE INPUT: true; the input reads as it did. -/
def imageReplaysSpec : ChangeSpec := { name := "imageReplays", fn := fun _ => fun
  | [d] => { results := [.lit (.bool true)], args := [d] }
  | _ => none }
def imageReplaysRow : OpenClaim := { program := "ytpmbjlmplfejgaa", sum := "a8e1fd5daf67688414792c18081274c439ff3ae7a83a7220850fc385882c17b8", func := "trencher/trencherlaw12.ImageReplays", spec := "imageReplays", unfollowed := true, recurses := true, apart := false }
def ImageReplaysSaid : Prop := imageReplaysRow.holds Try.pinned (OpenSpec.ofChange imageReplaysSpec)

/-- ITS FALSE NEIGHBOUR: 'it returns false'. Refute it at one input. -/
def imageReplaysWrong : ChangeSpec := { name := "imageReplays", fn := fun _ => fun
  | [d] => { results := [.lit (.bool false)], args := [d] }
  | _ => none }
def ImageReplaysWrongFalsely : Prop := imageReplaysRow.holds Try.pinned (OpenSpec.ofChange imageReplaysWrong)

/-- 'trencherlaw12.ImageApart': WHATEVER THE INPUT: true; the input reads as it did. -/
def imageApartSpec : ChangeSpec := { name := "imageApart", fn := fun _ => fun
  | [d1, d2] => { results := [.lit (.bool true)], args := [d1, d2] }
  | _ => none }
def imageApartRow : OpenClaim := { program := "ytpmbjlmplfejgaa", sum := "a8e1fd5daf67688414792c18081274c439ff3ae7a83a7220850fc385882c17b8", func := "trencher/trencherlaw12.ImageApart", spec := "imageApart", unfollowed := true, recurses := true, apart := false }
def ImageApartSaid : Prop := imageApartRow.holds Try.pinned (OpenSpec.ofChange imageApartSpec)

/-- ITS FALSE NEIGHBOUR: 'it returns false'. Refute it at one input. -/
def imageApartWrong : ChangeSpec := { name := "imageApart", fn := fun _ => fun
  | [d1, d2] => { results := [.lit (.bool false)], args := [d1, d2] }
  | _ => none }
def ImageApartWrongFalsely : Prop := imageApartRow.holds Try.pinned (OpenSpec.ofChange imageApartWrong)

/-- 'trencherlaw12.ImageFresh': WHATEVER THE INPUT: true; the input reads as it did. -/
def imageFreshSpec : ChangeSpec := { name := "imageFresh", fn := fun _ => fun
  | [d] => { results := [.lit (.bool true)], args := [d] }
  | _ => none }
def imageFreshRow : OpenClaim := { program := "ytpmbjlmplfejgaa", sum := "a8e1fd5daf67688414792c18081274c439ff3ae7a83a7220850fc385882c17b8", func := "trencher/trencherlaw12.ImageFresh", spec := "imageFresh", unfollowed := true, recurses := true, apart := false }
def ImageFreshSaid : Prop := imageFreshRow.holds Try.pinned (OpenSpec.ofChange imageFreshSpec)

/-- ITS FALSE NEIGHBOUR: 'it returns false'. Refute it at one input. -/
def imageFreshWrong : ChangeSpec := { name := "imageFresh", fn := fun _ => fun
  | [d] => { results := [.lit (.bool false)], args := [d] }
  | _ => none }
def ImageFreshWrongFalsely : Prop := imageFreshRow.holds Try.pinned (OpenSpec.ofChange imageFreshWrong)

/-- 'trencherlaw12.ImageTells': WHATEVER THE INPUT: true; the input reads as it did. -/
def imageTellsSpec : ChangeSpec := { name := "imageTells", fn := fun _ => fun
  | [d1, d2, d3] => { results := [.lit (.bool true)], args := [d1, d2, d3] }
  | _ => none }
def imageTellsRow : OpenClaim := { program := "ytpmbjlmplfejgaa", sum := "a8e1fd5daf67688414792c18081274c439ff3ae7a83a7220850fc385882c17b8", func := "trencher/trencherlaw12.ImageTells", spec := "imageTells", unfollowed := true, recurses := true, apart := false }
def ImageTellsSaid : Prop := imageTellsRow.holds Try.pinned (OpenSpec.ofChange imageTellsSpec)

/-- ITS FALSE NEIGHBOUR: 'it returns false'. Refute it at one input. -/
def imageTellsWrong : ChangeSpec := { name := "imageTells", fn := fun _ => fun
  | [d1, d2, d3] => { results := [.lit (.bool false)], args := [d1, d2, d3] }
  | _ => none }
def ImageTellsWrongFalsely : Prop := imageTellsRow.holds Try.pinned (OpenSpec.ofChange imageTellsWrong)

/-- 'trencherlaw18.HeapMoves': WHATEVER THE INPUT: true; the input reads as it did. -/
def heapMovesSpec : ChangeSpec := { name := "heapMoves", fn := fun _ => fun
  | [d1, d2, d3] => { results := [.lit (.bool true)], args := [d1, d2, d3] }
  | _ => none }
def heapMovesRow : OpenClaim := { program := "ytpmbjlmplfejgaa", sum := "a8e1fd5daf67688414792c18081274c439ff3ae7a83a7220850fc385882c17b8", func := "trencher/trencherlaw18.HeapMoves", spec := "heapMoves", unfollowed := true, recurses := true, apart := false }
def HeapMovesSaid : Prop := heapMovesRow.holds Try.pinned (OpenSpec.ofChange heapMovesSpec)

/-- ITS FALSE NEIGHBOUR: 'it returns false'. Refute it at one input. -/
def heapMovesWrong : ChangeSpec := { name := "heapMoves", fn := fun _ => fun
  | [d1, d2, d3] => { results := [.lit (.bool false)], args := [d1, d2, d3] }
  | _ => none }
def HeapMovesWrongFalsely : Prop := heapMovesRow.holds Try.pinned (OpenSpec.ofChange heapMovesWrong)

/-- 'trencherlaw18.HeapOnce': WHATEVER THE INPUT: true; the input reads as it did. -/
def heapOnceSpec : ChangeSpec := { name := "heapOnce", fn := fun _ => fun
  | [d1, d2] => { results := [.lit (.bool true)], args := [d1, d2] }
  | _ => none }
def heapOnceRow : OpenClaim := { program := "ytpmbjlmplfejgaa", sum := "a8e1fd5daf67688414792c18081274c439ff3ae7a83a7220850fc385882c17b8", func := "trencher/trencherlaw18.HeapOnce", spec := "heapOnce", unfollowed := true, recurses := true, apart := false }
def HeapOnceSaid : Prop := heapOnceRow.holds Try.pinned (OpenSpec.ofChange heapOnceSpec)

/-- ITS FALSE NEIGHBOUR: 'it returns false'. Refute it at one input. -/
def heapOnceWrong : ChangeSpec := { name := "heapOnce", fn := fun _ => fun
  | [d1, d2] => { results := [.lit (.bool false)], args := [d1, d2] }
  | _ => none }
def HeapOnceWrongFalsely : Prop := heapOnceRow.holds Try.pinned (OpenSpec.ofChange heapOnceWrong)

/- THE SECOND FORM. 'bulk': how many values and letters a reading holds, each counted each time it is reached (what is shared counts as often as it is met; a slice's spare places count too). A statement '..UptoSaid' is the law's where the arguments, and the package variables that the reading takes, are together of bulk at most 1048576: NARROWER than '..Said'. Prove '..Said' where nothing that the law and all that it calls make is longer than what came in: it says more and counts as full. Else prove '..UptoSaid'. A law counts once. -/
mutual
def uptoBulk {H : Type} : DataW H → Nat
  | .lit (.string bytes) => bytes.length + 1
  | .lit _ => 1
  | .nil => 1
  | .ptr d => uptoBulk d + 1
  | .slice elems spare => uptoBulkAll elems + uptoBulkAll spare + 1
  | .agg parts => uptoBulkAll parts + 1
  | .iface _ d => uptoBulk d + 1
  | .map entries => uptoBulkEntries entries + 1
  | .held _ => 1
def uptoBulkAll {H : Type} : List (DataW H) → Nat
  | [] => 0
  | d :: r => uptoBulk d + uptoBulkAll r
def uptoBulkEntries {H : Type} : List (Lit × DataW H) → Nat
  | [] => 0
  | x :: r => uptoBulkEntry x + uptoBulkEntries r
def uptoBulkEntry {H : Type} : Lit × DataW H → Nat
  | (.string bytes, d) => bytes.length + uptoBulk d + 1
  | (_, d) => uptoBulk d + 1
 end
def uptoSmall : (H : Type) → List (DataW H) → Bool := fun _ ds => decide (uptoBulkAll ds ≤ 1048576)
def OpenSpec.upto (s : _root_.Go.ChangeSpec) : _root_.Go.OpenSpec := { _root_.Go.OpenSpec.ofChange s with cond := some uptoSmall }

/-- 'trencherlaw03.SumBytes', WHERE WHAT IT READS IS OF BULK AT MOST 1048576: true; the input reads as it did. -/
def sumBytesUptoRow : OpenClaim := { program := "ytpmbjlmplfejgaa", sum := "a8e1fd5daf67688414792c18081274c439ff3ae7a83a7220850fc385882c17b8", func := "trencher/trencherlaw03.SumBytes", spec := "sumBytes", apart := false, narrowed := true }
def SumBytesUptoSaid : Prop := sumBytesUptoRow.holds Try.pinned (OpenSpec.upto sumBytesSpec)

/-- 'trencherlaw03.SumWords', WHERE WHAT IT READS IS OF BULK AT MOST 1048576: true; the input reads as it did. -/
def sumWordsUptoRow : OpenClaim := { program := "ytpmbjlmplfejgaa", sum := "a8e1fd5daf67688414792c18081274c439ff3ae7a83a7220850fc385882c17b8", func := "trencher/trencherlaw03.SumWords", spec := "sumWords", apart := false, narrowed := true }
def SumWordsUptoSaid : Prop := sumWordsUptoRow.holds Try.pinned (OpenSpec.upto sumWordsSpec)

/-- 'trencherlaw03.SumTurned', WHERE WHAT IT READS IS OF BULK AT MOST 1048576: true; the input reads as it did. -/
def sumTurnedUptoRow : OpenClaim := { program := "ytpmbjlmplfejgaa", sum := "a8e1fd5daf67688414792c18081274c439ff3ae7a83a7220850fc385882c17b8", func := "trencher/trencherlaw03.SumTurned", spec := "sumTurned", apart := false, narrowed := true }
def SumTurnedUptoSaid : Prop := sumTurnedUptoRow.holds Try.pinned (OpenSpec.upto sumTurnedSpec)

/-- 'trencherlaw07.SuperWrites', WHERE WHAT IT READS IS OF BULK AT MOST 1048576: true; the input reads as it did. -/
def superWritesUptoRow : OpenClaim := { program := "ytpmbjlmplfejgaa", sum := "a8e1fd5daf67688414792c18081274c439ff3ae7a83a7220850fc385882c17b8", func := "trencher/trencherlaw07.SuperWrites", spec := "superWrites", unfollowed := true, recurses := true, apart := false, narrowed := true }
def SuperWritesUptoSaid : Prop := superWritesUptoRow.holds Try.pinned (OpenSpec.upto superWritesSpec)

/-- 'trencherlaw08.HeadWords', WHERE WHAT IT READS IS OF BULK AT MOST 1048576: true; the input reads as it did. -/
def headWordsUptoRow : OpenClaim := { program := "ytpmbjlmplfejgaa", sum := "a8e1fd5daf67688414792c18081274c439ff3ae7a83a7220850fc385882c17b8", func := "trencher/trencherlaw08.HeadWords", spec := "headWords", unfollowed := true, recurses := true, apart := false, narrowed := true }
def HeadWordsUptoSaid : Prop := headWordsUptoRow.holds Try.pinned (OpenSpec.upto headWordsSpec)

/-- 'trencherlaw08.HeadReads', WHERE WHAT IT READS IS OF BULK AT MOST 1048576: true; the input reads as it did. -/
def headReadsUptoRow : OpenClaim := { program := "ytpmbjlmplfejgaa", sum := "a8e1fd5daf67688414792c18081274c439ff3ae7a83a7220850fc385882c17b8", func := "trencher/trencherlaw08.HeadReads", spec := "headReads", unfollowed := true, recurses := true, apart := false, narrowed := true }
def HeadReadsUptoSaid : Prop := headReadsUptoRow.holds Try.pinned (OpenSpec.upto headReadsSpec)

/-- 'trencherlaw10.EntryWords', WHERE WHAT IT READS IS OF BULK AT MOST 1048576: true; the input reads as it did. -/
def entryWordsUptoRow : OpenClaim := { program := "ytpmbjlmplfejgaa", sum := "a8e1fd5daf67688414792c18081274c439ff3ae7a83a7220850fc385882c17b8", func := "trencher/trencherlaw10.EntryWords", spec := "entryWords", unfollowed := true, recurses := true, apart := false, narrowed := true }
def EntryWordsUptoSaid : Prop := entryWordsUptoRow.holds Try.pinned (OpenSpec.upto entryWordsSpec)

/-- 'trencherlaw10.EntryReads', WHERE WHAT IT READS IS OF BULK AT MOST 1048576: true; the input reads as it did. -/
def entryReadsUptoRow : OpenClaim := { program := "ytpmbjlmplfejgaa", sum := "a8e1fd5daf67688414792c18081274c439ff3ae7a83a7220850fc385882c17b8", func := "trencher/trencherlaw10.EntryReads", spec := "entryReads", unfollowed := true, recurses := true, apart := false, narrowed := true }
def EntryReadsUptoSaid : Prop := entryReadsUptoRow.holds Try.pinned (OpenSpec.upto entryReadsSpec)

/-- 'trencherlaw10.EntryTurned', WHERE WHAT IT READS IS OF BULK AT MOST 1048576: true; the input reads as it did. -/
def entryTurnedUptoRow : OpenClaim := { program := "ytpmbjlmplfejgaa", sum := "a8e1fd5daf67688414792c18081274c439ff3ae7a83a7220850fc385882c17b8", func := "trencher/trencherlaw10.EntryTurned", spec := "entryTurned", unfollowed := true, recurses := true, apart := false, narrowed := true }
def EntryTurnedUptoSaid : Prop := entryTurnedUptoRow.holds Try.pinned (OpenSpec.upto entryTurnedSpec)

/-- 'trencherlaw07.SuperReads', WHERE WHAT IT READS IS OF BULK AT MOST 1048576: true; the input reads as it did. -/
def superReadsUptoRow : OpenClaim := { program := "ytpmbjlmplfejgaa", sum := "a8e1fd5daf67688414792c18081274c439ff3ae7a83a7220850fc385882c17b8", func := "trencher/trencherlaw07.SuperReads", spec := "superReads", unfollowed := true, recurses := true, apart := false, narrowed := true }
def SuperReadsUptoSaid : Prop := superReadsUptoRow.holds Try.pinned (OpenSpec.upto superReadsSpec)

/-- 'trencherlaw07.SuperTurned', WHERE WHAT IT READS IS OF BULK AT MOST 1048576: true; the input reads as it did. -/
def superTurnedUptoRow : OpenClaim := { program := "ytpmbjlmplfejgaa", sum := "a8e1fd5daf67688414792c18081274c439ff3ae7a83a7220850fc385882c17b8", func := "trencher/trencherlaw07.SuperTurned", spec := "superTurned", unfollowed := true, recurses := true, apart := false, narrowed := true }
def SuperTurnedUptoSaid : Prop := superTurnedUptoRow.holds Try.pinned (OpenSpec.upto superTurnedSpec)

/-- 'trencherlaw10.EntryLast', WHERE WHAT IT READS IS OF BULK AT MOST 1048576: true; the input reads as it did. -/
def entryLastUptoRow : OpenClaim := { program := "ytpmbjlmplfejgaa", sum := "a8e1fd5daf67688414792c18081274c439ff3ae7a83a7220850fc385882c17b8", func := "trencher/trencherlaw10.EntryLast", spec := "entryLast", unfollowed := true, recurses := true, apart := false, narrowed := true }
def EntryLastUptoSaid : Prop := entryLastUptoRow.holds Try.pinned (OpenSpec.upto entryLastSpec)

/-- 'trencherlaw11.AddrSpots', WHERE WHAT IT READS IS OF BULK AT MOST 1048576: true; the input reads as it did. -/
def addrSpotsUptoRow : OpenClaim := { program := "ytpmbjlmplfejgaa", sum := "a8e1fd5daf67688414792c18081274c439ff3ae7a83a7220850fc385882c17b8", func := "trencher/trencherlaw11.AddrSpots", spec := "addrSpots", unfollowed := true, recurses := true, apart := false, narrowed := true }
def AddrSpotsUptoSaid : Prop := addrSpotsUptoRow.holds Try.pinned (OpenSpec.upto addrSpotsSpec)

/-- 'trencherlaw11.AddrAll', WHERE WHAT IT READS IS OF BULK AT MOST 1048576: true; the input reads as it did. -/
def addrAllUptoRow : OpenClaim := { program := "ytpmbjlmplfejgaa", sum := "a8e1fd5daf67688414792c18081274c439ff3ae7a83a7220850fc385882c17b8", func := "trencher/trencherlaw11.AddrAll", spec := "addrAll", unfollowed := true, recurses := true, apart := false, narrowed := true }
def AddrAllUptoSaid : Prop := addrAllUptoRow.holds Try.pinned (OpenSpec.upto addrAllSpec)

/-- 'trencherlaw12.ImageReplays', WHERE WHAT IT READS IS OF BULK AT MOST 1048576: true; the input reads as it did. -/
def imageReplaysUptoRow : OpenClaim := { program := "ytpmbjlmplfejgaa", sum := "a8e1fd5daf67688414792c18081274c439ff3ae7a83a7220850fc385882c17b8", func := "trencher/trencherlaw12.ImageReplays", spec := "imageReplays", unfollowed := true, recurses := true, apart := false, narrowed := true }
def ImageReplaysUptoSaid : Prop := imageReplaysUptoRow.holds Try.pinned (OpenSpec.upto imageReplaysSpec)

/-- 'trencherlaw12.ImageApart', WHERE WHAT IT READS IS OF BULK AT MOST 1048576: true; the input reads as it did. -/
def imageApartUptoRow : OpenClaim := { program := "ytpmbjlmplfejgaa", sum := "a8e1fd5daf67688414792c18081274c439ff3ae7a83a7220850fc385882c17b8", func := "trencher/trencherlaw12.ImageApart", spec := "imageApart", unfollowed := true, recurses := true, apart := false, narrowed := true }
def ImageApartUptoSaid : Prop := imageApartUptoRow.holds Try.pinned (OpenSpec.upto imageApartSpec)

/-- 'trencherlaw12.ImageFresh', WHERE WHAT IT READS IS OF BULK AT MOST 1048576: true; the input reads as it did. -/
def imageFreshUptoRow : OpenClaim := { program := "ytpmbjlmplfejgaa", sum := "a8e1fd5daf67688414792c18081274c439ff3ae7a83a7220850fc385882c17b8", func := "trencher/trencherlaw12.ImageFresh", spec := "imageFresh", unfollowed := true, recurses := true, apart := false, narrowed := true }
def ImageFreshUptoSaid : Prop := imageFreshUptoRow.holds Try.pinned (OpenSpec.upto imageFreshSpec)

/-- 'trencherlaw12.ImageTells', WHERE WHAT IT READS IS OF BULK AT MOST 1048576: true; the input reads as it did. -/
def imageTellsUptoRow : OpenClaim := { program := "ytpmbjlmplfejgaa", sum := "a8e1fd5daf67688414792c18081274c439ff3ae7a83a7220850fc385882c17b8", func := "trencher/trencherlaw12.ImageTells", spec := "imageTells", unfollowed := true, recurses := true, apart := false, narrowed := true }
def ImageTellsUptoSaid : Prop := imageTellsUptoRow.holds Try.pinned (OpenSpec.upto imageTellsSpec)

/-- 'trencherlaw18.HeapMoves', WHERE WHAT IT READS IS OF BULK AT MOST 1048576: true; the input reads as it did. -/
def heapMovesUptoRow : OpenClaim := { program := "ytpmbjlmplfejgaa", sum := "a8e1fd5daf67688414792c18081274c439ff3ae7a83a7220850fc385882c17b8", func := "trencher/trencherlaw18.HeapMoves", spec := "heapMoves", unfollowed := true, recurses := true, apart := false, narrowed := true }
def HeapMovesUptoSaid : Prop := heapMovesUptoRow.holds Try.pinned (OpenSpec.upto heapMovesSpec)

/-- 'trencherlaw18.HeapOnce', WHERE WHAT IT READS IS OF BULK AT MOST 1048576: true; the input reads as it did. -/
def heapOnceUptoRow : OpenClaim := { program := "ytpmbjlmplfejgaa", sum := "a8e1fd5daf67688414792c18081274c439ff3ae7a83a7220850fc385882c17b8", func := "trencher/trencherlaw18.HeapOnce", spec := "heapOnce", unfollowed := true, recurses := true, apart := false, narrowed := true }
def HeapOnceUptoSaid : Prop := heapOnceUptoRow.holds Try.pinned (OpenSpec.upto heapOnceSpec)

end Rows
end Go.Proofs.Ytpmbjlmplfejgaa
