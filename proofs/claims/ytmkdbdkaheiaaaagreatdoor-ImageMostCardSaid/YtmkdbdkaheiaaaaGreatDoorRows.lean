/-
  NARROWER THAN 'FOR EVERY INPUT', by the rows' own cells (each row's printed sentence says how): ImageMost: laid · HostUpgrades: laid · HostOf: laid · ImageReads: laid · ImageGoes: laid · ImageBytes: laid.
  DERIVED. THE GIVEN ROWS OF THIS SEAT. 6 by the template 'for every input the law returns true; each argument reads behind the call as it read before'; 0 by the template 'total and deterministic' (their statements: YtmkdbdkaheiaaaaGreatDoorTotals.lean).
  GIVEN WITH THE SEED: the statements are not yours to turn. If you find one false, say at which input.
  Laid BY PROGRAM, IN A SANDBOX (cutbox-rows.mjs): the forced cells as the released guide's own fill.sh prints them over the translation 1b95880e14db982c… (all of the seat's roots in one cut). By AI agents, Wed Nov 11 2026. No macro, syntax, notation, axiom, sorry.
-/
import Derived.Test.YtmkdbdkaheiaaaaGreatDoorChecked
import GoSem.PinnedTables
import GoSem.Claim
import GoSem.ClaimJoined
import GoSem.ClaimMapViews
import Derived.JoinedTies
import Derived.KernelRfl
namespace Go.Proofs.YtmkdbdkaheiaaaaGreatDoor
/- THE CELL 'sum', in the pinned program and in every row, IS THE sha256 OF THE DUMP (.gsa) THAT YtmkdbdkaheiaaaaGreatDoorProg.lean LOADS. Nothing in Lean hashes anything: it is a label: what it is worth is what the hold of that sum in a sandbox is worth. -/
noncomputable def Tryz.pinned : Pinned := { name := "ytmkdbdkaheiaaaagreatdoor", sum := "1b95880e14db982cc995a59a7d0c9b46659431b162255809c3c60c8fc7f9cb47", checked := Tryz.checked }
namespace Rows
def none {H : Type} : Left H := { results := [], args := [] }

/- WHAT THE LISTED PACKAGE-LEVEL VARIABLES READ AS WHEN THE CALL BEGINS. Each datum BY PROGRAM (the guide's laid-datum.mjs) off the statement by which the dump's own 'gosem.cut.vars' lays the variable. In a bare row this is a premise. The card (YtmkdbdkaheiaaaaGreatDoorCards.lean) ties it to the program's text. -/
def laid_unicode_utf8_acceptRanges {H : Type} : DataW H := .agg [.agg [.lit (.int .u8 128), .lit (.int .u8 191)], .agg [.lit (.int .u8 160), .lit (.int .u8 191)], .agg [.lit (.int .u8 128), .lit (.int .u8 159)], .agg [.lit (.int .u8 144), .lit (.int .u8 191)], .agg [.lit (.int .u8 128), .lit (.int .u8 143)], .agg [.lit (.int .u8 0), .lit (.int .u8 0)], .agg [.lit (.int .u8 0), .lit (.int .u8 0)], .agg [.lit (.int .u8 0), .lit (.int .u8 0)], .agg [.lit (.int .u8 0), .lit (.int .u8 0)], .agg [.lit (.int .u8 0), .lit (.int .u8 0)], .agg [.lit (.int .u8 0), .lit (.int .u8 0)], .agg [.lit (.int .u8 0), .lit (.int .u8 0)], .agg [.lit (.int .u8 0), .lit (.int .u8 0)], .agg [.lit (.int .u8 0), .lit (.int .u8 0)], .agg [.lit (.int .u8 0), .lit (.int .u8 0)], .agg [.lit (.int .u8 0), .lit (.int .u8 0)]]
def laid_interrex_op_signs {H : Type} : DataW H := .agg [.lit (.string [97, 98]), .lit (.string [97]), .lit (.string [97, 98]), .lit (.string [97]), .lit (.string [97]), .lit (.string [97, 98]), .lit (.string [97]), .lit (.string [97]), .lit (.string [97, 98]), .lit (.string [97]), .lit (.string [97]), .lit (.string [97, 98]), .lit (.string [97, 98]), .lit (.string [97]), .lit (.string [97]), .lit (.string []), .lit (.string [110, 114])]
/-- One of Go's own tables, pinned by name: the form's constant. -/
def laid_unicode_utf8_first : DataW Unit := Go.Pinned.utf8First

/-- 'interrexlaw18.ImageMost': WHATEVER THE INPUT: true; the input reads as it did. -/
def imageMostSpec : ChangeSpec := { name := "imageMost", fn := fun _ => fun
  | [d] => { results := [.lit (.bool true)], args := [d] }
  | _ => none }
def imageMostRow : OpenClaim := { program := "ytmkdbdkaheiaaaagreatdoor", sum := "1b95880e14db982cc995a59a7d0c9b46659431b162255809c3c60c8fc7f9cb47", func := "interrex/interrexlaw18.ImageMost", spec := "imageMost", inPlace := ["internal/bytealg.IndexByteString", "internal/bytealg.IndexString", "internal/bytealg.CountString"], unfollowed := true, recurses := true, named := ["internal/bytealg.MaxLen", "unicode/utf8.first", "unicode/utf8.acceptRanges", "interrex/op.signs"], apart := false, laid := [("unicode/utf8.acceptRanges", laid_unicode_utf8_acceptRanges), ("interrex/op.signs", laid_interrex_op_signs), ("unicode/utf8.first", laid_unicode_utf8_first)] }
def ImageMostSaid : Prop := imageMostRow.holds Tryz.pinned (OpenSpec.ofChange imageMostSpec)

/-- ITS FALSE NEIGHBOUR: 'it returns false'. Refute it at one input. -/
def imageMostWrong : ChangeSpec := { name := "imageMost", fn := fun _ => fun
  | [d] => { results := [.lit (.bool false)], args := [d] }
  | _ => none }
def ImageMostWrongFalsely : Prop := imageMostRow.holds Tryz.pinned (OpenSpec.ofChange imageMostWrong)

/-- 'interrexlaw17.HostUpgrades': WHATEVER THE INPUT: true; the input reads as it did. -/
def hostUpgradesSpec : ChangeSpec := { name := "hostUpgrades", fn := fun _ => fun
  | [d] => { results := [.lit (.bool true)], args := [d] }
  | _ => none }
def hostUpgradesRow : OpenClaim := { program := "ytmkdbdkaheiaaaagreatdoor", sum := "1b95880e14db982cc995a59a7d0c9b46659431b162255809c3c60c8fc7f9cb47", func := "interrex/interrexlaw17.HostUpgrades", spec := "hostUpgrades", inPlace := ["internal/bytealg.IndexByteString", "internal/bytealg.IndexString", "internal/bytealg.CountString", "maps.clone"], unfollowed := true, recurses := true, named := ["interrex/op.signs", "internal/bytealg.MaxLen", "unicode/utf8.first", "unicode/utf8.acceptRanges"], apart := false, laid := [("unicode/utf8.acceptRanges", laid_unicode_utf8_acceptRanges), ("interrex/op.signs", laid_interrex_op_signs), ("unicode/utf8.first", laid_unicode_utf8_first)] }
def HostUpgradesSaid : Prop := hostUpgradesRow.holds Tryz.pinned (OpenSpec.ofChange hostUpgradesSpec)

/-- ITS FALSE NEIGHBOUR: 'it returns false'. Refute it at one input. -/
def hostUpgradesWrong : ChangeSpec := { name := "hostUpgrades", fn := fun _ => fun
  | [d] => { results := [.lit (.bool false)], args := [d] }
  | _ => none }
def HostUpgradesWrongFalsely : Prop := hostUpgradesRow.holds Tryz.pinned (OpenSpec.ofChange hostUpgradesWrong)

/-- 'interrexlaw17.HostOf': WHATEVER THE INPUT: true; the input reads as it did. -/
def hostOfSpec : ChangeSpec := { name := "hostOf", fn := fun _ => fun
  | [d1, d2, d3] => { results := [.lit (.bool true)], args := [d1, d2, d3] }
  | _ => none }
def hostOfRow : OpenClaim := { program := "ytmkdbdkaheiaaaagreatdoor", sum := "1b95880e14db982cc995a59a7d0c9b46659431b162255809c3c60c8fc7f9cb47", func := "interrex/interrexlaw17.HostOf", spec := "hostOf", inPlace := ["internal/bytealg.IndexByteString", "internal/bytealg.IndexString", "internal/bytealg.CountString", "maps.clone"], unfollowed := true, recurses := true, named := ["interrex/op.signs", "internal/bytealg.MaxLen", "unicode/utf8.first", "unicode/utf8.acceptRanges"], apart := false, laid := [("unicode/utf8.acceptRanges", laid_unicode_utf8_acceptRanges), ("interrex/op.signs", laid_interrex_op_signs), ("unicode/utf8.first", laid_unicode_utf8_first)] }
def HostOfSaid : Prop := hostOfRow.holds Tryz.pinned (OpenSpec.ofChange hostOfSpec)

/-- ITS FALSE NEIGHBOUR: 'it returns false'. Refute it at one input. -/
def hostOfWrong : ChangeSpec := { name := "hostOf", fn := fun _ => fun
  | [d1, d2, d3] => { results := [.lit (.bool false)], args := [d1, d2, d3] }
  | _ => none }
def HostOfWrongFalsely : Prop := hostOfRow.holds Tryz.pinned (OpenSpec.ofChange hostOfWrong)

/-- 'interrexlaw18.ImageReads': WHATEVER THE INPUT: true; the input reads as it did. -/
def imageReadsSpec : ChangeSpec := { name := "imageReads", fn := fun _ => fun
  | [d] => { results := [.lit (.bool true)], args := [d] }
  | _ => none }
def imageReadsRow : OpenClaim := { program := "ytmkdbdkaheiaaaagreatdoor", sum := "1b95880e14db982cc995a59a7d0c9b46659431b162255809c3c60c8fc7f9cb47", func := "interrex/interrexlaw18.ImageReads", spec := "imageReads", inPlace := ["internal/bytealg.IndexByteString", "internal/bytealg.IndexString", "internal/bytealg.CountString"], unfollowed := true, recurses := true, named := ["internal/bytealg.MaxLen", "unicode/utf8.first", "unicode/utf8.acceptRanges", "interrex/op.signs"], apart := false, laid := [("unicode/utf8.acceptRanges", laid_unicode_utf8_acceptRanges), ("interrex/op.signs", laid_interrex_op_signs), ("unicode/utf8.first", laid_unicode_utf8_first)] }
def ImageReadsSaid : Prop := imageReadsRow.holds Tryz.pinned (OpenSpec.ofChange imageReadsSpec)

/-- ITS FALSE NEIGHBOUR: 'it returns false'. Refute it at one input. -/
def imageReadsWrong : ChangeSpec := { name := "imageReads", fn := fun _ => fun
  | [d] => { results := [.lit (.bool false)], args := [d] }
  | _ => none }
def ImageReadsWrongFalsely : Prop := imageReadsRow.holds Tryz.pinned (OpenSpec.ofChange imageReadsWrong)

/-- 'interrexlaw18.ImageGoes': WHATEVER THE INPUT: true; the input reads as it did. -/
def imageGoesSpec : ChangeSpec := { name := "imageGoes", fn := fun _ => fun
  | [d1, d2] => { results := [.lit (.bool true)], args := [d1, d2] }
  | _ => none }
def imageGoesRow : OpenClaim := { program := "ytmkdbdkaheiaaaagreatdoor", sum := "1b95880e14db982cc995a59a7d0c9b46659431b162255809c3c60c8fc7f9cb47", func := "interrex/interrexlaw18.ImageGoes", spec := "imageGoes", inPlace := ["internal/bytealg.IndexByteString", "internal/bytealg.IndexString", "internal/bytealg.CountString", "sync/atomic.StoreUint32", "sync/atomic.LoadUint32", "(*internal/sync.Mutex).Lock", "internal/race.Disable", "sync/atomic.CompareAndSwapInt32", "internal/race.Enable", "internal/race.Acquire", "(*internal/sync.Mutex).lockSlow", "internal/sync.runtime_canSpin", "internal/sync.runtime_doSpin", "internal/sync.throw", "internal/sync.runtime_nanotime", "internal/sync.runtime_SemacquireMutex", "sync/atomic.AddInt32", "(*internal/sync.Mutex).Unlock", "internal/race.ReleaseMerge", "(*internal/sync.Mutex).unlockSlow", "internal/sync.fatal", "internal/sync.runtime_Semrelease"], unfollowed := true, recurses := true, named := ["internal/bytealg.MaxLen", "unicode/utf8.first", "unicode/utf8.acceptRanges", "interrex/op.signs"], apart := false, laid := [("unicode/utf8.acceptRanges", laid_unicode_utf8_acceptRanges), ("interrex/op.signs", laid_interrex_op_signs), ("unicode/utf8.first", laid_unicode_utf8_first)] }
def ImageGoesSaid : Prop := imageGoesRow.holds Tryz.pinned (OpenSpec.ofChange imageGoesSpec)

/-- ITS FALSE NEIGHBOUR: 'it returns false'. Refute it at one input. -/
def imageGoesWrong : ChangeSpec := { name := "imageGoes", fn := fun _ => fun
  | [d1, d2] => { results := [.lit (.bool false)], args := [d1, d2] }
  | _ => none }
def ImageGoesWrongFalsely : Prop := imageGoesRow.holds Tryz.pinned (OpenSpec.ofChange imageGoesWrong)

/-- 'interrexlaw18.ImageBytes': WHATEVER THE INPUT: true; the input reads as it did. -/
def imageBytesSpec : ChangeSpec := { name := "imageBytes", fn := fun _ => fun
  | [d1, d2] => { results := [.lit (.bool true)], args := [d1, d2] }
  | _ => none }
def imageBytesRow : OpenClaim := { program := "ytmkdbdkaheiaaaagreatdoor", sum := "1b95880e14db982cc995a59a7d0c9b46659431b162255809c3c60c8fc7f9cb47", func := "interrex/interrexlaw18.ImageBytes", spec := "imageBytes", inPlace := ["internal/bytealg.IndexByteString", "internal/bytealg.IndexString", "internal/bytealg.CountString", "sync/atomic.StoreUint32", "sync/atomic.LoadUint32", "(*internal/sync.Mutex).Lock", "internal/race.Disable", "sync/atomic.CompareAndSwapInt32", "internal/race.Enable", "internal/race.Acquire", "(*internal/sync.Mutex).lockSlow", "internal/sync.runtime_canSpin", "internal/sync.runtime_doSpin", "internal/sync.throw", "internal/sync.runtime_nanotime", "internal/sync.runtime_SemacquireMutex", "sync/atomic.AddInt32", "(*internal/sync.Mutex).Unlock", "internal/race.ReleaseMerge", "(*internal/sync.Mutex).unlockSlow", "internal/sync.fatal", "internal/sync.runtime_Semrelease"], unfollowed := true, recurses := true, named := ["internal/bytealg.MaxLen", "unicode/utf8.first", "unicode/utf8.acceptRanges", "interrex/op.signs"], apart := false, laid := [("unicode/utf8.acceptRanges", laid_unicode_utf8_acceptRanges), ("interrex/op.signs", laid_interrex_op_signs), ("unicode/utf8.first", laid_unicode_utf8_first)] }
def ImageBytesSaid : Prop := imageBytesRow.holds Tryz.pinned (OpenSpec.ofChange imageBytesSpec)

/-- ITS FALSE NEIGHBOUR: 'it returns false'. Refute it at one input. -/
def imageBytesWrong : ChangeSpec := { name := "imageBytes", fn := fun _ => fun
  | [d1, d2] => { results := [.lit (.bool false)], args := [d1, d2] }
  | _ => none }
def ImageBytesWrongFalsely : Prop := imageBytesRow.holds Tryz.pinned (OpenSpec.ofChange imageBytesWrong)

/- THE SECOND FORM. 'bulk': how many values and letters a reading holds, each counted each time it is reached (what is shared counts as often as it is met; a slice's spare places count too). A statement '..UptoSaid' is the law's where the arguments, and the package variables that the reading takes, are together of bulk at most 1048576: NARROWER than '..Said'. Prove '..Said' where nothing that the law and all that it calls make is longer than what came in: it says more and counts as full. Else prove '..UptoSaid'. A law counts once. -/
mutual
def uptoBulk {H : Type} : DataW H → Nat
  | .lit (.string bytes) => bytes.length + 1
  | .lit _ => 1
  | .nil => 1
  | .ptr d => uptoBulk d + 1
  | .slice elems spare => uptoBulkAll elems + uptoBulkAll spare + 1
  | .agg parts => uptoBulkAll parts + 1
  | .iface _ d => uptoBulk d + 1
  | .map entries => uptoBulkEntries entries + 1
  | .held _ => 1
def uptoBulkAll {H : Type} : List (DataW H) → Nat
  | [] => 0
  | d :: r => uptoBulk d + uptoBulkAll r
def uptoBulkEntries {H : Type} : List (Lit × DataW H) → Nat
  | [] => 0
  | x :: r => uptoBulkEntry x + uptoBulkEntries r
def uptoBulkEntry {H : Type} : Lit × DataW H → Nat
  | (.string bytes, d) => bytes.length + uptoBulk d + 1
  | (_, d) => uptoBulk d + 1
 end
def uptoSmall : (H : Type) → List (DataW H) → Bool := fun _ ds => decide (uptoBulkAll ds ≤ 1048576)
def OpenSpec.upto (s : _root_.Go.ChangeSpec) : _root_.Go.OpenSpec := { _root_.Go.OpenSpec.ofChange s with cond := some uptoSmall }

/-- 'interrexlaw18.ImageMost', WHERE WHAT IT READS IS OF BULK AT MOST 1048576: true; the input reads as it did. -/
def imageMostUptoRow : OpenClaim := { program := "ytmkdbdkaheiaaaagreatdoor", sum := "1b95880e14db982cc995a59a7d0c9b46659431b162255809c3c60c8fc7f9cb47", func := "interrex/interrexlaw18.ImageMost", spec := "imageMost", inPlace := ["internal/bytealg.IndexByteString", "internal/bytealg.IndexString", "internal/bytealg.CountString"], unfollowed := true, recurses := true, named := ["internal/bytealg.MaxLen", "unicode/utf8.first", "unicode/utf8.acceptRanges", "interrex/op.signs"], apart := false, laid := [("unicode/utf8.acceptRanges", laid_unicode_utf8_acceptRanges), ("interrex/op.signs", laid_interrex_op_signs), ("unicode/utf8.first", laid_unicode_utf8_first)], narrowed := true }
def ImageMostUptoSaid : Prop := imageMostUptoRow.holds Tryz.pinned (OpenSpec.upto imageMostSpec)

/-- 'interrexlaw17.HostUpgrades', WHERE WHAT IT READS IS OF BULK AT MOST 1048576: true; the input reads as it did. -/
def hostUpgradesUptoRow : OpenClaim := { program := "ytmkdbdkaheiaaaagreatdoor", sum := "1b95880e14db982cc995a59a7d0c9b46659431b162255809c3c60c8fc7f9cb47", func := "interrex/interrexlaw17.HostUpgrades", spec := "hostUpgrades", inPlace := ["internal/bytealg.IndexByteString", "internal/bytealg.IndexString", "internal/bytealg.CountString", "maps.clone"], unfollowed := true, recurses := true, named := ["interrex/op.signs", "internal/bytealg.MaxLen", "unicode/utf8.first", "unicode/utf8.acceptRanges"], apart := false, laid := [("unicode/utf8.acceptRanges", laid_unicode_utf8_acceptRanges), ("interrex/op.signs", laid_interrex_op_signs), ("unicode/utf8.first", laid_unicode_utf8_first)], narrowed := true }
def HostUpgradesUptoSaid : Prop := hostUpgradesUptoRow.holds Tryz.pinned (OpenSpec.upto hostUpgradesSpec)

/-- 'interrexlaw17.HostOf', WHERE WHAT IT READS IS OF BULK AT MOST 1048576: true; the input reads as it did. -/
def hostOfUptoRow : OpenClaim := { program := "ytmkdbdkaheiaaaagreatdoor", sum := "1b95880e14db982cc995a59a7d0c9b46659431b162255809c3c60c8fc7f9cb47", func := "interrex/interrexlaw17.HostOf", spec := "hostOf", inPlace := ["internal/bytealg.IndexByteString", "internal/bytealg.IndexString", "internal/bytealg.CountString", "maps.clone"], unfollowed := true, recurses := true, named := ["interrex/op.signs", "internal/bytealg.MaxLen", "unicode/utf8.first", "unicode/utf8.acceptRanges"], apart := false, laid := [("unicode/utf8.acceptRanges", laid_unicode_utf8_acceptRanges), ("interrex/op.signs", laid_interrex_op_signs), ("unicode/utf8.first", laid_unicode_utf8_first)], narrowed := true }
def HostOfUptoSaid : Prop := hostOfUptoRow.holds Tryz.pinned (OpenSpec.upto hostOfSpec)

/-- 'interrexlaw18.ImageReads', WHERE WHAT IT READS IS OF BULK AT MOST 1048576: true; the input reads as it did. -/
def imageReadsUptoRow : OpenClaim := { program := "ytmkdbdkaheiaaaagreatdoor", sum := "1b95880e14db982cc995a59a7d0c9b46659431b162255809c3c60c8fc7f9cb47", func := "interrex/interrexlaw18.ImageReads", spec := "imageReads", inPlace := ["internal/bytealg.IndexByteString", "internal/bytealg.IndexString", "internal/bytealg.CountString"], unfollowed := true, recurses := true, named := ["internal/bytealg.MaxLen", "unicode/utf8.first", "unicode/utf8.acceptRanges", "interrex/op.signs"], apart := false, laid := [("unicode/utf8.acceptRanges", laid_unicode_utf8_acceptRanges), ("interrex/op.signs", laid_interrex_op_signs), ("unicode/utf8.first", laid_unicode_utf8_first)], narrowed := true }
def ImageReadsUptoSaid : Prop := imageReadsUptoRow.holds Tryz.pinned (OpenSpec.upto imageReadsSpec)

/-- 'interrexlaw18.ImageGoes', WHERE WHAT IT READS IS OF BULK AT MOST 1048576: true; the input reads as it did. -/
def imageGoesUptoRow : OpenClaim := { program := "ytmkdbdkaheiaaaagreatdoor", sum := "1b95880e14db982cc995a59a7d0c9b46659431b162255809c3c60c8fc7f9cb47", func := "interrex/interrexlaw18.ImageGoes", spec := "imageGoes", inPlace := ["internal/bytealg.IndexByteString", "internal/bytealg.IndexString", "internal/bytealg.CountString", "sync/atomic.StoreUint32", "sync/atomic.LoadUint32", "(*internal/sync.Mutex).Lock", "internal/race.Disable", "sync/atomic.CompareAndSwapInt32", "internal/race.Enable", "internal/race.Acquire", "(*internal/sync.Mutex).lockSlow", "internal/sync.runtime_canSpin", "internal/sync.runtime_doSpin", "internal/sync.throw", "internal/sync.runtime_nanotime", "internal/sync.runtime_SemacquireMutex", "sync/atomic.AddInt32", "(*internal/sync.Mutex).Unlock", "internal/race.ReleaseMerge", "(*internal/sync.Mutex).unlockSlow", "internal/sync.fatal", "internal/sync.runtime_Semrelease"], unfollowed := true, recurses := true, named := ["internal/bytealg.MaxLen", "unicode/utf8.first", "unicode/utf8.acceptRanges", "interrex/op.signs"], apart := false, laid := [("unicode/utf8.acceptRanges", laid_unicode_utf8_acceptRanges), ("interrex/op.signs", laid_interrex_op_signs), ("unicode/utf8.first", laid_unicode_utf8_first)], narrowed := true }
def ImageGoesUptoSaid : Prop := imageGoesUptoRow.holds Tryz.pinned (OpenSpec.upto imageGoesSpec)

/-- 'interrexlaw18.ImageBytes', WHERE WHAT IT READS IS OF BULK AT MOST 1048576: true; the input reads as it did. -/
def imageBytesUptoRow : OpenClaim := { program := "ytmkdbdkaheiaaaagreatdoor", sum := "1b95880e14db982cc995a59a7d0c9b46659431b162255809c3c60c8fc7f9cb47", func := "interrex/interrexlaw18.ImageBytes", spec := "imageBytes", inPlace := ["internal/bytealg.IndexByteString", "internal/bytealg.IndexString", "internal/bytealg.CountString", "sync/atomic.StoreUint32", "sync/atomic.LoadUint32", "(*internal/sync.Mutex).Lock", "internal/race.Disable", "sync/atomic.CompareAndSwapInt32", "internal/race.Enable", "internal/race.Acquire", "(*internal/sync.Mutex).lockSlow", "internal/sync.runtime_canSpin", "internal/sync.runtime_doSpin", "internal/sync.throw", "internal/sync.runtime_nanotime", "internal/sync.runtime_SemacquireMutex", "sync/atomic.AddInt32", "(*internal/sync.Mutex).Unlock", "internal/race.ReleaseMerge", "(*internal/sync.Mutex).unlockSlow", "internal/sync.fatal", "internal/sync.runtime_Semrelease"], unfollowed := true, recurses := true, named := ["internal/bytealg.MaxLen", "unicode/utf8.first", "unicode/utf8.acceptRanges", "interrex/op.signs"], apart := false, laid := [("unicode/utf8.acceptRanges", laid_unicode_utf8_acceptRanges), ("interrex/op.signs", laid_interrex_op_signs), ("unicode/utf8.first", laid_unicode_utf8_first)], narrowed := true }
def ImageBytesUptoSaid : Prop := imageBytesUptoRow.holds Tryz.pinned (OpenSpec.upto imageBytesSpec)

end Rows
end Go.Proofs.YtmkdbdkaheiaaaaGreatDoor
