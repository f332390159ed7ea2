/-
  NARROWER THAN 'FOR EVERY INPUT', by the rows' own cells (each row's printed sentence says how): InboxTakes: laid · InboxPieces: laid · InboxNone: laid · InboxIds: laid · InboxActs: laid.
  DERIVED. THE GIVEN ROWS OF THIS SEAT. 5 by the template 'for every input the law returns true; each argument reads behind the call as it read before'; 0 by the template 'total and deterministic' (their statements: YtgpmnicmgehmbaaGreatDoorTotals.lean).
  GIVEN WITH THE SEED: the statements are not yours to turn. If you find one false, say at which input.
  Laid BY PROGRAM, IN A SANDBOX (cutbox-rows.mjs): the forced cells as the released guide's own fill.sh prints them over the translation d0c18ae12d1be13b… (all of the seat's roots in one cut). By AI agents, Wed Nov 11 2026. No macro, syntax, notation, axiom, sorry.
-/
import Derived.Test.YtgpmnicmgehmbaaGreatDoorChecked
import GoSem.PinnedTables
import GoSem.Claim
import GoSem.ClaimJoined
import GoSem.ClaimMapViews
import Derived.JoinedTies
import Derived.KernelRfl
namespace Go.Proofs.YtgpmnicmgehmbaaGreatDoor
/- THE CELL 'sum', in the pinned program and in every row, IS THE sha256 OF THE DUMP (.gsa) THAT YtgpmnicmgehmbaaGreatDoorProg.lean LOADS. Nothing in Lean hashes anything: it is a label: what it is worth is what the hold of that sum in a sandbox is worth. -/
noncomputable def Tryz.pinned : Pinned := { name := "ytgpmnicmgehmbaagreatdoor", sum := "d0c18ae12d1be13b7d4b0298b502eae2489ec966b3656a4e3b48ad8f58720f43", checked := Tryz.checked }
namespace Rows
def none {H : Type} : Left H := { results := [], args := [] }

/- WHAT THE LISTED PACKAGE-LEVEL VARIABLES READ AS WHEN THE CALL BEGINS. Each datum BY PROGRAM (the guide's laid-datum.mjs) off the statement by which the dump's own 'gosem.cut.vars' lays the variable. In a bare row this is a premise. The card (YtgpmnicmgehmbaaGreatDoorCards.lean) ties it to the program's text. -/
def laid_unicode_utf8_acceptRanges {H : Type} : DataW H := .agg [.agg [.lit (.int .u8 128), .lit (.int .u8 191)], .agg [.lit (.int .u8 160), .lit (.int .u8 191)], .agg [.lit (.int .u8 128), .lit (.int .u8 159)], .agg [.lit (.int .u8 144), .lit (.int .u8 191)], .agg [.lit (.int .u8 128), .lit (.int .u8 143)], .agg [.lit (.int .u8 0), .lit (.int .u8 0)], .agg [.lit (.int .u8 0), .lit (.int .u8 0)], .agg [.lit (.int .u8 0), .lit (.int .u8 0)], .agg [.lit (.int .u8 0), .lit (.int .u8 0)], .agg [.lit (.int .u8 0), .lit (.int .u8 0)], .agg [.lit (.int .u8 0), .lit (.int .u8 0)], .agg [.lit (.int .u8 0), .lit (.int .u8 0)], .agg [.lit (.int .u8 0), .lit (.int .u8 0)], .agg [.lit (.int .u8 0), .lit (.int .u8 0)], .agg [.lit (.int .u8 0), .lit (.int .u8 0)], .agg [.lit (.int .u8 0), .lit (.int .u8 0)]]
def laid_lamplighter_frame_ends {H : Type} : DataW H := .agg [.lit (.int .u8 28), .lit (.int .u8 13)]
def laid_lamplighter_msh_versions {H : Type} : DataW H := .agg [.lit (.string [50, 46, 49]), .lit (.string [50, 46, 50]), .lit (.string [50, 46, 51]), .lit (.string [50, 46, 51, 46, 49]), .lit (.string [50, 46, 52]), .lit (.string [50, 46, 53]), .lit (.string [50, 46, 53, 46, 49]), .lit (.string [50, 46, 54]), .lit (.string [50, 46, 55]), .lit (.string [50, 46, 56])]
def laid_lamplighter_ack_codes {H : Type} : DataW H := .agg [.lit (.string [65, 65]), .lit (.string [65, 69]), .lit (.string [65, 82])]
/-- One of Go's own tables, pinned by name: the form's constant. -/
def laid_unicode_utf8_first : DataW Unit := Go.Pinned.utf8First

/-- 'lamplighterlaw17.InboxTakes': WHATEVER THE INPUT: true; the input reads as it did. -/
def inboxTakesSpec : ChangeSpec := { name := "inboxTakes", fn := fun _ => fun
  | [d1, d2] => { results := [.lit (.bool true)], args := [d1, d2] }
  | _ => none }
def inboxTakesRow : OpenClaim := { program := "ytgpmnicmgehmbaagreatdoor", sum := "d0c18ae12d1be13b7d4b0298b502eae2489ec966b3656a4e3b48ad8f58720f43", func := "lamplighter/lamplighterlaw17.InboxTakes", spec := "inboxTakes", inPlace := ["internal/bytealg.IndexByteString", "internal/bytealg.IndexString", "internal/bytealg.IndexByte", "internal/bytealg.Index", "internal/abi.NoEscape", "internal/bytealg.MakeNoZero"], unfollowed := true, recurses := true, named := ["unicode/utf8.first", "unicode/utf8.acceptRanges", "lamplighter/frame.ends", "internal/bytealg.MaxLen", "lamplighter/msh.versions", "lamplighter/ack.codes"], apart := false, laid := [("unicode/utf8.acceptRanges", laid_unicode_utf8_acceptRanges), ("lamplighter/frame.ends", laid_lamplighter_frame_ends), ("lamplighter/msh.versions", laid_lamplighter_msh_versions), ("lamplighter/ack.codes", laid_lamplighter_ack_codes), ("unicode/utf8.first", laid_unicode_utf8_first)] }
def InboxTakesSaid : Prop := inboxTakesRow.holds Tryz.pinned (OpenSpec.ofChange inboxTakesSpec)

/-- ITS FALSE NEIGHBOUR: 'it returns false'. Refute it at one input. -/
def inboxTakesWrong : ChangeSpec := { name := "inboxTakes", fn := fun _ => fun
  | [d1, d2] => { results := [.lit (.bool false)], args := [d1, d2] }
  | _ => none }
def InboxTakesWrongFalsely : Prop := inboxTakesRow.holds Tryz.pinned (OpenSpec.ofChange inboxTakesWrong)

/-- 'lamplighterlaw17.InboxPieces': WHATEVER THE INPUT: true; the input reads as it did. -/
def inboxPiecesSpec : ChangeSpec := { name := "inboxPieces", fn := fun _ => fun
  | [d1, d2, d3] => { results := [.lit (.bool true)], args := [d1, d2, d3] }
  | _ => none }
def inboxPiecesRow : OpenClaim := { program := "ytgpmnicmgehmbaagreatdoor", sum := "d0c18ae12d1be13b7d4b0298b502eae2489ec966b3656a4e3b48ad8f58720f43", func := "lamplighter/lamplighterlaw17.InboxPieces", spec := "inboxPieces", inPlace := ["internal/bytealg.IndexByteString", "internal/bytealg.IndexString", "internal/bytealg.IndexByte", "internal/bytealg.Index", "internal/abi.NoEscape", "internal/bytealg.MakeNoZero"], unfollowed := true, recurses := true, named := ["unicode/utf8.first", "unicode/utf8.acceptRanges", "lamplighter/frame.ends", "internal/bytealg.MaxLen", "lamplighter/msh.versions", "lamplighter/ack.codes"], apart := false, laid := [("unicode/utf8.acceptRanges", laid_unicode_utf8_acceptRanges), ("lamplighter/frame.ends", laid_lamplighter_frame_ends), ("lamplighter/msh.versions", laid_lamplighter_msh_versions), ("lamplighter/ack.codes", laid_lamplighter_ack_codes), ("unicode/utf8.first", laid_unicode_utf8_first)] }
def InboxPiecesSaid : Prop := inboxPiecesRow.holds Tryz.pinned (OpenSpec.ofChange inboxPiecesSpec)

/-- ITS FALSE NEIGHBOUR: 'it returns false'. Refute it at one input. -/
def inboxPiecesWrong : ChangeSpec := { name := "inboxPieces", fn := fun _ => fun
  | [d1, d2, d3] => { results := [.lit (.bool false)], args := [d1, d2, d3] }
  | _ => none }
def InboxPiecesWrongFalsely : Prop := inboxPiecesRow.holds Tryz.pinned (OpenSpec.ofChange inboxPiecesWrong)

/-- 'lamplighterlaw17.InboxNone': WHATEVER THE INPUT: true; the input reads as it did. -/
def inboxNoneSpec : ChangeSpec := { name := "inboxNone", fn := fun _ => fun
  | [d1, d2] => { results := [.lit (.bool true)], args := [d1, d2] }
  | _ => none }
def inboxNoneRow : OpenClaim := { program := "ytgpmnicmgehmbaagreatdoor", sum := "d0c18ae12d1be13b7d4b0298b502eae2489ec966b3656a4e3b48ad8f58720f43", func := "lamplighter/lamplighterlaw17.InboxNone", spec := "inboxNone", inPlace := ["internal/bytealg.IndexByte", "internal/bytealg.IndexByteString", "internal/bytealg.IndexString", "internal/bytealg.Index", "internal/abi.NoEscape", "internal/bytealg.MakeNoZero"], unfollowed := true, recurses := true, named := ["internal/bytealg.MaxLen", "lamplighter/msh.versions", "unicode/utf8.first", "unicode/utf8.acceptRanges", "lamplighter/frame.ends", "lamplighter/ack.codes"], apart := false, laid := [("unicode/utf8.acceptRanges", laid_unicode_utf8_acceptRanges), ("lamplighter/frame.ends", laid_lamplighter_frame_ends), ("lamplighter/msh.versions", laid_lamplighter_msh_versions), ("lamplighter/ack.codes", laid_lamplighter_ack_codes), ("unicode/utf8.first", laid_unicode_utf8_first)] }
def InboxNoneSaid : Prop := inboxNoneRow.holds Tryz.pinned (OpenSpec.ofChange inboxNoneSpec)

/-- ITS FALSE NEIGHBOUR: 'it returns false'. Refute it at one input. -/
def inboxNoneWrong : ChangeSpec := { name := "inboxNone", fn := fun _ => fun
  | [d1, d2] => { results := [.lit (.bool false)], args := [d1, d2] }
  | _ => none }
def InboxNoneWrongFalsely : Prop := inboxNoneRow.holds Tryz.pinned (OpenSpec.ofChange inboxNoneWrong)

/-- 'lamplighterlaw17.InboxIds': WHATEVER THE INPUT: true; the input reads as it did. -/
def inboxIdsSpec : ChangeSpec := { name := "inboxIds", fn := fun _ => fun
  | [d1, d2] => { results := [.lit (.bool true)], args := [d1, d2] }
  | _ => none }
def inboxIdsRow : OpenClaim := { program := "ytgpmnicmgehmbaagreatdoor", sum := "d0c18ae12d1be13b7d4b0298b502eae2489ec966b3656a4e3b48ad8f58720f43", func := "lamplighter/lamplighterlaw17.InboxIds", spec := "inboxIds", inPlace := ["internal/bytealg.IndexByteString", "internal/bytealg.IndexString", "internal/bytealg.IndexByte", "internal/bytealg.Index", "internal/abi.NoEscape", "internal/bytealg.MakeNoZero"], unfollowed := true, recurses := true, named := ["unicode/utf8.first", "unicode/utf8.acceptRanges", "lamplighter/frame.ends", "internal/bytealg.MaxLen", "lamplighter/msh.versions", "lamplighter/ack.codes"], apart := false, laid := [("unicode/utf8.acceptRanges", laid_unicode_utf8_acceptRanges), ("lamplighter/frame.ends", laid_lamplighter_frame_ends), ("lamplighter/msh.versions", laid_lamplighter_msh_versions), ("lamplighter/ack.codes", laid_lamplighter_ack_codes), ("unicode/utf8.first", laid_unicode_utf8_first)] }
def InboxIdsSaid : Prop := inboxIdsRow.holds Tryz.pinned (OpenSpec.ofChange inboxIdsSpec)

/-- ITS FALSE NEIGHBOUR: 'it returns false'. Refute it at one input. -/
def inboxIdsWrong : ChangeSpec := { name := "inboxIds", fn := fun _ => fun
  | [d1, d2] => { results := [.lit (.bool false)], args := [d1, d2] }
  | _ => none }
def InboxIdsWrongFalsely : Prop := inboxIdsRow.holds Tryz.pinned (OpenSpec.ofChange inboxIdsWrong)

/-- 'lamplighterlaw17.InboxActs': WHATEVER THE INPUT: true; the input reads as it did. -/
def inboxActsSpec : ChangeSpec := { name := "inboxActs", fn := fun _ => fun
  | [d1, d2] => { results := [.lit (.bool true)], args := [d1, d2] }
  | _ => none }
def inboxActsRow : OpenClaim := { program := "ytgpmnicmgehmbaagreatdoor", sum := "d0c18ae12d1be13b7d4b0298b502eae2489ec966b3656a4e3b48ad8f58720f43", func := "lamplighter/lamplighterlaw17.InboxActs", spec := "inboxActs", inPlace := ["internal/bytealg.IndexByteString", "internal/bytealg.IndexString", "internal/bytealg.IndexByte", "internal/bytealg.Index", "internal/abi.NoEscape", "internal/bytealg.MakeNoZero"], unfollowed := true, recurses := true, named := ["unicode/utf8.first", "unicode/utf8.acceptRanges", "lamplighter/frame.ends", "internal/bytealg.MaxLen", "lamplighter/msh.versions", "lamplighter/ack.codes"], apart := false, laid := [("unicode/utf8.acceptRanges", laid_unicode_utf8_acceptRanges), ("lamplighter/frame.ends", laid_lamplighter_frame_ends), ("lamplighter/msh.versions", laid_lamplighter_msh_versions), ("lamplighter/ack.codes", laid_lamplighter_ack_codes), ("unicode/utf8.first", laid_unicode_utf8_first)] }
def InboxActsSaid : Prop := inboxActsRow.holds Tryz.pinned (OpenSpec.ofChange inboxActsSpec)

/-- ITS FALSE NEIGHBOUR: 'it returns false'. Refute it at one input. -/
def inboxActsWrong : ChangeSpec := { name := "inboxActs", fn := fun _ => fun
  | [d1, d2] => { results := [.lit (.bool false)], args := [d1, d2] }
  | _ => none }
def InboxActsWrongFalsely : Prop := inboxActsRow.holds Tryz.pinned (OpenSpec.ofChange inboxActsWrong)

/- THE SECOND FORM. 'bulk': how many values and letters a reading holds, each counted each time it is reached (what is shared counts as often as it is met; a slice's spare places count too). A statement '..UptoSaid' is the law's where the arguments, and the package variables that the reading takes, are together of bulk at most 1048576: NARROWER than '..Said'. Prove '..Said' where nothing that the law and all that it calls make is longer than what came in: it says more and counts as full. Else prove '..UptoSaid'. A law counts once. -/
mutual
def uptoBulk {H : Type} : DataW H → Nat
  | .lit (.string bytes) => bytes.length + 1
  | .lit _ => 1
  | .nil => 1
  | .ptr d => uptoBulk d + 1
  | .slice elems spare => uptoBulkAll elems + uptoBulkAll spare + 1
  | .agg parts => uptoBulkAll parts + 1
  | .iface _ d => uptoBulk d + 1
  | .map entries => uptoBulkEntries entries + 1
  | .held _ => 1
def uptoBulkAll {H : Type} : List (DataW H) → Nat
  | [] => 0
  | d :: r => uptoBulk d + uptoBulkAll r
def uptoBulkEntries {H : Type} : List (Lit × DataW H) → Nat
  | [] => 0
  | x :: r => uptoBulkEntry x + uptoBulkEntries r
def uptoBulkEntry {H : Type} : Lit × DataW H → Nat
  | (.string bytes, d) => bytes.length + uptoBulk d + 1
  | (_, d) => uptoBulk d + 1
 end
def uptoSmall : (H : Type) → List (DataW H) → Bool := fun _ ds => decide (uptoBulkAll ds ≤ 1048576)
def OpenSpec.upto (s : _root_.Go.ChangeSpec) : _root_.Go.OpenSpec := { _root_.Go.OpenSpec.ofChange s with cond := some uptoSmall }

/-- 'lamplighterlaw17.InboxTakes', WHERE WHAT IT READS IS OF BULK AT MOST 1048576: true; the input reads as it did. -/
def inboxTakesUptoRow : OpenClaim := { program := "ytgpmnicmgehmbaagreatdoor", sum := "d0c18ae12d1be13b7d4b0298b502eae2489ec966b3656a4e3b48ad8f58720f43", func := "lamplighter/lamplighterlaw17.InboxTakes", spec := "inboxTakes", inPlace := ["internal/bytealg.IndexByteString", "internal/bytealg.IndexString", "internal/bytealg.IndexByte", "internal/bytealg.Index", "internal/abi.NoEscape", "internal/bytealg.MakeNoZero"], unfollowed := true, recurses := true, named := ["unicode/utf8.first", "unicode/utf8.acceptRanges", "lamplighter/frame.ends", "internal/bytealg.MaxLen", "lamplighter/msh.versions", "lamplighter/ack.codes"], apart := false, laid := [("unicode/utf8.acceptRanges", laid_unicode_utf8_acceptRanges), ("lamplighter/frame.ends", laid_lamplighter_frame_ends), ("lamplighter/msh.versions", laid_lamplighter_msh_versions), ("lamplighter/ack.codes", laid_lamplighter_ack_codes), ("unicode/utf8.first", laid_unicode_utf8_first)], narrowed := true }
def InboxTakesUptoSaid : Prop := inboxTakesUptoRow.holds Tryz.pinned (OpenSpec.upto inboxTakesSpec)

/-- 'lamplighterlaw17.InboxPieces', WHERE WHAT IT READS IS OF BULK AT MOST 1048576: true; the input reads as it did. -/
def inboxPiecesUptoRow : OpenClaim := { program := "ytgpmnicmgehmbaagreatdoor", sum := "d0c18ae12d1be13b7d4b0298b502eae2489ec966b3656a4e3b48ad8f58720f43", func := "lamplighter/lamplighterlaw17.InboxPieces", spec := "inboxPieces", inPlace := ["internal/bytealg.IndexByteString", "internal/bytealg.IndexString", "internal/bytealg.IndexByte", "internal/bytealg.Index", "internal/abi.NoEscape", "internal/bytealg.MakeNoZero"], unfollowed := true, recurses := true, named := ["unicode/utf8.first", "unicode/utf8.acceptRanges", "lamplighter/frame.ends", "internal/bytealg.MaxLen", "lamplighter/msh.versions", "lamplighter/ack.codes"], apart := false, laid := [("unicode/utf8.acceptRanges", laid_unicode_utf8_acceptRanges), ("lamplighter/frame.ends", laid_lamplighter_frame_ends), ("lamplighter/msh.versions", laid_lamplighter_msh_versions), ("lamplighter/ack.codes", laid_lamplighter_ack_codes), ("unicode/utf8.first", laid_unicode_utf8_first)], narrowed := true }
def InboxPiecesUptoSaid : Prop := inboxPiecesUptoRow.holds Tryz.pinned (OpenSpec.upto inboxPiecesSpec)

/-- 'lamplighterlaw17.InboxNone', WHERE WHAT IT READS IS OF BULK AT MOST 1048576: true; the input reads as it did. -/
def inboxNoneUptoRow : OpenClaim := { program := "ytgpmnicmgehmbaagreatdoor", sum := "d0c18ae12d1be13b7d4b0298b502eae2489ec966b3656a4e3b48ad8f58720f43", func := "lamplighter/lamplighterlaw17.InboxNone", spec := "inboxNone", inPlace := ["internal/bytealg.IndexByte", "internal/bytealg.IndexByteString", "internal/bytealg.IndexString", "internal/bytealg.Index", "internal/abi.NoEscape", "internal/bytealg.MakeNoZero"], unfollowed := true, recurses := true, named := ["internal/bytealg.MaxLen", "lamplighter/msh.versions", "unicode/utf8.first", "unicode/utf8.acceptRanges", "lamplighter/frame.ends", "lamplighter/ack.codes"], apart := false, laid := [("unicode/utf8.acceptRanges", laid_unicode_utf8_acceptRanges), ("lamplighter/frame.ends", laid_lamplighter_frame_ends), ("lamplighter/msh.versions", laid_lamplighter_msh_versions), ("lamplighter/ack.codes", laid_lamplighter_ack_codes), ("unicode/utf8.first", laid_unicode_utf8_first)], narrowed := true }
def InboxNoneUptoSaid : Prop := inboxNoneUptoRow.holds Tryz.pinned (OpenSpec.upto inboxNoneSpec)

/-- 'lamplighterlaw17.InboxIds', WHERE WHAT IT READS IS OF BULK AT MOST 1048576: true; the input reads as it did. -/
def inboxIdsUptoRow : OpenClaim := { program := "ytgpmnicmgehmbaagreatdoor", sum := "d0c18ae12d1be13b7d4b0298b502eae2489ec966b3656a4e3b48ad8f58720f43", func := "lamplighter/lamplighterlaw17.InboxIds", spec := "inboxIds", inPlace := ["internal/bytealg.IndexByteString", "internal/bytealg.IndexString", "internal/bytealg.IndexByte", "internal/bytealg.Index", "internal/abi.NoEscape", "internal/bytealg.MakeNoZero"], unfollowed := true, recurses := true, named := ["unicode/utf8.first", "unicode/utf8.acceptRanges", "lamplighter/frame.ends", "internal/bytealg.MaxLen", "lamplighter/msh.versions", "lamplighter/ack.codes"], apart := false, laid := [("unicode/utf8.acceptRanges", laid_unicode_utf8_acceptRanges), ("lamplighter/frame.ends", laid_lamplighter_frame_ends), ("lamplighter/msh.versions", laid_lamplighter_msh_versions), ("lamplighter/ack.codes", laid_lamplighter_ack_codes), ("unicode/utf8.first", laid_unicode_utf8_first)], narrowed := true }
def InboxIdsUptoSaid : Prop := inboxIdsUptoRow.holds Tryz.pinned (OpenSpec.upto inboxIdsSpec)

/-- 'lamplighterlaw17.InboxActs', WHERE WHAT IT READS IS OF BULK AT MOST 1048576: true; the input reads as it did. -/
def inboxActsUptoRow : OpenClaim := { program := "ytgpmnicmgehmbaagreatdoor", sum := "d0c18ae12d1be13b7d4b0298b502eae2489ec966b3656a4e3b48ad8f58720f43", func := "lamplighter/lamplighterlaw17.InboxActs", spec := "inboxActs", inPlace := ["internal/bytealg.IndexByteString", "internal/bytealg.IndexString", "internal/bytealg.IndexByte", "internal/bytealg.Index", "internal/abi.NoEscape", "internal/bytealg.MakeNoZero"], unfollowed := true, recurses := true, named := ["unicode/utf8.first", "unicode/utf8.acceptRanges", "lamplighter/frame.ends", "internal/bytealg.MaxLen", "lamplighter/msh.versions", "lamplighter/ack.codes"], apart := false, laid := [("unicode/utf8.acceptRanges", laid_unicode_utf8_acceptRanges), ("lamplighter/frame.ends", laid_lamplighter_frame_ends), ("lamplighter/msh.versions", laid_lamplighter_msh_versions), ("lamplighter/ack.codes", laid_lamplighter_ack_codes), ("unicode/utf8.first", laid_unicode_utf8_first)], narrowed := true }
def InboxActsUptoSaid : Prop := inboxActsUptoRow.holds Tryz.pinned (OpenSpec.upto inboxActsSpec)

end Rows
end Go.Proofs.YtgpmnicmgehmbaaGreatDoor
