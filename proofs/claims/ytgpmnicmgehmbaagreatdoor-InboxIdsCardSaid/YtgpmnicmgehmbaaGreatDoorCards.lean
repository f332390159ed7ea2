/-
  DERIVED. GIVEN WITH THE SEED: THE CARDS: each row of YtgpmnicmgehmbaaGreatDoorRows.lean that lists a variable, with what it lists TIED to the program's text (the seventh form; the later family's looks); each row that meets fmt, with fmt's text TOLD by the authors' own Lean function (tested against real Go, not proved from fmt's source: count such statements apart). THE CARD IS WHAT COUNTS. Prove the row's statement (the work); the ties are given (YtgpmnicmgehmbaaGreatDoorTie.lean); close each card by the builder's one call (the guide's Derived/Test/ToyasCard.lean, 'card_holds'). Laid BY PROGRAM, IN A SANDBOX (cutbox-door.mjs). By AI agents, Wed Nov 11 2026. No macro, syntax, notation, axiom, sorry.
-/
import Derived.Test.YtgpmnicmgehmbaaGreatDoorRows
import GoSem.ClaimSeven
namespace Go.Proofs.YtgpmnicmgehmbaaGreatDoor
namespace Rows

/-- THE TIED CARD OF 'lamplighterlaw17.InboxTakes'. -/
def inboxTakesCard : Claim7 := { stood := { row := inboxTakesRow, standIns := [], harness := (true, "72f9cc2d607156cb5d430a99cb98b36b0c4819c23e108f11397b267a47acb9b1"), looks := true }, kinds := [], alts := [], laidByText := true, laidKinds := [.data, .data, .widerDeep, .widerDeep, .pinned], laidTests := true, laidLooks := .later }
def InboxTakesCardSaid : Prop := Claim7.holds Tryz.pinned (.plain (OpenSpec.ofChange inboxTakesSpec)) inboxTakesCard

/-- THE TIED CARD OF 'lamplighterlaw17.InboxPieces'. -/
def inboxPiecesCard : Claim7 := { stood := { row := inboxPiecesRow, standIns := [], harness := (true, "72f9cc2d607156cb5d430a99cb98b36b0c4819c23e108f11397b267a47acb9b1"), looks := true }, kinds := [], alts := [], laidByText := true, laidKinds := [.data, .data, .widerDeep, .widerDeep, .pinned], laidTests := true, laidLooks := .later }
def InboxPiecesCardSaid : Prop := Claim7.holds Tryz.pinned (.plain (OpenSpec.ofChange inboxPiecesSpec)) inboxPiecesCard

/-- THE TIED CARD OF 'lamplighterlaw17.InboxNone'. -/
def inboxNoneCard : Claim7 := { stood := { row := inboxNoneRow, standIns := [], harness := (true, "72f9cc2d607156cb5d430a99cb98b36b0c4819c23e108f11397b267a47acb9b1"), looks := true }, kinds := [], alts := [], laidByText := true, laidKinds := [.data, .data, .widerDeep, .widerDeep, .pinned], laidTests := true, laidLooks := .later }
def InboxNoneCardSaid : Prop := Claim7.holds Tryz.pinned (.plain (OpenSpec.ofChange inboxNoneSpec)) inboxNoneCard

/-- THE TIED CARD OF 'lamplighterlaw17.InboxIds'. -/
def inboxIdsCard : Claim7 := { stood := { row := inboxIdsRow, standIns := [], harness := (true, "72f9cc2d607156cb5d430a99cb98b36b0c4819c23e108f11397b267a47acb9b1"), looks := true }, kinds := [], alts := [], laidByText := true, laidKinds := [.data, .data, .widerDeep, .widerDeep, .pinned], laidTests := true, laidLooks := .later }
def InboxIdsCardSaid : Prop := Claim7.holds Tryz.pinned (.plain (OpenSpec.ofChange inboxIdsSpec)) inboxIdsCard

/-- THE TIED CARD OF 'lamplighterlaw17.InboxActs'. -/
def inboxActsCard : Claim7 := { stood := { row := inboxActsRow, standIns := [], harness := (true, "72f9cc2d607156cb5d430a99cb98b36b0c4819c23e108f11397b267a47acb9b1"), looks := true }, kinds := [], alts := [], laidByText := true, laidKinds := [.data, .data, .widerDeep, .widerDeep, .pinned], laidTests := true, laidLooks := .later }
def InboxActsCardSaid : Prop := Claim7.holds Tryz.pinned (.plain (OpenSpec.ofChange inboxActsSpec)) inboxActsCard

/-- THE SECOND FORM's CARD OF 'lamplighterlaw17.InboxTakes'. -/
def inboxTakesUptoCard : Claim7 := { stood := { row := inboxTakesUptoRow, standIns := [], harness := (true, "72f9cc2d607156cb5d430a99cb98b36b0c4819c23e108f11397b267a47acb9b1"), looks := true }, kinds := [], alts := [], laidByText := true, laidKinds := [.data, .data, .widerDeep, .widerDeep, .pinned], laidTests := true, laidLooks := .later }
def InboxTakesUptoCardSaid : Prop := Claim7.holds Tryz.pinned (.plain (OpenSpec.upto inboxTakesSpec)) inboxTakesUptoCard

/-- THE SECOND FORM's CARD OF 'lamplighterlaw17.InboxPieces'. -/
def inboxPiecesUptoCard : Claim7 := { stood := { row := inboxPiecesUptoRow, standIns := [], harness := (true, "72f9cc2d607156cb5d430a99cb98b36b0c4819c23e108f11397b267a47acb9b1"), looks := true }, kinds := [], alts := [], laidByText := true, laidKinds := [.data, .data, .widerDeep, .widerDeep, .pinned], laidTests := true, laidLooks := .later }
def InboxPiecesUptoCardSaid : Prop := Claim7.holds Tryz.pinned (.plain (OpenSpec.upto inboxPiecesSpec)) inboxPiecesUptoCard

/-- THE SECOND FORM's CARD OF 'lamplighterlaw17.InboxNone'. -/
def inboxNoneUptoCard : Claim7 := { stood := { row := inboxNoneUptoRow, standIns := [], harness := (true, "72f9cc2d607156cb5d430a99cb98b36b0c4819c23e108f11397b267a47acb9b1"), looks := true }, kinds := [], alts := [], laidByText := true, laidKinds := [.data, .data, .widerDeep, .widerDeep, .pinned], laidTests := true, laidLooks := .later }
def InboxNoneUptoCardSaid : Prop := Claim7.holds Tryz.pinned (.plain (OpenSpec.upto inboxNoneSpec)) inboxNoneUptoCard

/-- THE SECOND FORM's CARD OF 'lamplighterlaw17.InboxIds'. -/
def inboxIdsUptoCard : Claim7 := { stood := { row := inboxIdsUptoRow, standIns := [], harness := (true, "72f9cc2d607156cb5d430a99cb98b36b0c4819c23e108f11397b267a47acb9b1"), looks := true }, kinds := [], alts := [], laidByText := true, laidKinds := [.data, .data, .widerDeep, .widerDeep, .pinned], laidTests := true, laidLooks := .later }
def InboxIdsUptoCardSaid : Prop := Claim7.holds Tryz.pinned (.plain (OpenSpec.upto inboxIdsSpec)) inboxIdsUptoCard

/-- THE SECOND FORM's CARD OF 'lamplighterlaw17.InboxActs'. -/
def inboxActsUptoCard : Claim7 := { stood := { row := inboxActsUptoRow, standIns := [], harness := (true, "72f9cc2d607156cb5d430a99cb98b36b0c4819c23e108f11397b267a47acb9b1"), looks := true }, kinds := [], alts := [], laidByText := true, laidKinds := [.data, .data, .widerDeep, .widerDeep, .pinned], laidTests := true, laidLooks := .later }
def InboxActsUptoCardSaid : Prop := Claim7.holds Tryz.pinned (.plain (OpenSpec.upto inboxActsSpec)) inboxActsUptoCard
end Rows
end Go.Proofs.YtgpmnicmgehmbaaGreatDoor
