/-
  DERIVED. GIVEN WITH THE SEED: THE CARDS: each row of YtejpgcemblankaaGreatDoorRows.lean that lists a variable, with what it lists TIED to the program's text (the seventh form; the later family's looks); each row that meets fmt, with fmt's text TOLD by the authors' own Lean function (tested against real Go, not proved from fmt's source: count such statements apart). THE CARD IS WHAT COUNTS. Prove the row's statement (the work); the ties are given (YtejpgcemblankaaGreatDoorTie.lean); close each card by the builder's one call (the guide's Derived/Test/ToyasCard.lean, 'card_holds'). Laid BY PROGRAM, IN A SANDBOX (cutbox-door.mjs). By AI agents, Wed Nov 11 2026. No macro, syntax, notation, axiom, sorry.
-/
import Derived.Test.YtejpgcemblankaaGreatDoorRows
import GoSem.ClaimSeven
namespace Go.Proofs.YtejpgcemblankaaGreatDoor
namespace Rows

/-- THE TIED CARD OF 'ostiarylaw17.CachePlays'. -/
def cachePlaysCard : Claim7 := { stood := { row := cachePlaysRow, standIns := [], harness := (true, "13639e81178059dcc053f7b68db6a97304bf40f9e4a1e5a9e7e48f19fa191dae"), looks := false }, kinds := [], alts := [], laidByText := true, laidKinds := [.data, .data, .data, .data, .pinned], laidTests := true, laidLooks := .later }
def CachePlaysCardSaid : Prop := Claim7.holds Tryz.pinned (.plain (OpenSpec.ofChange cachePlaysSpec)) cachePlaysCard

/-- THE TIED CARD OF 'ostiarylaw19.PreflightRows'. -/
def preflightRowsCard : Claim7 := { stood := { row := preflightRowsRow, standIns := [], harness := (true, "13639e81178059dcc053f7b68db6a97304bf40f9e4a1e5a9e7e48f19fa191dae"), looks := false }, kinds := [], alts := [], laidByText := true, laidKinds := [.data, .data, .data, .data, .pinned], laidTests := true, laidLooks := .later }
def PreflightRowsCardSaid : Prop := Claim7.holds Tryz.pinned (.plain (OpenSpec.ofChange preflightRowsSpec)) preflightRowsCard

/-- THE TIED CARD OF 'ostiarylaw17.CacheFresh'. -/
def cacheFreshCard : Claim7 := { stood := { row := cacheFreshRow, standIns := [], harness := (true, "13639e81178059dcc053f7b68db6a97304bf40f9e4a1e5a9e7e48f19fa191dae"), looks := false }, kinds := [], alts := [], laidByText := true, laidKinds := [.data, .data, .data, .data, .pinned], laidTests := true, laidLooks := .later }
def CacheFreshCardSaid : Prop := Claim7.holds Tryz.pinned (.plain (OpenSpec.ofChange cacheFreshSpec)) cacheFreshCard

/-- THE TIED CARD OF 'ostiarylaw17.CacheUse'. -/
def cacheUseCard : Claim7 := { stood := { row := cacheUseRow, standIns := [], harness := (true, "13639e81178059dcc053f7b68db6a97304bf40f9e4a1e5a9e7e48f19fa191dae"), looks := false }, kinds := [], alts := [], laidByText := true, laidKinds := [.data, .data, .data, .data, .pinned], laidTests := true, laidLooks := .later }
def CacheUseCardSaid : Prop := Claim7.holds Tryz.pinned (.plain (OpenSpec.ofChange cacheUseSpec)) cacheUseCard

/-- THE TIED CARD OF 'ostiarylaw17.CacheKept'. -/
def cacheKeptCard : Claim7 := { stood := { row := cacheKeptRow, standIns := [], harness := (true, "13639e81178059dcc053f7b68db6a97304bf40f9e4a1e5a9e7e48f19fa191dae"), looks := false }, kinds := [], alts := [], laidByText := true, laidKinds := [.data, .data, .data, .data, .pinned], laidTests := true, laidLooks := .later }
def CacheKeptCardSaid : Prop := Claim7.holds Tryz.pinned (.plain (OpenSpec.ofChange cacheKeptSpec)) cacheKeptCard

/-- THE TIED CARD OF 'ostiarylaw17.CacheRenewed'. -/
def cacheRenewedCard : Claim7 := { stood := { row := cacheRenewedRow, standIns := [], harness := (true, "13639e81178059dcc053f7b68db6a97304bf40f9e4a1e5a9e7e48f19fa191dae"), looks := false }, kinds := [], alts := [], laidByText := true, laidKinds := [.data, .data, .data, .data, .pinned], laidTests := true, laidLooks := .later }
def CacheRenewedCardSaid : Prop := Claim7.holds Tryz.pinned (.plain (OpenSpec.ofChange cacheRenewedSpec)) cacheRenewedCard

/-- THE SECOND FORM's CARD OF 'ostiarylaw17.CachePlays'. -/
def cachePlaysUptoCard : Claim7 := { stood := { row := cachePlaysUptoRow, standIns := [], harness := (true, "13639e81178059dcc053f7b68db6a97304bf40f9e4a1e5a9e7e48f19fa191dae"), looks := false }, kinds := [], alts := [], laidByText := true, laidKinds := [.data, .data, .data, .data, .pinned], laidTests := true, laidLooks := .later }
def CachePlaysUptoCardSaid : Prop := Claim7.holds Tryz.pinned (.plain (OpenSpec.upto cachePlaysSpec)) cachePlaysUptoCard

/-- THE SECOND FORM's CARD OF 'ostiarylaw19.PreflightRows'. -/
def preflightRowsUptoCard : Claim7 := { stood := { row := preflightRowsUptoRow, standIns := [], harness := (true, "13639e81178059dcc053f7b68db6a97304bf40f9e4a1e5a9e7e48f19fa191dae"), looks := false }, kinds := [], alts := [], laidByText := true, laidKinds := [.data, .data, .data, .data, .pinned], laidTests := true, laidLooks := .later }
def PreflightRowsUptoCardSaid : Prop := Claim7.holds Tryz.pinned (.plain (OpenSpec.upto preflightRowsSpec)) preflightRowsUptoCard

/-- THE SECOND FORM's CARD OF 'ostiarylaw17.CacheFresh'. -/
def cacheFreshUptoCard : Claim7 := { stood := { row := cacheFreshUptoRow, standIns := [], harness := (true, "13639e81178059dcc053f7b68db6a97304bf40f9e4a1e5a9e7e48f19fa191dae"), looks := false }, kinds := [], alts := [], laidByText := true, laidKinds := [.data, .data, .data, .data, .pinned], laidTests := true, laidLooks := .later }
def CacheFreshUptoCardSaid : Prop := Claim7.holds Tryz.pinned (.plain (OpenSpec.upto cacheFreshSpec)) cacheFreshUptoCard

/-- THE SECOND FORM's CARD OF 'ostiarylaw17.CacheUse'. -/
def cacheUseUptoCard : Claim7 := { stood := { row := cacheUseUptoRow, standIns := [], harness := (true, "13639e81178059dcc053f7b68db6a97304bf40f9e4a1e5a9e7e48f19fa191dae"), looks := false }, kinds := [], alts := [], laidByText := true, laidKinds := [.data, .data, .data, .data, .pinned], laidTests := true, laidLooks := .later }
def CacheUseUptoCardSaid : Prop := Claim7.holds Tryz.pinned (.plain (OpenSpec.upto cacheUseSpec)) cacheUseUptoCard

/-- THE SECOND FORM's CARD OF 'ostiarylaw17.CacheKept'. -/
def cacheKeptUptoCard : Claim7 := { stood := { row := cacheKeptUptoRow, standIns := [], harness := (true, "13639e81178059dcc053f7b68db6a97304bf40f9e4a1e5a9e7e48f19fa191dae"), looks := false }, kinds := [], alts := [], laidByText := true, laidKinds := [.data, .data, .data, .data, .pinned], laidTests := true, laidLooks := .later }
def CacheKeptUptoCardSaid : Prop := Claim7.holds Tryz.pinned (.plain (OpenSpec.upto cacheKeptSpec)) cacheKeptUptoCard

/-- THE SECOND FORM's CARD OF 'ostiarylaw17.CacheRenewed'. -/
def cacheRenewedUptoCard : Claim7 := { stood := { row := cacheRenewedUptoRow, standIns := [], harness := (true, "13639e81178059dcc053f7b68db6a97304bf40f9e4a1e5a9e7e48f19fa191dae"), looks := false }, kinds := [], alts := [], laidByText := true, laidKinds := [.data, .data, .data, .data, .pinned], laidTests := true, laidLooks := .later }
def CacheRenewedUptoCardSaid : Prop := Claim7.holds Tryz.pinned (.plain (OpenSpec.upto cacheRenewedSpec)) cacheRenewedUptoCard
end Rows
end Go.Proofs.YtejpgcemblankaaGreatDoor
