/-
  DERIVED. GIVEN WITH THE SEED: THE CARDS: each row of YtijagdpkclghnaaDoorRows.lean that lists a variable, with what it lists TIED to the program's text (the seventh form; the later family's looks); each row that meets fmt, with fmt's text TOLD by the authors' own Lean function (tested against real Go, not proved from fmt's source: count such statements apart). THE CARD IS WHAT COUNTS. Prove the row's statement (the work); the ties are given (YtijagdpkclghnaaDoorTie.lean); close each card by the builder's one call (the guide's Derived/Test/ToyasCard.lean, 'card_holds'). Laid BY PROGRAM, IN A SANDBOX (cutbox-door.mjs). By AI agents, Wed Nov 11 2026. No macro, syntax, notation, axiom, sorry.
-/
import Derived.Test.YtijagdpkclghnaaDoorRows
import GoSem.ClaimSeven
namespace Go.Proofs.YtijagdpkclghnaaDoor
namespace Rows

/-- THE TIED CARD OF 'trunnionlaw24.CacheOld'. -/
def cacheOldCard : Claim7 := { stood := { row := cacheOldRow, standIns := [], harness := (true, "98bf457b3cf005dd73063a07e8516682f3f1453be7fe7cb9199999ca0050dd6c"), looks := false }, kinds := [], alts := [], laidByText := true, laidKinds := [.data], laidTests := true, laidLooks := .later }
def CacheOldCardSaid : Prop := Claim7.holds Tryd.pinned (.plain (OpenSpec.ofChange cacheOldSpec)) cacheOldCard

/-- THE TIED CARD OF 'trunnionlaw24.CacheKeeps'. -/
def cacheKeepsCard : Claim7 := { stood := { row := cacheKeepsRow, standIns := [], harness := (true, "98bf457b3cf005dd73063a07e8516682f3f1453be7fe7cb9199999ca0050dd6c"), looks := false }, kinds := [], alts := [], laidByText := true, laidKinds := [.data], laidTests := true, laidLooks := .later }
def CacheKeepsCardSaid : Prop := Claim7.holds Tryd.pinned (.plain (OpenSpec.ofChange cacheKeepsSpec)) cacheKeepsCard

/-- THE TIED CARD OF 'trunnionlaw24.CacheClean'. -/
def cacheCleanCard : Claim7 := { stood := { row := cacheCleanRow, standIns := [], harness := (true, "98bf457b3cf005dd73063a07e8516682f3f1453be7fe7cb9199999ca0050dd6c"), looks := false }, kinds := [], alts := [], laidByText := true, laidKinds := [.data], laidTests := true, laidLooks := .later }
def CacheCleanCardSaid : Prop := Claim7.holds Tryd.pinned (.plain (OpenSpec.ofChange cacheCleanSpec)) cacheCleanCard

/-- THE TIED CARD OF 'trunnionlaw24.CachePlays'. -/
def cachePlaysCard : Claim7 := { stood := { row := cachePlaysRow, standIns := [], harness := (true, "98bf457b3cf005dd73063a07e8516682f3f1453be7fe7cb9199999ca0050dd6c"), looks := false }, kinds := [], alts := [], laidByText := true, laidKinds := [.data], laidTests := true, laidLooks := .later }
def CachePlaysCardSaid : Prop := Claim7.holds Tryd.pinned (.plain (OpenSpec.ofChange cachePlaysSpec)) cachePlaysCard

/-- THE SECOND FORM's CARD OF 'trunnionlaw24.CacheOld'. -/
def cacheOldUptoCard : Claim7 := { stood := { row := cacheOldUptoRow, standIns := [], harness := (true, "98bf457b3cf005dd73063a07e8516682f3f1453be7fe7cb9199999ca0050dd6c"), looks := false }, kinds := [], alts := [], laidByText := true, laidKinds := [.data], laidTests := true, laidLooks := .later }
def CacheOldUptoCardSaid : Prop := Claim7.holds Tryd.pinned (.plain (OpenSpec.upto cacheOldSpec)) cacheOldUptoCard

/-- THE SECOND FORM's CARD OF 'trunnionlaw24.CacheKeeps'. -/
def cacheKeepsUptoCard : Claim7 := { stood := { row := cacheKeepsUptoRow, standIns := [], harness := (true, "98bf457b3cf005dd73063a07e8516682f3f1453be7fe7cb9199999ca0050dd6c"), looks := false }, kinds := [], alts := [], laidByText := true, laidKinds := [.data], laidTests := true, laidLooks := .later }
def CacheKeepsUptoCardSaid : Prop := Claim7.holds Tryd.pinned (.plain (OpenSpec.upto cacheKeepsSpec)) cacheKeepsUptoCard

/-- THE SECOND FORM's CARD OF 'trunnionlaw24.CacheClean'. -/
def cacheCleanUptoCard : Claim7 := { stood := { row := cacheCleanUptoRow, standIns := [], harness := (true, "98bf457b3cf005dd73063a07e8516682f3f1453be7fe7cb9199999ca0050dd6c"), looks := false }, kinds := [], alts := [], laidByText := true, laidKinds := [.data], laidTests := true, laidLooks := .later }
def CacheCleanUptoCardSaid : Prop := Claim7.holds Tryd.pinned (.plain (OpenSpec.upto cacheCleanSpec)) cacheCleanUptoCard

/-- THE SECOND FORM's CARD OF 'trunnionlaw24.CachePlays'. -/
def cachePlaysUptoCard : Claim7 := { stood := { row := cachePlaysUptoRow, standIns := [], harness := (true, "98bf457b3cf005dd73063a07e8516682f3f1453be7fe7cb9199999ca0050dd6c"), looks := false }, kinds := [], alts := [], laidByText := true, laidKinds := [.data], laidTests := true, laidLooks := .later }
def CachePlaysUptoCardSaid : Prop := Claim7.holds Tryd.pinned (.plain (OpenSpec.upto cachePlaysSpec)) cachePlaysUptoCard
end Rows
end Go.Proofs.YtijagdpkclghnaaDoor
