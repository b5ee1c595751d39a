/-
  DERIVED. GIVEN WITH THE SEED: THE CARDS: each row of YtemfjkmfbfjlaaaGreatDoorRows.lean that lists a variable, with what it lists TIED to the program's text (the seventh form; the later family's looks); each row that meets fmt, with fmt's text TOLD by the authors' own Lean function (tested against real Go, not proved from fmt's source: count such statements apart). THE CARD IS WHAT COUNTS. Prove the row's statement (the work); the ties are given (YtemfjkmfbfjlaaaGreatDoorTie.lean); close each card by the builder's one call (the guide's Derived/Test/ToyasCard.lean, 'card_holds'). Laid BY PROGRAM, IN A SANDBOX (cutbox-door.mjs). By AI agents, Wed Nov 11 2026. No macro, syntax, notation, axiom, sorry.
-/
import Derived.Test.YtemfjkmfbfjlaaaGreatDoorRows
import GoSem.ClaimSeven
namespace Go.Proofs.YtemfjkmfbfjlaaaGreatDoor
namespace Rows

/-- THE TIED CARD OF 'ricochetlaw21.ServerNil'. -/
def serverNilCard : Claim7 := { stood := { row := serverNilRow, standIns := [], harness := (true, "f987c2fbc78317ded74a32f4891bdd01d62d5be6454942aecb7c9ba3202aab2f"), looks := false }, kinds := [], alts := [], laidByText := true, laidKinds := [.data, .data, .data], laidTests := true, laidLooks := .later }
def ServerNilCardSaid : Prop := Claim7.holds Tryz.pinned (.plain (OpenSpec.ofChange serverNilSpec)) serverNilCard

/-- THE TIED CARD OF 'ricochetlaw23.SessionNil'. -/
def sessionNilCard : Claim7 := { stood := { row := sessionNilRow, standIns := [], harness := (true, "f987c2fbc78317ded74a32f4891bdd01d62d5be6454942aecb7c9ba3202aab2f"), looks := false }, kinds := [], alts := [], laidByText := true, laidKinds := [.data, .data, .data], laidTests := true, laidLooks := .later }
def SessionNilCardSaid : Prop := Claim7.holds Tryz.pinned (.plain (OpenSpec.ofChange sessionNilSpec)) sessionNilCard

/-- THE SECOND FORM's CARD OF 'ricochetlaw21.ServerNil'. -/
def serverNilUptoCard : Claim7 := { stood := { row := serverNilUptoRow, standIns := [], harness := (true, "f987c2fbc78317ded74a32f4891bdd01d62d5be6454942aecb7c9ba3202aab2f"), looks := false }, kinds := [], alts := [], laidByText := true, laidKinds := [.data, .data, .data], laidTests := true, laidLooks := .later }
def ServerNilUptoCardSaid : Prop := Claim7.holds Tryz.pinned (.plain (OpenSpec.upto serverNilSpec)) serverNilUptoCard

/-- THE SECOND FORM's CARD OF 'ricochetlaw23.SessionNil'. -/
def sessionNilUptoCard : Claim7 := { stood := { row := sessionNilUptoRow, standIns := [], harness := (true, "f987c2fbc78317ded74a32f4891bdd01d62d5be6454942aecb7c9ba3202aab2f"), looks := false }, kinds := [], alts := [], laidByText := true, laidKinds := [.data, .data, .data], laidTests := true, laidLooks := .later }
def SessionNilUptoCardSaid : Prop := Claim7.holds Tryz.pinned (.plain (OpenSpec.upto sessionNilSpec)) sessionNilUptoCard
end Rows
end Go.Proofs.YtemfjkmfbfjlaaaGreatDoor
