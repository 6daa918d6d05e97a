/-
  DERIVED. GIVEN WITH THE SEED: THE CARDS: each row of YtbdccfgeildebaaDoorRows.lean that lists a variable, with what it lists TIED to the program's text (the seventh form; the later family's looks); each row that meets fmt, with fmt's text TOLD by the authors' own Lean function (tested against real Go, not proved from fmt's source: count such statements apart). THE CARD IS WHAT COUNTS. Prove the row's statement (the work); the ties are given (YtbdccfgeildebaaDoorTie.lean); close each card by the builder's one call (the guide's Derived/Test/ToyasCard.lean, 'card_holds'). Laid BY PROGRAM, IN A SANDBOX (cutbox-door.mjs). By AI agents, Wed Nov 11 2026. No macro, syntax, notation, axiom, sorry.
-/
import Derived.Test.YtbdccfgeildebaaDoorRows
import GoSem.ClaimSeven
namespace Go.Proofs.YtbdccfgeildebaaDoor
namespace Rows

/-- THE TIED CARD OF 'ratemilllaw.Names'. -/
def namesCard : Claim7 := { stood := { row := namesRow, standIns := [], harness := (true, "00b68b63fb54ff5ccc90bde9375f3cf1623dd4a5e1fabe16cad97d217ab62a87"), looks := true }, kinds := [], alts := [], laidByText := true, laidKinds := [.sentinel, .sentinel, .sentinel, .sentinel, .wider, .wider, .wider, .wider, .wider, .wider, .wider, .wider, .wider, .wider, .sentinel, .sentinel, .sentinel], laidTests := true, laidLooks := .later }
def NamesCardSaid : Prop := Claim7.holds Tryd.pinned (.plain (OpenSpec.ofChange namesSpec)) namesCard

/-- THE TIED CARD OF 'ratemilllaw.Untorn'. -/
def untornCard : Claim7 := { stood := { row := untornRow, standIns := [], harness := (true, "00b68b63fb54ff5ccc90bde9375f3cf1623dd4a5e1fabe16cad97d217ab62a87"), looks := true }, kinds := [], alts := [], laidByText := true, laidKinds := [.sentinel, .sentinel, .sentinel, .sentinel], laidTests := true, laidLooks := .later }
def UntornCardSaid : Prop := Claim7.holds Tryd.pinned (.plain (OpenSpec.ofChange untornSpec)) untornCard

/-- THE TIED CARD OF 'ratemilllaw.Fresh'. -/
def freshCard : Claim7 := { stood := { row := freshRow, standIns := [], harness := (true, "00b68b63fb54ff5ccc90bde9375f3cf1623dd4a5e1fabe16cad97d217ab62a87"), looks := true }, kinds := [], alts := [], laidByText := true, laidKinds := [.sentinel, .sentinel, .sentinel, .sentinel], laidTests := true, laidLooks := .later }
def FreshCardSaid : Prop := Claim7.holds Tryd.pinned (.plain (OpenSpec.ofChange freshSpec)) freshCard

/-- THE SECOND FORM's CARD OF 'ratemilllaw.Names'. -/
def namesUptoCard : Claim7 := { stood := { row := namesUptoRow, standIns := [], harness := (true, "00b68b63fb54ff5ccc90bde9375f3cf1623dd4a5e1fabe16cad97d217ab62a87"), looks := true }, kinds := [], alts := [], laidByText := true, laidKinds := [.sentinel, .sentinel, .sentinel, .sentinel, .wider, .wider, .wider, .wider, .wider, .wider, .wider, .wider, .wider, .wider, .sentinel, .sentinel, .sentinel], laidTests := true, laidLooks := .later }
def NamesUptoCardSaid : Prop := Claim7.holds Tryd.pinned (.plain (OpenSpec.upto namesSpec)) namesUptoCard

/-- THE SECOND FORM's CARD OF 'ratemilllaw.Untorn'. -/
def untornUptoCard : Claim7 := { stood := { row := untornUptoRow, standIns := [], harness := (true, "00b68b63fb54ff5ccc90bde9375f3cf1623dd4a5e1fabe16cad97d217ab62a87"), looks := true }, kinds := [], alts := [], laidByText := true, laidKinds := [.sentinel, .sentinel, .sentinel, .sentinel], laidTests := true, laidLooks := .later }
def UntornUptoCardSaid : Prop := Claim7.holds Tryd.pinned (.plain (OpenSpec.upto untornSpec)) untornUptoCard

/-- THE SECOND FORM's CARD OF 'ratemilllaw.Fresh'. -/
def freshUptoCard : Claim7 := { stood := { row := freshUptoRow, standIns := [], harness := (true, "00b68b63fb54ff5ccc90bde9375f3cf1623dd4a5e1fabe16cad97d217ab62a87"), looks := true }, kinds := [], alts := [], laidByText := true, laidKinds := [.sentinel, .sentinel, .sentinel, .sentinel], laidTests := true, laidLooks := .later }
def FreshUptoCardSaid : Prop := Claim7.holds Tryd.pinned (.plain (OpenSpec.upto freshSpec)) freshUptoCard
end Rows
end Go.Proofs.YtbdccfgeildebaaDoor
