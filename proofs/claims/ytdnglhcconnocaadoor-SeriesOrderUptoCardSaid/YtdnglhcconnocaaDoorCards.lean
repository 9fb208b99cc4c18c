/-
  DERIVED. GIVEN WITH THE SEED: THE CARDS: each row of YtdnglhcconnocaaDoorRows.lean that lists a variable, with what it lists TIED to the program's text (the seventh form; the later family's looks); each row that meets fmt, with fmt's text TOLD by the authors' own Lean function (tested against real Go, not proved from fmt's source: count such statements apart). THE CARD IS WHAT COUNTS. Prove the row's statement (the work); the ties are given (YtdnglhcconnocaaDoorTie.lean); close each card by the builder's one call (the guide's Derived/Test/ToyasCard.lean, 'card_holds'). Laid BY PROGRAM, IN A SANDBOX (cutbox-door.mjs). By AI agents, Wed Nov 11 2026. No macro, syntax, notation, axiom, sorry.
-/
import Derived.Test.YtdnglhcconnocaaDoorRows
import GoSem.ClaimSeven
namespace Go.Proofs.YtdnglhcconnocaaDoor
namespace Rows

/-- THE TIED CARD OF 'tallyroomlaw20.SeriesPlays'. -/
def seriesPlaysCard : Claim7 := { stood := { row := seriesPlaysRow, standIns := [], harness := (true, "85dcbb172b25b01b2fec6c0d77dbcfacce0b323b1e415030776f4a0110135a03"), looks := true }, kinds := [], alts := [], laidByText := true, laidKinds := [.data, .data, .data], laidTests := true, laidLooks := .later }
def SeriesPlaysCardSaid : Prop := Claim7.holds Tryd.pinned (.plain (OpenSpec.ofChange seriesPlaysSpec)) seriesPlaysCard

/-- THE TIED CARD OF 'tallyroomlaw20.SeriesOrder'. -/
def seriesOrderCard : Claim7 := { stood := { row := seriesOrderRow, standIns := [], harness := (true, "85dcbb172b25b01b2fec6c0d77dbcfacce0b323b1e415030776f4a0110135a03"), looks := true }, kinds := [], alts := [], laidByText := true, laidKinds := [.data, .data, .data], laidTests := true, laidLooks := .later }
def SeriesOrderCardSaid : Prop := Claim7.holds Tryd.pinned (.plain (OpenSpec.ofChange seriesOrderSpec)) seriesOrderCard

/-- THE TIED CARD OF 'tallyroomlaw29.ScriptParses'. -/
def scriptParsesCard : Claim7 := { stood := { row := scriptParsesRow, standIns := [], harness := (true, "85dcbb172b25b01b2fec6c0d77dbcfacce0b323b1e415030776f4a0110135a03"), looks := true }, kinds := [], alts := [], laidByText := true, laidKinds := [.data, .data, .data, .data, .sentinel, .sentinel, .pinned], laidTests := true, laidLooks := .later }
def ScriptParsesCardSaid : Prop := Claim7.holds Tryd.pinned (.plain (OpenSpec.ofChange scriptParsesSpec)) scriptParsesCard

/-- THE TIED CARD OF 'tallyroomlaw29.ScriptJoins'. -/
def scriptJoinsCard : Claim7 := { stood := { row := scriptJoinsRow, standIns := [], harness := (true, "85dcbb172b25b01b2fec6c0d77dbcfacce0b323b1e415030776f4a0110135a03"), looks := true }, kinds := [], alts := [], laidByText := true, laidKinds := [.data, .data, .data, .data, .sentinel, .sentinel, .pinned], laidTests := true, laidLooks := .later }
def ScriptJoinsCardSaid : Prop := Claim7.holds Tryd.pinned (.plain (OpenSpec.ofChange scriptJoinsSpec)) scriptJoinsCard

/-- THE TIED CARD OF 'tallyroomlaw29.ScriptBytes'. -/
def scriptBytesCard : Claim7 := { stood := { row := scriptBytesRow, standIns := [], harness := (true, "85dcbb172b25b01b2fec6c0d77dbcfacce0b323b1e415030776f4a0110135a03"), looks := true }, kinds := [], alts := [], laidByText := true, laidKinds := [.data, .data, .data, .data, .sentinel, .sentinel, .pinned], laidTests := true, laidLooks := .later }
def ScriptBytesCardSaid : Prop := Claim7.holds Tryd.pinned (.plain (OpenSpec.ofChange scriptBytesSpec)) scriptBytesCard

/-- THE SECOND FORM's CARD OF 'tallyroomlaw20.SeriesPlays'. -/
def seriesPlaysUptoCard : Claim7 := { stood := { row := seriesPlaysUptoRow, standIns := [], harness := (true, "85dcbb172b25b01b2fec6c0d77dbcfacce0b323b1e415030776f4a0110135a03"), looks := true }, kinds := [], alts := [], laidByText := true, laidKinds := [.data, .data, .data], laidTests := true, laidLooks := .later }
def SeriesPlaysUptoCardSaid : Prop := Claim7.holds Tryd.pinned (.plain (OpenSpec.upto seriesPlaysSpec)) seriesPlaysUptoCard

/-- THE SECOND FORM's CARD OF 'tallyroomlaw20.SeriesOrder'. -/
def seriesOrderUptoCard : Claim7 := { stood := { row := seriesOrderUptoRow, standIns := [], harness := (true, "85dcbb172b25b01b2fec6c0d77dbcfacce0b323b1e415030776f4a0110135a03"), looks := true }, kinds := [], alts := [], laidByText := true, laidKinds := [.data, .data, .data], laidTests := true, laidLooks := .later }
def SeriesOrderUptoCardSaid : Prop := Claim7.holds Tryd.pinned (.plain (OpenSpec.upto seriesOrderSpec)) seriesOrderUptoCard

/-- THE SECOND FORM's CARD OF 'tallyroomlaw29.ScriptParses'. -/
def scriptParsesUptoCard : Claim7 := { stood := { row := scriptParsesUptoRow, standIns := [], harness := (true, "85dcbb172b25b01b2fec6c0d77dbcfacce0b323b1e415030776f4a0110135a03"), looks := true }, kinds := [], alts := [], laidByText := true, laidKinds := [.data, .data, .data, .data, .sentinel, .sentinel, .pinned], laidTests := true, laidLooks := .later }
def ScriptParsesUptoCardSaid : Prop := Claim7.holds Tryd.pinned (.plain (OpenSpec.upto scriptParsesSpec)) scriptParsesUptoCard

/-- THE SECOND FORM's CARD OF 'tallyroomlaw29.ScriptJoins'. -/
def scriptJoinsUptoCard : Claim7 := { stood := { row := scriptJoinsUptoRow, standIns := [], harness := (true, "85dcbb172b25b01b2fec6c0d77dbcfacce0b323b1e415030776f4a0110135a03"), looks := true }, kinds := [], alts := [], laidByText := true, laidKinds := [.data, .data, .data, .data, .sentinel, .sentinel, .pinned], laidTests := true, laidLooks := .later }
def ScriptJoinsUptoCardSaid : Prop := Claim7.holds Tryd.pinned (.plain (OpenSpec.upto scriptJoinsSpec)) scriptJoinsUptoCard

/-- THE SECOND FORM's CARD OF 'tallyroomlaw29.ScriptBytes'. -/
def scriptBytesUptoCard : Claim7 := { stood := { row := scriptBytesUptoRow, standIns := [], harness := (true, "85dcbb172b25b01b2fec6c0d77dbcfacce0b323b1e415030776f4a0110135a03"), looks := true }, kinds := [], alts := [], laidByText := true, laidKinds := [.data, .data, .data, .data, .sentinel, .sentinel, .pinned], laidTests := true, laidLooks := .later }
def ScriptBytesUptoCardSaid : Prop := Claim7.holds Tryd.pinned (.plain (OpenSpec.upto scriptBytesSpec)) scriptBytesUptoCard
end Rows
end Go.Proofs.YtdnglhcconnocaaDoor
