/-
  DERIVED. GIVEN WITH THE SEED: THE CARDS: each row of YtljdfainnmpjnaaDoorRows.lean that lists a variable, with what it lists TIED to the program's text (the seventh form; the later family's looks); each row that meets fmt, with fmt's text TOLD by the authors' own Lean function (tested against real Go, not proved from fmt's source: count such statements apart). THE CARD IS WHAT COUNTS. Prove the row's statement (the work); the ties are given (YtljdfainnmpjnaaDoorTie.lean); close each card by the builder's one call (the guide's Derived/Test/ToyasCard.lean, 'card_holds'). Laid BY PROGRAM, IN A SANDBOX (cutbox-door.mjs). By AI agents, Wed Nov 11 2026. No macro, syntax, notation, axiom, sorry.
-/
import Derived.Test.YtljdfainnmpjnaaDoorRows
import GoSem.ClaimSeven
namespace Go.Proofs.YtljdfainnmpjnaaDoor
namespace Rows

/-- THE TIED CARD OF 'munimentlaw2.ValReads'. -/
def valReadsCard : Claim7 := { stood := { row := valReadsRow, standIns := [], harness := (true, "0479e69b6b0c262a9c3608d3c82debdb915bfac5e1bbb482e207dbdd43e0d29d"), looks := true }, kinds := [], alts := [], laidByText := true, laidKinds := [.data, .pinned], laidTests := true, laidLooks := .later }
def ValReadsCardSaid : Prop := Claim7.holds Tryd.pinned (.plain (OpenSpec.ofChange valReadsSpec)) valReadsCard

/-- THE TIED CARD OF 'munimentlaw2.ValBack'. -/
def valBackCard : Claim7 := { stood := { row := valBackRow, standIns := [], harness := (true, "0479e69b6b0c262a9c3608d3c82debdb915bfac5e1bbb482e207dbdd43e0d29d"), looks := true }, kinds := [], alts := [], laidByText := true, laidKinds := [.data, .pinned], laidTests := true, laidLooks := .later }
def ValBackCardSaid : Prop := Claim7.holds Tryd.pinned (.plain (OpenSpec.ofChange valBackSpec)) valBackCard

/-- THE TIED CARD OF 'munimentlaw2.ValKept'. -/
def valKeptCard : Claim7 := { stood := { row := valKeptRow, standIns := [], harness := (true, "0479e69b6b0c262a9c3608d3c82debdb915bfac5e1bbb482e207dbdd43e0d29d"), looks := true }, kinds := [], alts := [], laidByText := true, laidKinds := [.data, .pinned], laidTests := true, laidLooks := .later }
def ValKeptCardSaid : Prop := Claim7.holds Tryd.pinned (.plain (OpenSpec.ofChange valKeptSpec)) valKeptCard

/-- THE TIED CARD OF 'munimentlaw2.ValDeep'. -/
def valDeepCard : Claim7 := { stood := { row := valDeepRow, standIns := [], harness := (true, "0479e69b6b0c262a9c3608d3c82debdb915bfac5e1bbb482e207dbdd43e0d29d"), looks := true }, kinds := [], alts := [], laidByText := true, laidKinds := [.data, .pinned], laidTests := true, laidLooks := .later }
def ValDeepCardSaid : Prop := Claim7.holds Tryd.pinned (.plain (OpenSpec.ofChange valDeepSpec)) valDeepCard

/-- THE TIED CARD OF 'munimentlaw2.ValWrites'. -/
def valWritesCard : Claim7 := { stood := { row := valWritesRow, standIns := [], harness := (true, "0479e69b6b0c262a9c3608d3c82debdb915bfac5e1bbb482e207dbdd43e0d29d"), looks := true }, kinds := [], alts := [], laidByText := true, laidKinds := [.data, .pinned], laidTests := true, laidLooks := .later }
def ValWritesCardSaid : Prop := Claim7.holds Tryd.pinned (.plain (OpenSpec.ofChange valWritesSpec)) valWritesCard

/-- THE TIED CARD OF 'munimentlaw2.ValOrders'. -/
def valOrdersCard : Claim7 := { stood := { row := valOrdersRow, standIns := [], harness := (true, "0479e69b6b0c262a9c3608d3c82debdb915bfac5e1bbb482e207dbdd43e0d29d"), looks := true }, kinds := [], alts := [], laidByText := true, laidKinds := [.data, .pinned], laidTests := true, laidLooks := .later }
def ValOrdersCardSaid : Prop := Claim7.holds Tryd.pinned (.plain (OpenSpec.ofChange valOrdersSpec)) valOrdersCard

/-- THE TIED CARD OF 'munimentlaw2.ValChain'. -/
def valChainCard : Claim7 := { stood := { row := valChainRow, standIns := [], harness := (true, "0479e69b6b0c262a9c3608d3c82debdb915bfac5e1bbb482e207dbdd43e0d29d"), looks := true }, kinds := [], alts := [], laidByText := true, laidKinds := [.data, .pinned], laidTests := true, laidLooks := .later }
def ValChainCardSaid : Prop := Claim7.holds Tryd.pinned (.plain (OpenSpec.ofChange valChainSpec)) valChainCard

/-- THE TIED CARD OF 'munimentlaw2.ValSizes'. -/
def valSizesCard : Claim7 := { stood := { row := valSizesRow, standIns := [], harness := (true, "0479e69b6b0c262a9c3608d3c82debdb915bfac5e1bbb482e207dbdd43e0d29d"), looks := true }, kinds := [], alts := [], laidByText := true, laidKinds := [.data, .pinned], laidTests := true, laidLooks := .later }
def ValSizesCardSaid : Prop := Claim7.holds Tryd.pinned (.plain (OpenSpec.ofChange valSizesSpec)) valSizesCard

/-- THE TIED CARD OF 'munimentlaw2.ValPaths'. -/
def valPathsCard : Claim7 := { stood := { row := valPathsRow, standIns := [], harness := (true, "0479e69b6b0c262a9c3608d3c82debdb915bfac5e1bbb482e207dbdd43e0d29d"), looks := true }, kinds := [], alts := [], laidByText := true, laidKinds := [.data, .pinned], laidTests := true, laidLooks := .later }
def ValPathsCardSaid : Prop := Claim7.holds Tryd.pinned (.plain (OpenSpec.ofChange valPathsSpec)) valPathsCard

/-- THE TIED CARD OF 'munimentlaw2.ValFields'. -/
def valFieldsCard : Claim7 := { stood := { row := valFieldsRow, standIns := [], harness := (true, "0479e69b6b0c262a9c3608d3c82debdb915bfac5e1bbb482e207dbdd43e0d29d"), looks := true }, kinds := [], alts := [], laidByText := true, laidKinds := [.data, .pinned], laidTests := true, laidLooks := .later }
def ValFieldsCardSaid : Prop := Claim7.holds Tryd.pinned (.plain (OpenSpec.ofChange valFieldsSpec)) valFieldsCard

/-- THE TIED CARD OF 'munimentlaw2.ValKnown'. -/
def valKnownCard : Claim7 := { stood := { row := valKnownRow, standIns := [], harness := (true, "0479e69b6b0c262a9c3608d3c82debdb915bfac5e1bbb482e207dbdd43e0d29d"), looks := true }, kinds := [], alts := [], laidByText := true, laidKinds := [.data, .pinned], laidTests := true, laidLooks := .later }
def ValKnownCardSaid : Prop := Claim7.holds Tryd.pinned (.plain (OpenSpec.ofChange valKnownSpec)) valKnownCard

/-- THE SECOND FORM's CARD OF 'munimentlaw2.ValReads'. -/
def valReadsUptoCard : Claim7 := { stood := { row := valReadsUptoRow, standIns := [], harness := (true, "0479e69b6b0c262a9c3608d3c82debdb915bfac5e1bbb482e207dbdd43e0d29d"), looks := true }, kinds := [], alts := [], laidByText := true, laidKinds := [.data, .pinned], laidTests := true, laidLooks := .later }
def ValReadsUptoCardSaid : Prop := Claim7.holds Tryd.pinned (.plain (OpenSpec.upto valReadsSpec)) valReadsUptoCard

/-- THE SECOND FORM's CARD OF 'munimentlaw2.ValBack'. -/
def valBackUptoCard : Claim7 := { stood := { row := valBackUptoRow, standIns := [], harness := (true, "0479e69b6b0c262a9c3608d3c82debdb915bfac5e1bbb482e207dbdd43e0d29d"), looks := true }, kinds := [], alts := [], laidByText := true, laidKinds := [.data, .pinned], laidTests := true, laidLooks := .later }
def ValBackUptoCardSaid : Prop := Claim7.holds Tryd.pinned (.plain (OpenSpec.upto valBackSpec)) valBackUptoCard

/-- THE SECOND FORM's CARD OF 'munimentlaw2.ValKept'. -/
def valKeptUptoCard : Claim7 := { stood := { row := valKeptUptoRow, standIns := [], harness := (true, "0479e69b6b0c262a9c3608d3c82debdb915bfac5e1bbb482e207dbdd43e0d29d"), looks := true }, kinds := [], alts := [], laidByText := true, laidKinds := [.data, .pinned], laidTests := true, laidLooks := .later }
def ValKeptUptoCardSaid : Prop := Claim7.holds Tryd.pinned (.plain (OpenSpec.upto valKeptSpec)) valKeptUptoCard

/-- THE SECOND FORM's CARD OF 'munimentlaw2.ValDeep'. -/
def valDeepUptoCard : Claim7 := { stood := { row := valDeepUptoRow, standIns := [], harness := (true, "0479e69b6b0c262a9c3608d3c82debdb915bfac5e1bbb482e207dbdd43e0d29d"), looks := true }, kinds := [], alts := [], laidByText := true, laidKinds := [.data, .pinned], laidTests := true, laidLooks := .later }
def ValDeepUptoCardSaid : Prop := Claim7.holds Tryd.pinned (.plain (OpenSpec.upto valDeepSpec)) valDeepUptoCard

/-- THE SECOND FORM's CARD OF 'munimentlaw2.ValWrites'. -/
def valWritesUptoCard : Claim7 := { stood := { row := valWritesUptoRow, standIns := [], harness := (true, "0479e69b6b0c262a9c3608d3c82debdb915bfac5e1bbb482e207dbdd43e0d29d"), looks := true }, kinds := [], alts := [], laidByText := true, laidKinds := [.data, .pinned], laidTests := true, laidLooks := .later }
def ValWritesUptoCardSaid : Prop := Claim7.holds Tryd.pinned (.plain (OpenSpec.upto valWritesSpec)) valWritesUptoCard

/-- THE SECOND FORM's CARD OF 'munimentlaw2.ValOrders'. -/
def valOrdersUptoCard : Claim7 := { stood := { row := valOrdersUptoRow, standIns := [], harness := (true, "0479e69b6b0c262a9c3608d3c82debdb915bfac5e1bbb482e207dbdd43e0d29d"), looks := true }, kinds := [], alts := [], laidByText := true, laidKinds := [.data, .pinned], laidTests := true, laidLooks := .later }
def ValOrdersUptoCardSaid : Prop := Claim7.holds Tryd.pinned (.plain (OpenSpec.upto valOrdersSpec)) valOrdersUptoCard

/-- THE SECOND FORM's CARD OF 'munimentlaw2.ValChain'. -/
def valChainUptoCard : Claim7 := { stood := { row := valChainUptoRow, standIns := [], harness := (true, "0479e69b6b0c262a9c3608d3c82debdb915bfac5e1bbb482e207dbdd43e0d29d"), looks := true }, kinds := [], alts := [], laidByText := true, laidKinds := [.data, .pinned], laidTests := true, laidLooks := .later }
def ValChainUptoCardSaid : Prop := Claim7.holds Tryd.pinned (.plain (OpenSpec.upto valChainSpec)) valChainUptoCard

/-- THE SECOND FORM's CARD OF 'munimentlaw2.ValSizes'. -/
def valSizesUptoCard : Claim7 := { stood := { row := valSizesUptoRow, standIns := [], harness := (true, "0479e69b6b0c262a9c3608d3c82debdb915bfac5e1bbb482e207dbdd43e0d29d"), looks := true }, kinds := [], alts := [], laidByText := true, laidKinds := [.data, .pinned], laidTests := true, laidLooks := .later }
def ValSizesUptoCardSaid : Prop := Claim7.holds Tryd.pinned (.plain (OpenSpec.upto valSizesSpec)) valSizesUptoCard

/-- THE SECOND FORM's CARD OF 'munimentlaw2.ValPaths'. -/
def valPathsUptoCard : Claim7 := { stood := { row := valPathsUptoRow, standIns := [], harness := (true, "0479e69b6b0c262a9c3608d3c82debdb915bfac5e1bbb482e207dbdd43e0d29d"), looks := true }, kinds := [], alts := [], laidByText := true, laidKinds := [.data, .pinned], laidTests := true, laidLooks := .later }
def ValPathsUptoCardSaid : Prop := Claim7.holds Tryd.pinned (.plain (OpenSpec.upto valPathsSpec)) valPathsUptoCard

/-- THE SECOND FORM's CARD OF 'munimentlaw2.ValFields'. -/
def valFieldsUptoCard : Claim7 := { stood := { row := valFieldsUptoRow, standIns := [], harness := (true, "0479e69b6b0c262a9c3608d3c82debdb915bfac5e1bbb482e207dbdd43e0d29d"), looks := true }, kinds := [], alts := [], laidByText := true, laidKinds := [.data, .pinned], laidTests := true, laidLooks := .later }
def ValFieldsUptoCardSaid : Prop := Claim7.holds Tryd.pinned (.plain (OpenSpec.upto valFieldsSpec)) valFieldsUptoCard

/-- THE SECOND FORM's CARD OF 'munimentlaw2.ValKnown'. -/
def valKnownUptoCard : Claim7 := { stood := { row := valKnownUptoRow, standIns := [], harness := (true, "0479e69b6b0c262a9c3608d3c82debdb915bfac5e1bbb482e207dbdd43e0d29d"), looks := true }, kinds := [], alts := [], laidByText := true, laidKinds := [.data, .pinned], laidTests := true, laidLooks := .later }
def ValKnownUptoCardSaid : Prop := Claim7.holds Tryd.pinned (.plain (OpenSpec.upto valKnownSpec)) valKnownUptoCard
end Rows
end Go.Proofs.YtljdfainnmpjnaaDoor
