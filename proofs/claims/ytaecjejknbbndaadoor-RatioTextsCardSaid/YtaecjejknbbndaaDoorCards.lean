/-
  DERIVED. GIVEN WITH THE SEED: THE CARDS: each row of YtaecjejknbbndaaDoorRows.lean that lists a variable, with what it lists TIED to the program's text (the seventh form; the later family's looks); each row that meets fmt, with fmt's text TOLD by the authors' own Lean function (tested against real Go, not proved from fmt's source: count such statements apart). THE CARD IS WHAT COUNTS. Prove the row's statement (the work); the ties are given (YtaecjejknbbndaaDoorTie.lean); close each card by the builder's one call (the guide's Derived/Test/ToyasCard.lean, 'card_holds'). Laid BY PROGRAM, IN A SANDBOX (cutbox-door.mjs). By AI agents, Wed Nov 11 2026. No macro, syntax, notation, axiom, sorry.
-/
import Derived.Test.YtaecjejknbbndaaDoorRows
import GoSem.ClaimSeven
namespace Go.Proofs.YtaecjejknbbndaaDoor
namespace Rows

/-- THE TIED CARD OF 'pagewatchlaw02.RatioTexts'. -/
def ratioTextsCard : Claim7 := { stood := { row := ratioTextsRow, standIns := [], harness := (true, "05eba6d3514e16f56f497d7c759955fe339eb06d7872db5d44d1dd0f963400ec"), looks := true }, kinds := [], alts := [], laidByText := true, laidKinds := [.data, .data, .data, .sentinel, .sentinel], laidTests := true, laidLooks := .later }
def RatioTextsCardSaid : Prop := Claim7.holds Tryd.pinned (.plain (OpenSpec.ofChange ratioTextsSpec)) ratioTextsCard

/-- THE TIED CARD OF 'pagewatchlaw02.RatioSums'. -/
def ratioSumsCard : Claim7 := { stood := { row := ratioSumsRow, standIns := [], harness := (true, "05eba6d3514e16f56f497d7c759955fe339eb06d7872db5d44d1dd0f963400ec"), looks := true }, kinds := [], alts := [], laidByText := true, laidKinds := [.data, .data, .data, .sentinel, .sentinel], laidTests := true, laidLooks := .later }
def RatioSumsCardSaid : Prop := Claim7.holds Tryd.pinned (.plain (OpenSpec.ofChange ratioSumsSpec)) ratioSumsCard

/-- THE TIED CARD OF 'pagewatchlaw02.RatioProducts'. -/
def ratioProductsCard : Claim7 := { stood := { row := ratioProductsRow, standIns := [], harness := (true, "05eba6d3514e16f56f497d7c759955fe339eb06d7872db5d44d1dd0f963400ec"), looks := true }, kinds := [], alts := [], laidByText := true, laidKinds := [.data, .data, .data, .sentinel, .sentinel], laidTests := true, laidLooks := .later }
def RatioProductsCardSaid : Prop := Claim7.holds Tryd.pinned (.plain (OpenSpec.ofChange ratioProductsSpec)) ratioProductsCard

/-- THE TIED CARD OF 'pagewatchlaw02.RatioOrder'. -/
def ratioOrderCard : Claim7 := { stood := { row := ratioOrderRow, standIns := [], harness := (true, "05eba6d3514e16f56f497d7c759955fe339eb06d7872db5d44d1dd0f963400ec"), looks := true }, kinds := [], alts := [], laidByText := true, laidKinds := [.data, .data, .data, .sentinel, .sentinel], laidTests := true, laidLooks := .later }
def RatioOrderCardSaid : Prop := Claim7.holds Tryd.pinned (.plain (OpenSpec.ofChange ratioOrderSpec)) ratioOrderCard

/-- THE TIED CARD OF 'pagewatchlaw02.RatioExact'. -/
def ratioExactCard : Claim7 := { stood := { row := ratioExactRow, standIns := [], harness := (true, "05eba6d3514e16f56f497d7c759955fe339eb06d7872db5d44d1dd0f963400ec"), looks := true }, kinds := [], alts := [], laidByText := true, laidKinds := [.data, .data, .data, .sentinel, .sentinel], laidTests := true, laidLooks := .later }
def RatioExactCardSaid : Prop := Claim7.holds Tryd.pinned (.plain (OpenSpec.ofChange ratioExactSpec)) ratioExactCard

/-- THE SECOND FORM's CARD OF 'pagewatchlaw02.RatioTexts'. -/
def ratioTextsUptoCard : Claim7 := { stood := { row := ratioTextsUptoRow, standIns := [], harness := (true, "05eba6d3514e16f56f497d7c759955fe339eb06d7872db5d44d1dd0f963400ec"), looks := true }, kinds := [], alts := [], laidByText := true, laidKinds := [.data, .data, .data, .sentinel, .sentinel], laidTests := true, laidLooks := .later }
def RatioTextsUptoCardSaid : Prop := Claim7.holds Tryd.pinned (.plain (OpenSpec.upto ratioTextsSpec)) ratioTextsUptoCard

/-- THE SECOND FORM's CARD OF 'pagewatchlaw02.RatioSums'. -/
def ratioSumsUptoCard : Claim7 := { stood := { row := ratioSumsUptoRow, standIns := [], harness := (true, "05eba6d3514e16f56f497d7c759955fe339eb06d7872db5d44d1dd0f963400ec"), looks := true }, kinds := [], alts := [], laidByText := true, laidKinds := [.data, .data, .data, .sentinel, .sentinel], laidTests := true, laidLooks := .later }
def RatioSumsUptoCardSaid : Prop := Claim7.holds Tryd.pinned (.plain (OpenSpec.upto ratioSumsSpec)) ratioSumsUptoCard

/-- THE SECOND FORM's CARD OF 'pagewatchlaw02.RatioProducts'. -/
def ratioProductsUptoCard : Claim7 := { stood := { row := ratioProductsUptoRow, standIns := [], harness := (true, "05eba6d3514e16f56f497d7c759955fe339eb06d7872db5d44d1dd0f963400ec"), looks := true }, kinds := [], alts := [], laidByText := true, laidKinds := [.data, .data, .data, .sentinel, .sentinel], laidTests := true, laidLooks := .later }
def RatioProductsUptoCardSaid : Prop := Claim7.holds Tryd.pinned (.plain (OpenSpec.upto ratioProductsSpec)) ratioProductsUptoCard

/-- THE SECOND FORM's CARD OF 'pagewatchlaw02.RatioOrder'. -/
def ratioOrderUptoCard : Claim7 := { stood := { row := ratioOrderUptoRow, standIns := [], harness := (true, "05eba6d3514e16f56f497d7c759955fe339eb06d7872db5d44d1dd0f963400ec"), looks := true }, kinds := [], alts := [], laidByText := true, laidKinds := [.data, .data, .data, .sentinel, .sentinel], laidTests := true, laidLooks := .later }
def RatioOrderUptoCardSaid : Prop := Claim7.holds Tryd.pinned (.plain (OpenSpec.upto ratioOrderSpec)) ratioOrderUptoCard

/-- THE SECOND FORM's CARD OF 'pagewatchlaw02.RatioExact'. -/
def ratioExactUptoCard : Claim7 := { stood := { row := ratioExactUptoRow, standIns := [], harness := (true, "05eba6d3514e16f56f497d7c759955fe339eb06d7872db5d44d1dd0f963400ec"), looks := true }, kinds := [], alts := [], laidByText := true, laidKinds := [.data, .data, .data, .sentinel, .sentinel], laidTests := true, laidLooks := .later }
def RatioExactUptoCardSaid : Prop := Claim7.holds Tryd.pinned (.plain (OpenSpec.upto ratioExactSpec)) ratioExactUptoCard
end Rows
end Go.Proofs.YtaecjejknbbndaaDoor
