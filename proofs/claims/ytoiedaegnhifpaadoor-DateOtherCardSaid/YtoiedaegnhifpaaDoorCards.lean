/-
  DERIVED. GIVEN WITH THE SEED: THE CARDS: each row of YtoiedaegnhifpaaDoorRows.lean that lists a variable, with what it lists TIED to the program's text (the seventh form; the later family's looks); each row that meets fmt, with fmt's text TOLD by the authors' own Lean function (tested against real Go, not proved from fmt's source: count such statements apart). THE CARD IS WHAT COUNTS. Prove the row's statement (the work); the ties are given (YtoiedaegnhifpaaDoorTie.lean); close each card by the builder's one call (the guide's Derived/Test/ToyasCard.lean, 'card_holds'). Laid BY PROGRAM, IN A SANDBOX (cutbox-door.mjs). By AI agents, Wed Nov 11 2026. No macro, syntax, notation, axiom, sorry.
-/
import Derived.Test.YtoiedaegnhifpaaDoorRows
import GoSem.ClaimSeven
namespace Go.Proofs.YtoiedaegnhifpaaDoor
namespace Rows

/-- THE TIED CARD OF 'decorumlaw03.DateForms'. -/
def dateFormsCard : Claim7 := { stood := { row := dateFormsRow, standIns := [], harness := (true, "d43b822c6cb1f0ce4c6b4ffe7e8ffa70ceab81801ca7cbace04aad11d5f82025"), looks := true }, kinds := [], alts := [], laidByText := true, laidKinds := [.data, .data, .data, .data, .listed, .data, .pinned], laidTests := true, laidLooks := .later }
def DateFormsCardSaid : Prop := Claim7.holds Tryd.pinned (.plain (OpenSpec.ofChange dateFormsSpec)) dateFormsCard

/-- THE TIED CARD OF 'decorumlaw03.DateWrites'. -/
def dateWritesCard : Claim7 := { stood := { row := dateWritesRow, standIns := [], harness := (true, "d43b822c6cb1f0ce4c6b4ffe7e8ffa70ceab81801ca7cbace04aad11d5f82025"), looks := true }, kinds := [], alts := [], laidByText := true, laidKinds := [.data, .data, .data, .data, .listed, .data, .pinned], laidTests := true, laidLooks := .later }
def DateWritesCardSaid : Prop := Claim7.holds Tryd.pinned (.plain (OpenSpec.ofChange dateWritesSpec)) dateWritesCard

/-- THE TIED CARD OF 'decorumlaw03.DateOther'. -/
def dateOtherCard : Claim7 := { stood := { row := dateOtherRow, standIns := [], harness := (true, "d43b822c6cb1f0ce4c6b4ffe7e8ffa70ceab81801ca7cbace04aad11d5f82025"), looks := true }, kinds := [], alts := [], laidByText := true, laidKinds := [.data, .data, .data, .data, .listed, .data, .pinned], laidTests := true, laidLooks := .later }
def DateOtherCardSaid : Prop := Claim7.holds Tryd.pinned (.plain (OpenSpec.ofChange dateOtherSpec)) dateOtherCard

/-- THE TIED CARD OF 'decorumlaw03.DateThree'. -/
def dateThreeCard : Claim7 := { stood := { row := dateThreeRow, standIns := [], harness := (true, "d43b822c6cb1f0ce4c6b4ffe7e8ffa70ceab81801ca7cbace04aad11d5f82025"), looks := true }, kinds := [], alts := [], laidByText := true, laidKinds := [.data, .data, .data, .data, .listed, .data, .pinned], laidTests := true, laidLooks := .later }
def DateThreeCardSaid : Prop := Claim7.holds Tryd.pinned (.plain (OpenSpec.ofChange dateThreeSpec)) dateThreeCard

/-- THE TIED CARD OF 'decorumlaw05.UrlParts'. -/
def urlPartsCard : Claim7 := { stood := { row := urlPartsRow, standIns := [], harness := (true, "d43b822c6cb1f0ce4c6b4ffe7e8ffa70ceab81801ca7cbace04aad11d5f82025"), looks := true }, kinds := [], alts := [], laidByText := true, laidKinds := [.data, .data, .data, .data, .sentinel, .sentinel, .pinned], laidTests := true, laidLooks := .later }
def UrlPartsCardSaid : Prop := Claim7.holds Tryd.pinned (.plain (OpenSpec.ofChange urlPartsSpec)) urlPartsCard

/-- THE TIED CARD OF 'decorumlaw05.UrlCleans'. -/
def urlCleansCard : Claim7 := { stood := { row := urlCleansRow, standIns := [], harness := (true, "d43b822c6cb1f0ce4c6b4ffe7e8ffa70ceab81801ca7cbace04aad11d5f82025"), looks := true }, kinds := [], alts := [], laidByText := true, laidKinds := [.data, .data, .data, .data, .sentinel, .sentinel, .pinned], laidTests := true, laidLooks := .later }
def UrlCleansCardSaid : Prop := Claim7.holds Tryd.pinned (.plain (OpenSpec.ofChange urlCleansSpec)) urlCleansCard

/-- THE TIED CARD OF 'decorumlaw05.UrlAlike'. -/
def urlAlikeCard : Claim7 := { stood := { row := urlAlikeRow, standIns := [], harness := (true, "d43b822c6cb1f0ce4c6b4ffe7e8ffa70ceab81801ca7cbace04aad11d5f82025"), looks := true }, kinds := [], alts := [], laidByText := true, laidKinds := [.data, .data, .data, .data, .sentinel, .sentinel, .pinned], laidTests := true, laidLooks := .later }
def UrlAlikeCardSaid : Prop := Claim7.holds Tryd.pinned (.plain (OpenSpec.ofChange urlAlikeSpec)) urlAlikeCard

/-- THE TIED CARD OF 'decorumlaw05.UrlKeys'. -/
def urlKeysCard : Claim7 := { stood := { row := urlKeysRow, standIns := [], harness := (true, "d43b822c6cb1f0ce4c6b4ffe7e8ffa70ceab81801ca7cbace04aad11d5f82025"), looks := true }, kinds := [], alts := [], laidByText := true, laidKinds := [.data, .data, .data, .data, .sentinel, .sentinel, .pinned], laidTests := true, laidLooks := .later }
def UrlKeysCardSaid : Prop := Claim7.holds Tryd.pinned (.plain (OpenSpec.ofChange urlKeysSpec)) urlKeysCard

/-- THE SECOND FORM's CARD OF 'decorumlaw03.DateForms'. -/
def dateFormsUptoCard : Claim7 := { stood := { row := dateFormsUptoRow, standIns := [], harness := (true, "d43b822c6cb1f0ce4c6b4ffe7e8ffa70ceab81801ca7cbace04aad11d5f82025"), looks := true }, kinds := [], alts := [], laidByText := true, laidKinds := [.data, .data, .data, .data, .listed, .data, .pinned], laidTests := true, laidLooks := .later }
def DateFormsUptoCardSaid : Prop := Claim7.holds Tryd.pinned (.plain (OpenSpec.upto dateFormsSpec)) dateFormsUptoCard

/-- THE SECOND FORM's CARD OF 'decorumlaw03.DateWrites'. -/
def dateWritesUptoCard : Claim7 := { stood := { row := dateWritesUptoRow, standIns := [], harness := (true, "d43b822c6cb1f0ce4c6b4ffe7e8ffa70ceab81801ca7cbace04aad11d5f82025"), looks := true }, kinds := [], alts := [], laidByText := true, laidKinds := [.data, .data, .data, .data, .listed, .data, .pinned], laidTests := true, laidLooks := .later }
def DateWritesUptoCardSaid : Prop := Claim7.holds Tryd.pinned (.plain (OpenSpec.upto dateWritesSpec)) dateWritesUptoCard

/-- THE SECOND FORM's CARD OF 'decorumlaw03.DateOther'. -/
def dateOtherUptoCard : Claim7 := { stood := { row := dateOtherUptoRow, standIns := [], harness := (true, "d43b822c6cb1f0ce4c6b4ffe7e8ffa70ceab81801ca7cbace04aad11d5f82025"), looks := true }, kinds := [], alts := [], laidByText := true, laidKinds := [.data, .data, .data, .data, .listed, .data, .pinned], laidTests := true, laidLooks := .later }
def DateOtherUptoCardSaid : Prop := Claim7.holds Tryd.pinned (.plain (OpenSpec.upto dateOtherSpec)) dateOtherUptoCard

/-- THE SECOND FORM's CARD OF 'decorumlaw03.DateThree'. -/
def dateThreeUptoCard : Claim7 := { stood := { row := dateThreeUptoRow, standIns := [], harness := (true, "d43b822c6cb1f0ce4c6b4ffe7e8ffa70ceab81801ca7cbace04aad11d5f82025"), looks := true }, kinds := [], alts := [], laidByText := true, laidKinds := [.data, .data, .data, .data, .listed, .data, .pinned], laidTests := true, laidLooks := .later }
def DateThreeUptoCardSaid : Prop := Claim7.holds Tryd.pinned (.plain (OpenSpec.upto dateThreeSpec)) dateThreeUptoCard

/-- THE SECOND FORM's CARD OF 'decorumlaw05.UrlParts'. -/
def urlPartsUptoCard : Claim7 := { stood := { row := urlPartsUptoRow, standIns := [], harness := (true, "d43b822c6cb1f0ce4c6b4ffe7e8ffa70ceab81801ca7cbace04aad11d5f82025"), looks := true }, kinds := [], alts := [], laidByText := true, laidKinds := [.data, .data, .data, .data, .sentinel, .sentinel, .pinned], laidTests := true, laidLooks := .later }
def UrlPartsUptoCardSaid : Prop := Claim7.holds Tryd.pinned (.plain (OpenSpec.upto urlPartsSpec)) urlPartsUptoCard

/-- THE SECOND FORM's CARD OF 'decorumlaw05.UrlCleans'. -/
def urlCleansUptoCard : Claim7 := { stood := { row := urlCleansUptoRow, standIns := [], harness := (true, "d43b822c6cb1f0ce4c6b4ffe7e8ffa70ceab81801ca7cbace04aad11d5f82025"), looks := true }, kinds := [], alts := [], laidByText := true, laidKinds := [.data, .data, .data, .data, .sentinel, .sentinel, .pinned], laidTests := true, laidLooks := .later }
def UrlCleansUptoCardSaid : Prop := Claim7.holds Tryd.pinned (.plain (OpenSpec.upto urlCleansSpec)) urlCleansUptoCard

/-- THE SECOND FORM's CARD OF 'decorumlaw05.UrlAlike'. -/
def urlAlikeUptoCard : Claim7 := { stood := { row := urlAlikeUptoRow, standIns := [], harness := (true, "d43b822c6cb1f0ce4c6b4ffe7e8ffa70ceab81801ca7cbace04aad11d5f82025"), looks := true }, kinds := [], alts := [], laidByText := true, laidKinds := [.data, .data, .data, .data, .sentinel, .sentinel, .pinned], laidTests := true, laidLooks := .later }
def UrlAlikeUptoCardSaid : Prop := Claim7.holds Tryd.pinned (.plain (OpenSpec.upto urlAlikeSpec)) urlAlikeUptoCard

/-- THE SECOND FORM's CARD OF 'decorumlaw05.UrlKeys'. -/
def urlKeysUptoCard : Claim7 := { stood := { row := urlKeysUptoRow, standIns := [], harness := (true, "d43b822c6cb1f0ce4c6b4ffe7e8ffa70ceab81801ca7cbace04aad11d5f82025"), looks := true }, kinds := [], alts := [], laidByText := true, laidKinds := [.data, .data, .data, .data, .sentinel, .sentinel, .pinned], laidTests := true, laidLooks := .later }
def UrlKeysUptoCardSaid : Prop := Claim7.holds Tryd.pinned (.plain (OpenSpec.upto urlKeysSpec)) urlKeysUptoCard
end Rows
end Go.Proofs.YtoiedaegnhifpaaDoor
