/-
  DERIVED. GIVEN WITH THE SEED: THE CARDS: each row of YtkoeaejfkgapcaaDoorRows.lean that lists a variable, with what it lists TIED to the program's text (the seventh form; the later family's looks); each row that meets fmt, with fmt's text TOLD by the authors' own Lean function (tested against real Go, not proved from fmt's source: count such statements apart). THE CARD IS WHAT COUNTS. Prove the row's statement (the work); the ties are given (YtkoeaejfkgapcaaDoorTie.lean); close each card by the builder's one call (the guide's Derived/Test/ToyasCard.lean, 'card_holds'). Laid BY PROGRAM, IN A SANDBOX (cutbox-door.mjs). By AI agents, Wed Nov 11 2026. No macro, syntax, notation, axiom, sorry.
-/
import Derived.Test.YtkoeaejfkgapcaaDoorRows
import GoSem.ClaimSeven
namespace Go.Proofs.YtkoeaejfkgapcaaDoor
namespace Rows

/-- THE TIED CARD OF 'fingerpostlaw01.ShaExpands'. -/
def shaExpandsCard : Claim7 := { stood := { row := shaExpandsRow, standIns := [], harness := (true, "4d45efd6aa38fb3938e27a98a0eaf9c30bbddd0d4c74198126db95ff97c7034a"), looks := false }, kinds := [], alts := [], laidByText := true, laidKinds := [.data], laidTests := true, laidLooks := .later }
def ShaExpandsCardSaid : Prop := Claim7.holds Tryd.pinned (.plain (OpenSpec.ofChange shaExpandsSpec)) shaExpandsCard

/-- THE TIED CARD OF 'fingerpostlaw01.ShaCompresses'. -/
def shaCompressesCard : Claim7 := { stood := { row := shaCompressesRow, standIns := [], harness := (true, "4d45efd6aa38fb3938e27a98a0eaf9c30bbddd0d4c74198126db95ff97c7034a"), looks := false }, kinds := [], alts := [], laidByText := true, laidKinds := [.data], laidTests := true, laidLooks := .later }
def ShaCompressesCardSaid : Prop := Claim7.holds Tryd.pinned (.plain (OpenSpec.ofChange shaCompressesSpec)) shaCompressesCard

/-- THE TIED CARD OF 'fingerpostlaw01.ShaPads'. -/
def shaPadsCard : Claim7 := { stood := { row := shaPadsRow, standIns := [], harness := (true, "4d45efd6aa38fb3938e27a98a0eaf9c30bbddd0d4c74198126db95ff97c7034a"), looks := false }, kinds := [], alts := [], laidByText := true, laidKinds := [.data], laidTests := true, laidLooks := .later }
def ShaPadsCardSaid : Prop := Claim7.holds Tryd.pinned (.plain (OpenSpec.ofChange shaPadsSpec)) shaPadsCard

/-- THE TIED CARD OF 'fingerpostlaw01.ShaSums'. -/
def shaSumsCard : Claim7 := { stood := { row := shaSumsRow, standIns := [], harness := (true, "4d45efd6aa38fb3938e27a98a0eaf9c30bbddd0d4c74198126db95ff97c7034a"), looks := false }, kinds := [], alts := [], laidByText := true, laidKinds := [.data], laidTests := true, laidLooks := .later }
def ShaSumsCardSaid : Prop := Claim7.holds Tryd.pinned (.plain (OpenSpec.ofChange shaSumsSpec)) shaSumsCard

/-- THE TIED CARD OF 'fingerpostlaw01.ShaParts'. -/
def shaPartsCard : Claim7 := { stood := { row := shaPartsRow, standIns := [], harness := (true, "4d45efd6aa38fb3938e27a98a0eaf9c30bbddd0d4c74198126db95ff97c7034a"), looks := false }, kinds := [], alts := [], laidByText := true, laidKinds := [.data], laidTests := true, laidLooks := .later }
def ShaPartsCardSaid : Prop := Claim7.holds Tryd.pinned (.plain (OpenSpec.ofChange shaPartsSpec)) shaPartsCard

/-- THE TIED CARD OF 'fingerpostlaw01.ShaBlock'. -/
def shaBlockCard : Claim7 := { stood := { row := shaBlockRow, standIns := [], harness := (true, "4d45efd6aa38fb3938e27a98a0eaf9c30bbddd0d4c74198126db95ff97c7034a"), looks := false }, kinds := [], alts := [], laidByText := true, laidKinds := [.data], laidTests := true, laidLooks := .later }
def ShaBlockCardSaid : Prop := Claim7.holds Tryd.pinned (.plain (OpenSpec.ofChange shaBlockSpec)) shaBlockCard

/-- THE SECOND FORM's CARD OF 'fingerpostlaw01.ShaExpands'. -/
def shaExpandsUptoCard : Claim7 := { stood := { row := shaExpandsUptoRow, standIns := [], harness := (true, "4d45efd6aa38fb3938e27a98a0eaf9c30bbddd0d4c74198126db95ff97c7034a"), looks := false }, kinds := [], alts := [], laidByText := true, laidKinds := [.data], laidTests := true, laidLooks := .later }
def ShaExpandsUptoCardSaid : Prop := Claim7.holds Tryd.pinned (.plain (OpenSpec.upto shaExpandsSpec)) shaExpandsUptoCard

/-- THE SECOND FORM's CARD OF 'fingerpostlaw01.ShaCompresses'. -/
def shaCompressesUptoCard : Claim7 := { stood := { row := shaCompressesUptoRow, standIns := [], harness := (true, "4d45efd6aa38fb3938e27a98a0eaf9c30bbddd0d4c74198126db95ff97c7034a"), looks := false }, kinds := [], alts := [], laidByText := true, laidKinds := [.data], laidTests := true, laidLooks := .later }
def ShaCompressesUptoCardSaid : Prop := Claim7.holds Tryd.pinned (.plain (OpenSpec.upto shaCompressesSpec)) shaCompressesUptoCard

/-- THE SECOND FORM's CARD OF 'fingerpostlaw01.ShaPads'. -/
def shaPadsUptoCard : Claim7 := { stood := { row := shaPadsUptoRow, standIns := [], harness := (true, "4d45efd6aa38fb3938e27a98a0eaf9c30bbddd0d4c74198126db95ff97c7034a"), looks := false }, kinds := [], alts := [], laidByText := true, laidKinds := [.data], laidTests := true, laidLooks := .later }
def ShaPadsUptoCardSaid : Prop := Claim7.holds Tryd.pinned (.plain (OpenSpec.upto shaPadsSpec)) shaPadsUptoCard

/-- THE SECOND FORM's CARD OF 'fingerpostlaw01.ShaSums'. -/
def shaSumsUptoCard : Claim7 := { stood := { row := shaSumsUptoRow, standIns := [], harness := (true, "4d45efd6aa38fb3938e27a98a0eaf9c30bbddd0d4c74198126db95ff97c7034a"), looks := false }, kinds := [], alts := [], laidByText := true, laidKinds := [.data], laidTests := true, laidLooks := .later }
def ShaSumsUptoCardSaid : Prop := Claim7.holds Tryd.pinned (.plain (OpenSpec.upto shaSumsSpec)) shaSumsUptoCard

/-- THE SECOND FORM's CARD OF 'fingerpostlaw01.ShaParts'. -/
def shaPartsUptoCard : Claim7 := { stood := { row := shaPartsUptoRow, standIns := [], harness := (true, "4d45efd6aa38fb3938e27a98a0eaf9c30bbddd0d4c74198126db95ff97c7034a"), looks := false }, kinds := [], alts := [], laidByText := true, laidKinds := [.data], laidTests := true, laidLooks := .later }
def ShaPartsUptoCardSaid : Prop := Claim7.holds Tryd.pinned (.plain (OpenSpec.upto shaPartsSpec)) shaPartsUptoCard

/-- THE SECOND FORM's CARD OF 'fingerpostlaw01.ShaBlock'. -/
def shaBlockUptoCard : Claim7 := { stood := { row := shaBlockUptoRow, standIns := [], harness := (true, "4d45efd6aa38fb3938e27a98a0eaf9c30bbddd0d4c74198126db95ff97c7034a"), looks := false }, kinds := [], alts := [], laidByText := true, laidKinds := [.data], laidTests := true, laidLooks := .later }
def ShaBlockUptoCardSaid : Prop := Claim7.holds Tryd.pinned (.plain (OpenSpec.upto shaBlockSpec)) shaBlockUptoCard
end Rows
end Go.Proofs.YtkoeaejfkgapcaaDoor
