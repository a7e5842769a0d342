/-
  DERIVED. GIVEN WITH THE SEED: THE CARDS: each row of YtcjokhhcncimdaaDoorRows.lean that lists a variable, with what it lists TIED to the program's text (the seventh form; the later family's looks); each row that meets fmt, with fmt's text TOLD by the authors' own Lean function (tested against real Go, not proved from fmt's source: count such statements apart). THE CARD IS WHAT COUNTS. Prove the row's statement (the work); the ties are given (YtcjokhhcncimdaaDoorTie.lean); close each card by the builder's one call (the guide's Derived/Test/ToyasCard.lean, 'card_holds'). Laid BY PROGRAM, IN A SANDBOX (cutbox-door.mjs). By AI agents, Wed Nov 11 2026. No macro, syntax, notation, axiom, sorry.
-/
import Derived.Test.YtcjokhhcncimdaaDoorRows
import GoSem.ClaimSeven
namespace Go.Proofs.YtcjokhhcncimdaaDoor
namespace Rows

/-- THE TIED CARD OF 'compactorlaw51.TreeMerges'. -/
def treeMergesCard : Claim7 := { stood := { row := treeMergesRow, standIns := [], harness := (true, "b5b3ca674d091c1c09bee2543eb5d4c2bef0480c508caf0d55915d6ea9c11763"), looks := false }, kinds := [], alts := [], laidByText := true, laidKinds := [.data, .pinned], laidTests := true, laidLooks := .later }
def TreeMergesCardSaid : Prop := Claim7.holds Tryd.pinned (.plain (OpenSpec.ofChange treeMergesSpec)) treeMergesCard

/-- THE TIED CARD OF 'compactorlaw51.TreeKeeps'. -/
def treeKeepsCard : Claim7 := { stood := { row := treeKeepsRow, standIns := [], harness := (true, "b5b3ca674d091c1c09bee2543eb5d4c2bef0480c508caf0d55915d6ea9c11763"), looks := false }, kinds := [], alts := [], laidByText := true, laidKinds := [.data, .pinned], laidTests := true, laidLooks := .later }
def TreeKeepsCardSaid : Prop := Claim7.holds Tryd.pinned (.plain (OpenSpec.ofChange treeKeepsSpec)) treeKeepsCard

/-- THE TIED CARD OF 'compactorlaw51.TreeChecks'. -/
def treeChecksCard : Claim7 := { stood := { row := treeChecksRow, standIns := [], harness := (true, "b5b3ca674d091c1c09bee2543eb5d4c2bef0480c508caf0d55915d6ea9c11763"), looks := false }, kinds := [], alts := [], laidByText := true, laidKinds := [.data, .pinned], laidTests := true, laidLooks := .later }
def TreeChecksCardSaid : Prop := Claim7.holds Tryd.pinned (.plain (OpenSpec.ofChange treeChecksSpec)) treeChecksCard

/-- THE TIED CARD OF 'compactorlaw51.TreePuts'. -/
def treePutsCard : Claim7 := { stood := { row := treePutsRow, standIns := [], harness := (true, "b5b3ca674d091c1c09bee2543eb5d4c2bef0480c508caf0d55915d6ea9c11763"), looks := false }, kinds := [], alts := [], laidByText := true, laidKinds := [.data, .pinned], laidTests := true, laidLooks := .later }
def TreePutsCardSaid : Prop := Claim7.holds Tryd.pinned (.plain (OpenSpec.ofChange treePutsSpec)) treePutsCard

/-- THE TIED CARD OF 'compactorlaw51.TreeEdits'. -/
def treeEditsCard : Claim7 := { stood := { row := treeEditsRow, standIns := [], harness := (true, "b5b3ca674d091c1c09bee2543eb5d4c2bef0480c508caf0d55915d6ea9c11763"), looks := false }, kinds := [], alts := [], laidByText := true, laidKinds := [.data, .pinned], laidTests := true, laidLooks := .later }
def TreeEditsCardSaid : Prop := Claim7.holds Tryd.pinned (.plain (OpenSpec.ofChange treeEditsSpec)) treeEditsCard

/-- THE TIED CARD OF 'compactorlaw51.TreePatches'. -/
def treePatchesCard : Claim7 := { stood := { row := treePatchesRow, standIns := [], harness := (true, "b5b3ca674d091c1c09bee2543eb5d4c2bef0480c508caf0d55915d6ea9c11763"), looks := false }, kinds := [], alts := [], laidByText := true, laidKinds := [.data, .pinned], laidTests := true, laidLooks := .later }
def TreePatchesCardSaid : Prop := Claim7.holds Tryd.pinned (.plain (OpenSpec.ofChange treePatchesSpec)) treePatchesCard

/-- THE TIED CARD OF 'compactorlaw51.TreeLeads'. -/
def treeLeadsCard : Claim7 := { stood := { row := treeLeadsRow, standIns := [], harness := (true, "b5b3ca674d091c1c09bee2543eb5d4c2bef0480c508caf0d55915d6ea9c11763"), looks := false }, kinds := [], alts := [], laidByText := true, laidKinds := [.data, .pinned], laidTests := true, laidLooks := .later }
def TreeLeadsCardSaid : Prop := Claim7.holds Tryd.pinned (.plain (OpenSpec.ofChange treeLeadsSpec)) treeLeadsCard

/-- THE TIED CARD OF 'compactorlaw51.TreeAgrees'. -/
def treeAgreesCard : Claim7 := { stood := { row := treeAgreesRow, standIns := [], harness := (true, "b5b3ca674d091c1c09bee2543eb5d4c2bef0480c508caf0d55915d6ea9c11763"), looks := false }, kinds := [], alts := [], laidByText := true, laidKinds := [.data, .pinned], laidTests := true, laidLooks := .later }
def TreeAgreesCardSaid : Prop := Claim7.holds Tryd.pinned (.plain (OpenSpec.ofChange treeAgreesSpec)) treeAgreesCard

/-- THE SECOND FORM's CARD OF 'compactorlaw51.TreeMerges'. -/
def treeMergesUptoCard : Claim7 := { stood := { row := treeMergesUptoRow, standIns := [], harness := (true, "b5b3ca674d091c1c09bee2543eb5d4c2bef0480c508caf0d55915d6ea9c11763"), looks := false }, kinds := [], alts := [], laidByText := true, laidKinds := [.data, .pinned], laidTests := true, laidLooks := .later }
def TreeMergesUptoCardSaid : Prop := Claim7.holds Tryd.pinned (.plain (OpenSpec.upto treeMergesSpec)) treeMergesUptoCard

/-- THE SECOND FORM's CARD OF 'compactorlaw51.TreeKeeps'. -/
def treeKeepsUptoCard : Claim7 := { stood := { row := treeKeepsUptoRow, standIns := [], harness := (true, "b5b3ca674d091c1c09bee2543eb5d4c2bef0480c508caf0d55915d6ea9c11763"), looks := false }, kinds := [], alts := [], laidByText := true, laidKinds := [.data, .pinned], laidTests := true, laidLooks := .later }
def TreeKeepsUptoCardSaid : Prop := Claim7.holds Tryd.pinned (.plain (OpenSpec.upto treeKeepsSpec)) treeKeepsUptoCard

/-- THE SECOND FORM's CARD OF 'compactorlaw51.TreeChecks'. -/
def treeChecksUptoCard : Claim7 := { stood := { row := treeChecksUptoRow, standIns := [], harness := (true, "b5b3ca674d091c1c09bee2543eb5d4c2bef0480c508caf0d55915d6ea9c11763"), looks := false }, kinds := [], alts := [], laidByText := true, laidKinds := [.data, .pinned], laidTests := true, laidLooks := .later }
def TreeChecksUptoCardSaid : Prop := Claim7.holds Tryd.pinned (.plain (OpenSpec.upto treeChecksSpec)) treeChecksUptoCard

/-- THE SECOND FORM's CARD OF 'compactorlaw51.TreePuts'. -/
def treePutsUptoCard : Claim7 := { stood := { row := treePutsUptoRow, standIns := [], harness := (true, "b5b3ca674d091c1c09bee2543eb5d4c2bef0480c508caf0d55915d6ea9c11763"), looks := false }, kinds := [], alts := [], laidByText := true, laidKinds := [.data, .pinned], laidTests := true, laidLooks := .later }
def TreePutsUptoCardSaid : Prop := Claim7.holds Tryd.pinned (.plain (OpenSpec.upto treePutsSpec)) treePutsUptoCard

/-- THE SECOND FORM's CARD OF 'compactorlaw51.TreeEdits'. -/
def treeEditsUptoCard : Claim7 := { stood := { row := treeEditsUptoRow, standIns := [], harness := (true, "b5b3ca674d091c1c09bee2543eb5d4c2bef0480c508caf0d55915d6ea9c11763"), looks := false }, kinds := [], alts := [], laidByText := true, laidKinds := [.data, .pinned], laidTests := true, laidLooks := .later }
def TreeEditsUptoCardSaid : Prop := Claim7.holds Tryd.pinned (.plain (OpenSpec.upto treeEditsSpec)) treeEditsUptoCard

/-- THE SECOND FORM's CARD OF 'compactorlaw51.TreePatches'. -/
def treePatchesUptoCard : Claim7 := { stood := { row := treePatchesUptoRow, standIns := [], harness := (true, "b5b3ca674d091c1c09bee2543eb5d4c2bef0480c508caf0d55915d6ea9c11763"), looks := false }, kinds := [], alts := [], laidByText := true, laidKinds := [.data, .pinned], laidTests := true, laidLooks := .later }
def TreePatchesUptoCardSaid : Prop := Claim7.holds Tryd.pinned (.plain (OpenSpec.upto treePatchesSpec)) treePatchesUptoCard

/-- THE SECOND FORM's CARD OF 'compactorlaw51.TreeLeads'. -/
def treeLeadsUptoCard : Claim7 := { stood := { row := treeLeadsUptoRow, standIns := [], harness := (true, "b5b3ca674d091c1c09bee2543eb5d4c2bef0480c508caf0d55915d6ea9c11763"), looks := false }, kinds := [], alts := [], laidByText := true, laidKinds := [.data, .pinned], laidTests := true, laidLooks := .later }
def TreeLeadsUptoCardSaid : Prop := Claim7.holds Tryd.pinned (.plain (OpenSpec.upto treeLeadsSpec)) treeLeadsUptoCard

/-- THE SECOND FORM's CARD OF 'compactorlaw51.TreeAgrees'. -/
def treeAgreesUptoCard : Claim7 := { stood := { row := treeAgreesUptoRow, standIns := [], harness := (true, "b5b3ca674d091c1c09bee2543eb5d4c2bef0480c508caf0d55915d6ea9c11763"), looks := false }, kinds := [], alts := [], laidByText := true, laidKinds := [.data, .pinned], laidTests := true, laidLooks := .later }
def TreeAgreesUptoCardSaid : Prop := Claim7.holds Tryd.pinned (.plain (OpenSpec.upto treeAgreesSpec)) treeAgreesUptoCard
end Rows
end Go.Proofs.YtcjokhhcncimdaaDoor
