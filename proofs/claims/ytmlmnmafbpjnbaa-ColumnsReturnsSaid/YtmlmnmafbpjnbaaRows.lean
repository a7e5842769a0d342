/-
  No cell of these rows narrows 'for every input' (looked for: loops, veiled, ifaces, maps, wideKeys, modest, calm, conditions, laid).
  DERIVED. THE GIVEN ROWS OF THIS SEAT. 7 by the template 'for every input the law returns true; each argument reads behind the call as it read before'; 0 by the template 'total and deterministic' (their statements: YtmlmnmafbpjnbaaTotals.lean).
  GIVEN WITH THE SEED: the statements are not yours to turn. If you find one false, say at which input.
  Laid BY PROGRAM, IN A SANDBOX (cutbox-rows.mjs): the forced cells as the released guide's own fill.sh prints them over the translation e9f691093cb62edd… (all of the seat's roots in one cut). By AI agents, Wed Nov 11 2026. No macro, syntax, notation, axiom, sorry.
-/
import Derived.Test.YtmlmnmafbpjnbaaChecked
import GoSem.Claim
import GoSem.ClaimJoined
import GoSem.ClaimMapViews
import Derived.JoinedTies
import Derived.KernelRfl
namespace Go.Proofs.Ytmlmnmafbpjnbaa
/- THE CELL 'sum', in the pinned program and in every row, IS THE sha256 OF THE DUMP (.gsa) THAT YtmlmnmafbpjnbaaProg.lean LOADS. Nothing in Lean hashes anything: it is a label: what it is worth is what the hold of that sum in a sandbox is worth. -/
noncomputable def Try.pinned : Pinned := { name := "ytmlmnmafbpjnbaa", sum := "e9f691093cb62edd0815145c635ed31c6b53c00c8c3c2387e1749e22f800f3e6", checked := Try.checked }
namespace Rows
def none {H : Type} : Left H := { results := [], args := [] }

/-- 'compactorlaw39.ColumnsPlaces': WHATEVER THE INPUT: true; the input reads as it did. -/
def columnsPlacesSpec : ChangeSpec := { name := "columnsPlaces", fn := fun _ => fun
  | [d1, d2, d3] => { results := [.lit (.bool true)], args := [d1, d2, d3] }
  | _ => none }
def columnsPlacesRow : OpenClaim := { program := "ytmlmnmafbpjnbaa", sum := "e9f691093cb62edd0815145c635ed31c6b53c00c8c3c2387e1749e22f800f3e6", func := "compactor/compactorlaw39.ColumnsPlaces", spec := "columnsPlaces", unfollowed := true, recurses := true, apart := false }
def ColumnsPlacesSaid : Prop := columnsPlacesRow.holds Try.pinned (OpenSpec.ofChange columnsPlacesSpec)

/-- ITS FALSE NEIGHBOUR: 'it returns false'. Refute it at one input. -/
def columnsPlacesWrong : ChangeSpec := { name := "columnsPlaces", fn := fun _ => fun
  | [d1, d2, d3] => { results := [.lit (.bool false)], args := [d1, d2, d3] }
  | _ => none }
def ColumnsPlacesWrongFalsely : Prop := columnsPlacesRow.holds Try.pinned (OpenSpec.ofChange columnsPlacesWrong)

/-- 'compactorlaw39.ColumnsGuesses': WHATEVER THE INPUT: true; the input reads as it did. -/
def columnsGuessesSpec : ChangeSpec := { name := "columnsGuesses", fn := fun _ => fun
  | [d] => { results := [.lit (.bool true)], args := [d] }
  | _ => none }
def columnsGuessesRow : OpenClaim := { program := "ytmlmnmafbpjnbaa", sum := "e9f691093cb62edd0815145c635ed31c6b53c00c8c3c2387e1749e22f800f3e6", func := "compactor/compactorlaw39.ColumnsGuesses", spec := "columnsGuesses", unfollowed := true, recurses := true, apart := false }
def ColumnsGuessesSaid : Prop := columnsGuessesRow.holds Try.pinned (OpenSpec.ofChange columnsGuessesSpec)

/-- ITS FALSE NEIGHBOUR: 'it returns false'. Refute it at one input. -/
def columnsGuessesWrong : ChangeSpec := { name := "columnsGuesses", fn := fun _ => fun
  | [d] => { results := [.lit (.bool false)], args := [d] }
  | _ => none }
def ColumnsGuessesWrongFalsely : Prop := columnsGuessesRow.holds Try.pinned (OpenSpec.ofChange columnsGuessesWrong)

/-- 'compactorlaw39.ColumnsMoves': WHATEVER THE INPUT: true; the input reads as it did. -/
def columnsMovesSpec : ChangeSpec := { name := "columnsMoves", fn := fun _ => fun
  | [d1, d2, d3] => { results := [.lit (.bool true)], args := [d1, d2, d3] }
  | _ => none }
def columnsMovesRow : OpenClaim := { program := "ytmlmnmafbpjnbaa", sum := "e9f691093cb62edd0815145c635ed31c6b53c00c8c3c2387e1749e22f800f3e6", func := "compactor/compactorlaw39.ColumnsMoves", spec := "columnsMoves", unfollowed := true, recurses := true, apart := false }
def ColumnsMovesSaid : Prop := columnsMovesRow.holds Try.pinned (OpenSpec.ofChange columnsMovesSpec)

/-- ITS FALSE NEIGHBOUR: 'it returns false'. Refute it at one input. -/
def columnsMovesWrong : ChangeSpec := { name := "columnsMoves", fn := fun _ => fun
  | [d1, d2, d3] => { results := [.lit (.bool false)], args := [d1, d2, d3] }
  | _ => none }
def ColumnsMovesWrongFalsely : Prop := columnsMovesRow.holds Try.pinned (OpenSpec.ofChange columnsMovesWrong)

/-- 'compactorlaw39.ColumnsFinds': WHATEVER THE INPUT: true; the input reads as it did. -/
def columnsFindsSpec : ChangeSpec := { name := "columnsFinds", fn := fun _ => fun
  | [d1, d2] => { results := [.lit (.bool true)], args := [d1, d2] }
  | _ => none }
def columnsFindsRow : OpenClaim := { program := "ytmlmnmafbpjnbaa", sum := "e9f691093cb62edd0815145c635ed31c6b53c00c8c3c2387e1749e22f800f3e6", func := "compactor/compactorlaw39.ColumnsFinds", spec := "columnsFinds", unfollowed := true, recurses := true, apart := false }
def ColumnsFindsSaid : Prop := columnsFindsRow.holds Try.pinned (OpenSpec.ofChange columnsFindsSpec)

/-- ITS FALSE NEIGHBOUR: 'it returns false'. Refute it at one input. -/
def columnsFindsWrong : ChangeSpec := { name := "columnsFinds", fn := fun _ => fun
  | [d1, d2] => { results := [.lit (.bool false)], args := [d1, d2] }
  | _ => none }
def ColumnsFindsWrongFalsely : Prop := columnsFindsRow.holds Try.pinned (OpenSpec.ofChange columnsFindsWrong)

/-- 'compactorlaw39.ColumnsTranspose': WHATEVER THE INPUT: true; the input reads as it did. -/
def columnsTransposeSpec : ChangeSpec := { name := "columnsTranspose", fn := fun _ => fun
  | [d1, d2] => { results := [.lit (.bool true)], args := [d1, d2] }
  | _ => none }
def columnsTransposeRow : OpenClaim := { program := "ytmlmnmafbpjnbaa", sum := "e9f691093cb62edd0815145c635ed31c6b53c00c8c3c2387e1749e22f800f3e6", func := "compactor/compactorlaw39.ColumnsTranspose", spec := "columnsTranspose", unfollowed := true, recurses := true, apart := false }
def ColumnsTransposeSaid : Prop := columnsTransposeRow.holds Try.pinned (OpenSpec.ofChange columnsTransposeSpec)

/-- ITS FALSE NEIGHBOUR: 'it returns false'. Refute it at one input. -/
def columnsTransposeWrong : ChangeSpec := { name := "columnsTranspose", fn := fun _ => fun
  | [d1, d2] => { results := [.lit (.bool false)], args := [d1, d2] }
  | _ => none }
def ColumnsTransposeWrongFalsely : Prop := columnsTransposeRow.holds Try.pinned (OpenSpec.ofChange columnsTransposeWrong)

/-- 'compactorlaw39.ColumnsReturns': WHATEVER THE INPUT: true; the input reads as it did. -/
def columnsReturnsSpec : ChangeSpec := { name := "columnsReturns", fn := fun _ => fun
  | [d1, d2] => { results := [.lit (.bool true)], args := [d1, d2] }
  | _ => none }
def columnsReturnsRow : OpenClaim := { program := "ytmlmnmafbpjnbaa", sum := "e9f691093cb62edd0815145c635ed31c6b53c00c8c3c2387e1749e22f800f3e6", func := "compactor/compactorlaw39.ColumnsReturns", spec := "columnsReturns", unfollowed := true, recurses := true, apart := false }
def ColumnsReturnsSaid : Prop := columnsReturnsRow.holds Try.pinned (OpenSpec.ofChange columnsReturnsSpec)

/-- ITS FALSE NEIGHBOUR: 'it returns false'. Refute it at one input. -/
def columnsReturnsWrong : ChangeSpec := { name := "columnsReturns", fn := fun _ => fun
  | [d1, d2] => { results := [.lit (.bool false)], args := [d1, d2] }
  | _ => none }
def ColumnsReturnsWrongFalsely : Prop := columnsReturnsRow.holds Try.pinned (OpenSpec.ofChange columnsReturnsWrong)

/-- 'compactorlaw39.ColumnsTurns': WHATEVER THE INPUT: true; the input reads as it did. -/
def columnsTurnsSpec : ChangeSpec := { name := "columnsTurns", fn := fun _ => fun
  | [d1, d2] => { results := [.lit (.bool true)], args := [d1, d2] }
  | _ => none }
def columnsTurnsRow : OpenClaim := { program := "ytmlmnmafbpjnbaa", sum := "e9f691093cb62edd0815145c635ed31c6b53c00c8c3c2387e1749e22f800f3e6", func := "compactor/compactorlaw39.ColumnsTurns", spec := "columnsTurns", unfollowed := true, recurses := true, apart := false }
def ColumnsTurnsSaid : Prop := columnsTurnsRow.holds Try.pinned (OpenSpec.ofChange columnsTurnsSpec)

/-- ITS FALSE NEIGHBOUR: 'it returns false'. Refute it at one input. -/
def columnsTurnsWrong : ChangeSpec := { name := "columnsTurns", fn := fun _ => fun
  | [d1, d2] => { results := [.lit (.bool false)], args := [d1, d2] }
  | _ => none }
def ColumnsTurnsWrongFalsely : Prop := columnsTurnsRow.holds Try.pinned (OpenSpec.ofChange columnsTurnsWrong)

/- THE SECOND FORM. 'bulk': how many values and letters a reading holds, each counted each time it is reached (what is shared counts as often as it is met; a slice's spare places count too). A statement '..UptoSaid' is the law's where the arguments, and the package variables that the reading takes, are together of bulk at most 1048576: NARROWER than '..Said'. Prove '..Said' where nothing that the law and all that it calls make is longer than what came in: it says more and counts as full. Else prove '..UptoSaid'. A law counts once. -/
mutual
def uptoBulk {H : Type} : DataW H → Nat
  | .lit (.string bytes) => bytes.length + 1
  | .lit _ => 1
  | .nil => 1
  | .ptr d => uptoBulk d + 1
  | .slice elems spare => uptoBulkAll elems + uptoBulkAll spare + 1
  | .agg parts => uptoBulkAll parts + 1
  | .iface _ d => uptoBulk d + 1
  | .map entries => uptoBulkEntries entries + 1
  | .held _ => 1
def uptoBulkAll {H : Type} : List (DataW H) → Nat
  | [] => 0
  | d :: r => uptoBulk d + uptoBulkAll r
def uptoBulkEntries {H : Type} : List (Lit × DataW H) → Nat
  | [] => 0
  | x :: r => uptoBulkEntry x + uptoBulkEntries r
def uptoBulkEntry {H : Type} : Lit × DataW H → Nat
  | (.string bytes, d) => bytes.length + uptoBulk d + 1
  | (_, d) => uptoBulk d + 1
 end
def uptoSmall : (H : Type) → List (DataW H) → Bool := fun _ ds => decide (uptoBulkAll ds ≤ 1048576)
def OpenSpec.upto (s : _root_.Go.ChangeSpec) : _root_.Go.OpenSpec := { _root_.Go.OpenSpec.ofChange s with cond := some uptoSmall }

/-- 'compactorlaw39.ColumnsPlaces', WHERE WHAT IT READS IS OF BULK AT MOST 1048576: true; the input reads as it did. -/
def columnsPlacesUptoRow : OpenClaim := { program := "ytmlmnmafbpjnbaa", sum := "e9f691093cb62edd0815145c635ed31c6b53c00c8c3c2387e1749e22f800f3e6", func := "compactor/compactorlaw39.ColumnsPlaces", spec := "columnsPlaces", unfollowed := true, recurses := true, apart := false, narrowed := true }
def ColumnsPlacesUptoSaid : Prop := columnsPlacesUptoRow.holds Try.pinned (OpenSpec.upto columnsPlacesSpec)

/-- 'compactorlaw39.ColumnsGuesses', WHERE WHAT IT READS IS OF BULK AT MOST 1048576: true; the input reads as it did. -/
def columnsGuessesUptoRow : OpenClaim := { program := "ytmlmnmafbpjnbaa", sum := "e9f691093cb62edd0815145c635ed31c6b53c00c8c3c2387e1749e22f800f3e6", func := "compactor/compactorlaw39.ColumnsGuesses", spec := "columnsGuesses", unfollowed := true, recurses := true, apart := false, narrowed := true }
def ColumnsGuessesUptoSaid : Prop := columnsGuessesUptoRow.holds Try.pinned (OpenSpec.upto columnsGuessesSpec)

/-- 'compactorlaw39.ColumnsMoves', WHERE WHAT IT READS IS OF BULK AT MOST 1048576: true; the input reads as it did. -/
def columnsMovesUptoRow : OpenClaim := { program := "ytmlmnmafbpjnbaa", sum := "e9f691093cb62edd0815145c635ed31c6b53c00c8c3c2387e1749e22f800f3e6", func := "compactor/compactorlaw39.ColumnsMoves", spec := "columnsMoves", unfollowed := true, recurses := true, apart := false, narrowed := true }
def ColumnsMovesUptoSaid : Prop := columnsMovesUptoRow.holds Try.pinned (OpenSpec.upto columnsMovesSpec)

/-- 'compactorlaw39.ColumnsFinds', WHERE WHAT IT READS IS OF BULK AT MOST 1048576: true; the input reads as it did. -/
def columnsFindsUptoRow : OpenClaim := { program := "ytmlmnmafbpjnbaa", sum := "e9f691093cb62edd0815145c635ed31c6b53c00c8c3c2387e1749e22f800f3e6", func := "compactor/compactorlaw39.ColumnsFinds", spec := "columnsFinds", unfollowed := true, recurses := true, apart := false, narrowed := true }
def ColumnsFindsUptoSaid : Prop := columnsFindsUptoRow.holds Try.pinned (OpenSpec.upto columnsFindsSpec)

/-- 'compactorlaw39.ColumnsTranspose', WHERE WHAT IT READS IS OF BULK AT MOST 1048576: true; the input reads as it did. -/
def columnsTransposeUptoRow : OpenClaim := { program := "ytmlmnmafbpjnbaa", sum := "e9f691093cb62edd0815145c635ed31c6b53c00c8c3c2387e1749e22f800f3e6", func := "compactor/compactorlaw39.ColumnsTranspose", spec := "columnsTranspose", unfollowed := true, recurses := true, apart := false, narrowed := true }
def ColumnsTransposeUptoSaid : Prop := columnsTransposeUptoRow.holds Try.pinned (OpenSpec.upto columnsTransposeSpec)

/-- 'compactorlaw39.ColumnsReturns', WHERE WHAT IT READS IS OF BULK AT MOST 1048576: true; the input reads as it did. -/
def columnsReturnsUptoRow : OpenClaim := { program := "ytmlmnmafbpjnbaa", sum := "e9f691093cb62edd0815145c635ed31c6b53c00c8c3c2387e1749e22f800f3e6", func := "compactor/compactorlaw39.ColumnsReturns", spec := "columnsReturns", unfollowed := true, recurses := true, apart := false, narrowed := true }
def ColumnsReturnsUptoSaid : Prop := columnsReturnsUptoRow.holds Try.pinned (OpenSpec.upto columnsReturnsSpec)

/-- 'compactorlaw39.ColumnsTurns', WHERE WHAT IT READS IS OF BULK AT MOST 1048576: true; the input reads as it did. -/
def columnsTurnsUptoRow : OpenClaim := { program := "ytmlmnmafbpjnbaa", sum := "e9f691093cb62edd0815145c635ed31c6b53c00c8c3c2387e1749e22f800f3e6", func := "compactor/compactorlaw39.ColumnsTurns", spec := "columnsTurns", unfollowed := true, recurses := true, apart := false, narrowed := true }
def ColumnsTurnsUptoSaid : Prop := columnsTurnsUptoRow.holds Try.pinned (OpenSpec.upto columnsTurnsSpec)

end Rows
end Go.Proofs.Ytmlmnmafbpjnbaa
