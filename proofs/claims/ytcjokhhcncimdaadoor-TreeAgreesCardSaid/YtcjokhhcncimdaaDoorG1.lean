/- Little helps: a guarded operation that is the only one to come up; a file is the same as itself. -/
import Derived.Test.YtcjokhhcncimdaaDoorRnd
import Derived.Test.YtcjokhhcncimdaaDoorW1
set_option linter.unusedVariables false
set_option linter.unusedSimpArgs false
namespace Go.Proofs.YtcjokhhcncimdaaDoor
open Go.RowKit Go.PF Go.Tr

/-- Number i is the one that may come up, its guard being for it. -/
theorem oneG {P : Program} {md : Region.Mode} {ops : Array Oper} {Q : Exit → Act → World → Prop} {S : World → Prop} {late : List Nat} (i : Nat) {oi : Oper} {rest : List Oper} {fuel : Nat} {listed : Array Bool} {a : Act} {w : World} (hi : ops.toList.drop i = oi :: rest) (hr : Region.ready md ops listed = [i]) (hg : Region.wanted oi (yielded ops a.tmps) = true)
    (h : ∀ K : Act → World → Prop, (∀ a' w', (i ∉ late → S w') → wpAnyT P md ops Q S late fuel (listed.setIfInBounds i true) a' w' → K a' w') → oi.wp P a w K Q) : wpAnyT P md ops Q S late (fuel + 1) listed a w := by
  refine ⟨fun h0 => (by rw [hr] at h0; cases h0), fun j hj => ?_⟩
  rw [hr] at hj
  obtain rfl : j = i := by simpa using hj
  unfold wpOp
  simp only [getElem?_of_drop hi, hg, if_true]
  exact .inl (h _ fun a' w' h1 h2 => ⟨h1, h2⟩)

theorem same_file_eq (v1 v2 : Value) (f : FileV) (w : World) (h1 : FileIs w v1 f) (h2 : FileIs w v2 f) :
    Calls Tryd.prog 28 #[v1, v2] w fun e w' => e = .returned (.bool true) ∧ Ext w w' := by
  refine (samefile_any v1 v2 f f w h1 h2).mono ?_
  rintro e w' ⟨rfl, hx⟩
  exact ⟨by rw [decide_eq_true rfl], hx⟩
theorem takeQ_succ {l : List ByteArray} {i : Nat} {p : ByteArray} (h : l[i]? = some p) : l.take (i + 1) = l.take i ++ [p] := by rw [List.take_add_one, h]; rfl
end Go.Proofs.YtcjokhhcncimdaaDoor
