/- What keeps the rows of one element type. -/
import Derived.Test.YtcjokhhcncimdaaDoorS1
namespace Go.PF
open Go.RowKit
set_option linter.unusedVariables false

/-- Every row of elements of type e stands. -/
def KeepT (e : TypeId) (w w' : World) : Prop := ∀ (b : Nat) (cs : Array Value) (r : Nat × Nat), w.heap[b]? = some (.cells cs e r) → w'.heap[b]? = some (.cells cs e r)
theorem KeepT.refl (e : TypeId) (w : World) : KeepT e w w := fun _ _ _ h => h
theorem KeepT.trans {e : TypeId} {a b c : World} (h : KeepT e a b) (k : KeepT e b c) : KeepT e a c := fun g cs r hg => k g cs r (h g cs r hg)
theorem KeepT.of_ext {e : TypeId} {w w' : World} (h : Ext w w') : KeepT e w w' := fun _ _ _ hg => h.blk hg
theorem KeepT.set {e : TypeId} {w : World} {b : Nat} {cs : Array Value} {t : TypeId} {x : Nat × Nat} (hb : w.heap[b]? = some (.cells cs t x)) (ht : t ≠ e) (j : Nat) (v : Value) : KeepT e w (w.setCell ⟨b, j, none⟩ v) := fun g cs' r hg => by
  refine (Below.heap_setCell _ _ _ _ ?_).trans hg
  rintro rfl
  rw [hb] at hg
  cases hg
  exact ht rfl
theorem KeepT.grown {e : TypeId} {w w' : World} {row : Option Nat} (h : w.grownBy w' row) (hr : ∀ k, row = some k → ∃ cs t x, w.heap[k]? = some (.cells cs t x) ∧ t ≠ e) : KeepT e w w' := fun g cs r hg => by
  refine (h.block g (Array.getElem?_eq_some_iff.1 hg).1 ?_).trans hg
  intro he
  obtain ⟨cs', t, e', h1, h2⟩ := hr g he.symm
  rw [hg] at h1
  cases h1
  exact h2 rfl
theorem KeepT.keep3 {w w' : World} (h : KeepT 3 w w') : Keep3 w w' := h
theorem KeepT.own {e : TypeId} {w w' : World} (h : KeepT e w w') {base size n : Nat} {v : Value} {xs : List Value} (ho : w.ownsRow base e size v n xs) : w'.ownsRow base e size v n xs := by
  refine ⟨ho.1, ?_⟩
  rcases ho.2 with h2 | ⟨g, cap, cur, hv, hg, hh, r⟩
  · exact .inl h2
  · exact .inr ⟨g, cap, cur, hv, hg, h _ _ _ hh, r⟩
theorem KeepT.boxed {t : TypeId} {w w' : World} (h : KeepT t w w') {B : Nat} {v : Value} (hb : Boxed w B t v) : Boxed w' B t v := h _ _ _ hb
theorem own_row_type {w : World} {base size n : Nat} {e : TypeId} {v : Value} {xs : List Value} (ho : w.ownsRow base e size v n xs) : ∀ k, v.ownBlock = some k → ∃ cs t x, w.heap[k]? = some (.cells cs t x) ∧ t = e := by
  intro k hk
  rcases ho.2 with ⟨rfl, _⟩ | ⟨g, cap, cur, rfl, hg, hh, r⟩
  · simp [Value.ownBlock] at hk
  · simp [Value.ownBlock] at hk
    subst hk
    exact ⟨_, _, _, hh, rfl⟩
/-- append's growth leaves the rows of other types. -/
theorem KeepT.append {e t : TypeId} {w w' : World} {base size n : Nat} {v : Value} {xs : List Value} (ho : w.ownsRow base t size v n xs) (hg : w.grownBy w' v.ownBlock) (ht : t ≠ e) : KeepT e w w' :=
  KeepT.grown hg fun k hk => by
    obtain ⟨cs, t', x, h1, rfl⟩ := own_row_type ho k hk
    exact ⟨cs, _, x, h1, ht⟩
end Go.PF
