/- Rows of files taken apart and put together. -/
import Derived.Test.YtcjokhhcncimdaaDoorW21
import Derived.Test.YtcjokhhcncimdaaDoorW22
set_option linter.unusedVariables false
set_option linter.unusedSimpArgs false
namespace Go.Proofs.YtcjokhhcncimdaaDoor
open Go.RowKit Go.PF Go.Tr

/-- The cells of some files; of their fragments P holds. -/
def CellsOk (P : Option Addr → Nat → List Int → Prop) (xs : List Value) (fs : List FileV) : Prop :=
  xs.length = fs.length * 3 ∧ ∀ k f, fs[k]? = some f → ∃ F c, xs[k * 3]? = some (.string f.path) ∧ xs[k * 3 + 1]? = some (.int .i64 f.len) ∧ xs[k * 3 + 2]? = some (.slice F f.frags.length c) ∧ P F c f.frags
theorem OutOk.cells {n0 : Nat} {w : World} {xs : List Value} {fs : List FileV} (h : OutOk n0 w xs fs) : CellsOk (FrOwn n0 w) xs fs := h
theorem CellsOk.out {n0 : Nat} {w : World} {xs : List Value} {fs : List FileV} (h : CellsOk (FrOwn n0 w) xs fs) : OutOk n0 w xs fs := h
theorem RowAt.cells {w : World} {xs : List Value} {fs : List FileV} (h : RowAt w xs fs) : CellsOk (Fr w) xs fs := h
theorem CellsOk.row {w : World} {xs : List Value} {fs : List FileV} (h : CellsOk (Fr w) xs fs) : RowAt w xs fs := h

section
variable {P Q : Option Addr → Nat → List Int → Prop} {xs ys : List Value} {fs gs : List FileV}
theorem CellsOk.imp (h : CellsOk P xs fs) (hp : ∀ F c l, P F c l → Q F c l) : CellsOk Q xs fs :=
  ⟨h.1, fun k f hf => by obtain ⟨F, c, h1, h2, h3, h4⟩ := h.2 k f hf; exact ⟨F, c, h1, h2, h3, hp _ _ _ h4⟩⟩
theorem CellsOk.one {F : Option Addr} {c : Nat} {f : FileV} (h : P F c f.frags) : CellsOk P [.string f.path, .int .i64 f.len, .slice F f.frags.length c] [f] := by
  refine ⟨rfl, fun k g hk => ?_⟩
  match k, hk with
  | 0, hk => cases hk; exact ⟨F, c, rfl, rfl, rfl, h⟩
  | k + 1, hk => simp at hk
theorem CellsOk.append (h : CellsOk P xs fs) (k : CellsOk P ys gs) : CellsOk P (xs ++ ys) (fs ++ gs) := by
  obtain ⟨h1, h2⟩ := h
  obtain ⟨k1, k2⟩ := k
  refine ⟨by rw [List.length_append, List.length_append, h1, k1]; omega, fun j f hj => ?_⟩
  rcases Nat.lt_or_ge j fs.length with hlt | hge
  · rw [List.getElem?_append_left hlt] at hj
    obtain ⟨F, c, a, b, d, e⟩ := h2 j f hj
    exact ⟨F, c, by rw [List.getElem?_append_left (by omega)]; exact a, by rw [List.getElem?_append_left (by omega)]; exact b, by rw [List.getElem?_append_left (by omega)]; exact d, e⟩
  · rw [List.getElem?_append_right hge] at hj
    obtain ⟨F, c, a, b, d, e⟩ := k2 _ f hj
    refine ⟨F, c, ?_, ?_, ?_, e⟩
    · rw [List.getElem?_append_right (by omega), show j * 3 - xs.length = (j - fs.length) * 3 by omega]; exact a
    · rw [List.getElem?_append_right (by omega), show j * 3 + 1 - xs.length = (j - fs.length) * 3 + 1 by omega]; exact b
    · rw [List.getElem?_append_right (by omega), show j * 3 + 2 - xs.length = (j - fs.length) * 3 + 2 by omega]; exact d
theorem CellsOk.take (h : CellsOk P xs fs) (i : Nat) : CellsOk P (xs.take (i * 3)) (fs.take i) := by
  obtain ⟨h1, h2⟩ := h
  refine ⟨by rw [List.length_take, List.length_take, h1]; omega, fun j f hj => ?_⟩
  rw [List.getElem?_take] at hj
  split at hj
  · obtain ⟨F, c, a, b, d, e⟩ := h2 j f hj
    exact ⟨F, c, by rw [List.getElem?_take, if_pos (by omega)]; exact a, by rw [List.getElem?_take, if_pos (by omega)]; exact b, by rw [List.getElem?_take, if_pos (by omega)]; exact d, e⟩
  · cases hj
theorem CellsOk.drop (h : CellsOk P xs fs) (i : Nat) : CellsOk P (xs.drop (i * 3)) (fs.drop i) := by
  obtain ⟨h1, h2⟩ := h
  refine ⟨by rw [List.length_drop, List.length_drop, h1]; omega, fun j f hj => ?_⟩
  rw [List.getElem?_drop] at hj
  obtain ⟨F, c, a, b, d, e⟩ := h2 _ f hj
  refine ⟨F, c, ?_, ?_, ?_, e⟩
  · rw [List.getElem?_drop, show i * 3 + j * 3 = (i + j) * 3 by omega]; exact a
  · rw [List.getElem?_drop, show i * 3 + (j * 3 + 1) = (i + j) * 3 + 1 by omega]; exact b
  · rw [List.getElem?_drop, show i * 3 + (j * 3 + 2) = (i + j) * 3 + 2 by omega]; exact d
theorem CellsOk.onecell (h : CellsOk P xs fs) : ∀ u ∈ xs, u.oneCell' = true := by
  intro u hu
  obtain ⟨j, hj⟩ := List.mem_iff_getElem?.1 hu
  have hjl : j < fs.length * 3 := by rw [← h.1]; exact (List.getElem?_eq_some_iff.1 hj).1
  obtain ⟨f, hf⟩ : ∃ f, fs[j / 3]? = some f := ⟨_, List.getElem?_eq_getElem (by omega)⟩
  obtain ⟨F, c, a, b, d, _⟩ := h.2 _ f hf
  have h3 : j = j / 3 * 3 ∨ j = j / 3 * 3 + 1 ∨ j = j / 3 * 3 + 2 := by omega
  rcases h3 with e | e | e
  · rw [e, a] at hj; cases hj; rfl
  · rw [e, b] at hj; cases hj; rfl
  · rw [e, d] at hj; cases hj; rfl
end

theorem seg_parts (xs : List Value) (i : Nat) (vs : List Value) (h : vs.length = 3) : seg xs (i * 3) vs = xs.take (i * 3) ++ vs ++ xs.drop ((i + 1) * 3) := by
  unfold seg; rw [h, show i * 3 + 3 = (i + 1) * 3 by omega]

/-- What is owned keeps what is owned elsewhere. -/
theorem keep_grown {n0 n : Nat} {v : Value} {xs : List Value} {w w' : World} (h : w.ownsRow n0 46 3 v n xs) (hg : w.grownBy w' v.ownBlock) (e : TypeId) (he : 46 ≠ e) : KeepT e w w' :=
  KeepT.grown hg fun k hk => by
    obtain ⟨cs, t, x, h1, rfl⟩ := own_row_type h k hk
    exact ⟨cs, _, x, h1, he⟩
theorem below_grown {n0 n : Nat} {v : Value} {xs : List Value} {w w' : World} (h : w.ownsRow n0 46 3 v n xs) (hg : w.grownBy w' v.ownBlock) (hb : n0 ≤ w.heap.size) : Below n0 w w' :=
  (Below.refl n0 w).grown hg hb (fun k hk => (h.lt k hk).1)
end Go.Proofs.YtcjokhhcncimdaaDoor
