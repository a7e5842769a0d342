/- The walk of slices.Clone at files. -/
import Derived.Test.YtcjokhhcncimdaaDoorW24
import Derived.Test.YtcjokhhcncimdaaDoorOpen
import Derived.Deep.Upon
import Derived.Lib.SliceRun
set_option linter.unusedVariables false
set_option linter.unusedSimpArgs false
namespace Go.Proofs.YtcjokhhcncimdaaDoor
open Go.RowKit Go.PF Go.Tr

/-- The cells of a list of files that reads. -/
theorem cells_of {w : World} {A : Option Addr} {l : List FileV} (h : RdL w A l) (hn : 0 < l.length) :
    ∃ b off xs, A = some ⟨b, off, none⟩ ∧ RowAt w xs l ∧ ∀ j u, xs[j]? = some u → w.cell? ⟨b, off + j, none⟩ = some u := by
  rcases h with rfl | ⟨b, off, rfl, h⟩
  · simp at hn
  · obtain ⟨xs, hl, hq⟩ := list_of (α := Value) (Q := fun j u => w.cell? ⟨b, off + j, none⟩ = some u) (l.length * 3) (fun j hj => by
      obtain ⟨f, hf⟩ : ∃ f, l[j / 3]? = some f := ⟨_, List.getElem?_eq_getElem (by omega)⟩
      obtain ⟨F, c, a0, a1, a2, _⟩ := h _ f hf
      have h3 : j = j / 3 * 3 ∨ j = j / 3 * 3 + 1 ∨ j = j / 3 * 3 + 2 := by omega
      rcases h3 with e | e | e
      · exact ⟨_, by rw [e]; exact a0⟩
      · exact ⟨_, by rw [e, ← Nat.add_assoc]; exact a1⟩
      · exact ⟨_, by rw [e, ← Nat.add_assoc]; exact a2⟩)
    refine ⟨b, off, xs, rfl, ⟨hl, fun k f hf => ?_⟩, hq⟩
    obtain ⟨F, c, a0, a1, a2, a3⟩ := h k f hf
    have hk := (List.getElem?_eq_some_iff.1 hf).1
    have get : ∀ r, r < 3 → ∀ u, w.cell? ⟨b, off + k * 3 + r, none⟩ = some u → xs[k * 3 + r]? = some u := fun r hr u hu => by
      have hx : xs[k * 3 + r]? = some xs[k * 3 + r] := List.getElem?_eq_getElem (by omega)
      have := hq _ _ hx
      rw [← Nat.add_assoc, hu] at this
      rw [hx, this]
    exact ⟨F, c, get 0 (by omega) _ a0, get 1 (by omega) _ a1, get 2 (by omega) _ a2, a3⟩

theorem run_copy_files (w w0 : World) (h0 : w = w0.alloc (.cells #[] 46)) (A : Option Addr) (c : Nat) (l : List FileV) (h : RdL w0 A l) (hn : l.length ≤ 1000) :
    ∃ v w' xs, (Builtin.append_ #[22, 22] 22 #[.slice (some ⟨w0.heap.size, 0, none⟩) 0 0, .slice A l.length c]).run Tryd.prog w = .ok v w' ∧ w'.ownsRow w0.heap.size 46 3 v l.length xs ∧ RowAt w0 xs l ∧ Ext w0 w' := by
  obtain ⟨i, hi, hz, hs, hby⟩ := info_parts info46
  subst h0
  have hblk := World.alloc_heap_new w0 (.cells #[] 46)
  have hx := ext_alloc1 w0 (.cells #[] 46)
  have hown : (w0.alloc (.cells #[] 46)).ownsRow w0.heap.size 46 3 (.slice (some ⟨w0.heap.size, 0, none⟩) 0 0) 0 [] :=
    ⟨rfl, .inr ⟨w0.heap.size, 0, #[], rfl, Nat.le_refl _, hblk, Nat.le_refl _, Nat.zero_le _, rfl, rfl⟩⟩
  rcases Nat.eq_zero_or_pos l.length with h0 | h0
  · have h0 : l = [] := List.eq_nil_of_length_eq_zero h0
    subst h0
    refine ⟨.slice (some ⟨w0.heap.size, 0, none⟩) 0 0, w0.alloc (.cells #[] 46), [], ?_, hown, RowAt.nil _, hx⟩
    refine run_append_nothing _ 22 22 22 46 i Tryd.underlying22 hi (some ⟨w0.heap.size, 0, none⟩) 0 0 (Nat.le_refl _) _ ⟨.inl ⟨46, Tryd.underlying22⟩, fun w' => ?_, ?_, ?_, by simp, by simp⟩
    · cases A <;> rfl
    · cases A <;> simp [Builtin.firstCells, loadCells, loadCellsFrom]
    · cases A <;> simp [Builtin.firstCells, loadCells, loadCellsFrom]
  · obtain ⟨b, off, xs, rfl, hrow, hcell⟩ := cells_of h h0
    obtain ⟨v', w', hrun, h2, h3, -, h5⟩ := run_append_own_at (P := Tryd.prog) (w0.alloc (.cells #[] 46)) w0.heap.size 22 22 46 i _ 3 48 Tryd.underlying22 hi hz hs hby rfl (by omega) _ 0 [] hown ⟨b, off, none⟩ l.length c xs (by rw [hrow.1])
      (fun j u hu => by rw [add_none']; exact hx.cell (hcell j u hu)) hrow.cells.onecell (by simp only [maxLen]; omega) (by omega) (by simp)
    rw [Nat.zero_add, List.nil_append] at h2
    refine ⟨v', w', xs, hrun, h2, hrow, ?_⟩
    exact Below.trans hx ((Below.refl _ _).grown h3 (by simp) (fun k hk => by simp [Value.ownBlock] at hk; omega))

set_option maxRecDepth 100000 in
theorem sclone_any (A : Option Addr) (cap : Nat) (l : List FileV) (w : World) (hn : l.length ≤ 1000) (hB : RdL w A l) :
    Calls Tryd.prog 29 #[.slice A l.length cap] w fun e w' => ∃ v xs, e = .returned v ∧ w'.ownsRow w.heap.size 46 3 v l.length xs ∧ RowAt w xs l ∧ Ext w w' := by
  have hq := fun w' => Lib.run_eql_slice_nil (P := Tryd.prog) w' 22 46 A l.length cap 0 0 Tryd.underlying22
  cases A with
  | none =>
    have h0 : l = [] := by
      rcases hB with h | ⟨b, off, h, _⟩
      · exact h
      · cases h
    subst h0
    have hq0 : ∀ w' : World, (binOp .eql 22 (.slice none 0 cap) (.slice none 0 0)).run Tryd.prog w' = .ok (.bool true) w' := fun w' => Lib.run_eql_slice_nil (P := Tryd.prog) w' 22 46 none 0 cap 0 0 Tryd.underlying22
    clear hq
    go_enter Tryd.func29, Tryd.ntmps29
    go_wp2_with fail
    go_ret
    exact ⟨_, [], rfl, World.ownsRow_nil _ _ _ _, RowAt.nil _, Ext.refl _⟩
  | some a =>
    obtain ⟨v, w', xs, hrun, h1, h2, h3⟩ := run_copy_files (w.alloc (.cells #[] 46)) w rfl (some a) cap l hB hn
    have HR := Lib.hid hrun
    have H1 := Lib.hid h1; have H2 := Lib.hid h2; have H3 := Lib.hid h3
    clear hrun h1 h2 h3 hB
    go_enter Tryd.func29, Tryd.ntmps29
    go_wp2_with (at_builtin; refine wpList_append_run (w.alloc (.cells #[] 46)) rfl (.tmp 5) (.tmp 6) 22 22 rfl (.slice (some ⟨w.heap.size, 0, none⟩) 0 0) (.slice (some a) l.length cap) rfl rfl (v' := v) (w' := w') HR.out ?_)
    go_ret
    exact ⟨_, xs, rfl, H1.out, H2.out, H3.out⟩
end Go.Proofs.YtcjokhhcncimdaaDoor
