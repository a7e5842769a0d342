/- How a list of files that came in is read; the wrap of a law's walk that keeps the world's shape. -/
import Derived.Test.YtcjokhhcncimdaaDoorW5
import Derived.Deep.Slices
import Derived.Deep.Fields
import Derived.ChangeSame
import Derived.ProofKit
import Derived.OpenShut
import Derived.ShutString
import Derived.ChangeOld
import Derived.LaidMore
import Derived.Lay
import Derived.SevenTiedAt
import Derived.SizedLaws
import Derived.Carry
import Derived.Stop.Joined
set_option linter.unusedVariables false
namespace Go.Proofs.YtcjokhhcncimdaaDoor
open Go.RowKit Go.PF Go.Tr
open Go.ChangeShapes Go.WideShapes Go.ChangeAt Go.Deep

section
variable {H : Type} {enc : TypeId × Value → H} {w : World} {base : Nat} {spare : Nat → Bool} {held : Bool}

theorem add_none (b off n : Nat) : (⟨b, off, none⟩ : Addr).add n = ⟨b, off + n, none⟩ := by unfold Addr.add; split <;> simp_all

/-- Numbers that came in. -/
theorem frags_in {n : Nat} {cs : List Value} {x : DataW H × List MemPlace} (h : DataW.trod enc Tryd.prog w base spare held n 44 cs = some x) :
    ∃ F c l, cs = [.slice F l.length c] ∧ Fr w F c l := by
  rcases open_ints Tryd.underlying44 Tryd.underlying3 (by kernel_rfl) h with ⟨rfl, _⟩ | ⟨a, len, cap, zs, rfl, _, hl, hm, hz, _, hc, _⟩
  · exact ⟨none, 0, [], rfl, ⟨Nat.le_refl _, Nat.zero_le _, .inl rfl⟩⟩
  · have hzl : len ≤ zs.length := by rw [hz]; split <;> omega
    have hlen : (zs.take len).length = len := by rw [List.length_take]; omega
    refine ⟨some a, cap, zs.take len, by rw [hlen], ⟨by rw [hlen]; exact hl, hm, ?_⟩⟩
    rcases Nat.eq_zero_or_pos len with h0 | h0
    · subst h0; exact .inl rfl
    · obtain ⟨b, off, spot⟩ := a
      have hs : spot = none := by simpa [Addr.add] using World.cell?_spot (hc 0 (by omega))
      subst hs
      refine .inr ⟨b, off, rfl, fun k hk => ?_⟩
      have hk' : k < len := by simp at hk; omega
      have := hc k (by omega)
      rw [add_none] at this
      rw [this]
      simp [i64, List.getD_eq_getElem?_getD, List.getElem?_eq_getElem (show k < zs.length by omega)]

set_option maxRecDepth 100000 in
/-- A file's cells that came in. -/
theorem cells_in {n : Nat} {cs : List Value} {x : DataW H × List MemPlace} (h : DataW.trod enc Tryd.prog w base spare held n 46 cs = some x) :
    ∃ (f : FileV) (F : Option Addr) (c : Nat), cs = [.string f.path, .int .i64 f.len, .slice F f.frags.length c] ∧ Fr w F c f.frags ∧ f.path.size ≤ maxLen ∧ (Lit.int .i64 f.len).wf = true := by
  obtain ⟨xs, m, rfl, rfl, hl, hxl, hf⟩ := DataW.trod_struct Tryd.underlying46 h
  have hc46 : Tryd.prog.cellsOf 46 = 3 := by kernel_rfl
  have hone : oneCellFields Tryd.prog #[{ name := "Path", type := 9, offset := 0, embedded := false, tag := "", pkgPath := "", byteOffset := 0 }, { name := "Length", type := 3, offset := 1, embedded := false, tag := "", pkgPath := "", byteOffset := 16 }, { name := "Fragments", type := 44, offset := 2, embedded := false, tag := "", pkgPath := "", byteOffset := 24 }] = true := by kernel_rfl
  rw [hc46] at hl
  match cs, hl, xs, hxl with
  | [v0, v1, v2], _, [y0, y1, y2], _ =>
    have h0 := hf 0 _ rfl
    have h1 := hf 1 _ rfl
    have h2 := hf 2 _ rfl
    have e0 := (hone_of hone 0 _ rfl).2
    have e1 := (hone_of hone 1 _ rfl).2
    have e2 := (hone_of hone 2 _ rfl).2
    rw [e0] at h0
    rw [e1] at h1
    rw [e2] at h2
    obtain ⟨s, hs, _, hs2⟩ := DataW.trod_string Tryd.underlying9 (show DataW.trod enc Tryd.prog w base spare held m 9 [v0] = some y0 from h0)
    obtain ⟨z, hz, _, hz2⟩ := DataW.trod_int Tryd.underlying3 (show DataW.trod enc Tryd.prog w base spare held m 3 [v1] = some y1 from h1)
    obtain ⟨F, c, l, hF, hF2⟩ := frags_in (show DataW.trod enc Tryd.prog w base spare held m 44 [v2] = some y2 from h2)
    cases hs; cases hz; cases hF
    exact ⟨⟨s, z, l⟩, F, c, rfl, hF2, hs2, hz2⟩

/-- Whatever is said of each place below a length is said by a list. -/
theorem list_of {α : Type} {Q : Nat → α → Prop} : ∀ (n : Nat), (∀ i, i < n → ∃ a, Q i a) → ∃ l : List α, l.length = n ∧ ∀ i a, l[i]? = some a → Q i a
  | 0, _ => ⟨[], rfl, fun i a h => by simp at h⟩
  | n + 1, h => by
    obtain ⟨l, hl, hq⟩ := list_of n fun i hi => h i (by omega)
    obtain ⟨a, ha⟩ := h n (by omega)
    refine ⟨l ++ [a], by simp [hl], fun i b hb => ?_⟩
    rcases Nat.lt_or_ge i n with hi | hi
    · rw [List.getElem?_append_left (by omega)] at hb; exact hq i b hb
    · rw [List.getElem?_append_right (by omega)] at hb
      have h0 : i - l.length = 0 := by
        rcases Nat.eq_zero_or_pos (i - l.length) with h | h
        · exact h
        · rw [List.getElem?_eq_none (by simp; omega)] at hb; cases hb
      rw [h0] at hb
      obtain rfl : i = n := by omega
      cases hb
      exact ha


/-- A list of files that came in. -/
theorem files_in {n : Nat} {cs : List Value} {x : DataW H × List MemPlace} (h : DataW.trod enc Tryd.prog w base spare held n 22 cs = some x) :
    ∃ A c l, cs = [.slice A l.length c] ∧ RdL w A l ∧ l.length ≤ c ∧ c ≤ maxLen ∧ Short l := by
  rcases open_slice Tryd.underlying22 h with ⟨rfl, _⟩ | ⟨a, len, cap, m, n', D, Pl, rfl, _, hl, hm, hmm, _, hi⟩
  · exact ⟨none, 0, [], rfl, .inl rfl, Nat.le_refl _, Nat.zero_le _, fun f hf => by cases hf⟩
  · have hc46 : Tryd.prog.cellsOf 46 = 3 := by kernel_rfl
    have hml : len ≤ m := by rw [hmm]; split <;> omega
    rw [hc46] at hi
    obtain ⟨l, hlen, hq⟩ := list_of (α := FileV) (Q := fun i f => ∃ F c, (∀ j, j < 3 → w.cell? (a.add (i * 3) |>.add j) = [Value.string f.path, .int .i64 f.len, .slice F f.frags.length c][j]?) ∧ Fr w F c f.frags ∧ f.path.size ≤ maxLen) len (fun i hil => by
      obtain ⟨cs', hcs, ht⟩ := hi i (by omega)
      obtain ⟨_, _, hcell⟩ := World.cells?_some hcs
      obtain ⟨f, F, c, rfl, hF, hs, _⟩ := cells_in ht
      exact ⟨f, F, c, hcell, hF, hs⟩)
    refine ⟨some a, cap, l, by rw [hlen], ?_, by omega, hm, fun f hf => ?_⟩
    · rcases Nat.eq_zero_or_pos len with h0 | h0
      · exact .inl (List.eq_nil_of_length_eq_zero (by omega))
      · obtain ⟨b, off, spot⟩ := a
        obtain ⟨f0, hf0⟩ : ∃ f, l[0]? = some f := ⟨_, List.getElem?_eq_getElem (by omega)⟩
        obtain ⟨F0, c0, hc0, _⟩ := hq 0 f0 hf0
        have hs : spot = none := by simpa [Addr.add] using World.cell?_spot (hc0 0 (by omega))
        subst hs
        refine .inr ⟨b, off, rfl, fun k f hk => ?_⟩
        obtain ⟨F, c, hc, hF, _⟩ := hq k f hk
        have g0 := hc 0 (by omega)
        have g1 := hc 1 (by omega)
        have g2 := hc 2 (by omega)
        rw [add_none, add_none] at g0 g1 g2
        exact ⟨F, c, g0, g1, g2, hF⟩
    · obtain ⟨k, hk⟩ := List.mem_iff_getElem?.1 hf
      obtain ⟨_, _, _, _, hs⟩ := hq k f hk
      exact hs

set_option maxRecDepth 100000 in
/-- A file that came in by value. -/
theorem file_in {r : Reach} {b0 : Nat} {v : Value} {d : DataW H} {p : List MemPlace} (hv : Value.okWide Tryd.prog w r b0 46 v) (h : DataW.Trod enc Tryd.prog w base spare held 46 v d p) :
    ∃ f, FileIs w v f ∧ f.path.size ≤ maxLen := by
  obtain ⟨cs, rfl, _⟩ := okWide_struct Tryd.underlying46 hv
  obtain ⟨fuel, hf⟩ := h
  obtain ⟨f, F, c, hcs, hF, hs, _⟩ := cells_in hf
  have hcs' : cs = #[.string f.path, .int .i64 f.len, .slice F f.frags.length c] := by
    apply Array.toList_inj.1
    exact hcs
  subst hcs'
  exact ⟨f, ⟨F, c, rfl, hF⟩, hs⟩

/-- The wrap of a law's walk: what is listed of variables, and the world's shape, are handed to the walk. -/
theorem returns_laid {a : Assume} {C : Checked} {os : Os} {f : FuncId} {fn : Func} {s : ChangeSpec} {conds : List PathCond} {apart fresh handsOn again : Bool} {X : World → Array Value → Prop}
    (hX : ∀ (w w' : World) (args : Array Value), w.heap = w'.heap → X w args → X w' args)
    (own : ownKnob C.prog.godebug = none) (started : os.Started) (noInit : C.prog.inits.idxOf? f = none) (hfn : C.prog.funcs[f]? = some fn)
    (witness : ∃ (w : World) (tape : Tape) (i : Input), w.os = os ∧ (w.forCall tape i).Shaped C.prog ∧ i.vars = [] ∧ Input.okWide C.prog (w.forCall tape i) .any w.heap.size f i ∧
      ((s.pre enc C.prog fn conds apart (w.forCall tape i).memory i.args ∧ X (w.forCall tape i).memory i.args) ∧ sizedMet enc C.prog fn (OpenSpec.ofChange s) apart (w.forCall tape i).memory i.args) ∧ a.holds C.prog (lone (Frame.enter C.prog f i.args .normal) [] (w.forCall tape i)))
    (contract : ∀ (W : World) (base : Nat) (args : Array Value) (ds gs : List (DataW H)) (before : List MemPlace),
      (∀ (j : Nat) t v, fn.params[j]? = some t → args[j]? = some v → Value.okWide C.prog W .any base t v) →
      DataW.Whole enc C.prog fn.params.toList s.vars apart W args.toList ds gs before → W.ShapedOpen C.prog →
      Calls C.prog f args W fun e W' => ∃ v, e = .returned v ∧ s.post enc C.prog fn apart fresh handsOn again W args v W') :
    ReturnsInHanded a C os f .any (fun w args => (s.pre enc C.prog fn conds apart w args ∧ X w args) ∧ sizedMet enc C.prog fn (OpenSpec.ofChange s) apart w args) (s.post enc C.prog fn apart fresh handsOn again) := by
  refine returnsInHanded_of_calls own started noInit witness ?_
  intro w tape i _ hsh _ hok hpre _
  obtain ⟨_, _, _, fn', hfn', _, _, _, _, hval⟩ := hok
  obtain rfl : fn' = fn := Option.some.inj (hfn'.symm.trans hfn)
  obtain ⟨⟨⟨ds, gs, before, hw, _⟩, _⟩, _⟩ := hpre
  refine (contract (w.forCall tape i) w.heap.size i.args ds gs before hval (DataW.Whole.of_heap (w' := w.forCall tape i) (by rfl) hw) hsh).mono fun e W' ⟨v, he, hp⟩ => ?_
  subst he
  exact ChangeSpec.post_blind hp
end
end Go.Proofs.YtcjokhhcncimdaaDoor
