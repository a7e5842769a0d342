/- How a list of changes that came in is read, with what it weighs. -/
import Derived.Test.YtcjokhhcncimdaaDoorOpen
import Derived.Test.YtcjokhhcncimdaaDoorW30
set_option linter.unusedVariables false
namespace Go.Proofs.YtcjokhhcncimdaaDoor
open Go.RowKit Go.PF Go.Tr
open Go.ChangeShapes Go.WideShapes Go.ChangeAt Go.Deep

section
variable {H : Type} {enc : TypeId × Value → H} {w : World} {base : Nat} {spare : Nat → Bool} {held : Bool}

theorem weightsAll_mem {e : TypeId} {d : DataW H} {k : Nat} : ∀ {ds : List (DataW H)}, d ∈ ds → k ∈ d.weights Tryd.prog e → k ∈ DataW.weightsAll Tryd.prog e ds
  | [], h, _ => by cases h
  | x :: r, h, hk => by
    simp only [DataW.weightsAll, List.mem_append]
    rcases List.mem_cons.1 h with rfl | h
    · exact .inl hk
    · exact .inr (weightsAll_mem h hk)

theorem bytes3 : Tryd.prog.bytesOf 3 = 8 := by kernel_rfl

/-- Numbers that came in. -/
theorem frags_inW {n : Nat} {cs : List Value} {x : DataW H × List MemPlace} (h : DataW.trod enc Tryd.prog w base spare held n 44 cs = some x) :
    ∃ F c l, cs = [.slice F l.length c] ∧ Fr w F c l ∧ ∀ R, (∀ k ∈ x.1.weights Tryd.prog 44, k ≤ R) → l.length * 8 ≤ R := by
  rcases open_ints Tryd.underlying44 Tryd.underlying3 (by kernel_rfl) h with ⟨rfl, _⟩ | ⟨a, len, cap, zs, rfl, _, hl, hm, hz, hx, hc, _⟩
  · exact ⟨none, 0, [], rfl, ⟨Nat.le_refl _, Nat.zero_le _, .inl rfl⟩, fun R _ => Nat.zero_le _⟩
  · have hzl : len ≤ zs.length := by rw [hz]; split <;> omega
    have hlen : (zs.take len).length = len := by rw [List.length_take]; omega
    have hwt : ∀ R, (∀ k ∈ x.1.weights Tryd.prog 44, k ≤ R) → (zs.take len).length * 8 ≤ R := by
      intro R hR
      subst hx
      have h1 := hR (((zs.take len).length + (zs.drop len).length) * Tryd.prog.bytesOf 3) (by simp [DataW.weights, Tryd.underlying44, lits])
      rw [bytes3] at h1
      omega
    refine ⟨some a, cap, zs.take len, by rw [hlen], ⟨by rw [hlen]; exact hl, hm, ?_⟩, hwt⟩
    rcases Nat.eq_zero_or_pos len with h0 | h0
    · subst h0; exact .inl rfl
    · obtain ⟨b, off, spot⟩ := a
      have hs : spot = none := by simpa [Addr.add] using World.cell?_spot (hc 0 (by omega))
      subst hs
      refine .inr ⟨b, off, rfl, fun k hk => ?_⟩
      have hk' : k < len := by simp at hk; omega
      have := hc k (by omega)
      rw [add_none] at this
      rw [this]
      simp [i64, List.getD_eq_getElem?_getD, List.getElem?_eq_getElem (show k < zs.length by omega)]

set_option maxRecDepth 100000 in
/-- A file's cells that came in. -/
theorem cells_inW {n : Nat} {cs : List Value} {x : DataW H × List MemPlace} (h : DataW.trod enc Tryd.prog w base spare held n 46 cs = some x) :
    ∃ (f : FileV) (F : Option Addr) (c : Nat), cs = [.string f.path, .int .i64 f.len, .slice F f.frags.length c] ∧ Fr w F c f.frags ∧ f.path.size ≤ maxLen ∧ ∀ R, (∀ k ∈ x.1.weights Tryd.prog 46, k ≤ R) → f.frags.length * 8 ≤ R := by
  obtain ⟨xs, m, rfl, rfl, hl, hxl, hf⟩ := DataW.trod_struct Tryd.underlying46 h
  have hc46 : Tryd.prog.cellsOf 46 = 3 := by kernel_rfl
  have hone : oneCellFields Tryd.prog #[{ name := "Path", type := 9, offset := 0, embedded := false, tag := "", pkgPath := "", byteOffset := 0 }, { name := "Length", type := 3, offset := 1, embedded := false, tag := "", pkgPath := "", byteOffset := 16 }, { name := "Fragments", type := 44, offset := 2, embedded := false, tag := "", pkgPath := "", byteOffset := 24 }] = true := by kernel_rfl
  rw [hc46] at hl
  match cs, hl, xs, hxl with
  | [v0, v1, v2], _, [y0, y1, y2], _ =>
    have h0 := hf 0 _ rfl
    have h1 := hf 1 _ rfl
    have h2 := hf 2 _ rfl
    have e0 := (hone_of hone 0 _ rfl).2
    have e1 := (hone_of hone 1 _ rfl).2
    have e2 := (hone_of hone 2 _ rfl).2
    rw [e0] at h0
    rw [e1] at h1
    rw [e2] at h2
    obtain ⟨s, hs, _, hs2⟩ := DataW.trod_string Tryd.underlying9 (show DataW.trod enc Tryd.prog w base spare held m 9 [v0] = some y0 from h0)
    obtain ⟨z, hz, _, hz2⟩ := DataW.trod_int Tryd.underlying3 (show DataW.trod enc Tryd.prog w base spare held m 3 [v1] = some y1 from h1)
    obtain ⟨F, c, l, hF, hF2, hF3⟩ := frags_inW (show DataW.trod enc Tryd.prog w base spare held m 44 [v2] = some y2 from h2)
    cases hs; cases hz; cases hF
    refine ⟨⟨s, z, l⟩, F, c, rfl, hF2, hs2, fun R hR => hF3 R fun k hk => hR k ?_⟩
    simp only [DataW.weights, Tryd.underlying46]
    exact DataW.weights_mem_each (j := 2) (t := 44) (d := y2.1) rfl rfl k hk

set_option maxRecDepth 100000 in
/-- A change's cells that came in. -/
theorem change_inW {n : Nat} {cs : List Value} {x : DataW H × List MemPlace} (h : DataW.trod enc Tryd.prog w base spare held n 67 cs = some x) :
    ∃ (c : ChangeV) (F : Option Addr) (j : Nat) (G : Option Addr) (m : Nat), cs = chCells c F G j m ∧ Fr w F j c.old.frags ∧ Fr w G m c.new.frags ∧ c.new.path.size ≤ maxLen ∧ ∀ R, (∀ k ∈ x.1.weights Tryd.prog 67, k ≤ R) → c.new.frags.length * 8 ≤ R := by
  obtain ⟨xs, m, rfl, rfl, hl, hxl, hf⟩ := DataW.trod_struct Tryd.underlying67 h
  have hc67 : Tryd.prog.cellsOf 67 = 8 := by kernel_rfl
  have hc46 : Tryd.prog.cellsOf 46 = 3 := by kernel_rfl
  have hc9 : Tryd.prog.cellsOf 9 = 1 := by kernel_rfl
  have hc3 : Tryd.prog.cellsOf 3 = 1 := by kernel_rfl
  rw [hc67] at hl
  match cs, hl, xs, hxl with
  | [v0, v1, v2, v3, v4, v5, v6, v7], _, [y0, y1, y2, y3], _ =>
    have h0 : DataW.trod enc Tryd.prog w base spare held m 3 (List.take (Tryd.prog.cellsOf 3) (List.drop 0 [v0, v1, v2, v3, v4, v5, v6, v7])) = some y0 := hf 0 _ rfl
    have h1 : DataW.trod enc Tryd.prog w base spare held m 9 (List.take (Tryd.prog.cellsOf 9) (List.drop 1 [v0, v1, v2, v3, v4, v5, v6, v7])) = some y1 := hf 1 _ rfl
    have h2 : DataW.trod enc Tryd.prog w base spare held m 46 (List.take (Tryd.prog.cellsOf 46) (List.drop 2 [v0, v1, v2, v3, v4, v5, v6, v7])) = some y2 := hf 2 _ rfl
    have h3 : DataW.trod enc Tryd.prog w base spare held m 46 (List.take (Tryd.prog.cellsOf 46) (List.drop 5 [v0, v1, v2, v3, v4, v5, v6, v7])) = some y3 := hf 3 _ rfl
    rw [hc3] at h0
    rw [hc9] at h1
    rw [hc46] at h2 h3
    obtain ⟨z, hz, _, hz2⟩ := DataW.trod_int Tryd.underlying3 (show DataW.trod enc Tryd.prog w base spare held m 3 [v0] = some y0 from h0)
    obtain ⟨s, hs, _, hs2⟩ := DataW.trod_string Tryd.underlying9 (show DataW.trod enc Tryd.prog w base spare held m 9 [v1] = some y1 from h1)
    obtain ⟨f, F, j, hF, hF2, _, _⟩ := cells_inW (show DataW.trod enc Tryd.prog w base spare held m 46 [v2, v3, v4] = some y2 from h2)
    obtain ⟨g, G, k, hG, hG2, hG3, hG4⟩ := cells_inW (show DataW.trod enc Tryd.prog w base spare held m 46 [v5, v6, v7] = some y3 from h3)
    cases hs; cases hz; cases hF; cases hG
    refine ⟨⟨z, s, f, g⟩, F, j, G, k, rfl, hF2, hG2, hG3, fun R hR => hG4 R fun k' hk => hR k' ?_⟩
    simp only [DataW.weights, Tryd.underlying67]
    exact DataW.weights_mem_each (j := 3) (t := 46) (d := y3.1) rfl rfl k' hk

/-- A list of changes that came in. -/
theorem changes_in {n : Nat} {cs : List Value} {x : DataW H × List MemPlace} (h : DataW.trod enc Tryd.prog w base spare held n 57 cs = some x) :
    ∃ A c l, cs = [.slice A l.length c] ∧ RdC w A l ∧ l.length ≤ c ∧ c ≤ maxLen ∧ ∀ R, (∀ k ∈ x.1.weights Tryd.prog 57, k ≤ R) → ∀ ch ∈ l, ch.new.path.size ≤ maxLen ∧ ch.new.frags.length * 8 ≤ R := by
  rcases open_slice Tryd.underlying57 h with ⟨rfl, _⟩ | ⟨a, len, cap, m, n', D, Pl, rfl, _, hl, hm, hmm, hx, hi⟩
  · exact ⟨none, 0, [], rfl, .inl rfl, Nat.le_refl _, Nat.zero_le _, fun R _ f hf => by cases hf⟩
  · have hc67 : Tryd.prog.cellsOf 67 = 8 := by kernel_rfl
    have hml : len ≤ m := by rw [hmm]; split <;> omega
    rw [hc67] at hi
    obtain ⟨l, hlen, hq⟩ := list_of (α := ChangeV) (Q := fun i c => ∃ F j G k, (∀ r, r < 8 → w.cell? (a.add (i * 8) |>.add r) = (chCells c F G j k)[r]?) ∧ Fr w F j c.old.frags ∧ Fr w G k c.new.frags ∧ c.new.path.size ≤ maxLen ∧ ∀ R, (∀ k ∈ x.1.weights Tryd.prog 57, k ≤ R) → c.new.frags.length * 8 ≤ R) len (fun i hil => by
      obtain ⟨cs', hcs, ht⟩ := hi i (by omega)
      obtain ⟨_, _, hcell⟩ := World.cells?_some hcs
      obtain ⟨c, F, j, G, k, rfl, hF, hG, hs, hw⟩ := change_inW ht
      refine ⟨c, F, j, G, k, hcell, hF, hG, hs, fun R hR => hw R fun k' hk => hR k' ?_⟩
      subst hx
      simp only [DataW.weights, Tryd.underlying57, List.mem_cons, List.mem_append]
      exact .inr (.inl (weightsAll_mem (List.mem_map.2 ⟨i, List.mem_range.2 hil, rfl⟩) hk)))
    refine ⟨some a, cap, l, by rw [hlen], ?_, by omega, hm, fun R hR f hf => ?_⟩
    · rcases Nat.eq_zero_or_pos len with h0 | h0
      · exact .inl (List.eq_nil_of_length_eq_zero (by omega))
      · obtain ⟨b, off, spot⟩ := a
        obtain ⟨f0, hf0⟩ : ∃ f, l[0]? = some f := ⟨_, List.getElem?_eq_getElem (by omega)⟩
        obtain ⟨F0, j0, G0, k0, hc0, _⟩ := hq 0 f0 hf0
        have hs : spot = none := by
          have h0 : w.cell? _ = some (.int .i64 f0.kind) := (hc0 0 (by omega)).trans rfl
          simpa [Addr.add] using World.cell?_spot h0
        subst hs
        refine .inr ⟨b, off, rfl, fun k f hk => ?_⟩
        obtain ⟨F, j, G, q, hc, hF, hG, _⟩ := hq k f hk
        refine ⟨F, j, G, q, fun r u hr => ?_, hF, hG⟩
        have hr8 : r < 8 := by have := (List.getElem?_eq_some_iff.1 hr).1; simpa [chCells] using this
        have := hc r hr8
        rw [add_none, add_none, hr] at this
        exact this
    · obtain ⟨k, hk⟩ := List.mem_iff_getElem?.1 hf
      obtain ⟨_, _, _, _, _, _, _, hs, hw⟩ := hq k f hk
      exact ⟨hs, hw R hR⟩

/-- The wrap of a law's walk: what is listed of variables, the world's shape and the weights are handed to the walk. -/
theorem returns_sized {a : Assume} {C : Checked} {os : Os} {f : FuncId} {fn : Func} {s : ChangeSpec} {conds : List PathCond} {apart fresh handsOn again : Bool} {X : World → Array Value → Prop}
    (own : ownKnob C.prog.godebug = none) (started : os.Started) (noInit : C.prog.inits.idxOf? f = none) (hfn : C.prog.funcs[f]? = some fn)
    (witness : ∃ (w : World) (tape : Tape) (i : Input), w.os = os ∧ (w.forCall tape i).Shaped C.prog ∧ i.vars = [] ∧ Input.okWide C.prog (w.forCall tape i) .any w.heap.size f i ∧
      ((s.pre enc C.prog fn conds apart (w.forCall tape i).memory i.args ∧ X (w.forCall tape i).memory i.args) ∧ sizedMet enc C.prog fn (OpenSpec.ofChange s) apart (w.forCall tape i).memory i.args) ∧ a.holds C.prog (lone (Frame.enter C.prog f i.args .normal) [] (w.forCall tape i)))
    (contract : ∀ (W : World) (base : Nat) (args : Array Value) (ds gs : List (DataW H)) (before : List MemPlace),
      (∀ (j : Nat) t v, fn.params[j]? = some t → args[j]? = some v → Value.okWide C.prog W .any base t v) →
      DataW.Whole enc C.prog fn.params.toList s.vars apart W args.toList ds gs before → W.ShapedOpen C.prog →
      (DataW.weightsEach C.prog (fn.params.toList ++ (OpenSpec.ofChange s).bare.plain.varTypes C.prog) (ds ++ gs)).all (· ≤ reachBytes) = true →
      Calls C.prog f args W fun e W' => ∃ v, e = .returned v ∧ s.post enc C.prog fn apart fresh handsOn again W args v W') :
    ReturnsInHanded a C os f .any (fun w args => (s.pre enc C.prog fn conds apart w args ∧ X w args) ∧ sizedMet enc C.prog fn (OpenSpec.ofChange s) apart w args) (s.post enc C.prog fn apart fresh handsOn again) := by
  refine returnsInHanded_of_calls own started noInit witness ?_
  intro w tape i _ hsh _ hok hpre _
  obtain ⟨_, _, _, fn', hfn', _, _, _, _, hval⟩ := hok
  obtain rfl : fn' = fn := Option.some.inj (hfn'.symm.trans hfn)
  obtain ⟨_, _, ds, gs, before, hw, hz⟩ := hpre
  refine (contract (w.forCall tape i) w.heap.size i.args ds gs before hval (DataW.Whole.of_heap (w' := w.forCall tape i) (by rfl) hw) hsh hz).mono fun e W' ⟨v, he, hp⟩ => ?_
  subst he
  exact ChangeSpec.post_blind hp
end
end Go.Proofs.YtcjokhhcncimdaaDoor
