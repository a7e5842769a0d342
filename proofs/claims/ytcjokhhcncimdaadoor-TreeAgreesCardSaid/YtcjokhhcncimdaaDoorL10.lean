/- The card 'Rows.TreeAgreesCardSaid': for every input that can be read (list of files, list of files, list of files) the law returns true, and each argument reads behind the call as it read before. Conditions: the two listed variables of the library hold what the program's text lays. -/
import Derived.Test.YtcjokhhcncimdaaDoorRows
import Derived.Test.YtcjokhhcncimdaaDoorCards
import Derived.Test.YtcjokhhcncimdaaDoorTie
import Derived.Test.YtcjokhhcncimdaaDoorC10
import Derived.Test.YtcjokhhcncimdaaDoorOpen
import Derived.Test.YtcjokhhcncimdaaDoorShelf
set_option linter.unusedVariables false
namespace Go.Proofs.YtcjokhhcncimdaaDoor
open Go.RowKit Go.PF Go.Tr
open Go.ChangeShapes Go.WideShapes Go.ChangeAt Go.Deep
open Go.ChangeMaps (open_string shut_string)

namespace TreeAgrees
theorem own : ownKnob Tryd.prog.godebug = none := by kernel_rfl
theorem laidOut : laidOutB Tryd.prog = true := by kernel_rfl
theorem mx_of {W : World} (h : W.ShapedOpen Tryd.prog) : Mx W := Tryd.laysM146.s1_3 W h

set_option maxRecDepth 100000 in
theorem lifted (os : Os) (started : os.Started) (H : Type) (enc : TypeId × Value → H) :
    ReturnsInHanded {} Tryd.checked os 10 .any (fun w args => (Rows.treeAgreesSpec.pre enc Tryd.prog Tryd.f10 Rows.treeAgreesRow.domain false w args ∧ laidMetH Tryd.prog Rows.treeAgreesRow.laid w) ∧ sizedMet enc Tryd.prog Tryd.f10 (OpenSpec.ofChange Rows.treeAgreesSpec) false w args)
      (Rows.treeAgreesSpec.post enc Tryd.prog Tryd.f10 false true false false) := by
  refine returns_laid (C := Tryd.checked) (X := fun w _ => laidMetH Tryd.prog Rows.treeAgreesRow.laid w) (fun _ _ _ hh h => h.of_heap hh) own started (by kernel_rfl) Tryd.func10
    (ChangeSpec.witness_shaped (enc := enc) (C := Tryd.checked) (os := os) (X := fun w _ => laidMetH Tryd.prog Rows.treeAgreesRow.laid w) false (World.laidAll Tryd.prog os Rows.treeAgreesRow.laid) #[.slice none 0 0, .slice none 0 0, .slice none 0 0] 8 (World.laidAll_os _ _ _)
      (World.shaped_of_ZipB (by kernel_rfl) (by kernel_rfl)) (by kernel_rfl) (by kernel_rfl) (by kernel_rfl)
      (by rw [MakeChecks.laidMetH_plain _ _ _ (by kernel_rfl)]; exact laidMet_laidAll _ (by kernel_rfl) (by kernel_rfl))) ?_
  intro W base args ds gs before hval0 hW hsh
  have hval : ∀ (j : Nat) t v, Tryd.f10.params[j]? = some t → args[j]? = some v → Value.okWide Tryd.prog W .any base t v := hval0
  have hW' := hW
  obtain ⟨p, q, hA0, hV, rfl, hfz, hnd⟩ := hW
  have hA : DataW.TrodAll enc Tryd.prog W 0 (fun _ => true) true Tryd.f10.params.toList args.toList ds p := hA0
  rw [Tryd.params10] at hA hval
  obtain ⟨v0, vs0, d0, ds0, p0, q0, hargs, rfl, rfl, h0, r0⟩ := trodAll_cons hA
  obtain ⟨v1, vs1, d1, ds1, p1, q1, rfl, rfl, rfl, h1, r1⟩ := trodAll_cons r0
  obtain ⟨v2, vs2, d2, ds2, p2, q2, rfl, rfl, rfl, h2, r2⟩ := trodAll_cons r1
  obtain ⟨rfl, rfl, rfl⟩ := trodAll_nil r2
  obtain rfl : args = #[v0, v1, v2] := by cases args; simp_all
  obtain ⟨rfl, rfl⟩ := trodVars_none hV
  have k0 := h0
  have lt0 : ∀ x ∈ p0, x.block < W.heap.size := by obtain ⟨m, hm⟩ := k0; exact DataW.trod_lt m _ _ _ hm
  obtain ⟨A0, c0, l0, rfl, hB0, hl0, hc0, hs0⟩ : ∃ A c l, v0 = .slice A l.length c ∧ RdL W A l ∧ l.length ≤ c ∧ c ≤ maxLen ∧ Short l := by
    obtain ⟨a, n, c, rfl⟩ := okWide_slice Tryd.underlying22 (hval 0 22 v0 rfl rfl)
    obtain ⟨fuel, hf⟩ := h0
    obtain ⟨A, c', l, hcs, h⟩ := files_in hf
    simp [Value.cells] at hcs
    obtain ⟨rfl, rfl, rfl⟩ := hcs
    exact ⟨_, _, l, rfl, h⟩
  have k1 := h1
  have lt1 : ∀ x ∈ p1, x.block < W.heap.size := by obtain ⟨m, hm⟩ := k1; exact DataW.trod_lt m _ _ _ hm
  obtain ⟨A1, c1, l1, rfl, hB1, hl1, hc1, hs1⟩ : ∃ A c l, v1 = .slice A l.length c ∧ RdL W A l ∧ l.length ≤ c ∧ c ≤ maxLen ∧ Short l := by
    obtain ⟨a, n, c, rfl⟩ := okWide_slice Tryd.underlying22 (hval 1 22 v1 rfl rfl)
    obtain ⟨fuel, hf⟩ := h1
    obtain ⟨A, c', l, hcs, h⟩ := files_in hf
    simp [Value.cells] at hcs
    obtain ⟨rfl, rfl, rfl⟩ := hcs
    exact ⟨_, _, l, rfl, h⟩
  have k2 := h2
  have lt2 : ∀ x ∈ p2, x.block < W.heap.size := by obtain ⟨m, hm⟩ := k2; exact DataW.trod_lt m _ _ _ hm
  obtain ⟨A2, c2, l2, rfl, hB2, hl2, hc2, hs2⟩ : ∃ A c l, v2 = .slice A l.length c ∧ RdL W A l ∧ l.length ≤ c ∧ c ≤ maxLen ∧ Short l := by
    obtain ⟨a, n, c, rfl⟩ := okWide_slice Tryd.underlying22 (hval 2 22 v2 rfl rfl)
    obtain ⟨fuel, hf⟩ := h2
    obtain ⟨A, c', l, hcs, h⟩ := files_in hf
    simp [Value.cells] at hcs
    obtain ⟨rfl, rfl, rfl⟩ := hcs
    exact ⟨_, _, l, rfl, h⟩
  clear hA0 hval0
  refine (agrees_all A0 A1 A2 c0 c1 c2 l0 l1 l2 W (mx_of hsh) (Nat.le_trans hl0 hc0) (Nat.le_trans hl1 hc1) (Nat.le_trans hl2 hc2) hB0 hB1 hB2).mono fun e W' ⟨he, bel⟩ => ?_
  subst he
  exact ⟨_, rfl, _, _, _, [], _, [], hW', trodAll_mk1 (shut_bool Tryd.underlying4 _), (trodAll_cons_mk (Below.trod laidOut (by kernel_rfl) (of_decide_eq_true (by kernel_rfl)) k0 bel lt0) (trodAll_cons_mk (Below.trod laidOut (by kernel_rfl) (of_decide_eq_true (by kernel_rfl)) k1 bel lt1) (trodAll_cons_mk (Below.trod laidOut (by kernel_rfl) (of_decide_eq_true (by kernel_rfl)) k2 bel lt2) trodAll_mk0))), rfl, bel.frame _, fun h => by cases h⟩

theorem over : Rows.TreeAgreesSaid :=
  OpenClaim.holds_of_wide 10 Tryd.f10 rfl rfl rfl rfl rfl rfl rfl ⟨rfl, rfl, rfl, rfl, rfl⟩ rfl rfl rfl rfl rfl (by kernel_rfl) Tryd.func10 (by kernel_rfl)
    (of_decide_eq_true (by kernel_rfl)) (by unfold Func.isWrapper; first | (rw [if_pos (by decide +kernel)]; kernel_rfl) | (rw [if_neg (by decide +kernel)]; exact ⟨rfl, rfl⟩))
    (fun os started H enc _ => lifted os started H enc)

theorem proved : Rows.TreeAgreesCardSaid :=
  Claim7.holds_tied_plain_at .later [] [.data, .pinned] true (true, "b5b3ca674d091c1c09bee2543eb5d4c2bef0480c508caf0d55915d6ea9c11763") false over (fun _ h => by cases h) (by kernel_rfl) (fun _ h => by cases h) treeAgrees_row_tie rfl ⟨rfl, rfl⟩ (by kernel_rfl) rfl
    (fun f fn hf hfn => by
      obtain rfl : f = 10 := Option.some.inj ((show Tryd.prog.funcNamed "compactor/compactorlaw51.TreeAgrees" = some 10 by kernel_rfl).symm.trans hf) |>.symm
      obtain rfl : fn = Tryd.f10 := (Option.some.inj (Tryd.func10.symm.trans hfn)).symm
      exact ⟨by kernel_rfl, fun j t ht => by
        rw [Tryd.params10] at ht
        have hm : t ∈ [22, 22, 22] := by simpa using Array.mem_of_getElem? ht
        have hall : ([22, 22, 22].all fun u => !Tryd.prog.wantsStandIn u) = true := by kernel_rfl
        exact (show Tryd.prog.wantsStandIn t = false by simpa using List.all_eq_true.1 hall t hm)⟩)
    (by kernel_rfl)
#print axioms proved
end TreeAgrees
end Go.Proofs.YtcjokhhcncimdaaDoor
