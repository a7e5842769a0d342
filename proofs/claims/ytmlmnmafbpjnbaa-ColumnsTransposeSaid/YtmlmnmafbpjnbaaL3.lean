/- The statement 'Rows.ColumnsTransposeSaid': for every input the law returns true, and each argument reads behind the call as it read before. Conditions: none. -/
import Derived.Test.YtmlmnmafbpjnbaaRows
import Derived.Test.YtmlmnmafbpjnbaaW10
import Derived.WalkKit
import Derived.ProofKit
import Derived.OpenShut
import Derived.ShutString
import Derived.ChangeOld
import Derived.Below
namespace Go.Proofs.Ytmlmnmafbpjnbaa.columnsTranspose
open Go.PF Go.Col
open Go.ChangeShapes Go.WideShapes Go.ChangeAt Go.RowKit
open Go.ChangeMaps (open_string shut_string)
set_option linter.unusedVariables false

theorem own : ownKnob Try.prog.godebug = none := by kernel_rfl
theorem laidOut : laidOutB Try.prog = true := by kernel_rfl

/-- WHAT THE WALK IS TOLD OF A SLICE OF INTEGERS THAT CAME IN: it is nil; or it leads to a row of 'cap' cells, the numbers 'zs' (the first 'len' are its elements, the rest its spare room), each fitting its kind. -/
def IsRow (k : IntKind) (w : World) (a : Option Addr) (len cap : Nat) (zs : List Int) : Prop :=
  (a = none ∧ len = 0 ∧ cap = 0 ∧ zs = []) ∨
  ∃ x, a = some x ∧ len ≤ cap ∧ cap ≤ maxLen ∧ zs.length = cap ∧ (∀ i, i < zs.length → w.cell? (x.add i) = some (.int k (zs.getD i 0))) ∧ ∀ n ∈ zs, (Lit.int k n).wf = true

theorem core_bad (A : Option Addr) (n cap : Nat) (k : Int) (w : World) (hl : limitsF n k ≠ 0) (h1 : ¬ (1000 < n ∧ n ≤ 65536)) (hmax : n ≤ maxLen) :
    Calls Try.prog 7 #[.slice A n cap, .int .i64 k] w fun e w' => e = .returned (.bool true) ∧ Below w.heap.size w w' := by
  unfold maxLen at hmax
  have HL := Lib.hid hl; clear hl
  rcases (show (1000 < n ∧ 65536 < n) ∨ n ≤ 1000 by omega) with ⟨h2, h3⟩ | h2
  all_goals
    clear h1
    go_enter Try.func7, Try.ntmps7
    go_wp2_with fail
    refine (forward_bad A cap n k _ HL.out).mono ?_
    rintro e w1 ⟨rfl, hx1⟩
    go_wp2_with fail
    refine (rforward_bad A cap n k _ HL.out).mono ?_
    rintro e w2 ⟨rfl, rfl⟩
    go_wp2_with fail
    refine (inverse_bad A cap n k _ HL.out).mono ?_
    rintro e w2 ⟨rfl, hx2⟩
    go_wp2_with fail
    refine (rinverse_bad A cap n k _ HL.out).mono ?_
    rintro e w3 ⟨rfl, rfl⟩
    go_wp2_with fail
    refine (awake_any _).mono ?_
    rintro e w3 ⟨rfl, hx3⟩
    have hs := conv_bytes (w := w3) (A := none) (n := 0) (f := fun _ => 0) (.inl rfl) 0
    go_wp2_with fail
    go_ret
    exact ⟨by simp, (hx1.trans hx2).trans hx3⟩

theorem core_ok (A : Option Addr) (n cap : Nat) (c : Nat → Int) (k : Nat) (w : World) (hB : RdF w A n c) (hcap : n ≤ cap) (h1 : n ≤ 1000) (hk1 : 1 ≤ k) (hk : k ≤ 64) :
    Calls Try.prog 7 #[.slice A n cap, .int .i64 (k : Int)] w fun e w' => e = .returned (.bool true) ∧ Below w.heap.size w w' := by
  have HB := Lib.hid hB; clear hB
  have HN := Lib.hid (ordLen_eq n k hk1)
  go_enter Try.func7, Try.ntmps7
  go_wp2_with fail
  refine (forward_ok A cap n c k _ (by omega) hk1 hk HB.out).mono ?_
  rintro e w1 ⟨B1, c1, rfl, hr1, hx1⟩
  rw [HN.out] at hr1 ⊢
  have HR1 := Lib.hid hr1; clear hr1
  go_wp2_with fail
  refine (rforward_ok A cap n c k _ (by omega) hk1 hk (HB.out.ext hx1)).mono ?_
  rintro e w2 ⟨B2, c2, rfl, hr2, hx2⟩
  rw [HN.out] at hr2 ⊢
  have HR2 := Lib.hid hr2; clear hr2
  go_wp2_with fail
  refine (inverse_ok A cap n c k _ (by omega) hcap hk1 hk (HB.out.ext (hx1.trans hx2)) HN.out).mono ?_
  rintro e w3 ⟨B3, c3, rfl, hr3, hx3⟩
  have HR3 := Lib.hid hr3; clear hr3
  go_wp2_with fail
  refine (rinverse_ok A cap n c k _ (by omega) hk1 hk (HB.out.ext ((hx1.trans hx2).trans hx3)) HN.out).mono ?_
  rintro e w4 ⟨B4, c4, rfl, hr4, hx4⟩
  have HR4 := Lib.hid hr4; clear hr4
  go_wp2_with fail
  refine (awake_any _).mono ?_
  rintro e w5 ⟨rfl, hx5⟩
  have hs1 := conv_bytes (HR1.out.ext (((hx2.trans hx3).trans hx4).trans hx5)) c1
  have hs2 := conv_bytes (HR2.out.ext ((hx3.trans hx4).trans hx5)) c2
  have hs3 := conv_bytes (HR3.out.ext (hx4.trans hx5)) c3
  have hs4 := conv_bytes (HR4.out.ext hx5) c4
  generalize strF (fun j => c (ordAt n k j)) n = S1 at *
  generalize strF (invTo (ordAt n k) c n) n = S2 at *
  go_wp2_with fail
  go_ret
  exact ⟨by simp, (((hx1.trans hx2).trans hx3).trans hx4).trans hx5⟩

theorem walk (a0 : Option Addr) (len0 cap0 : Nat) (z0 : List Int) (a1 : Int) (w : World) (w0 : IsRow .u8 w a0 len0 cap0 z0) (w1 : (Lit.int .i64 a1).wf = true) :
    Calls Try.prog 7 #[.slice a0 len0 cap0, .int .i64 a1] w fun e w' => e = .returned (.bool true) ∧ Below w.heap.size w w' := by
  obtain ⟨c, h1, h2, h3, _⟩ := rdF_arg w0
  by_cases hbig : 1000 < len0 ∧ len0 ≤ 65536
  · obtain ⟨h4, h5⟩ := hbig
    clear w0
    go_enter Try.func7, Try.ntmps7
    go_wp2_with (go_at_call 10; refine (awake_any _).mono ?_; rintro e w1 ⟨rfl, hx1⟩)
    go_ret
    exact ⟨rfl, hx1⟩
  · by_cases hl : limitsF len0 a1 = 0
    · have hh : (len0 : Int) ≤ 65536 ∧ 1 ≤ a1 ∧ a1 ≤ 64 := by
        unfold limitsF at hl
        split at hl
        · omega
        · split at hl <;> omega
      obtain ⟨k, rfl⟩ := Int.eq_ofNat_of_zero_le (show 0 ≤ a1 by omega)
      exact core_ok a0 len0 cap0 c k w h1 h2 (by omega) (by omega) (by omega)
    · exact core_bad a0 len0 cap0 a1 w hl hbig (by omega)


/-! ### THE ROW's STEP: WRITTEN OUT: LEAVE IT -/
set_option maxRecDepth 100000 in
theorem lifted (os : Os) (started : os.Started) (H : Type) (enc : TypeId × Value → H) :
    ReturnsInHanded {} Try.checked os 7 .any (Rows.columnsTransposeSpec.pre6 enc Try.prog Try.f7 Rows.columnsTransposeRow.domain false) (Rows.columnsTransposeSpec.post enc Try.prog Try.f7 false true false false) := by
  refine returnsInHanded_of_change (C := Try.checked) own started (by kernel_rfl) Try.func7
    (ChangeSpec.witness6 (enc := enc) (C := Try.checked) false ⟨#[], #[.slice none 0 0, .int .i64 0], []⟩ 8 (by kernel_rfl) (by kernel_rfl) (by kernel_rfl) (by kernel_rfl)) ?_
  intro W base args ds gs before hval0 hW hcnd _
  have hval : ∀ (j : Nat) t v, Try.f7.params[j]? = some t → args[j]? = some v → Value.okWide Try.prog W .any base t v := hval0
  have hW' := hW
  obtain ⟨p, q, hA0, hV, rfl, hfz, hnd⟩ := hW
  have hA : DataW.TrodAll enc Try.prog W 0 (fun _ => true) true Try.f7.params.toList args.toList ds p := hA0
  rw [Try.params7] at hA hval
  obtain ⟨v0, vs0, d0, ds0, p0, q0, hargs, rfl, rfl, h0, r0⟩ := trodAll_cons hA
  obtain ⟨v1, vs1, d1, ds1, p1, q1, rfl, rfl, rfl, h1, r1⟩ := trodAll_cons r0
  obtain ⟨rfl, rfl, rfl⟩ := trodAll_nil r1
  obtain rfl : args = #[v0, v1] := by cases args; simp_all
  obtain ⟨rfl, rfl⟩ := trodVars_none hV
  obtain ⟨a0, len0, cap0, rfl⟩ := okWide_slice Try.underlying29 (hval 0 29 v0 rfl rfl)
  have k0 := h0
  have lt0 : ∀ x ∈ p0, x.block < W.heap.size := by obtain ⟨m, hm⟩ := k0; exact DataW.trod_lt m _ _ _ hm
  obtain ⟨z0, w0⟩ : ∃ zs, IsRow .u8 W a0 len0 cap0 zs := by
    obtain ⟨fuel, hf⟩ := h0
    rcases open_ints Try.underlying29 Try.underlying5 (by kernel_rfl) hf with ⟨hcs, _⟩ | ⟨x, l, c, zs, hcs, _, hl, hm, hz, _, hcell, hwz⟩
    · simp [Value.cells] at hcs
      obtain ⟨rfl, rfl, rfl⟩ := hcs
      exact ⟨[], .inl ⟨rfl, rfl, rfl, rfl⟩⟩
    · simp [Value.cells] at hcs
      obtain ⟨rfl, rfl, rfl⟩ := hcs
      exact ⟨zs, .inr ⟨_, rfl, hl, hm, by simpa using hz, hcell, hwz⟩⟩
  obtain ⟨a1, rfl, rfl, rfl, w1⟩ := open_int Try.underlying3 (hval 1 3 v1 rfl rfl) h1
  clear hA0 hval0
  refine (walk a0 len0 cap0 z0 a1 W w0 w1).mono fun e W' ⟨he, bel⟩ => ?_
  subst he
  exact ⟨_, rfl, _, _, _, [], _, [], hW', trodAll_mk1 (shut_bool Try.underlying4 _), (trodAll_cons_mk (Below.trod laidOut (by kernel_rfl) (of_decide_eq_true (by kernel_rfl)) k0 bel lt0) (trodAll_cons_mk (shut_int Try.underlying3 w1) trodAll_mk0)), rfl, bel.frame _, fun h => by cases h⟩

theorem over : Rows.columnsTransposeRow.holds Try.pinned (OpenSpec.ofChange Rows.columnsTransposeSpec) :=
  OpenClaim.holds_of_wide 7 Try.f7 rfl rfl rfl rfl rfl rfl rfl ⟨rfl, rfl, rfl, rfl, rfl⟩ rfl rfl rfl rfl rfl (by kernel_rfl) Try.func7 (by kernel_rfl)
    (of_decide_eq_true (by kernel_rfl)) (by unfold Func.isWrapper; first | (rw [if_pos (by decide +kernel)]; kernel_rfl) | (rw [if_neg (by decide +kernel)]; exact ⟨rfl, rfl⟩))
    (fun os started H enc _ => lifted os started H enc)

/-- ████ THE STATEMENT ████ -/
theorem proved : Rows.ColumnsTransposeSaid := over
#print axioms proved
end Go.Proofs.Ytmlmnmafbpjnbaa.columnsTranspose
