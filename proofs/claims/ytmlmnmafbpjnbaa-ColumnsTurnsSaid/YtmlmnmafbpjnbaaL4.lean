/- The statement 'Rows.ColumnsTurnsSaid': for every input the law returns true, and each argument reads behind the call as it read before. Conditions: none. -/
import Derived.Test.YtmlmnmafbpjnbaaRows
import Derived.Test.YtmlmnmafbpjnbaaW10
import Derived.WalkKit
import Derived.ProofKit
import Derived.OpenShut
import Derived.ShutString
import Derived.ChangeOld
import Derived.Below
namespace Go.Proofs.Ytmlmnmafbpjnbaa.columnsTurns
open Go.PF Go.Col
open Go.ChangeShapes Go.WideShapes Go.ChangeAt Go.RowKit
open Go.ChangeMaps (open_string shut_string)
set_option linter.unusedVariables false

theorem own : ownKnob Try.prog.godebug = none := by kernel_rfl
theorem laidOut : laidOutB Try.prog = true := by kernel_rfl

/-- WHAT THE WALK IS TOLD OF A SLICE OF INTEGERS THAT CAME IN: it is nil; or it leads to a row of 'cap' cells, the numbers 'zs' (the first 'len' are its elements, the rest its spare room), each fitting its kind. -/
def IsRow (k : IntKind) (w : World) (a : Option Addr) (len cap : Nat) (zs : List Int) : Prop :=
  (a = none ∧ len = 0 ∧ cap = 0 ∧ zs = []) ∨
  ∃ x, a = some x ∧ len ≤ cap ∧ cap ≤ maxLen ∧ zs.length = cap ∧ (∀ i, i < zs.length → w.cell? (x.add i) = some (.int k (zs.getD i 0))) ∧ ∀ n ∈ zs, (Lit.int k n).wf = true

theorem turn_eq (c : Nat → Int) (m r k : Nat) (hm : m = r * k) (hr : 1 ≤ r) (hk : 1 ≤ k) : strF (invTo (ordAt m r) c m) m = strF (fun j => c (ordAt m k j)) m := by
  subst hm
  refine strF_congr fun j hj => ?_
  rw [inv_law (r * k) r c j hr hj, turns_law r k j hk hr hj]

theorem core (A : Option Addr) (n cap : Nat) (c : Nat → Int) (a : Int) (w : World) (hB : RdF w A n c) (hcap : n ≤ cap) (hmax : cap ≤ maxLen) (ha : 0 ≤ a) (ha2 : a < 256) :
    Calls Try.prog 9 #[.slice A n cap, .int .u8 a] w fun e w' => e = .returned (.bool true) ∧ Below w.heap.size w w' := by
  have HB := Lib.hid hB; clear hB
  unfold maxLen at hmax
  obtain ⟨k, hk, hk1, hk2⟩ : ∃ k : Nat, 1 + a % 64 = (k : Int) ∧ 1 ≤ k ∧ k ≤ 64 := ⟨(1 + a % 64).toNat, by omega, by omega, by omega⟩
  have hdiv : n / k ≤ n := Nat.div_le_self _ _
  obtain ⟨q, hq⟩ : ∃ q : Nat, q = n / k := ⟨_, rfl⟩
  have hq' : (n : Int) / (k : Int) = (q : Int) := by rw [hq]; simp
  have hqk : q * k ≤ n := by rw [hq]; exact Nat.div_mul_le_self _ _
  rw [← hq] at hdiv
  clear hq
  obtain ⟨r, hr, hr64, hrq⟩ : ∃ r : Nat, r = min q 64 ∧ r ≤ 64 ∧ r ≤ q := ⟨min q 64, rfl, by omega, by omega⟩
  have hrk : r * k ≤ n := Nat.le_trans (Nat.mul_le_mul_right _ hrq) hqk
  have hrk2 : r * k ≤ 64 * 64 := Nat.mul_le_mul hr64 hk2
  obtain ⟨m, hm⟩ : ∃ m : Nat, m = r * k := ⟨_, rfl⟩
  have hm' : (r : Int) * (k : Int) = (m : Int) := by rw [hm]; simp
  rw [← hm] at hrk hrk2
  have HM := Lib.hid hm; clear hm hqk
  by_cases hr0 : r = 0
  · have hq0 : q = 0 := by omega
    subst hq0
    clear hr hm' HM hrk hrk2 hr0 hr64 hrq
    go_enter Try.func9, Try.ntmps9
    go_wp2_with fail
    refine (awake_any _).mono ?_
    rintro e w1 ⟨rfl, hx1⟩
    go_wp2_with fail
    go_ret
    exact ⟨rfl, hx1⟩
  · rcases Nat.lt_or_ge 64 q with hq64 | hq64
    · obtain rfl : r = 64 := by omega
      have hrn : ((64 : Int) == 0) = false := by simp
      have hm2 : (64 : Int) * (k : Int) = (m : Int) := by simpa using hm'
      clear hm'
      clear hr hr0 hrq
      go_enter Try.func9, Try.ntmps9
      go_wp2_with fail
      refine (forward_ok A cap m c k _ (by omega) hk1 hk2 (HB.out.take hrk)).mono ?_
      rintro e w1 ⟨B1, c1, rfl, hr1, hx1⟩
      rw [ordLen_eq m k hk1] at hr1 ⊢
      have HR1 := Lib.hid hr1; clear hr1
      go_wp2_with fail
      refine (inverse_ok A cap m c 64 _ (by omega) (by omega) (by omega) (by omega) ((HB.out.take hrk).ext hx1) (ordLen_eq m 64 (by omega))).mono ?_
      rintro e w2 ⟨B2, c2, rfl, hr2, hx2⟩
      have HR2 := Lib.hid hr2; clear hr2
      go_wp2_with fail
      refine (awake_any _).mono ?_
      rintro e w3 ⟨rfl, hx3⟩
      have hs1 := conv_bytes (HR1.out.ext (hx2.trans hx3)) c1
      have hs2 := conv_bytes (HR2.out.ext hx3) c2
      rw [turn_eq c m 64 k HM.out (by omega) hk1] at hs2
      generalize strF (fun j => c (ordAt m k j)) m = S1 at *
      go_wp2_with fail
      go_ret
      exact ⟨by simp, (hx1.trans hx2).trans hx3⟩
    · obtain rfl : r = q := by omega
      have hrp : 1 ≤ r := by omega
      have hrn : ((r : Int) == 0) = false := by simp; omega
      clear hr hr0 hrq
      go_enter Try.func9, Try.ntmps9
      go_wp2_with fail
      refine (forward_ok A cap m c k _ (by omega) hk1 hk2 (HB.out.take hrk)).mono ?_
      rintro e w1 ⟨B1, c1, rfl, hr1, hx1⟩
      rw [ordLen_eq m k hk1] at hr1 ⊢
      have HR1 := Lib.hid hr1; clear hr1
      go_wp2_with fail
      refine (inverse_ok A cap m c r _ (by omega) (by omega) (by omega) (by omega) ((HB.out.take hrk).ext hx1) (ordLen_eq m r (by omega))).mono ?_
      rintro e w2 ⟨B2, c2, rfl, hr2, hx2⟩
      have HR2 := Lib.hid hr2; clear hr2
      go_wp2_with fail
      refine (awake_any _).mono ?_
      rintro e w3 ⟨rfl, hx3⟩
      have hs1 := conv_bytes (HR1.out.ext (hx2.trans hx3)) c1
      have hs2 := conv_bytes (HR2.out.ext hx3) c2
      rw [turn_eq c m r k HM.out (by omega) hk1] at hs2
      generalize strF (fun j => c (ordAt m k j)) m = S1 at *
      go_wp2_with fail
      go_ret
      exact ⟨by simp, (hx1.trans hx2).trans hx3⟩

theorem walk (a0 : Option Addr) (len0 cap0 : Nat) (z0 : List Int) (a1 : Int) (w : World) (w0 : IsRow .u8 w a0 len0 cap0 z0) (w1 : (Lit.int .u8 a1).wf = true) :
    Calls Try.prog 9 #[.slice a0 len0 cap0, .int .u8 a1] w fun e w' => e = .returned (.bool true) ∧ Below w.heap.size w w' := by
  obtain ⟨c, h1, h2, h3, _⟩ := rdF_arg w0
  have hb : 0 ≤ a1 ∧ a1 < 256 := by simp [Lit.wf, show IntKind.u8.min = 0 from rfl, show IntKind.u8.max = 255 from rfl] at w1; omega
  exact core a0 len0 cap0 c a1 w h1 h2 h3 hb.1 hb.2


/-! ### THE ROW's STEP: WRITTEN OUT: LEAVE IT -/
set_option maxRecDepth 100000 in
theorem lifted (os : Os) (started : os.Started) (H : Type) (enc : TypeId × Value → H) :
    ReturnsInHanded {} Try.checked os 9 .any (Rows.columnsTurnsSpec.pre6 enc Try.prog Try.f9 Rows.columnsTurnsRow.domain false) (Rows.columnsTurnsSpec.post enc Try.prog Try.f9 false true false false) := by
  refine returnsInHanded_of_change (C := Try.checked) own started (by kernel_rfl) Try.func9
    (ChangeSpec.witness6 (enc := enc) (C := Try.checked) false ⟨#[], #[.slice none 0 0, .int .u8 0], []⟩ 8 (by kernel_rfl) (by kernel_rfl) (by kernel_rfl) (by kernel_rfl)) ?_
  intro W base args ds gs before hval0 hW hcnd _
  have hval : ∀ (j : Nat) t v, Try.f9.params[j]? = some t → args[j]? = some v → Value.okWide Try.prog W .any base t v := hval0
  have hW' := hW
  obtain ⟨p, q, hA0, hV, rfl, hfz, hnd⟩ := hW
  have hA : DataW.TrodAll enc Try.prog W 0 (fun _ => true) true Try.f9.params.toList args.toList ds p := hA0
  rw [Try.params9] at hA hval
  obtain ⟨v0, vs0, d0, ds0, p0, q0, hargs, rfl, rfl, h0, r0⟩ := trodAll_cons hA
  obtain ⟨v1, vs1, d1, ds1, p1, q1, rfl, rfl, rfl, h1, r1⟩ := trodAll_cons r0
  obtain ⟨rfl, rfl, rfl⟩ := trodAll_nil r1
  obtain rfl : args = #[v0, v1] := by cases args; simp_all
  obtain ⟨rfl, rfl⟩ := trodVars_none hV
  obtain ⟨a0, len0, cap0, rfl⟩ := okWide_slice Try.underlying29 (hval 0 29 v0 rfl rfl)
  have k0 := h0
  have lt0 : ∀ x ∈ p0, x.block < W.heap.size := by obtain ⟨m, hm⟩ := k0; exact DataW.trod_lt m _ _ _ hm
  obtain ⟨z0, w0⟩ : ∃ zs, IsRow .u8 W a0 len0 cap0 zs := by
    obtain ⟨fuel, hf⟩ := h0
    rcases open_ints Try.underlying29 Try.underlying5 (by kernel_rfl) hf with ⟨hcs, _⟩ | ⟨x, l, c, zs, hcs, _, hl, hm, hz, _, hcell, hwz⟩
    · simp [Value.cells] at hcs
      obtain ⟨rfl, rfl, rfl⟩ := hcs
      exact ⟨[], .inl ⟨rfl, rfl, rfl, rfl⟩⟩
    · simp [Value.cells] at hcs
      obtain ⟨rfl, rfl, rfl⟩ := hcs
      exact ⟨zs, .inr ⟨_, rfl, hl, hm, by simpa using hz, hcell, hwz⟩⟩
  obtain ⟨a1, rfl, rfl, rfl, w1⟩ := open_int Try.underlying5 (hval 1 5 v1 rfl rfl) h1
  clear hA0 hval0
  refine (walk a0 len0 cap0 z0 a1 W w0 w1).mono fun e W' ⟨he, bel⟩ => ?_
  subst he
  exact ⟨_, rfl, _, _, _, [], _, [], hW', trodAll_mk1 (shut_bool Try.underlying4 _), (trodAll_cons_mk (Below.trod laidOut (by kernel_rfl) (of_decide_eq_true (by kernel_rfl)) k0 bel lt0) (trodAll_cons_mk (shut_int Try.underlying5 w1) trodAll_mk0)), rfl, bel.frame _, fun h => by cases h⟩

theorem over : Rows.columnsTurnsRow.holds Try.pinned (OpenSpec.ofChange Rows.columnsTurnsSpec) :=
  OpenClaim.holds_of_wide 9 Try.f9 rfl rfl rfl rfl rfl rfl rfl ⟨rfl, rfl, rfl, rfl, rfl⟩ rfl rfl rfl rfl rfl (by kernel_rfl) Try.func9 (by kernel_rfl)
    (of_decide_eq_true (by kernel_rfl)) (by unfold Func.isWrapper; first | (rw [if_pos (by decide +kernel)]; kernel_rfl) | (rw [if_neg (by decide +kernel)]; exact ⟨rfl, rfl⟩))
    (fun os started H enc _ => lifted os started H enc)

/-- ████ THE STATEMENT ████ -/
theorem proved : Rows.ColumnsTurnsSaid := over
#print axioms proved
end Go.Proofs.Ytmlmnmafbpjnbaa.columnsTurns
