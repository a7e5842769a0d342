/- The walk of TreeChecks. -/
import Derived.Test.YtcjokhhcncimdaaDoorW13
set_option linter.unusedVariables false
set_option linter.unusedSimpArgs false
namespace Go.Proofs.YtcjokhhcncimdaaDoor
open Go.RowKit Go.PF Go.Tr

theorem few_parts {l : List FileV} (h : few l = true) : l.length ≤ 30 ∧ Short l ∧ Small l := by
  unfold few at h
  simp only [Bool.and_eq_true, decide_eq_true_eq, List.all_eq_true] at h
  obtain ⟨h1, h2⟩ := h
  refine ⟨h1, fun f hf => ?_, fun f hf => ?_⟩
  · have := h2 f hf
    unfold fewF at this
    simp only [Bool.and_eq_true, decide_eq_true_eq] at this
    show f.path.size ≤ 9223372036854775807
    omega
  · have := h2 f hf
    unfold fewF at this
    simp only [Bool.and_eq_true, decide_eq_true_eq] at this
    omega

theorem checks_few (A : Option Addr) (cap : Nat) (l : List FileV) (p : ByteArray) (w : World) (hm : Mx w) (hl : l.length ≤ maxLen) (hp : p.size ≤ maxLen) (hB : RdL w A l) (hf : few l = false ∨ 600 < p.size) :
    Calls Tryd.prog 5 #[.slice A l.length cap, .string p] w fun e w' => e = .returned (.bool true) ∧ Ext w w' := by
  have HB := Lib.hid hB; clear hB
  have HL := Lib.hid hl; clear hl
  unfold maxLen at hp
  rcases hfw : few l with _ | _
  · clear hf
    go_enter Tryd.func5, Tryd.ntmps5
    go_wp2_with fail
    refine (few_any A cap l w HL.out HB.out).mono ?_
    rintro e w' ⟨rfl, rfl⟩
    rw [hfw]
    clear hfw
    go_wp2_with fail
    refine (awake_any _ hm).mono ?_
    rintro e w1 ⟨rfl, hx1⟩
    go_wp2_with fail
    go_ret
    exact ⟨rfl, hx1⟩
  · have hps : 600 < p.size := by
      rcases hf with h | h
      · rw [hfw] at h; cases h
      · exact h
    clear hf
    go_enter Tryd.func5, Tryd.ntmps5
    go_wp2_with fail
    refine (few_any A cap l w HL.out HB.out).mono ?_
    rintro e w' ⟨rfl, rfl⟩
    rw [hfw]
    clear hfw
    go_wp2_with fail
    refine (awake_any _ hm).mono ?_
    rintro e w1 ⟨rfl, hx1⟩
    go_wp2_with fail
    go_ret
    exact ⟨rfl, hx1⟩

theorem checks_full (A : Option Addr) (cap : Nat) (l : List FileV) (p : ByteArray) (w : World) (hm : Mx w) (hB : RdL w A l) (hfw : few l = true) (hps : p.size ≤ 600) :
    Calls Tryd.prog 5 #[.slice A l.length cap, .string p] w fun e w' => e = .returned (.bool true) ∧ Ext w w' := by
  obtain ⟨h30, hsh, hsm⟩ := few_parts hfw
  have HB := Lib.hid hB; clear hB
  have HS := Lib.hid hsh; clear hsh hsm
  go_enter Tryd.func5, Tryd.ntmps5
  go_wp2_with fail
  refine (few_any A cap l w (by simp [maxLen]; omega) HB.out).mono ?_
  rintro e w' ⟨rfl, rfl⟩
  rw [hfw]
  clear hfw
  go_wp2_with fail
  refine (tfind_any A cap l p w hm (by omega) HS.out HB.out).mono ?_
  rintro e w1 ⟨rfl, hx1⟩
  have hm1 := hm.ext hx1
  go_wp2_with fail
  refine (rfind_any A cap l p w1 (by omega) HS.out (HB.out.ext hx1)).mono ?_
  rintro e w2 ⟨rfl, hx2⟩
  generalize findE l p = r
  have hx := hx1.trans hx2
  clear hx1 hx2 hm1
  go_wp2_with fail
  refine (tpath_any p (by simp [maxLen]; omega) w2 (hm.ext hx)).mono ?_
  rintro e w3 ⟨rfl, hx3⟩
  replace hx := hx.trans hx3
  clear hx3
  go_wp2_with fail
  refine (rpath_any p (by simp [maxLen]; omega) w3).mono ?_
  rintro e w4 ⟨rfl, rfl⟩
  generalize pathE p = pe
  have hmx := hm.ext hx
  go_wp2_with fail
  refine (tcheck_any A cap l w3 hmx (by omega) HS.out (HB.out.ext hx)).mono ?_
  rintro e w4 ⟨rfl, hx4⟩
  replace hx := hx.trans hx4
  clear hx4 hmx
  go_wp2_with fail
  refine (rcheck_any A cap l w4 (by omega) HS.out (HB.out.ext hx)).mono ?_
  rintro e w5 ⟨rfl, hx5⟩
  replace hx := hx.trans hx5
  clear hx5
  generalize checkE l = ce
  go_wp2_with fail
  refine (awake_any _ (hm.ext hx)).mono ?_
  rintro e w6 ⟨rfl, hx6⟩
  go_wp2_with fail
  go_ret
  exact ⟨rfl, hx.trans hx6⟩

theorem checks_all (A : Option Addr) (cap : Nat) (l : List FileV) (p : ByteArray) (w : World) (hm : Mx w) (hl : l.length ≤ maxLen) (hp : p.size ≤ maxLen) (hB : RdL w A l) :
    Calls Tryd.prog 5 #[.slice A l.length cap, .string p] w fun e w' => e = .returned (.bool true) ∧ Ext w w' := by
  by_cases h : few l = false ∨ 600 < p.size
  · exact checks_few A cap l p w hm hl hp hB h
  · have h1 : few l = true := by
      cases hf : few l
      · exact absurd (.inl hf) h
      · rfl
    exact checks_full A cap l p w hm hB h1 (by omega)
end Go.Proofs.YtcjokhhcncimdaaDoor
