/- The walk of TreePatches. -/
import Derived.Test.YtcjokhhcncimdaaDoorW34
import Derived.Test.YtcjokhhcncimdaaDoorW32
import Derived.Test.YtcjokhhcncimdaaDoorW13
set_option linter.unusedVariables false
set_option linter.unusedSimpArgs false
namespace Go.Proofs.YtcjokhhcncimdaaDoor
open Go.RowKit Go.PF Go.Tr

theorem fewP_parts {l : List FileV} (h : few l = true) : l.length ≤ 30 ∧ Short l ∧ Small l := by
  unfold few at h
  simp only [Bool.and_eq_true, decide_eq_true_eq, List.all_eq_true] at h
  obtain ⟨h1, h2⟩ := h
  refine ⟨h1, fun f hf => ?_, fun f hf => ?_⟩
  · have := h2 f hf
    unfold fewF at this
    simp only [Bool.and_eq_true, decide_eq_true_eq] at this
    show f.path.size ≤ 9223372036854775807
    omega
  · have := h2 f hf
    unfold fewF at this
    simp only [Bool.and_eq_true, decide_eq_true_eq] at this
    omega

structure FitP (w : World) (A : Option Addr) (l : List FileV) : Prop where
  len : l.length ≤ 500
  short : Short l
  small : Small l
  rd : RdL w A l
theorem FitP.ext {w w' : World} {A : Option Addr} {l : List FileV} (h : FitP w A l) (he : Ext w w') : FitP w' A l := ⟨h.len, h.short, h.small, h.rd.ext he⟩
theorem fitP_of {w : World} {A : Option Addr} {l : List FileV} (h : few l = true) (hB : RdL w A l) : FitP w A l := by
  obtain ⟨h1, h2, h3⟩ := fewP_parts h
  exact ⟨by omega, h2, h3, hB⟩
theorem sameP (A1 A2 : Option Addr) (c1 c2 : Nat) (l : List FileV) (w : World) (hl : l.length ≤ maxLen) (h1 : RdL w A1 l) (h2 : RdL w A2 l) :
    Calls Tryd.prog 15 #[.slice A1 l.length c1, .slice A2 l.length c2] w fun e w' => e = .returned (.bool true) ∧ Ext w w' := by
  refine (same_any A1 A2 c1 c2 l l w hl hl h1 h2).mono ?_
  rintro e w' ⟨rfl, hx⟩
  exact ⟨by rw [decide_eq_true rfl], hx⟩


theorem diffE_len (a b : List FileV) : (diffE a b).1.length ≤ a.length + b.length := by
  have h1 := diffL_len a b (bothL a b)
  have h2 := bothN_len (a.length + b.length) a b
  have h3 : (bothL a b).length ≤ a.length + b.length := by unfold bothL; omega
  unfold diffE
  split
  · split
    · show (diffL a b (bothL a b)).length ≤ _; omega
    · exact Nat.zero_le _
  · exact Nat.zero_le _
theorem patchL_len : ∀ (cs : List ChangeV) (l : List FileV), (patchL cs l).1.length ≤ l.length + cs.length
  | [], l => Nat.le_refl _
  | c :: cs, l => by
    unfold patchL
    split
    · have h1 := patchL_len cs (stepE l c).1
      have h2 := step_len l c
      simp only [List.length_cons]
      omega
    · exact Nat.zero_le _
theorem patchE_len (l : List FileV) (cs : List ChangeV) : (patchE l cs).1.length ≤ l.length + cs.length := by
  have h := patchL_len cs l
  unfold patchE
  split
  · split
    · split
      · exact h
      · exact Nat.zero_le _
    · exact Nat.zero_le _
  · exact Nat.zero_le _

set_option maxRecDepth 100000 in
set_option maxHeartbeats 4000000 in
theorem patches_all (A B C : Option Addr) (ca cb cc : Nat) (a b : List FileV) (cs : List ChangeV) (w : World) (hm : Mx w) (hla : a.length ≤ maxLen) (hlb : b.length ≤ maxLen) (hlc : cs.length ≤ maxLen) (hA : RdL w A a) (hB : RdL w B b) (hC : RdC w C cs) (hF : Fine cs) :
    Calls Tryd.prog 8 #[.slice A a.length ca, .slice B b.length cb, .slice C cs.length cc] w fun e w' => e = .returned (.bool true) ∧ Ext w w' := by
  have HA := Lib.hid hA; have HB := Lib.hid hB; have HC := Lib.hid hC; have HF := Lib.hid hF; clear hA hB hC hF
  have HLA := Lib.hid hla; have HLB := Lib.hid hlb; clear hla hlb
  unfold maxLen at hlc
  go_enter Tryd.func8, Tryd.ntmps8
  go_wp2_with fail
  refine (few_any A ca a w HLA.out HA.out).mono ?_
  rintro e w' ⟨rfl, rfl⟩
  rcases hf1 : few a with _ | _
  · clear hf1
    go_wp2_with fail
    refine (awake_any _ hm).mono ?_
    rintro e w2 ⟨rfl, hx2⟩
    go_wp2_with fail
    go_ret
    exact ⟨rfl, hx2⟩
  · have F1 := Lib.hid (fitP_of hf1 HA.out)
    have h30 := (fewP_parts hf1).1
    clear hf1
    go_wp2_with fail
    refine (few_any B cb b w HLB.out HB.out).mono ?_
    rintro e w' ⟨rfl, rfl⟩
    rcases hf2 : few b with _ | _
    · clear hf2
      go_wp2_with fail
      refine (awake_any _ hm).mono ?_
      rintro e w2 ⟨rfl, hx2⟩
      go_wp2_with fail
      go_ret
      exact ⟨rfl, hx2⟩
    · have F2 := Lib.hid (fitP_of hf2 HB.out)
      have h31 := (fewP_parts hf2).1
      clear hf2
      by_cases hc20 : cs.length ≤ 20
      · have q1 : decide ((20 : Int) < (cs.length : Int)) = false := decide_eq_false (by omega)
        go_wp2_with fail
        refine (diff_any A B ca cb a b w hm (by omega) (by omega) F1.out.short F2.out.short F1.out.small F2.out.small F1.out.rd F2.out.rd).mono ?_
        rintro e w1 ⟨A1, c1, rfl, hr1, hx1⟩
        have HD1 := Lib.hid hr1
        have hdl := diffE_len a b
        clear hr1 q1
        go_wp2_with fail
        refine (rdiff_any A B ca cb a b w1 (by omega) (by omega) F1.out.short F2.out.short F1.out.small F2.out.small (F1.out.rd.ext hx1) (F2.out.rd.ext hx1)).mono ?_
        rintro e w2 ⟨A2, c2, rfl, hr2, hx2⟩
        replace HD1 := Lib.hid (HD1.out.ext hx2)
        have HD2 := Lib.hid hr2
        replace hx2 := hx1.trans hx2
        clear hr2 hx1
        generalize (diffE a b).2 = de at *
        generalize (diffE a b).1 = ds at *
        go_wp2_with fail
        refine (tpatch_any A C ca cc a cs w2 (hm.ext hx2) (by omega) F1.out.short F1.out.small (F1.out.rd.ext hx2) (HC.out.ext hx2) HF.out).mono ?_
        rintro e w3 ⟨A3, c3, rfl, hr3, hx3⟩
        have HP1 := Lib.hid hr3
        have hpl := patchE_len a cs
        replace HD1 := Lib.hid (HD1.out.ext hx3)
        replace HD2 := Lib.hid (HD2.out.ext hx3)
        replace hx3 := hx2.trans hx3
        clear hr3 hx2
        go_wp2_with fail
        refine (rpatch_any A C ca cc a cs w3 (by omega) F1.out.short F1.out.small (F1.out.rd.ext hx3) (HC.out.ext hx3) HF.out).mono ?_
        rintro e w4 ⟨A4, c4, rfl, hr4, hx4⟩
        replace HP1 := Lib.hid (HP1.out.ext hx4)
        have HP2 := Lib.hid hr4
        replace HD1 := Lib.hid (HD1.out.ext hx4)
        replace HD2 := Lib.hid (HD2.out.ext hx4)
        replace hx4 := hx3.trans hx4
        clear hr4 hx3
        generalize (patchE a cs).2 = pe at *
        generalize (patchE a cs).1 = pl at *
        go_wp2_with fail
        refine (samech_any A1 A2 c1 c2 ds w4 (by omega) HD1.out HD2.out).mono ?_
        rintro e w5 ⟨rfl, hx5⟩
        replace HP1 := Lib.hid (HP1.out.ext hx5)
        replace HP2 := Lib.hid (HP2.out.ext hx5)
        replace hx5 := hx4.trans hx5
        go_wp2_with fail
        refine (sameP A3 A4 c3 c4 pl _ (by simp only [maxLen]; omega) HP1.out HP2.out).mono ?_
        rintro e w6 ⟨rfl, hx6⟩
        replace hx6 := hx5.trans hx6
        go_wp2_with fail
        refine (awake_any _ (hm.ext hx6)).mono ?_
        rintro e w7 ⟨rfl, hx7⟩
        go_wp2_with fail
        go_ret
        exact ⟨rfl, hx6.trans hx7⟩
      · have q1 : decide ((20 : Int) < (cs.length : Int)) = true := decide_eq_true (by omega)
        go_wp2_with fail
        refine (awake_any _ hm).mono ?_
        rintro e w2 ⟨rfl, hx2⟩
        go_wp2_with fail
        go_ret
        exact ⟨rfl, hx2⟩
end Go.Proofs.YtcjokhhcncimdaaDoor
