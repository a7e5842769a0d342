/- The walk of TreeMerges. -/
import Derived.Test.YtcjokhhcncimdaaDoorW19
import Derived.Test.YtcjokhhcncimdaaDoorC4
set_option linter.unusedVariables false
set_option linter.unusedSimpArgs false
namespace Go.Proofs.YtcjokhhcncimdaaDoor
open Go.RowKit Go.PF Go.Tr

theorem merge_len (base a b : List FileV) : (mergeE base a b).1.length ≤ a.length + b.length ∧ (mergeE base a b).2.1.length ≤ a.length + b.length := by
  have h1 := outL_len base a b (bothL a b)
  have h2 := confL_len base a b (bothL a b)
  have h3 := bothN_len (a.length + b.length) a b
  unfold bothL at h1 h2
  unfold mergeE bothL
  split
  · split
    · dsimp only
      exact ⟨by omega, by omega⟩
    · exact ⟨Nat.zero_le _, Nat.zero_le _⟩
  · exact ⟨Nat.zero_le _, Nat.zero_le _⟩
theorem eqstr_same (F1 F2 : Option Addr) (k1 k2 : Nat) (l : List ByteArray) (w : World) (h1 : RdS w F1 l) (h2 : RdS w F2 l) (g : l.length ≤ 4096) :
    Calls Tryd.prog 16 #[.slice F1 l.length k1, .slice F2 l.length k2] w fun e w' => e = .returned (.bool true) ∧ Ext w w' := by
  refine (eqstr_any F1 F2 k1 k2 l l w h1 h2 g g).mono ?_
  rintro e w' ⟨rfl, hx⟩
  exact ⟨by rw [decide_eq_true rfl], hx⟩

theorem merges_all (A B C : Option Addr) (ca cb cc : Nat) (base a b : List FileV) (w : World) (hm : Mx w) (hl1 : base.length ≤ maxLen) (hl2 : a.length ≤ maxLen) (hl3 : b.length ≤ maxLen) (hA : RdL w A base) (hB : RdL w B a) (hC : RdL w C b) :
    Calls Tryd.prog 3 #[.slice A base.length ca, .slice B a.length cb, .slice C b.length cc] w fun e w' => e = .returned (.bool true) ∧ Ext w w' := by
  have HA := Lib.hid hA; have HB := Lib.hid hB; have HC := Lib.hid hC; clear hA hB hC
  have HL1 := Lib.hid hl1; have HL2 := Lib.hid hl2; have HL3 := Lib.hid hl3; clear hl1 hl2 hl3
  go_enter Tryd.func3, Tryd.ntmps3
  go_wp2_with fail
  refine (few_any A ca base w HL1.out HA.out).mono ?_
  rintro e w' ⟨rfl, rfl⟩
  rcases hf1 : few base with _ | _
  · go_wp2_with fail
    refine (awake_any _ hm).mono ?_
    rintro e w2 ⟨rfl, hx2⟩
    go_wp2_with fail
    go_ret
    exact ⟨rfl, hx2⟩
  · have F1 := Lib.hid (fit_of hf1 HA.out)
    have h30 := (few_parts hf1).1
    clear hf1
    go_wp2_with fail
    refine (few_any B cb a w HL2.out HB.out).mono ?_
    rintro e w' ⟨rfl, rfl⟩
    rcases hf2 : few a with _ | _
    · go_wp2_with fail
      refine (awake_any _ hm).mono ?_
      rintro e w2 ⟨rfl, hx2⟩
      go_wp2_with fail
      go_ret
      exact ⟨rfl, hx2⟩
    · have F2 := Lib.hid (fit_of hf2 HB.out)
      have h31 := (few_parts hf2).1
      clear hf2
      go_wp2_with fail
      refine (few_any C cc b w HL3.out HC.out).mono ?_
      rintro e w' ⟨rfl, rfl⟩
      rcases hf3 : few b with _ | _
      · go_wp2_with fail
        refine (awake_any _ hm).mono ?_
        rintro e w2 ⟨rfl, hx2⟩
        go_wp2_with fail
        go_ret
        exact ⟨rfl, hx2⟩
      · have F3 := Lib.hid (fit_of hf3 HC.out)
        have h32 := (few_parts hf3).1
        clear hf3
        go_wp2_with fail
        refine (merge_fit A B C ca cb cc base a b w hm F1.out F2.out F3.out _ rfl).mono ?_
        rintro e w1 ⟨Ao, co, Ac, kc, rfl, hr1, hr2, hx1⟩
        have hm1 := hm.ext hx1
        go_wp2_with fail
        refine (rmerge_any A B C ca cb cc base a b w1 (by omega) (by omega) (by omega) F1.out.short F2.out.short F3.out.short F1.out.small F2.out.small F3.out.small (F1.out.rd.ext hx1) (F2.out.rd.ext hx1) (F3.out.rd.ext hx1)).mono ?_
        have hml := merge_len base a b
        generalize mergeE base a b = r at *
        rintro e w2 ⟨Bo, do_, Bc, kd, rfl, hs1, hs2, hx2⟩
        have hx := hx1.trans hx2
        have R1 := Lib.hid (hr1.ext hx2)
        have R2 : Hid (RdS w2 Ac r.2.1) := Rd.ext hr2 hx2
        clear hr1 hr2 hx1 hx2 hm1
        go_wp2_with fail
        refine (same_same Ao Bo co do_ r.1 w2 (by simp only [maxLen]; omega) R1.out hs1).mono ?_
        rintro e w3 ⟨rfl, hx3⟩
        go_wp2_with fail
        refine (eqstr_same Ac Bc kc kd r.2.1 w3 (Rd.ext R2.out hx3) (Rd.ext hs2 hx3) (by omega)).mono ?_
        rintro e w4 ⟨rfl, hx4⟩
        replace hx := (hx.trans hx3).trans hx4
        go_wp2_with fail
        refine (awake_any _ (hm.ext hx)).mono ?_
        rintro e w5 ⟨rfl, hx5⟩
        go_wp2_with fail
        go_ret
        exact ⟨rfl, hx.trans hx5⟩
end Go.Proofs.YtcjokhhcncimdaaDoor
