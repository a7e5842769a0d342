/- The walks of right. -/
import Derived.Test.YtcjokhhcncimdaaDoorC5
import Derived.Test.YtcjokhhcncimdaaDoorLaw3
set_option linter.unusedVariables false
set_option linter.unusedSimpArgs false
namespace Go.Proofs.YtcjokhhcncimdaaDoor
open Go.RowKit Go.PF Go.Tr

/-- Is a list small and a tree? -/
def rightB (l : List FileV) : Bool := few l && (checkE l == 0)
theorem right_few {l : List FileV} (h : few l = false) : rightB l = false := by unfold rightB; rw [h]; rfl
theorem right_check {l : List FileV} (h : few l = true) : rightB l = (checkE l == 0) := by unfold rightB; rw [h]; rfl
theorem right_parts {l : List FileV} (h : rightB l = true) : few l = true ∧ checkE l = 0 := by
  unfold rightB at h
  simp only [Bool.and_eq_true, beq_iff_eq] at h
  exact h

theorem right1_any (A : Option Addr) (cap : Nat) (l : List FileV) (w : World) (hm : Mx w) (hl : l.length ≤ maxLen) (hB : RdL w A l) :
    Calls Tryd.prog 45 #[.slice A l.length cap] w fun e w' => e = .returned (.bool (!(rightB l))) ∧ Ext w w' := by
  have HB := Lib.hid hB; clear hB
  have HL := Lib.hid hl; clear hl
  rcases hfw : few l with _ | _
  · have HR := Lib.hid (right_few hfw)
    go_enter Tryd.func45, Tryd.ntmps45
    go_wp2_with fail
    refine (few_any A cap l w HL.out HB.out).mono ?_
    rintro e w' ⟨rfl, rfl⟩
    rw [hfw]
    clear hfw
    go_wp2_with fail
    go_ret
    exact ⟨by rw [HR.out]; rfl, Ext.refl _⟩
  · have HR := Lib.hid (right_check hfw)
    obtain ⟨h30, hsh, hsm⟩ := few_parts hfw
    have HS := Lib.hid hsh; clear hsh hsm
    go_enter Tryd.func45, Tryd.ntmps45
    go_wp2_with fail
    refine (few_any A cap l w HL.out HB.out).mono ?_
    rintro e w' ⟨rfl, rfl⟩
    rw [hfw]
    clear hfw
    go_wp2_with fail
    refine (tcheck_any A cap l w hm (by omega) HS.out HB.out).mono ?_
    rintro e w1 ⟨rfl, hx1⟩
    generalize checkE l = ce at *
    go_wp2_with fail
    go_ret
    exact ⟨by rw [HR.out]; rfl, hx1⟩

theorem indexfunc2_any (b off cap : Nat) (ts : List (List FileV)) (w : World) (hm : Mx w) (hn : ts.length ≤ 10)
    (hB : ∀ i l, ts[i]? = some l → ∃ A c, w.cell? ⟨b, off + i, none⟩ = some (.slice A l.length c) ∧ RdL w A l ∧ l.length ≤ maxLen) :
    Calls Tryd.prog 67 #[.slice (some ⟨b, off, none⟩) ts.length cap, .func (.func 45) #[] #[]] w fun e w' => ∃ r, e = .returned (.int .i64 r) ∧ (ts.all rightB = true → r = -1) ∧ (ts.all rightB = false → 0 ≤ r) ∧ Ext w w' := by
  have HB := Lib.hid hB; clear hB
  go_enter Tryd.func67, Tryd.ntmps67
  go_wp2_with fail
  go_loopg [8] (ts.length + 1) (fun f i wr => ∃ (i' : Nat), i = .int .i64 i' ∧ i' ≤ ts.length ∧ ts.length + 1 ≤ i' + f ∧ Hid ((ts.take i').all rightB = true) ∧ Ext w wr)
  case atStart => exact ⟨0, rfl, by omega, by omega, rfl, Ext.refl _⟩
  case round =>
    obtain ⟨i', rfl, h2, h3, HA, hx⟩ := hrel
    by_cases hlt : i' < ts.length
    · obtain ⟨l, hl⟩ : ∃ x, ts[i']? = some x := ⟨_, List.getElem?_eq_getElem hlt⟩
      obtain ⟨A, c, hc, hr, hll⟩ := HB.out i' l hl
      have hc' := hx.cell hc
      have HX := Lib.hid hl; clear hl hc
      go_wp2_with fail
      refine (right1_any A c l wr (hm.ext hx) hll (hr.ext hx)).mono ?_
      rintro e w1 ⟨rfl, hx1⟩
      by_cases hok : rightB l = true
      · have HO := Lib.hid hok
        rw [hok]
        clear hok
        go_wp2_with fail
        go_roundg (gk - 1)
        case measure => omega
        case rel => exact ⟨i' + 1, by go_num, by omega, by omega, all_succ HA.out HX.out HO.out, hx.trans hx1⟩
      · have hok : rightB l = false := by simpa using hok
        have HO := Lib.hid (all_stop HX.out hok)
        rw [hok]
        clear hok
        go_wp2_with fail
        go_ret
        exact ⟨_, rfl, fun h => (by rw [HO.out] at h; cases h), fun _ => by omega, hx.trans hx1⟩
    · obtain rfl : i' = ts.length := by omega
      have HB := Lib.hid (all_done HA.out)
      go_wp2_with fail
      go_ret
      exact ⟨_, rfl, fun _ => rfl, fun h => (by rw [HB.out] at h; cases h), hx⟩

theorem contains2_any (b off cap : Nat) (ts : List (List FileV)) (w : World) (hm : Mx w) (hn : ts.length ≤ 10)
    (hB : ∀ i l, ts[i]? = some l → ∃ A c, w.cell? ⟨b, off + i, none⟩ = some (.slice A l.length c) ∧ RdL w A l ∧ l.length ≤ maxLen) :
    Calls Tryd.prog 44 #[.slice (some ⟨b, off, none⟩) ts.length cap, .func (.func 45) #[] #[]] w fun e w' => e = .returned (.bool (!(ts.all rightB))) ∧ Ext w w' := by
  go_enter Tryd.func44, Tryd.ntmps44
  go_wp2_with fail
  refine (indexfunc2_any b off cap ts w hm hn hB).mono ?_
  rintro e w' ⟨r, rfl, h1, h2, hx⟩
  by_cases hok : ts.all rightB = true
  · rw [h1 hok]
    have HO := Lib.hid hok
    clear h1 h2 hok
    go_wp2_with fail
    go_ret
    exact ⟨by rw [HO.out]; rfl, hx⟩
  · have hok : ts.all rightB = false := by simpa using hok
    have h2 := h2 hok
    have HO := Lib.hid hok
    have h3 : decide (0 ≤ r) = true := decide_eq_true h2
    clear h1 hok
    go_wp2_with fail
    go_ret
    refine ⟨?_, hx⟩
    rw [HO.out]
    simp [h3]

theorem right_any (b off cap : Nat) (ts : List (List FileV)) (w : World) (hm : Mx w) (hn : ts.length ≤ 10)
    (hB : ∀ i l, ts[i]? = some l → ∃ A c, w.cell? ⟨b, off + i, none⟩ = some (.slice A l.length c) ∧ RdL w A l ∧ l.length ≤ maxLen) :
    Calls Tryd.prog 17 #[.slice (some ⟨b, off, none⟩) ts.length cap] w fun e w' => e = .returned (.bool (ts.all rightB)) ∧ Ext w w' := by
  go_enter Tryd.func17, Tryd.ntmps17
  go_wp2_with fail
  refine (contains2_any b off cap ts w hm hn hB).mono ?_
  rintro e w' ⟨rfl, hx⟩
  rcases hr : ts.all rightB with _ | _
  all_goals
    have HR := Lib.hid hr
    clear hr
    go_wp2_with fail
    go_ret
    exact ⟨by rw [HR.out]; rfl, hx⟩
end Go.Proofs.YtcjokhhcncimdaaDoor
