/- The walks of the reference: letter, name, Path. -/
import Derived.Test.YtcjokhhcncimdaaDoorW1
namespace Go.Proofs.YtcjokhhcncimdaaDoor
open Go.RowKit Go.PF Go.Tr

theorem letter_any (c : Int) (h0 : 0 ≤ c) (h1 : c < 256) (w : World) :
    Calls Tryd.prog 70 #[.int .u8 c] w fun e w' => e = .returned (.bool (letterI c)) ∧ w = w' := by
  go_enter Tryd.func70, Tryd.ntmps70
  go_wp2
  all_goals
    go_ret
    refine ⟨?_, rfl⟩
    unfold letterI
    simp only [Array.getD_eq_getD_getElem?, List.getElem?_toArray, List.getElem?_cons_succ, List.getElem?_cons_zero, Option.getD_some, Ending.returned.injEq, Value.bool.injEq]
    first | (apply Eq.symm; rw [decide_eq_true_iff]; omega) | (apply Eq.symm; rw [decide_eq_false_iff_not]; omega) | (rw [Bool.eq_iff_iff]; simp <;> omega)

theorem rname_any (s : ByteArray) (hs : s.size ≤ 1000) (w : World) :
    Calls Tryd.prog 50 #[.string s] w fun e w' => e = .returned (.bool (nameB s)) ∧ w = w' := by
  have hlen := toList_len s
  go_enter Tryd.func50, Tryd.ntmps50
  go_wp2_with fail
  go_loopg [3] 1001 (fun f i wr => ∃ (i' : Nat), i = .int .i64 i' ∧ i' ≤ s.size ∧ 1001 ≤ i' + f ∧ Hid ((s.toList.take i').all letB = true) ∧ wr = w)
  case atStart => exact ⟨0, rfl, by omega, by omega, rfl, rfl⟩
  case round =>
    obtain ⟨i', rfl, h1, h2, HA, rfl⟩ := hrel
    by_cases hlt : i' < s.size
    · have HX := Lib.hid (toList_at hlt)
      have hb := s[i'].toNat_lt
      go_wp2_with fail
      refine (letter_any _ (by omega) (by omega) _).mono ?_
      rintro e w' ⟨rfl, rfl⟩
      by_cases hl : letB s[i'] = true
      · have hl' : letterI (s[i'].toNat : Int) = true := hl
        rw [hl']
        clear hl'
        go_wp2_with fail
        go_roundg (gk - 1)
        case measure => omega
        case rel => exact ⟨i' + 1, by go_num, by omega, by omega, all_succ HA.out HX.out hl, rfl⟩
      · have hl' : letterI (s[i'].toNat : Int) = false := by simpa [letB] using hl
        rw [hl']
        go_wp2_with fail
        go_ret
        refine ⟨?_, rfl⟩
        have : nameB s = false := by unfold nameB; rw [all_stop HX.out (by simpa using hl)]; rfl
        rw [this]; rfl
    · obtain rfl : i' = s.size := by omega
      have HB : Hid (s.toList.all letB = true) := by
        have := HA.out
        rwa [List.take_of_length_le (by omega)] at this
      go_wp2_with fail
      all_goals
        go_ret
        refine ⟨?_, rfl⟩
        unfold nameB
        rw [HB.out]
        simp [*]
end Go.Proofs.YtcjokhhcncimdaaDoor
