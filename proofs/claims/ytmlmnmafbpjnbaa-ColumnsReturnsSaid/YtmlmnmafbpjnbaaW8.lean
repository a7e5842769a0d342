/- The walk of the reference's Guess. -/
import Derived.Test.YtmlmnmafbpjnbaaW7
namespace Go.Proofs.Ytmlmnmafbpjnbaa
open Go.RowKit Go.PF Go.Col

theorem guess_yes' (s : Nat → Nat) (g i : Nat) (h1 : 2 ≤ i) (HG : g = guessTo s (i - 2)) (h : s g < s i) : i = guessTo s (i + 1 - 2) := by
  obtain ⟨j, rfl⟩ : ∃ j, i = j + 2 := ⟨i - 2, by omega⟩
  subst HG
  exact (guessTo_yes s j (by simpa using h)).symm
theorem guess_no' (s : Nat → Nat) (g i : Nat) (h1 : 2 ≤ i) (HG : g = guessTo s (i - 2)) (h : ¬ s g < s i) : g = guessTo s (i + 1 - 2) := by
  obtain ⟨j, rfl⟩ : ∃ j, i = j + 2 := ⟨i - 2, by omega⟩
  subst HG
  exact (guessTo_no s j (by simpa using h)).symm

set_option maxHeartbeats 1000000 in
theorem rguess_any (A : Option Addr) (cap n : Nat) (c : Nat → Int) (w : World) (hn : n ≤ 65536) (hcap : n ≤ cap) (hB : RdF w A n c) :
    Calls Try.prog 14 #[.slice A n cap] w fun e w' => e = .returned (.int .i64 (guessTo (fun k => scoreTo c k (min n 4096)) 63)) ∧ ∃ m, w' = w.drewN m := by
  rcases Nat.lt_or_ge 4096 n with hlt | hge
  · have hm : min n 4096 = 4096 := by omega
    rw [hm]
    clear hm
    have HB' := Lib.hid (hB.take (m := 4096) (by omega)); clear hB
    go_enter Try.func14, Try.ntmps14
    go_wp2
    go_loopg [3, 4] 64 (fun f v i wr => ∃ (i' g m : Nat), v = .int .i64 g ∧ i = .int .i64 i' ∧ 2 ≤ i' ∧ i' ≤ 65 ∧ 65 ≤ i' + f ∧ 1 ≤ g ∧ g ≤ 64 ∧ Hid (g = guessTo (fun k => scoreTo c k 4096) (i' - 2)) ∧ wr = w.drewN m)
    case atStart => exact ⟨2, 1, 0, rfl, rfl, by omega, by omega, by omega, by omega, by omega, rfl, rfl⟩
    case round =>
      obtain ⟨i', g, m, rfl, rfl, h1, h2, h3, h4, h5, HG, rfl⟩ := hrel
      by_cases hlt : i' ≤ 64
      · go_wp2_with fail
        refine (rscore_any A cap 4096 c i' (w.drewN m) (by omega) (by omega) (by omega) HB'.out).mono ?_
        rintro e w' ⟨rfl, q, rfl⟩
        go_wp2_with fail
        refine (rscore_any A cap 4096 c g (w.drewN (m + q)) (by omega) (by omega) (by omega) HB'.out).mono ?_
        rintro e w' ⟨rfl, q2, rfl⟩
        go_wp2_with fail
        all_goals go_roundg (gk - 1)
        case measure => omega
        case rel =>
          have hp : scoreTo c g 4096 < scoreTo c i' 4096 := by omega
          refine ⟨i' + 1, i', _, rfl, by go_num, by omega, by omega, by omega, by omega, by omega, guess_yes' _ _ _ h1 HG.out hp, rfl⟩
        case measure => omega
        case rel =>
          have hp : ¬ scoreTo c g 4096 < scoreTo c i' 4096 := by omega
          refine ⟨i' + 1, g, _, rfl, by go_num, by omega, by omega, by omega, by omega, by omega, guess_no' _ _ _ h1 HG.out hp, rfl⟩
      · obtain rfl : i' = 65 := by omega
        go_wp2
        go_ret
        exact ⟨by rw [HG.out]; rfl, _, rfl⟩
  · have hm : min n 4096 = n := by omega
    rw [hm]
    clear hm
    have HB' := Lib.hid hB; clear hB
    go_enter Try.func14, Try.ntmps14
    go_wp2
    go_loopg [3, 4] 64 (fun f v i wr => ∃ (i' g m : Nat), v = .int .i64 g ∧ i = .int .i64 i' ∧ 2 ≤ i' ∧ i' ≤ 65 ∧ 65 ≤ i' + f ∧ 1 ≤ g ∧ g ≤ 64 ∧ Hid (g = guessTo (fun k => scoreTo c k n) (i' - 2)) ∧ wr = w.drewN m)
    case atStart => exact ⟨2, 1, 0, rfl, rfl, by omega, by omega, by omega, by omega, by omega, rfl, rfl⟩
    case round =>
      obtain ⟨i', g, m, rfl, rfl, h1, h2, h3, h4, h5, HG, rfl⟩ := hrel
      by_cases hlt : i' ≤ 64
      · go_wp2_with fail
        refine (rscore_any A cap n c i' (w.drewN m) (by omega) (by omega) (by omega) HB'.out).mono ?_
        rintro e w' ⟨rfl, q, rfl⟩
        go_wp2_with fail
        refine (rscore_any A cap n c g (w.drewN (m + q)) (by omega) (by omega) (by omega) HB'.out).mono ?_
        rintro e w' ⟨rfl, q2, rfl⟩
        go_wp2_with fail
        all_goals go_roundg (gk - 1)
        case measure => omega
        case rel =>
          have hp : scoreTo c g n < scoreTo c i' n := by omega
          refine ⟨i' + 1, i', _, rfl, by go_num, by omega, by omega, by omega, by omega, by omega, guess_yes' _ _ _ h1 HG.out hp, rfl⟩
        case measure => omega
        case rel =>
          have hp : ¬ scoreTo c g n < scoreTo c i' n := by omega
          refine ⟨i' + 1, g, _, rfl, by go_num, by omega, by omega, by omega, by omega, by omega, guess_no' _ _ _ h1 HG.out hp, rfl⟩
      · obtain rfl : i' = 65 := by omega
        go_wp2
        go_ret
        exact ⟨by rw [HG.out]; rfl, _, rfl⟩

end Go.Proofs.Ytmlmnmafbpjnbaa
