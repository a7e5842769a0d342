/- The walks of the functions of layer 39 that only reckon or read bytes: limits, score, cmp.Compare, Place. -/
import Derived.Test.YtmlmnmafbpjnbaaRows
import Derived.Test.YtmlmnmafbpjnbaaBase
import Derived.Test.YtmlmnmafbpjnbaaSpec
namespace Go.Proofs.Ytmlmnmafbpjnbaa
open Go.RowKit Go.PF Go.Col

theorem limits_any (n k : Int) (w : World) :
    Calls Try.prog 20 #[.int .i64 n, .int .i64 k] w fun e w' => e = .returned (.int .i64 (limitsF n k)) ∧ w = w' := by
  go_enter Try.func20, Try.ntmps20
  go_wp2
  all_goals
    go_ret
    refine ⟨ret_int ?_, rfl⟩
    unfold limitsF
    repeat (first | (rw [if_pos (by omega)]) | (rw [if_neg (by omega)]))

theorem rlimits_any (n k : Int) (w : World) :
    Calls Try.prog 28 #[.int .i64 n, .int .i64 k] w fun e w' => e = .returned (.int .i64 (limitsF n k)) ∧ w = w' := by
  go_enter Try.func28, Try.ntmps28
  go_wp2
  all_goals
    go_ret
    refine ⟨ret_int ?_, rfl⟩
    unfold limitsF
    repeat (first | (rw [if_pos (by omega)]) | (rw [if_neg (by omega)]))

theorem nan_any (n : Int) (w : World) :
    Calls Try.prog 29 #[.int .i64 n] w fun e w' => e = .returned (.bool false) ∧ w = w' := by
  go_enter Try.func29, Try.ntmps29
  go_wp2
  go_ret
  exact ⟨by simp, rfl⟩

theorem compare_any (x y : Int) (w : World) :
    Calls Try.prog 24 #[.int .i64 x, .int .i64 y] w fun e w' => e = .returned (.int .i64 (if x < y then -1 else if y < x then 1 else 0)) ∧ w = w' := by
  go_enter Try.func24, Try.ntmps24
  go_wp2_with (go_at_call 29; refine (nan_any _ _).mono ?_; rintro e w' ⟨rfl, rfl⟩)
  all_goals
    go_ret
    refine ⟨ret_int ?_, rfl⟩
    repeat (first | rfl | (rw [if_pos (by omega)]) | (rw [if_neg (by omega)]))

/-- bytes in memory, by a function -/
def RdF (w : World) (A : Option Addr) (n : Nat) (c : Nat → Int) : Prop :=
  n = 0 ∨ ∃ b off, A = some ⟨b, off, none⟩ ∧ ∀ k, k < n → w.cell? ⟨b, off + k, none⟩ = some (.int .u8 (c k))
theorem RdF.ext {w w' : World} {A : Option Addr} {n : Nat} {c : Nat → Int} (h : RdF w A n c) (he : Ext w w') : RdF w' A n c := by
  rcases h with h | ⟨b, off, hA, h⟩
  · exact .inl h
  · exact .inr ⟨b, off, hA, fun k hk => he.cell (h k hk)⟩

theorem score_any (A : Option Addr) (cap n : Nat) (c : Nat → Int) (k : Nat) (w : World) (hl : n ≤ 65536) (hk1 : 1 ≤ k) (hk : k ≤ 64) (hB : RdF w A n c) :
    Calls Try.prog 25 #[.slice A n cap, .int .i64 k] w fun e w' => e = .returned (.int .i64 (scoreTo c k n)) ∧ ∃ n, w' = w.drewN n := by
  by_cases h0 : k < n
  · rcases hB with hB | ⟨b, off, rfl, hc⟩
    · omega
    have HC := Lib.hid hc; clear hc
    go_enter Try.func25, Try.ntmps25
    go_wp2
    go_loopg [5, 6] n (fun f v i wr => ∃ (i' m : Nat), v = .int .i64 (scoreTo c k i') ∧ i = .int .i64 i' ∧ k ≤ i' ∧ i' ≤ n ∧ n ≤ i' + f ∧ wr = w.drewN m)
    case atStart => exact ⟨k, 0, by rw [scoreTo_zero c k k (Nat.le_refl _)]; rfl, rfl, by omega, by omega, by omega, rfl⟩
    case round =>
      obtain ⟨i', m, rfl, rfl, h1, h2, h4, rfl⟩ := hrel
      by_cases hlt : i' < n
      · have hc1 := HC.out i' hlt
        have hc2 := HC.out (i' - k) (by omega)
        have hx : ((i' : Int) - (k : Int)).toNat = i' - k := by omega
        have hq : (0:Int) ≤ (i' : Int) - k := by omega
        have hs := scoreTo_le c k i'
        go_wp2
        go_quiet (fail)
        all_goals go_wp2
        all_goals
          go_roundg (gk - 1)
        case measure => omega
        case rel =>
          have hb : (c i' == c (i' - k)) = true := by assumption
          have he : c i' = c (i' - k) := by simpa using hb
          exact ⟨i' + 1, _, by rw [scoreTo_yes c k i' h1 he]; go_num, by go_num, by omega, by omega, by omega, rfl⟩
        case measure => omega
        case rel =>
          have hb : (c i' == c (i' - k)) = false := by assumption
          have he : c i' ≠ c (i' - k) := by simpa using hb
          exact ⟨i' + 1, _, by rw [scoreTo_no c k i' he], by go_num, by omega, by omega, by omega, rfl⟩
      · go_wp2
        go_ret
        obtain rfl : i' = n := by omega
        exact ⟨rfl, _, rfl⟩
  · have h0' : n ≤ k := by omega
    go_enter Try.func25, Try.ntmps25
    go_wp2
    refine wp_loop_once ?_
    go_wp2
    go_ret
    exact ⟨by rw [scoreTo_zero c k n h0']; rfl, 0, rfl⟩

theorem place_wrap (n k a : Nat) (hn : n ≤ 65536) (hk1 : 1 ≤ k) (hk : k ≤ 64) (ha : a < n) (x : Int) (hx : x = ((min (a % k) (n % k) : Nat) : Int)) :
    wrap64 (wrap64 (wrap64 ((a : Int) % k * wrap64 ((n : Int) / k)) + x) + wrap64 ((a : Int) / k)) = (placeF n k a : Int) := by
  have h1 : a % k < 64 := Nat.lt_of_lt_of_le (Nat.mod_lt _ (by omega)) hk
  have h2 : n / k ≤ 65536 := Nat.le_trans (Nat.div_le_self _ _) hn
  have h3 : a % k * (n / k) ≤ 64 * 65536 := Nat.mul_le_mul (by omega) h2
  have h4 : n % k < 64 := Nat.lt_of_lt_of_le (Nat.mod_lt _ (by omega)) hk
  have h5 : a / k ≤ 65536 := Nat.le_trans (Nat.div_le_self _ _) (by omega)
  have e1 : (n : Int) / k = ((n / k : Nat) : Int) := by simp
  have e2 : (a : Int) % k = ((a % k : Nat) : Int) := by simp
  have e3 : (a : Int) / k = ((a / k : Nat) : Int) := by simp
  have e4 : ((a % k : Nat) : Int) * ((n / k : Nat) : Int) = ((a % k * (n / k) : Nat) : Int) := by simp
  unfold placeF
  rw [e1, e2, e3, hx]
  generalize hP : a % k * (n / k) = P at *
  generalize a % k = A at *
  generalize n / k = N at *
  generalize a / k = D at *
  generalize n % k = M at *
  rw [IntWalk.wrap64_in (N : Int) ⟨by omega, by omega⟩, e4, IntWalk.wrap64_in (P : Int) ⟨by omega, by omega⟩, IntWalk.wrap64_in (D : Int) ⟨by omega, by omega⟩, IntWalk.wrap64_in ((P : Int) + _) ⟨by omega, by omega⟩, IntWalk.wrap64_in _ ⟨by omega, by omega⟩]
  omega

theorem place_any (n k a : Nat) (w : World) (hn : n ≤ 65536) (hk1 : 1 ≤ k) (hk : k ≤ 64) (ha : a < n) :
    Calls Try.prog 11 #[.int .i64 n, .int .i64 k, .int .i64 a] w fun e w' => e = .returned (.tuple #[.int .i64 (placeF n k a), .int .i64 0]) ∧ ∃ n, w' = w.drewN n := by
  have hlim : limitsF n k = 0 := by unfold limitsF; rw [if_neg (by omega), if_neg (by omega)]
  have HL := Lib.hid hlim; clear hlim
  have h1 : a % k < 64 := Nat.lt_of_lt_of_le (Nat.mod_lt _ (by omega)) hk
  have h2 : n / k ≤ 65536 := Nat.le_trans (Nat.div_le_self _ _) hn
  have h3 : a % k * (n / k) ≤ 64 * 65536 := Nat.mul_le_mul (by omega) h2
  have h4 : n % k < 64 := Nat.lt_of_lt_of_le (Nat.mod_lt _ (by omega)) hk
  have h5 : a / k ≤ 65536 := Nat.le_trans (Nat.div_le_self _ _) (by omega)
  have hd1 : (decide ((n : Int) < 0)) = false := by simp
  have hd2 : (decide ((a : Int) < 0)) = false := by simp
  have hd3 : (decide (n ≤ a)) = false := by simp; omega
  have hk0 : ((k : Int) == 0) = false := by simp; omega
  go_enter Try.func11, Try.ntmps11
  go_wp2_with (go_at_call 20; refine (limits_any _ _ _).mono ?_; rintro e w' ⟨rfl, rfl⟩; rw [HL.out])
  go_quiet (fail)
  go_wp2
  go_quiet (fail)
  all_goals go_wp2
  all_goals
    go_ret2
    refine ⟨congrArg (fun x => Ending.returned (.tuple #[.int .i64 x, .int .i64 0])) ?_, _, rfl⟩
    refine place_wrap n k a hn hk1 hk ha _ ?_
    try omega

theorem place_bad (n k a : Int) (w : World) (h : n < 0 ∨ limitsF n k ≠ 0 ∨ a < 0 ∨ n ≤ a) :
    Calls Try.prog 11 #[.int .i64 n, .int .i64 k, .int .i64 a] w fun e w' => e = .returned (.tuple #[.int .i64 0, .int .i64 2]) ∧ ∃ n, w' = w.drewN n := by
  have HH := Lib.hid h; clear h
  by_cases h1 : n < 0
  · go_enter Try.func11, Try.ntmps11
    go_wp2
    go_ret2
    exact ⟨rfl, 0, rfl⟩
  by_cases h2 : limitsF n k = 0
  · have hh : a < 0 ∨ n ≤ a := by have := HH.out; omega
    have HL := Lib.hid h2; clear h2
    have HH := Lib.hid hh; clear hh
    by_cases h3 : a < 0
    · go_enter Try.func11, Try.ntmps11
      go_wp2_with (go_at_call 20; refine (limits_any _ _ _).mono ?_; rintro e w' ⟨rfl, rfl⟩; rw [HL.out])
      go_ret2
      exact ⟨rfl, 0, rfl⟩
    · have h4 : n ≤ a := by have := HH.out; omega
      go_enter Try.func11, Try.ntmps11
      go_wp2_with (go_at_call 20; refine (limits_any _ _ _).mono ?_; rintro e w' ⟨rfl, rfl⟩; rw [HL.out])
      go_ret2
      exact ⟨rfl, 0, rfl⟩
  · have hq : (!(limitsF n k == 0)) = true := by simpa using h2
    go_enter Try.func11, Try.ntmps11
    go_wp2_with (go_at_call 20; refine (limits_any _ _ _).mono ?_; rintro e w' ⟨rfl, rfl⟩)
    go_ret2
    exact ⟨rfl, 0, rfl⟩

end Go.Proofs.Ytmlmnmafbpjnbaa
