/- The walks of the reference's functions of layer 39. -/
import Derived.Test.YtmlmnmafbpjnbaaW1
namespace Go.Proofs.Ytmlmnmafbpjnbaa
open Go.RowKit Go.PF Go.Col

def i64n (x : Nat) : Value := .int .i64 (x : Int)

theorem info3 : (Try.prog.info? 3).map (fun i => (i.zero, i.size, i.bytes)) = some (some (.int .i64 0), 1, 8) := by kernel_rfl
theorem info5 : (Try.prog.info? 5).map (fun i => (i.zero, i.size, i.bytes)) = some (some (.int .u8 0), 1, 1) := by kernel_rfl

set_option maxHeartbeats 1000000 in
theorem order_ref (n k : Nat) (w : World) (hn : n ≤ 65536) (hk1 : 1 ≤ k) (hk : k ≤ 64) :
    Calls Try.prog 21 #[.int .i64 n, .int .i64 k] w fun e w' => ∃ v, e = .returned v ∧ w'.ownsRow w.heap.size 3 1 v (ord n k).length ((ord n k).map i64n) ∧ Ext w w' := by
  obtain ⟨i0, hi, hz0, hz1, hz2⟩ := info_parts info3
  have HI := Lib.hid hi; have HZ0 := Lib.hid hz0; have HZ1 := Lib.hid hz1; have HZ2 := Lib.hid hz2
  clear hi hz0 hz1 hz2
  have HOB := Lib.hid (ord_bound n k hn hk)
  go_enter Try.func21, Try.ntmps21
  go_wp2
  go_loopg [5, 6, 7] k (fun f o c _ wr => ∃ (c' : Nat) (pre : List Nat), c = .int .i64 c' ∧ c' ≤ k ∧ k ≤ c' + f ∧ Hid (pre ++ ordFrom n k (k - c') c' = ord n k) ∧
    wr.ownsRow w.heap.size 3 1 o pre.length (pre.map i64n) ∧ Ext w wr)
  case atStart => exact ⟨0, [], rfl, by omega, by omega, by simp [Hid, ord], World.ownsRow_nil _ _ _ _, Ext.refl _⟩
  case round =>
    obtain ⟨c', pre, rfl, h1, h2, HP, hown, hext⟩ := hrel
    by_cases hlt : c' < k
    · obtain ⟨wo, rfl⟩ : ∃ wo : World, wo = wr := ⟨_, rfl⟩
      obtain ⟨fo, rfl⟩ : ∃ fo : Nat, fo = gk := ⟨_, rfl⟩
      go_wp2
      go_loopg [5, 7] n (fun f o i wr => ∃ (i' : Nat) (pre : List Nat), i = .int .i64 i' ∧ i' ≤ n + k ∧ n ≤ i' + f ∧ Hid (pre ++ (colFrom n k f i' ++ ordFrom n k (k - c' - 1) (c' + 1)) = ord n k) ∧
        wr.ownsRow w.heap.size 3 1 o pre.length (pre.map i64n) ∧ Ext w wr)
      case atStart =>
        refine ⟨c', pre, rfl, by omega, by omega, ?_, hown, hext⟩
        have := HP.out
        rw [show k - c' = (k - c' - 1) + 1 from by omega] at this
        exact this
      case round =>
        obtain ⟨i', pre, rfl, h3, h4, HP, hown, hext⟩ := hrel
        have hsz := hext.size
        by_cases hl2 : i' < n
        · have hb : pre.length ≤ 4194304 := by
            have h := congrArg List.length HP.out
            simp at h
            have := HOB.out
            omega
          go_wp2_with (at_builtin; refine wpList_append1 rfl (.tmp 20) (.tmp 22) _ rfl w.heap.size 3 i0 (.int .i64 0) 1 8 Try.underlying43 HI.out HZ0.out HZ1.out HZ2.out rfl (by decide) (by decide) _ _ _ rfl hown [.int .i64 (i' : Int)] rfl rfl (by simp [Value.oneCell']) (by omega) hsz ?_; intro v' w' hown' hbel _ _; clear hown)
          go_roundg (gk - 1)
          case measure => omega
          case rel =>
            refine ⟨i' + k, pre ++ [i'], by go_num, by omega, by omega, ?_, by simpa [i64n] using hown', Below.trans hext hbel⟩
            have h := HP.out
            obtain ⟨g, rfl⟩ : ∃ g, gk = g + 1 := ⟨gk - 1, by omega⟩
            rw [colFrom_go n k g i' hl2] at h
            simpa [Hid] using h
        · go_wp2
          go_roundg (fo - 1)
          case measure => omega
          case rel =>
            refine ⟨c' + 1, pre, by go_num, by omega, by omega, ?_, hown, hext⟩
            have h := HP.out
            rw [colFrom_end n k gk i' (by omega)] at h
            simpa [Hid, Nat.sub_sub] using h
    · go_wp2
      go_ret
      obtain rfl : c' = k := by omega
      have := HP.out
      simp [ordFrom] at this
      rw [this] at hown
      exact ⟨_, rfl, hown, hext⟩

theorem rscore_any (A : Option Addr) (cap n : Nat) (c : Nat → Int) (k : Nat) (w : World) (hl : n ≤ 65536) (hk1 : 1 ≤ k) (hk : k ≤ 64) (hB : RdF w A n c) :
    Calls Try.prog 26 #[.slice A n cap, .int .i64 k] w fun e w' => e = .returned (.int .i64 (scoreTo c k n)) ∧ ∃ n, w' = w.drewN n := by
  by_cases h0 : k < n
  · rcases hB with hB | ⟨b, off, rfl, hc⟩
    · omega
    have HC := Lib.hid hc; clear hc
    go_enter Try.func26, Try.ntmps26
    go_wp2
    go_loopg [5, 6] n (fun f v i wr => ∃ (i' m : Nat), v = .int .i64 (scoreTo c k i') ∧ i = .int .i64 i' ∧ k ≤ i' ∧ i' ≤ n ∧ n ≤ i' + f ∧ wr = w.drewN m)
    case atStart => exact ⟨k, 0, by rw [scoreTo_zero c k k (Nat.le_refl _)]; rfl, rfl, by omega, by omega, by omega, rfl⟩
    case round =>
      obtain ⟨i', m, rfl, rfl, h1, h2, h4, rfl⟩ := hrel
      by_cases hlt : i' < n
      · have hc1 := HC.out i' hlt
        have hc2 := HC.out (i' - k) (by omega)
        have hx : ((i' : Int) - (k : Int)).toNat = i' - k := by omega
        have hq : (0:Int) ≤ (i' : Int) - k := by omega
        have hs := scoreTo_le c k i'
        go_wp2
        go_quiet (fail)
        all_goals go_wp2
        all_goals
          go_roundg (gk - 1)
        case measure => omega
        case rel =>
          have hb : (c i' == c (i' - k)) = true := by assumption
          have he : c i' = c (i' - k) := by simpa using hb
          exact ⟨i' + 1, _, by rw [scoreTo_yes c k i' h1 he]; go_num, by go_num, by omega, by omega, by omega, rfl⟩
        case measure => omega
        case rel =>
          have hb : (c i' == c (i' - k)) = false := by assumption
          have he : c i' ≠ c (i' - k) := by simpa using hb
          exact ⟨i' + 1, _, by rw [scoreTo_no c k i' he], by go_num, by omega, by omega, by omega, rfl⟩
      · go_wp2
        go_ret
        obtain rfl : i' = n := by omega
        exact ⟨rfl, _, rfl⟩
  · have h0' : n ≤ k := by omega
    go_enter Try.func26, Try.ntmps26
    go_wp2
    refine wp_loop_once ?_
    go_wp2
    go_ret
    exact ⟨by rw [scoreTo_zero c k n h0']; rfl, 0, rfl⟩

/-- a list of places in memory, by a function -/
def RdN (w : World) (A : Option Addr) (n : Nat) (c : Nat → Nat) : Prop :=
  n = 0 ∨ ∃ b off, A = some ⟨b, off, none⟩ ∧ ∀ k, k < n → w.cell? ⟨b, off + k, none⟩ = some (.int .i64 (c k : Int))
theorem rdN_of {w : World} {A : Option Addr} {l : List Nat} (h : Rd w A (l.map i64n)) : RdN w A l.length (fun k => l[k]?.getD 0) := by
  rcases h with h | ⟨b, off, hA, h⟩
  · exact .inl (by simpa using h)
  · refine .inr ⟨b, off, hA, fun k hk => ?_⟩
    have := h k (by simpa using hk)
    simpa [i64n, List.getElem?_eq_getElem hk] using this

theorem order_ref' (n k : Nat) (w : World) (hn : n ≤ 65536) (hk1 : 1 ≤ k) (hk : k ≤ 64) :
    Calls Try.prog 21 #[.int .i64 n, .int .i64 k] w fun e w' => ∃ (A : Option Addr) (cap N : Nat) (c : Nat → Nat), e = .returned (.slice A N cap) ∧ Hid (N = ordLen n k) ∧ Hid (c = ordAt n k) ∧ N ≤ 4194304 ∧ RdN w' A N c ∧ Ext w w' := by
  refine (order_ref n k w hn hk1 hk).mono ?_
  rintro e w1 ⟨v, rfl, hown, hext⟩
  obtain ⟨A, cap, rfl, h1, h2, hrd⟩ := own_rd hown
  exact ⟨A, cap, _, _, rfl, rfl, rfl, ord_bound n k hn hk, rdN_of hrd, hext⟩

set_option maxHeartbeats 1000000 in
theorem rplace_ok (n k a : Nat) (w : World) (hn : n ≤ 65536) (hk1 : 1 ≤ k) (hk : k ≤ 64) (ha : a < n) :
    Calls Try.prog 12 #[.int .i64 n, .int .i64 k, .int .i64 a] w fun e w' => e = .returned (.tuple #[.int .i64 (placeTo (ordAt n k) a (ordLen n k)), .int .i64 0]) ∧ Ext w w' := by
  have hd1 : (decide ((n : Int) < 0)) = false := by simp
  have hd2 : (decide ((a : Int) < 0)) = false := by simp
  have hd3 : (decide (n ≤ a)) = false := by simp; omega
  have hd4 : decide (65536 < (n : Int)) = false := by simp; omega
  have hd5 : decide ((k : Int) < 1) = false := by simp; omega
  have hd6 : decide (64 < (k : Int)) = false := by simp; omega
  go_enter Try.func12, Try.ntmps12
  go_wp2_with (go_at_call 21; refine (order_ref' _ _ _ hn hk1 hk).mono ?_; rintro e w1 ⟨A, cap, N, c, rfl, HN, HC, hN, hrd, hext⟩; clear hd1 hd2 hd3)
  by_cases h0 : N = 0
  · subst h0
    refine wp_loop_once ?_
    go_wp2
    go_ret2
    refine ⟨?_, hext⟩
    rw [← HN.out]
    rfl
  · rcases hrd with h | ⟨b, off, rfl, hc⟩
    · exact absurd h h0
    have HCC := Lib.hid hc; clear hc
    go_loopg [9, 10] N (fun f p i wr => ∃ (i' : Nat), p = .int .i64 (placeTo c a i') ∧ i = .int .i64 i' ∧ i' ≤ N ∧ N ≤ i' + f ∧ wr = w1)
    case atStart => exact ⟨0, rfl, rfl, by omega, by omega, rfl⟩
    case round =>
      obtain ⟨i', rfl, rfl, h1, h2, rfl⟩ := hrel
      by_cases hlt : i' < N
      · have hc1 := HCC.out i' hlt
        have hs := placeTo_le c a i'
        go_wp2
        all_goals go_roundg (gk - 1)
        case measure => omega
        case rel =>
          have hb : ((c i' : Int) == (a : Int)) = true := by assumption
          exact ⟨i' + 1, by rw [placeTo_yes c a i' (by have := beq_iff_eq.1 hb; omega)], by go_num, by omega, by omega, rfl⟩
        case measure => omega
        case rel =>
          have hb : ((c i' : Int) == (a : Int)) = false := by assumption
          exact ⟨i' + 1, by rw [placeTo_no c a i' (by intro h; rw [h] at hb; simp at hb)], by go_num, by omega, by omega, rfl⟩
      · go_wp2
        go_ret2
        obtain rfl : i' = N := by omega
        refine ⟨?_, hext⟩
        rw [← HN.out, ← HC.out]
        rfl

theorem rplace_bad (n k a : Int) (w : World) (h : n < 0 ∨ limitsF n k ≠ 0 ∨ a < 0 ∨ n ≤ a) :
    Calls Try.prog 12 #[.int .i64 n, .int .i64 k, .int .i64 a] w fun e w' => e = .returned (.tuple #[.int .i64 0, .int .i64 2]) ∧ w = w' := by
  have hh : n < 0 ∨ 65536 < n ∨ k < 1 ∨ 64 < k ∨ a < 0 ∨ n ≤ a := by
    unfold limitsF at h
    split at h
    · omega
    · split at h <;> omega
  clear h
  have hh' : n < 0 ∨ (¬ n < 0 ∧ 65536 < n) ∨ (¬ n < 0 ∧ ¬ 65536 < n ∧ k < 1) ∨ (¬ n < 0 ∧ ¬ 65536 < n ∧ ¬ k < 1 ∧ 64 < k) ∨ (¬ n < 0 ∧ ¬ 65536 < n ∧ ¬ k < 1 ∧ ¬ 64 < k ∧ a < 0) ∨ (¬ n < 0 ∧ ¬ 65536 < n ∧ ¬ k < 1 ∧ ¬ 64 < k ∧ ¬ a < 0 ∧ n ≤ a) := by omega
  clear hh
  rcases hh' with h1 | ⟨h1, h2⟩ | ⟨h1, h2, h3⟩ | ⟨h1, h2, h3, h4⟩ | ⟨h1, h2, h3, h4, h5⟩ | ⟨h1, h2, h3, h4, h5, h6⟩
  all_goals
    go_enter Try.func12, Try.ntmps12
    go_wp2_with fail
    go_ret2
    exact ⟨rfl, rfl⟩

end Go.Proofs.Ytmlmnmafbpjnbaa
