/- The walks of the reference's Forward and Inverse. -/
import Derived.Test.YtmlmnmafbpjnbaaW2
import Derived.Deep.OwnRows
namespace Go.Proofs.Ytmlmnmafbpjnbaa
open Go.RowKit Go.PF Go.Col

/-- the bytes f 0 .. f (n - 1), as cells -/
def bytesF (f : Nat → Int) (n : Nat) : List Value := (List.range n).map fun j => .int .u8 (f j)
theorem bytesF_len (f : Nat → Int) (n : Nat) : (bytesF f n).length = n := by simp [bytesF]
theorem bytesF_succ (f : Nat → Int) (n : Nat) : bytesF f (n + 1) = bytesF f n ++ [.int .u8 (f n)] := by simp [bytesF, List.range_succ]
theorem rdF_of {w : World} {A : Option Addr} {f : Nat → Int} {n : Nat} (h : Rd w A (bytesF f n)) : RdF w A n f := by
  rcases h with h | ⟨b, off, hA, h⟩
  · exact .inl (by have := congrArg List.length h; simpa [bytesF] using this)
  · exact .inr ⟨b, off, hA, fun k hk => by have := h k (by rw [bytesF_len]; exact hk); simpa [bytesF] using this⟩
theorem rdF_row {w : World} {b n : Nat} {f : Nat → Int} (h : w.rowIs b 5 n (fun j => .int .u8 (f j))) : RdF w (some ⟨b, 0, none⟩) n f :=
  .inr ⟨b, 0, rfl, fun k hk => by have := h.cell hk; simpa using this⟩

set_option maxHeartbeats 1000000 in
theorem rforward_ok (A : Option Addr) (cap n : Nat) (c : Nat → Int) (k : Nat) (w : World) (hn : n ≤ 65536) (hk1 : 1 ≤ k) (hk : k ≤ 64) (hB : RdF w A n c) :
    Calls Try.prog 17 #[.slice A n cap, .int .i64 k] w fun e w' => ∃ B cap', e = .returned (.tuple #[.slice B (ordLen n k) cap', .int .i64 0]) ∧ RdF w' B (ordLen n k) (fun j => c (ordAt n k j)) ∧ Ext w w' := by
  obtain ⟨i0, hi, hz0, hz1, hz2⟩ := info_parts info5
  have HI := Lib.hid hi; have HZ0 := Lib.hid hz0; have HZ1 := Lib.hid hz1; have HZ2 := Lib.hid hz2
  clear hi hz0 hz1 hz2
  have hlim : limitsF n k = 0 := by unfold limitsF; rw [if_neg (by omega), if_neg (by omega)]
  have HL := Lib.hid hlim; clear hlim
  have HB := Lib.hid hB; clear hB
  go_enter Try.func17, Try.ntmps17
  go_wp2_with (first | (go_at_call 28; refine (rlimits_any _ _ _).mono ?_; rintro e w' ⟨rfl, rfl⟩; rw [HL.out]) | (go_at_call 21; refine (order_ref' _ _ _ hn hk1 hk).mono ?_; rintro e w1 ⟨O, ocap, N, o, rfl, HN, HO, hN, hrd, hext⟩))
  go_loopg [8, 9] N (fun f v i wr => ∃ (i' : Nat), i = .int .i64 i' ∧ i' ≤ N ∧ N ≤ i' + f ∧ wr.ownsRow w1.heap.size 5 1 v i' (bytesF (fun j => c (o j)) i') ∧ Ext w1 wr)
  case atStart => exact ⟨0, rfl, by omega, by omega, World.ownsRow_nil _ _ _ _, Ext.refl _⟩
  case round =>
    obtain ⟨i', rfl, h1, h2, hown, hx⟩ := hrel
    have hsz := hx.size
    by_cases hlt : i' < N
    · rcases hrd with h | ⟨b, off, rfl, hc⟩
      · omega
      have hc1 := hx.cell (hc i' hlt)
      have hon : o i' < n := by rw [HO.out]; exact ordAt_lt n k i' (by rw [← HN.out]; exact hlt)
      rcases HB.out with h | ⟨b2, off2, rfl, hb⟩
      · omega
      have hc2 := (hext.trans hx).cell (hb (o i') hon)
      clear hc hb
      go_wp2_with (at_builtin; refine wpList_append1 rfl (.tmp 27) (.tmp 35) _ rfl w1.heap.size 5 i0 (.int .u8 0) 1 1 Try.underlying29 HI.out HZ0.out HZ1.out HZ2.out rfl (by decide) (by decide) _ _ _ rfl hown [.int .u8 (c (o i'))] rfl rfl (by simp [Value.oneCell']) (by omega) hsz ?_; intro v' w' hown' hbel _ _; clear hown)
      go_roundg (gk - 1)
      case measure => omega
      case rel =>
        exact ⟨i' + 1, by go_num, by omega, by omega, by rw [bytesF_succ]; exact hown', Below.trans hx hbel⟩
    · go_wp2
      go_ret2
      obtain rfl : i' = N := by omega
      obtain ⟨B, cap', rfl, _, _, hr⟩ := own_rd hown
      refine ⟨B, cap', by rw [← HN.out]; rfl, ?_, hext.trans hx⟩
      rw [← HN.out, ← HO.out]
      exact rdF_of hr

theorem rforward_bad (A : Option Addr) (cap n : Nat) (k : Int) (w : World) (h : limitsF n k ≠ 0) :
    Calls Try.prog 17 #[.slice A n cap, .int .i64 k] w fun e w' => e = .returned (.tuple #[.slice none 0 0, .int .i64 (limitsF n k)]) ∧ w = w' := by
  have hq : (limitsF n k != 0) = true := by simpa using h
  clear h
  go_enter Try.func17, Try.ntmps17
  go_wp2_with (go_at_call 28; refine (rlimits_any _ _ _).mono ?_; rintro e w' ⟨rfl, rfl⟩)
  go_ret2
  exact ⟨rfl, rfl⟩

set_option maxHeartbeats 1000000 in
theorem rinverse_ok (A : Option Addr) (cap n : Nat) (c : Nat → Int) (k : Nat) (w : World) (hn : n ≤ 65536) (hk1 : 1 ≤ k) (hk : k ≤ 64) (hB : RdF w A n c) (hN : ordLen n k = n) :
    Calls Try.prog 19 #[.slice A n cap, .int .i64 k] w fun e w' => ∃ B cap', e = .returned (.tuple #[.slice B n cap', .int .i64 0]) ∧ RdF w' B n (invTo (ordAt n k) c n) ∧ Ext w w' := by
  have hlim : limitsF n k = 0 := by unfold limitsF; rw [if_neg (by omega), if_neg (by omega)]
  have HL := Lib.hid hlim; clear hlim
  have HB := Lib.hid hB; clear hB
  have HNN := Lib.hid hN; clear hN
  have hmk := fun W => run_make_row' (P := Try.prog) 29 5 (.int .u8 0) 1 Try.underlying29 info5 rfl .i64 .i64 n (by omega) (by omega) W
  go_enter Try.func19, Try.ntmps19
  go_wp2_with (first | (go_at_call 28; refine (rlimits_any _ _ _).mono ?_; rintro e w' ⟨rfl, rfl⟩; rw [HL.out]) | (go_at_call 21; refine (order_ref' _ _ _ hn hk1 hk).mono ?_; rintro e w1 ⟨O, ocap, N, o, rfl, HN, HO, hN, hrd, hext⟩))
  obtain rfl : N = n := by rw [HN.out]; exact HNN.out
  clear hmk
  have hrow0 := World.rowIs_made w1 (.int .u8 0) N 5
  have hx0 : Ext w1 (w1.alloc (.cells (madeCells #[.int .u8 0] N) 5)) := (Below.refl _ _).alloc (Nat.le_refl _) _
  generalize hW : w1.alloc (.cells (madeCells #[.int .u8 0] N) 5) = w2 at *
  clear hW
  go_loopg [9] N (fun f i wr => ∃ (i' : Nat), i = .int .i64 i' ∧ i' ≤ N ∧ N ≤ i' + f ∧ wr.rowIs w1.heap.size 5 N (fun j => .int .u8 (invTo o c i' j)) ∧ Ext w1 wr)
  case atStart => exact ⟨0, rfl, by omega, by omega, hrow0, hx0⟩
  case round =>
    obtain ⟨i', rfl, h1, h2, hrow, hx⟩ := hrel
    by_cases hlt : i' < N
    · rcases hrd with h | ⟨b, off, rfl, hc⟩
      · omega
      have hc1 := hx.cell (hc i' hlt)
      have hon : o i' < N := by rw [HO.out]; exact ordAt_lt N k i' (by rw [← HN.out]; exact hlt)
      rcases HB.out with h | ⟨b2, off2, rfl, hb⟩
      · omega
      have hc2 := (hext.trans hx).cell (hb i' hlt)
      have hc3 := hrow.cell hon
      have hf3 := hrow.frozen (o i')
      have hon' : (o i' : Int) < N := by omega
      clear hc hb
      go_wp2
      go_region
      all_goals go_wp2
      go_roundg (gk - 1)
      case measure => omega
      case rel =>
        refine ⟨i' + 1, by go_num, by omega, by omega, ?_, ?_⟩
        · refine (hrow.drew.set (o i') (.int .u8 (c i'))).congr fun j hj => ?_
          show (if j = o i' then Value.int .u8 (c i') else _) = Value.int .u8 (if j = o i' then c i' else invTo o c i' j)
          split <;> rfl
        · exact hx.drew.setCell (p := ⟨w1.heap.size, o i', none⟩) (Nat.le_refl _) _
    · go_wp2
      go_ret2
      obtain rfl : i' = N := by omega
      exact ⟨_, _, rfl, by rw [← HO.out]; exact rdF_row hrow, hext.trans hx⟩

theorem rinverse_bad (A : Option Addr) (cap n : Nat) (k : Int) (w : World) (h : limitsF n k ≠ 0) :
    Calls Try.prog 19 #[.slice A n cap, .int .i64 k] w fun e w' => e = .returned (.tuple #[.slice none 0 0, .int .i64 (limitsF n k)]) ∧ w = w' := by
  have hq : (limitsF n k != 0) = true := by simpa using h
  clear h
  go_enter Try.func19, Try.ntmps19
  go_wp2_with (go_at_call 28; refine (rlimits_any _ _ _).mono ?_; rintro e w' ⟨rfl, rfl⟩)
  go_ret2
  exact ⟨rfl, rfl⟩

end Go.Proofs.Ytmlmnmafbpjnbaa
