/- The walks of Guess, of the reference's Guess, and of the errors of Forward and Inverse. -/
import Derived.Test.YtmlmnmafbpjnbaaW6
namespace Go.Proofs.Ytmlmnmafbpjnbaa
open Go.RowKit Go.PF Go.Col

theorem forward_bad (A : Option Addr) (cap n : Nat) (k : Int) (w : World) (h : limitsF n k ≠ 0) :
    Calls Try.prog 15 #[.slice A n cap, .int .i64 k] w fun e w' => e = .returned (.tuple #[.slice none 0 0, .int .i64 (limitsF n k)]) ∧ Ext w w' := by
  have hq : (limitsF n k != 0) = true := by simpa using h
  clear h
  go_enter Try.func15, Try.ntmps15
  go_wp2_with (go_at_call 20; refine (limits_any _ _ _).mono ?_; rintro e w' ⟨rfl, rfl⟩)
  go_ret2
  exact ⟨rfl, (Below.refl _ _).alloc (Nat.le_refl _) _⟩

theorem inverse_bad (A : Option Addr) (cap n : Nat) (k : Int) (w : World) (h : limitsF n k ≠ 0) :
    Calls Try.prog 18 #[.slice A n cap, .int .i64 k] w fun e w' => e = .returned (.tuple #[.slice none 0 0, .int .i64 (limitsF n k)]) ∧ Ext w w' := by
  have hq : (limitsF n k != 0) = true := by simpa using h
  clear h
  go_enter Try.func18, Try.ntmps18
  go_wp2_with (go_at_call 20; refine (limits_any _ _ _).mono ?_; rintro e w' ⟨rfl, rfl⟩)
  go_ret2
  exact ⟨rfl, Ext.refl _⟩

/-- what cmp.Compare says of two scores -/
def cmpF (x y : Int) : Int := if x < y then -1 else if y < x then 1 else 0
theorem compare_any' (x y : Int) (w : World) : Calls Try.prog 24 #[.int .i64 x, .int .i64 y] w fun e w' => e = .returned (.int .i64 (cmpF x y)) ∧ w = w' := compare_any x y w

theorem guess1_any (A : Option Addr) (cap n : Nat) (c : Nat → Int) (x y B : Nat) (w : World) (hn : n ≤ 65536) (hx1 : 1 ≤ x) (hx : x ≤ 64) (hy1 : 1 ≤ y) (hy : y ≤ 64) (hB : RdF w A n c) (hc : w.cell? ⟨B, 0, none⟩ = some (.slice A n cap)) :
    Calls Try.prog 23 #[.int .i64 x, .int .i64 y, .pointer (some ⟨B, 0, none⟩)] w fun e w' => e = .returned (.int .i64 (cmpF (scoreTo c x n) (scoreTo c y n))) ∧ ∃ n, w' = w.drewN n := by
  have HB := Lib.hid hB; clear hB
  go_enter Try.func23, Try.ntmps23
  go_wp2
  go_quiet (first | (go_at_call 25; refine Calls.quiet_of (score_any A cap n c _ _ hn (by assumption) (by assumption) HB.out)) | (go_at_call 24; refine quiet_left (compare_any' _ _ _)))
  go_wp2
  go_ret
  exact ⟨rfl, _, rfl⟩

theorem guess1_any' (A : Option Addr) (cap n : Nat) (c : Nat → Int) (x y : Int) (kx ky B : Nat) (w : World) (hn : n ≤ 65536) (hx1 : 1 ≤ kx) (hx : kx ≤ 64) (hy1 : 1 ≤ ky) (hy : ky ≤ 64) (ex : x = kx) (ey : y = ky) (hB : RdF w A n c) (hc : w.cell? ⟨B, 0, none⟩ = some (.slice A n cap)) :
    Calls Try.prog 23 #[.int .i64 x, .int .i64 y, .pointer (some ⟨B, 0, none⟩)] w fun e w' => e = .returned (.int .i64 (cmpF (scoreTo c kx n) (scoreTo c ky n))) ∧ ∃ n, w' = w.drewN n := by
  subst ex; subst ey
  exact guess1_any A cap n c kx ky B w hn hx1 hx hy1 hy hB hc

theorem cmpF_pos {x y : Int} : 0 < cmpF x y ↔ y < x := by
  unfold cmpF; split <;> (try split) <;> omega
theorem guess_yes (s : Nat → Nat) (g i : Nat) (h1 : 1 ≤ i) (HG : g = guessTo s (i - 1)) (h : (s g : Int) < s (i + 1)) : i + 1 = guessTo s (i + 1 - 1) := by
  obtain ⟨j, rfl⟩ : ∃ j, i = j + 1 := ⟨i - 1, by omega⟩
  subst HG
  exact (guessTo_yes s j (by simpa using h)).symm
theorem guess_no (s : Nat → Nat) (g i : Nat) (h1 : 1 ≤ i) (HG : g = guessTo s (i - 1)) (h : ¬ (s g : Int) < s (i + 1)) : g = guessTo s (i + 1 - 1) := by
  obtain ⟨j, rfl⟩ : ∃ j, i = j + 1 := ⟨i - 1, by omega⟩
  subst HG
  exact (guessTo_no s j (by simpa using h)).symm

theorem maxFunc_any (A : Option Addr) (cap n : Nat) (c : Nat → Int) (B X : Nat) (w : World) (hn : n ≤ 65536) (hB : RdF w A n c) (hc : w.cell? ⟨B, 0, none⟩ = some (.slice A n cap)) (hrow : w.rowIs X 3 64 (fun i => .int .i64 ((i : Int) + 1))) :
    Calls Try.prog 22 #[.slice (some ⟨X, 0, none⟩) 64 64, .func (.func 23) #[] #[.pointer (some ⟨B, 0, none⟩)]] w fun e w' => e = .returned (.int .i64 (guessTo (fun k => scoreTo c k n) 63)) ∧ ∃ n, w' = w.drewN n := by
  have HB := Lib.hid hB; clear hB
  have HR := Lib.hid hrow; clear hrow
  have h0 := HR.out.cell (i := 0) (by omega)
  go_enter Try.func22, Try.ntmps22
  go_wp2
  clear h0
  go_loopg [5, 6] 64 (fun f v i wr => ∃ (i' g m : Nat), v = .int .i64 g ∧ i = .int .i64 i' ∧ 1 ≤ i' ∧ i' ≤ 64 ∧ 64 ≤ i' + f ∧ 1 ≤ g ∧ g ≤ 64 ∧ Hid (g = guessTo (fun k => scoreTo c k n) (i' - 1)) ∧ wr = w.drewN m)
  case atStart => exact ⟨1, 1, 0, rfl, rfl, by omega, by omega, by omega, by omega, by omega, rfl, rfl⟩
  case round =>
    obtain ⟨i', g, m, rfl, rfl, h1, h2, h3, h4, h5, HG, rfl⟩ := hrel
    by_cases hlt : i' < 64
    · have hc1 := HR.out.cell hlt
      go_wp2_with (go_at_call 23; refine (guess1_any' A cap n c ((i' : Int) + 1) (g : Int) (i' + 1) g B (w.drewN m) hn (by omega) (by omega) h4 h5 (by omega) rfl HB.out hc).mono ?_; rintro e w' ⟨rfl, q, rfl⟩)
      all_goals go_roundg (gk - 1)
      case measure => omega
      case rel =>
        have hp : 0 < cmpF (scoreTo c (i' + 1) n) (scoreTo c g n) := by assumption
        exact ⟨i' + 1, i' + 1, _, by go_num, by go_num, by omega, by omega, by omega, by omega, by omega, guess_yes _ _ _ h1 HG.out (cmpF_pos.1 hp), rfl⟩
      case measure => omega
      case rel =>
        have hp : cmpF (scoreTo c (i' + 1) n) (scoreTo c g n) ≤ 0 := by assumption
        exact ⟨i' + 1, g, _, rfl, by go_num, by omega, by omega, by omega, by omega, by omega, guess_no _ _ _ h1 HG.out (fun h => by have := cmpF_pos.2 h; omega), rfl⟩
    · go_wp2
      go_ret
      obtain rfl : i' = 64 := by omega
      exact ⟨by rw [HG.out]; rfl, _, rfl⟩

theorem RdF.take {w : World} {A : Option Addr} {n m : Nat} {c : Nat → Int} (h : RdF w A n c) (hm : m ≤ n) : RdF w A m c := by
  rcases h with h | ⟨b, off, hA, h⟩
  · exact .inl (by omega)
  · exact .inr ⟨b, off, hA, fun k hk => h k (by omega)⟩

set_option maxHeartbeats 1000000 in
theorem guess_any (A : Option Addr) (cap n : Nat) (c : Nat → Int) (w : World) (hn : n ≤ 65536) (hcap : n ≤ cap) (hB : RdF w A n c) :
    Calls Try.prog 13 #[.slice A n cap] w fun e w' => e = .returned (.int .i64 (guessTo (fun k => scoreTo c k (min n 4096)) 63)) ∧ Ext w w' := by
  have HB := Lib.hid hB; clear hB
  have hmk : ∀ W : World, (Instr.makeSlice 43 (.int .i64 64) (.int .i64 64)).run Try.prog W = .ok (.slice (some ⟨W.heap.size, 0, none⟩) 64 64) (W.alloc (.cells (madeCells #[.int .i64 0] 64) 3)) :=
    fun W => run_make_row' (P := Try.prog) 43 3 (.int .i64 0) 8 Try.underlying43 info3 rfl .i64 .i64 64 (by omega) (by omega) W
  rcases Nat.lt_or_ge 4096 n with hlt | hge
  · have hm : min n 4096 = 4096 := by omega
    rw [hm]
    clear hm
    go_enter Try.func13, Try.ntmps13
    go_wp2
    have bB := (Boxed.new w 29 (.slice A 4096 cap)).alloc (.cells (madeCells #[.int .i64 0] 64) 3)
    have hr0 := World.rowIs_made (w.alloc (.cells #[.slice A 4096 cap] 29)) (.int .i64 0) 64 3
    rw [World.size_alloc] at hr0
    have hx0 : Ext w ((w.alloc (.cells #[.slice A 4096 cap] 29)).alloc (.cells (madeCells #[.int .i64 0] 64) 3)) := ((Below.refl _ _).alloc (Nat.le_refl _) _).alloc (by simp) _
    clear hmk
    go_loopg [4, 13] 64 (fun f _ i wr => ∃ (i' : Nat), i = .int .i64 i' ∧ i' ≤ 64 ∧ 64 ≤ i' + f ∧ wr.rowIs (w.heap.size + 1) 3 64 (fun j => .int .i64 (if j < i' then (j : Int) + 1 else 0)) ∧ Boxed wr w.heap.size 29 (.slice A 4096 cap) ∧ Ext w wr)
    case atStart => exact ⟨0, rfl, by omega, by omega, hr0.congr (fun j _ => by simp), bB, hx0⟩
    case round =>
      clear bB hr0 hx0
      obtain ⟨i', rfl, h1, h2, hrow, bB, hx⟩ := hrel
      by_cases hlt : i' < 64
      · have hc1 := hrow.cell hlt
        have hf1 := hrow.frozen i'
        go_wp2
        go_roundg (gk - 1)
        case measure => omega
        case rel =>
          refine ⟨i' + 1, by go_num, by omega, by omega, ?_, bB.set_other (Below.heap_setCell _ _ _ _ (by simp)), hx.setCell (p := ⟨w.heap.size + 1, i', none⟩) (by simp) _⟩
          refine (hrow.set i' (.int .i64 ((i' : Int) + 1))).congr fun j hj => ?_
          by_cases hji : j = i'
          · subst hji; simp
          · rw [if_neg hji]
            have : (j < i' + 1) ↔ (j < i') := by omega
            simp only [this]
      · obtain rfl : i' = 64 := by omega
        have hcB := bB.cell
        have hrow' := hrow.congr (g := fun i => .int .i64 ((i : Int) + 1)) fun i hi => by rw [if_pos hi]
        have HR := Lib.hid hrow'; clear hrow hrow'
        have HBX := Lib.hid bB; clear bB
        go_wp2_with (go_at_call 22; refine (maxFunc_any A cap 4096 c w.heap.size (w.heap.size + 1) _ (by omega) ((HB.out.take (by omega)).ext hx) hcB HR.out).mono ?_; rintro e w' ⟨rfl, m, rfl⟩)
        go_ret
        exact ⟨rfl, hx.drewN _⟩
  · have hm : min n 4096 = n := by omega
    rw [hm]
    clear hm
    go_enter Try.func13, Try.ntmps13
    go_wp2
    have bB := (Boxed.new w 29 (.slice A n cap)).alloc (.cells (madeCells #[.int .i64 0] 64) 3)
    have hr0 := World.rowIs_made (w.alloc (.cells #[.slice A n cap] 29)) (.int .i64 0) 64 3
    rw [World.size_alloc] at hr0
    have hx0 : Ext w ((w.alloc (.cells #[.slice A n cap] 29)).alloc (.cells (madeCells #[.int .i64 0] 64) 3)) := ((Below.refl _ _).alloc (Nat.le_refl _) _).alloc (by simp) _
    clear hmk
    go_loopg [4, 13] 64 (fun f _ i wr => ∃ (i' : Nat), i = .int .i64 i' ∧ i' ≤ 64 ∧ 64 ≤ i' + f ∧ wr.rowIs (w.heap.size + 1) 3 64 (fun j => .int .i64 (if j < i' then (j : Int) + 1 else 0)) ∧ Boxed wr w.heap.size 29 (.slice A n cap) ∧ Ext w wr)
    case atStart => exact ⟨0, rfl, by omega, by omega, hr0.congr (fun j _ => by simp), bB, hx0⟩
    case round =>
      clear bB hr0 hx0
      obtain ⟨i', rfl, h1, h2, hrow, bB, hx⟩ := hrel
      by_cases hlt : i' < 64
      · have hc1 := hrow.cell hlt
        have hf1 := hrow.frozen i'
        go_wp2
        go_roundg (gk - 1)
        case measure => omega
        case rel =>
          refine ⟨i' + 1, by go_num, by omega, by omega, ?_, bB.set_other (Below.heap_setCell _ _ _ _ (by simp)), hx.setCell (p := ⟨w.heap.size + 1, i', none⟩) (by simp) _⟩
          refine (hrow.set i' (.int .i64 ((i' : Int) + 1))).congr fun j hj => ?_
          by_cases hji : j = i'
          · subst hji; simp
          · rw [if_neg hji]
            have : (j < i' + 1) ↔ (j < i') := by omega
            simp only [this]
      · obtain rfl : i' = 64 := by omega
        have hcB := bB.cell
        have hrow' := hrow.congr (g := fun i => .int .i64 ((i : Int) + 1)) fun i hi => by rw [if_pos hi]
        have HR := Lib.hid hrow'; clear hrow hrow'
        have HBX := Lib.hid bB; clear bB
        go_wp2_with (go_at_call 22; refine (maxFunc_any A cap n c w.heap.size (w.heap.size + 1) _ (by omega) ((HB.out.take (by omega)).ext hx) hcB HR.out).mono ?_; rintro e w' ⟨rfl, m, rfl⟩)
        go_ret
        exact ⟨rfl, hx.drewN _⟩

end Go.Proofs.Ytmlmnmafbpjnbaa
