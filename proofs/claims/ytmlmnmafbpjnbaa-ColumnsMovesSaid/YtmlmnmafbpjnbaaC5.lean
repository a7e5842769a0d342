/- The walk of ColumnsMoves. -/
import Derived.Test.YtmlmnmafbpjnbaaW10
namespace Go.Proofs.Ytmlmnmafbpjnbaa
open Go.RowKit Go.PF Go.Col

set_option maxHeartbeats 2000000 in
theorem moves_ok (A : Option Addr) (n cap : Nat) (c : Nat → Int) (a1 a2 : Int) (w : World) (hB : RdF w A n c) (hn : n ≤ 600) (hn0 : 0 < n) (h1 : 0 ≤ a1) (h1' : a1 < 256) (h2 : 0 ≤ a2) (h2' : a2 < 65536) :
    Calls Try.prog 5 #[.slice A n cap, .int .u8 a1, .int .u16 a2] w fun e w' => e = .returned (.bool true) ∧ Below w.heap.size w w' := by
  have HB := Lib.hid hB; clear hB
  obtain ⟨k, hk, hk1, hk2⟩ : ∃ k : Nat, 1 + a1 % 64 = (k : Int) ∧ 1 ≤ k ∧ k ≤ 64 := ⟨(1 + a1 % 64).toNat, by omega, by omega, by omega⟩
  obtain ⟨i, hi, hin⟩ : ∃ i : Nat, a2 % (n : Int) = (i : Int) ∧ i < n := ⟨(a2 % (n : Int)).toNat, by have := Int.emod_nonneg a2 (show (n : Int) ≠ 0 by omega); omega, by have := Int.emod_lt_of_pos a2 (show (0 : Int) < n by omega); have := Int.emod_nonneg a2 (show (n : Int) ≠ 0 by omega); omega⟩
  have hn0' : ((n : Int) == 0) = false := by simp; omega
  obtain ⟨p, hp⟩ : ∃ p, p = placeF n k i := ⟨_, rfl⟩
  have hpl : p < n := by rw [hp]; exact placeF_lt n k i hk1 hin
  have HP := Lib.hid hp
  obtain ⟨q, hq⟩ : ∃ q : Nat, q = i / k := ⟨_, rfl⟩
  have hq' : (i : Int) / (k : Int) = (q : Int) := by rw [hq]; simp
  have hqi : q ≤ i := by rw [hq]; exact Nat.div_le_self _ _
  obtain ⟨m, hm⟩ : ∃ m : Nat, m = i % k := ⟨_, rfl⟩
  have hm' : (i : Int) % (k : Int) = (m : Int) := by rw [hm]; simp
  have hmk : m < k := by rw [hm]; exact Nat.mod_lt _ (by omega)
  have HE : Hid (p = q + colAt n k m) := by
    show p = _
    rw [hp, placeF_eq, hq, hm]; omega
  clear hp hq hm
  have h5 : (decide ((p : Int) < 0)) = false := by simp
  have h6 : (decide (n ≤ p)) = false := by simp; omega
  go_enter Try.func5, Try.ntmps5
  go_wp2_with fail
  refine (forward_ok A cap n c k _ (by omega) hk1 hk2 HB.out).mono ?_
  rintro e w1 ⟨B1, c1, rfl, hr1, hx1⟩
  rw [ordLen_eq n k hk1] at hr1 ⊢
  have HR1 := Lib.hid hr1; clear hr1
  go_wp2_with fail
  refine (place_ext n k i _ (by omega) hk1 hk2 hin).mono ?_
  rintro e w2 ⟨rfl, hx2⟩
  rw [← HP.out]
  go_wp2_with fail
  go_loopg [13, 14, 15] k (fun f bf kk _ wr => ∃ (b c' : Nat), bf = .int .i64 b ∧ kk = .int .i64 c' ∧ c' ≤ m ∧ m ≤ c' + f ∧ b ≤ 1200 ∧ Hid (b = q + colAt n k c') ∧ wr = w2)
  case atStart => exact ⟨q, 0, rfl, rfl, by omega, by omega, by omega, by show q = _; rw [colAt_zero]; rfl, rfl⟩
  case round =>
    obtain ⟨b, c', rfl, rfl, g1, g2, g3, HBB, rfl⟩ := hrel
    by_cases hlt : c' < m
    · obtain ⟨fo, rfl⟩ : ∃ fo : Nat, fo = gk := ⟨_, rfl⟩
      obtain ⟨wo, rfl⟩ : ∃ wo : World, wo = wr := ⟨_, rfl⟩
      have hca := colAt_le n k (c' + 1) hk1 (by omega)
      have hcs := colAt_succ n k c' (by omega)
      have HCC : Hid (b + colLen n k c' = q + colAt n k (c' + 1)) := by show _ = _; rw [hcs, HBB.out]; omega
      have hbb : b + colLen n k c' ≤ 1200 := by have := HCC.out; omega
      have HBL := Lib.hid hbb
      clear hcs hca hbb
      go_wp2_with fail
      go_loopg [13, 15] n (fun f bf jj wr => ∃ (b' j t : Nat), bf = .int .i64 b' ∧ jj = .int .i64 j ∧ j ≤ n + k ∧ n ≤ j + f ∧ b' ≤ 1200 ∧ Hid (b' = b + t ∧ t + colLen n k j = colLen n k c') ∧ wr = wo)
      case atStart => exact ⟨b, c', 0, rfl, rfl, by omega, by omega, by omega, ⟨rfl, by omega⟩, rfl⟩
      case round =>
        obtain ⟨b', j, t, rfl, rfl, e1, e2, e3, HJ, rfl⟩ := hrel
        by_cases hl2 : j < n
        · have hcg := colLen_go n k j hk1 hl2
          have hb1 : b' + 1 ≤ 1200 := by have := HJ.out; have := HBL.out; omega
          have HJ2 : Hid (b' + 1 = b + (t + 1) ∧ t + 1 + colLen n k (j + k) = colLen n k c') := by have := HJ.out; exact ⟨by omega, by omega⟩
          clear hcg
          go_wp2_with fail
          go_roundg (gk - 1)
          case measure => omega
          case rel => exact ⟨b' + 1, j + k, t + 1, by go_num, by go_num, by omega, by omega, hb1, HJ2, rfl⟩
        · go_wp2_with fail
          go_roundg (fo - 1)
          case measure => omega
          case rel =>
            have h1 := HJ.out
            rw [colLen_end n k j hk1 (by omega)] at h1
            exact ⟨b', c' + 1, rfl, by go_num, by omega, by omega, e3, by show b' = _; have := HCC.out; omega, rfl⟩
    · obtain rfl : c' = m := by omega
      obtain rfl : b = p := by rw [HBB.out, HE.out]
      have hoa : ordAt n k b = i := by rw [HP.out]; exact ordAt_place n k i hk1 hin
      rcases HR1.out.ext hx2 with h0 | ⟨bb, oo, rfl, hcc⟩
      · omega
      have hcx0 : _ = some (Value.int .u8 (c (ordAt n k b))) := hcc b hpl
      rw [hoa] at hcx0
      have hcx := hcx0
      clear hcx0
      rcases HB.out.ext (hx1.trans hx2) with h0 | ⟨b2, o2, rfl, hcc2⟩
      · omega
      have hcy := hcc2 i hin
      clear hcc hcc2 hoa
      have hbi : (0 : Int) ≤ (b : Int) := by omega
      have hbn : (b : Int) < (n : Int) := by omega
      have hii : (0 : Int) ≤ (i : Int) := by omega
      have hinn : (i : Int) < (n : Int) := by omega
      go_wp2_with fail
      refine wp_region_T (fun W => W.cell? ⟨bb, oo + b, none⟩ = some (.int .u8 (c i)) ∧ W.cell? ⟨b2, o2 + i, none⟩ = some (.int .u8 (c i))) [] (by kernel_rfl) ?_
      refine oneT 0 rfl (by kernel_rfl) rfl fun K hK => ?_
      go_simp
      refine (awake_any _).mono ?_
      rintro e w3 ⟨rfl, hx3⟩
      have hS : w3.cell? ⟨bb, oo + b, none⟩ = some (.int .u8 (c i)) ∧ w3.cell? ⟨b2, o2 + i, none⟩ = some (.int .u8 (c i)) := ⟨hx3.cell hcx, hx3.cell hcy⟩
      refine hK _ _ (fun _ => hS) ?_
      try simp only [Act.put, List.setIfInBounds_toArray, List.set_cons_zero, List.set_cons_succ]
      refine takeG 1 ?v1 rfl (by kernel_rfl) (fun _ _ _ h => h) (by rfl) hS ?hy1 ?h1
      case hy1 =>
        rintro w' ⟨h1, h2⟩
        go_simp
        first | done | with_reducible rfl
      try simp only [Act.put, List.setIfInBounds_toArray, List.set_cons_zero, List.set_cons_succ]
      refine takeG 2 ?v2 rfl (by kernel_rfl) (fun _ _ _ h => h) (by rfl) hS ?hy2 ?h2
      case hy2 =>
        rintro w' ⟨h1, h2⟩
        go_simp
        first | done | with_reducible rfl
      try simp only [Act.put, List.setIfInBounds_toArray, List.set_cons_zero, List.set_cons_succ]
      refine takeG 3 ?v3 rfl (by kernel_rfl) (fun _ _ _ h => h) (by rfl) hS ?hy3 ?h3
      case hy3 =>
        rintro w' ⟨h1, h2⟩
        go_simp
        first | done | with_reducible rfl
      try simp only [Act.put, List.setIfInBounds_toArray, List.set_cons_zero, List.set_cons_succ]
      refine takeG 4 ?v4 rfl (by kernel_rfl) (fun _ _ _ h => h) (by rfl) hS ?hy4 ?h4
      case hy4 =>
        rintro w' ⟨h1, h2⟩
        go_simp
        first | done | with_reducible rfl
      try simp only [Act.put, List.setIfInBounds_toArray, List.set_cons_zero, List.set_cons_succ]
      refine takeG 5 ?v5 rfl (by kernel_rfl) (fun _ _ _ h => h) (by rfl) hS ?hy5 ?h5
      case hy5 =>
        rintro w' ⟨h1, h2⟩
        go_simp
        first | done | with_reducible rfl
      try simp only [Act.put, List.setIfInBounds_toArray, List.set_cons_zero, List.set_cons_succ]
      refine takeG 6 ?v6 rfl (by kernel_rfl) (fun _ _ _ h => h) (by rfl) hS ?hy6 ?h6
      case hy6 =>
        rintro w' ⟨h1, h2⟩
        go_simp
        first | done | with_reducible rfl
      try simp only [Act.put, List.setIfInBounds_toArray, List.set_cons_zero, List.set_cons_succ]
      refine takeG 7 ?v7 rfl (by kernel_rfl) (fun _ _ _ h => h) (by rfl) hS ?hy7 ?h7
      case hy7 =>
        rintro w' ⟨h1, h2⟩
        go_simp
        first | done | with_reducible rfl
      try simp only [Act.put, List.setIfInBounds_toArray, List.set_cons_zero, List.set_cons_succ]
      refine takeG 8 ?v8 rfl (by kernel_rfl) (fun _ _ _ h => h) (by rfl) hS ?hy8 ?h8
      case hy8 =>
        rintro w' ⟨h1, h2⟩
        go_simp
        first | done | with_reducible rfl
      try simp only [Act.put, List.setIfInBounds_toArray, List.set_cons_zero, List.set_cons_succ]
      refine takeG 9 ?v9 rfl (by kernel_rfl) (fun _ _ _ h => h) (by rfl) hS ?hy9 ?h9
      case hy9 =>
        rintro w' ⟨h1, h2⟩
        go_simp
        first | done | with_reducible rfl
      try simp only [Act.put, List.setIfInBounds_toArray, List.set_cons_zero, List.set_cons_succ]
      refine takeG 10 ?v10 rfl (by kernel_rfl) (fun _ _ _ h => h) (by rfl) hS ?hy10 ?h10
      case hy10 =>
        rintro w' ⟨h1, h2⟩
        go_simp
        first | done | with_reducible rfl
      try simp only [Act.put, List.setIfInBounds_toArray, List.set_cons_zero, List.set_cons_succ]
      refine takeG 11 ?v11 rfl (by kernel_rfl) (fun _ _ _ h => h) (by rfl) hS ?hy11 ?h11
      case hy11 =>
        rintro w' ⟨h1, h2⟩
        go_simp
        first | done | with_reducible rfl
      try simp only [Act.put, List.setIfInBounds_toArray, List.set_cons_zero, List.set_cons_succ]
      refine takeG 12 ?v12 rfl (by kernel_rfl) (fun _ _ _ h => h) (by rfl) hS ?hy12 ?h12
      case hy12 =>
        rintro w' ⟨h1, h2⟩
        go_simp
        first | done | with_reducible rfl
      try simp only [Act.put, List.setIfInBounds_toArray, List.set_cons_zero, List.set_cons_succ]
      refine takeG 13 ?v13 rfl (by kernel_rfl) (fun _ _ _ h => h) (by rfl) hS ?hy13 ?h13
      case hy13 =>
        rintro w' ⟨h1, h2⟩
        go_simp
        first | done | with_reducible rfl
      try simp only [Act.put, List.setIfInBounds_toArray, List.set_cons_zero, List.set_cons_succ]
      refine takeG 14 ?v14 rfl (by kernel_rfl) (fun _ _ _ h => h) (by rfl) hS ?hy14 ?h14
      case hy14 =>
        rintro w' ⟨h1, h2⟩
        go_simp
        first | done | with_reducible rfl
      try simp only [Act.put, List.setIfInBounds_toArray, List.set_cons_zero, List.set_cons_succ]
      refine takeG 15 ?v15 rfl (by kernel_rfl) (fun _ _ _ h => h) (by rfl) hS ?hy15 ?h15
      case hy15 =>
        rintro w' ⟨h1, h2⟩
        go_simp
        first | done | with_reducible rfl
      try simp only [Act.put, List.setIfInBounds_toArray, List.set_cons_zero, List.set_cons_succ]
      refine takeG 16 ?v16 rfl (by kernel_rfl) (fun _ _ _ h => h) (by rfl) hS ?hy16 ?h16
      case hy16 =>
        rintro w' ⟨h1, h2⟩
        go_simp
        first | done | with_reducible rfl
      try simp only [Act.put, List.setIfInBounds_toArray, List.set_cons_zero, List.set_cons_succ]

      refine oneT 17 rfl (by kernel_rfl) rfl fun K hK => ?_
      go_simp
      refine hK _ _ (fun _ => hS) (doneT (by kernel_rfl) ?_ _)
      go_wp2_with fail
      go_ret
      exact ⟨rfl, (hx1.trans hx2).trans (Ext.trans (b := World.drew _) ((Below.refl _ _).drew) hx3)⟩

end Go.Proofs.Ytmlmnmafbpjnbaa
