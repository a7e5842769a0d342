/- The walks of the iterator over the places in column order. -/
import Derived.Test.YtmlmnmafbpjnbaaRnd
import Derived.Test.YtmlmnmafbpjnbaaW3
namespace Go.Proofs.Ytmlmnmafbpjnbaa
open Go.RowKit Go.PF Go.Col Go.Shelf
attribute [local go_sem] Oper.semAt_some

set_option maxHeartbeats 1000000 in
theorem order1_in (F : Fence) (m : Nat) (h30 : F.fn 30) (hro : F.round = none) (hm : 1 ≤ m) (l Bw Bl : Nat) (Kp : World → World → Prop) (n k : Nat) (hn : n ≤ 65536) (hk1 : 1 ≤ k) (hk : k ≤ 64) (hKw : ∀ W W', Kp W W' → W'.cell? ⟨Bw, 0, none⟩ = W.cell? ⟨Bw, 0, none⟩) (hKl : ∀ W W', Kp W W' → W'.cell? ⟨Bl, 0, none⟩ = W.cell? ⟨Bl, 0, none⟩) (J Jx : List Nat → World → Prop)
    (hY : ∀ (pre : List Nat) (x : Nat) W, J pre W → pre.length < (ord n k).length → x < n → YieldAt F (m - 1) Try.prog l #[.int .i64 (x : Int)] W fun e W' =>
      (e = .returned (.bool true) ∧ J (pre ++ [x]) W' ∧ Kp W W') ∨ (e = .returned (.bool false) ∧ Jx (pre ++ [x]) W'))
    (W : World) (hcw : W.cell? ⟨Bw, 0, none⟩ = some (.int .i64 (k : Int))) (hcl : W.cell? ⟨Bl, 0, none⟩ = some (.int .i64 (n : Int))) (h0 : J [] W) :
    CallsIn F m Try.prog 30 #[.func (.yield l) #[] #[], .pointer (some ⟨Bw, 0, none⟩), .pointer (some ⟨Bl, 0, none⟩)] W fun e W' => (∃ v, e = .returned v) ∧
      ((∃ ys, ys = ord n k ∧ J ys W') ∨ (∃ pre, pre <+: ord n k ∧ Jx pre W')) := by
  refine callsIn_of_wp Try.func30 rfl h30 ?_ hro
  simp only [Try.ntmps30, List.size_toArray, List.length_cons, List.length_nil, Nat.reduceAdd, Nat.reduceSub, Array.replicate_succ, Array.replicate_zero, List.push_toArray, List.append_toArray, List.nil_append, List.cons_append]
  have HKw := Lib.hid hKw; have HKl := Lib.hid hKl; clear hKw hKl
  rcases (Nat.lt_or_ge n k).symm with hkn | hkn
  · gi_wp2
    gi_loopg [4, 5, 9] k (fun f _ _ c wr => ∃ (c' : Nat) (pre : List Nat), c = .int .i64 c' ∧ c' ≤ k ∧ k ≤ c' + f ∧ Hid (pre ++ ordFrom n k (k - c') c' = ord n k) ∧ J pre wr ∧
      wr.cell? ⟨Bw, 0, none⟩ = some (.int .i64 (k : Int)) ∧ wr.cell? ⟨Bl, 0, none⟩ = some (.int .i64 (n : Int)))
    case atStart => exact ⟨0, [], rfl, by omega, by omega, by show [] ++ _ = _; rw [List.nil_append, Nat.sub_zero, ← ord_min]; congr 1; omega, h0, hcw, hcl⟩
    case round =>
      clear hcw hcl h0
      obtain ⟨c', pre, rfl, h1, h2, HP, hJ, hcw, hcl⟩ := hrel
      by_cases hlt : c' < k
      · obtain ⟨wo, rfl⟩ : ∃ wo : World, wo = wr := ⟨_, rfl⟩
        obtain ⟨fo, rfl⟩ : ∃ fo : Nat, fo = gk := ⟨_, rfl⟩
        gi_wp2
        gi_loopg [5] n (fun f i wr => ∃ (i' : Nat) (pre : List Nat), i = .int .i64 i' ∧ i' ≤ n + k ∧ n ≤ i' + f ∧ Hid (pre ++ (colFrom n k f i' ++ ordFrom n k (k - c' - 1) (c' + 1)) = ord n k) ∧ J pre wr ∧
          wr.cell? ⟨Bw, 0, none⟩ = some (.int .i64 (k : Int)) ∧ wr.cell? ⟨Bl, 0, none⟩ = some (.int .i64 (n : Int)))
        case atStart =>
          refine ⟨c', pre, rfl, by omega, by omega, ?_, hJ, hcw, hcl⟩
          have := HP.out
          rw [show k - c' = (k - c' - 1) + 1 from by omega] at this
          exact this
        case round =>
          clear hcw hcl hJ HP
          obtain ⟨i', pre, rfl, h3, h4, HP, hJ, hcw, hcl⟩ := hrel
          by_cases hl2 : i' < n
          · obtain ⟨g, hg⟩ : ∃ g, gk = g + 1 := ⟨gk - 1, by omega⟩
            have HP2 : Hid (pre ++ [i'] ++ (colFrom n k g (i' + k) ++ ordFrom n k (k - c' - 1) (c' + 1)) = ord n k) := by
              have h := HP.out
              rw [hg, colFrom_go n k g i' hl2] at h
              simpa [Hid] using h
            have hpl : pre.length < (ord n k).length := by
              have h := congrArg List.length HP2.out
              simp at h
              omega
            have HPF : Hid (pre ++ [i'] <+: ord n k) := ⟨_, HP2.out⟩
            have Hg := Lib.hid hg; clear hg
            obtain ⟨fn, tmps, assign, body, hy, hR⟩ := hY pre i' wr hJ hpl hl2
            clear hpl
            gi_wp2
            refine hR.mono ?_
            rintro e W3 (⟨rfl, hJ3, hk3⟩ | ⟨rfl, hJx3⟩)
            · have hcw3 := (HKw.out _ _ hk3).trans hcw
              have hcl3 := (HKl.out _ _ hk3).trans hcl
              clear hcw hcl
              gi_wp2
              gi_roundg g
              case measure => have := Hg.out; omega
              case rel => exact ⟨i' + k, pre ++ [i'], by go_num, by omega, by have := Hg.out; omega, HP2, hJ3, hcw3, hcl3⟩
            · gi_wp2
              refine bodyPost_ret (results_none rfl _ _ _) rfl ?_
              exact ⟨⟨_, rfl⟩, .inr ⟨pre ++ [i'], HPF.out, hJx3⟩⟩
          · gi_wp2
            gi_roundg (fo - 1)
            case measure => omega
            case rel =>
              refine ⟨c' + 1, pre, by go_num, by omega, by omega, ?_, hJ, hcw, hcl⟩
              have h := HP.out
              rw [colFrom_end n k gk i' (by omega)] at h
              simpa [Hid, Nat.sub_sub] using h
      · gi_wp2
        go_end0
        refine ⟨⟨_, rfl⟩, .inl ⟨pre, ?_, hJ⟩⟩
        have := HP.out
        rw [show k - c' = 0 from by omega] at this
        simpa [ordFrom] using this
  · gi_wp2
    gi_loopg [4, 5, 9] n (fun f _ _ c wr => ∃ (c' : Nat) (pre : List Nat), c = .int .i64 c' ∧ c' ≤ n ∧ n ≤ c' + f ∧ Hid (pre ++ ordFrom n k (n - c') c' = ord n k) ∧ J pre wr ∧
      wr.cell? ⟨Bw, 0, none⟩ = some (.int .i64 (k : Int)) ∧ wr.cell? ⟨Bl, 0, none⟩ = some (.int .i64 (n : Int)))
    case atStart => exact ⟨0, [], rfl, by omega, by omega, by show [] ++ _ = _; rw [List.nil_append, Nat.sub_zero, ← ord_min]; congr 1; omega, h0, hcw, hcl⟩
    case round =>
      clear hcw hcl h0
      obtain ⟨c', pre, rfl, h1, h2, HP, hJ, hcw, hcl⟩ := hrel
      by_cases hlt : c' < n
      · obtain ⟨wo, rfl⟩ : ∃ wo : World, wo = wr := ⟨_, rfl⟩
        obtain ⟨fo, rfl⟩ : ∃ fo : Nat, fo = gk := ⟨_, rfl⟩
        gi_wp2
        gi_loopg [5] n (fun f i wr => ∃ (i' : Nat) (pre : List Nat), i = .int .i64 i' ∧ i' ≤ n + k ∧ n ≤ i' + f ∧ Hid (pre ++ (colFrom n k f i' ++ ordFrom n k (n - c' - 1) (c' + 1)) = ord n k) ∧ J pre wr ∧
          wr.cell? ⟨Bw, 0, none⟩ = some (.int .i64 (k : Int)) ∧ wr.cell? ⟨Bl, 0, none⟩ = some (.int .i64 (n : Int)))
        case atStart =>
          refine ⟨c', pre, rfl, by omega, by omega, ?_, hJ, hcw, hcl⟩
          have := HP.out
          rw [show n - c' = (n - c' - 1) + 1 from by omega] at this
          exact this
        case round =>
          clear hcw hcl hJ HP
          obtain ⟨i', pre, rfl, h3, h4, HP, hJ, hcw, hcl⟩ := hrel
          by_cases hl2 : i' < n
          · obtain ⟨g, hg⟩ : ∃ g, gk = g + 1 := ⟨gk - 1, by omega⟩
            have HP2 : Hid (pre ++ [i'] ++ (colFrom n k g (i' + k) ++ ordFrom n k (n - c' - 1) (c' + 1)) = ord n k) := by
              have h := HP.out
              rw [hg, colFrom_go n k g i' hl2] at h
              simpa [Hid] using h
            have hpl : pre.length < (ord n k).length := by
              have h := congrArg List.length HP2.out
              simp at h
              omega
            have HPF : Hid (pre ++ [i'] <+: ord n k) := ⟨_, HP2.out⟩
            have Hg := Lib.hid hg; clear hg
            obtain ⟨fn, tmps, assign, body, hy, hR⟩ := hY pre i' wr hJ hpl hl2
            clear hpl
            gi_wp2
            refine hR.mono ?_
            rintro e W3 (⟨rfl, hJ3, hk3⟩ | ⟨rfl, hJx3⟩)
            · have hcw3 := (HKw.out _ _ hk3).trans hcw
              have hcl3 := (HKl.out _ _ hk3).trans hcl
              clear hcw hcl
              gi_wp2
              gi_roundg g
              case measure => have := Hg.out; omega
              case rel => exact ⟨i' + k, pre ++ [i'], by go_num, by omega, by have := Hg.out; omega, HP2, hJ3, hcw3, hcl3⟩
            · gi_wp2
              refine bodyPost_ret (results_none rfl _ _ _) rfl ?_
              exact ⟨⟨_, rfl⟩, .inr ⟨pre ++ [i'], HPF.out, hJx3⟩⟩
          · gi_wp2
            gi_roundg (fo - 1)
            case measure => omega
            case rel =>
              refine ⟨c' + 1, pre, by go_num, by omega, by omega, ?_, hJ, hcw, hcl⟩
              have h := HP.out
              rw [colFrom_end n k gk i' (by omega)] at h
              simpa [Hid, Nat.sub_sub] using h
      · gi_wp2
        go_end0
        refine ⟨⟨_, rfl⟩, .inl ⟨pre, ?_, hJ⟩⟩
        have := HP.out
        rw [show n - c' = 0 from by omega] at this
        simpa [ordFrom] using this

end Go.Proofs.Ytmlmnmafbpjnbaa
