/- The walk of TreeEdits. -/
import Derived.Test.YtcjokhhcncimdaaDoorW26
import Derived.Test.YtcjokhhcncimdaaDoorC6
set_option linter.unusedVariables false
set_option linter.unusedSimpArgs false
namespace Go.Proofs.YtcjokhhcncimdaaDoor
open Go.RowKit Go.PF Go.Tr

/-- Number i is the one that may come up, its guard being for it. -/
theorem oneG {P : Program} {md : Region.Mode} {ops : Array Oper} {Q : Exit → Act → World → Prop} {S : World → Prop} {late : List Nat} (i : Nat) {oi : Oper} {rest : List Oper} {fuel : Nat} {listed : Array Bool} {a : Act} {w : World} (hi : ops.toList.drop i = oi :: rest) (hr : Region.ready md ops listed = [i]) (hg : Region.wanted oi (yielded ops a.tmps) = true)
    (h : ∀ K : Act → World → Prop, (∀ a' w', (i ∉ late → S w') → wpAnyT P md ops Q S late fuel (listed.setIfInBounds i true) a' w' → K a' w') → oi.wp P a w K Q) : wpAnyT P md ops Q S late (fuel + 1) listed a w := by
  refine ⟨fun h0 => (by rw [hr] at h0; cases h0), fun j hj => ?_⟩
  rw [hr] at hj
  obtain rfl : j = i := by simpa using hj
  unfold wpOp
  simp only [getElem?_of_drop hi, hg, if_true]
  exact .inl (h _ fun a' w' h1 h2 => ⟨h1, h2⟩)

theorem same_file_eq (v1 v2 : Value) (f : FileV) (w : World) (h1 : FileIs w v1 f) (h2 : FileIs w v2 f) :
    Calls Tryd.prog 28 #[v1, v2] w fun e w' => e = .returned (.bool true) ∧ Ext w w' := by
  refine (samefile_any v1 v2 f f w h1 h2).mono ?_
  rintro e w' ⟨rfl, hx⟩
  exact ⟨by rw [decide_eq_true rfl], hx⟩
theorem row1 (w : World) (A : Option Addr) (ca : Nat) (l : List FileV) (hA : RdL w A l) (hl : l.length ≤ maxLen) :
    ∀ i x, [l][i]? = some x → ∃ X c, (w.alloc (.cells #[.slice A l.length ca] 22)).cell? ⟨w.heap.size, 0 + i, none⟩ = some (.slice X x.length c) ∧ RdL (w.alloc (.cells #[.slice A l.length ca] 22)) X x ∧ x.length ≤ maxLen := by
  have hx := ext_alloc1 w (.cells #[.slice A l.length ca] 22)
  intro i x hi
  match i with
  | 0 => cases hi; exact ⟨A, ca, by rw [cell_blk (World.alloc_heap_new w _)]; rfl, hA.ext hx, hl⟩
  | n + 1 => cases hi
theorem putE_no {l : List FileV} {f : FileV} (h : ¬ (putE l f).2 = 0) : (putE l f).1 = [] := by
  unfold putE at h ⊢
  split
  · rename_i h1
    rw [if_pos h1] at h
    split
    · rename_i h2
      rw [if_pos h2] at h
      split
      · rename_i h3
        rw [if_pos h3] at h
        exact absurd rfl h
      · rfl
    · rfl
  · rfl
theorem putE_yes {l : List FileV} {f : FileV} (h : (putE l f).2 = 0) : (putE l f).1 = putL f l ∧ checkE (putL f l) = 0 := by
  unfold putE at h ⊢
  by_cases h1 : checkE l = 0
  · rw [if_pos h1] at h ⊢
    by_cases h2 : validE f = 0
    · rw [if_pos h2] at h ⊢
      by_cases h3 : checkE (putL f l) = 0
      · rw [if_pos h3]; exact ⟨rfl, h3⟩
      · rw [if_neg h3] at h; exact absurd h h3
    · rw [if_neg h2] at h; exact absurd h h2
  · rw [if_neg h1] at h; exact absurd h h1

set_option maxRecDepth 100000 in
set_option maxHeartbeats 4000000 in
theorem edits_all (A : Option Addr) (cap : Nat) (l : List FileV) (vf : Value) (f : FileV) (w : World) (hm : Mx w) (hl : l.length ≤ maxLen) (hfs : f.path.size ≤ maxLen) (hB : RdL w A l) (hf : FileIs w vf f) :
    Calls Tryd.prog 7 #[.slice A l.length cap, vf] w fun e w' => e = .returned (.bool true) ∧ Ext w w' := by
  obtain ⟨Ff, kf, rfl, hfr⟩ := hf
  have HB := Lib.hid hB; clear hB
  have HL := Lib.hid hl; have HFS := Lib.hid hfs; clear hl hfs
  have hbx := World.alloc_heap_new w (.cells #[.string f.path, .int .i64 f.len, .slice Ff f.frags.length kf] 46)
  have hxW := ext_alloc1 w (.cells #[.string f.path, .int .i64 f.len, .slice Ff f.frags.length kf] 46)
  go_enter Tryd.func7, Tryd.ntmps7
  go_wp2_with fail
  have hsz : (w.alloc (.cells #[.string f.path, .int .i64 f.len, .slice Ff f.frags.length kf] 46)).heap.size = w.heap.size + 1 := by simp
  generalize w.alloc (.cells #[.string f.path, .int .i64 f.len, .slice Ff f.frags.length kf] 46) = W at *
  rw [← hsz]
  clear hsz
  have hx0 := ext_alloc1 W (.cells #[.slice A l.length cap] 22)
  refine (right_any W.heap.size 0 1 [l] _ (hm.ext (hxW.trans hx0)) (by simp) (row1 W A cap l (HB.out.ext hxW) HL.out)).mono ?_
  rintro e w1 ⟨rfl, hx1⟩
  replace hx1 := hx0.trans hx1
  replace hbx := hx1.blk hbx
  replace hx1 := hxW.trans hx1
  clear hx0 hxW
  rcases hr : [l].all rightB with _ | _
  · go_wp2_with fail
    refine (awake_any _ (hm.ext hx1)).mono ?_
    rintro e w2 ⟨rfl, hx2⟩
    go_wp2_with fail
    go_ret
    exact ⟨rfl, hx1.trans hx2⟩
  · have hr1 : rightB l = true := by simpa using hr
    obtain ⟨hf1, hc1⟩ := right_parts hr1
    have F1 := Lib.hid (fit_of hf1 (HB.out.ext hx1))
    have h30 := (few_parts hf1).1
    have HC := Lib.hid hc1
    have c0 := cell_blk hbx 0
    have c1 := cell_blk hbx 1
    have c2 := cell_blk hbx 2
    simp only [List.getElem?_toArray, List.getElem?_cons_succ, List.getElem?_cons_zero] at c0 c1 c2
    clear hf1 hr hr1 hc1
    go_wp2_with fail
    have hxa := ext_alloc1 w1 (.cells #[.string f.path, .int .i64 f.len, .slice Ff f.frags.length kf] 46)
    refine (few_any (some ⟨w1.heap.size, 0, none⟩) 1 [f] _ (by simp [maxLen]) (rd_one (hfr.ext hx1))).mono ?_
    rintro e w' ⟨rfl, rfl⟩
    replace hbx := hxa.blk hbx
    generalize w1.alloc (.cells #[.string f.path, .int .i64 f.len, .slice Ff f.frags.length kf] 46) = W2 at *
    have hx2 := hx1.trans hxa
    clear c0 c1 c2
    rcases hf2 : few [f] with _ | _
    · go_wp2_with fail
      refine (awake_any _ (hm.ext hx2)).mono ?_
      rintro e w2 ⟨rfl, hx3⟩
      go_wp2_with fail
      go_ret
      exact ⟨rfl, hx2.trans hx3⟩
    · have hsf := (few_one hf2).1
      clear hf2
      have c0 := cell_blk hbx 0
      have c1 := cell_blk hbx 1
      have c2 := cell_blk hbx 2
      simp only [List.getElem?_toArray, List.getElem?_cons_succ, List.getElem?_cons_zero] at c0 c1 c2
      go_wp2_with fail
      refine (tfind_any A cap l f.path W2 (hm.ext hx2) (by omega) F1.out.short (F1.out.rd.ext hxa)).mono ?_
      rintro e w3 ⟨rfl, hx3⟩
      replace hbx := hx3.blk hbx
      have hy3 := hxa.trans hx3
      replace hx3 := hx2.trans hx3
      clear c0 c1 c2 hx2 hxa
      have c0 := cell_blk hbx 0
      have c1 := cell_blk hbx 1
      have c2 := cell_blk hbx 2
      simp only [List.getElem?_toArray, List.getElem?_cons_succ, List.getElem?_cons_zero] at c0 c1 c2
      go_wp2_with fail
      refine (tput_any A cap l _ f w3 (hm.ext hx3) (by omega) F1.out.short F1.out.small (F1.out.rd.ext hy3) ⟨_, _, rfl, hfr.ext hx3⟩ HFS.out hsf).mono ?_
      rintro e w4 ⟨Ao, co, rfl, hr1, hx4⟩
      replace hbx := hx4.blk hbx
      have hy4 := hy3.trans hx4
      replace hx4 := hx3.trans hx4
      clear c0 c1 c2 hx3 hy3
      by_cases hpe : (putE l f).2 = 0
      · obtain ⟨hp1, hp2⟩ := putE_yes hpe
        rw [hpe, hp1]
        rw [hp1] at hr1
        have HX := Lib.hid hr1
        have HP2 := Lib.hid hp2
        have hpl := put_len f l
        have HFI := Lib.hid (find_has f.path hp2 (has_put (f := f) (check_srt HC.out)))
        have HAT := Lib.hid (at_put (f := f) (check_srt HC.out))
        clear hpe hp1 hp2 hr1
        have c0 := cell_blk hbx 0
        have c1 := cell_blk hbx 1
        have c2 := cell_blk hbx 2
        simp only [List.getElem?_toArray, List.getElem?_cons_succ, List.getElem?_cons_zero] at c0 c1 c2
        go_wp2_with fail
        refine (tfind_any Ao co (putL f l) f.path w4 (hm.ext hx4) (by omega) (put_short F1.out.short HFS.out) HX.out).mono ?_
        rw [HFI.out]
        rintro e w5 ⟨rfl, hx5⟩
        replace hbx := hx5.blk hbx
        have hy5 := hy4.trans hx5
        have HX5 := Lib.hid (HX.out.ext hx5)
        replace hx5 := hx4.trans hx5
        clear c0 c1 c2 hx4 hy4 HX
        have c0 := cell_blk hbx 0
        have c1 := cell_blk hbx 1
        have c2 := cell_blk hbx 2
        simp only [List.getElem?_toArray, List.getElem?_cons_succ, List.getElem?_cons_zero] at c0 c1 c2
        have hil : lowI f.path (putL f l) < (putL f l).length := (List.getElem?_eq_some_iff.1 HAT.out).1
        generalize lowI f.path (putL f l) = i at *
        go_wp2_with fail
        have hxd : Ext w5 w5.drew := (Below.refl _ _).drew
        obtain ⟨b, o, F, k, rfl, hr1, hr2, hr3, hr4⟩ := HX5.out.at_ HAT.out
        have cA : w5.drew.cell? ⟨w.heap.size, 0, none⟩ = some (.string f.path) := c0
        have cB : w5.drew.cell? ⟨w.heap.size, 1, none⟩ = some (.int .i64 f.len) := c1
        have cC : w5.drew.cell? ⟨w.heap.size, 2, none⟩ = some (.slice Ff f.frags.length kf) := c2
        have cD : w5.drew.cell? ⟨b, o + i * 3, none⟩ = some (.string f.path) := hr1
        have cE : w5.drew.cell? ⟨b, o + i * 3 + 1, none⟩ = some (.int .i64 f.len) := hr2
        have cF : w5.drew.cell? ⟨b, o + i * 3 + 2, none⟩ = some (.slice F f.frags.length k) := hr3
        have hS : Ext w5.drew w5.drew := Ext.refl _
        have qge : ¬ ((putL f l).length : Int) ≤ (i : Int) := by omega
        have qge2 : decide (((putL f l).length : Int) ≤ (i : Int)) = false := decide_eq_false qge
        have qlt : decide ((i : Int) < 0) = false := decide_eq_false (by omega)
        clear c0 c1 c2 hr1 hr2 hr3 qge
        refine wp_region_T (fun W' => Ext w5.drew W') [] (by kernel_rfl) ?_
        refine takeT 0 ?v0_1 rfl (by kernel_rfl) (fun _ _ _ h => h) rfl hS ?hy0_1 ?hk0_1
        case hy0_1 =>
          rintro w' he
          go_simp
          first | done | with_reducible rfl
        try simp only [Act.put, List.setIfInBounds_toArray, List.set_cons_zero, List.set_cons_succ]
        refine takeT 1 ?v1_2 rfl (by kernel_rfl) (fun _ _ _ h => h) rfl hS ?hy1_2 ?hk1_2
        case hy1_2 =>
          rintro w' he
          go_simp
          first | done | with_reducible rfl
        try simp only [Act.put, List.setIfInBounds_toArray, List.set_cons_zero, List.set_cons_succ]
        refine takeT 2 ?v2_3 rfl (by kernel_rfl) (fun _ _ _ h => h) rfl hS ?hy2_3 ?hk2_3
        case hy2_3 =>
          rintro w' he
          go_simp
          first | done | with_reducible rfl
        try simp only [Act.put, List.setIfInBounds_toArray, List.set_cons_zero, List.set_cons_succ]
        refine takeG 3 ?v3_4 rfl (by kernel_rfl) (fun _ _ _ h => h) (by rfl) hS ?hy3_4 ?hk3_4
        case hy3_4 =>
          rintro w' he
          go_simp
          first | done | with_reducible rfl
        try simp only [Act.put, List.setIfInBounds_toArray, List.set_cons_zero, List.set_cons_succ]
        refine takeG 4 (.bool false) rfl (by kernel_rfl) (fun _ _ _ h => h) (by rfl) hS ?hy4_5 ?hk4_5
        case hy4_5 =>
          rintro w' he
          go_simp
          first | done | with_reducible rfl
        try simp only [Act.put, List.setIfInBounds_toArray, List.set_cons_zero, List.set_cons_succ]
        refine takeT 5 ?v5_6 rfl (by kernel_rfl) (fun _ _ _ h => h) rfl hS ?hy5_6 ?hk5_6
        case hy5_6 =>
          rintro w' he
          go_simp
          first | done | with_reducible rfl
        try simp only [Act.put, List.setIfInBounds_toArray, List.set_cons_zero, List.set_cons_succ]
        refine takeT 6 ?v6_7 rfl (by kernel_rfl) (fun _ _ _ h => h) rfl hS ?hy6_7 ?hk6_7
        case hy6_7 =>
          rintro w' he
          go_simp
          first | done | with_reducible rfl
        try simp only [Act.put, List.setIfInBounds_toArray, List.set_cons_zero, List.set_cons_succ]
        refine takeG 7 ?v7_8 rfl (by kernel_rfl) (fun _ _ _ h => h) (by rfl) hS ?hy7_8 ?hk7_8
        case hy7_8 =>
          rintro w' he
          go_simp
          first | done | with_reducible rfl
        try simp only [Act.put, List.setIfInBounds_toArray, List.set_cons_zero, List.set_cons_succ]
        refine takeG 8 ?v8_9 rfl (by kernel_rfl) (fun _ _ _ h => h) (by rfl) hS ?hy8_9 ?hk8_9
        case hy8_9 =>
          rintro w' he
          go_simp
          first | done | with_reducible rfl
        try simp only [Act.put, List.setIfInBounds_toArray, List.set_cons_zero, List.set_cons_succ]
        refine takeG 9 ?v9_10 rfl (by kernel_rfl) (fun _ _ _ h => h) (by rfl) hS ?hy9_10 ?hk9_10
        case hy9_10 =>
          rintro w' he
          go_simp
          first | done | with_reducible rfl
        try simp only [Act.put, List.setIfInBounds_toArray, List.set_cons_zero, List.set_cons_succ]
        refine takeG 10 (.bool false) rfl (by kernel_rfl) (fun _ _ _ h => h) (by rfl) hS ?hy10_11 ?hk10_11
        case hy10_11 =>
          rintro w' he
          go_simp
          first | done | with_reducible rfl
        try simp only [Act.put, List.setIfInBounds_toArray, List.set_cons_zero, List.set_cons_succ]
        refine takeT 11 ?v11_12 rfl (by kernel_rfl) (fun _ _ _ h => h) rfl hS ?hy11_12 ?hk11_12
        case hy11_12 =>
          rintro w' he
          go_simp
          first | done | with_reducible rfl
        try simp only [Act.put, List.setIfInBounds_toArray, List.set_cons_zero, List.set_cons_succ]
        refine takeT 12 ?v12_13 rfl (by kernel_rfl) (fun _ _ _ h => h) rfl hS ?hy12_13 ?hk12_13
        case hy12_13 =>
          rintro w' he
          go_simp
          first | done | with_reducible rfl
        try simp only [Act.put, List.setIfInBounds_toArray, List.set_cons_zero, List.set_cons_succ]
        refine takeG 13 ?v13_14 rfl (by kernel_rfl) (fun _ _ _ h => h) (by rfl) hS ?hy13_14 ?hk13_14
        case hy13_14 =>
          rintro w' he 
          have s1 := he.cell cA
          have s2 := he.cell cB
          have s3 := he.cell cC
          have s4 := he.cell cD
          have s5 := he.cell cE
          have s6 := he.cell cF
          go_simp
          first | done | with_reducible rfl
        try simp only [Act.put, List.setIfInBounds_toArray, List.set_cons_zero, List.set_cons_succ]
        refine takeG 14 ?v14_15 rfl (by kernel_rfl) (fun _ _ _ h => h) (by rfl) hS ?hy14_15 ?hk14_15
        case hy14_15 =>
          rintro w' he 
          have s1 := he.cell cA
          have s2 := he.cell cB
          have s3 := he.cell cC
          have s4 := he.cell cD
          have s5 := he.cell cE
          have s6 := he.cell cF
          go_simp
          first | done | with_reducible rfl
        try simp only [Act.put, List.setIfInBounds_toArray, List.set_cons_zero, List.set_cons_succ]
        refine takeG 15 ?v15_16 rfl (by kernel_rfl) (fun _ _ _ h => h) (by rfl) hS ?hy15_16 ?hk15_16
        case hy15_16 =>
          rintro w' he 
          have s1 := he.cell cA
          have s2 := he.cell cB
          have s3 := he.cell cC
          have s4 := he.cell cD
          have s5 := he.cell cE
          have s6 := he.cell cF
          go_simp
          first | done | with_reducible rfl
        try simp only [Act.put, List.setIfInBounds_toArray, List.set_cons_zero, List.set_cons_succ]
        refine takeG 16 ?v16_17 rfl (by kernel_rfl) (fun _ _ _ h => h) (by rfl) hS ?hy16_17 ?hk16_17
        case hy16_17 =>
          rintro w' he 
          have s1 := he.cell cA
          have s2 := he.cell cB
          have s3 := he.cell cC
          have s4 := he.cell cD
          have s5 := he.cell cE
          have s6 := he.cell cF
          go_simp
          first | done | with_reducible rfl
        try simp only [Act.put, List.setIfInBounds_toArray, List.set_cons_zero, List.set_cons_succ]
        refine takeG 17 ?v17_18 rfl (by kernel_rfl) (fun _ _ _ h => h) (by rfl) hS ?hy17_18 ?hk17_18
        case hy17_18 =>
          rintro w' he 
          have s1 := he.cell cA
          have s2 := he.cell cB
          have s3 := he.cell cC
          have s4 := he.cell cD
          have s5 := he.cell cE
          have s6 := he.cell cF
          go_simp
          first | done | with_reducible rfl
        try simp only [Act.put, List.setIfInBounds_toArray, List.set_cons_zero, List.set_cons_succ]
        refine oneG 18 rfl (by kernel_rfl) (by rfl) fun K hK => ?_
        go_simp
        refine (same_file_eq _ _ f w5.drew ⟨_, _, rfl, hr4.ext hxd⟩ ⟨_, _, rfl, hfr.ext (hx5.trans hxd)⟩).mono ?_
        rintro e w6 ⟨rfl, hx6⟩
        refine hK _ _ (fun _ => hx6) ?_
        clear hK K hS
        have hS := hx6
        try simp only [Act.put, List.setIfInBounds_toArray, List.set_cons_zero, List.set_cons_succ]
        refine takeG 19 ?v19_19 rfl (by kernel_rfl) (fun _ _ _ h => h) (by rfl) hS ?hy19_19 ?hk19_19
        case hy19_19 =>
          rintro w' he
          go_simp
          first | done | with_reducible rfl
        try simp only [Act.put, List.setIfInBounds_toArray, List.set_cons_zero, List.set_cons_succ]
        refine takeT 20 ?v20_20 rfl (by kernel_rfl) (fun _ _ _ h => h) rfl hS ?hy20_20 ?hk20_20
        case hy20_20 =>
          rintro w' he
          go_simp
          first | done | with_reducible rfl
        try simp only [Act.put, List.setIfInBounds_toArray, List.set_cons_zero, List.set_cons_succ]
        refine takeT 21 ?v21_21 rfl (by kernel_rfl) (fun _ _ _ h => h) rfl hS ?hy21_21 ?hk21_21
        case hy21_21 =>
          rintro w' he
          go_simp
          first | done | with_reducible rfl
        try simp only [Act.put, List.setIfInBounds_toArray, List.set_cons_zero, List.set_cons_succ]
        refine takeG 22 ?v22_22 rfl (by kernel_rfl) (fun _ _ _ h => h) (by rfl) hS ?hy22_22 ?hk22_22
        case hy22_22 =>
          rintro w' he
          go_simp
          first | done | with_reducible rfl
        try simp only [Act.put, List.setIfInBounds_toArray, List.set_cons_zero, List.set_cons_succ]
        refine oneG 23 rfl (by kernel_rfl) (by rfl) fun K hK => ?_
        go_simp
        refine (tcheck_any (some ⟨b, o, none⟩) co (putL f l) w6 (hm.ext ((hx5.trans hxd).trans hx6)) (by omega) (put_short F1.out.short HFS.out) (HX5.out.ext (hxd.trans hx6))).mono ?_
        rw [HP2.out]
        rintro e w7 ⟨rfl, hx7⟩
        refine hK _ _ (fun _ => hx6.trans hx7) ?_
        clear hK K hS
        have hS := hx6.trans hx7
        try simp only [Act.put, List.setIfInBounds_toArray, List.set_cons_zero, List.set_cons_succ]
        refine takeG 24 ?v24_23 rfl (by kernel_rfl) (fun _ _ _ h => h) (by rfl) hS ?hy24_23 ?hk24_23
        case hy24_23 =>
          rintro w' he
          go_simp
          first | done | with_reducible rfl
        try simp only [Act.put, List.setIfInBounds_toArray, List.set_cons_zero, List.set_cons_succ]
        refine takeT 25 ?v25_24 rfl (by kernel_rfl) (fun _ _ _ h => h) rfl hS ?hy25_24 ?hk25_24
        case hy25_24 =>
          rintro w' he
          go_simp
          first | done | with_reducible rfl
        try simp only [Act.put, List.setIfInBounds_toArray, List.set_cons_zero, List.set_cons_succ]
        refine doneT (by kernel_rfl) ?_ _
        have hx8 := (hx5.trans hxd).trans hS
        have hy8 := (hy5.trans hxd).trans hS
        replace hbx := (hxd.trans hS).blk hbx
        have HX8 := Lib.hid (HX5.out.ext (hxd.trans hS))
        clear hS cA cB cC cD cE cF hx6 hx7 hxd hx5 hy5 HX5 hr4 qlt qge2
        have c0 := cell_blk hbx 0
        have c1 := cell_blk hbx 1
        have c2 := cell_blk hbx 2
        simp only [List.getElem?_toArray, List.getElem?_cons_succ, List.getElem?_cons_zero] at c0 c1 c2
        go_wp2_with fail
        refine (tremove_any (some ⟨b, o, none⟩) co (putL f l) f.path w7 (hm.ext hx8) (by omega) (put_short F1.out.short HFS.out) (put_small F1.out.small hsf) HX8.out).mono ?_
        rw [(removeE_3 HP2.out (has_put (check_srt HC.out))).trans (by rw [strike_put (check_srt HC.out)])]
        rintro e w9 ⟨Co, eo, rfl, hrb, hx9⟩
        have hwl := without_len f.path l
        have HBK := Lib.hid hrb
        have hy9 := hy8.trans hx9
        replace hx9 := hx8.trans hx9
        clear hx8 hy8 hbx HX8 c0 c1 c2 hrb
        go_wp2_with fail
        refine (sclone_any A cap l w9 (by omega) (F1.out.rd.ext hy9)).mono ?_
        rintro e w10 ⟨v10, xs, rfl, hro, hrow, hx10⟩
        have HBK2 := Lib.hid (HBK.out.ext hx10)
        have HRO := Lib.hid hro
        have HROW := Lib.hid hrow
        clear hro hrow
        rcases hh : hasB f.path l with _ | _
        · have HF := Lib.hid (find_not f.path HC.out hh)
          have HW := Lib.hid (strike_none (check_srt HC.out) hh)
          clear hh
          rw [HF.out, HW.out]
          rw [HW.out] at HBK2
          obtain ⟨A10, c10, rfl, -, -, hrd⟩ := own_rd HRO.out
          have hr10 := HROW.out.rd hrd hx10
          clear hrd
          go_wp2_with fail
          refine (same_same Co A10 eo c10 l w10 HL.out HBK2.out hr10).mono ?_
          rintro e w11 ⟨rfl, hx11⟩
          replace hx11 := (hx9.trans hx10).trans hx11
          go_wp2_with fail
          refine (awake_any _ (hm.ext hx11)).mono ?_
          rintro e w12 ⟨rfl, hx12⟩
          go_wp2_with fail
          go_ret
          exact ⟨rfl, hx11.trans hx12⟩
        · have HF := Lib.hid (find_has f.path HC.out hh)
          have HW := Lib.hid (strike_old (check_srt HC.out) hh)
          have hlt : lowI f.path l < l.length := by
            obtain ⟨g, hg, _⟩ := has_at hh
            exact (List.getElem?_eq_some_iff.1 hg).1
          clear hh
          rw [HF.out]
          generalize lowI f.path l = q at *
          go_wp2_with fail
          refine (delete_any w9.heap.size l.length q v10 xs w10 HRO.out HROW.out.cells.onecell hlt).mono ?_
          rintro e w11 ⟨v11, rfl, hro11, hgr, -⟩
          have hbel := below_grown HRO.out hgr hx10.size
          have hx11 : Ext w9 w11 := Below.trans hx10 hbel
          have hrow11 := ((HROW.out.cells.take q).append (HROW.out.cells.drop (q + 1))).row
          rw [HW.out] at hrow11
          have hlen : l.length - 1 = (withoutL f.path l).length := by rw [← HW.out, List.length_append, List.length_take, List.length_drop]; omega
          rw [hlen] at hro11
          obtain ⟨A11, c11, rfl, -, -, hrd⟩ := own_rd hro11
          have hr11 := hrow11.rd hrd hx11
          have HBK3 := Lib.hid (HBK.out.ext hx11)
          clear hro11 hgr hrow11 hlen hrd hbel
          go_wp2_with fail
          refine (same_same Co A11 eo c11 (withoutL f.path l) w11 (by simp only [maxLen]; omega) HBK3.out hr11).mono ?_
          rintro e w12 ⟨rfl, hx12⟩
          replace hx12 := (hx9.trans hx11).trans hx12
          go_wp2_with fail
          refine (awake_any _ (hm.ext hx12)).mono ?_
          rintro e w13 ⟨rfl, hx13⟩
          go_wp2_with fail
          go_ret
          exact ⟨rfl, hx12.trans hx13⟩
      · have hp1 := putE_no hpe
        have q1 : ((putE l f).2 == 0) = false := beq_eq_false_iff_ne.2 hpe
        have q2 : ((putE l f).2 != 0) = true := by simp [bne, q1]
        rw [hp1]
        clear hpe hp1 hr1
        generalize (putE l f).2 = pe at *
        go_wp2_with fail
        refine (awake_any _ (hm.ext hx4)).mono ?_
        rintro e w5 ⟨rfl, hx5⟩
        go_wp2_with fail
        go_ret
        exact ⟨rfl, hx4.trans hx5⟩
end Go.Proofs.YtcjokhhcncimdaaDoor
