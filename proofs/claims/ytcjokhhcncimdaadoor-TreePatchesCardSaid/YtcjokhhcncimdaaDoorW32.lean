/- The walk of SameChanges on two readings of one list. -/
import Derived.Test.YtcjokhhcncimdaaDoorW31
set_option linter.unusedVariables false
set_option linter.unusedSimpArgs false
namespace Go.Proofs.YtcjokhhcncimdaaDoor
open Go.RowKit Go.PF Go.Tr

set_option maxRecDepth 100000 in
set_option maxHeartbeats 4000000 in
theorem samech_any (C D : Option Addr) (cc cd : Nat) (cs : List ChangeV) (w : World) (hn : cs.length ≤ 1000) (hC : RdC w C cs) (hD : RdC w D cs) :
    Calls Tryd.prog 35 #[.slice C cs.length cc, .slice D cs.length cd] w fun e w' => e = .returned (.bool true) ∧ Ext w w' := by
  have HC := Lib.hid hC; clear hC
  have HD := Lib.hid hD; clear hD
  go_enter Tryd.func35, Tryd.ntmps35
  go_wp2_with fail
  go_loopg [5] (cs.length + 1) (fun f i wr => ∃ (i' : Nat), i = .int .i64 i' ∧ i' ≤ cs.length ∧ cs.length + 1 ≤ i' + f ∧ Ext w wr)
  case atStart => exact ⟨0, rfl, by omega, by omega, Ext.refl _⟩
  case round =>
    obtain ⟨i', rfl, h2, h3, hx⟩ := hrel
    by_cases hlt : i' < cs.length
    · obtain ⟨c, hci⟩ : ∃ x, cs[i']? = some x := ⟨_, List.getElem?_eq_getElem hlt⟩
      have hxd : Ext wr wr.drew := (Below.refl _ _).drew
      obtain ⟨b1, o1, F1, j1, G1, m1, rfl, hr0, hr1, hr2, hr3, hr4, hr5, hr6, hr7, hf1, hf2⟩ := (HC.out.ext (hx.trans hxd)).cells hci
      obtain ⟨b2, o2, F2, j2, G2, m2, rfl, ht0, ht1, ht2, ht3, ht4, ht5, ht6, ht7, hg1, hg2⟩ := (HD.out.ext (hx.trans hxd)).cells hci
      clear hci
      obtain ⟨kd, p, o, n⟩ := c
      dsimp only at hr0 hr1 hr2 hr3 hr4 hr5 hr6 hr7 hf1 hf2 ht0 ht1 ht2 ht3 ht4 ht5 ht6 ht7 hg1 hg2
      go_wp2_with fail
      refine wp_region_T (fun W' => Ext wr.drew W') [] (by kernel_rfl) ?_
      have hS : Ext wr.drew wr.drew := Ext.refl _
      refine takeT 0 ?v0_1 rfl (by kernel_rfl) (fun _ _ _ h => h) rfl hS ?hy0_1 ?hk0_1
      case hy0_1 =>
        rintro w' he
        go_simp
        first | done | with_reducible rfl
      try simp only [Act.put, List.setIfInBounds_toArray, List.set_cons_zero, List.set_cons_succ]
      refine takeT 1 ?v1_2 rfl (by kernel_rfl) (fun _ _ _ h => h) rfl hS ?hy1_2 ?hk1_2
      case hy1_2 =>
        rintro w' he
        go_simp
        first | done | with_reducible rfl
      try simp only [Act.put, List.setIfInBounds_toArray, List.set_cons_zero, List.set_cons_succ]
      refine takeT 2 ?v2_3 rfl (by kernel_rfl) (fun _ _ _ h => h) rfl hS ?hy2_3 ?hk2_3
      case hy2_3 =>
        rintro w' he
        go_simp
        first | done | with_reducible rfl
      try simp only [Act.put, List.setIfInBounds_toArray, List.set_cons_zero, List.set_cons_succ]
      refine takeT 3 ?v3_4 rfl (by kernel_rfl) (fun _ _ _ h => h) rfl hS ?hy3_4 ?hk3_4
      case hy3_4 =>
        rintro w' he
        go_simp
        first | done | with_reducible rfl
      try simp only [Act.put, List.setIfInBounds_toArray, List.set_cons_zero, List.set_cons_succ]
      refine takeT 4 ?v4_5 rfl (by kernel_rfl) (fun _ _ _ h => h) rfl hS ?hy4_5 ?hk4_5
      case hy4_5 =>
        rintro w' he 
        have s1 := he.cell hr0
        go_simp
        first | done | with_reducible rfl
      try simp only [Act.put, List.setIfInBounds_toArray, List.set_cons_zero, List.set_cons_succ]
      refine takeT 5 ?v5_6 rfl (by kernel_rfl) (fun _ _ _ h => h) rfl hS ?hy5_6 ?hk5_6
      case hy5_6 =>
        rintro w' he
        go_simp
        first | done | with_reducible rfl
      try simp only [Act.put, List.setIfInBounds_toArray, List.set_cons_zero, List.set_cons_succ]
      refine takeT 6 ?v6_7 rfl (by kernel_rfl) (fun _ _ _ h => h) rfl hS ?hy6_7 ?hk6_7
      case hy6_7 =>
        rintro w' he
        go_simp
        first | done | with_reducible rfl
      try simp only [Act.put, List.setIfInBounds_toArray, List.set_cons_zero, List.set_cons_succ]
      refine takeT 7 ?v7_8 rfl (by kernel_rfl) (fun _ _ _ h => h) rfl hS ?hy7_8 ?hk7_8
      case hy7_8 =>
        rintro w' he
        go_simp
        first | done | with_reducible rfl
      try simp only [Act.put, List.setIfInBounds_toArray, List.set_cons_zero, List.set_cons_succ]
      refine takeT 8 ?v8_9 rfl (by kernel_rfl) (fun _ _ _ h => h) rfl hS ?hy8_9 ?hk8_9
      case hy8_9 =>
        rintro w' he
        go_simp
        first | done | with_reducible rfl
      try simp only [Act.put, List.setIfInBounds_toArray, List.set_cons_zero, List.set_cons_succ]
      refine takeT 9 ?v9_10 rfl (by kernel_rfl) (fun _ _ _ h => h) rfl hS ?hy9_10 ?hk9_10
      case hy9_10 =>
        rintro w' he 
        have s1 := he.cell ht0
        go_simp
        first | done | with_reducible rfl
      try simp only [Act.put, List.setIfInBounds_toArray, List.set_cons_zero, List.set_cons_succ]
      refine takeT 10 (.bool false) rfl (by kernel_rfl) (fun _ _ _ h => h) rfl hS ?hyk1 ?hkk1
      case hyk1 =>
        rintro w' he
        go_simp
        first | done | with_reducible rfl
      try simp only [Act.put, List.setIfInBounds_toArray, List.set_cons_zero, List.set_cons_succ]
      refine takeT 11 ?v11_11 rfl (by kernel_rfl) (fun _ _ _ h => h) rfl hS ?hy11_11 ?hk11_11
      case hy11_11 =>
        rintro w' he
        go_simp
        first | done | with_reducible rfl
      try simp only [Act.put, List.setIfInBounds_toArray, List.set_cons_zero, List.set_cons_succ]
      refine takeG 12 ?v12_12 rfl (by kernel_rfl) (fun _ _ _ h => h) (by rfl) hS ?hy12_12 ?hk12_12
      case hy12_12 =>
        rintro w' he
        go_simp
        first | done | with_reducible rfl
      try simp only [Act.put, List.setIfInBounds_toArray, List.set_cons_zero, List.set_cons_succ]
      refine takeG 13 ?v13_13 rfl (by kernel_rfl) (fun _ _ _ h => h) (by rfl) hS ?hy13_13 ?hk13_13
      case hy13_13 =>
        rintro w' he
        go_simp
        first | done | with_reducible rfl
      try simp only [Act.put, List.setIfInBounds_toArray, List.set_cons_zero, List.set_cons_succ]
      refine takeG 14 ?v14_14 rfl (by kernel_rfl) (fun _ _ _ h => h) (by rfl) hS ?hy14_14 ?hk14_14
      case hy14_14 =>
        rintro w' he
        go_simp
        first | done | with_reducible rfl
      try simp only [Act.put, List.setIfInBounds_toArray, List.set_cons_zero, List.set_cons_succ]
      refine takeG 15 ?v15_15 rfl (by kernel_rfl) (fun _ _ _ h => h) (by rfl) hS ?hy15_15 ?hk15_15
      case hy15_15 =>
        rintro w' he
        go_simp
        first | done | with_reducible rfl
      try simp only [Act.put, List.setIfInBounds_toArray, List.set_cons_zero, List.set_cons_succ]
      refine takeG 16 ?v16_16 rfl (by kernel_rfl) (fun _ _ _ h => h) (by rfl) hS ?hy16_16 ?hk16_16
      case hy16_16 =>
        rintro w' he 
        have s1 := he.cell hr1
        go_simp
        first | done | with_reducible rfl
      try simp only [Act.put, List.setIfInBounds_toArray, List.set_cons_zero, List.set_cons_succ]
      refine takeG 17 ?v17_17 rfl (by kernel_rfl) (fun _ _ _ h => h) (by rfl) hS ?hy17_17 ?hk17_17
      case hy17_17 =>
        rintro w' he
        go_simp
        first | done | with_reducible rfl
      try simp only [Act.put, List.setIfInBounds_toArray, List.set_cons_zero, List.set_cons_succ]
      refine takeG 18 ?v18_18 rfl (by kernel_rfl) (fun _ _ _ h => h) (by rfl) hS ?hy18_18 ?hk18_18
      case hy18_18 =>
        rintro w' he
        go_simp
        first | done | with_reducible rfl
      try simp only [Act.put, List.setIfInBounds_toArray, List.set_cons_zero, List.set_cons_succ]
      refine takeG 19 ?v19_19 rfl (by kernel_rfl) (fun _ _ _ h => h) (by rfl) hS ?hy19_19 ?hk19_19
      case hy19_19 =>
        rintro w' he
        go_simp
        first | done | with_reducible rfl
      try simp only [Act.put, List.setIfInBounds_toArray, List.set_cons_zero, List.set_cons_succ]
      refine takeG 20 ?v20_20 rfl (by kernel_rfl) (fun _ _ _ h => h) (by rfl) hS ?hy20_20 ?hk20_20
      case hy20_20 =>
        rintro w' he
        go_simp
        first | done | with_reducible rfl
      try simp only [Act.put, List.setIfInBounds_toArray, List.set_cons_zero, List.set_cons_succ]
      refine takeG 21 ?v21_21 rfl (by kernel_rfl) (fun _ _ _ h => h) (by rfl) hS ?hy21_21 ?hk21_21
      case hy21_21 =>
        rintro w' he 
        have s1 := he.cell ht1
        go_simp
        first | done | with_reducible rfl
      try simp only [Act.put, List.setIfInBounds_toArray, List.set_cons_zero, List.set_cons_succ]
      refine takeG 22 (.bool false) rfl (by kernel_rfl) (fun _ _ _ h => h) (by rfl) hS ?hyk2 ?hkk2
      case hyk2 =>
        rintro w' he
        go_simp
        first | done | with_reducible rfl
      try simp only [Act.put, List.setIfInBounds_toArray, List.set_cons_zero, List.set_cons_succ]
      refine takeT 23 ?v23_22 rfl (by kernel_rfl) (fun _ _ _ h => h) rfl hS ?hy23_22 ?hk23_22
      case hy23_22 =>
        rintro w' he
        go_simp
        first | done | with_reducible rfl
      try simp only [Act.put, List.setIfInBounds_toArray, List.set_cons_zero, List.set_cons_succ]
      refine takeT 24 ?v24_23 rfl (by kernel_rfl) (fun _ _ _ h => h) rfl hS ?hy24_23 ?hk24_23
      case hy24_23 =>
        rintro w' he
        go_simp
        first | done | with_reducible rfl
      try simp only [Act.put, List.setIfInBounds_toArray, List.set_cons_zero, List.set_cons_succ]
      refine takeG 25 ?v25_24 rfl (by kernel_rfl) (fun _ _ _ h => h) (by rfl) hS ?hy25_24 ?hk25_24
      case hy25_24 =>
        rintro w' he
        go_simp
        first | done | with_reducible rfl
      try simp only [Act.put, List.setIfInBounds_toArray, List.set_cons_zero, List.set_cons_succ]
      refine takeG 26 ?v26_25 rfl (by kernel_rfl) (fun _ _ _ h => h) (by rfl) hS ?hy26_25 ?hk26_25
      case hy26_25 =>
        rintro w' he
        go_simp
        first | done | with_reducible rfl
      try simp only [Act.put, List.setIfInBounds_toArray, List.set_cons_zero, List.set_cons_succ]
      refine takeG 27 ?v27_26 rfl (by kernel_rfl) (fun _ _ _ h => h) (by rfl) hS ?hy27_26 ?hk27_26
      case hy27_26 =>
        rintro w' he
        go_simp
        first | done | with_reducible rfl
      try simp only [Act.put, List.setIfInBounds_toArray, List.set_cons_zero, List.set_cons_succ]
      refine takeG 28 ?v28_27 rfl (by kernel_rfl) (fun _ _ _ h => h) (by rfl) hS ?hy28_27 ?hk28_27
      case hy28_27 =>
        rintro w' he
        go_simp
        first | done | with_reducible rfl
      try simp only [Act.put, List.setIfInBounds_toArray, List.set_cons_zero, List.set_cons_succ]
      refine takeG 29 ?v29_28 rfl (by kernel_rfl) (fun _ _ _ h => h) (by rfl) hS ?hy29_28 ?hk29_28
      case hy29_28 =>
        rintro w' he 
        have s1 := he.cell hr2
        have s2 := he.cell hr3
        have s3 := he.cell hr4
        go_simp
        first | done | with_reducible rfl
      try simp only [Act.put, List.setIfInBounds_toArray, List.set_cons_zero, List.set_cons_succ]
      refine takeG 30 ?v30_29 rfl (by kernel_rfl) (fun _ _ _ h => h) (by rfl) hS ?hy30_29 ?hk30_29
      case hy30_29 =>
        rintro w' he
        go_simp
        first | done | with_reducible rfl
      try simp only [Act.put, List.setIfInBounds_toArray, List.set_cons_zero, List.set_cons_succ]
      refine takeG 31 ?v31_30 rfl (by kernel_rfl) (fun _ _ _ h => h) (by rfl) hS ?hy31_30 ?hk31_30
      case hy31_30 =>
        rintro w' he
        go_simp
        first | done | with_reducible rfl
      try simp only [Act.put, List.setIfInBounds_toArray, List.set_cons_zero, List.set_cons_succ]
      refine takeG 32 ?v32_31 rfl (by kernel_rfl) (fun _ _ _ h => h) (by rfl) hS ?hy32_31 ?hk32_31
      case hy32_31 =>
        rintro w' he
        go_simp
        first | done | with_reducible rfl
      try simp only [Act.put, List.setIfInBounds_toArray, List.set_cons_zero, List.set_cons_succ]
      refine takeG 33 ?v33_32 rfl (by kernel_rfl) (fun _ _ _ h => h) (by rfl) hS ?hy33_32 ?hk33_32
      case hy33_32 =>
        rintro w' he
        go_simp
        first | done | with_reducible rfl
      try simp only [Act.put, List.setIfInBounds_toArray, List.set_cons_zero, List.set_cons_succ]
      refine takeG 34 ?v34_33 rfl (by kernel_rfl) (fun _ _ _ h => h) (by rfl) hS ?hy34_33 ?hk34_33
      case hy34_33 =>
        rintro w' he 
        have s1 := he.cell ht2
        have s2 := he.cell ht3
        have s3 := he.cell ht4
        go_simp
        first | done | with_reducible rfl
      try simp only [Act.put, List.setIfInBounds_toArray, List.set_cons_zero, List.set_cons_succ]
      refine oneG 35 rfl (by kernel_rfl) (by rfl) fun K hK => ?_
      go_simp
      refine (same_file_eq _ _ o wr.drew ⟨_, _, rfl, hf1⟩ ⟨_, _, rfl, hg1⟩).mono ?_
      rintro e w3 ⟨rfl, hx3⟩
      refine hK _ _ (fun _ => hx3) ?_
      clear hK K hS
      have hS := hx3
      try simp only [Act.put, List.setIfInBounds_toArray, List.set_cons_zero, List.set_cons_succ]
      refine takeG 36 ?v36_34 rfl (by kernel_rfl) (fun _ _ _ h => h) (by rfl) hS ?hy36_34 ?hk36_34
      case hy36_34 =>
        rintro w' he
        go_simp
        first | done | with_reducible rfl
      try simp only [Act.put, List.setIfInBounds_toArray, List.set_cons_zero, List.set_cons_succ]
      refine takeT 37 ?v37_35 rfl (by kernel_rfl) (fun _ _ _ h => h) rfl hS ?hy37_35 ?hk37_35
      case hy37_35 =>
        rintro w' he
        go_simp
        first | done | with_reducible rfl
      try simp only [Act.put, List.setIfInBounds_toArray, List.set_cons_zero, List.set_cons_succ]
      refine takeT 38 ?v38_36 rfl (by kernel_rfl) (fun _ _ _ h => h) rfl hS ?hy38_36 ?hk38_36
      case hy38_36 =>
        rintro w' he
        go_simp
        first | done | with_reducible rfl
      try simp only [Act.put, List.setIfInBounds_toArray, List.set_cons_zero, List.set_cons_succ]
      refine takeG 39 ?v39_37 rfl (by kernel_rfl) (fun _ _ _ h => h) (by rfl) hS ?hy39_37 ?hk39_37
      case hy39_37 =>
        rintro w' he
        go_simp
        first | done | with_reducible rfl
      try simp only [Act.put, List.setIfInBounds_toArray, List.set_cons_zero, List.set_cons_succ]
      refine takeG 40 ?v40_38 rfl (by kernel_rfl) (fun _ _ _ h => h) (by rfl) hS ?hy40_38 ?hk40_38
      case hy40_38 =>
        rintro w' he
        go_simp
        first | done | with_reducible rfl
      try simp only [Act.put, List.setIfInBounds_toArray, List.set_cons_zero, List.set_cons_succ]
      refine takeG 41 ?v41_39 rfl (by kernel_rfl) (fun _ _ _ h => h) (by rfl) hS ?hy41_39 ?hk41_39
      case hy41_39 =>
        rintro w' he
        go_simp
        first | done | with_reducible rfl
      try simp only [Act.put, List.setIfInBounds_toArray, List.set_cons_zero, List.set_cons_succ]
      refine takeG 42 ?v42_40 rfl (by kernel_rfl) (fun _ _ _ h => h) (by rfl) hS ?hy42_40 ?hk42_40
      case hy42_40 =>
        rintro w' he
        go_simp
        first | done | with_reducible rfl
      try simp only [Act.put, List.setIfInBounds_toArray, List.set_cons_zero, List.set_cons_succ]
      refine takeG 43 ?v43_41 rfl (by kernel_rfl) (fun _ _ _ h => h) (by rfl) hS ?hy43_41 ?hk43_41
      case hy43_41 =>
        rintro w' he 
        have s1 := he.cell hr5
        have s2 := he.cell hr6
        have s3 := he.cell hr7
        go_simp
        first | done | with_reducible rfl
      try simp only [Act.put, List.setIfInBounds_toArray, List.set_cons_zero, List.set_cons_succ]
      refine takeG 44 ?v44_42 rfl (by kernel_rfl) (fun _ _ _ h => h) (by rfl) hS ?hy44_42 ?hk44_42
      case hy44_42 =>
        rintro w' he
        go_simp
        first | done | with_reducible rfl
      try simp only [Act.put, List.setIfInBounds_toArray, List.set_cons_zero, List.set_cons_succ]
      refine takeG 45 ?v45_43 rfl (by kernel_rfl) (fun _ _ _ h => h) (by rfl) hS ?hy45_43 ?hk45_43
      case hy45_43 =>
        rintro w' he
        go_simp
        first | done | with_reducible rfl
      try simp only [Act.put, List.setIfInBounds_toArray, List.set_cons_zero, List.set_cons_succ]
      refine takeG 46 ?v46_44 rfl (by kernel_rfl) (fun _ _ _ h => h) (by rfl) hS ?hy46_44 ?hk46_44
      case hy46_44 =>
        rintro w' he
        go_simp
        first | done | with_reducible rfl
      try simp only [Act.put, List.setIfInBounds_toArray, List.set_cons_zero, List.set_cons_succ]
      refine takeG 47 ?v47_45 rfl (by kernel_rfl) (fun _ _ _ h => h) (by rfl) hS ?hy47_45 ?hk47_45
      case hy47_45 =>
        rintro w' he
        go_simp
        first | done | with_reducible rfl
      try simp only [Act.put, List.setIfInBounds_toArray, List.set_cons_zero, List.set_cons_succ]
      refine takeG 48 ?v48_46 rfl (by kernel_rfl) (fun _ _ _ h => h) (by rfl) hS ?hy48_46 ?hk48_46
      case hy48_46 =>
        rintro w' he 
        have s1 := he.cell ht5
        have s2 := he.cell ht6
        have s3 := he.cell ht7
        go_simp
        first | done | with_reducible rfl
      try simp only [Act.put, List.setIfInBounds_toArray, List.set_cons_zero, List.set_cons_succ]
      refine oneG 49 rfl (by kernel_rfl) (by rfl) fun K hK => ?_
      go_simp
      refine (same_file_eq _ _ n w3 ⟨_, _, rfl, hf2.ext hx3⟩ ⟨_, _, rfl, hg2.ext hx3⟩).mono ?_
      rintro e w4 ⟨rfl, hx4⟩
      replace hx4 := hx3.trans hx4
      refine hK _ _ (fun _ => hx4) ?_
      clear hK K hS
      have hS := hx4
      try simp only [Act.put, List.setIfInBounds_toArray, List.set_cons_zero, List.set_cons_succ]
      refine takeG 50 ?v50_47 rfl (by kernel_rfl) (fun _ _ _ h => h) (by rfl) hS ?hy50_47 ?hk50_47
      case hy50_47 =>
        rintro w' he
        go_simp
        first | done | with_reducible rfl
      try simp only [Act.put, List.setIfInBounds_toArray, List.set_cons_zero, List.set_cons_succ]
      refine takeT 51 ?v51_48 rfl (by kernel_rfl) (fun _ _ _ h => h) rfl hS ?hy51_48 ?hk51_48
      case hy51_48 =>
        rintro w' he
        go_simp
        first | done | with_reducible rfl
      try simp only [Act.put, List.setIfInBounds_toArray, List.set_cons_zero, List.set_cons_succ]
      refine doneT (by kernel_rfl) ?_ _
      clear hS hx3
      replace hx4 := hxd.trans hx4
      clear hr0 hr1 hr2 hr3 hr4 hr5 hr6 hr7 hf1 hf2 ht0 ht1 ht2 ht3 ht4 ht5 ht6 ht7 hg1 hg2 hxd
      go_wp2_with fail
      go_roundg (gk - 1)
      case measure => omega
      case rel => exact ⟨i' + 1, by go_num, by omega, by omega, hx.trans hx4⟩
    · obtain rfl : i' = cs.length := by omega
      go_wp2_with fail
      go_ret
      exact ⟨rfl, hx⟩
end Go.Proofs.YtcjokhhcncimdaaDoor
