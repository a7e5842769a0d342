/- The walk of a tree's check. -/
import Derived.Test.YtcjokhhcncimdaaDoorW6
set_option linter.unusedVariables false
set_option linter.unusedSimpArgs false
namespace Go.Proofs.YtcjokhhcncimdaaDoor
open Go.RowKit Go.PF Go.Tr

theorem tcheck_any (A : Option Addr) (cap : Nat) (l : List FileV) (w : World) (hm : Mx w) (hn : l.length ≤ 1000) (hs : Short l) (hB : RdL w A l) :
    Calls Tryd.prog 22 #[.slice A l.length cap] w fun e w' => e = .returned (.int .i64 (checkE l)) ∧ Ext w w' := by
  have HB := Lib.hid hB; clear hB
  have HS := Lib.hid hs; clear hs
  by_cases hmany : 256 < l.length
  · have HM := Lib.hid (check_many hmany)
    go_enter Tryd.func22, Tryd.ntmps22
    go_wp2_with fail
    go_ret
    exact ⟨by rw [HM.out]; rfl, Ext.refl _⟩
  · have HN := Lib.hid hmany
    have hm2 : l.length ≤ 256 := by omega
    clear hmany
    go_enter Tryd.func22, Tryd.ntmps22
    go_wp2_with fail
    go_loopg [17] 1001 (fun f i wr => ∃ (i' : Nat), i = .int .i64 i' ∧ i' ≤ l.length ∧ 1001 ≤ i' + f ∧ Hid (scanE none l = scanE (prevAt l i') (l.drop i')) ∧ Ext w wr)
    case atStart => exact ⟨0, rfl, by omega, by omega, rfl, Ext.refl _⟩
    case round =>
      obtain ⟨i', rfl, h2, h3, HA, hx⟩ := hrel
      by_cases hlt : i' < l.length
      · obtain ⟨f, hf⟩ : ∃ x, l[i']? = some x := ⟨_, List.getElem?_eq_getElem hlt⟩
        obtain ⟨b, o, F, k, rfl, hr1, hr2, hr3, hr4⟩ := (HB.out.ext hx).at_ hf
        have hsf := HS.out f (List.mem_of_getElem? hf)
        have HX := Lib.hid hf; clear hf
        go_upto_region 6 with (fail)
        have hx1 := ext_alloc1 wr (.cells #[.string f.path, .int .i64 f.len, .slice F f.frags.length k] 46)
        have hb := World.alloc_heap_new wr (.cells #[.string f.path, .int .i64 f.len, .slice F f.frags.length k] 46)
        generalize hB : wr.heap.size = B at *
        generalize wr.alloc (.cells #[.string f.path, .int .i64 f.len, .slice F f.frags.length k] 46) = W at *
        have hc0 := cell_blk hb 0
        have hc1 := cell_blk hb 1
        have hc2 := cell_blk hb 2
        simp only [List.getElem?_toArray, List.getElem?_cons_succ, List.getElem?_cons_zero] at hc0 hc1 hc2
        replace hx := hx.trans hx1
        replace hr4 := hr4.ext hx1
        clear hx1 hb hB hr1 hr2 hr3
        go_wp2_with fail
        refine (tvalid_any _ f W (hm.ext hx) ⟨_, _, rfl, hr4⟩ hsf).mono ?_
        rintro e w1 ⟨rfl, hx1⟩
        by_cases hv : validE f = 0
        · have HV := Lib.hid hv
          rw [hv]
          clear hv
          replace hx := hx.trans hx1
          replace hc0 := hx1.cell hc0
          clear hx1 hr4 hc1 hc2
          rcases Nat.eq_zero_or_pos i' with h0 | h0
          · subst h0
            go_wp2_with fail
            go_roundg (gk - 1)
            case measure => omega
            case rel => exact ⟨1, rfl, by omega, by omega, HA.out.trans (scan_first HX.out HV.out), hx⟩
          · obtain ⟨j, rfl⟩ : ∃ j, i' = j + 1 := ⟨i' - 1, by omega⟩
            obtain ⟨g, hg⟩ : ∃ x, l[j]? = some x := ⟨_, List.getElem?_eq_getElem (by omega)⟩
            obtain ⟨b2, o2, F2, k2, hA, ht1, ht2, ht3, ht4⟩ := (HB.out.ext hx).at_ hg
            cases hA
            have HY := Lib.hid hg; clear hg
            go_wp2_with fail
            refine wp_region_T (fun W => Ext w1 W) [] (by kernel_rfl) ?_
            have hS : Ext w1 w1.drew := (Below.refl _ _).drew
            have hjl : j < l.length := by omega
            have hw : IntKind.i64.wrap (j : Int) = (j : Int) := IntWalk.i64_in _ (by omega)
            refine takeT 0 ?v0_1 rfl (by kernel_rfl) (fun _ _ _ h => h) rfl hS ?hy0_1 ?hk0_1
            case hy0_1 =>
              rintro w' he 
              have s1 := he.cell hc0
              have t1 := he.cell ht1
              have t2 := he.cell ht2
              have t3 := he.cell ht3
              go_simp
              first | done | with_reducible rfl
            try simp only [Act.put, List.setIfInBounds_toArray, List.set_cons_zero, List.set_cons_succ]
            refine takeT 1 ?v1_2 rfl (by kernel_rfl) (fun _ _ _ h => h) rfl hS ?hy1_2 ?hk1_2
            case hy1_2 =>
              rintro w' he 
              have s1 := he.cell hc0
              have t1 := he.cell ht1
              have t2 := he.cell ht2
              have t3 := he.cell ht3
              go_simp
              first | done | with_reducible rfl
            try simp only [Act.put, List.setIfInBounds_toArray, List.set_cons_zero, List.set_cons_succ]
            refine takeT 2 ?v2_3 rfl (by kernel_rfl) (fun _ _ _ h => h) rfl hS ?hy2_3 ?hk2_3
            case hy2_3 =>
              rintro w' he 
              have s1 := he.cell hc0
              have t1 := he.cell ht1
              have t2 := he.cell ht2
              have t3 := he.cell ht3
              go_simp
              first | done | with_reducible rfl
            try simp only [Act.put, List.setIfInBounds_toArray, List.set_cons_zero, List.set_cons_succ]
            refine takeT 3 ?v3_4 rfl (by kernel_rfl) (fun _ _ _ h => h) rfl hS ?hy3_4 ?hk3_4
            case hy3_4 =>
              rintro w' he 
              have s1 := he.cell hc0
              have t1 := he.cell ht1
              have t2 := he.cell ht2
              have t3 := he.cell ht3
              go_simp
              first | done | with_reducible rfl
            try simp only [Act.put, List.setIfInBounds_toArray, List.set_cons_zero, List.set_cons_succ]
            refine takeT 4 ?v4_5 rfl (by kernel_rfl) (fun _ _ _ h => h) rfl hS ?hy4_5 ?hk4_5
            case hy4_5 =>
              rintro w' he 
              have s1 := he.cell hc0
              have t1 := he.cell ht1
              have t2 := he.cell ht2
              have t3 := he.cell ht3
              go_simp
              first | done | with_reducible rfl
            try simp only [Act.put, List.setIfInBounds_toArray, List.set_cons_zero, List.set_cons_succ]
            refine takeT 5 ?v5_6 rfl (by kernel_rfl) (fun _ _ _ h => h) rfl hS ?hy5_6 ?hk5_6
            case hy5_6 =>
              rintro w' he 
              have s1 := he.cell hc0
              have t1 := he.cell ht1
              have t2 := he.cell ht2
              have t3 := he.cell ht3
              go_simp
              first | done | with_reducible rfl
            try simp only [Act.put, List.setIfInBounds_toArray, List.set_cons_zero, List.set_cons_succ]
            refine takeT 6 ?v6_7 rfl (by kernel_rfl) (fun _ _ _ h => h) rfl hS ?hy6_7 ?hk6_7
            case hy6_7 =>
              rintro w' he 
              have s1 := he.cell hc0
              have t1 := he.cell ht1
              have t2 := he.cell ht2
              have t3 := he.cell ht3
              go_simp
              first | done | with_reducible rfl
            try simp only [Act.put, List.setIfInBounds_toArray, List.set_cons_zero, List.set_cons_succ]
            refine oneT 7 rfl (by kernel_rfl) rfl fun K hK => ?_
            go_simp
            refine (compare_any _ g f.path _ ⟨_, _, rfl, ht4.ext hS⟩).mono ?_
            rintro e w2 ⟨rfl, hx2⟩
            have hS1 : Ext w1 w2 := hS.trans hx2
            refine hK _ _ (fun _ => hS1) ?_
            refine oneT 8 rfl (by kernel_rfl) rfl fun K hK => ?_
            go_simp
            refine hK _ _ (fun _ => hS1) (doneT (by kernel_rfl) ?_ _)
            clear hc0 ht1 ht2 ht3 ht4
            by_cases hp : f.path = g.path
            · have HT := Lib.hid (HA.out.trans (scan_twice HX.out HY.out HV.out hp))
              have HE := Lib.hid (check_bad HN.out (by rw [HT.out]; decide))
              have q1 : cmpS g.path f.path = 0 := by unfold cmpS; rw [if_neg (by rw [hp, less_irrefl]; simp), if_pos hp.symm]
              rw [q1]
              clear hp q1
              go_wp2_with fail
              go_ret
              exact ⟨by rw [HE.out, HT.out]; rfl, hx.trans hS1⟩
            · by_cases ho : lessB f.path g.path = true
              · have HT := Lib.hid (HA.out.trans (scan_order HX.out HY.out HV.out hp ho))
                have HE := Lib.hid (check_bad HN.out (by rw [HT.out]; decide))
                have q1 : cmpS g.path f.path = 1 := by unfold cmpS; rw [if_neg (by rw [less_asymm ho]; simp), if_neg (fun e => hp e.symm)]
                rw [q1]
                clear hp q1 ho
                go_wp2_with fail
                go_ret
                exact ⟨by rw [HE.out, HT.out]; rfl, hx.trans hS1⟩
              · have ho : lessB f.path g.path = false := by simpa using ho
                have HT := Lib.hid (HA.out.trans (scan_next HX.out HY.out HV.out hp ho))
                have q1 : cmpS g.path f.path = -1 := by
                  unfold cmpS
                  rw [if_pos]
                  cases h : lessB g.path f.path
                  · exact absurd (less_total ho h) hp
                  · rfl
                rw [q1]
                clear hp q1 ho
                go_wp2_with fail
                go_roundg (gk - 1)
                case measure => omega
                case rel => exact ⟨j + 1 + 1, by go_num, by omega, by omega, HT.out, hx.trans hS1⟩
        · have HV := Lib.hid hv
          have HW := Lib.hid (HA.out.trans (scan_bad HX.out hv))
          have HE := Lib.hid (check_bad HN.out (by rw [HW.out]; exact hv))
          have q1 : (validE f == 0) = false := beq_eq_false_iff_ne.2 hv
          go_wp2_with fail
          go_ret
          exact ⟨by rw [HE.out, HW.out]; rfl, hx.trans hx1⟩
      · obtain rfl : i' = l.length := by omega
        have HZ : Hid (scanE none l = 0) := by rw [Hid, HA.out, List.drop_length]; cases prevAt l l.length <;> rfl
        have HE := Lib.hid (check_end HN.out HZ.out)
        have HSR := Lib.hid (scan_srt HZ.out).1
        have HVA := Lib.hid (scan_srt HZ.out).2.2
        clear HA hlt h3 h2
        go_wp2_with fail
        go_loopg [46] 1001 (fun f i wr => ∃ (i' : Nat), i = .int .i64 i' ∧ i' ≤ l.length ∧ 1001 ≤ i' + f ∧ Hid ((l.take i').any (fun f => l.any fun g => dirB f.path g.path) = false) ∧ Ext w wr)
        case atStart => exact ⟨0, rfl, by omega, by omega, rfl, hx⟩
        case round =>
          clear hx
          obtain ⟨i', rfl, h2, h3, HA, hx⟩ := hrel
          by_cases hlt : i' < l.length
          · obtain ⟨f, hf⟩ : ∃ x, l[i']? = some x := ⟨_, List.getElem?_eq_getElem hlt⟩
            obtain ⟨b, o, F, k, rfl, hr1, hr2, hr3, hr4⟩ := (HB.out.ext hx).at_ hf
            have hsf := HS.out f (List.mem_of_getElem? hf)
            have hs2 : f.path.size ≤ 255 := by
              have h0 := HVA.out f (List.mem_of_getElem? hf)
              rcases Nat.lt_or_ge 255 f.path.size with h | h
              · rw [validE_path (pathB_long h)] at h0; cases h0
              · exact h
            have HX := Lib.hid hf; clear hf
            go_upto_region 20 with (fail)
            have hx1 := ext_alloc1 wr (.cells #[.string f.path, .int .i64 f.len, .slice F f.frags.length k] 46)
            replace hx := hx.trans hx1
            generalize wr.alloc (.cells #[.string f.path, .int .i64 f.len, .slice F f.frags.length k] 46) = W at *
            clear hr1 hr2 hr3 hr4 hx1
            have HAP := Lib.hid (apart_search HSR.out f.path)
            have hle := low_le (slash f.path) l
            go_wp2_with fail
            refine (search_any (some ⟨b, o, none⟩) cap l (slash f.path) W hn HSR.out (HB.out.ext hx)).mono ?_
            rintro e w1 ⟨rfl, hx1⟩
            replace hx := hx.trans hx1
            clear hx1
            by_cases hlow : lowI (slash f.path) l < l.length
            · obtain ⟨g, hg⟩ : ∃ x, l[lowI (slash f.path) l]? = some x := ⟨_, List.getElem?_eq_getElem hlow⟩
              obtain ⟨b2, o2, F2, k2, hA, ht1, ht2, ht3, ht4⟩ := (HB.out.ext hx).at_ hg
              cases hA
              have HP : Hid ((l.any fun g => dirB f.path g.path) = Lib.hasPrefix g.path.data.toList (slash f.path).data.toList) := by
                rw [Hid, HAP.out, hg, ← ByteArray.toList_eq, ← ByteArray.toList_eq]; rfl
              clear HAP hg
              generalize hq : lowI (slash f.path) l = q at *
              generalize hd : slash f.path = d at *
              have hd2 : f.path ++ { data := #[47] } = d := hd
              have hd3 := Lib.hid hd
              clear hq hd
              go_wp2_with fail
              refine (Tryd.strings_HasPrefix g.path d _).mono ?_
              rintro e w2 ⟨rfl, rfl⟩
              rw [← HP.out]
              by_cases hany : (l.any fun g => dirB f.path g.path) = true
              · have HZ := Lib.hid (apart_yes (any_stop HX.out hany))
                rw [hany]
                clear hany
                go_wp2_with fail
                go_ret
                exact ⟨by rw [HE.out, HZ.out]; rfl, hx⟩
              · have hany : (l.any fun g => dirB f.path g.path) = false := by simpa only [Bool.not_eq_true] using hany
                have HY := Lib.hid hany
                rw [hany]
                clear hany
                go_wp2_with fail
                go_roundg (gk - 1)
                case measure => omega
                case rel => exact ⟨i' + 1, by go_num, by omega, by omega, any_succ HA.out HX.out HY.out, hx⟩
            · have HY : Hid ((l.any fun g => dirB f.path g.path) = false) := by
                rw [Hid, HAP.out, List.getElem?_eq_none (by omega)]
              clear HAP
              generalize lowI (slash f.path) l = q at *
              go_wp2_with fail
              go_roundg (gk - 1)
              case measure => omega
              case rel => exact ⟨i' + 1, by go_num, by omega, by omega, any_succ HA.out HX.out HY.out, hx⟩
          · obtain rfl : i' = l.length := by omega
            have HY := Lib.hid (apart_no (any_done HA.out))
            go_wp2_with fail
            go_ret
            exact ⟨by rw [HE.out, HY.out]; rfl, hx⟩
end Go.Proofs.YtcjokhhcncimdaaDoor
