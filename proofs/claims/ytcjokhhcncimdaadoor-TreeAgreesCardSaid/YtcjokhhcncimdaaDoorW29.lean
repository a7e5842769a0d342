/- The walk of the tree's patch. -/
import Derived.Test.YtcjokhhcncimdaaDoorW27
import Derived.Test.YtcjokhhcncimdaaDoorG1
set_option linter.unusedVariables false
set_option linter.unusedSimpArgs false
namespace Go.Proofs.YtcjokhhcncimdaaDoor
open Go.RowKit Go.PF Go.Tr

set_option maxRecDepth 100000 in
set_option maxHeartbeats 4000000 in
theorem patch1_any (n0 : Nat) (v vc : Value) (l : List FileV) (ch : ChangeV) (w : World) (ho : OwnL n0 w v l) (hs : Srt l) (hn : l.length ≤ 1000) (hc : ChIs w vc ch) (hsf : ch.new.frags.length * 8 ≤ 140737488355328) (hb0 : n0 ≤ w.heap.size) :
    Calls Tryd.prog 61 #[v, vc] w fun e w' => ∃ v', e = .returned (.tuple #[v', .int .i64 (stepE l ch).2]) ∧ OwnL n0 w' v' (stepE l ch).1 ∧ Below n0 w w' := by
  obtain ⟨F, j, G, k, rfl, hF, hG⟩ := hc
  obtain ⟨kd, p, o, n⟩ := ch
  dsimp only at hF hG hsf ⊢
  have HS := Lib.hid hs; clear hs
  obtain ⟨A, c, rfl, hrd⟩ := ho.rd
  have HO := Lib.hid ho; clear ho
  have hbx := World.alloc_heap_new w (.cells #[.int .i64 kd, .string p, .string o.path, .int .i64 o.len, .slice F o.frags.length j, .string n.path, .int .i64 n.len, .slice G n.frags.length k] 67)
  have hxW := ext_alloc1 w (.cells #[.int .i64 kd, .string p, .string o.path, .int .i64 o.len, .slice F o.frags.length j, .string n.path, .int .i64 n.len, .slice G n.frags.length k] 67)
  go_enter Tryd.func61, Tryd.ntmps61
  go_wp2_with fail
  generalize w.alloc (.cells #[.int .i64 kd, .string p, .string o.path, .int .i64 o.len, .slice F o.frags.length j, .string n.path, .int .i64 n.len, .slice G n.frags.length k] 67) = W at *
  refine (tfits_any _ ⟨kd, p, o, n⟩ W ⟨_, _, _, _, rfl, hF.ext hxW, hG.ext hxW⟩).mono ?_
  rintro e w1 ⟨rfl, hx1⟩
  replace hbx := hx1.blk hbx
  replace hx1 := hxW.trans hx1
  clear hxW
  obtain ⟨c0, c1, c2, c3, c4, c5, c6, c7⟩ := blk8 hbx
  rcases hfit : fitsB ⟨kd, p, o, n⟩ with _ | _
  · have HK := Lib.hid (step_fit (l := l) hfit)
    clear hfit
    go_wp2_with fail
    try simp only [Exit.inBlock, Exit.then]
    refine bodyPost_ret (results_tmp2 rfl _ _ _) rfl ?_
    exact ⟨_, by rw [HK.out]; rfl, by rw [HK.out]; exact OwnL.nil _ _, hx1.mono hb0⟩
  · have HFIT := Lib.hid hfit; clear hfit
    go_wp2_with fail
    refine (search_any A c l p w1 hn HS.out (hrd.ext hx1)).mono ?_
    rintro e w2 ⟨rfl, hx2⟩
    replace hbx := hx2.blk hbx
    replace hx2 := hx1.trans hx2
    clear hx1 c0 c1 c2 c3 c4 c5 c6 c7
    obtain ⟨c0, c1, c2, c3, c4, c5, c6, c7⟩ := blk8 hbx
    by_cases h0 : kd = 0
    · subst h0
      rcases hh : hasB p l with _ | _
      · have HK := Lib.hid (step_put (l := l) HFIT.out (show ¬ (0:Int) = 1 by decide) (.inl ⟨rfl, hh⟩))
        clear hh
        generalize lowI p l = i at *
        go_wp2_with fail
        go_quiet (fail)
        have hx2' := hx2.drewN nq
        go_wp2_with fail
        refine (twith_any n0 _ _ l n _ (HO.out.ext hx2') HS.out hn ⟨_, _, rfl, hG.ext hx2'⟩ hsf (Nat.le_trans hb0 hx2'.size)).mono ?_
        rintro e w3 ⟨v3, rfl, ho3, hb3⟩
        have HO3 := Lib.hid ho3; clear ho3
        go_wp2_with fail
        try simp only [Exit.inBlock, Exit.then]
        refine bodyPost_ret (results_tmp2 rfl _ _ _) rfl ?_
        exact ⟨_, by rw [HK.out]; rfl, by rw [HK.out]; exact HO3.out, Below.trans (hx2'.mono hb0) hb3⟩
      · have HK := Lib.hid (step_twice (l := l) HFIT.out rfl hh)
        clear hh
        generalize lowI p l = i at *
        go_wp2_with fail
        try simp only [Exit.inBlock, Exit.then]
        refine bodyPost_ret (results_tmp2 rfl _ _ _) rfl ?_
        exact ⟨_, by rw [HK.out]; rfl, by rw [HK.out]; exact OwnL.nil _ _, hx2.mono hb0⟩
    · have q0 : (kd == 0) = false := beq_eq_false_iff_ne.2 h0
      have q0' : (kd != 0) = true := by simp [bne, q0]
      rcases hh : hasB p l with _ | _
      · have HK := Lib.hid (step_none (l := l) HFIT.out h0 hh)
        clear hh h0
        generalize lowI p l = i at *
        go_wp2_with fail
        try simp only [Exit.inBlock, Exit.then]
        refine bodyPost_ret (results_tmp2 rfl _ _ _) rfl ?_
        exact ⟨_, by rw [HK.out]; rfl, by rw [HK.out]; exact OwnL.nil _ _, hx2.mono hb0⟩
      · obtain ⟨g, hg, hgp⟩ := has_at hh
        have hlk : (lookE l p).f = g := by rw [look_yes hh hg]
        have HHH := Lib.hid hh
        have HLK := Lib.hid hlk
        have HSO := Lib.hid (strike_old HS.out hh)
        have hlt : lowI p l < l.length := (List.getElem?_eq_some_iff.1 hg).1
        clear hh hlk hgp
        generalize lowI p l = i at *
        have H0 := Lib.hid h0; clear h0
        go_wp2_with fail
        have hxd : Ext w2 w2.drew := (Below.refl _ _).drew
        obtain ⟨b, of, Fg, kg, rfl, hr1, hr2, hr3, hr4⟩ := (hrd.ext hx2).at_ hg
        have cK : w2.drew.cell? ⟨w.heap.size, 0, none⟩ = some (.int .i64 kd) := c0
        have cA : w2.drew.cell? ⟨w.heap.size, 2, none⟩ = some (.string o.path) := c2
        have cB : w2.drew.cell? ⟨w.heap.size, 3, none⟩ = some (.int .i64 o.len) := c3
        have cC : w2.drew.cell? ⟨w.heap.size, 4, none⟩ = some (.slice F o.frags.length j) := c4
        have cD : w2.drew.cell? ⟨b, of + i * 3, none⟩ = some (.string g.path) := hr1
        have cE : w2.drew.cell? ⟨b, of + i * 3 + 1, none⟩ = some (.int .i64 g.len) := hr2
        have cF : w2.drew.cell? ⟨b, of + i * 3 + 2, none⟩ = some (.slice Fg g.frags.length kg) := hr3
        have hS : Ext w2.drew w2.drew := Ext.refl _
        have hbx' := hxd.blk hbx
        have hx2' := hx2.trans hxd
        have HEQ : Hid (decide (g = o) = decide ((lookE l p).f = o)) := by rw [Hid, HLK.out]
        clear c0 c1 c2 c3 c4 c5 c6 c7 hr1 hr2 hr3
        refine wp_region_T (fun W' => Ext w2.drew W') [] (by kernel_rfl) ?_
        refine takeT 0 ?v0_1 rfl (by kernel_rfl) (fun _ _ _ h => h) rfl hS ?hy0_1 ?hk0_1
        case hy0_1 =>
          rintro w' he
          go_simp
          first | done | with_reducible rfl
        try simp only [Act.put, List.setIfInBounds_toArray, List.set_cons_zero, List.set_cons_succ]
        refine takeT 1 ?v1_2 rfl (by kernel_rfl) (fun _ _ _ h => h) rfl hS ?hy1_2 ?hk1_2
        case hy1_2 =>
          rintro w' he 
          have s1 := he.cell cK
          go_simp
          first | done | with_reducible rfl
        try simp only [Act.put, List.setIfInBounds_toArray, List.set_cons_zero, List.set_cons_succ]
        refine takeT 2 (.bool true) rfl (by kernel_rfl) (fun _ _ _ h => h) rfl hS ?hyk ?hkk
        case hyk =>
          rintro w' he
          go_simp
          first | done | with_reducible rfl
        try simp only [Act.put, List.setIfInBounds_toArray, List.set_cons_zero, List.set_cons_succ]
        refine takeT 3 ?v3_3 rfl (by kernel_rfl) (fun _ _ _ h => h) rfl hS ?hy3_3 ?hk3_3
        case hy3_3 =>
          rintro w' he
          go_simp
          first | done | with_reducible rfl
        try simp only [Act.put, List.setIfInBounds_toArray, List.set_cons_zero, List.set_cons_succ]
        refine takeG 4 ?v4_4 rfl (by kernel_rfl) (fun _ _ _ h => h) (by rfl) hS ?hy4_4 ?hk4_4
        case hy4_4 =>
          rintro w' he
          go_simp
          first | done | with_reducible rfl
        try simp only [Act.put, List.setIfInBounds_toArray, List.set_cons_zero, List.set_cons_succ]
        refine takeG 5 ?v5_5 rfl (by kernel_rfl) (fun _ _ _ h => h) (by rfl) hS ?hy5_5 ?hk5_5
        case hy5_5 =>
          rintro w' he
          go_simp
          first | done | with_reducible rfl
        try simp only [Act.put, List.setIfInBounds_toArray, List.set_cons_zero, List.set_cons_succ]
        refine takeG 6 ?v6_6 rfl (by kernel_rfl) (fun _ _ _ h => h) (by rfl) hS ?hy6_6 ?hk6_6
        case hy6_6 =>
          rintro w' he
          go_simp
          first | done | with_reducible rfl
        try simp only [Act.put, List.setIfInBounds_toArray, List.set_cons_zero, List.set_cons_succ]
        refine takeG 7 ?v7_7 rfl (by kernel_rfl) (fun _ _ _ h => h) (by rfl) hS ?hy7_7 ?hk7_7
        case hy7_7 =>
          rintro w' he 
          have s4 := he.cell cD
          have s5 := he.cell cE
          have s6 := he.cell cF
          go_simp
          first | done | with_reducible rfl
        try simp only [Act.put, List.setIfInBounds_toArray, List.set_cons_zero, List.set_cons_succ]
        refine takeG 8 ?v8_8 rfl (by kernel_rfl) (fun _ _ _ h => h) (by rfl) hS ?hy8_8 ?hk8_8
        case hy8_8 =>
          rintro w' he
          go_simp
          first | done | with_reducible rfl
        try simp only [Act.put, List.setIfInBounds_toArray, List.set_cons_zero, List.set_cons_succ]
        refine takeG 9 ?v9_9 rfl (by kernel_rfl) (fun _ _ _ h => h) (by rfl) hS ?hy9_9 ?hk9_9
        case hy9_9 =>
          rintro w' he 
          have s1 := he.cell cA
          have s2 := he.cell cB
          have s3 := he.cell cC
          go_simp
          first | done | with_reducible rfl
        try simp only [Act.put, List.setIfInBounds_toArray, List.set_cons_zero, List.set_cons_succ]
        refine oneG 10 rfl (by kernel_rfl) (by rfl) fun K hK => ?_
        go_simp
        refine (equal_any _ _ g o w2.drew ⟨_, _, rfl, hr4.ext hxd⟩ ⟨_, _, rfl, hF.ext hx2'⟩).mono ?_
        generalize decide (g = o) = bb at *
        rintro e w3 ⟨rfl, hx3⟩
        refine hK _ _ (fun _ => hx3) ?_
        clear hK K hS
        have hS := hx3
        try simp only [Act.put, List.setIfInBounds_toArray, List.set_cons_zero, List.set_cons_succ]
        refine takeG 11 ?v11_10 rfl (by kernel_rfl) (fun _ _ _ h => h) (by rfl) hS ?hy11_10 ?hk11_10
        case hy11_10 =>
          rintro w' he
          go_simp
          first | done | with_reducible rfl
        try simp only [Act.put, List.setIfInBounds_toArray, List.set_cons_zero, List.set_cons_succ]
        refine takeT 12 ?v12_11 rfl (by kernel_rfl) (fun _ _ _ h => h) rfl hS ?hy12_11 ?hk12_11
        case hy12_11 =>
          rintro w' he
          go_simp
          first | done | with_reducible rfl
        try simp only [Act.put, List.setIfInBounds_toArray, List.set_cons_zero, List.set_cons_succ]
        refine takeT 13 ?v13_12 rfl (by kernel_rfl) (fun _ _ _ h => h) rfl hS ?hy13_12 ?hk13_12
        case hy13_12 =>
          rintro w' he
          go_simp
          first | done | with_reducible rfl
        try simp only [Act.put, List.setIfInBounds_toArray, List.set_cons_zero, List.set_cons_succ]
        refine doneT (by kernel_rfl) ?_ _
        replace hbx := hx3.blk hbx'
        replace hx3 := hx2'.trans hx3
        clear hS cK cA cB cC cD cE cF hx2' hbx' hxd hx2
        obtain ⟨c0, c1, c2, c3, c4, c5, c6, c7⟩ := blk8 hbx
        cases bb
        · have HK := Lib.hid (step_other (l := l) HFIT.out H0.out HHH.out (of_decide_eq_false HEQ.out.symm))
          go_wp2_with fail
          try simp only [Exit.inBlock, Exit.then]
          refine bodyPost_ret (results_tmp2 rfl _ _ _) rfl ?_
          exact ⟨_, by rw [HK.out]; rfl, by rw [HK.out]; exact OwnL.nil _ _, hx3.mono hb0⟩
        · have HE := Lib.hid (of_decide_eq_true HEQ.out.symm)
          by_cases h1 : kd = 1
          · have HK := Lib.hid (step_del (l := l) HFIT.out h1 HHH.out HE.out)
            subst h1
            obtain ⟨xs, hro, hok⟩ := HO.out.ext hx3
            have HRO := Lib.hid hro
            have HOK := Lib.hid hok
            clear hro hok
            go_wp2_with fail
            refine (delete_any n0 l.length i _ xs w3 HRO.out HOK.out.cells.onecell hlt).mono ?_
            rintro e w4 ⟨v4, rfl, hro4, hgr, -⟩
            have hok4 : OutOk n0 w4 _ _ := ((HOK.out.cells.take i).append (HOK.out.cells.drop (i + 1))).out.keep3 (keep_grown HRO.out hgr 3 (by decide))
            have hbel := below_grown HRO.out hgr (Nat.le_trans hb0 hx3.size)
            have hlen : (withoutL p l).length = l.length - 1 := by rw [← HSO.out, List.length_append, List.length_take, List.length_drop]; omega
            have hown : OwnL n0 w4 v4 (withoutL p l) := ⟨_, by rw [hlen]; exact hro4, by rw [← HSO.out]; exact hok4⟩
            have HR := Lib.hid hown
            clear hro4 hok4 hown hgr hlen
            go_wp2_with fail
            try simp only [Exit.inBlock, Exit.then]
            refine bodyPost_ret (results_tmp2 rfl _ _ _) rfl ?_
            exact ⟨_, by rw [HK.out]; rfl, by rw [HK.out]; exact HR.out, Below.trans (hx3.mono hb0) hbel⟩
          · have HK := Lib.hid (step_put (l := l) HFIT.out h1 (.inr ⟨H0.out, HHH.out, HE.out⟩))
            have q1 : (kd == 1) = false := beq_eq_false_iff_ne.2 h1
            clear h1
            go_wp2_with fail
            refine (twith_any n0 _ _ l n _ (HO.out.ext hx3) HS.out hn ⟨_, _, rfl, hG.ext hx3⟩ hsf (Nat.le_trans hb0 hx3.size)).mono ?_
            rintro e w4 ⟨v4, rfl, ho4, hb4⟩
            have HO4 := Lib.hid ho4; clear ho4
            go_wp2_with fail
            try simp only [Exit.inBlock, Exit.then]
            refine bodyPost_ret (results_tmp2 rfl _ _ _) rfl ?_
            exact ⟨_, by rw [HK.out]; rfl, by rw [HK.out]; exact HO4.out, Below.trans (hx3.mono hb0) hb4⟩
end Go.Proofs.YtcjokhhcncimdaaDoor
