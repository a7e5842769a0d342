/- The walks of the reference: Few, SameFile, Same. -/
import Derived.Test.YtcjokhhcncimdaaDoorRows
import Derived.Test.YtcjokhhcncimdaaDoorMem
set_option linter.unusedSimpArgs false
set_option linter.unusedVariables false
namespace Go.Proofs.YtcjokhhcncimdaaDoor
open Go.RowKit Go.PF Go.Tr

theorem few_any (A : Option Addr) (cap : Nat) (l : List FileV) (w : World) (hn : l.length ≤ maxLen) (hB : RdL w A l) :
    Calls Tryd.prog 11 #[.slice A l.length cap] w fun e w' => e = .returned (.bool (few l)) ∧ w = w' := by
  have HB := Lib.hid hB; clear hB
  unfold maxLen at hn
  rcases Nat.lt_or_ge 30 l.length with hgt | hle
  · have hF : few l = false := by unfold few; rw [decide_eq_false (by omega)]; rfl
    rw [hF]; clear hF
    go_enter Tryd.func11, Tryd.ntmps11
    go_wp2
    go_ret
    exact ⟨rfl, rfl⟩
  · have HF : Hid (few l = l.all fewF) := by unfold few; rw [decide_eq_true hle]; rfl
    go_enter Tryd.func11, Tryd.ntmps11
    go_wp2
    go_loopg [3] 31 (fun f i wr => ∃ (i' : Nat), i = .int .i64 i' ∧ i' ≤ l.length ∧ 31 ≤ i' + f ∧ Hid ((l.take i').all fewF = true) ∧ wr = w)
    case atStart => exact ⟨0, rfl, by omega, by omega, rfl, rfl⟩
    case round =>
      obtain ⟨i', rfl, h1, h2, HA, rfl⟩ := hrel
      by_cases hlt : i' < l.length
      · obtain ⟨b, off, F, c, rfl, hc0, hc1, hc2, hfr⟩ := HB.out.at_ (List.getElem?_eq_getElem hlt)
        have HX := Lib.hid (List.getElem?_eq_getElem hlt)
        generalize l[i'] = f at *
        go_wp2
        · have hp : fewF f = false := by unfold fewF; simp; omega
          go_ret
          exact ⟨by rw [HF.out, all_stop HX.out hp]; rfl, rfl⟩
        · have hp : fewF f = true := by unfold fewF; simp; omega
          go_roundg (gk - 1)
          case measure => omega
          case rel => exact ⟨i' + 1, by go_num, by omega, by omega, all_succ HA.out HX.out hp, rfl⟩
        · have hp : fewF f = false := by unfold fewF; simp; omega
          go_ret
          exact ⟨by rw [HF.out, all_stop HX.out hp]; rfl, rfl⟩
      · obtain rfl : i' = l.length := by omega
        go_wp2
        go_ret
        exact ⟨by rw [HF.out, all_done HA.out]; rfl, rfl⟩

theorem samefile_any (v1 v2 : Value) (f g : FileV) (w : World) (h1 : FileIs w v1 f) (h2 : FileIs w v2 g) :
    Calls Tryd.prog 28 #[v1, v2] w fun e w' => e = .returned (.bool (decide (f = g))) ∧ Ext w w' := by
  obtain ⟨F1, c1, rfl, hF1⟩ := h1
  obtain ⟨F2, c2, rfl, hF2⟩ := h2
  obtain ⟨p1, n1, l1⟩ := f
  obtain ⟨p2, n2, l2⟩ := g
  dsimp only at *
  go_enter Tryd.func28, Tryd.ntmps28
  go_wp2
  · rename_i hn
    have hn : ¬ l1 = l2 := by rintro rfl; simp at hn
    go_ret
    exact ⟨by rw [ne_frags hn]; rfl, ext_alloc2 _ _ _⟩
  · rename_i hp hl hn _ _
    have HP := Lib.hid hp; clear hp
    have HL := Lib.hid hl; clear hl
    have hn : l1.length = l2.length := by simp at hn; omega
    obtain ⟨hb1, hb2⟩ := heap2 w (.cells #[.string p1, .int .i64 n2, .slice F1 l1.length c1] 46) (.cells #[.string p2, .int .i64 n2, .slice F2 l2.length c2] 46)
    have hx := ext_alloc2 w (.cells #[.string p1, .int .i64 n2, .slice F1 l1.length c1] 46) (.cells #[.string p2, .int .i64 n2, .slice F2 l2.length c2] 46)
    generalize ((w.alloc (.cells #[.string p1, .int .i64 n2, .slice F1 l1.length c1] 46)).alloc (.cells #[.string p2, .int .i64 n2, .slice F2 l2.length c2] 46)) = W at *
    have hc1 := cell_blk hb1 2
    have hc2 := cell_blk hb2 2
    simp only [List.getElem?_toArray, List.getElem?_cons_succ, List.getElem?_cons_zero] at hc1 hc2
    have HF1 := Lib.hid (hF1.ext hx); have HF2 := Lib.hid (hF2.ext hx)
    clear hb1 hb2 hF1 hF2
    have hlen := HF1.out.le
    have hmax := HF1.out.max
    unfold maxLen at hmax
    go_loopg [5] (l1.length + 1) (fun f i wr => ∃ (i' m : Nat), i = .int .i64 i' ∧ i' ≤ l1.length ∧ l1.length + 1 ≤ i' + f ∧ Hid (l1.take i' = l2.take i') ∧ wr = W.drewN m)
    case atStart => exact ⟨0, 0, rfl, by omega, by omega, rfl, rfl⟩
    case round =>
      obtain ⟨i', m, rfl, h1, h2, HA, rfl⟩ := hrel
      by_cases hlt : i' < l1.length
      · have hlt2 : i' < l2.length := by omega
        obtain ⟨x1, hx1⟩ : ∃ x, l1[i']? = some x := ⟨_, List.getElem?_eq_getElem hlt⟩
        obtain ⟨x2, hx2⟩ : ∃ x, l2[i']? = some x := ⟨_, List.getElem?_eq_getElem hlt2⟩
        obtain ⟨b1, o1, rfl, hr1⟩ := HF1.out.rd.at_ (by omega)
        obtain ⟨b2, o2, rfl, hr2⟩ := HF2.out.rd.at_ (by omega)
        replace hr1 := hr1 i' hlt
        replace hr2 := hr2 i' hlt2
        rw [hx1] at hr1
        rw [hx2] at hr2
        simp only [Option.getD_some] at hr1 hr2
        have HX1 := Lib.hid hx1; have HX2 := Lib.hid hx2; clear hx1 hx2
        go_wp2_with fail
        go_quiet (fail)
        go_wp2_with fail
        · rename_i hne
          have hne : ¬ x1 = x2 := by simpa using hne
          go_ret
          exact ⟨by rw [ne_frags (ne_at HX1.out HX2.out hne)]; rfl, (hx.drewN _).drewN _⟩
        · have hne : x1 = x2 := by simpa using (by assumption : (x1 != x2) = false)
          subst hne
          go_roundg (gk - 1)
          case measure => omega
          case rel => exact ⟨i' + 1, _, by go_num, by omega, by omega, take_eq_succ HA.out HX1.out HX2.out, rfl⟩
      · go_wp2_with fail
        go_ret
        exact ⟨by rw [eq_all HP.out HL.out (take_eq_done HA.out (by omega) (by omega))]; rfl, hx.drewN _⟩
  · rename_i hn
    go_ret
    exact ⟨by rw [ne_len hn]; rfl, ext_alloc2 _ _ _⟩
  · rename_i hn
    go_ret
    exact ⟨by rw [ne_path hn]; rfl, ext_alloc2 _ _ _⟩

theorem same_any (A1 A2 : Option Addr) (c1 c2 : Nat) (l m : List FileV) (w : World) (hl : l.length ≤ maxLen) (hm : m.length ≤ maxLen) (h1 : RdL w A1 l) (h2 : RdL w A2 m) :
    Calls Tryd.prog 15 #[.slice A1 l.length c1, .slice A2 m.length c2] w fun e w' => e = .returned (.bool (decide (l = m))) ∧ Ext w w' := by
  unfold maxLen at hl hm
  have H1 := Lib.hid h1; have H2 := Lib.hid h2; clear h1 h2
  by_cases hn : l.length = m.length
  · rw [← hn] at hm ⊢
    have hM := hn.symm
    clear hn
    generalize hL : l.length = n at *
    go_enter Tryd.func15, Tryd.ntmps15
    go_wp2_with fail
    go_loopg [5] (n + 1) (fun f i wr => ∃ (i' : Nat), i = .int .i64 i' ∧ i' ≤ n ∧ n + 1 ≤ i' + f ∧ Hid (l.take i' = m.take i') ∧ Ext w wr)
    case atStart => exact ⟨0, rfl, by omega, by omega, rfl, Ext.refl _⟩
    case round =>
      obtain ⟨i', rfl, h1, h2, HA, hx⟩ := hrel
      by_cases hlt : i' < n
      · obtain ⟨f, hf⟩ : ∃ x, l[i']? = some x := ⟨_, List.getElem?_eq_getElem (by omega)⟩
        obtain ⟨g, hg⟩ : ∃ x, m[i']? = some x := ⟨_, List.getElem?_eq_getElem (by omega)⟩
        obtain ⟨b1, o1, F1, k1, rfl, hr1, hr2, hr3, hr4⟩ := (H1.out.ext hx).at_ hf
        obtain ⟨b2, o2, F2, k2, rfl, ht1, ht2, ht3, ht4⟩ := (H2.out.ext hx).at_ hg
        have HX1 := Lib.hid hf; have HX2 := Lib.hid hg; clear hf hg
        go_wp2_with fail
        refine wp_region_T (fun W => Ext wr W) [] (by kernel_rfl) ?_
        have hS : Ext wr wr.drew := (Below.refl _ _).drew
        refine takeT 0 ?v0_1 rfl (by kernel_rfl) (fun _ _ _ h => h) rfl hS ?hy0_1 ?hk0_1
        case hy0_1 =>
          rintro w' he 
          have s1 := he.cell hr1
          have s2 := he.cell hr2
          have s3 := he.cell hr3
          have t1 := he.cell ht1
          have t2 := he.cell ht2
          have t3 := he.cell ht3
          go_simp
          first | done | with_reducible rfl
        try simp only [Act.put, List.setIfInBounds_toArray, List.set_cons_zero, List.set_cons_succ]
        refine takeT 1 ?v1_2 rfl (by kernel_rfl) (fun _ _ _ h => h) rfl hS ?hy1_2 ?hk1_2
        case hy1_2 =>
          rintro w' he 
          have s1 := he.cell hr1
          have s2 := he.cell hr2
          have s3 := he.cell hr3
          have t1 := he.cell ht1
          have t2 := he.cell ht2
          have t3 := he.cell ht3
          go_simp
          first | done | with_reducible rfl
        try simp only [Act.put, List.setIfInBounds_toArray, List.set_cons_zero, List.set_cons_succ]
        refine takeT 2 ?v2_3 rfl (by kernel_rfl) (fun _ _ _ h => h) rfl hS ?hy2_3 ?hk2_3
        case hy2_3 =>
          rintro w' he 
          have s1 := he.cell hr1
          have s2 := he.cell hr2
          have s3 := he.cell hr3
          have t1 := he.cell ht1
          have t2 := he.cell ht2
          have t3 := he.cell ht3
          go_simp
          first | done | with_reducible rfl
        try simp only [Act.put, List.setIfInBounds_toArray, List.set_cons_zero, List.set_cons_succ]
        refine takeT 3 ?v3_4 rfl (by kernel_rfl) (fun _ _ _ h => h) rfl hS ?hy3_4 ?hk3_4
        case hy3_4 =>
          rintro w' he 
          have s1 := he.cell hr1
          have s2 := he.cell hr2
          have s3 := he.cell hr3
          have t1 := he.cell ht1
          have t2 := he.cell ht2
          have t3 := he.cell ht3
          go_simp
          first | done | with_reducible rfl
        try simp only [Act.put, List.setIfInBounds_toArray, List.set_cons_zero, List.set_cons_succ]
        refine takeT 4 ?v4_5 rfl (by kernel_rfl) (fun _ _ _ h => h) rfl hS ?hy4_5 ?hk4_5
        case hy4_5 =>
          rintro w' he 
          have s1 := he.cell hr1
          have s2 := he.cell hr2
          have s3 := he.cell hr3
          have t1 := he.cell ht1
          have t2 := he.cell ht2
          have t3 := he.cell ht3
          go_simp
          first | done | with_reducible rfl
        try simp only [Act.put, List.setIfInBounds_toArray, List.set_cons_zero, List.set_cons_succ]
        refine takeT 5 ?v5_6 rfl (by kernel_rfl) (fun _ _ _ h => h) rfl hS ?hy5_6 ?hk5_6
        case hy5_6 =>
          rintro w' he 
          have s1 := he.cell hr1
          have s2 := he.cell hr2
          have s3 := he.cell hr3
          have t1 := he.cell ht1
          have t2 := he.cell ht2
          have t3 := he.cell ht3
          go_simp
          first | done | with_reducible rfl
        try simp only [Act.put, List.setIfInBounds_toArray, List.set_cons_zero, List.set_cons_succ]
        refine takeT 6 ?v6_7 rfl (by kernel_rfl) (fun _ _ _ h => h) rfl hS ?hy6_7 ?hk6_7
        case hy6_7 =>
          rintro w' he 
          have s1 := he.cell hr1
          have s2 := he.cell hr2
          have s3 := he.cell hr3
          have t1 := he.cell ht1
          have t2 := he.cell ht2
          have t3 := he.cell ht3
          go_simp
          first | done | with_reducible rfl
        try simp only [Act.put, List.setIfInBounds_toArray, List.set_cons_zero, List.set_cons_succ]
        refine takeT 7 ?v7_8 rfl (by kernel_rfl) (fun _ _ _ h => h) rfl hS ?hy7_8 ?hk7_8
        case hy7_8 =>
          rintro w' he 
          have s1 := he.cell hr1
          have s2 := he.cell hr2
          have s3 := he.cell hr3
          have t1 := he.cell ht1
          have t2 := he.cell ht2
          have t3 := he.cell ht3
          go_simp
          first | done | with_reducible rfl
        try simp only [Act.put, List.setIfInBounds_toArray, List.set_cons_zero, List.set_cons_succ]
        refine oneT 8 rfl (by kernel_rfl) rfl fun K hK => ?_
        go_simp
        refine (samefile_any _ _ f g _ ⟨_, _, rfl, hr4.ext hS⟩ ⟨_, _, rfl, ht4.ext hS⟩).mono ?_
        rintro e w1 ⟨rfl, hx1⟩
        have hS1 : Ext wr w1 := hS.trans hx1
        refine hK _ _ (fun _ => hS1) ?_
        refine oneT 9 rfl (by kernel_rfl) rfl fun K hK => ?_
        go_simp
        refine hK _ _ (fun _ => hS1) (doneT (by kernel_rfl) ?_ _)
        by_cases hfg : f = g
        · subst hfg
          go_wp2_with fail
          go_roundg (gk - 1)
          case measure => omega
          case rel => exact ⟨i' + 1, by go_num, by omega, by omega, take_eq_succ HA.out HX1.out HX2.out, hx.trans hS1⟩
        · have hd : decide (f = g) = false := decide_eq_false hfg
          rw [hd]
          go_wp2_with fail
          go_ret
          exact ⟨by rw [decide_eq_false (ne_at HX1.out HX2.out hfg)]; rfl, hx.trans hS1⟩
      · go_wp2_with fail
        go_ret
        exact ⟨by rw [decide_eq_true (take_eq_done HA.out (by omega) (by omega))]; rfl, hx⟩
  · go_enter Tryd.func15, Tryd.ntmps15
    have hn' : ¬ (l.length : Int) = (m.length : Int) := by omega
    go_wp2_with fail
    go_ret
    exact ⟨by rw [decide_eq_false (fun h => hn (by rw [h]))]; rfl, Ext.refl _⟩
end Go.Proofs.YtcjokhhcncimdaaDoor
