/- The walk of the reference's Diff. -/
import Derived.Test.YtcjokhhcncimdaaDoorS7
import Derived.Test.YtcjokhhcncimdaaDoorW18
import Derived.Test.YtcjokhhcncimdaaDoorG1
set_option linter.unusedVariables false
set_option linter.unusedSimpArgs false
namespace Go.Proofs.YtcjokhhcncimdaaDoor
open Go.RowKit Go.PF Go.Tr

theorem ch_two {a b : List FileV} {x : ByteArray} {f g : FileV} (h1 : lookE a x = ⟨f, true⟩) (h2 : lookE b x = ⟨g, true⟩) (h : ¬ f = g) : changeAt a b x = some ⟨2, x, f, g⟩ := by
  rw [change_some (by rw [h1, h2]; intro e; exact h (congrArg SideV.f e)), h1, h2]; rfl
theorem ch_one {a b : List FileV} {x : ByteArray} {f g : FileV} (h1 : lookE a x = ⟨f, true⟩) (h2 : lookE b x = ⟨g, false⟩) : changeAt a b x = some ⟨1, x, f, noFile⟩ := by
  have h3 := look_gone b x (by rw [h2])
  rw [change_some (by rw [h1, h2]; intro e; exact Bool.noConfusion (congrArg SideV.there e)), h1, h3]; rfl
theorem ch_new {a b : List FileV} {x : ByteArray} {f g : FileV} (h1 : lookE a x = ⟨f, false⟩) (h2 : lookE b x = ⟨g, true⟩) : changeAt a b x = some ⟨0, x, noFile, g⟩ := by
  have h3 := look_gone a x (by rw [h1])
  rw [change_some (by rw [h1, h2]; intro e; exact Bool.noConfusion (congrArg SideV.there e)), h3, h2]; rfl
theorem ch_same {a b : List FileV} {x : ByteArray} {f g : FileV} {t : Bool} (h1 : lookE a x = ⟨f, t⟩) (h2 : lookE b x = ⟨g, t⟩) (h : f = g) : changeAt a b x = none := change_none (by rw [h1, h2, h])
theorem ch_gone {a b : List FileV} {x : ByteArray} {f g : FileV} (h1 : lookE a x = ⟨f, false⟩) (h2 : lookE b x = ⟨g, false⟩) : changeAt a b x = none := by
  have h3 := look_gone a x (by rw [h1])
  have h4 := look_gone b x (by rw [h2])
  exact change_none (by rw [h3, h4])
theorem diff_next {a b : List FileV} {ps : List ByteArray} {i : Nat} {x : ByteArray} {c : ChangeV} (hx : ps.take (i + 1) = ps.take i ++ [x]) (h : changeAt a b x = some c) : diffL a b (ps.take (i + 1)) = diffL a b (ps.take i) ++ [c] := by rw [hx]; exact diff_snoc_yes h
theorem diff_stay {a b : List FileV} {ps : List ByteArray} {i : Nat} {x : ByteArray} (hx : ps.take (i + 1) = ps.take i ++ [x]) (h : changeAt a b x = none) : diffL a b (ps.take (i + 1)) = diffL a b (ps.take i) := by rw [hx]; exact diff_snoc_no h

set_option maxRecDepth 100000 in
set_option maxHeartbeats 8000000 in
theorem rdiff_any (A B : Option Addr) (ca cb : Nat) (a b : List FileV) (w : World) (h1 : a.length ≤ 400) (h2 : b.length ≤ 400)
    (hs1 : Short a) (hs2 : Short b) (hl1 : Small a) (hl2 : Small b) (hA : RdL w A a) (hB : RdL w B b) :
    Calls Tryd.prog 32 #[.slice A a.length ca, .slice B b.length cb] w fun e w' => ∃ Ao co, e = .returned (.tuple #[.slice Ao (diffE a b).1.length co, .int .i64 (diffE a b).2]) ∧ RdC w' Ao (diffE a b).1 ∧ Ext w w' := by
  have HA := Lib.hid hA; have HB := Lib.hid hB; clear hA hB
  have HS1 := Lib.hid hs1; have HS2 := Lib.hid hs2; clear hs1 hs2
  have HL1 := Lib.hid hl1; have HL2 := Lib.hid hl2; clear hl1 hl2
  obtain ⟨i67, hi67, hz67, hz67', hz67''⟩ := info_parts info67
  have HI := Lib.hid hi67; have HZ0 := Lib.hid hz67; have HZ1 := Lib.hid hz67'; have HZ2 := Lib.hid hz67''
  clear hi67 hz67 hz67' hz67''
  go_enter Tryd.func32, Tryd.ntmps32
  go_wp2_with fail
  refine (rcheck_any A ca a w (by omega) HS1.out HA.out).mono ?_
  rintro e w1 ⟨rfl, hx1⟩
  by_cases hc1 : checkE a = 0
  · rw [hc1]
    have HC1 := Lib.hid hc1; clear hc1
    go_wp2_with fail
    refine (rcheck_any B cb b w1 (by omega) HS2.out (HB.out.ext hx1)).mono ?_
    rintro e w2 ⟨rfl, hx2⟩
    replace hx2 := hx1.trans hx2
    clear hx1
    by_cases hc2 : checkE b = 0
    · rw [hc2]
      have HC2 := Lib.hid hc2; clear hc2
      have HK := Lib.hid (diffE_3 HC1.out HC2.out)
      go_wp2_with fail
      refine (paths_any A B ca cb a b w2 h1 h2 HL1.out HL2.out (HA.out.ext hx2) (HB.out.ext hx2)).mono ?_
      rw [paths_eq (check_srt HC1.out) (check_srt HC2.out)]
      rintro e w4 ⟨vp, rfl, hop, hx4⟩
      obtain ⟨Ap, cp, rfl, -, -, hrp⟩ := own_rd hop
      have HRP : Hid (Rd w4 Ap ((bothL a b).map Value.string)) := hrp
      replace hx4 := hx2.trans hx4
      have hpl : (bothL a b).length ≤ 1000 := by
        have := bothN_len (a.length + b.length) a b
        unfold bothL; omega
      clear hop hrp hx2
      generalize bothL a b = ps at *
      go_wp2_with fail
      go_loopg [8, 10] (ps.length + 1) (fun f out i wr => ∃ (i' : Nat), i = .int .i64 i' ∧ i' ≤ ps.length ∧ ps.length + 1 ≤ i' + f ∧ Hid (OwnC w4.heap.size wr out (diffL a b (ps.take i'))) ∧ Ext w4 wr)
      case atStart => exact ⟨0, rfl, by omega, by omega, OwnC.nil _ _, Ext.refl _⟩
      case round =>
        obtain ⟨i', rfl, e2, e3, HO, hxr⟩ := hrel
        by_cases hlt : i' < ps.length
        · obtain ⟨x, hp⟩ : ∃ x, ps[i']? = some x := ⟨_, List.getElem?_eq_getElem hlt⟩
          obtain ⟨gp, op, rfl, hcp⟩ := Rd.at_ (HRP.out) (k := i') (by simpa using hlt)
          have cP0 : w4.cell? ⟨gp, op + i', none⟩ = some (.string x) := by
            rw [hcp i' (by simpa using hlt)]
            rw [List.getElem?_eq_getElem hlt] at hp
            simp only [Option.some.injEq] at hp
            simp [hp]
          have HTK := Lib.hid (takeQ_succ hp)
          have hdl := diffL_len a b (ps.take i')
          have htl := List.length_take_le i' ps
          have HP0 := Lib.hid cP0
          have cP := hxr.cell cP0
          clear hcp hp cP0
          obtain ⟨⟨f, tf⟩, hXa⟩ : ∃ X, lookE a x = X := ⟨_, rfl⟩
          obtain ⟨⟨g, tg⟩, hXb⟩ : ∃ X, lookE b x = X := ⟨_, rfl⟩
          have HXa := Lib.hid hXa; have HXb := Lib.hid hXb; clear hXa hXb
          go_wp2_with fail
          refine (get_any A ca a x wr (by omega) HL1.out (HA.out.ext (hx4.trans hxr))).mono ?_
          rw [get_look x (check_srt HC1.out), HXa.out]
          rintro e w5 ⟨v5, rfl, ⟨F5, k5, rfl, hof5⟩, hx5⟩
          have hbF := World.alloc_heap_new w5 (.cells #[.string f.path, .int .i64 f.len, .slice F5 f.frags.length k5] 46)
          have hxa5 := ext_alloc1 w5 (.cells #[.string f.path, .int .i64 f.len, .slice F5 f.frags.length k5] 46)
          have hy5 := hx5.trans hxa5
          have HF5 := Lib.hid ((hof5.mono (n1 := w4.heap.size) hxr.size).ext hxa5)
          clear cP hof5 hx5
          have cP := (hxr.trans hy5).cell HP0.out
          go_wp2_with fail
          refine (get_any B cb b x _ (by omega) HL2.out (HB.out.ext (hx4.trans (hxr.trans hy5)))).mono ?_
          rw [get_look x (check_srt HC2.out), HXb.out]
          rintro e w6 ⟨v6, rfl, ⟨F6, k6, rfl, hof6⟩, hx6⟩
          have hbG := World.alloc_heap_new w6 (.cells #[.string g.path, .int .i64 g.len, .slice F6 g.frags.length k6] 46)
          have hxa6 := ext_alloc1 w6 (.cells #[.string g.path, .int .i64 g.len, .slice F6 g.frags.length k6] 46)
          replace hbF := (hx6.trans hxa6).blk hbF
          have hy6 := hy5.trans (hx6.trans hxa6)
          have HF6 := Lib.hid ((hof6.mono (n1 := w4.heap.size) ((hxr.trans hy5).size)).ext hxa6)
          replace HF5 := Lib.hid (HF5.out.ext (hx6.trans hxa6))
          clear cP hof6 hxa5 hy5 hx6
          have c0 := cell_blk hbF 0
          have c1 := cell_blk hbF 1
          have c2 := cell_blk hbF 2
          simp only [List.getElem?_toArray, List.getElem?_cons_succ, List.getElem?_cons_zero] at c0 c1 c2
          have d0 := cell_blk hbG 0
          have d1 := cell_blk hbG 1
          have d2 := cell_blk hbG 2
          simp only [List.getElem?_toArray, List.getElem?_cons_succ, List.getElem?_cons_zero] at d0 d1 d2
          cases tf
          · cases tg
            · have HD := Lib.hid (diff_stay HTK.out (ch_gone HXa.out HXb.out))
              go_wp2_with fail
              go_roundg (gk - 1)
              case measure => omega
              case rel => exact ⟨i' + 1, by go_num, by omega, by omega, by rw [HD.out]; exact HO.out.ext (hy6), hxr.trans (hy6)⟩
            · have HD := Lib.hid (diff_next HTK.out (ch_new HXa.out HXb.out))
              clear d0 d1 d2
              go_wp2_with fail
              generalize (w6.alloc (.cells #[.string g.path, .int .i64 g.len, .slice F6 g.frags.length k6] 46)) = W6 at *
              have hxd : Ext W6 W6.drew := (Below.refl _ _).drew
              have HXD := Lib.hid hxd
              have hyd : Ext wr W6.drew := hy6.trans hxd
              have hyx : Ext W6 W6.drew := HXD.out
              have hbF' := hyx.blk hbF
              have hbG' := hyx.blk hbG
              obtain ⟨xs, hro, hok⟩ := HO.out.ext hyd
              have HOK := Lib.hid hok
              have HFd : Hid (FrOwn w4.heap.size W6.drew _ _ _) := frOwn_nil _ _
              have HGd : Hid (FrOwn w4.heap.size W6.drew _ _ _) := HF6.out.ext hxd
              clear hok c0 c1 c2
              refine wp_region_T (fun W' => Ext w4 W' ∧ KeepT 46 W6.drew W') [] (by kernel_rfl) ?_
              have hS : Ext w4 W6.drew ∧ KeepT 46 W6.drew W6.drew := ⟨hxr.trans hyd, KeepT.refl _ _⟩
              refine takeT 0 ?v0_1 rfl (by kernel_rfl) (fun _ _ _ h => h) rfl hS ?hy0_1 ?hk0_1
              case hy0_1 =>
                rintro w' ⟨he, hk⟩
                go_simp
                first | done | with_reducible rfl
              try simp only [Act.put, List.setIfInBounds_toArray, List.set_cons_zero, List.set_cons_succ]
              refine takeT 1 ?v1_2 rfl (by kernel_rfl) (fun _ _ _ h => h) rfl hS ?hy1_2 ?hk1_2
              case hy1_2 =>
                rintro w' ⟨he, hk⟩
                go_simp
                first | done | with_reducible rfl
              try simp only [Act.put, List.setIfInBounds_toArray, List.set_cons_zero, List.set_cons_succ]
              refine takeT 2 ?v2_3 rfl (by kernel_rfl) (fun _ _ _ h => h) rfl hS ?hy2_3 ?hk2_3
              case hy2_3 =>
                rintro w' ⟨he, hk⟩
                go_simp
                first | done | with_reducible rfl
              try simp only [Act.put, List.setIfInBounds_toArray, List.set_cons_zero, List.set_cons_succ]
              refine takeT 3 ?v3_4 rfl (by kernel_rfl) (fun _ _ _ h => h) rfl hS ?hy3_4 ?hk3_4
              case hy3_4 =>
                rintro w' ⟨he, hk⟩
                go_simp
                first | done | with_reducible rfl
              try simp only [Act.put, List.setIfInBounds_toArray, List.set_cons_zero, List.set_cons_succ]
              refine takeT 4 ?v4_5 rfl (by kernel_rfl) (fun _ _ _ h => h) rfl hS ?hy4_5 ?hk4_5
              case hy4_5 =>
                rintro w' ⟨he, hk⟩ 
                have s1 := he.cell HP0.out
                go_simp
                first | done | with_reducible rfl
              try simp only [Act.put, List.setIfInBounds_toArray, List.set_cons_zero, List.set_cons_succ]
              refine takeT 5 ?v5_6 rfl (by kernel_rfl) (fun _ _ _ h => h) rfl hS ?hy5_6 ?hk5_6
              case hy5_6 =>
                rintro w' ⟨he, hk⟩ 
                have bb := hk _ _ _ hbG'
                have s1 := cell_blk bb 0
                have s2 := cell_blk bb 1
                have s3 := cell_blk bb 2
                simp only [List.getElem?_toArray, List.getElem?_cons_succ, List.getElem?_cons_zero] at s1 s2 s3
                go_simp
                first | done | with_reducible rfl
              try simp only [Act.put, List.setIfInBounds_toArray, List.set_cons_zero, List.set_cons_succ]
              refine takeT 6 ?v6_7 rfl (by kernel_rfl) (fun _ _ _ h => h) rfl hS ?hy6_7 ?hk6_7
              case hy6_7 =>
                rintro w' ⟨he, hk⟩
                go_simp
                first | done | with_reducible rfl
              try simp only [Act.put, List.setIfInBounds_toArray, List.set_cons_zero, List.set_cons_succ]
              refine oneT 7 rfl (by kernel_rfl) rfl fun K hK => ?_
              go_simp
              refine hK _ _ (fun _ => ⟨hS.1.trans (ext_alloc1 _ _), KeepT.of_ext (ext_alloc1 _ _)⟩) ?_
              clear hK K
              try simp only [Act.put, List.setIfInBounds_toArray, List.set_cons_zero, List.set_cons_succ]
              refine oneT 8 rfl (by kernel_rfl) rfl fun K hK => ?_
              refine wp_append1 (.tmp 91) (.tmp 98) 57 rfl w4.heap.size 67 i67 _ 8 120 Tryd.underlying57 HI.out HZ0.out HZ1.out HZ2.out rfl (by decide) (by decide) u8 _ xs rfl hro (chCells ⟨0, x, noFile, g⟩ none F6 0 k6) rfl rfl (by simp [chCells, Value.oneCell']) (by omega) (hxr.trans hyd).size ?_
              intro v9 w9 hown9 hbel9 _ hgr9
              have HN := Lib.hid (OwnC.snoc hro HOK.out HFd.out HGd.out hown9 hgr9)
              have hx9 : Ext w4 w9 := Below.trans (hxr.trans hyd) hbel9
              have hk9 : KeepT 46 W6.drew w9 := (KeepT.of_ext (ext_alloc1 _ _)).trans (KeepT.append ((KeepT.of_ext (ext_alloc1 _ _)).own hro) hgr9 (by decide))
              clear hro hown9 hgr9 hbel9 hS
              have hS := And.intro hx9 hk9
              refine hK _ _ (fun _ => hS) ?_
              clear hK K
              try simp only [Act.put, List.setIfInBounds_toArray, List.set_cons_zero, List.set_cons_succ]
              refine takeT 9 ?v9_8 rfl (by kernel_rfl) (fun _ _ _ h => h) rfl hS ?hy9_8 ?hk9_8
              case hy9_8 =>
                rintro w' ⟨he, hk⟩
                go_simp
                first | done | with_reducible rfl
              try simp only [Act.put, List.setIfInBounds_toArray, List.set_cons_zero, List.set_cons_succ]
              refine doneT (by kernel_rfl) ?_ _
              clear hS hk9 hbF hbG hbF' hbG'
              go_wp2_with fail
              go_roundg (gk - 1)
              case measure => omega
              case rel => exact ⟨i' + 1, by go_num, by omega, by omega, by rw [HD.out]; exact HN.out, hx9⟩
          · cases tg
            · have HD := Lib.hid (diff_next HTK.out (ch_one HXa.out HXb.out))
              clear d0 d1 d2
              go_wp2_with fail
              generalize (w6.alloc (.cells #[.string g.path, .int .i64 g.len, .slice F6 g.frags.length k6] 46)) = W6 at *
              have hxd : Ext W6 W6.drew := (Below.refl _ _).drew
              have HXD := Lib.hid hxd
              have hyd : Ext wr W6.drew := hy6.trans hxd
              have hyx : Ext W6 W6.drew := HXD.out
              have hbF' := hyx.blk hbF
              have hbG' := hyx.blk hbG
              obtain ⟨xs, hro, hok⟩ := HO.out.ext hyd
              have HOK := Lib.hid hok
              have HFd : Hid (FrOwn w4.heap.size W6.drew _ _ _) := HF5.out.ext hxd
              have HGd : Hid (FrOwn w4.heap.size W6.drew _ _ _) := frOwn_nil _ _
              clear hok c0 c1 c2
              refine wp_region_T (fun W' => Ext w4 W' ∧ KeepT 46 W6.drew W') [] (by kernel_rfl) ?_
              have hS : Ext w4 W6.drew ∧ KeepT 46 W6.drew W6.drew := ⟨hxr.trans hyd, KeepT.refl _ _⟩
              refine takeT 0 ?v0_9 rfl (by kernel_rfl) (fun _ _ _ h => h) rfl hS ?hy0_9 ?hk0_9
              case hy0_9 =>
                rintro w' ⟨he, hk⟩
                go_simp
                first | done | with_reducible rfl
              try simp only [Act.put, List.setIfInBounds_toArray, List.set_cons_zero, List.set_cons_succ]
              refine takeT 1 ?v1_10 rfl (by kernel_rfl) (fun _ _ _ h => h) rfl hS ?hy1_10 ?hk1_10
              case hy1_10 =>
                rintro w' ⟨he, hk⟩
                go_simp
                first | done | with_reducible rfl
              try simp only [Act.put, List.setIfInBounds_toArray, List.set_cons_zero, List.set_cons_succ]
              refine takeT 2 ?v2_11 rfl (by kernel_rfl) (fun _ _ _ h => h) rfl hS ?hy2_11 ?hk2_11
              case hy2_11 =>
                rintro w' ⟨he, hk⟩
                go_simp
                first | done | with_reducible rfl
              try simp only [Act.put, List.setIfInBounds_toArray, List.set_cons_zero, List.set_cons_succ]
              refine takeT 3 ?v3_12 rfl (by kernel_rfl) (fun _ _ _ h => h) rfl hS ?hy3_12 ?hk3_12
              case hy3_12 =>
                rintro w' ⟨he, hk⟩
                go_simp
                first | done | with_reducible rfl
              try simp only [Act.put, List.setIfInBounds_toArray, List.set_cons_zero, List.set_cons_succ]
              refine takeT 4 ?v4_13 rfl (by kernel_rfl) (fun _ _ _ h => h) rfl hS ?hy4_13 ?hk4_13
              case hy4_13 =>
                rintro w' ⟨he, hk⟩ 
                have s1 := he.cell HP0.out
                go_simp
                first | done | with_reducible rfl
              try simp only [Act.put, List.setIfInBounds_toArray, List.set_cons_zero, List.set_cons_succ]
              refine takeT 5 ?v5_14 rfl (by kernel_rfl) (fun _ _ _ h => h) rfl hS ?hy5_14 ?hk5_14
              case hy5_14 =>
                rintro w' ⟨he, hk⟩ 
                have bb := hk _ _ _ hbF'
                have s1 := cell_blk bb 0
                have s2 := cell_blk bb 1
                have s3 := cell_blk bb 2
                simp only [List.getElem?_toArray, List.getElem?_cons_succ, List.getElem?_cons_zero] at s1 s2 s3
                go_simp
                first | done | with_reducible rfl
              try simp only [Act.put, List.setIfInBounds_toArray, List.set_cons_zero, List.set_cons_succ]
              refine takeT 6 ?v6_15 rfl (by kernel_rfl) (fun _ _ _ h => h) rfl hS ?hy6_15 ?hk6_15
              case hy6_15 =>
                rintro w' ⟨he, hk⟩
                go_simp
                first | done | with_reducible rfl
              try simp only [Act.put, List.setIfInBounds_toArray, List.set_cons_zero, List.set_cons_succ]
              refine oneT 7 rfl (by kernel_rfl) rfl fun K hK => ?_
              go_simp
              refine hK _ _ (fun _ => ⟨hS.1.trans (ext_alloc1 _ _), KeepT.of_ext (ext_alloc1 _ _)⟩) ?_
              clear hK K
              try simp only [Act.put, List.setIfInBounds_toArray, List.set_cons_zero, List.set_cons_succ]
              refine oneT 8 rfl (by kernel_rfl) rfl fun K hK => ?_
              refine wp_append1 (.tmp 77) (.tmp 84) 57 rfl w4.heap.size 67 i67 _ 8 120 Tryd.underlying57 HI.out HZ0.out HZ1.out HZ2.out rfl (by decide) (by decide) u8 _ xs rfl hro (chCells ⟨1, x, f, noFile⟩ F5 none k5 0) rfl rfl (by simp [chCells, Value.oneCell']) (by omega) (hxr.trans hyd).size ?_
              intro v9 w9 hown9 hbel9 _ hgr9
              have HN := Lib.hid (OwnC.snoc hro HOK.out HFd.out HGd.out hown9 hgr9)
              have hx9 : Ext w4 w9 := Below.trans (hxr.trans hyd) hbel9
              have hk9 : KeepT 46 W6.drew w9 := (KeepT.of_ext (ext_alloc1 _ _)).trans (KeepT.append ((KeepT.of_ext (ext_alloc1 _ _)).own hro) hgr9 (by decide))
              clear hro hown9 hgr9 hbel9 hS
              have hS := And.intro hx9 hk9
              refine hK _ _ (fun _ => hS) ?_
              clear hK K
              try simp only [Act.put, List.setIfInBounds_toArray, List.set_cons_zero, List.set_cons_succ]
              refine takeT 9 ?v9_16 rfl (by kernel_rfl) (fun _ _ _ h => h) rfl hS ?hy9_16 ?hk9_16
              case hy9_16 =>
                rintro w' ⟨he, hk⟩
                go_simp
                first | done | with_reducible rfl
              try simp only [Act.put, List.setIfInBounds_toArray, List.set_cons_zero, List.set_cons_succ]
              refine doneT (by kernel_rfl) ?_ _
              clear hS hk9 hbF hbG hbF' hbG'
              go_wp2_with fail
              go_roundg (gk - 1)
              case measure => omega
              case rel => exact ⟨i' + 1, by go_num, by omega, by omega, by rw [HD.out]; exact HN.out, hx9⟩
            · go_wp2_with fail
              refine (samefile_any _ _ f g (w6.alloc (.cells #[.string g.path, .int .i64 g.len, .slice F6 g.frags.length k6] 46)) ⟨_, _, rfl, HF5.out.1⟩ ⟨_, _, rfl, HF6.out.1⟩).mono ?_
              by_cases hfg : f = g
              · rw [decide_eq_true hfg]
                have HD := Lib.hid (diff_stay HTK.out (ch_same HXa.out HXb.out hfg))
                rintro e w7 ⟨rfl, hx7⟩
                clear hfg
                go_wp2_with fail
                go_roundg (gk - 1)
                case measure => omega
                case rel => exact ⟨i' + 1, by go_num, by omega, by omega, by rw [HD.out]; exact HO.out.ext (hy6.trans hx7), hxr.trans (hy6.trans hx7)⟩
              · rw [decide_eq_false hfg]
                have HD := Lib.hid (diff_next HTK.out (ch_two HXa.out HXb.out hfg))
                rintro e w7 ⟨rfl, hx7⟩
                clear hfg d0 d1 d2
                go_wp2_with fail
                have hxd : Ext w7 w7.drew := (Below.refl _ _).drew
                have HXD := Lib.hid (hx7.trans hxd)
                have hyd : Ext wr w7.drew := (hy6.trans hx7).trans hxd
                have hyx : Ext (w6.alloc (.cells #[.string g.path, .int .i64 g.len, .slice F6 g.frags.length k6] 46)) w7.drew := HXD.out
                have hbF' := hyx.blk hbF
                have hbG' := hyx.blk hbG
                obtain ⟨xs, hro, hok⟩ := HO.out.ext hyd
                have HOK := Lib.hid hok
                have HFd : Hid (FrOwn w4.heap.size w7.drew _ _ _) := HF5.out.ext (hx7.trans hxd)
                have HGd : Hid (FrOwn w4.heap.size w7.drew _ _ _) := HF6.out.ext (hx7.trans hxd)
                clear hok c0 c1 c2
                refine wp_region_T (fun W' => Ext w4 W' ∧ KeepT 46 w7.drew W') [] (by kernel_rfl) ?_
                have hS : Ext w4 w7.drew ∧ KeepT 46 w7.drew w7.drew := ⟨hxr.trans hyd, KeepT.refl _ _⟩
                refine takeT 0 ?v0_17 rfl (by kernel_rfl) (fun _ _ _ h => h) rfl hS ?hy0_17 ?hk0_17
                case hy0_17 =>
                  rintro w' ⟨he, hk⟩
                  go_simp
                  first | done | with_reducible rfl
                try simp only [Act.put, List.setIfInBounds_toArray, List.set_cons_zero, List.set_cons_succ]
                refine takeT 1 ?v1_18 rfl (by kernel_rfl) (fun _ _ _ h => h) rfl hS ?hy1_18 ?hk1_18
                case hy1_18 =>
                  rintro w' ⟨he, hk⟩
                  go_simp
                  first | done | with_reducible rfl
                try simp only [Act.put, List.setIfInBounds_toArray, List.set_cons_zero, List.set_cons_succ]
                refine takeT 2 ?v2_19 rfl (by kernel_rfl) (fun _ _ _ h => h) rfl hS ?hy2_19 ?hk2_19
                case hy2_19 =>
                  rintro w' ⟨he, hk⟩
                  go_simp
                  first | done | with_reducible rfl
                try simp only [Act.put, List.setIfInBounds_toArray, List.set_cons_zero, List.set_cons_succ]
                refine takeT 3 ?v3_20 rfl (by kernel_rfl) (fun _ _ _ h => h) rfl hS ?hy3_20 ?hk3_20
                case hy3_20 =>
                  rintro w' ⟨he, hk⟩
                  go_simp
                  first | done | with_reducible rfl
                try simp only [Act.put, List.setIfInBounds_toArray, List.set_cons_zero, List.set_cons_succ]
                refine takeT 4 ?v4_21 rfl (by kernel_rfl) (fun _ _ _ h => h) rfl hS ?hy4_21 ?hk4_21
                case hy4_21 =>
                  rintro w' ⟨he, hk⟩ 
                  have s1 := he.cell HP0.out
                  go_simp
                  first | done | with_reducible rfl
                try simp only [Act.put, List.setIfInBounds_toArray, List.set_cons_zero, List.set_cons_succ]
                refine takeT 5 ?v5_22 rfl (by kernel_rfl) (fun _ _ _ h => h) rfl hS ?hy5_22 ?hk5_22
                case hy5_22 =>
                  rintro w' ⟨he, hk⟩ 
                  have bb := hk _ _ _ hbF'
                  have s1 := cell_blk bb 0
                  have s2 := cell_blk bb 1
                  have s3 := cell_blk bb 2
                  simp only [List.getElem?_toArray, List.getElem?_cons_succ, List.getElem?_cons_zero] at s1 s2 s3
                  go_simp
                  first | done | with_reducible rfl
                try simp only [Act.put, List.setIfInBounds_toArray, List.set_cons_zero, List.set_cons_succ]
                refine takeT 6 ?v6_23 rfl (by kernel_rfl) (fun _ _ _ h => h) rfl hS ?hy6_23 ?hk6_23
                case hy6_23 =>
                  rintro w' ⟨he, hk⟩ 
                  have bb := hk _ _ _ hbG'
                  have s1 := cell_blk bb 0
                  have s2 := cell_blk bb 1
                  have s3 := cell_blk bb 2
                  simp only [List.getElem?_toArray, List.getElem?_cons_succ, List.getElem?_cons_zero] at s1 s2 s3
                  go_simp
                  first | done | with_reducible rfl
                try simp only [Act.put, List.setIfInBounds_toArray, List.set_cons_zero, List.set_cons_succ]
                refine takeT 7 ?v7_24 rfl (by kernel_rfl) (fun _ _ _ h => h) rfl hS ?hy7_24 ?hk7_24
                case hy7_24 =>
                  rintro w' ⟨he, hk⟩
                  go_simp
                  first | done | with_reducible rfl
                try simp only [Act.put, List.setIfInBounds_toArray, List.set_cons_zero, List.set_cons_succ]
                refine oneT 8 rfl (by kernel_rfl) rfl fun K hK => ?_
                go_simp
                refine hK _ _ (fun _ => ⟨hS.1.trans (ext_alloc1 _ _), KeepT.of_ext (ext_alloc1 _ _)⟩) ?_
                clear hK K
                try simp only [Act.put, List.setIfInBounds_toArray, List.set_cons_zero, List.set_cons_succ]
                refine oneT 9 rfl (by kernel_rfl) rfl fun K hK => ?_
                refine wp_append1 (.tmp 62) (.tmp 70) 57 rfl w4.heap.size 67 i67 _ 8 120 Tryd.underlying57 HI.out HZ0.out HZ1.out HZ2.out rfl (by decide) (by decide) u8 _ xs rfl hro (chCells ⟨2, x, f, g⟩ F5 F6 k5 k6) rfl rfl (by simp [chCells, Value.oneCell']) (by omega) (hxr.trans hyd).size ?_
                intro v9 w9 hown9 hbel9 _ hgr9
                have HN := Lib.hid (OwnC.snoc hro HOK.out HFd.out HGd.out hown9 hgr9)
                have hx9 : Ext w4 w9 := Below.trans (hxr.trans hyd) hbel9
                have hk9 : KeepT 46 w7.drew w9 := (KeepT.of_ext (ext_alloc1 _ _)).trans (KeepT.append ((KeepT.of_ext (ext_alloc1 _ _)).own hro) hgr9 (by decide))
                clear hro hown9 hgr9 hbel9 hS
                have hS := And.intro hx9 hk9
                refine hK _ _ (fun _ => hS) ?_
                clear hK K
                try simp only [Act.put, List.setIfInBounds_toArray, List.set_cons_zero, List.set_cons_succ]
                refine takeT 10 ?v10_25 rfl (by kernel_rfl) (fun _ _ _ h => h) rfl hS ?hy10_25 ?hk10_25
                case hy10_25 =>
                  rintro w' ⟨he, hk⟩
                  go_simp
                  first | done | with_reducible rfl
                try simp only [Act.put, List.setIfInBounds_toArray, List.set_cons_zero, List.set_cons_succ]
                refine doneT (by kernel_rfl) ?_ _
                clear hS hk9 hbF hbG hbF' hbG'
                go_wp2_with fail
                go_roundg (gk - 1)
                case measure => omega
                case rel => exact ⟨i' + 1, by go_num, by omega, by omega, by rw [HD.out]; exact HN.out, hx9⟩
        · obtain rfl : i' = ps.length := by omega
          have HO2 : Hid (OwnC w4.heap.size wr u8 (diffL a b ps)) := by have := HO.out; rwa [List.take_length] at this
          obtain ⟨Ao, co, rfl, hr⟩ := HO2.out.rd
          have HR := Lib.hid hr
          clear hr
          go_wp2_with fail
          try simp only [Exit.inBlock, Exit.then]
          refine bodyPost_ret (results_tmp2 rfl _ _ _) rfl ?_
          exact ⟨Ao, co, by rw [HK.out]; rfl, by rw [HK.out]; exact HR.out, hx4.trans hxr⟩
    · have HK := Lib.hid (diffE_2 HC1.out hc2)
      have q1 : (checkE b == 0) = false := beq_eq_false_iff_ne.2 hc2
      have q2 : (checkE b != 0) = true := by simp [bne, q1]
      clear hc2
      generalize checkE b = ce at *
      go_wp2_with fail
      try simp only [Exit.inBlock, Exit.then]
      refine bodyPost_ret (results_tmp2 rfl _ _ _) rfl ?_
      exact ⟨none, 0, by rw [HK.out]; rfl, by rw [HK.out]; exact .inl rfl, hx2⟩
  · have HK := Lib.hid (diffE_1 (b := b) hc1)
    have q1 : (checkE a == 0) = false := beq_eq_false_iff_ne.2 hc1
    have q2 : (checkE a != 0) = true := by simp [bne, q1]
    clear hc1
    generalize checkE a = ce at *
    go_wp2_with fail
    try simp only [Exit.inBlock, Exit.then]
    refine bodyPost_ret (results_tmp2 rfl _ _ _) rfl ?_
    exact ⟨none, 0, by rw [HK.out]; rfl, by rw [HK.out]; exact .inl rfl, hx1⟩
end Go.Proofs.YtcjokhhcncimdaaDoor
