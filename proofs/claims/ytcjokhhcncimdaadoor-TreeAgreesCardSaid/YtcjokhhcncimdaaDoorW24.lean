/- The walks of Put and Remove. -/
import Derived.Test.YtcjokhhcncimdaaDoorW23
set_option linter.unusedVariables false
set_option linter.unusedSimpArgs false
namespace Go.Proofs.YtcjokhhcncimdaaDoor
open Go.RowKit Go.PF Go.Tr

theorem put_short {l : List FileV} {f : FileV} (h : Short l) (hf : f.path.size ≤ maxLen) : Short (putL f l) := fun g hg => by
  rcases put_mem.1 hg with rfl | ⟨hg, _⟩
  · exact hf
  · exact h g hg
theorem without_short {l : List FileV} (p : ByteArray) (h : Short l) : Short (withoutL p l) := fun g hg => h g (without_mem.1 hg).1

theorem putE_1 {l : List FileV} {f : FileV} (h : ¬ checkE l = 0) : putE l f = ([], checkE l) := by unfold putE; rw [if_neg h]
theorem putE_2 {l : List FileV} {f : FileV} (h : checkE l = 0) (h2 : ¬ validE f = 0) : putE l f = ([], validE f) := by unfold putE; rw [if_pos h, if_neg h2]
theorem putE_3 {l : List FileV} {f : FileV} (h : checkE l = 0) (h2 : validE f = 0) (h3 : ¬ checkE (putL f l) = 0) : putE l f = ([], checkE (putL f l)) := by unfold putE; rw [if_pos h, if_pos h2, if_neg h3]
theorem putE_4 {l : List FileV} {f : FileV} (h : checkE l = 0) (h2 : validE f = 0) (h3 : checkE (putL f l) = 0) : putE l f = (putL f l, 0) := by unfold putE; rw [if_pos h, if_pos h2, if_pos h3]
theorem removeE_1 {l : List FileV} {p : ByteArray} (h : ¬ checkE l = 0) : removeE l p = ([], checkE l) := by unfold removeE; rw [if_neg h]
theorem removeE_2 {l : List FileV} {p : ByteArray} (h : checkE l = 0) (h2 : hasB p l = false) : removeE l p = ([], 7) := by unfold removeE; rw [if_pos h, if_neg (by simp [h2])]
theorem removeE_3 {l : List FileV} {p : ByteArray} (h : checkE l = 0) (h2 : hasB p l = true) : removeE l p = (withoutL p l, 0) := by unfold removeE; rw [if_pos h, if_pos h2]

set_option maxRecDepth 100000 in
set_option maxHeartbeats 2000000 in
theorem tput_any (A : Option Addr) (cap : Nat) (l : List FileV) (vf : Value) (f : FileV) (w : World) (hm : Mx w) (hn : l.length ≤ 900) (hs : Short l) (hsm : Small l) (hB : RdL w A l) (hf : FileIs w vf f) (hfs : f.path.size ≤ maxLen) (hsf : f.frags.length * 8 ≤ 140737488355328) :
    Calls Tryd.prog 24 #[.slice A l.length cap, vf] w fun e w' => ∃ Ao co, e = .returned (.tuple #[.slice Ao (putE l f).1.length co, .int .i64 (putE l f).2]) ∧ RdL w' Ao (putE l f).1 ∧ Ext w w' := by
  obtain ⟨Ff, kf, rfl, hfr⟩ := hf
  have HB := Lib.hid hB; clear hB
  have HS := Lib.hid hs; have HM := Lib.hid hsm; clear hs hsm
  have HFS := Lib.hid hfs; clear hfs
  go_enter Tryd.func24, Tryd.ntmps24
  go_wp2_with fail
  have hbx := World.alloc_heap_new w (.cells #[.string f.path, .int .i64 f.len, .slice Ff f.frags.length kf] 46)
  have hxW := ext_alloc1 w (.cells #[.string f.path, .int .i64 f.len, .slice Ff f.frags.length kf] 46)
  generalize w.alloc (.cells #[.string f.path, .int .i64 f.len, .slice Ff f.frags.length kf] 46) = W at *
  refine (tcheck_any A cap l W (hm.ext hxW) (by omega) HS.out (HB.out.ext hxW)).mono ?_
  rintro e w1 ⟨rfl, hx1⟩
  replace hbx := hx1.blk hbx
  replace hx1 := hxW.trans hx1
  clear hxW
  have c0 := cell_blk hbx 0
  have c1 := cell_blk hbx 1
  have c2 := cell_blk hbx 2
  simp only [List.getElem?_toArray, List.getElem?_cons_succ, List.getElem?_cons_zero] at c0 c1 c2
  by_cases hc : checkE l = 0
  · rw [hc]
    have HC := Lib.hid hc; clear hc
    go_wp2_with fail
    refine (tvalid_any _ f w1 (hm.ext hx1) ⟨_, _, rfl, hfr.ext hx1⟩ HFS.out).mono ?_
    rintro e w2 ⟨rfl, hx2⟩
    replace hbx := hx2.blk hbx
    replace hx2 := hx1.trans hx2
    clear hx1 c0 c1 c2
    by_cases hv : validE f = 0
    · rw [hv]
      have HV := Lib.hid hv; clear hv
      have c0 := cell_blk hbx 0
      have c1 := cell_blk hbx 1
      have c2 := cell_blk hbx 2
      simp only [List.getElem?_toArray, List.getElem?_cons_succ, List.getElem?_cons_zero] at c0 c1 c2
      have hxd : Ext w2 w2.drew := (Below.refl _ _).drew
      have cA : w2.drew.cell? ⟨w.heap.size, 0, none⟩ = some (.string f.path) := c0
      have cB : w2.drew.cell? ⟨w.heap.size, 1, none⟩ = some (.int .i64 f.len) := c1
      have cC : w2.drew.cell? ⟨w.heap.size, 2, none⟩ = some (.slice Ff f.frags.length kf) := c2
      have hS : Ext w2.drew w2.drew := Ext.refl _
      clear c0 c1 c2
      go_wp2_with fail
      refine wp_region_T (fun W' => Ext w2.drew W') [] (by kernel_rfl) ?_
      refine takeT 0 ?v0_1 rfl (by kernel_rfl) (fun _ _ _ h => h) rfl hS ?hy0_1 ?hk0_1
      case hy0_1 =>
        rintro w' he 
        have s1 := he.cell cA
        have s2 := he.cell cB
        have s3 := he.cell cC
        go_simp
        first | done | with_reducible rfl
      try simp only [Act.put, List.setIfInBounds_toArray, List.set_cons_zero, List.set_cons_succ]
      refine takeT 2 ?v2_2 rfl (by kernel_rfl) (fun _ _ _ h => h) rfl hS ?hy2_2 ?hk2_2
      case hy2_2 =>
        rintro w' he 
        have s1 := he.cell cA
        have s2 := he.cell cB
        have s3 := he.cell cC
        go_simp
        first | done | with_reducible rfl
      try simp only [Act.put, List.setIfInBounds_toArray, List.set_cons_zero, List.set_cons_succ]
      refine oneT 1 rfl (by kernel_rfl) rfl fun K hK => ?_
      go_simp
      refine (tclone_any A cap l w2.drew (by omega) HM.out (HB.out.ext (hx2.trans hxd))).mono ?_
      rintro e w3 ⟨v3, rfl, ho3, hx3⟩
      refine hK _ _ (fun _ => hx3) ?_
      clear hK K
      try simp only [Act.put, List.setIfInBounds_toArray, List.set_cons_zero, List.set_cons_succ]
      refine oneT 3 rfl (by kernel_rfl) rfl fun K hK => ?_
      go_simp
      refine (twith_any w2.drew.heap.size v3 _ l f w3 ho3 (check_srt HC.out) (by omega) ⟨_, _, rfl, hfr.ext ((hx2.trans hxd).trans hx3)⟩ hsf hx3.size).mono ?_
      rintro e w4 ⟨v4, rfl, ho4, hb4⟩
      have hx4 : Ext w2.drew w4 := Below.trans hx3 hb4
      obtain ⟨A4, c4, rfl, hr4⟩ := ho4.rd
      refine hK _ _ (fun _ => hx4) ?_
      clear hK K
      try simp only [Act.put, List.setIfInBounds_toArray, List.set_cons_zero, List.set_cons_succ]
      refine takeT 4 ?v4 rfl (by kernel_rfl) (fun _ _ _ h => h) rfl hx4 ?hy4 ?hk4
      case hy4 =>
        rintro w' he
        go_simp
        first | done | with_reducible rfl
      try simp only [Act.put, List.setIfInBounds_toArray, List.set_cons_zero, List.set_cons_succ]
      refine doneT (by kernel_rfl) ?_ _
      have hx5 := (hx2.trans hxd).trans hx4
      have hpl := put_len f l
      have HR := Lib.hid hr4
      clear hr4 ho4 hb4 ho3 hx3 hx4 cA cB cC hS hxd hx2
      go_wp2_with fail
      refine (tcheck_any A4 c4 (putL f l) w4 (hm.ext hx5) (by omega) (put_short HS.out HFS.out) HR.out).mono ?_
      rintro e w6 ⟨rfl, hx6⟩
      by_cases hp : checkE (putL f l) = 0
      · have HK := Lib.hid (putE_4 HC.out HV.out hp)
        rw [hp]
        clear hp
        go_wp2_with fail
        try simp only [Exit.inBlock, Exit.then]
        refine bodyPost_ret (results_tmp2 rfl _ _ _) rfl ?_
        exact ⟨A4, c4, by rw [HK.out]; rfl, by rw [HK.out]; exact HR.out.ext hx6, hx5.trans hx6⟩
      · have HK := Lib.hid (putE_3 HC.out HV.out hp)
        have q1 : (checkE (putL f l) == 0) = false := beq_eq_false_iff_ne.2 hp
        have q2 : (checkE (putL f l) != 0) = true := by simp [bne, q1]
        clear hp
        generalize checkE (putL f l) = ce at *
        go_wp2_with fail
        try simp only [Exit.inBlock, Exit.then]
        refine bodyPost_ret (results_tmp2 rfl _ _ _) rfl ?_
        exact ⟨none, 0, by rw [HK.out]; rfl, by rw [HK.out]; exact .inl rfl, hx5.trans hx6⟩
    · have HK := Lib.hid (putE_2 HC.out hv)
      have q1 : (validE f == 0) = false := beq_eq_false_iff_ne.2 hv
      have q2 : (validE f != 0) = true := by simp [bne, q1]
      clear hv
      generalize validE f = ce at *
      go_wp2_with fail
      try simp only [Exit.inBlock, Exit.then]
      refine bodyPost_ret (results_tmp2 rfl _ _ _) rfl ?_
      exact ⟨none, 0, by rw [HK.out]; rfl, by rw [HK.out]; exact .inl rfl, hx2⟩
  · have HK := Lib.hid (putE_1 (f := f) hc)
    have q1 : (checkE l == 0) = false := beq_eq_false_iff_ne.2 hc
    have q2 : (checkE l != 0) = true := by simp [bne, q1]
    clear hc
    generalize checkE l = ce at *
    go_wp2_with fail
    try simp only [Exit.inBlock, Exit.then]
    refine bodyPost_ret (results_tmp2 rfl _ _ _) rfl ?_
    exact ⟨none, 0, by rw [HK.out]; rfl, by rw [HK.out]; exact .inl rfl, hx1⟩

set_option maxRecDepth 100000 in
set_option maxHeartbeats 2000000 in
theorem tremove_any (A : Option Addr) (cap : Nat) (l : List FileV) (p : ByteArray) (w : World) (hm : Mx w) (hn : l.length ≤ 1000) (hs : Short l) (hsm : Small l) (hB : RdL w A l) :
    Calls Tryd.prog 26 #[.slice A l.length cap, .string p] w fun e w' => ∃ Ao co, e = .returned (.tuple #[.slice Ao (removeE l p).1.length co, .int .i64 (removeE l p).2]) ∧ RdL w' Ao (removeE l p).1 ∧ Ext w w' := by
  have HB := Lib.hid hB; clear hB
  have HS := Lib.hid hs; have HM := Lib.hid hsm; clear hs hsm
  go_enter Tryd.func26, Tryd.ntmps26
  go_wp2_with fail
  refine (tcheck_any A cap l w hm hn HS.out HB.out).mono ?_
  rintro e w1 ⟨rfl, hx1⟩
  by_cases hc : checkE l = 0
  · rw [hc]
    have HC := Lib.hid hc; clear hc
    go_wp2_with fail
    refine (search_any A cap l p w1 hn (check_srt HC.out) (HB.out.ext hx1)).mono ?_
    rintro e w2 ⟨rfl, hx2⟩
    replace hx2 := hx1.trans hx2
    clear hx1
    rcases hh : hasB p l with _ | _
    · have HK := Lib.hid (removeE_2 HC.out hh)
      go_wp2_with fail
      try simp only [Exit.inBlock, Exit.then]
      refine bodyPost_ret (results_tmp2 rfl _ _ _) rfl ?_
      exact ⟨none, 0, by rw [HK.out]; rfl, by rw [HK.out]; exact .inl rfl, hx2⟩
    · have HK := Lib.hid (removeE_3 HC.out hh)
      have HP := Lib.hid (strike_old (check_srt HC.out) hh)
      have hlt : lowI p l < l.length := by
        obtain ⟨g, hg, _⟩ := has_at hh
        exact (List.getElem?_eq_some_iff.1 hg).1
      clear hh
      generalize lowI p l = i at *
      go_wp2_with fail
      refine (tclone_any A cap l w2 hn HM.out (HB.out.ext hx2)).mono ?_
      rintro e w3 ⟨v3, rfl, ⟨xs, hro, hok⟩, hx3⟩
      have HRO := Lib.hid hro
      have HOK := Lib.hid hok
      clear hro hok
      go_wp2_with fail
      refine (delete_any w2.heap.size l.length i v3 xs w3 HRO.out HOK.out.cells.onecell hlt).mono ?_
      rintro e w4 ⟨v4, rfl, hro4, hgr, -⟩
      have hok4 : OutOk w2.heap.size w4 _ _ := ((HOK.out.cells.take i).append (HOK.out.cells.drop (i + 1))).out.keep3 (keep_grown HRO.out hgr 3 (by decide))
      have hbel := below_grown HRO.out hgr hx3.size
      have hlen : (withoutL p l).length = l.length - 1 := by rw [← HP.out, List.length_append, List.length_take, List.length_drop]; omega
      have hown : OwnL w2.heap.size w4 v4 (withoutL p l) := ⟨_, by rw [hlen]; exact hro4, by rw [← HP.out]; exact hok4⟩
      obtain ⟨A4, c4, rfl, hr4⟩ := hown.rd
      have HR := Lib.hid hr4
      clear hr4 hro4 hok4 hown hgr hlen
      go_wp2_with fail
      try simp only [Exit.inBlock, Exit.then]
      refine bodyPost_ret (results_tmp2 rfl _ _ _) rfl ?_
      exact ⟨A4, c4, by rw [HK.out]; rfl, by rw [HK.out]; exact HR.out, hx2.trans (Below.trans hx3 hbel)⟩
  · have HK := Lib.hid (removeE_1 (p := p) hc)
    have q1 : (checkE l == 0) = false := beq_eq_false_iff_ne.2 hc
    have q2 : (checkE l != 0) = true := by simp [bne, q1]
    clear hc
    generalize checkE l = ce at *
    go_wp2_with fail
    try simp only [Exit.inBlock, Exit.then]
    refine bodyPost_ret (results_tmp2 rfl _ _ _) rfl ?_
    exact ⟨none, 0, by rw [HK.out]; rfl, by rw [HK.out]; exact .inl rfl, hx1⟩
end Go.Proofs.YtcjokhhcncimdaaDoor
