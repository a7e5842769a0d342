/- The walks of the reference's Put and Remove. -/
import Derived.Test.YtcjokhhcncimdaaDoorW24
set_option linter.unusedVariables false
set_option linter.unusedSimpArgs false
namespace Go.Proofs.YtcjokhhcncimdaaDoor
open Go.RowKit Go.PF Go.Tr

set_option maxRecDepth 100000 in
set_option maxHeartbeats 2000000 in
theorem rput_any (A : Option Addr) (cap : Nat) (l : List FileV) (vf : Value) (f : FileV) (w : World) (hn : l.length ≤ 900) (hs : Short l) (hsm : Small l) (hB : RdL w A l) (hf : FileIs w vf f) (hfs : f.path.size ≤ maxLen) (hsf : f.frags.length * 8 ≤ 140737488355328) :
    Calls Tryd.prog 25 #[.slice A l.length cap, vf] w fun e w' => ∃ Ao co, e = .returned (.tuple #[.slice Ao (putE l f).1.length co, .int .i64 (putE l f).2]) ∧ RdL w' Ao (putE l f).1 ∧ Ext w w' := by
  obtain ⟨Ff, kf, rfl, hfr⟩ := hf
  have HB := Lib.hid hB; clear hB
  have HS := Lib.hid hs; have HM := Lib.hid hsm; clear hs hsm
  have HFS := Lib.hid hfs; clear hfs
  go_enter Tryd.func25, Tryd.ntmps25
  go_wp2_with fail
  have hbx := World.alloc_heap_new w (.cells #[.string f.path, .int .i64 f.len, .slice Ff f.frags.length kf] 46)
  have hxW := ext_alloc1 w (.cells #[.string f.path, .int .i64 f.len, .slice Ff f.frags.length kf] 46)
  generalize w.alloc (.cells #[.string f.path, .int .i64 f.len, .slice Ff f.frags.length kf] 46) = W at *
  refine (rcheck_any A cap l W (by omega) HS.out (HB.out.ext hxW)).mono ?_
  rintro e w1 ⟨rfl, hx1⟩
  replace hbx := hx1.blk hbx
  replace hx1 := hxW.trans hx1
  clear hxW
  have c0 := cell_blk hbx 0
  have c1 := cell_blk hbx 1
  have c2 := cell_blk hbx 2
  simp only [List.getElem?_toArray, List.getElem?_cons_succ, List.getElem?_cons_zero] at c0 c1 c2
  by_cases hc : checkE l = 0
  · rw [hc]
    have HC := Lib.hid hc; clear hc
    go_wp2_with fail
    refine (rvalid_any _ f w1 ⟨_, _, rfl, hfr.ext hx1⟩ HFS.out).mono ?_
    intro e w2 hv2
    obtain ⟨rfl, hx2⟩ : e = .returned (.int .i64 (validE f)) ∧ Ext w1 w2 := by
      obtain ⟨h1, h2⟩ := hv2
      exact ⟨h1, by first | exact h2 | (subst h2; exact Ext.refl _)⟩
    clear hv2
    replace hbx := hx2.blk hbx
    replace hx2 := hx1.trans hx2
    clear hx1 c0 c1 c2
    by_cases hv : validE f = 0
    · rw [hv]
      have HV := Lib.hid hv; clear hv
      have c0 := cell_blk hbx 0
      have c1 := cell_blk hbx 1
      have c2 := cell_blk hbx 2
      simp only [List.getElem?_toArray, List.getElem?_cons_succ, List.getElem?_cons_zero] at c0 c1 c2
      have hxd : Ext w2 w2.drew := (Below.refl _ _).drew
      have cA : w2.drew.cell? ⟨w.heap.size, 0, none⟩ = some (.string f.path) := c0
      have cB : w2.drew.cell? ⟨w.heap.size, 1, none⟩ = some (.int .i64 f.len) := c1
      have cC : w2.drew.cell? ⟨w.heap.size, 2, none⟩ = some (.slice Ff f.frags.length kf) := c2
      have hS : Ext w2.drew w2.drew := Ext.refl _
      clear c0 c1 c2
      go_wp2_with fail
      refine wp_region_T (fun W' => Ext w2.drew W') [] (by kernel_rfl) ?_
      refine takeT 0 ?v0_1 rfl (by kernel_rfl) (fun _ _ _ h => h) rfl hS ?hy0_1 ?hk0_1
      case hy0_1 =>
        rintro w' he 
        have s1 := he.cell cA
        have s2 := he.cell cB
        have s3 := he.cell cC
        go_simp
        first | done | with_reducible rfl
      try simp only [Act.put, List.setIfInBounds_toArray, List.set_cons_zero, List.set_cons_succ]
      refine takeT 1 ?v1_2 rfl (by kernel_rfl) (fun _ _ _ h => h) rfl hS ?hy1_2 ?hk1_2
      case hy1_2 =>
        rintro w' he 
        have s1 := he.cell cA
        have s2 := he.cell cB
        have s3 := he.cell cC
        go_simp
        first | done | with_reducible rfl
      try simp only [Act.put, List.setIfInBounds_toArray, List.set_cons_zero, List.set_cons_succ]
      refine takeT 2 ?v2_3 rfl (by kernel_rfl) (fun _ _ _ h => h) rfl hS ?hy2_3 ?hk2_3
      case hy2_3 =>
        rintro w' he 
        have s1 := he.cell cA
        have s2 := he.cell cB
        have s3 := he.cell cC
        go_simp
        first | done | with_reducible rfl
      try simp only [Act.put, List.setIfInBounds_toArray, List.set_cons_zero, List.set_cons_succ]
      refine takeT 4 ?v4_4 rfl (by kernel_rfl) (fun _ _ _ h => h) rfl hS ?hy4_4 ?hk4_4
      case hy4_4 =>
        rintro w' he 
        have s1 := he.cell cA
        have s2 := he.cell cB
        have s3 := he.cell cC
        go_simp
        first | done | with_reducible rfl
      try simp only [Act.put, List.setIfInBounds_toArray, List.set_cons_zero, List.set_cons_succ]
      refine oneT 3 rfl (by kernel_rfl) rfl fun K hK => ?_
      go_simp
      refine (without_any A cap l f.path w2.drew (by omega) HM.out (HB.out.ext (hx2.trans hxd))).mono ?_
      rintro e w3 ⟨v3, rfl, ho3, hx3⟩
      obtain ⟨A3, c3, rfl, hr3⟩ := ho3.rd
      refine hK _ _ (fun _ => hx3) ?_
      clear hK K
      try simp only [Act.put, List.setIfInBounds_toArray, List.set_cons_zero, List.set_cons_succ]
      have hwl := without_len f.path l
      refine oneT 5 rfl (by kernel_rfl) rfl fun K hK => ?_
      go_simp
      refine (with_any A3 c3 (withoutL f.path l) _ f w3 (by omega) (without_small _ HM.out) hsf hr3 ⟨_, _, rfl, hfr.ext ((hx2.trans hxd).trans hx3)⟩).mono ?_
      rintro e w4 ⟨v4, rfl, ho4, hx4⟩
      replace hx4 := hx3.trans hx4
      obtain ⟨A4, c4, rfl, hr4⟩ := ho4.rd
      refine hK _ _ (fun _ => hx4) ?_
      clear hK K
      try simp only [Act.put, List.setIfInBounds_toArray, List.set_cons_zero, List.set_cons_succ]
      refine takeT 6 ?v6 rfl (by kernel_rfl) (fun _ _ _ h => h) rfl hx4 ?hy6 ?hk6
      case hy6 =>
        rintro w' he
        go_simp
        first | done | with_reducible rfl
      try simp only [Act.put, List.setIfInBounds_toArray, List.set_cons_zero, List.set_cons_succ]
      refine doneT (by kernel_rfl) ?_ _
      have hx5 := (hx2.trans hxd).trans hx4
      have hpl := put_len f l
      have HR : Hid (RdL w4 A4 (putL f l)) := hr4
      have HLL : Hid ((withL f false (withoutL f.path l)).length = (putL f l).length) := rfl
      rw [HLL.out]
      clear hr4 ho4 ho3 hx3 hx4 cA cB cC hS hxd hx2 hr3 hwl
      go_wp2_with fail
      refine (rcheck_any A4 c4 (putL f l) w4 (by omega) (put_short HS.out HFS.out) HR.out).mono ?_
      rintro e w6 ⟨rfl, hx6⟩
      by_cases hp : checkE (putL f l) = 0
      · have HK := Lib.hid (putE_4 HC.out HV.out hp)
        rw [hp]
        clear hp
        go_wp2_with fail
        try simp only [Exit.inBlock, Exit.then]
        refine bodyPost_ret (results_tmp2 rfl _ _ _) rfl ?_
        exact ⟨A4, c4, by rw [HK.out]; rfl, by rw [HK.out]; exact HR.out.ext hx6, hx5.trans hx6⟩
      · have HK := Lib.hid (putE_3 HC.out HV.out hp)
        have q1 : (checkE (putL f l) == 0) = false := beq_eq_false_iff_ne.2 hp
        have q2 : (checkE (putL f l) != 0) = true := by simp [bne, q1]
        clear hp
        generalize checkE (putL f l) = ce at *
        go_wp2_with fail
        try simp only [Exit.inBlock, Exit.then]
        refine bodyPost_ret (results_tmp2 rfl _ _ _) rfl ?_
        exact ⟨none, 0, by rw [HK.out]; rfl, by rw [HK.out]; exact .inl rfl, hx5.trans hx6⟩
    · have HK := Lib.hid (putE_2 HC.out hv)
      have q1 : (validE f == 0) = false := beq_eq_false_iff_ne.2 hv
      have q2 : (validE f != 0) = true := by simp [bne, q1]
      clear hv
      generalize validE f = ce at *
      go_wp2_with fail
      try simp only [Exit.inBlock, Exit.then]
      refine bodyPost_ret (results_tmp2 rfl _ _ _) rfl ?_
      exact ⟨none, 0, by rw [HK.out]; rfl, by rw [HK.out]; exact .inl rfl, hx2⟩
  · have HK := Lib.hid (putE_1 (f := f) hc)
    have q1 : (checkE l == 0) = false := beq_eq_false_iff_ne.2 hc
    have q2 : (checkE l != 0) = true := by simp [bne, q1]
    clear hc
    generalize checkE l = ce at *
    go_wp2_with fail
    try simp only [Exit.inBlock, Exit.then]
    refine bodyPost_ret (results_tmp2 rfl _ _ _) rfl ?_
    exact ⟨none, 0, by rw [HK.out]; rfl, by rw [HK.out]; exact .inl rfl, hx1⟩

set_option maxRecDepth 100000 in
set_option maxHeartbeats 2000000 in
theorem rremove_any (A : Option Addr) (cap : Nat) (l : List FileV) (p : ByteArray) (w : World) (hn : l.length ≤ 1000) (hs : Short l) (hsm : Small l) (hB : RdL w A l) :
    Calls Tryd.prog 27 #[.slice A l.length cap, .string p] w fun e w' => ∃ Ao co, e = .returned (.tuple #[.slice Ao (removeE l p).1.length co, .int .i64 (removeE l p).2]) ∧ RdL w' Ao (removeE l p).1 ∧ Ext w w' := by
  have HB := Lib.hid hB; clear hB
  have HS := Lib.hid hs; have HM := Lib.hid hsm; clear hs hsm
  go_enter Tryd.func27, Tryd.ntmps27
  go_wp2_with fail
  refine (rcheck_any A cap l w hn HS.out HB.out).mono ?_
  rintro e w1 ⟨rfl, hx1⟩
  by_cases hc : checkE l = 0
  · rw [hc]
    have HC := Lib.hid hc; clear hc
    go_wp2_with fail
    refine (at_any A cap l p w1 hn (HB.out.ext hx1)).mono ?_
    rintro e w2 ⟨rfl, rfl⟩
    rcases hh : hasB p l with _ | _
    · have HK := Lib.hid (removeE_2 HC.out hh)
      rw [atL_not (check_srt HC.out) hh]
      clear hh
      go_wp2_with fail
      try simp only [Exit.inBlock, Exit.then]
      refine bodyPost_ret (results_tmp2 rfl _ _ _) rfl ?_
      exact ⟨none, 0, by rw [HK.out]; rfl, by rw [HK.out]; exact .inl rfl, hx1⟩
    · have HK := Lib.hid (removeE_3 HC.out hh)
      rw [atL_has (check_srt HC.out) hh]
      clear hh
      generalize lowI p l = i at *
      go_wp2_with fail
      refine (without_any A cap l p w1 hn HM.out (HB.out.ext hx1)).mono ?_
      rintro e w3 ⟨v3, rfl, ho3, hx3⟩
      obtain ⟨A4, c4, rfl, hr4⟩ := ho3.rd
      have HR := Lib.hid hr4
      clear hr4 ho3
      go_wp2_with fail
      try simp only [Exit.inBlock, Exit.then]
      refine bodyPost_ret (results_tmp2 rfl _ _ _) rfl ?_
      exact ⟨A4, c4, by rw [HK.out]; rfl, by rw [HK.out]; exact HR.out, hx1.trans hx3⟩
  · have HK := Lib.hid (removeE_1 (p := p) hc)
    have q1 : (checkE l == 0) = false := beq_eq_false_iff_ne.2 hc
    have q2 : (checkE l != 0) = true := by simp [bne, q1]
    clear hc
    generalize checkE l = ce at *
    go_wp2_with fail
    try simp only [Exit.inBlock, Exit.then]
    refine bodyPost_ret (results_tmp2 rfl _ _ _) rfl ?_
    exact ⟨none, 0, by rw [HK.out]; rfl, by rw [HK.out]; exact .inl rfl, hx1⟩
end Go.Proofs.YtcjokhhcncimdaaDoor
