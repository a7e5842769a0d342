/- The walks of the reference's fits, Copy and Patch. -/
import Derived.Test.YtcjokhhcncimdaaDoorW17
import Derived.Test.YtcjokhhcncimdaaDoorW30
set_option linter.unusedVariables false
set_option linter.unusedSimpArgs false
namespace Go.Proofs.YtcjokhhcncimdaaDoor
open Go.RowKit Go.PF Go.Tr

set_option maxHeartbeats 1000000 in
theorem rfits_any (v : Value) (c : ChangeV) (w : World) (h : ChIs w v c) :
    Calls Tryd.prog 63 #[v] w fun e w' => e = .returned (.bool (fitsB c)) ∧ Ext w w' := by
  obtain ⟨F, j, G, k, rfl, hF, hG⟩ := h
  obtain ⟨kd, p, o, n⟩ := c
  dsimp only at hF hG ⊢
  have hx := ext_alloc2 w (.cells #[.int .i64 kd, .string p, .string o.path, .int .i64 o.len, .slice F o.frags.length j, .string n.path, .int .i64 n.len, .slice G n.frags.length k] 67) (.cells #[.string { data := #[] }, .int .i64 0, .slice none 0 0] 46)
  have HF := Lib.hid (hF.ext hx)
  have HG := Lib.hid (hG.ext hx)
  clear hF hG
  by_cases h0 : kd = 0
  · have HK := Lib.hid (chfit0 (c := ⟨kd, p, o, n⟩) h0)
    subst h0
    by_cases hp : n.path = p
    · have q1 : (n.path.toList == p.toList) = true := by rw [hp]; simp
      have HP : Hid (decide (n.path = p) = true) := decide_eq_true hp
      clear hp
      go_enter Tryd.func63, Tryd.ntmps63
      go_wp2_with fail
      refine (samefile_any _ _ o noFile _ ⟨_, _, rfl, HF.out⟩ (noFile_is _)).mono ?_
      rintro e w1 ⟨rfl, hx1⟩
      go_wp2_with fail
      go_ret
      exact ⟨by rw [HK.out]; simp [HP.out], hx.trans hx1⟩
    · have q1 : (n.path.toList == p.toList) = false := beq_eq_false_iff_ne.2 (fun e => hp (ba_inj e))
      have HP : Hid (decide (n.path = p) = false) := decide_eq_false hp
      clear hp
      go_enter Tryd.func63, Tryd.ntmps63
      go_wp2_with fail
      go_ret
      exact ⟨by rw [HK.out]; simp [HP.out, q1], hx⟩
  · by_cases h1 : kd = 1
    · have HK := Lib.hid (chfit1 (c := ⟨kd, p, o, n⟩) h0 h1)
      subst h1
      clear h0
      by_cases hp : o.path = p
      · have q1 : (o.path.toList == p.toList) = true := by rw [hp]; simp
        have HP : Hid (decide (o.path = p) = true) := decide_eq_true hp
        clear hp
        go_enter Tryd.func63, Tryd.ntmps63
        go_wp2_with fail
        refine (samefile_any _ _ n noFile _ ⟨_, _, rfl, HG.out⟩ (noFile_is _)).mono ?_
        rintro e w1 ⟨rfl, hx1⟩
        go_wp2_with fail
        go_ret
        exact ⟨by rw [HK.out]; simp [HP.out], hx.trans hx1⟩
      · have q1 : (o.path.toList == p.toList) = false := beq_eq_false_iff_ne.2 (fun e => hp (ba_inj e))
        have HP : Hid (decide (o.path = p) = false) := decide_eq_false hp
        clear hp
        go_enter Tryd.func63, Tryd.ntmps63
        go_wp2_with fail
        go_ret
        exact ⟨by rw [HK.out]; simp [HP.out, q1], hx⟩
    · by_cases h2 : kd = 2
      · have HK := Lib.hid (chfit2 (c := ⟨kd, p, o, n⟩) h0 h1 h2)
        subst h2
        clear h0 h1
        by_cases hp : o.path = p
        · have q1 : (o.path.toList == p.toList) = true := by rw [hp]; simp
          have HP : Hid (decide (o.path = p) = true) := decide_eq_true hp
          have HQ := Lib.hid (path_eq n.path p)
          clear hp
          go_enter Tryd.func63, Tryd.ntmps63
          go_wp2_with fail
          go_ret
          exact ⟨by rw [HK.out]; simp [HP.out, HQ.out], hx⟩
        · have q1 : (o.path.toList == p.toList) = false := beq_eq_false_iff_ne.2 (fun e => hp (ba_inj e))
          have HP : Hid (decide (o.path = p) = false) := decide_eq_false hp
          clear hp
          go_enter Tryd.func63, Tryd.ntmps63
          go_wp2_with fail
          go_ret
          exact ⟨by rw [HK.out]; simp [HP.out, q1], hx⟩
      · have HK := Lib.hid (chfit3 (c := ⟨kd, p, o, n⟩) h0 h1 h2)
        have q0 : (kd == 0) = false := beq_eq_false_iff_ne.2 h0
        have q1 : (kd == 1) = false := beq_eq_false_iff_ne.2 h1
        have q2 : (kd == 2) = false := beq_eq_false_iff_ne.2 h2
        go_enter Tryd.func63, Tryd.ntmps63
        go_wp2_with fail
        go_ret
        exact ⟨by rw [HK.out]; rfl, hx⟩

set_option maxRecDepth 100000 in
set_option maxHeartbeats 1000000 in
theorem rcopy_any (A : Option Addr) (cap : Nat) (l : List FileV) (w : World) (hn : l.length ≤ 1000) (hsm : Small l) (hB : RdL w A l) :
    Calls Tryd.prog 62 #[.slice A l.length cap] w fun e w' => ∃ v, e = .returned v ∧ OwnL w.heap.size w' v l ∧ Ext w w' := by
  have HB := Lib.hid hB; clear hB
  have HM := Lib.hid hsm; clear hsm
  obtain ⟨i46, hi46, hz46, hz46', hz46''⟩ := info_parts info46
  have HI := Lib.hid hi46; have HZ0 := Lib.hid hz46; have HZ1 := Lib.hid hz46'; have HZ2 := Lib.hid hz46''
  clear hi46 hz46 hz46' hz46''
  go_enter Tryd.func62, Tryd.ntmps62
  go_wp2_with fail
  go_loopg [3, 4] (l.length + 1) (fun f out i wr => ∃ (i' : Nat), i = .int .i64 i' ∧ i' ≤ l.length ∧ l.length + 1 ≤ i' + f ∧ Hid (OwnL w.heap.size wr out (l.take i')) ∧ Ext w wr)
  case atStart => exact ⟨0, rfl, by omega, by omega, OwnL.nil _ _, Ext.refl _⟩
  case round =>
    obtain ⟨i', rfl, h2, h3, HO, hx⟩ := hrel
    by_cases hlt : i' < l.length
    · obtain ⟨f, hf⟩ : ∃ x, l[i']? = some x := ⟨_, List.getElem?_eq_getElem hlt⟩
      obtain ⟨b, o, F, k, rfl, hr1, hr2, hr3, hr4⟩ := (HB.out.ext hx).at_ hf
      have hsm := HM.out f (List.mem_of_getElem? hf)
      have HW := Lib.hid (take_succ_eq hf)
      have hwl := List.length_take_le i' l
      clear hf
      go_wp2_with fail
      refine (copyfile_any _ f wr ⟨_, _, rfl, hr4⟩ hsm).mono ?_
      rintro e w1 ⟨v', rfl, ⟨F', k', rfl, ho⟩, hx1⟩
      have HF := Lib.hid (ho.mono (n1 := w.heap.size) hx.size)
      obtain ⟨xs, hro0, hok0⟩ := HO.out.ext hx1
      have HK := Lib.hid hok0
      have hro := hro0
      have hsz : w.heap.size ≤ w1.heap.size := (hx.trans hx1).size
      clear hr1 hr2 hr3 hr4 ho hok0 hro0
      go_wp2_with (at_builtin; refine wpList_append1 rfl (.tmp 11) (.tmp 17) 22 rfl w.heap.size 46 i46 _ 3 48 Tryd.underlying22 HI.out HZ0.out HZ1.out HZ2.out rfl (by decide) (by decide) u3 _ xs rfl hro [.string f.path, .int .i64 f.len, .slice F' f.frags.length k'] rfl rfl (by simp [Value.oneCell']) (by omega) hsz ?_; intro v' w2 hown' hbel _ hg; have HN := Lib.hid (OwnL.snoc hro HK.out HF.out hown' hg); clear hro hown' hg)
      go_roundg (gk - 1)
      case measure => omega
      case rel => exact ⟨i' + 1, by go_num, by omega, by omega, by rw [HW.out]; exact HN.out, Below.trans (hx.trans hx1) hbel⟩
    · obtain rfl : i' = l.length := by omega
      have HO2 : Hid (OwnL w.heap.size wr u3 l) := by have := HO.out; rwa [List.take_length] at this
      go_wp2_with fail
      go_ret
      exact ⟨_, rfl, HO2.out, hx⟩

theorem patch_err {cs : List ChangeV} {i : Nat} {c : ChangeV} {l l' : List FileV} {e : Int} (hp : patchL cs l = patchL (cs.drop i) l') (hc : cs[i]? = some c) (hs : stepE l' c = ([], e)) (he : ¬ e = 0) (hck : checkE l = 0) : patchE l cs = ([], e) := by
  have h := patch_stop (l := l') hc (by rw [hs]; exact he)
  rw [hs] at h
  exact patchE_2 hck (hp.trans h) he
theorem patch_ok {cs : List ChangeV} {i : Nat} {c : ChangeV} {l l' m : List FileV} (hp : patchL cs l = patchL (cs.drop i) l') (hc : cs[i]? = some c) (hs : stepE l' c = (m, 0)) : patchL cs l = patchL (cs.drop (i + 1)) m := by
  have h := patch_go (l := l') hc (by rw [hs])
  rw [hs] at h
  exact hp.trans h

set_option maxRecDepth 100000 in
set_option maxHeartbeats 4000000 in
theorem rpatch_any (A C : Option Addr) (ca cc : Nat) (l : List FileV) (cs : List ChangeV) (w : World) (hn : l.length + cs.length ≤ 900) (hs : Short l) (hsm : Small l) (hB : RdL w A l) (hC : RdC w C cs) (hF : Fine cs) :
    Calls Tryd.prog 34 #[.slice A l.length ca, .slice C cs.length cc] w fun e w' => ∃ Ao co, e = .returned (.tuple #[.slice Ao (patchE l cs).1.length co, .int .i64 (patchE l cs).2]) ∧ RdL w' Ao (patchE l cs).1 ∧ Ext w w' := by
  have HB := Lib.hid hB; clear hB
  have HC := Lib.hid hC; clear hC
  have HS := Lib.hid hs; have HM := Lib.hid hsm; have HF := Lib.hid hF; clear hs hsm hF
  go_enter Tryd.func34, Tryd.ntmps34
  go_wp2_with fail
  refine (rcheck_any A ca l w (by omega) HS.out HB.out).mono ?_
  rintro e w1 ⟨rfl, hx1⟩
  by_cases hc : checkE l = 0
  · rw [hc]
    have HCK := Lib.hid hc; clear hc
    go_wp2_with fail
    refine (rcopy_any A ca l w1 (by omega) HM.out (HB.out.ext hx1)).mono ?_
    rintro e w2 ⟨v2, rfl, ho2, hx2⟩
    obtain ⟨A2, c2, rfl, hr2⟩ := ho2.rd
    have HO2 := Lib.hid hr2; clear ho2 hr2
    go_wp2_with fail
    go_loopg [7, 8] (cs.length + 1) (fun f out i wr => ∃ (i' : Nat) (l' : List FileV) (A' : Option Addr) (c' : Nat), out = .slice A' l'.length c' ∧ i = .int .i64 i' ∧ i' ≤ cs.length ∧ cs.length + 1 ≤ i' + f ∧ l'.length ≤ l.length + i' ∧ Hid (patchL cs l = patchL (cs.drop i') l') ∧ Hid (RdL wr A' l') ∧ Hid (Srt l') ∧ Hid (Short l') ∧ Hid (Small l') ∧ Ext w1 wr)
    case atStart => exact ⟨0, l, A2, c2, rfl, rfl, by omega, by omega, by omega, rfl, HO2.out, check_srt HCK.out, HS.out, HM.out, hx2⟩
    case round =>
      obtain ⟨i', l', A', c', rfl, rfl, h2, h3, h4, HP, HR, HSR, HSH, HSM, hx⟩ := hrel
      by_cases hlt : i' < cs.length
      · obtain ⟨c, hci⟩ : ∃ x, cs[i']? = some x := ⟨_, List.getElem?_eq_getElem hlt⟩
        obtain ⟨b, o0, F, j, G, m, rfl, hr0, hr1, hr2, hr3, hr4, hr5, hr6, hr7, hf1, hf2⟩ := (HC.out.ext (hx1.trans hx)).cells hci
        have hfc := HF.out c (List.mem_of_getElem? hci)
        have HCI := Lib.hid hci
        clear hci
        obtain ⟨kd, p, o, n⟩ := c
        dsimp only at *
        have hbx := World.alloc_heap_new wr (.cells #[.int .i64 kd, .string p, .string o.path, .int .i64 o.len, .slice F o.frags.length j, .string n.path, .int .i64 n.len, .slice G n.frags.length m] 67)
        have hxa := ext_alloc1 wr (.cells #[.int .i64 kd, .string p, .string o.path, .int .i64 o.len, .slice F o.frags.length j, .string n.path, .int .i64 n.len, .slice G n.frags.length m] 67)
        go_wp2_with fail
        generalize wr.alloc (.cells #[.int .i64 kd, .string p, .string o.path, .int .i64 o.len, .slice F o.frags.length j, .string n.path, .int .i64 n.len, .slice G n.frags.length m] 67) = W at *
        refine (rfits_any _ ⟨kd, p, o, n⟩ W ⟨_, _, _, _, rfl, hf1.ext hxa, hf2.ext hxa⟩).mono ?_
        rintro e w3 ⟨rfl, hx3⟩
        replace hbx := hx3.blk hbx
        replace hx3 := hxa.trans hx3
        clear hr0 hr1 hr2 hr3 hr4 hr5 hr6 hr7 hxa
        obtain ⟨c0, c1, c2, c3, c4, c5, c6, c7⟩ := blk8 hbx
        rcases hfit : fitsB ⟨kd, p, o, n⟩ with _ | _
        · have HK := Lib.hid (patch_err HP.out HCI.out (step_fit hfit) (by decide) HCK.out)
          clear hfit
          go_wp2_with fail
          try simp only [Exit.inBlock, Exit.then]
          refine bodyPost_ret (results_tmp2 rfl _ _ _) rfl ?_
          exact ⟨none, 0, by rw [HK.out]; rfl, by rw [HK.out]; exact .inl rfl, hx1.trans (hx.trans hx3)⟩
        · have HFIT := Lib.hid hfit; clear hfit
          go_wp2_with fail
          refine (get_any A' c' l' p w3 (by omega) HSM.out (HR.out.ext hx3)).mono ?_
          rcases hh : hasB p l' with _ | _
          · rw [get_look _ HSR.out, look_no hh]
            rintro e w4 ⟨v4, rfl, ⟨F4, k4, rfl, hof⟩, hx4⟩
            replace hbx := hx4.blk hbx
            replace hx4 := hx3.trans hx4
            have HFO := Lib.hid hof.1
            clear c0 c1 c2 c3 c4 c5 c6 c7 hx3 hof
            have hxb := ext_alloc1 w4 (.cells #[.string noFile.path, .int .i64 noFile.len, .slice F4 noFile.frags.length k4] 46)
            obtain ⟨c0, c1, c2, c3, c4, c5, c6, c7⟩ := blk8 (hxb.blk hbx)
            have hx5 := hx4.trans hxb
            by_cases h0 : kd = 0
            · subst h0
              have HST := Lib.hid (patch_ok HP.out HCI.out (step_put (l := l') HFIT.out (show ¬ (0:Int) = 1 by decide) (.inl ⟨rfl, hh⟩)))
              have HNP := Lib.hid (fits_path HFIT.out (show ¬ (0:Int) = 1 by decide))
              clear hh
              go_wp2_with fail
              refine (without_any A' c' l' p _ (by omega) HSM.out (HR.out.ext hx5)).mono ?_
              rintro e w6 ⟨v6, rfl, ho6, hx6⟩
              obtain ⟨A6, c6', rfl, hr6⟩ := ho6.rd
              have HR6 := Lib.hid hr6
              have hwl := without_len p l'
              replace hbx := hx6.blk (hxb.blk hbx)
              replace hx6 := hx5.trans hx6
              clear c0 c1 c2 c3 c4 c5 c6 c7 ho6 hr6 hx4 hxb hx5
              obtain ⟨c0, c1, c2, c3, c4, c5, c6, c7⟩ := blk8 hbx
              go_wp2_with fail
              refine (with_any A6 c6' (withoutL p l') _ n w6 (by omega) (without_small _ HSM.out) hfc.2 HR6.out ⟨_, _, rfl, hf2.ext hx6⟩).mono ?_
              rintro e w7 ⟨v7, rfl, ho7, hx7⟩
              have HPE : Hid (withL n false (withoutL p l') = putL n l') := by rw [← (show n.path = p from HNP.out)]; rfl
              rw [HPE.out] at ho7
              obtain ⟨A7, c7', rfl, hr7⟩ := ho7.rd
              have HR7 := Lib.hid hr7
              have hpl := put_len n l'
              clear ho7 hr7 c0 c1 c2 c3 c4 c5 c6 c7
              go_wp2_with fail
              go_roundg (gk - 1)
              case measure => omega
              case rel => exact ⟨i' + 1, putL n l', A7, c7', rfl, by go_num, by omega, by omega, by omega, HST.out, HR7.out, put_srt HSR.out, put_short HSH.out hfc.1, put_small HSM.out hfc.2, hx.trans (hx6.trans hx7)⟩
            · have HK := Lib.hid (patch_err HP.out HCI.out (step_none (l := l') HFIT.out h0 hh) (by decide) HCK.out)
              have q0 : (kd == 0) = false := beq_eq_false_iff_ne.2 h0
              have q0' : (kd != 0) = true := by simp [bne, q0]
              clear hh h0
              go_wp2_with fail
              try simp only [Exit.inBlock, Exit.then]
              refine bodyPost_ret (results_tmp2 rfl _ _ _) rfl ?_
              exact ⟨none, 0, by rw [HK.out]; rfl, by rw [HK.out]; exact .inl rfl, hx1.trans (hx.trans hx5)⟩
          · obtain ⟨g, hg, hgp⟩ := has_at hh
            have hlk := look_yes hh hg
            rw [get_look _ HSR.out, hlk]
            rintro e w4 ⟨v4, rfl, ⟨F4, k4, rfl, hof⟩, hx4⟩
            replace hbx := hx4.blk hbx
            replace hx4 := hx3.trans hx4
            have HFO := Lib.hid hof.1
            clear c0 c1 c2 c3 c4 c5 c6 c7 hx3 hof
            have hxb := ext_alloc1 w4 (.cells #[.string g.path, .int .i64 g.len, .slice F4 g.frags.length k4] 46)
            obtain ⟨c0, c1, c2, c3, c4, c5, c6, c7⟩ := blk8 (hxb.blk hbx)
            have hx5 := hx4.trans hxb
            by_cases h0 : kd = 0
            · subst h0
              have HK := Lib.hid (patch_err HP.out HCI.out (step_twice (l := l') HFIT.out rfl hh) (by decide) HCK.out)
              clear hh hg hgp hlk
              go_wp2_with fail
              try simp only [Exit.inBlock, Exit.then]
              refine bodyPost_ret (results_tmp2 rfl _ _ _) rfl ?_
              exact ⟨none, 0, by rw [HK.out]; rfl, by rw [HK.out]; exact .inl rfl, hx1.trans (hx.trans hx5)⟩
            · have q0 : (kd == 0) = false := beq_eq_false_iff_ne.2 h0
              have q0' : (kd != 0) = true := by simp [bne, q0]
              have HHH := Lib.hid hh
              have H0 := Lib.hid h0
              have HEQ : Hid (decide (g = o) = decide ((lookE l' p).f = o)) := by rw [Hid, hlk]
              clear hh hg hgp hlk h0
              go_wp2_with fail
              refine (samefile_any _ _ g o _ ⟨_, _, rfl, HFO.out.ext hxb⟩ ⟨_, _, rfl, hf1.ext hx5⟩).mono ?_
              generalize decide (g = o) = bb at *
              rintro e w6 ⟨rfl, hx6⟩
              replace hbx := hx6.blk (hxb.blk hbx)
              replace hx6 := hx5.trans hx6
              clear c0 c1 c2 c3 c4 c5 c6 c7 hx4 hxb hx5
              obtain ⟨c0, c1, c2, c3, c4, c5, c6, c7⟩ := blk8 hbx
              cases bb
              · have HK := Lib.hid (patch_err HP.out HCI.out (step_other (l := l') HFIT.out H0.out HHH.out (of_decide_eq_false HEQ.out.symm)) (by decide) HCK.out)
                go_wp2_with fail
                try simp only [Exit.inBlock, Exit.then]
                refine bodyPost_ret (results_tmp2 rfl _ _ _) rfl ?_
                exact ⟨none, 0, by rw [HK.out]; rfl, by rw [HK.out]; exact .inl rfl, hx1.trans (hx.trans hx6)⟩
              · have HE := Lib.hid (of_decide_eq_true HEQ.out.symm)
                go_wp2_with fail
                refine (without_any A' c' l' p _ (by omega) HSM.out (HR.out.ext hx6)).mono ?_
                rintro e w7 ⟨v7, rfl, ho7, hx7⟩
                obtain ⟨A7, c7', rfl, hr7⟩ := ho7.rd
                have HR7 := Lib.hid hr7
                have hwl := without_len p l'
                replace hbx := hx7.blk hbx
                replace hx7 := hx6.trans hx7
                clear c0 c1 c2 c3 c4 c5 c6 c7 ho7 hr7 hx6
                obtain ⟨c0, c1, c2, c3, c4, c5, c6, c7⟩ := blk8 hbx
                by_cases h1 : kd = 1
                · have HST := Lib.hid (patch_ok HP.out HCI.out (step_del (l := l') HFIT.out h1 HHH.out HE.out))
                  subst h1
                  go_wp2_with fail
                  go_roundg (gk - 1)
                  case measure => omega
                  case rel => exact ⟨i' + 1, withoutL p l', A7, c7', rfl, by go_num, by omega, by omega, by omega, HST.out, HR7.out, without_srt HSR.out, without_short _ HSH.out, without_small _ HSM.out, hx.trans hx7⟩
                · have HST := Lib.hid (patch_ok HP.out HCI.out (step_put (l := l') HFIT.out h1 (.inr ⟨H0.out, HHH.out, HE.out⟩)))
                  have HNP := Lib.hid (fits_path HFIT.out h1)
                  have q1 : (kd == 1) = false := beq_eq_false_iff_ne.2 h1
                  have q1' : (kd != 1) = true := by simp [bne, q1]
                  clear h1
                  go_wp2_with fail
                  refine (with_any A7 c7' (withoutL p l') _ n w7 (by omega) (without_small _ HSM.out) hfc.2 HR7.out ⟨_, _, rfl, hf2.ext hx7⟩).mono ?_
                  rintro e w8 ⟨v8, rfl, ho8, hx8⟩
                  have HPE : Hid (withL n false (withoutL p l') = putL n l') := by rw [← (show n.path = p from HNP.out)]; rfl
                  rw [HPE.out] at ho8
                  obtain ⟨A8, c8', rfl, hr8⟩ := ho8.rd
                  have HR8 := Lib.hid hr8
                  have hpl := put_len n l'
                  clear ho8 hr8 c0 c1 c2 c3 c4 c5 c6 c7
                  go_wp2_with fail
                  go_roundg (gk - 1)
                  case measure => omega
                  case rel => exact ⟨i' + 1, putL n l', A8, c8', rfl, by go_num, by omega, by omega, by omega, HST.out, HR8.out, put_srt HSR.out, put_short HSH.out hfc.1, put_small HSM.out hfc.2, hx.trans (hx7.trans hx8)⟩
      · obtain rfl : i' = cs.length := by omega
        have HPN : Hid (patchL cs l = (l', 0)) := by rw [Hid, HP.out, List.drop_length]; rfl
        go_wp2_with fail
        refine (rcheck_any A' c' l' wr (by omega) HSH.out HR.out).mono ?_
        rintro e w6 ⟨rfl, hx6⟩
        by_cases hp : checkE l' = 0
        · have HK := Lib.hid (patchE_4 HCK.out HPN.out hp)
          rw [hp]
          clear hp
          go_wp2_with fail
          try simp only [Exit.inBlock, Exit.then]
          refine bodyPost_ret (results_tmp2 rfl _ _ _) rfl ?_
          exact ⟨A', c', by rw [HK.out]; rfl, by rw [HK.out]; exact HR.out.ext hx6, (hx1.trans hx).trans hx6⟩
        · have HK := Lib.hid (patchE_3 HCK.out HPN.out hp)
          have q1 : (checkE l' == 0) = false := beq_eq_false_iff_ne.2 hp
          have q2 : (checkE l' != 0) = true := by simp [bne, q1]
          clear hp
          generalize checkE l' = ce at *
          go_wp2_with fail
          try simp only [Exit.inBlock, Exit.then]
          refine bodyPost_ret (results_tmp2 rfl _ _ _) rfl ?_
          exact ⟨none, 0, by rw [HK.out]; rfl, by rw [HK.out]; exact .inl rfl, (hx1.trans hx).trans hx6⟩
  · have HK := Lib.hid (patchE_1 (cs := cs) hc)
    have q1 : (checkE l == 0) = false := beq_eq_false_iff_ne.2 hc
    have q2 : (checkE l != 0) = true := by simp [bne, q1]
    clear hc
    generalize checkE l = ce at *
    go_wp2_with fail
    try simp only [Exit.inBlock, Exit.then]
    refine bodyPost_ret (results_tmp2 rfl _ _ _) rfl ?_
    exact ⟨none, 0, by rw [HK.out]; rfl, by rw [HK.out]; exact .inl rfl, hx1⟩
end Go.Proofs.YtcjokhhcncimdaaDoor
