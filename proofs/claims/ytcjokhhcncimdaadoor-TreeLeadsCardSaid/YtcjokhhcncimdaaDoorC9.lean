/- The walk of TreeLeads. -/
import Derived.Test.YtcjokhhcncimdaaDoorW34
import Derived.Test.YtcjokhhcncimdaaDoorW30
import Derived.Test.YtcjokhhcncimdaaDoorC4
import Derived.Test.YtcjokhhcncimdaaDoorLaw6
set_option linter.unusedVariables false
set_option linter.unusedSimpArgs false
namespace Go.Proofs.YtcjokhhcncimdaaDoor
open Go.RowKit Go.PF Go.Tr

theorem check_each {l : List FileV} (h : checkE l = 0) {f : FileV} (hf : f ∈ l) : validE f = 0 := by
  unfold checkE at h
  split at h
  · cases h
  · split at h
    · exact (scan_srt (by assumption)).2.2 f hf
    · exact absurd h (by assumption)
theorem no_bytes : (⟨#[]⟩ : ByteArray).toList = [] := by
  unfold ByteArray.toList ByteArray.toList.loop
  rfl
theorem no_path : pathB ⟨#[]⟩ = false := by
  unfold pathB
  rw [no_bytes]
  first | rfl | decide | kernel_rfl
theorem path_some {l : List FileV} (h : checkE l = 0) {f : FileV} (hf : f ∈ l) : lessB ⟨#[]⟩ f.path = true := by
  have hv := check_each h hf
  have hp : ¬ f.path = ⟨#[]⟩ := fun e => by
    rw [validE_path (by rw [e]; exact no_path)] at hv
    cases hv
  cases hl : lessB ⟨#[]⟩ f.path
  · refine absurd (less_total ?_ hl) hp
    unfold lessB
    rw [no_bytes]
    cases f.path.toList <;> rfl
  · rfl
theorem both_some {a b : List FileV} (ha : checkE a = 0) (hb : checkE b = 0) {p : ByteArray} (hp : p ∈ bothL a b) : lessB ⟨#[]⟩ p = true := by
  rcases both_mem.1 hp with ⟨x, hx, rfl⟩ | ⟨x, hx, rfl⟩
  · exact path_some ha hx
  · exact path_some hb hx

/-- The path ahead of place i of the changes. -/
def lastP (cs : List ChangeV) (i : Nat) : ByteArray := if i = 0 then ⟨#[]⟩ else ((cs[i - 1]?).map (·.path)).getD ⟨#[]⟩
theorem last_succ {cs : List ChangeV} {i : Nat} {c : ChangeV} (h : cs[i]? = some c) : lastP cs (i + 1) = c.path := by simp [lastP, h]
theorem last_less {a b : List FileV} (ha : checkE a = 0) (hb : checkE b = 0) {i : Nat} {c : ChangeV} (h : (diffL a b (bothL a b))[i]? = some c) : lessB (lastP (diffL a b (bothL a b)) i) c.path = true := by
  unfold lastP
  split
  · obtain ⟨p, hp, hc⟩ := diff_mem (List.mem_of_getElem? h)
    rw [change_path hc]
    exact both_some ha hb hp
  · have hpw := diff_pair (a := a) (b := b) (both_srt (check_srt ha) (check_srt hb))
    have hi := (List.getElem?_eq_some_iff.1 h).1
    have hg : (diffL a b (bothL a b))[i - 1]? = some ((diffL a b (bothL a b))[i - 1]'(by omega)) := List.getElem?_eq_getElem _
    rw [hg]
    obtain ⟨hi', he⟩ := List.getElem?_eq_some_iff.1 h
    have := List.pairwise_iff_getElem.1 hpw (i - 1) i (by omega) hi (by omega)
    rw [he] at this
    exact this

theorem leads_fine {b : List FileV} (hs : Short b) (hsm : Small b) (a : List FileV) (ps : List ByteArray) : Fine (diffL a b ps) := fun c hc => by
  rcases new_or hc with h | h
  · exact ⟨hs _ h, hsm _ h⟩
  · rw [h]; exact ⟨Nat.zero_le _, Nat.zero_le _⟩
theorem both_len (a b : List FileV) : (bothL a b).length ≤ a.length + b.length := by
  have := bothN_len (a.length + b.length) a b
  unfold bothL; omega

set_option maxRecDepth 100000 in
set_option maxHeartbeats 8000000 in
theorem leads_all (A B : Option Addr) (ca cb : Nat) (a b : List FileV) (w : World) (hm : Mx w) (hla : a.length ≤ maxLen) (hlb : b.length ≤ maxLen) (hA : RdL w A a) (hB : RdL w B b) :
    Calls Tryd.prog 9 #[.slice A a.length ca, .slice B b.length cb] w fun e w' => e = .returned (.bool true) ∧ Ext w w' := by
  have HA := Lib.hid hA; have HB := Lib.hid hB; clear hA hB
  have HLA := Lib.hid hla; have HLB := Lib.hid hlb; clear hla hlb
  go_enter Tryd.func9, Tryd.ntmps9
  go_wp2_with fail
  have hx0 := ext_alloc1 w (.cells #[.slice A a.length ca, .slice B b.length cb] 22)
  refine (right_any w.heap.size 0 2 [a, b] _ (hm.ext hx0) (by simp) (row2 w A B ca cb a b HA.out HB.out HLA.out HLB.out)).mono ?_
  rintro e w1 ⟨rfl, hx1⟩
  replace hx1 := hx0.trans hx1
  clear hx0
  rcases hr : [a, b].all rightB with _ | _
  · go_wp2_with fail
    refine (awake_any _ (hm.ext hx1)).mono ?_
    rintro e w2 ⟨rfl, hx2⟩
    go_wp2_with fail
    go_ret
    exact ⟨rfl, hx1.trans hx2⟩
  · have hr1 : rightB a = true ∧ rightB b = true := by simpa using hr
    obtain ⟨hf1, hc1⟩ := right_parts hr1.1
    obtain ⟨hf2, hc2⟩ := right_parts hr1.2
    have F1 := Lib.hid (fit_of hf1 (HA.out.ext hx1))
    have F2 := Lib.hid (fit_of hf2 (HB.out.ext hx1))
    have h30 := (few_parts hf1).1
    have h31 := (few_parts hf2).1
    have HC1 := Lib.hid hc1
    have HC2 := Lib.hid hc2
    clear hf1 hf2 hr hr1 hc1 hc2
    go_wp2_with fail
    refine (diff_any A B ca cb a b w1 (hm.ext hx1) (by omega) (by omega) F1.out.short F2.out.short F1.out.small F2.out.small F1.out.rd F2.out.rd).mono ?_
    rw [diffE_3 HC1.out HC2.out]
    rintro e w2 ⟨A1, c1, rfl, hr1, hx2⟩
    have HD1 := Lib.hid hr1
    have hdl := Nat.le_trans (diffL_len a b (bothL a b)) (both_len a b)
    have HFN := Lib.hid (leads_fine F2.out.short F2.out.small a (bothL a b))
    have HPL := Lib.hid (patch_leads HC1.out HC2.out)
    have HLL : Hid (∀ i c, (diffL a b (bothL a b))[i]? = some c → lessB (lastP (diffL a b (bothL a b)) i) c.path = true) := fun i c h => last_less HC1.out HC2.out h
    have HCH : Hid (∀ i c, (diffL a b (bothL a b))[i]? = some c → changeAt a b c.path = some c) := fun i c h => by
      obtain ⟨p, _, hp⟩ := diff_mem (List.mem_of_getElem? h)
      rw [change_path hp]; exact hp
    clear hr1
    have hy2 := hx1.trans hx2
    generalize diffL a b (bothL a b) = ds at *
    go_wp2_with fail
    refine (tpatch_any A A1 ca c1 a ds w2 (hm.ext hy2) (by omega) F1.out.short F1.out.small (F1.out.rd.ext hx2) HD1.out HFN.out).mono ?_
    rw [HPL.out]
    rintro e w3 ⟨A3, c3, rfl, hr3, hx3⟩
    have HP3 := Lib.hid hr3
    replace HD1 := Lib.hid (HD1.out.ext hx3)
    have hz3 := hx2.trans hx3
    clear hr3
    go_wp2_with fail
    refine (diff_any A A ca ca a a w3 (hm.ext (hx1.trans hz3)) (by omega) (by omega) F1.out.short F1.out.short F1.out.small F1.out.small (F1.out.rd.ext hz3) (F1.out.rd.ext hz3)).mono ?_
    rw [diffE_3 HC1.out HC1.out, diff_self]
    rintro e w4 ⟨A4, c4, rfl, hr4, hx4⟩
    replace HD1 := Lib.hid (HD1.out.ext hx4)
    replace HP3 := Lib.hid (HP3.out.ext hx4)
    have hz4 := hz3.trans hx4
    clear hr4
    go_wp2_with fail
    refine (same_same A3 B c3 cb b w4 (by simp only [maxLen]; omega) HP3.out (F2.out.rd.ext hz4)).mono ?_
    rintro e w5 ⟨rfl, hx5⟩
    replace HD1 := Lib.hid (HD1.out.ext hx5)
    have hz5 := hz4.trans hx5
    have HA5 := Lib.hid (F1.out.rd.ext hz5)
    have HB5 := Lib.hid (F2.out.rd.ext hz5)
    have hy5 := hx1.trans hz5
    clear hx1 hx2 hx3 hx4 hx5 hz3 hz4 hz5 hy2 HP3
    go_wp2_with fail
    go_loopg [11, 65] (ds.length + 1) (fun f last i wr => ∃ (i' : Nat), i = .int .i64 i' ∧ last = .string (lastP ds i') ∧ i' ≤ ds.length ∧ ds.length + 1 ≤ i' + f ∧ Ext w5 wr)
    case atStart => exact ⟨0, rfl, rfl, by omega, by omega, Ext.refl _⟩
    case round =>
      obtain ⟨i', rfl, rfl, h2, h3, hx⟩ := hrel
      by_cases hlt : i' < ds.length
      · obtain ⟨c, hci⟩ : ∃ x, ds[i']? = some x := ⟨_, List.getElem?_eq_getElem hlt⟩
        obtain ⟨b0, o0, F, j, G, m, rfl, hr0, hr1, hr2, hr3, hr4, hr5, hr6, hr7, -, -⟩ := (HD1.out.ext hx).cells hci
        have hless := HLL.out i' c hci
        have hch := HCH.out i' c hci
        have HLS := Lib.hid (last_succ hci)
        clear hci
        obtain ⟨kd, p, o, n⟩ := c
        dsimp only at hr0 hr1 hr2 hr3 hr4 hr5 hr6 hr7 hless hch
        replace HLS : Hid (lastP ds (i' + 1) = p) := HLS
        generalize lastP ds i' = lp at *
        have q1 : Op.bytesLess lp.toList p.toList = true := hless
        have q2 : Op.bytesLess p.toList lp.toList = false := less_asymm hless
        have q3 : (p.toList == lp.toList) = false := beq_eq_false_iff_ne.2 (fun e => less_ne hless (ba_inj e.symm))
        clear hless
        have hbx := World.alloc_heap_new wr (.cells #[.int .i64 kd, .string p, .string o.path, .int .i64 o.len, .slice F o.frags.length j, .string n.path, .int .i64 n.len, .slice G n.frags.length m] 67)
        have hxa := ext_alloc1 wr (.cells #[.int .i64 kd, .string p, .string o.path, .int .i64 o.len, .slice F o.frags.length j, .string n.path, .int .i64 n.len, .slice G n.frags.length m] 67)
        go_wp2_with fail
        generalize wr.alloc (.cells #[.int .i64 kd, .string p, .string o.path, .int .i64 o.len, .slice F o.frags.length j, .string n.path, .int .i64 n.len, .slice G n.frags.length m] 67) = W at *
        have hxW := hx.trans hxa
        refine (tfind_any A ca a p W (hm.ext (hy5.trans hxW)) (by omega) F1.out.short (HA5.out.ext hxW)).mono ?_
        rintro e w6 ⟨rfl, hx6⟩
        replace hbx := hx6.blk hbx
        replace hx6 := hxW.trans hx6
        clear hxW hxa hr0 hr1 hr2 hr3 hr4 hr5 hr6 hr7
        obtain ⟨c0, c1, c2, c3, c4, c5, c6, c7⟩ := blk8 hbx
        have hne : ¬ lookE a p = lookE b p := fun e => by rw [change_none e] at hch; cases hch
        rw [change_some hne] at hch
        simp only [Option.some.injEq, ChangeV.mk.injEq] at hch
        obtain ⟨hk, -, -, -⟩ := hch
        cases ha : hasB p a
        · have hla := look_no ha
          rw [find_not p HC1.out ha]
          go_wp2_with fail
          refine (tfind_any B cb b p w6 (hm.ext (hy5.trans hx6)) (by omega) F2.out.short (HB5.out.ext hx6)).mono ?_
          cases hb : hasB p b
          · exact absurd (hla.trans (look_no hb).symm) hne
          · obtain ⟨g, hg, hgp⟩ := has_at hb
            have hlb := look_yes hb hg
            rw [find_has p HC2.out hb]
            rw [hla, hlb] at hk
            obtain rfl : kd = 0 := by simpa using hk.symm
            rintro e w7 ⟨rfl, hx7⟩
            replace hbx := hx7.blk hbx
            replace hx7 := hx6.trans hx7
            clear c0 c1 c2 c3 c4 c5 c6 c7 hla hlb hk hne ha hb hg hgp hx6
            obtain ⟨c0, c1, c2, c3, c4, c5, c6, c7⟩ := blk8 hbx
            generalize lowI p b = ib at *
            go_wp2_with fail
            go_quiet (fail)
            go_wp2_with fail
            go_roundg (gk - 1)
            case measure => omega
            case rel => exact ⟨i' + 1, by go_num, by rw [HLS.out], by omega, by omega, hx7.drewN nq⟩
        · obtain ⟨f, hf, hfp⟩ := has_at ha
          have hla := look_yes ha hf
          have hia : lowI p a < a.length := (List.getElem?_eq_some_iff.1 hf).1
          rw [find_has p HC1.out ha]
          go_wp2_with fail
          refine (tfind_any B cb b p w6 (hm.ext (hy5.trans hx6)) (by omega) F2.out.short (HB5.out.ext hx6)).mono ?_
          cases hb : hasB p b
          · have hlb := look_no hb
            rw [find_not p HC2.out hb]
            rw [hla, hlb] at hk
            obtain rfl : kd = 1 := by simpa using hk.symm
            rintro e w7 ⟨rfl, hx7⟩
            replace hbx := hx7.blk hbx
            replace hx7 := hx6.trans hx7
            clear c0 c1 c2 c3 c4 c5 c6 c7 hla hlb hk hne ha hb hf hfp hx6
            obtain ⟨c0, c1, c2, c3, c4, c5, c6, c7⟩ := blk8 hbx
            generalize lowI p a = ia at *
            go_wp2_with fail
            go_quiet (fail)
            go_wp2_with fail
            go_roundg (gk - 1)
            case measure => omega
            case rel => exact ⟨i' + 1, by go_num, by rw [HLS.out], by omega, by omega, hx7.drewN nq⟩
          · obtain ⟨g, hg, hgp⟩ := has_at hb
            have hlb := look_yes hb hg
            have hib : lowI p b < b.length := (List.getElem?_eq_some_iff.1 hg).1
            rw [find_has p HC2.out hb]
            rw [hla, hlb] at hk
            obtain rfl : kd = 2 := by simpa using hk.symm
            have hfg : ¬ f = g := fun e => hne (by rw [hla, hlb, e])
            have HFG := Lib.hid (decide_eq_false hfg)
            rintro e w7 ⟨rfl, hx7⟩
            replace hbx := hx7.blk hbx
            replace hx7 := hx6.trans hx7
            clear c0 c1 c2 c3 c4 c5 c6 c7 hla hlb hk hne ha hb hfp hgp hx6 hfg
            generalize lowI p a = ia at *
            generalize lowI p b = ib at *
            obtain ⟨c0, c1, c2, c3, c4, c5, c6, c7⟩ := blk8 hbx
            go_wp2_with fail
            have hxd : Ext w7 w7.drew := (Below.refl _ _).drew
            obtain ⟨ba, oa, Fa, ka, rfl, ga1, ga2, ga3, ga4⟩ := (HA5.out.ext (hx7.trans hxd)).at_ hf
            obtain ⟨bb, ob, Fb, kb, rfl, gb1, gb2, gb3, gb4⟩ := (HB5.out.ext (hx7.trans hxd)).at_ hg
            have cK : w7.drew.cell? ⟨wr.heap.size, 0, none⟩ = some (.int .i64 2) := c0
            have cP : w7.drew.cell? ⟨wr.heap.size, 1, none⟩ = some (.string p) := c1
            have hS : Ext w7.drew w7.drew := Ext.refl _
            clear c0 c1 c2 c3 c4 c5 c6 c7 hf hg
            refine wp_region_T (fun W' => Ext w7.drew W') [] (by kernel_rfl) ?_
            refine takeT 0 ?v0_1 rfl (by kernel_rfl) (fun _ _ _ h => h) rfl hS ?hy0_1 ?hk0_1
            case hy0_1 =>
              rintro w' he
              go_simp
              first | done | with_reducible rfl
            try simp only [Act.put, List.setIfInBounds_toArray, List.set_cons_zero, List.set_cons_succ]
            refine takeT 1 ?v1_2 rfl (by kernel_rfl) (fun _ _ _ h => h) rfl hS ?hy1_2 ?hk1_2
            case hy1_2 =>
              rintro w' he 
              have s1 := he.cell cP
              go_simp
              first | done | with_reducible rfl
            try simp only [Act.put, List.setIfInBounds_toArray, List.set_cons_zero, List.set_cons_succ]
            refine takeT 2 ?v2_3 rfl (by kernel_rfl) (fun _ _ _ h => h) rfl hS ?hy2_3 ?hk2_3
            case hy2_3 =>
              rintro w' he
              go_simp
              first | done | with_reducible rfl
            try simp only [Act.put, List.setIfInBounds_toArray, List.set_cons_zero, List.set_cons_succ]
            refine takeT 3 (.bool false) rfl (by kernel_rfl) (fun _ _ _ h => h) rfl hS ?hyk1 ?hkk1
            case hyk1 =>
              rintro w' he
              go_simp
              first | done | with_reducible rfl
            try simp only [Act.put, List.setIfInBounds_toArray, List.set_cons_zero, List.set_cons_succ]
            refine takeT 4 ?v4_4 rfl (by kernel_rfl) (fun _ _ _ h => h) rfl hS ?hy4_4 ?hk4_4
            case hy4_4 =>
              rintro w' he
              go_simp
              first | done | with_reducible rfl
            try simp only [Act.put, List.setIfInBounds_toArray, List.set_cons_zero, List.set_cons_succ]
            refine takeG 5 ?v5_5 rfl (by kernel_rfl) (fun _ _ _ h => h) (by rfl) hS ?hy5_5 ?hk5_5
            case hy5_5 =>
              rintro w' he
              go_simp
              first | done | with_reducible rfl
            try simp only [Act.put, List.setIfInBounds_toArray, List.set_cons_zero, List.set_cons_succ]
            refine takeG 6 ?v6_6 rfl (by kernel_rfl) (fun _ _ _ h => h) (by rfl) hS ?hy6_6 ?hk6_6
            case hy6_6 =>
              rintro w' he
              go_simp
              first | done | with_reducible rfl
            try simp only [Act.put, List.setIfInBounds_toArray, List.set_cons_zero, List.set_cons_succ]
            refine takeG 7 ?v7_7 rfl (by kernel_rfl) (fun _ _ _ h => h) (by rfl) hS ?hy7_7 ?hk7_7
            case hy7_7 =>
              rintro w' he
              go_simp
              first | done | with_reducible rfl
            try simp only [Act.put, List.setIfInBounds_toArray, List.set_cons_zero, List.set_cons_succ]
            refine takeG 8 ?v8_8 rfl (by kernel_rfl) (fun _ _ _ h => h) (by rfl) hS ?hy8_8 ?hk8_8
            case hy8_8 =>
              rintro w' he
              go_simp
              first | done | with_reducible rfl
            try simp only [Act.put, List.setIfInBounds_toArray, List.set_cons_zero, List.set_cons_succ]
            refine takeG 9 ?v9_9 rfl (by kernel_rfl) (fun _ _ _ h => h) (by rfl) hS ?hy9_9 ?hk9_9
            case hy9_9 =>
              rintro w' he
              go_simp
              first | done | with_reducible rfl
            try simp only [Act.put, List.setIfInBounds_toArray, List.set_cons_zero, List.set_cons_succ]
            refine takeG 10 ?v10_10 rfl (by kernel_rfl) (fun _ _ _ h => h) (by rfl) hS ?hy10_10 ?hk10_10
            case hy10_10 =>
              rintro w' he
              go_simp
              first | done | with_reducible rfl
            try simp only [Act.put, List.setIfInBounds_toArray, List.set_cons_zero, List.set_cons_succ]
            refine takeG 11 ?v11_11 rfl (by kernel_rfl) (fun _ _ _ h => h) (by rfl) hS ?hy11_11 ?hk11_11
            case hy11_11 =>
              rintro w' he
              go_simp
              first | done | with_reducible rfl
            try simp only [Act.put, List.setIfInBounds_toArray, List.set_cons_zero, List.set_cons_succ]
            refine takeG 12 ?v12_12 rfl (by kernel_rfl) (fun _ _ _ h => h) (by rfl) hS ?hy12_12 ?hk12_12
            case hy12_12 =>
              rintro w' he
              go_simp
              first | done | with_reducible rfl
            try simp only [Act.put, List.setIfInBounds_toArray, List.set_cons_zero, List.set_cons_succ]
            refine takeG 13 ?v13_13 rfl (by kernel_rfl) (fun _ _ _ h => h) (by rfl) hS ?hy13_13 ?hk13_13
            case hy13_13 =>
              rintro w' he 
              have s1 := he.cell ga1
              have s2 := he.cell ga2
              have s3 := he.cell ga3
              go_simp
              first | done | with_reducible rfl
            try simp only [Act.put, List.setIfInBounds_toArray, List.set_cons_zero, List.set_cons_succ]
            refine takeG 14 ?v14_14 rfl (by kernel_rfl) (fun _ _ _ h => h) (by rfl) hS ?hy14_14 ?hk14_14
            case hy14_14 =>
              rintro w' he
              go_simp
              first | done | with_reducible rfl
            try simp only [Act.put, List.setIfInBounds_toArray, List.set_cons_zero, List.set_cons_succ]
            refine takeG 15 ?v15_15 rfl (by kernel_rfl) (fun _ _ _ h => h) (by rfl) hS ?hy15_15 ?hk15_15
            case hy15_15 =>
              rintro w' he
              go_simp
              first | done | with_reducible rfl
            try simp only [Act.put, List.setIfInBounds_toArray, List.set_cons_zero, List.set_cons_succ]
            refine takeG 16 ?v16_16 rfl (by kernel_rfl) (fun _ _ _ h => h) (by rfl) hS ?hy16_16 ?hk16_16
            case hy16_16 =>
              rintro w' he
              go_simp
              first | done | with_reducible rfl
            try simp only [Act.put, List.setIfInBounds_toArray, List.set_cons_zero, List.set_cons_succ]
            refine takeG 17 ?v17_17 rfl (by kernel_rfl) (fun _ _ _ h => h) (by rfl) hS ?hy17_17 ?hk17_17
            case hy17_17 =>
              rintro w' he 
              have s1 := he.cell gb1
              have s2 := he.cell gb2
              have s3 := he.cell gb3
              go_simp
              first | done | with_reducible rfl
            try simp only [Act.put, List.setIfInBounds_toArray, List.set_cons_zero, List.set_cons_succ]
            refine oneG 18 rfl (by kernel_rfl) (by rfl) fun K hK => ?_
            go_simp
            refine (samefile_any _ _ f g w7.drew ⟨_, _, rfl, ga4⟩ ⟨_, _, rfl, gb4⟩).mono ?_
            rw [HFG.out]
            rintro e w8 ⟨rfl, hx8⟩
            refine hK _ _ (fun _ => hx8) ?_
            clear hK K hS
            have hS := hx8
            try simp only [Act.put, List.setIfInBounds_toArray, List.set_cons_zero, List.set_cons_succ]
            refine takeG 19 ?v19_18 rfl (by kernel_rfl) (fun _ _ _ h => h) (by rfl) hS ?hy19_18 ?hk19_18
            case hy19_18 =>
              rintro w' he
              go_simp
              first | done | with_reducible rfl
            try simp only [Act.put, List.setIfInBounds_toArray, List.set_cons_zero, List.set_cons_succ]
            refine takeT 20 ?v20_19 rfl (by kernel_rfl) (fun _ _ _ h => h) rfl hS ?hy20_19 ?hk20_19
            case hy20_19 =>
              rintro w' he
              go_simp
              first | done | with_reducible rfl
            try simp only [Act.put, List.setIfInBounds_toArray, List.set_cons_zero, List.set_cons_succ]
            refine takeT 21 ?v21_20 rfl (by kernel_rfl) (fun _ _ _ h => h) rfl hS ?hy21_20 ?hk21_20
            case hy21_20 =>
              rintro w' he
              go_simp
              first | done | with_reducible rfl
            try simp only [Act.put, List.setIfInBounds_toArray, List.set_cons_zero, List.set_cons_succ]
            refine takeG 22 ?v22_21 rfl (by kernel_rfl) (fun _ _ _ h => h) (by rfl) hS ?hy22_21 ?hk22_21
            case hy22_21 =>
              rintro w' he
              go_simp
              first | done | with_reducible rfl
            try simp only [Act.put, List.setIfInBounds_toArray, List.set_cons_zero, List.set_cons_succ]
            refine takeG 23 ?v23_22 rfl (by kernel_rfl) (fun _ _ _ h => h) (by rfl) hS ?hy23_22 ?hk23_22
            case hy23_22 =>
              rintro w' he
              go_simp
              first | done | with_reducible rfl
            try simp only [Act.put, List.setIfInBounds_toArray, List.set_cons_zero, List.set_cons_succ]
            refine takeG 24 ?v24_23 rfl (by kernel_rfl) (fun _ _ _ h => h) (by rfl) hS ?hy24_23 ?hk24_23
            case hy24_23 =>
              rintro w' he 
              have s1 := he.cell cK
              go_simp
              first | done | with_reducible rfl
            try simp only [Act.put, List.setIfInBounds_toArray, List.set_cons_zero, List.set_cons_succ]
            refine takeG 25 ?v25_24 rfl (by kernel_rfl) (fun _ _ _ h => h) (by rfl) hS ?hy25_24 ?hk25_24
            case hy25_24 =>
              rintro w' he
              go_simp
              first | done | with_reducible rfl
            try simp only [Act.put, List.setIfInBounds_toArray, List.set_cons_zero, List.set_cons_succ]
            refine takeG 26 ?v26_25 rfl (by kernel_rfl) (fun _ _ _ h => h) (by rfl) hS ?hy26_25 ?hk26_25
            case hy26_25 =>
              rintro w' he
              go_simp
              first | done | with_reducible rfl
            try simp only [Act.put, List.setIfInBounds_toArray, List.set_cons_zero, List.set_cons_succ]
            refine takeT 27 ?v27_26 rfl (by kernel_rfl) (fun _ _ _ h => h) rfl hS ?hy27_26 ?hk27_26
            case hy27_26 =>
              rintro w' he
              go_simp
              first | done | with_reducible rfl
            try simp only [Act.put, List.setIfInBounds_toArray, List.set_cons_zero, List.set_cons_succ]
            refine takeT 28 ?v28_27 rfl (by kernel_rfl) (fun _ _ _ h => h) rfl hS ?hy28_27 ?hk28_27
            case hy28_27 =>
              rintro w' he
              go_simp
              first | done | with_reducible rfl
            try simp only [Act.put, List.setIfInBounds_toArray, List.set_cons_zero, List.set_cons_succ]
            refine takeG 29 ?v29_28 rfl (by kernel_rfl) (fun _ _ _ h => h) (by rfl) hS ?hy29_28 ?hk29_28
            case hy29_28 =>
              rintro w' he
              go_simp
              first | done | with_reducible rfl
            try simp only [Act.put, List.setIfInBounds_toArray, List.set_cons_zero, List.set_cons_succ]
            refine takeG 30 ?v30_29 rfl (by kernel_rfl) (fun _ _ _ h => h) (by rfl) hS ?hy30_29 ?hk30_29
            case hy30_29 =>
              rintro w' he
              go_simp
              first | done | with_reducible rfl
            try simp only [Act.put, List.setIfInBounds_toArray, List.set_cons_zero, List.set_cons_succ]
            refine takeG 31 ?v31_30 rfl (by kernel_rfl) (fun _ _ _ h => h) (by rfl) hS ?hy31_30 ?hk31_30
            case hy31_30 =>
              rintro w' he 
              have s1 := he.cell cK
              go_simp
              first | done | with_reducible rfl
            try simp only [Act.put, List.setIfInBounds_toArray, List.set_cons_zero, List.set_cons_succ]
            refine takeG 32 ?v32_31 rfl (by kernel_rfl) (fun _ _ _ h => h) (by rfl) hS ?hy32_31 ?hk32_31
            case hy32_31 =>
              rintro w' he
              go_simp
              first | done | with_reducible rfl
            try simp only [Act.put, List.setIfInBounds_toArray, List.set_cons_zero, List.set_cons_succ]
            refine takeG 33 ?v33_32 rfl (by kernel_rfl) (fun _ _ _ h => h) (by rfl) hS ?hy33_32 ?hk33_32
            case hy33_32 =>
              rintro w' he
              go_simp
              first | done | with_reducible rfl
            try simp only [Act.put, List.setIfInBounds_toArray, List.set_cons_zero, List.set_cons_succ]
            refine takeT 34 ?v34_33 rfl (by kernel_rfl) (fun _ _ _ h => h) rfl hS ?hy34_33 ?hk34_33
            case hy34_33 =>
              rintro w' he
              go_simp
              first | done | with_reducible rfl
            try simp only [Act.put, List.setIfInBounds_toArray, List.set_cons_zero, List.set_cons_succ]
            refine doneT (by kernel_rfl) ?_ _
            have hbx8 := (hxd.trans hx8).blk hbx
            have hx8' := hx7.trans (hxd.trans hx8)
            clear hS cK cP ga1 ga2 ga3 ga4 gb1 gb2 gb3 gb4
            obtain ⟨c0, c1, c2, c3, c4, c5, c6, c7⟩ := blk8 hbx8
            go_wp2_with fail
            go_roundg (gk - 1)
            case measure => omega
            case rel => exact ⟨i' + 1, by go_num, by rw [HLS.out], by omega, by omega, hx8'⟩
      · obtain rfl : i' = ds.length := by omega
        go_wp2_with fail
        refine (awake_any _ (hm.ext (hy5.trans hx))).mono ?_
        rintro e w6 ⟨rfl, hx6⟩
        go_wp2_with fail
        go_ret
        exact ⟨rfl, hy5.trans (hx.trans hx6)⟩
end Go.Proofs.YtcjokhhcncimdaaDoor
