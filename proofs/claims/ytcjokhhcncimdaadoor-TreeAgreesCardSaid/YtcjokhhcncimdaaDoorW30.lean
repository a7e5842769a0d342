/- The walk of the tree's Patch. -/
import Derived.Test.YtcjokhhcncimdaaDoorW29
set_option linter.unusedVariables false
set_option linter.unusedSimpArgs false
namespace Go.Proofs.YtcjokhhcncimdaaDoor
open Go.RowKit Go.PF Go.Tr

theorem RdC.cells {w : World} {A : Option Addr} {cs : List ChangeV} (h : RdC w A cs) {k : Nat} {c : ChangeV} (hk : cs[k]? = some c) :
    ∃ b off F j G m, A = some ⟨b, off, none⟩ ∧ w.cell? ⟨b, off + k * 8, none⟩ = some (.int .i64 c.kind) ∧ w.cell? ⟨b, off + k * 8 + 1, none⟩ = some (.string c.path) ∧ w.cell? ⟨b, off + k * 8 + 2, none⟩ = some (.string c.old.path) ∧ w.cell? ⟨b, off + k * 8 + 3, none⟩ = some (.int .i64 c.old.len) ∧ w.cell? ⟨b, off + k * 8 + 4, none⟩ = some (.slice F c.old.frags.length j) ∧ w.cell? ⟨b, off + k * 8 + 5, none⟩ = some (.string c.new.path) ∧ w.cell? ⟨b, off + k * 8 + 6, none⟩ = some (.int .i64 c.new.len) ∧ w.cell? ⟨b, off + k * 8 + 7, none⟩ = some (.slice G c.new.frags.length m) ∧ Fr w F j c.old.frags ∧ Fr w G m c.new.frags := by
  obtain ⟨b, off, F, j, G, m, hA, h, h1, h2⟩ := h.at_ hk
  exact ⟨b, off, F, j, G, m, hA, h 0 _ rfl, h 1 _ rfl, h 2 _ rfl, h 3 _ rfl, h 4 _ rfl, h 5 _ rfl, h 6 _ rfl, h 7 _ rfl, h1, h2⟩

/-- The changes may be put into a tree. -/
def Fine (cs : List ChangeV) : Prop := ∀ c ∈ cs, c.new.path.size ≤ maxLen ∧ c.new.frags.length * 8 ≤ 140737488355328
theorem step_short {l : List FileV} {c : ChangeV} (h : Short l) (hc : c.new.path.size ≤ maxLen) : Short (stepE l c).1 := fun f hf => by
  rcases step_mem hf with h1 | rfl
  · exact h f h1
  · exact hc

set_option maxRecDepth 100000 in
set_option maxHeartbeats 4000000 in
theorem tpatch_any (A C : Option Addr) (ca cc : Nat) (l : List FileV) (cs : List ChangeV) (w : World) (hm : Mx w) (hn : l.length + cs.length ≤ 900) (hs : Short l) (hsm : Small l) (hB : RdL w A l) (hC : RdC w C cs) (hF : Fine cs) :
    Calls Tryd.prog 33 #[.slice A l.length ca, .slice C cs.length cc] w fun e w' => ∃ Ao co, e = .returned (.tuple #[.slice Ao (patchE l cs).1.length co, .int .i64 (patchE l cs).2]) ∧ RdL w' Ao (patchE l cs).1 ∧ Ext w w' := by
  have HB := Lib.hid hB; clear hB
  have HC := Lib.hid hC; clear hC
  have HS := Lib.hid hs; have HM := Lib.hid hsm; have HF := Lib.hid hF; clear hs hsm hF
  go_enter Tryd.func33, Tryd.ntmps33
  go_wp2_with fail
  refine (tcheck_any A ca l w hm (by omega) HS.out HB.out).mono ?_
  rintro e w1 ⟨rfl, hx1⟩
  by_cases hc : checkE l = 0
  · rw [hc]
    have HCK := Lib.hid hc; clear hc
    go_wp2_with fail
    refine (tclone_any A ca l w1 (by omega) HM.out (HB.out.ext hx1)).mono ?_
    rintro e w2 ⟨v2, rfl, ho2, hx2⟩
    have HO2 := Lib.hid ho2; clear ho2
    go_wp2_with fail
    go_loopg [7, 22] (cs.length + 1) (fun f out i wr => ∃ (i' : Nat) (l' : List FileV), i = .int .i64 i' ∧ i' ≤ cs.length ∧ cs.length + 1 ≤ i' + f ∧ l'.length ≤ l.length + i' ∧ Hid (patchL cs l = patchL (cs.drop i') l') ∧ Hid (OwnL w1.heap.size wr out l') ∧ Hid (Srt l') ∧ Hid (Short l') ∧ Ext w1 wr)
    case atStart => exact ⟨0, l, rfl, by omega, by omega, by omega, rfl, HO2.out, check_srt HCK.out, HS.out, hx2⟩
    case round =>
      obtain ⟨i', l', rfl, h2, h3, h4, HP, HO, HSR, HSH, hx⟩ := hrel
      by_cases hlt : i' < cs.length
      · obtain ⟨c, hci⟩ : ∃ x, cs[i']? = some x := ⟨_, List.getElem?_eq_getElem hlt⟩
        obtain ⟨b, o, F, j, G, m, rfl, hr0, hr1, hr2, hr3, hr4, hr5, hr6, hr7, hf1, hf2⟩ := (HC.out.ext (hx1.trans hx)).cells hci
        have hfc := HF.out c (List.mem_of_getElem? hci)
        have HCI := Lib.hid hci
        have hxa := ext_alloc1 wr (.cells #[.int .i64 c.kind, .string c.path, .string c.old.path, .int .i64 c.old.len, .slice F c.old.frags.length j, .string c.new.path, .int .i64 c.new.len, .slice G c.new.frags.length m] 67)
        clear hci
        go_wp2_with fail
        refine (patch1_any w1.heap.size _ _ l' c _ (HO.out.ext hxa) HSR.out (by omega) ⟨_, _, _, _, rfl, hf1.ext hxa, hf2.ext hxa⟩ hfc.2 (hx.trans hxa).size).mono ?_
        rintro e w3 ⟨v3, rfl, ho3, hb3⟩
        have HO3 := Lib.hid ho3
        have hx3 : Ext w1 w3 := Below.trans (hx.trans hxa) hb3
        have hsl := step_len l' c
        clear ho3 hb3 hr0 hr1 hr2 hr3 hr4 hr5 hr6 hr7 hf1 hf2 hxa
        by_cases he : (stepE l' c).2 = 0
        · have HPN := Lib.hid (HP.out.trans (patch_go HCI.out he))
          rw [he]
          clear he
          go_wp2_with fail
          go_roundg (gk - 1)
          case measure => omega
          case rel => exact ⟨i' + 1, (stepE l' c).1, by go_num, by omega, by omega, by omega, HPN.out, HO3.out, step_srt HSR.out, step_short HSH.out hfc.1, hx3⟩
        · have HPN := Lib.hid (HP.out.trans (patch_stop HCI.out he))
          have HK := Lib.hid (patchE_2 HCK.out HPN.out he)
          have q1 : ((stepE l' c).2 == 0) = false := beq_eq_false_iff_ne.2 he
          have q2 : ((stepE l' c).2 != 0) = true := by simp [bne, q1]
          clear he
          generalize (stepE l' c).2 = ce at *
          go_wp2_with fail
          try simp only [Exit.inBlock, Exit.then]
          refine bodyPost_ret (results_tmp2 rfl _ _ _) rfl ?_
          exact ⟨none, 0, by rw [HK.out]; rfl, by rw [HK.out]; exact .inl rfl, hx1.trans hx3⟩
      · obtain rfl : i' = cs.length := by omega
        have HPN : Hid (patchL cs l = (l', 0)) := by rw [Hid, HP.out, List.drop_length]; rfl
        obtain ⟨A4, c4, rfl, hr4⟩ := HO.out.rd
        have HR := Lib.hid hr4
        clear hr4
        go_wp2_with fail
        refine (tcheck_any A4 c4 l' wr (hm.ext (hx1.trans hx)) (by omega) HSH.out HR.out).mono ?_
        rintro e w6 ⟨rfl, hx6⟩
        by_cases hp : checkE l' = 0
        · have HK := Lib.hid (patchE_4 HCK.out HPN.out hp)
          rw [hp]
          clear hp
          go_wp2_with fail
          try simp only [Exit.inBlock, Exit.then]
          refine bodyPost_ret (results_tmp2 rfl _ _ _) rfl ?_
          exact ⟨A4, c4, by rw [HK.out]; rfl, by rw [HK.out]; exact HR.out.ext hx6, (hx1.trans hx).trans hx6⟩
        · have HK := Lib.hid (patchE_3 HCK.out HPN.out hp)
          have q1 : (checkE l' == 0) = false := beq_eq_false_iff_ne.2 hp
          have q2 : (checkE l' != 0) = true := by simp [bne, q1]
          clear hp
          generalize checkE l' = ce at *
          go_wp2_with fail
          try simp only [Exit.inBlock, Exit.then]
          refine bodyPost_ret (results_tmp2 rfl _ _ _) rfl ?_
          exact ⟨none, 0, by rw [HK.out]; rfl, by rw [HK.out]; exact .inl rfl, (hx1.trans hx).trans hx6⟩
  · have HK := Lib.hid (patchE_1 (cs := cs) hc)
    have q1 : (checkE l == 0) = false := beq_eq_false_iff_ne.2 hc
    have q2 : (checkE l != 0) = true := by simp [bne, q1]
    clear hc
    generalize checkE l = ce at *
    go_wp2_with fail
    try simp only [Exit.inBlock, Exit.then]
    refine bodyPost_ret (results_tmp2 rfl _ _ _) rfl ?_
    exact ⟨none, 0, by rw [HK.out]; rfl, by rw [HK.out]; exact .inl rfl, hx1⟩
end Go.Proofs.YtcjokhhcncimdaaDoor
