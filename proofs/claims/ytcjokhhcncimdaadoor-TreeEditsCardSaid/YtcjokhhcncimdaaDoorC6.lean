/- The walk of TreePuts. -/
import Derived.Test.YtcjokhhcncimdaaDoorW25
import Derived.Test.YtcjokhhcncimdaaDoorC4
set_option linter.unusedVariables false
set_option linter.unusedSimpArgs false
namespace Go.Proofs.YtcjokhhcncimdaaDoor
open Go.RowKit Go.PF Go.Tr

theorem rd_one {w : World} {f : FileV} {F : Option Addr} {c : Nat} (h : Fr w F c f.frags) :
    RdL (w.alloc (.cells #[.string f.path, .int .i64 f.len, .slice F f.frags.length c] 46)) (some ⟨w.heap.size, 0, none⟩) [f] := by
  have hx := ext_alloc1 w (.cells #[.string f.path, .int .i64 f.len, .slice F f.frags.length c] 46)
  have hb := World.alloc_heap_new w (.cells #[.string f.path, .int .i64 f.len, .slice F f.frags.length c] 46)
  refine .inr ⟨_, 0, rfl, fun k g hk => ?_⟩
  match k, hk with
  | 0, hk => cases hk; exact ⟨F, c, by rw [cell_blk hb]; rfl, by rw [cell_blk hb]; rfl, by rw [cell_blk hb]; rfl, h.ext hx⟩
  | k + 1, hk => simp at hk
theorem few_one {f : FileV} (h : few [f] = true) : f.frags.length * 8 ≤ 140737488355328 ∧ f.path.size ≤ 600 := by
  unfold few fewF at h
  simp only [List.all_cons, List.all_nil, Bool.and_true, Bool.and_eq_true, decide_eq_true_eq] at h
  omega
theorem putE_len (l : List FileV) (f : FileV) : (putE l f).1.length ≤ l.length + 1 := by
  have := put_len f l
  unfold putE
  split
  · split
    · split
      · exact this
      · exact Nat.zero_le _
    · exact Nat.zero_le _
  · exact Nat.zero_le _
theorem removeE_len (l : List FileV) (p : ByteArray) : (removeE l p).1.length ≤ l.length := by
  have := without_len p l
  unfold removeE
  split
  · split
    · exact this
    · exact Nat.zero_le _
  · exact Nat.zero_le _

set_option maxRecDepth 100000 in
set_option maxHeartbeats 2000000 in
theorem puts_all (A : Option Addr) (cap : Nat) (l : List FileV) (vf : Value) (f : FileV) (w : World) (hm : Mx w) (hl : l.length ≤ maxLen) (hfs : f.path.size ≤ maxLen) (hB : RdL w A l) (hf : FileIs w vf f) :
    Calls Tryd.prog 6 #[.slice A l.length cap, vf] w fun e w' => e = .returned (.bool true) ∧ Ext w w' := by
  obtain ⟨Ff, kf, rfl, hfr⟩ := hf
  have HB := Lib.hid hB; clear hB
  have HL := Lib.hid hl; have HFS := Lib.hid hfs; clear hl hfs
  have hbx := World.alloc_heap_new w (.cells #[.string f.path, .int .i64 f.len, .slice Ff f.frags.length kf] 46)
  have hxW := ext_alloc1 w (.cells #[.string f.path, .int .i64 f.len, .slice Ff f.frags.length kf] 46)
  go_enter Tryd.func6, Tryd.ntmps6
  go_wp2_with fail
  generalize w.alloc (.cells #[.string f.path, .int .i64 f.len, .slice Ff f.frags.length kf] 46) = W at *
  have HBX := Lib.hid hbx; clear hbx
  refine (few_any A cap l W HL.out (HB.out.ext hxW)).mono ?_
  rintro e w' ⟨rfl, rfl⟩
  rcases hf1 : few l with _ | _
  · go_wp2_with fail
    refine (awake_any _ (hm.ext hxW)).mono ?_
    rintro e w2 ⟨rfl, hx2⟩
    go_wp2_with fail
    go_ret
    exact ⟨rfl, hxW.trans hx2⟩
  · have F1 := Lib.hid (fit_of hf1 (HB.out.ext hxW))
    have h30 := (few_parts hf1).1
    have c0 := cell_blk HBX.out 0
    have c1 := cell_blk HBX.out 1
    have c2 := cell_blk HBX.out 2
    simp only [List.getElem?_toArray, List.getElem?_cons_succ, List.getElem?_cons_zero] at c0 c1 c2
    clear hf1
    go_wp2_with fail
    have hxa := ext_alloc1 W (.cells #[.string f.path, .int .i64 f.len, .slice Ff f.frags.length kf] 46)
    refine (few_any (some ⟨W.heap.size, 0, none⟩) 1 [f] _ (by simp [maxLen]) (rd_one (hfr.ext hxW))).mono ?_
    rintro e w' ⟨rfl, rfl⟩
    have hbx := hxa.blk HBX.out
    generalize W.alloc (.cells #[.string f.path, .int .i64 f.len, .slice Ff f.frags.length kf] 46) = W2 at *
    have hx2 := hxW.trans hxa
    clear c0 c1 c2 HBX
    rcases hf2 : few [f] with _ | _
    · go_wp2_with fail
      refine (awake_any _ (hm.ext hx2)).mono ?_
      rintro e w2 ⟨rfl, hx3⟩
      go_wp2_with fail
      go_ret
      exact ⟨rfl, hx2.trans hx3⟩
    · have hsf := (few_one hf2).1
      clear hf2
      have c0 := cell_blk hbx 0
      have c1 := cell_blk hbx 1
      have c2 := cell_blk hbx 2
      simp only [List.getElem?_toArray, List.getElem?_cons_succ, List.getElem?_cons_zero] at c0 c1 c2
      go_wp2_with fail
      refine (tput_any A cap l _ f W2 (hm.ext hx2) (by omega) F1.out.short F1.out.small (F1.out.rd.ext hxa) ⟨_, _, rfl, hfr.ext hx2⟩ HFS.out hsf).mono ?_
      rintro e w3 ⟨Ao, co, rfl, hr1, hx3⟩
      replace hbx := hx3.blk hbx
      have hy3 := hxa.trans hx3
      replace hx3 := hx2.trans hx3
      clear c0 c1 c2 hx2 hxa
      have c0 := cell_blk hbx 0
      have c1 := cell_blk hbx 1
      have c2 := cell_blk hbx 2
      simp only [List.getElem?_toArray, List.getElem?_cons_succ, List.getElem?_cons_zero] at c0 c1 c2
      go_wp2_with fail
      refine (rput_any A cap l _ f w3 (by omega) F1.out.short F1.out.small (F1.out.rd.ext hy3) ⟨_, _, rfl, hfr.ext hx3⟩ HFS.out hsf).mono ?_
      have hpl := putE_len l f
      have hrl := removeE_len l f.path
      generalize putE l f = r at *
      rintro e w4 ⟨Bo, do_, rfl, hs1, hx4⟩
      replace hbx := hx4.blk hbx
      have R1 := Lib.hid (hr1.ext hx4)
      have R2 := Lib.hid hs1
      have hy4 := hy3.trans hx4
      replace hx4 := hx3.trans hx4
      clear c0 c1 c2 hx3 hy3 hr1 hs1
      have c0 := cell_blk hbx 0
      have c1 := cell_blk hbx 1
      have c2 := cell_blk hbx 2
      simp only [List.getElem?_toArray, List.getElem?_cons_succ, List.getElem?_cons_zero] at c0 c1 c2
      go_wp2_with fail
      refine (tremove_any A cap l f.path w4 (hm.ext hx4) (by omega) F1.out.short F1.out.small (F1.out.rd.ext hy4)).mono ?_
      rintro e w5 ⟨Co, eo, rfl, hr3, hx5⟩
      replace hbx := hx5.blk hbx
      have R3 := Lib.hid (R1.out.ext hx5)
      have R4 := Lib.hid (R2.out.ext hx5)
      have hy5 := hy4.trans hx5
      replace hx5 := hx4.trans hx5
      clear c0 c1 c2 hx4 hy4 R1 R2
      have c0 := cell_blk hbx 0
      have c1 := cell_blk hbx 1
      have c2 := cell_blk hbx 2
      simp only [List.getElem?_toArray, List.getElem?_cons_succ, List.getElem?_cons_zero] at c0 c1 c2
      go_wp2_with fail
      refine (rremove_any A cap l f.path w5 (by omega) F1.out.short F1.out.small (F1.out.rd.ext hy5)).mono ?_
      generalize removeE l f.path = q at *
      rintro e w6 ⟨Do, fo, rfl, hs3, hx6⟩
      have R5 := Lib.hid (R3.out.ext hx6)
      have R6 := Lib.hid (R4.out.ext hx6)
      have R7 := Lib.hid (hr3.ext hx6)
      have R8 := Lib.hid hs3
      replace hx6 := hx5.trans hx6
      clear c0 c1 c2 hx5 hy5 R3 R4 hr3 hs3 hbx
      go_wp2_with fail
      refine (same_same Ao Bo co do_ r.1 w6 (by simp only [maxLen]; omega) R5.out R6.out).mono ?_
      rintro e w7 ⟨rfl, hx7⟩
      go_wp2_with fail
      refine (same_same Co Do eo fo q.1 w7 (by simp only [maxLen]; omega) (R7.out.ext hx7) (R8.out.ext hx7)).mono ?_
      rintro e w8 ⟨rfl, hx8⟩
      replace hx8 := (hx6.trans hx7).trans hx8
      go_wp2_with fail
      refine (awake_any _ (hm.ext hx8)).mono ?_
      rintro e w9 ⟨rfl, hx9⟩
      go_wp2_with fail
      go_ret
      exact ⟨rfl, hx8.trans hx9⟩
end Go.Proofs.YtcjokhhcncimdaaDoor
