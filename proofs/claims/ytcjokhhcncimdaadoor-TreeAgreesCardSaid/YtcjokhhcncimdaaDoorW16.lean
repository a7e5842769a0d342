/- The walks of the reference's without, with. -/
import Derived.Test.YtcjokhhcncimdaaDoorW15
import Derived.Test.YtcjokhhcncimdaaDoorW11
import Derived.Test.YtcjokhhcncimdaaDoorLaw2
set_option linter.unusedVariables false
set_option linter.unusedSimpArgs false
namespace Go.Proofs.YtcjokhhcncimdaaDoor
open Go.RowKit Go.PF Go.Tr

/-- A list of files in a row of its own, the fragments in rows of their own. -/
def OwnL (n0 : Nat) (w : World) (v : Value) (fs : List FileV) : Prop := ∃ xs, w.ownsRow n0 46 3 v fs.length xs ∧ OutOk n0 w xs fs
theorem OwnL.nil (n0 : Nat) (w : World) : OwnL n0 w (.slice none 0 0) [] := ⟨[], World.ownsRow_nil _ _ _ _, OutOk.nil _ _⟩
theorem OwnL.ext {n0 : Nat} {w w' : World} {v : Value} {fs : List FileV} (h : OwnL n0 w v fs) (he : Ext w w') : OwnL n0 w' v fs := by
  obtain ⟨xs, h1, h2⟩ := h
  exact ⟨xs, (KeepT.of_ext he).own h1, h2.keep3 (Keep3.of_ext he)⟩
theorem OwnL.rd {n0 : Nat} {w : World} {v : Value} {fs : List FileV} (h : OwnL n0 w v fs) : ∃ A c, v = .slice A fs.length c ∧ RdL w A fs := by
  obtain ⟨xs, h1, h2⟩ := h
  obtain ⟨A, c, rfl, _, _, h3⟩ := own_rd h1
  exact ⟨A, c, rfl, rdL_of h3 h2⟩
theorem OwnL.snoc {n0 : Nat} {w w1 : World} {v v' : Value} {fs : List FileV} {f : FileV} {F : Option Addr} {c : Nat} {xs : List Value} (h : w.ownsRow n0 46 3 v fs.length xs) (hok : OutOk n0 w xs fs) (hF : FrOwn n0 w F c f.frags)
    (hown : w1.ownsRow n0 46 3 v' (fs.length + 1) (xs ++ [.string f.path, .int .i64 f.len, .slice F f.frags.length c])) (hg : (w.alloc (.cells [.string f.path, .int .i64 f.len, .slice F f.frags.length c].toArray 46)).grownBy w1 v.ownBlock) :
    OwnL n0 w1 v' (fs ++ [f]) := by
  have hx := ext_alloc1 w (.cells [.string f.path, .int .i64 f.len, .slice F f.frags.length c].toArray 46)
  have k3 : KeepT 3 w w1 := (KeepT.of_ext hx).trans (KeepT.append ((KeepT.of_ext hx).own h) hg (by decide))
  exact ⟨_, by rw [List.length_append]; exact hown, (hok.snoc hF).keep3 k3⟩
theorem OwnL.mono {n0 n1 : Nat} {w : World} {v : Value} {fs : List FileV} (h : OwnL n0 w v fs) (hn : n1 ≤ n0) : OwnL n1 w v fs := by
  obtain ⟨xs, h1, h2, h3⟩ := h
  refine ⟨xs, own_base h1 hn, h2, fun k f hk => ?_⟩
  obtain ⟨F, c, a, b, d, e⟩ := h3 k f hk
  exact ⟨F, c, a, b, d, e.mono hn⟩

set_option maxRecDepth 100000 in
set_option maxHeartbeats 1000000 in
theorem without_any (A : Option Addr) (cap : Nat) (l : List FileV) (p : ByteArray) (w : World) (hn : l.length ≤ 1000) (hsm : Small l) (hB : RdL w A l) :
    Calls Tryd.prog 59 #[.slice A l.length cap, .string p] w fun e w' => ∃ v, e = .returned v ∧ OwnL w.heap.size w' v (withoutL p l) ∧ Ext w w' := by
  have HB := Lib.hid hB; clear hB
  have HM := Lib.hid hsm; clear hsm
  obtain ⟨i46, hi46, hz46, hz46', hz46''⟩ := info_parts info46
  have HI := Lib.hid hi46; have HZ0 := Lib.hid hz46; have HZ1 := Lib.hid hz46'; have HZ2 := Lib.hid hz46''
  clear hi46 hz46 hz46' hz46''
  go_enter Tryd.func59, Tryd.ntmps59
  go_wp2_with fail
  go_loopg [5, 6] (l.length + 1) (fun f out i wr => ∃ (i' : Nat), i = .int .i64 i' ∧ i' ≤ l.length ∧ l.length + 1 ≤ i' + f ∧ Hid (OwnL w.heap.size wr out (withoutL p (l.take i'))) ∧ Ext w wr)
  case atStart => exact ⟨0, rfl, by omega, by omega, OwnL.nil _ _, Ext.refl _⟩
  case round =>
    obtain ⟨i', rfl, h2, h3, HO, hx⟩ := hrel
    by_cases hlt : i' < l.length
    · obtain ⟨f, hf⟩ : ∃ x, l[i']? = some x := ⟨_, List.getElem?_eq_getElem hlt⟩
      obtain ⟨b, o, F, k, rfl, hr1, hr2, hr3, hr4⟩ := (HB.out.ext hx).at_ hf
      have hsm := HM.out f (List.mem_of_getElem? hf)
      by_cases hp : f.path = p
      · have HO2 : Hid (OwnL w.heap.size wr u5 (withoutL p (l.take (i' + 1)))) := by rw [Hid, without_no hf hp]; exact HO.out
        have q1 : (f.path.toList == p.toList) = true := by rw [hp]; simp
        have q2 : (f.path.toList != p.toList) = false := by rw [hp]; simp
        clear hf hp
        go_wp2_with fail
        go_roundg (gk - 1)
        case measure => omega
        case rel => exact ⟨i' + 1, by go_num, by omega, by omega, HO2.out, hx⟩
      · have HW := Lib.hid (without_yes hf hp)
        have q1 : (f.path.toList == p.toList) = false := beq_eq_false_iff_ne.2 (fun e => hp (ba_inj e))
        have q2 : (f.path.toList != p.toList) = true := by simp [bne, q1]
        have hwl := without_len p (l.take i')
        rw [List.length_take] at hwl
        clear hf hp
        go_wp2_with fail
        refine (copyfile_any _ f wr ⟨_, _, rfl, hr4⟩ hsm).mono ?_
        rintro e w1 ⟨v', rfl, ⟨F', k', rfl, ho⟩, hx1⟩
        have HF := Lib.hid (ho.mono (n1 := w.heap.size) hx.size)
        obtain ⟨xs, hro0, hok0⟩ := HO.out.ext hx1
        have HK := Lib.hid hok0
        have hro := hro0
        have hsz : w.heap.size ≤ w1.heap.size := (hx.trans hx1).size
        clear hr1 hr2 hr3 hr4 ho hok0 hro0
        go_wp2_with (at_builtin; refine wpList_append1 rfl (.tmp 20) (.tmp 26) 22 rfl w.heap.size 46 i46 _ 3 48 Tryd.underlying22 HI.out HZ0.out HZ1.out HZ2.out rfl (by decide) (by decide) u5 _ xs rfl hro [.string f.path, .int .i64 f.len, .slice F' f.frags.length k'] rfl rfl (by simp [Value.oneCell']) (by omega) hsz ?_; intro v' w2 hown' hbel _ hg; have HN := Lib.hid (OwnL.snoc hro HK.out HF.out hown' hg); clear hro hown' hg)
        go_roundg (gk - 1)
        case measure => omega
        case rel => exact ⟨i' + 1, by go_num, by omega, by omega, by rw [HW.out]; exact HN.out, Below.trans (hx.trans hx1) hbel⟩
    · obtain rfl : i' = l.length := by omega
      have HO2 : Hid (OwnL w.heap.size wr u5 (withoutL p l)) := by have := HO.out; rwa [List.take_length] at this
      go_wp2_with fail
      go_ret
      exact ⟨_, rfl, HO2.out, hx⟩

set_option maxRecDepth 100000 in
set_option maxHeartbeats 2000000 in
theorem with_any (A : Option Addr) (cap : Nat) (l : List FileV) (v : Value) (f : FileV) (w : World) (hn : l.length ≤ 1000) (hsm : Small l) (hsf : f.frags.length * 8 ≤ 140737488355328) (hB : RdL w A l) (hv : FileIs w v f) :
    Calls Tryd.prog 58 #[.slice A l.length cap, v] w fun e w' => ∃ v, e = .returned v ∧ OwnL w.heap.size w' v (withL f false l) ∧ Ext w w' := by
  obtain ⟨Ff, kf, rfl, hfr⟩ := hv
  have HM := Lib.hid hsm; clear hsm
  obtain ⟨i46, hi46, hz46, hz46', hz46''⟩ := info_parts info46
  have HI := Lib.hid hi46; have HZ0 := Lib.hid hz46; have HZ1 := Lib.hid hz46'; have HZ2 := Lib.hid hz46''
  clear hi46 hz46 hz46' hz46''
  have hwlen := with_len f l
  go_enter Tryd.func58, Tryd.ntmps58
  go_wp2_with fail
  have hb := World.alloc_heap_new w (.cells #[.string f.path, .int .i64 f.len, .slice Ff f.frags.length kf] 46)
  have hxW := ext_alloc1 w (.cells #[.string f.path, .int .i64 f.len, .slice Ff f.frags.length kf] 46)
  have hszW : (w.alloc (.cells #[.string f.path, .int .i64 f.len, .slice Ff f.frags.length kf] 46)).heap.size = w.heap.size + 1 := by simp
  generalize w.alloc (.cells #[.string f.path, .int .i64 f.len, .slice Ff f.frags.length kf] 46) = W at *
  have HB := Lib.hid (hB.ext hxW); clear hB
  have HFr := Lib.hid (hfr.ext hxW); clear hfr
  have HBX := Lib.hid hb; clear hb
  go_loopg [5, 6, 7] (l.length + 1) (fun fu out d i wr => ∃ (i' : Nat) (db : Bool) (acc : List FileV), i = .int .i64 i' ∧ d = .bool db ∧ i' ≤ l.length ∧ l.length + 1 ≤ i' + fu ∧ Hid (acc ++ withL f db (l.drop i') = withL f false l) ∧ Hid (OwnL W.heap.size wr out acc) ∧ Ext W wr)
  case atStart => exact ⟨0, false, [], rfl, rfl, by omega, by omega, rfl, OwnL.nil _ _, Ext.refl _⟩
  case round =>
    obtain ⟨i', db, acc, rfl, rfl, h2, h3, HP, HO, hx⟩ := hrel
    have hbx := hx.blk HBX.out
    have c0 := cell_blk hbx 0
    have c1 := cell_blk hbx 1
    have c2 := cell_blk hbx 2
    simp only [List.getElem?_toArray, List.getElem?_cons_succ, List.getElem?_cons_zero] at c0 c1 c2
    by_cases hlt : i' < l.length
    · obtain ⟨g, hg⟩ : ∃ x, l[i']? = some x := ⟨_, List.getElem?_eq_getElem hlt⟩
      obtain ⟨b, o, F, k, rfl, hr1, hr2, hr3, hr4⟩ := (HB.out.ext hx).at_ hg
      have hsm := HM.out g (List.mem_of_getElem? hg)
      cases db
      · cases hl : lessB f.path g.path
        · have HQ : Hid (acc ++ [g] ++ withL f false (l.drop (i' + 1)) = withL f false l) := by rw [Hid, ← HP.out, with_pass hg hl]; simp
          have hcase : Op.bytesLess g.path.toList f.path.toList = true ∨ Op.bytesLess g.path.toList f.path.toList = false ∧ (g.path.toList == f.path.toList) = true := by
            cases hq : lessB g.path f.path
            · exact .inr ⟨hq, by rw [less_total hl hq]; simp⟩
            · exact .inl hq
          have hal : acc.length ≤ 1001 := by have := congrArg List.length HQ.out; simp at this; omega
          clear hg hl HP
          rcases hcase with q3 | ⟨q3, q4⟩
          all_goals
            go_wp2_with fail
            go_quiet (fail)
            have hx' : Ext W (wr.drewN nq) := hx.drewN nq
            have HO1 : Hid (OwnL W.heap.size (wr.drewN nq) u5 acc) := HO.out.ext ((Ext.refl wr).drewN nq)
            go_wp2_with fail
            refine (copyfile_any _ g _ ⟨_, _, rfl, hr4.ext ((Ext.refl wr).drewN nq)⟩ hsm).mono ?_
            rintro e w1 ⟨v', rfl, ⟨F', k', rfl, ho⟩, hx1⟩
            have HF := Lib.hid (ho.mono (n1 := W.heap.size) hx'.size)
            obtain ⟨xs, hro0, hok0⟩ := HO1.out.ext hx1
            have HK := Lib.hid hok0
            have hro := hro0
            have hsz : W.heap.size ≤ w1.heap.size := (hx'.trans hx1).size
            clear ho hok0 hro0 hr1 hr2 hr3 hr4 c0 c1 c2
            go_wp2_with (at_builtin; refine wpList_append1 rfl (.tmp 31) (.tmp 37) 22 rfl W.heap.size 46 i46 _ 3 48 Tryd.underlying22 HI.out HZ0.out HZ1.out HZ2.out rfl (by decide) (by decide) u5 _ xs rfl hro [.string g.path, .int .i64 g.len, .slice F' g.frags.length k'] rfl rfl (by simp [Value.oneCell']) (by omega) hsz ?_; intro v' w2 hown' hbel _ hgr; have HN := Lib.hid (OwnL.snoc hro HK.out HF.out hown' hgr); clear hro hown' hgr)
            go_roundg (gk - 1)
            case measure => omega
            case rel => exact ⟨i' + 1, false, _, by go_num, rfl, by omega, by omega, HQ.out, HN.out, Below.trans (hx'.trans hx1) hbel⟩
        · have HQ : Hid (acc ++ [f] ++ [g] ++ withL f true (l.drop (i' + 1)) = withL f false l) := by rw [Hid, ← HP.out, with_put hg hl]; simp
          have q3 : Op.bytesLess g.path.toList f.path.toList = false := less_asymm hl
          have q4 : (g.path.toList == f.path.toList) = false := beq_eq_false_iff_ne.2 (fun e => less_ne hl (ba_inj e.symm))
          have hal : acc.length + 1 ≤ 1001 := by have := congrArg List.length HQ.out; simp at this; omega
          have HG := Lib.hid hg
          clear hg hl HP
          go_wp2_with fail
          go_quiet (fail)
          have hx' : Ext W (wr.drewN nq) := hx.drewN nq
          have HO1 : Hid (OwnL W.heap.size (wr.drewN nq) u5 acc) := HO.out.ext ((Ext.refl wr).drewN nq)
          go_wp2_with fail
          refine (copyfile_any _ f _ ⟨_, _, rfl, HFr.out.ext hx'⟩ hsf).mono ?_
          rintro e w1 ⟨v', rfl, ⟨F', k', rfl, ho⟩, hx1⟩
          have HF := Lib.hid (ho.mono (n1 := W.heap.size) hx'.size)
          obtain ⟨xs, hro0, hok0⟩ := HO1.out.ext hx1
          have HK := Lib.hid hok0
          have hro := hro0
          have hsz : W.heap.size ≤ w1.heap.size := (hx'.trans hx1).size
          have hx1' := hx'.trans hx1
          clear ho hok0 hro0 hr1 hr2 hr3 hr4 c0 c1 c2 hx1
          go_wp2_with (at_builtin; refine wpList_append1 rfl (.tmp 26) (.tmp 29) 22 rfl W.heap.size 46 i46 _ 3 48 Tryd.underlying22 HI.out HZ0.out HZ1.out HZ2.out rfl (by decide) (by decide) u5 _ xs rfl hro [.string f.path, .int .i64 f.len, .slice F' f.frags.length k'] rfl rfl (by simp [Value.oneCell']) (by omega) hsz ?_; intro vn wn hown' hbel _ hgr; have HN := Lib.hid (OwnL.snoc hro HK.out HF.out hown' hgr); have hxn : Ext W wn := Below.trans hx1' hbel; obtain ⟨b', o', F3, k3, hA', hr1, hr2, hr3, hr4⟩ := (HB.out.ext hxn).at_ HG.out; cases hA'; clear hro hown' hgr hbel hx1')
          refine (copyfile_any _ g wn ⟨_, _, rfl, hr4⟩ hsm).mono ?_
          rintro e w2 ⟨v'', rfl, ⟨F'', k'', rfl, ho2⟩, hx2⟩
          have HF2 := Lib.hid (ho2.mono (n1 := W.heap.size) hxn.size)
          obtain ⟨ys, hro2, hok2⟩ := HN.out.ext hx2
          have HK2 := Lib.hid hok2
          have hsz2 : W.heap.size ≤ w2.heap.size := (hxn.trans hx2).size
          have hal2 : (acc ++ [f]).length ≤ 1001 := by simp; omega
          clear ho2 hok2 hr1 hr2 hr3 hr4 hsz
          go_wp2_with (at_builtin; refine wpList_append1 rfl (.tmp 31) (.tmp 37) 22 rfl W.heap.size 46 i46 _ 3 48 Tryd.underlying22 HI.out HZ0.out HZ1.out HZ2.out rfl (by decide) (by decide) vn _ ys rfl hro2 [.string g.path, .int .i64 g.len, .slice F'' g.frags.length k''] rfl rfl (by simp [Value.oneCell']) (by omega) hsz2 ?_; intro v3 w3 hown' hbel _ hgr; have HN2 := Lib.hid (OwnL.snoc hro2 HK2.out HF2.out hown' hgr); clear hro2 hown' hgr)
          go_roundg (gk - 1)
          case measure => omega
          case rel => exact ⟨i' + 1, true, _, by go_num, rfl, by omega, by omega, HQ.out, HN2.out, Below.trans (hxn.trans hx2) hbel⟩
      · have HQ : Hid (acc ++ [g] ++ withL f true (l.drop (i' + 1)) = withL f false l) := by rw [Hid, ← HP.out, with_rest hg]; simp
        have hal : acc.length ≤ 1001 := by have := congrArg List.length HQ.out; simp at this; omega
        clear hg HP
        go_wp2_with fail
        go_quiet (fail)
        have hx' : Ext W (wr.drewN nq) := hx.drewN nq
        have HO1 : Hid (OwnL W.heap.size (wr.drewN nq) u5 acc) := HO.out.ext ((Ext.refl wr).drewN nq)
        go_wp2_with fail
        refine (copyfile_any _ g _ ⟨_, _, rfl, hr4.ext ((Ext.refl wr).drewN nq)⟩ hsm).mono ?_
        rintro e w1 ⟨v', rfl, ⟨F', k', rfl, ho⟩, hx1⟩
        have HF := Lib.hid (ho.mono (n1 := W.heap.size) hx'.size)
        obtain ⟨xs, hro0, hok0⟩ := HO1.out.ext hx1
        have HK := Lib.hid hok0
        have hro := hro0
        have hsz : W.heap.size ≤ w1.heap.size := (hx'.trans hx1).size
        clear ho hok0 hro0 hr1 hr2 hr3 hr4 c0 c1 c2
        go_wp2_with (at_builtin; refine wpList_append1 rfl (.tmp 31) (.tmp 37) 22 rfl W.heap.size 46 i46 _ 3 48 Tryd.underlying22 HI.out HZ0.out HZ1.out HZ2.out rfl (by decide) (by decide) u5 _ xs rfl hro [.string g.path, .int .i64 g.len, .slice F' g.frags.length k'] rfl rfl (by simp [Value.oneCell']) (by omega) hsz ?_; intro v' w2 hown' hbel _ hgr; have HN := Lib.hid (OwnL.snoc hro HK.out HF.out hown' hgr); clear hro hown' hgr)
        go_roundg (gk - 1)
        case measure => omega
        case rel => exact ⟨i' + 1, true, _, by go_num, rfl, by omega, by omega, HQ.out, HN.out, Below.trans (hx'.trans hx1) hbel⟩
    · obtain rfl : i' = l.length := by omega
      have HP0 : Hid (acc ++ withL f db [] = withL f false l) := by have := HP.out; rwa [List.drop_length] at this
      clear HP hlt
      cases db
      · have HQ : Hid (acc ++ [f] = withL f false l) := HP0.out
        have hal : acc.length ≤ 1001 := by have := congrArg List.length HQ.out; simp at this; omega
        clear HP0
        go_wp2_with fail
        refine (copyfile_any _ f wr ⟨_, _, rfl, HFr.out.ext hx⟩ hsf).mono ?_
        rintro e w1 ⟨v', rfl, ⟨F', k', rfl, ho⟩, hx1⟩
        have HF := Lib.hid (ho.mono (n1 := W.heap.size) hx.size)
        obtain ⟨xs, hro0, hok0⟩ := HO.out.ext hx1
        have HK := Lib.hid hok0
        have hro := hro0
        have hsz : W.heap.size ≤ w1.heap.size := (hx.trans hx1).size
        clear ho hok0 hro0 c0 c1 c2
        go_wp2_with (at_builtin; refine wpList_append1 rfl (.tmp 41) (.tmp 44) 22 rfl W.heap.size 46 i46 _ 3 48 Tryd.underlying22 HI.out HZ0.out HZ1.out HZ2.out rfl (by decide) (by decide) u5 _ xs rfl hro [.string f.path, .int .i64 f.len, .slice F' f.frags.length k'] rfl rfl (by simp [Value.oneCell']) (by omega) hsz ?_; intro v' w2 hown' hbel _ hgr; have HN := Lib.hid (OwnL.snoc hro HK.out HF.out hown' hgr); clear hro hown' hgr)
        go_ret
        exact ⟨_, rfl, by rw [← HQ.out]; exact HN.out.mono (by omega), hxW.trans (Below.trans (hx.trans hx1) hbel)⟩
      · have HQ : Hid (acc = withL f false l) := by have := HP0.out; rw [Hid, ← this]; simp [withL]
        clear HP0
        go_wp2_with fail
        go_ret
        exact ⟨_, rfl, by rw [← HQ.out]; exact HO.out.mono (by omega), hxW.trans hx⟩
end Go.Proofs.YtcjokhhcncimdaaDoor
