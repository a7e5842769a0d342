/- The walk of the tree's with. -/
import Derived.Test.YtcjokhhcncimdaaDoorS6
set_option linter.unusedVariables false
set_option linter.unusedSimpArgs false
namespace Go.Proofs.YtcjokhhcncimdaaDoor
open Go.RowKit Go.PF Go.Tr

set_option maxRecDepth 100000 in
set_option maxHeartbeats 2000000 in
theorem twith_any (n0 : Nat) (v vf : Value) (l : List FileV) (f : FileV) (w : World) (ho : OwnL n0 w v l) (hs : Srt l) (hn : l.length ≤ 1000) (hf : FileIs w vf f) (hsf : f.frags.length * 8 ≤ 140737488355328) (hb0 : n0 ≤ w.heap.size) :
    Calls Tryd.prog 56 #[v, vf] w fun e w' => ∃ v', e = .returned v' ∧ OwnL n0 w' v' (putL f l) ∧ Below n0 w w' := by
  obtain ⟨Ff, kf, rfl, hfr⟩ := hf
  have HS := Lib.hid hs; clear hs
  obtain ⟨A, c, rfl, hrd⟩ := ho.rd
  have HO := Lib.hid ho; clear ho
  go_enter Tryd.func56, Tryd.ntmps56
  go_wp2_with fail
  have hbx := World.alloc_heap_new w (.cells #[.string f.path, .int .i64 f.len, .slice Ff f.frags.length kf] 46)
  have hxW := ext_alloc1 w (.cells #[.string f.path, .int .i64 f.len, .slice Ff f.frags.length kf] 46)
  generalize w.alloc (.cells #[.string f.path, .int .i64 f.len, .slice Ff f.frags.length kf] 46) = W at *
  refine (search_any A c l f.path W hn HS.out (hrd.ext hxW)).mono ?_
  rintro e w1 ⟨rfl, hx1⟩
  replace hbx := hx1.blk hbx
  replace hx1 := hxW.trans hx1
  clear hxW hrd
  have c0 := cell_blk hbx 0
  have c1 := cell_blk hbx 1
  have c2 := cell_blk hbx 2
  simp only [List.getElem?_toArray, List.getElem?_cons_succ, List.getElem?_cons_zero] at c0 c1 c2
  have hlow := low_le f.path l
  rcases hh : hasB f.path l with _ | _
  · have HP := Lib.hid (put_new HS.out hh)
    clear hh
    generalize lowI f.path l = i at *
    go_wp2_with fail
    refine (copied_any _ f w1 ⟨_, _, rfl, hfr.ext hx1⟩ hsf).mono ?_
    rintro e w2 ⟨v', rfl, ⟨F', k', rfl, hof⟩, hx2⟩
    have hxb := ext_alloc1 w2 (.cells #[.string f.path, .int .i64 f.len, .slice F' f.frags.length k'] 46)
    have hx3 := (hx1.trans hx2).trans hxb
    have hvb := World.alloc_heap_new w2 (.cells #[.string f.path, .int .i64 f.len, .slice F' f.frags.length k'] 46)
    have hF3 := (hof.mono (n1 := n0) (Nat.le_trans hb0 hx1.size)).ext hxb
    obtain ⟨xs, hro, hok⟩ := HO.out.ext hx3
    have hlt : ∀ k, (Value.slice A l.length c).ownBlock = some k → k < w2.heap.size := fun k hk => by
      obtain ⟨xs0, hro0, _⟩ := HO.out
      exact Nat.lt_of_lt_of_le (hro0.lt k hk).2 (hx1.trans hx2).size
    have hIns : InsOk n0 l.length (.slice A l.length c) xs [.string f.path, .int .i64 f.len, .slice F' f.frags.length k'] w2.heap.size (w2.alloc (.cells #[.string f.path, .int .i64 f.len, .slice F' f.frags.length k'] 46)) :=
      ⟨hro, hok.cells.onecell, rfl, by simp [Value.oneCell'], hvb, fun e => by have := hlt _ e; omega, hn, Nat.le_trans hb0 hx3.size⟩
    have HIns := Lib.hid hIns
    have HRO := Lib.hid hro
    have HOK := Lib.hid hok
    have HF := Lib.hid hF3
    clear hIns hro hok hF3 hlt hvb hof c0 c1 c2 hxb
    go_wp2_with fail
    refine (insert_any n0 l.length i _ xs _ w2.heap.size _ HIns.out hlow).mono ?_
    rintro e w4 ⟨v4, rfl, hro4, hgr⟩
    have k3 := keep_grown HRO.out hgr 3 (by decide)
    have hbel := below_grown HRO.out hgr (Nat.le_trans hb0 hx3.size)
    have hok4 : OutOk n0 w4 _ _ := (((HOK.out.cells.take i).append (CellsOk.one HF.out)).append (HOK.out.cells.drop i)).out.keep3 k3
    have HL : Hid (l.take i ++ [f] ++ l.drop i = putL f l) := by rw [Hid, ← HP.out]; simp
    have hlen : (putL f l).length = l.length + 1 := by rw [← HP.out]; simp; omega
    go_wp2_with fail
    go_ret
    exact ⟨_, rfl, ⟨_, by rw [hlen]; exact hro4, by rw [← HL.out]; exact hok4⟩, Below.trans (hx3.mono hb0) hbel⟩
  · have HP := Lib.hid (put_old HS.out hh)
    have hlt : lowI f.path l < l.length := by
      obtain ⟨g, hg, _⟩ := has_at hh
      exact (List.getElem?_eq_some_iff.1 hg).1
    clear hh
    generalize lowI f.path l = i at *
    go_wp2_with fail
    refine (copied_any _ f w1 ⟨_, _, rfl, hfr.ext hx1⟩ hsf).mono ?_
    rintro e w2 ⟨v', rfl, ⟨F', k', rfl, hof⟩, hx2⟩
    have hx3 := hx1.trans hx2
    have hF3 := hof.mono (n1 := n0) (Nat.le_trans hb0 hx1.size)
    obtain ⟨xs, hro, hok⟩ := HO.out.ext hx3
    obtain ⟨g, cap, cs, hv, hg, hb, hnc, hcm, hcl, htk⟩ := own_open hro (by omega)
    cases hv
    have hxl := hro.1
    have hd : ∀ j, j < 3 → ∃ u, w2.cell? ⟨g, i * 3 + j, none⟩ = some u := fun j hj => by
      rw [cell_blk hb]; simp only [List.getElem?_toArray]; rw [List.getElem?_eq_getElem (by omega)]; exact ⟨_, rfl⟩
    obtain ⟨y0, d0⟩ := hd 0 (by omega)
    obtain ⟨y1, d1⟩ := hd 1 (by omega)
    obtain ⟨y2, d2⟩ := hd 2 (by omega)
    have e0 := blk_frozen hb (i * 3)
    have e1 := blk_frozen hb (i * 3 + 1)
    have e2 := blk_frozen hb (i * 3 + 2)
    rw [Nat.add_zero] at d0
    have hset : ((w2.setCell ⟨g, i * 3, none⟩ (.string f.path)).setCell ⟨g, i * 3 + 1, none⟩ (.int .i64 f.len)).setCell ⟨g, i * 3 + 2, none⟩ (.slice F' f.frags.length k') = w2.setCells g (i * 3) [.string f.path, .int .i64 f.len, .slice F' f.frags.length k'] := rfl
    have hb2 := setCells_seg g [.string f.path, .int .i64 f.len, .slice F' f.frags.length k'] (i * 3) cs 46 w2 hb (by simp only [List.length_cons, List.length_nil]; omega)
    have hl2 : (seg cs (i * 3) [.string f.path, .int .i64 f.len, .slice F' f.frags.length k']).length = c * 3 := by rw [seg_len (by simp only [List.length_cons, List.length_nil]; omega), hcl]
    have hg2 : w2.grownBy (w2.setCells g (i * 3) [.string f.path, .int .i64 f.len, .slice F' f.frags.length k']) (Value.slice (some ⟨g, 0, none⟩) l.length c).ownBlock := grown_setCells g _ _ w2
    have ht2 : (seg cs (i * 3) [.string f.path, .int .i64 f.len, .slice F' f.frags.length k']).take (l.length * 3) = seg xs (i * 3) [.string f.path, .int .i64 f.len, .slice F' f.frags.length k'] := by
      apply List.ext_getElem?
      intro j
      rw [List.getElem?_take]
      by_cases hj : j < l.length * 3
      · rw [if_pos hj, seg_at (by simp only [List.length_cons, List.length_nil]; omega), seg_at (by simp only [List.length_cons, List.length_nil]; omega), ← htk, List.getElem?_take, if_pos hj]
      · rw [if_neg hj, List.getElem?_eq_none]
        rw [seg_len (by simp only [List.length_cons, List.length_nil]; omega)]; omega
    have hro2 : (w2.setCells g (i * 3) [.string f.path, .int .i64 f.len, .slice F' f.frags.length k']).ownsRow n0 46 3 (.slice (some ⟨g, 0, none⟩) l.length c) l.length (seg xs (i * 3) [.string f.path, .int .i64 f.len, .slice F' f.frags.length k']) :=
      ⟨by rw [seg_len (by simp only [List.length_cons, List.length_nil]; omega)]; exact hxl, .inr ⟨g, c, _, rfl, hg, hb2, hnc, hcm, by simpa using hl2, by simpa using ht2⟩⟩
    have hok2 : OutOk n0 (w2.setCells g (i * 3) [.string f.path, .int .i64 f.len, .slice F' f.frags.length k']) (seg xs (i * 3) [.string f.path, .int .i64 f.len, .slice F' f.frags.length k']) (putL f l) := by
      have h := (((hok.cells.take i).append (CellsOk.one hF3)).append (hok.cells.drop (i + 1))).out.keep3 (keep_grown hro hg2 3 (by decide))
      rw [seg_parts xs i _ rfl, ← HP.out, List.set_eq_take_append_cons_drop, if_pos hlt]
      simpa using h
    have hbel := below_grown hro hg2 (Nat.le_trans hb0 hx3.size)
    have hlen : (putL f l).length = l.length := by rw [← HP.out]; simp
    have HR := Lib.hid hro2
    have HK := Lib.hid hok2
    have HBEL := Lib.hid hbel
    have HSET := Lib.hid hset
    clear hro hok hb hb2 hl2 hg2 ht2 hro2 hok2 hbel hset hd hcl htk hxl hof hF3 c0 c1 c2
    go_wp2_with fail
    rw [HSET.out]
    go_ret
    exact ⟨_, rfl, ⟨_, by rw [hlen]; exact HR.out, HK.out⟩, Below.trans (hx3.mono hb0) HBEL.out⟩
end Go.Proofs.YtcjokhhcncimdaaDoor
