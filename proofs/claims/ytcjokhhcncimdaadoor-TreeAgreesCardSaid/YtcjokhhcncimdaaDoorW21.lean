/- The walks of the tree's clone, of slices.Delete at files, and of Remove. -/
import Derived.Test.YtcjokhhcncimdaaDoorW20
import Derived.Test.YtcjokhhcncimdaaDoorLaw4
set_option linter.unusedVariables false
set_option linter.unusedSimpArgs false
namespace Go.Proofs.YtcjokhhcncimdaaDoor
open Go.RowKit Go.PF Go.Tr

set_option maxRecDepth 100000 in
set_option maxHeartbeats 2000000 in
theorem tclone_any (A : Option Addr) (cap : Nat) (l : List FileV) (w : World) (hn : l.length ≤ 1000) (hsm : Small l) (hB : RdL w A l) :
    Calls Tryd.prog 57 #[.slice A l.length cap] w fun e w' => ∃ v, e = .returned v ∧ OwnL w.heap.size w' v l ∧ Ext w w' := by
  have HB := Lib.hid hB; clear hB
  have HM := Lib.hid hsm; clear hsm
  obtain ⟨i46, hi46, hz46, hz46', hz46''⟩ := info_parts info46
  have HI := Lib.hid hi46; have HZ0 := Lib.hid hz46; have HZ1 := Lib.hid hz46'; have HZ2 := Lib.hid hz46''
  clear hi46 hz46 hz46' hz46''
  go_enter Tryd.func57, Tryd.ntmps57
  go_wp2_with fail
  go_loopg [3, 8] (l.length + 1) (fun f out i wr => ∃ (i' : Nat), i = .int .i64 i' ∧ i' ≤ l.length ∧ l.length + 1 ≤ i' + f ∧ Hid (OwnL w.heap.size wr out (l.take i')) ∧ Ext w wr)
  case atStart => exact ⟨0, rfl, by omega, by omega, OwnL.nil _ _, Ext.refl _⟩
  case round =>
    obtain ⟨i', rfl, h2, h3, HO, hx⟩ := hrel
    by_cases hlt : i' < l.length
    · obtain ⟨f, hf⟩ : ∃ x, l[i']? = some x := ⟨_, List.getElem?_eq_getElem hlt⟩
      obtain ⟨b, o, F, k, rfl, hr1, hr2, hr3, hr4⟩ := (HB.out.ext hx).at_ hf
      have hsm := HM.out f (List.mem_of_getElem? hf)
      have HW := Lib.hid (take_succ_eq hf)
      have hwl := List.length_take_le i' l
      have hxa := ext_alloc1 wr (.cells #[.string f.path, .int .i64 f.len, .slice F f.frags.length k] 46)
      clear hf
      go_wp2_with fail
      refine (copied_any _ f _ ⟨_, _, rfl, hr4.ext hxa⟩ hsm).mono ?_
      rintro e w1 ⟨v', rfl, ⟨F', k', rfl, ho⟩, hx1⟩
      replace hx1 := hxa.trans hx1
      have HF := Lib.hid (ho.mono (n1 := w.heap.size) (by have := (hx.trans hxa).size; exact this))
      obtain ⟨xs, hro0, hok0⟩ := HO.out.ext hx1
      have HK := Lib.hid hok0
      have hro := hro0
      have hsz : w.heap.size ≤ w1.heap.size := (hx.trans hx1).size
      clear hr1 hr2 hr3 hr4 ho hok0 hro0 hxa
      go_wp2_with (at_builtin; refine wpList_append1 rfl (.tmp 12) (.tmp 15) 22 rfl w.heap.size 46 i46 _ 3 48 Tryd.underlying22 HI.out HZ0.out HZ1.out HZ2.out rfl (by decide) (by decide) u3 _ xs rfl hro [.string f.path, .int .i64 f.len, .slice F' f.frags.length k'] rfl rfl (by simp [Value.oneCell']) (by omega) hsz ?_; intro v' w2 hown' hbel _ hg; have HN := Lib.hid (OwnL.snoc hro HK.out HF.out hown' hg); clear hro hown' hg)
      go_roundg (gk - 1)
      case measure => omega
      case rel => exact ⟨i' + 1, by go_num, by omega, by omega, by rw [HW.out]; exact HN.out, Below.trans (hx.trans hx1) hbel⟩
    · obtain rfl : i' = l.length := by omega
      have HO2 : Hid (OwnL w.heap.size wr u3 l) := by have := HO.out; rwa [List.take_length] at this
      go_wp2_with fail
      go_ret
      exact ⟨_, rfl, HO2.out, hx⟩

set_option maxRecDepth 100000 in
set_option maxHeartbeats 2000000 in
theorem delete_any (n0 n i : Nat) (v : Value) (xs : List Value) (w : World) (h : w.ownsRow n0 46 3 v n xs) (h1 : ∀ u ∈ xs, u.oneCell' = true) (hi : i < n) :
    Calls Tryd.prog 30 #[v, .int .i64 i, .int .i64 ((i : Int) + 1)] w fun e w' => ∃ v', e = .returned v' ∧ w'.ownsRow n0 46 3 v' (n - 1) (xs.take (i * 3) ++ xs.drop ((i + 1) * 3)) ∧ w.grownBy w' v.ownBlock ∧ v'.ownBlock = v.ownBlock := by
  obtain ⟨g, cap, cs, rfl, hg, hb, hnc, hcm, hcl, htk⟩ := own_open h (by omega)
  have hxl : xs.length = n * 3 := h.1
  unfold maxLen at hcm
  obtain ⟨i46, hi46, hz46, hz46', hz46''⟩ := info_parts info46
  have HI := Lib.hid hi46; have HZ1 := Lib.hid hz46'
  clear hi46 hz46 hz46' hz46''
  obtain ⟨news, hnews⟩ : ∃ news, news = xs.drop ((i + 1) * 3) := ⟨_, rfl⟩
  have hlen : news.length = (n - (i + 1)) * 3 := by rw [hnews, List.length_drop, hxl]; omega
  have hcell : ∀ j, j < n * 3 → w.cell? ⟨g, j, none⟩ = xs[j]? := fun j hj => by
    rw [cell_blk hb, ← htk, List.getElem?_take, if_pos hj]; simp
  obtain ⟨A, hA, hsrc⟩ : ∃ A : Addr, (if cap = i + 1 then some (⟨g, 0, none⟩ : Addr) else some ⟨g, (i + 1) * 3, none⟩) = some A ∧ Hid (∀ t u, news[t]? = some u → w.drew.cell? (A.add t) = some u) := by
    by_cases hc : cap = i + 1
    · refine ⟨⟨g, 0, none⟩, by simp [hc], fun t u hu => ?_⟩
      have h0 : news.length = 0 := by rw [hlen]; omega
      rw [List.length_eq_zero_iff.1 h0] at hu
      simp at hu
    · refine ⟨⟨g, (i + 1) * 3, none⟩, by simp [hc], fun t u hu => ?_⟩
      have ht : t < (n - (i + 1)) * 3 := by rw [← hlen]; exact (List.getElem?_eq_some_iff.1 hu).1
      rw [hnews, List.getElem?_drop] at hu
      rw [Addr.add_lit]
      exact (hcell _ (by omega)).trans hu
  have s1 : Hid (news.length = (n - (i + 1)) * 3) := hlen
  have s2 : Hid (∀ u ∈ news, u.oneCell' = true) := fun u hu => h1 u (by rw [hnews] at hu; exact List.mem_of_mem_drop hu)
  have s3 : Hid (∀ t, t < news.length → (w.drew.cell? ⟨g, 0 + i * 3 + t, none⟩).isSome = true ∧ w.drew.frozen? ⟨g, 0 + i * 3 + t, none⟩ = false) := fun t ht => by
    rw [hlen] at ht
    refine ⟨?_, blk_frozen (w := w) hb _⟩
    show (w.cell? _).isSome = true
    rw [hcell _ (by omega), List.getElem?_eq_getElem (by omega)]; rfl
  obtain ⟨W1, hW1⟩ : ∃ W1, W1 = w.drew.setCells g (0 + i * 3) news := ⟨_, rfl⟩
  have hb1 : W1.heap[g]? = some (.cells (seg cs (i * 3) news).toArray 46 (0, 0)) := by
    rw [hW1, Nat.zero_add]
    exact setCells_seg g news (i * 3) cs 46 w.drew hb (by rw [hlen]; omega)
  have hl1 : (seg cs (i * 3) news).length = cs.length := seg_len (by rw [hlen]; omega)
  have hcl2 : ∀ ty, (Builtin.clear_ #[22] ty #[.slice (some ⟨g, (n - 1) * 3, none⟩) (n - (n - 1)) (cap - (n - 1))]).run Tryd.prog W1 = .ok (.tuple #[]) (W1.setCells g ((n - 1) * 3) [.string ⟨#[]⟩, .int .i64 0, .slice none 0 0]) := fun ty => by
    rw [show n - (n - 1) = 1 by omega]
    exact run_clear3 W1 ty g ((n - 1) * 3) _ (fun j hj => by rw [cell_blk hb1]; simp only [List.getElem?_toArray]; rw [List.getElem?_eq_getElem (by omega)]; rfl) (fun j hj => blk_frozen hb1 _)
  have hb2 := setCells_seg g [.string ⟨#[]⟩, .int .i64 0, .slice none 0 0] ((n - 1) * 3) _ 46 W1 hb1 (by simp only [List.length_cons, List.length_nil]; omega)
  have hgr : w.grownBy (W1.setCells g ((n - 1) * 3) [.string ⟨#[]⟩, .int .i64 0, .slice none 0 0]) (some g) := by
    refine grown_trans' ?_ (grown_setCells g _ _ W1)
    rw [hW1]
    exact grown_trans' (grown_drew w _) (grown_setCells g _ _ _)
  have hfin : (seg (seg cs (i * 3) news) ((n - 1) * 3) [.string ⟨#[]⟩, .int .i64 0, .slice none 0 0]).take ((n - 1) * 3) = xs.take (i * 3) ++ news := by
    apply List.ext_getElem?
    intro j
    rw [List.getElem?_take]
    by_cases hj : j < (n - 1) * 3
    · rw [if_pos hj, seg_at (by simp only [List.length_cons, List.length_nil]; omega), if_pos hj, seg_at (by rw [hlen]; omega)]
      have ht : (xs.take (i * 3)).length = i * 3 := by rw [List.length_take]; omega
      by_cases e : j < i * 3
      · rw [if_pos e, List.getElem?_append_left (by omega), List.getElem?_take, if_pos e, ← htk, List.getElem?_take, if_pos (by omega)]
      · rw [if_neg e, if_pos (by rw [hlen]; omega), List.getElem?_append_right (by omega), ht]
    · rw [if_neg hj, List.getElem?_eq_none]
      rw [List.length_append, List.length_take, hlen]; omega
  have HFIN := Lib.hid hfin
  have HB2 := Lib.hid hb2
  have HGR := Lib.hid hgr
  have hW : Hid (W1 = w.drew.setCells g (0 + i * 3) news) := hW1
  have HL : Hid (news = xs.drop ((i + 1) * 3)) := hnews
  have HSG : Hid ((seg (seg cs (i * 3) news) ((n - 1) * 3) [.string ⟨#[]⟩, .int .i64 0, .slice none 0 0]).length = cap * 3) := by rw [Hid, seg_len (by simp only [List.length_cons, List.length_nil]; omega), hl1, hcl]
  have HLN := Lib.hid hlen
  have HXL := Lib.hid hxl
  clear hW1 hb1 hb2 hgr hfin hcell htk hb h1 h hnews hlen hcl hl1 hxl
  have q1 : ((i : Int) + 1).toNat = i + 1 := by omega
  have q2 : i ≤ cap := by omega
  have q3 : i + 1 ≤ cap := by omega
  have q4 : (0 : Int) ≤ (i : Int) + 1 := by omega
  have q5 : (i : Int) + 1 ≤ (n : Int) := by omega
  have mixed : Tryd.prog.follows .mixedOrders = true := by kernel_rfl
  go_enter Tryd.func30, Tryd.ntmps30
  go_wp2_with fail
  go_region_law_o (refine step_append_room rfl (.tmp 22) (.tmp 25) 22 rfl 46 i46 3 Tryd.underlying22 HI.out HZ1.out g 0 i cap (by simp [Act.eval, Act.put]) A (n - (i + 1)) (cap - (i + 1)) news (by simp [Act.eval, Act.put]; try exact hA) s1.out hsrc.out s2.out (by omega) s3.out ?_; rw [← hW.out])
  rw [show i + (n - (i + 1)) = n - 1 by omega]
  have q6 : ¬ (cap = n - 1) := by omega
  have q7 : n - 1 ≤ n := by omega
  go_wp2
  go_ret
  refine ⟨_, rfl, ⟨?_, .inr ⟨g, cap, _, rfl, hg, HB2.out, by omega, hcm, by simpa using HSG.out, ?_⟩⟩, HGR.out, rfl⟩
  · rw [List.length_append, List.length_take, ← HL.out, HLN.out, HXL.out]; omega
  · have := HFIN.out
    rw [← HL.out]
    simpa using this
end Go.Proofs.YtcjokhhcncimdaaDoor
