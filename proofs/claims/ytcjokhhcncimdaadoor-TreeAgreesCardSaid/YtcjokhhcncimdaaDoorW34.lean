/- The walk of the tree's Diff. -/
import Derived.Test.YtcjokhhcncimdaaDoorS7
import Derived.Test.YtcjokhhcncimdaaDoorW11
import Derived.Test.YtcjokhhcncimdaaDoorW33
set_option linter.unusedVariables false
set_option linter.unusedSimpArgs false
namespace Go.Proofs.YtcjokhhcncimdaaDoor
open Go.RowKit Go.PF Go.Tr Go.Shelf
section
/-- What stands behind some rounds: the changes so far. -/
def Inv31 (n0 Bo : Nat) (w4 : World) (cs : List ChangeV) (W : World) : Prop :=
  (∃ vo xs, Boxed W Bo 57 vo ∧ W.ownsRow n0 67 8 vo cs.length xs ∧ ChOut n0 W xs cs) ∧ KeepBut n0 [Bo] w4 W
theorem inv31_own (n0 Bo : Nat) (w4 : World) (cs : List ByteArray → List ChangeV) (h : n0 ≤ w4.heap.size) : OwnFrom w4.heap.size (fun pre W => Inv31 n0 Bo w4 (cs pre) W) := by
  rintro s X Y row ⟨⟨vo, xs, h1, h2, h3⟩, h6⟩ hg hr
  have hcell : ∀ {g : Nat} {cs : Array Value} {t : TypeId} {e : Nat × Nat}, X.heap[g]? = some (.cells cs t e) → some g ≠ row := by
    intro g cs t e hh he
    obtain ⟨_, o, ho, hc⟩ := hr g he.symm
    rw [hh] at ho; cases ho; cases hc
  have hrow : ∀ {e : TypeId} {size n : Nat} {v : Value} {ys : List Value}, X.ownsRow n0 e size v n ys → Y.ownsRow n0 e size v n ys := by
    intro e size n v ys ho
    refine ho.kept hg ?_
    rcases ho.2 with ⟨rfl, _⟩ | ⟨g, cap, cur, rfl, _, hgb, _⟩
    · exact .inl rfl
    · exact .inr (hcell hgb)
  refine ⟨⟨vo, xs, h1.kept hg (hcell h1), hrow h2, h3.keep3 (fun b cs r hb => (hg.block b (Array.getElem?_eq_some_iff.1 hb).1 (hcell hb)).trans hb)⟩, ?_⟩
  exact KeepBut.own (obs := [Bo]) (β := Unit) w4 h h () X Y row h6 hg hr

/-- W0: where the round began; the changes so far. -/
structure MidC (N0 Bo : Nat) (W0 : World) (cs : List ChangeV) (W : World) : Prop where
  big : N0 ≤ W.heap.size
  kb : KeepBut N0 [Bo] W0 W
  ko : KeepsOthers W0 W
  out : ∃ vo xs, Boxed W Bo 57 vo ∧ W.ownsRow N0 67 8 vo cs.length xs ∧ ChOut N0 W xs cs

variable {N0 Bo : Nat} {W0 W W' : World} {cs : List ChangeV}
theorem MidC.ext (h : MidC N0 Bo W0 cs W) (hx : Ext W W') : MidC N0 Bo W0 cs W' := by
  obtain ⟨hb, h1, h2, ⟨vo, xs, h3, h4, h5⟩⟩ := h
  exact ⟨by have := hx.size; omega, h1.trans (KeepBut.of_below (hx.mono hb)), h2.trans (others_ext hx), ⟨vo, xs, (KeepT.of_ext hx).boxed h3, (KeepT.of_ext hx).own h4, h5.keep3 (Keep3.of_ext hx)⟩⟩

/-- A change is laid behind the others. -/
theorem MidC.add {w1 : World} {vo v' : Value} {xs : List Value} {c : ChangeV} {F G : Option Addr} {j m : Nat} (h : MidC N0 Bo W0 cs W) (hBo : Bo < N0) (hv : Boxed W Bo 57 vo) (hrow : W.ownsRow N0 67 8 vo cs.length xs) (hok : ChOut N0 W xs cs)
    (hF : FrOwn N0 W F j c.old.frags) (hG : FrOwn N0 W G m c.new.frags)
    (hown : w1.ownsRow N0 67 8 v' (cs.length + 1) (xs ++ chCells c F G j m)) (hbel : Below N0 W w1) (hg : (W.alloc (.cells (chCells c F G j m).toArray 67)).grownBy w1 vo.ownBlock) :
    MidC N0 Bo W0 (cs ++ [c]) (w1.setCell ⟨Bo, 0, none⟩ v') := by
  obtain ⟨hb, h1, h2, -⟩ := h
  have hx := ext_alloc1 W (.cells (chCells c F G j m).toArray 67)
  have hrow' := (KeepT.of_ext hx).own hrow
  have ka : ∀ e : TypeId, 67 ≠ e → KeepT e W w1 := fun e he => (KeepT.of_ext hx).trans (KeepT.append hrow' hg he)
  have hA := Boxed.appended hv (by decide : (57 : TypeId) ≠ 67) (own_base hrow (Nat.le_of_lt hBo)) (by omega) (Nat.le_refl _) (own_base hown (Nat.le_of_lt hBo)) hg
  have hbx : w1.heap[Bo]? = some (.cells #[vo] 57 (0, 0)) := hA.1
  have k3 : KeepT 3 W (w1.setCell ⟨Bo, 0, none⟩ v') := (ka 3 (by decide)).trans (KeepT.set hbx (by decide) 0 v')
  have hsz : (w1.setCell ⟨Bo, 0, none⟩ v').heap.size = w1.heap.size := by simp [World.setCell]
  refine ⟨by have := hbel.size; omega, (h1.trans (KeepBut.of_below hbel)).setCell (p := ⟨Bo, 0, none⟩) (.inl (by simp)) v', h2.trans hA.2.2.2.1, ⟨v', _, hA.2.1, ?_, (hok.snoc hF hG).keep3 k3⟩⟩
  rw [List.length_append]
  exact (KeepT.set hbx (by decide) 0 v').own hown

theorem boxes2o (w : World) (v0 v1 : Value) (t0 t1 : TypeId) (o : Obj) :
    ∃ W, ((w.alloc (.cells #[v0] t0)).alloc (.cells #[v1] t1)).alloc o = W ∧
      Boxed W w.heap.size t0 v0 ∧ Boxed W (w.heap.size + 1) t1 v1 ∧ W.heap[w.heap.size + 1 + 1]? = some o ∧ W.heap.size = w.heap.size + 3 ∧ Ext w W := by
  have b0 := Boxed.new w t0 v0
  have b1 := Boxed.new (w.alloc (.cells #[v0] t0)) t1 v1
  have b2 := World.alloc_heap_new ((w.alloc (.cells #[v0] t0)).alloc (.cells #[v1] t1)) o
  simp only [World.size_alloc] at b1 b2
  exact ⟨_, rfl, (b0.alloc _).alloc _, b1.alloc _, b2, by simp, (((Below.refl _ _).alloc (Nat.le_refl _) _).alloc (by simp) _).alloc (by simp; omega) _⟩
theorem boxes3 (w : World) (v0 v1 v2 : Value) (t0 t1 t2 : TypeId) :
    ∃ W, ((w.alloc (.cells #[v0] t0)).alloc (.cells #[v1] t1)).alloc (.cells #[v2] t2) = W ∧
      Boxed W w.heap.size t0 v0 ∧ Boxed W (w.heap.size + 1) t1 v1 ∧ Boxed W (w.heap.size + 1 + 1) t2 v2 ∧ W.heap.size = w.heap.size + 3 ∧ Ext w W := by
  have b0 := Boxed.new w t0 v0
  have b1 := Boxed.new (w.alloc (.cells #[v0] t0)) t1 v1
  have b2 := Boxed.new ((w.alloc (.cells #[v0] t0)).alloc (.cells #[v1] t1)) t2 v2
  simp only [World.size_alloc] at b1 b2
  exact ⟨_, rfl, (b0.alloc _).alloc _, b1.alloc _, b2, by simp, (((Below.refl _ _).alloc (Nat.le_refl _) _).alloc (by simp) _).alloc (by simp; omega) _⟩
theorem checks_two {a b : List FileV} : checks [a, b] = if checkE a = 0 then checkE b else checkE a := by
  simp only [checks]
  split
  · split
    · rename_i h; exact h.symm
    · rfl
  · rfl
theorem diffE_checks {a b : List FileV} : diffE a b = if checks [a, b] = 0 then (diffL a b (bothL a b), 0) else ([], checks [a, b]) := by
  unfold diffE
  rw [checks_two]
  by_cases h1 : checkE a = 0
  · rw [if_pos h1, if_pos h1]
  · rw [if_neg h1, if_neg h1, if_neg h1]
end

attribute [local go_sem] Oper.semAt_some

theorem ch_ff {a b : List FileV} {x : ByteArray} {f g : FileV} (h1 : lookE a x = ⟨f, false⟩) (h2 : lookE b x = ⟨g, false⟩) : (⟨f, false⟩ : SideV) = ⟨g, false⟩ := by
  rw [← h1, ← h2, look_gone a x (by rw [h1]), look_gone b x (by rw [h2])]

theorem RdC.keep {w w' : World} {A : Option Addr} {cs : List ChangeV} (h : RdC w A cs) (hk : KeepCells w w') : RdC w' A cs := by
  rcases h with h | ⟨b, off, hA, h⟩
  · exact .inl h
  · refine .inr ⟨b, off, hA, fun k c hc => ?_⟩
    obtain ⟨F, j, G, m, h1, h2, h3⟩ := h k c hc
    exact ⟨F, j, G, m, fun r u hr => hk.cell (h1 r u hr), Fr.keep h2 hk, Fr.keep h3 hk⟩

set_option maxRecDepth 100000 in
set_option maxHeartbeats 8000000 in
theorem diff_any (A B : Option Addr) (ca cb : Nat) (a b : List FileV) (w : World) (hm : Mx w) (h1 : a.length ≤ 500) (h2 : b.length ≤ 500)
    (hs1 : Short a) (hs2 : Short b) (hl1 : Small a) (hl2 : Small b) (hA : RdL w A a) (hB : RdL w B b) :
    Calls Tryd.prog 31 #[.slice A a.length ca, .slice B b.length cb] w fun e w' => ∃ Ao co, e = .returned (.tuple #[.slice Ao (diffE a b).1.length co, .int .i64 (diffE a b).2]) ∧ RdC w' Ao (diffE a b).1 ∧ Ext w w' := by
  have HA := Lib.hid hA; have HB := Lib.hid hB; clear hA hB
  refine callsIn_wide.1 (?_ : CallsIn Fence.wide 3 _ _ _ _ _)
  refine callsIn_of_wp_marks Tryd.func31 rfl trivial ?_ rfl
  simp only [Tryd.ntmps31, List.size_toArray, List.length_cons, List.length_nil, Nat.reduceAdd, Nat.reduceSub, Array.replicate_succ, Array.replicate_zero, List.push_toArray, List.append_toArray, List.nil_append, List.cons_append]
  have hm1 : 1 ≤ 3 := by omega
  obtain ⟨i67, hi67, hz67, hz67', hz67''⟩ := info_parts info67
  have HI := Lib.hid hi67; have HZ0 := Lib.hid hz67; have HZ1 := Lib.hid hz67'; have HZ2 := Lib.hid hz67''
  clear hi67 hz67 hz67' hz67''
  gi_wp2_with fail
  obtain ⟨W, hW, bA, bB, hrow, hsz, hx⟩ := boxes2o w (.slice A a.length ca) (.slice B b.length cb) 22 22 (.cells #[.slice A a.length ca, .slice B b.length cb] 22)
  rw [hW]
  clear hW
  refine ⟨trivial, callsIn_wide.2 ((checks_any (w.heap.size + 1 + 1) 0 2 [a, b] W (hm.ext hx) (by simp) ?hB).mono ?_)⟩
  case hB =>
    intro i l hl
    match i with
    | 0 => cases hl; exact ⟨A, ca, by rw [Nat.add_zero, cell_blk hrow]; rfl, HA.out.ext hx, by omega, hs1⟩
    | 1 => cases hl; exact ⟨B, cb, by rw [Nat.zero_add, cell_blk hrow]; rfl, HB.out.ext hx, by omega, hs2⟩
    | n + 2 => cases hl
  rintro e w1 ⟨rfl, hx1⟩
  replace bA := boxed_ext bA hx1
  replace bB := boxed_ext bB hx1
  have hsz1 := hx1.size
  replace hx := hx.trans hx1
  clear hrow hx1
  by_cases hc : checks [a, b] = 0
  · have HK : Hid (diffE a b = (diffL a b (bothL a b), 0)) := by rw [Hid, diffE_checks, if_pos hc]
    have hk1 : checkE a = 0 ∧ checkE b = 0 := by
      rw [checks_two] at hc
      split at hc
      · exact ⟨by assumption, hc⟩
      · exact absurd hc (by assumption)
    have HS1 := Lib.hid (check_srt hk1.1)
    have HS2 := Lib.hid (check_srt hk1.2)
    clear hk1
    rw [hc]
    clear hc
    have cA := (ext_alloc1 w1 (.cells #[.slice none 0 0] 57)).cell bA.cell
    have cB := (ext_alloc1 w1 (.cells #[.slice none 0 0] 57)).cell bB.cell
    gi_wp2_with (refine ⟨trivial, ?_⟩; gi_at_call 38; refine (both_in _ _ _ _ _ _ _ _).mono ?_; rintro e w' ⟨rfl, rfl⟩)
    clear cA cB
    obtain ⟨w4, hw4, bO, bI, bJ, hsz4, hxw4⟩ := boxes3 w1 (.slice none 0 0) (.slice A a.length ca) (.slice B b.length cb) 57 22 22
    rw [hw4]
    clear hw4
    have hBO : BothOk (w1.heap.size + 1) (w1.heap.size + 1 + 1) A B ca cb a b w4 := by
      refine ⟨bI.cell, bJ.cell, fun k f hf => ?_, fun k f hf => ?_⟩
      · obtain ⟨g, off, F, c, hA, h1, -⟩ := (HA.out.ext (hx.trans hxw4)).at_ hf
        exact ⟨g, off, hA, h1⟩
      · obtain ⟨g, off, F, c, hA, h1, -⟩ := (HB.out.ext (hx.trans hxw4)).at_ hf
        exact ⟨g, off, hA, h1⟩
    have hKO : ∀ W W', KeepBut (w1.heap.size + 3) [w1.heap.size] W W' → BothOk (w1.heap.size + 1) (w1.heap.size + 1 + 1) A B ca cb a b W → BothOk (w1.heap.size + 1) (w1.heap.size + 1 + 1) A B ca cb a b W' := by
      intro W W' hk ho
      have hlt : ∀ {X : Option Addr} {l : List FileV}, RdL w X l → ∀ {k : Nat} {f : FileV} {g off : Nat}, l[k]? = some f → X = some ⟨g, off, none⟩ → g < w.heap.size := by
        intro X l hr k f g off hf hX
        obtain ⟨g', off', F, c, hA, h1, -⟩ := hr.at_ hf
        rw [hX] at hA
        cases hA
        exact World.block_lt_of_cell? w _ h1
      refine ⟨(hk.cell (by show w1.heap.size + 1 < _; omega) (by simp)).trans ho.boxA, (hk.cell (by show w1.heap.size + 1 + 1 < _; omega) (by simp; omega)).trans ho.boxB, fun k f hf => ?_, fun k f hf => ?_⟩
      · obtain ⟨g, off, hA, h1⟩ := ho.rdA k f hf
        have := hlt HA.out hf hA
        exact ⟨g, off, hA, (hk.cell (by show g < _; omega) (by simp; omega)).trans h1⟩
      · obtain ⟨g, off, hA, h1⟩ := ho.rdB k f hf
        have := hlt HB.out hf hA
        exact ⟨g, off, hA, (hk.cell (by show g < _; omega) (by simp; omega)).trans h1⟩
    refine wpIn_rangeFunc_ownG rfl hm1 (gf := 64) (lb := #[.pointer (some ⟨w1.heap.size + 1, 0, none⟩), .pointer (some ⟨w1.heap.size + 1 + 1, 0, none⟩)]) rfl trivial (enters_of Tryd.func64 (by kernel_rfl) rfl)
      (both_stops _ (by omega) (w1.heap.size + 1) (w1.heap.size + 1 + 1) A B ca cb a b (KeepBut (w1.heap.size + 3) [w1.heap.size]) (by omega) (by omega) hKO w4 hBO)
      KeepBut.trans (KeepBut.putObj (by omega)) (Below.refl _ _) (fun _ => rfl)
      (fun pre W => Inv31 (w1.heap.size + 3) w1.heap.size w4 (diffL a b pre) W)
      (fun _ _ _ => False)
      (inv31_own _ _ _ _ (by omega))
      (fun _ _ _ _ _ hs _ _ => hs)
      ?init
      (fun x => { tmps := #[.slice A a.length ca, .slice B b.length cb, .pointer (some ⟨w.heap.size, 0, none⟩), .pointer (some ⟨w.heap.size + 1, 0, none⟩), .slice none 0 0, .int .i64 0, .int .i64 0, .pointer (some ⟨w1.heap.size, 0, none⟩), .string x, undef, undef, undef, .slice A a.length ca, .slice B b.length cb, .slice (some ⟨w.heap.size + 1 + 1, 0, none⟩) 2 2, .int .i64 0, .int .i64 0, .bool false, undef, .slice A a.length ca, .slice B b.length cb, .func (.func 64) #[] #[.pointer (some ⟨w1.heap.size + 1, 0, none⟩), .pointer (some ⟨w1.heap.size + 1 + 1, 0, none⟩)], .string x, undef, undef, undef, undef, undef, undef, undef, undef, undef, undef, undef, undef, undef, undef, undef, undef, undef, undef, undef, undef, undef, undef, undef, undef, undef, undef, undef, undef, undef, undef], defers := [] }) ?assign ?body ?done ?stop
    case init => exact ⟨⟨_, _, bO, World.ownsRow_nil _ _ _ _, ChOut.nil _ _⟩, KeepBut.refl _ _ _⟩
    case assign =>
      intro l x W K hK
      gi_wp2
      exact hK
    case body =>
      rintro l pre x W ⟨⟨vo, xs, hvo, hro, hok⟩, hB⟩ hlt
      dsimp only
      have hX : Ext w W := Below.trans (hx.trans hxw4) (hB.below (n := w.heap.size) (by omega) (by simp; omega))
      have cA := (hB.boxed (boxed_ext bA hxw4) (by omega) (by simp; omega)).cell
      have cB := (hB.boxed (boxed_ext bB hxw4) (by omega) (by simp; omega)).cell
      have hszW := hB.size
      have HA2 := Lib.hid ((HA.out.ext hX).ext (show Ext W W.drew from (Below.refl _ _).drew))
      have HB2 := Lib.hid ((HB.out.ext hX).ext (show Ext W W.drew from (Below.refl _ _).drew))
      gi_wp2_with fail
      refine wpIn_round_T (fun W' => Ext W.drew W') [] (by kernel_rfl) (by kernel_rfl) ?_
      have hS : Ext W.drew W.drew := Ext.refl _
      have cA' : W.drew.cell? ⟨w.heap.size, 0, none⟩ = some (.slice A a.length ca) := cA
      have cB' : W.drew.cell? ⟨w.heap.size + 1, 0, none⟩ = some (.slice B b.length cb) := cB
      refine takeT 0 ?v0_1 rfl (by kernel_rfl) (fun _ _ _ h => h) rfl hS ?hy0_1 ?hk0_1
      case hy0_1 =>
        rintro w' he 
        have s1 := he.cell cA'
        have s2 := he.cell cB'
        go_simp
        first | done | with_reducible rfl
      try simp only [Act.put, List.setIfInBounds_toArray, List.set_cons_zero, List.set_cons_succ]
      refine takeT 1 ?v1_2 rfl (by kernel_rfl) (fun _ _ _ h => h) rfl hS ?hy1_2 ?hk1_2
      case hy1_2 =>
        rintro w' he 
        have s1 := he.cell cA'
        have s2 := he.cell cB'
        go_simp
        first | done | with_reducible rfl
      try simp only [Act.put, List.setIfInBounds_toArray, List.set_cons_zero, List.set_cons_succ]
      refine takeT 3 ?v3_3 rfl (by kernel_rfl) (fun _ _ _ h => h) rfl hS ?hy3_3 ?hk3_3
      case hy3_3 =>
        rintro w' he 
        have s1 := he.cell cA'
        have s2 := he.cell cB'
        go_simp
        first | done | with_reducible rfl
      try simp only [Act.put, List.setIfInBounds_toArray, List.set_cons_zero, List.set_cons_succ]
      refine takeT 4 ?v4_4 rfl (by kernel_rfl) (fun _ _ _ h => h) rfl hS ?hy4_4 ?hk4_4
      case hy4_4 =>
        rintro w' he 
        have s1 := he.cell cA'
        have s2 := he.cell cB'
        go_simp
        first | done | with_reducible rfl
      try simp only [Act.put, List.setIfInBounds_toArray, List.set_cons_zero, List.set_cons_succ]
      have hlanes : Lanes 2 (fun k => 2 + 3 * k) (fun k => 6 + k) (fun k => 8 + k) := ⟨by intros; omega, by intros; omega, by intros; omega, by intros; omega, by intros; omega, by intros; omega⟩
      refine wpAnyT_inv (fun L aa W' => ∃ (p q : Nat → Value) (B8 : Nat → Nat), aa = { tmps := #[.slice A a.length ca, .slice B b.length cb, .pointer (some ⟨w.heap.size, 0, none⟩), .pointer (some ⟨w.heap.size + 1, 0, none⟩), .slice none 0 0, .int .i64 0, .int .i64 0, .pointer (some ⟨w1.heap.size, 0, none⟩), .string x, p 0, p 1, undef, .slice A a.length ca, .slice B b.length cb, .slice (some ⟨w.heap.size + 1 + 1, 0, none⟩) 2 2, .int .i64 0, .int .i64 0, .bool false, undef, .slice A a.length ca, .slice B b.length cb, .func (.func 64) #[] #[.pointer (some ⟨w1.heap.size + 1, 0, none⟩), .pointer (some ⟨w1.heap.size + 1 + 1, 0, none⟩)], .string x, .slice A a.length ca, .string x, q 0, .slice B b.length cb, .string x, q 1, undef, undef, undef, undef, undef, undef, undef, undef, undef, undef, undef, undef, undef, undef, undef, undef, undef, undef, undef, undef, undef, undef, undef, undef], defers := [] } ∧
        St 2 (fun k => 2 + 3 * k) (fun k => 6 + k) (fun k => 8 + k) W.drew (w1.heap.size + 3) (fun k => match k with | 0 => lookE a x | _ => lookE b x) L p q B8 W' ∧ (L 0 = true ∧ L 1 = true ∧ L 3 = true ∧ L 4 = true))
        (by kernel_rfl) ?hS ?hstep ?hend _ _ _ _ (by rfl) (by decide) ?h0
      case hS => rintro L aa W' ⟨p, q, B8, rfl, hst, hL⟩; exact hst.ext
      case h0 =>
        refine ⟨fun _ => undef, fun _ => undef, fun _ => 0, rfl, ⟨Ext.refl _, ?_, ?_, ?_, ?_⟩, rfl, rfl, rfl, rfl⟩
        · intro k hk h; match k, hk with | 0, _ => cases h | 1, _ => cases h
        · intro k hk h; match k, hk with | 0, _ => cases h | 1, _ => cases h
        · intro k hk h; match k, hk with | 0, _ => cases h | 1, _ => cases h
        · intro k j hk hj hkj h; match k, hk with | 0, _ => cases h | 1, _ => cases h
      case hstep =>
        rintro L aa W' ⟨p, q, B8, rfl, hst, hL⟩ i oi hoi hLi hw K hK
        match i, hoi, hLi, hw with
        | 0, hoi, hLi, hw => rw [hL.1] at hLi; cases hLi
        | 1, hoi, hLi, hw => rw [hL.2.1] at hLi; cases hLi
        | 2, hoi, hLi, hw =>
          change some _ = some oi at hoi
          cases hoi
          go_simp
          refine (look_any A ca a x W' (by omega) HS1.out hl1 (HA2.out.ext hst.ext)).mono ?_
          rintro e w'' ⟨v, rfl, hso, hx''⟩
          exact hK _ _ ⟨p, upd q 0 v, B8, rfl, hst.call hlanes (k := 0) (by omega) hLi (side_mono hso (by have : W.heap.size ≤ W'.heap.size := hst.ext.size; omega)) hx'', by simpa [setL] using hL⟩
        | 3, hoi, hLi, hw => rw [hL.2.2.1] at hLi; cases hLi
        | 4, hoi, hLi, hw => rw [hL.2.2.2] at hLi; cases hLi
        | 5, hoi, hLi, hw =>
          change some _ = some oi at hoi
          cases hoi
          go_simp
          refine (look_any B cb b x W' (by omega) HS2.out hl2 (HB2.out.ext hst.ext)).mono ?_
          rintro e w'' ⟨v, rfl, hso, hx''⟩
          exact hK _ _ ⟨p, upd q 1 v, B8, rfl, hst.call hlanes (k := 1) (by omega) hLi (side_mono hso (by have : W.heap.size ≤ W'.heap.size := hst.ext.size; omega)) hx'', by simpa [setL] using hL⟩
        | 6, hoi, hLi, hw =>
          change some _ = some oi at hoi
          cases hoi
          go_simp
          exact hK _ _ ⟨upd p 0 _, q, upd B8 0 _, rfl, hst.alloc hlanes (k := 0) (by omega) hLi _ _ _ _, by simpa [setL] using hL⟩
        | 7, hoi, hLi, hw =>
          change some _ = some oi at hoi
          cases hoi
          go_simp
          exact hK _ _ ⟨upd p 1 _, q, upd B8 1 _, rfl, hst.alloc hlanes (k := 1) (by omega) hLi _ _ _ _, by simpa [setL] using hL⟩
        | 8, hoi, hLi, hw =>
          change some _ = some oi at hoi
          cases hoi
          have hLa := hw 6 (by kernel_rfl)
          have hLc := hw 2 (by kernel_rfl)
          obtain ⟨hp, -, b0, b1, b2, b3, hbk, -⟩ := hst.ptr 0 (by omega) hLa
          obtain ⟨F, c, hq, -⟩ := hst.side 0 (by omega) hLc
          have hnext := hst.store hlanes (k := 0) (by omega) hLc hLa hq
          have he0 := blk_frozen hbk 0
          have he1 := blk_frozen hbk 1
          have he2 := blk_frozen hbk 2
          have he3 := blk_frozen hbk 3
          have hd0 := cell_blk hbk 0
          have hd1 := cell_blk hbk 1
          have hd2 := cell_blk hbk 2
          have hd3 := cell_blk hbk 3
          simp only [List.getElem?_toArray, List.getElem?_cons_succ, List.getElem?_cons_zero] at hd0 hd1 hd2 hd3
          rw [hp, hq]
          go_simp
          refine hK _ _ ⟨p, q, B8, ?_, hnext, by simpa [setL] using hL⟩
          rw [hp, hq]; try rfl
        | 9, hoi, hLi, hw =>
          change some _ = some oi at hoi
          cases hoi
          have hLa := hw 7 (by kernel_rfl)
          have hLc := hw 5 (by kernel_rfl)
          obtain ⟨hp, -, b0, b1, b2, b3, hbk, -⟩ := hst.ptr 1 (by omega) hLa
          obtain ⟨F, c, hq, -⟩ := hst.side 1 (by omega) hLc
          have hnext := hst.store hlanes (k := 1) (by omega) hLc hLa hq
          have he0 := blk_frozen hbk 0
          have he1 := blk_frozen hbk 1
          have he2 := blk_frozen hbk 2
          have he3 := blk_frozen hbk 3
          have hd0 := cell_blk hbk 0
          have hd1 := cell_blk hbk 1
          have hd2 := cell_blk hbk 2
          have hd3 := cell_blk hbk 3
          simp only [List.getElem?_toArray, List.getElem?_cons_succ, List.getElem?_cons_zero] at hd0 hd1 hd2 hd3
          rw [hp, hq]
          go_simp
          refine hK _ _ ⟨p, q, B8, ?_, hnext, by simpa [setL] using hL⟩
          rw [hp, hq]; try rfl
        | n + 10, hoi, hLi, hw => cases hoi
      case hend =>
        rintro L aa W' ⟨p, q, B8, rfl, hst, hL⟩ hall
        obtain ⟨hp0, hn0, a00, a01, a02, a03, hb0, hq0⟩ := hst.ptr 0 (by omega) (hall 6 (by decide))
        obtain ⟨hp1, hn1, a10, a11, a12, a13, hb1, hq1⟩ := hst.ptr 1 (by omega) (hall 7 (by decide))
        obtain ⟨F0, c0, hs0, ho0⟩ := hst.side 0 (by omega) (hall 2 (by decide))
        obtain ⟨F1, c1, hs1', ho1⟩ := hst.side 1 (by omega) (hall 5 (by decide))
        have e0 := hs0.symm.trans (hq0 (hall 8 (by decide)))
        have e1 := hs1'.symm.trans (hq1 (hall 9 (by decide)))
        have hxW := hst.ext
        clear hq0 hq1 hst hall hL hlanes
        rw [hp0, hp1, hs0, hs1']
        clear hp0 hp1 hs0 hs1' p q
        cases e0; cases e1
        generalize B8 0 = g0 at *
        generalize B8 1 = g1 at *
        have hpl : (diffL a b pre).length ≤ 1000 := by
          have h1 := diffL_len a b pre
          have h2 := bothN_len (a.length + b.length) a b
          unfold bothL at hlt
          omega
        replace ho0 : FrOwn (w1.heap.size + 3) W' F0 c0 (lookE a x).f.frags := ho0
        replace ho1 : FrOwn (w1.heap.size + 3) W' F1 c1 (lookE b x).f.frags := ho1
        replace hb0 : W'.heap[g0]? = some (.cells #[.string (lookE a x).f.path, .int .i64 (lookE a x).f.len, .slice F0 (lookE a x).f.frags.length c0, .bool (lookE a x).there] 74 (0, 0)) := hb0
        replace hb1 : W'.heap[g1]? = some (.cells #[.string (lookE b x).f.path, .int .i64 (lookE b x).f.len, .slice F1 (lookE b x).f.frags.length c1, .bool (lookE b x).there] 74 (0, 0)) := hb1
        have HXa : Hid (lookE a x = lookE a x) := rfl
        have HXb : Hid (lookE b x = lookE b x) := rfl
        obtain ⟨X, hXe⟩ : ∃ X, lookE a x = X := ⟨_, rfl⟩
        obtain ⟨Y, hYe⟩ : ∃ X, lookE b x = X := ⟨_, rfl⟩
        rw [hXe] at ho0 hb0
        rw [hYe] at ho1 hb1
        clear HXa HXb
        have HXa := Lib.hid hXe; have HXb := Lib.hid hYe
        clear hXe hYe
        obtain ⟨f, tf⟩ := X
        obtain ⟨g, tg⟩ := Y
        have HXW : Hid (Ext W W') := Ext.trans (show Ext W W.drew from (Below.refl _ _).drew) hxW
        simp only [NoOut]
        have hM : MidC (w1.heap.size + 3) w1.heap.size W (diffL a b pre) W' :=
          MidC.ext ⟨by omega, KeepBut.refl _ _ _, KeepsOthers.refl _, ⟨vo, xs, hvo, hro, hok⟩⟩ HXW.out
        clear hvo hro hok cA cB cA' cB' HA2 HB2 hS
        dsimp only at ho0 ho1 hb0 hb1
        have hgW : w1.heap.size + 3 ≤ W'.heap.size := hM.big
        have hxA := ext_alloc1 W' (.cells #[.int .i64 0, .string x, .string f.path, .int .i64 f.len, .slice F0 f.frags.length c0, .string g.path, .int .i64 g.len, .slice F1 g.frags.length c1] 67)
        have hbC := World.alloc_heap_new W' (.cells #[.int .i64 0, .string x, .string f.path, .int .i64 f.len, .slice F0 f.frags.length c0, .string g.path, .int .i64 g.len, .slice F1 g.frags.length c1] 67)
        have d00 := cell_blk hb0 0
        have d01 := cell_blk hb0 1
        have d02 := cell_blk hb0 2
        have d03 := cell_blk hb0 3
        have d10 := cell_blk hb1 0
        have d11 := cell_blk hb1 1
        have d12 := cell_blk hb1 2
        have d13 := cell_blk hb1 3
        simp only [List.getElem?_toArray, List.getElem?_cons_succ, List.getElem?_cons_zero] at d00 d01 d02 d03 d10 d11 d12 d13
        have f00 := hxA.cell d00
        have f01 := hxA.cell d01
        have f02 := hxA.cell d02
        have f03 := hxA.cell d03
        have f10 := hxA.cell d10
        have f11 := hxA.cell d11
        have f12 := hxA.cell d12
        have f13 := hxA.cell d13
        gi_wp2_with fail
        refine ⟨trivial, CallsIn.inRound l (callsIn_wide.2 ((same_side_any _ _ ⟨f, tf⟩ ⟨g, tg⟩ _ ⟨_, _, rfl, (ho0.ext hxA).1⟩ ⟨_, _, rfl, (ho1.ext hxA).1⟩).mono ?_))⟩
        rintro e w2 ⟨rfl, hx2⟩
        clear d00 d01 d02 d03 d10 d11 d12 d13 f00 f01 f02 f03 f10 f11 f12 f13
        have hx3 := hxA.trans hx2
        have hM2 := hM.ext hx3
        replace hb0 := hx3.blk hb0
        replace hb1 := hx3.blk hb1
        replace hbC := hx2.blk hbC
        replace ho0 := ho0.ext hx3
        replace ho1 := ho1.ext hx3
        have hgC : W'.heap.size ≤ W'.heap.size := Nat.le_refl _
        have hx3s := hx3.size
        have k00 := cell_blk hb0 0
        have k01 := cell_blk hb0 1
        have k02 := cell_blk hb0 2
        have k03 := cell_blk hb0 3
        have k10 := cell_blk hb1 0
        have k11 := cell_blk hb1 1
        have k12 := cell_blk hb1 2
        have k13 := cell_blk hb1 3
        simp only [List.getElem?_toArray, List.getElem?_cons_succ, List.getElem?_cons_zero] at k00 k01 k02 k03 k10 k11 k12 k13
        by_cases hXY : (⟨f, tf⟩ : SideV) = ⟨g, tg⟩
        · rw [decide_eq_true hXY]
          have HD : Hid (diffL a b (pre ++ [x]) = diffL a b pre) := diff_snoc_no (change_none (by rw [HXa.out, HXb.out, hXY]))
          clear hXY
          gi_wp2_with fail
          try simp only [NoOut, Exit.inBlock]
          refine ⟨hM2.ko.from _, hM2.kb, ?_⟩
          refine ⟨?_, hB.trans hM2.kb⟩
          rw [HD.out]
          exact hM2.out
        · rw [decide_eq_false hXY]
          obtain ⟨q0, q1, q2, q3, q4, q5, q6, q7⟩ := blk8 hbC
          have fq := blk_frozen hbC 0
          cases tf
          · cases tg
            · exact absurd (ch_ff HXa.out HXb.out) hXY
            · have HD : Hid (diffL a b (pre ++ [x]) = diffL a b pre ++ [⟨0, x, f, g⟩]) := diff_snoc_yes (by rw [ch_new HXa.out HXb.out, show noFile = f from (congrArg SideV.f (HXa.out.symm.trans (look_gone a x (by rw [HXa.out])))).symm])
              clear hXY
              obtain ⟨vo, xs, hvo, hro, hok⟩ := hM2.out
              have cO := hvo.cell
              gi_wp2_with (gi_at_builtin; refine wpListIn_append1 rfl (.tmp 48) (.tmp 50) 57 rfl (w1.heap.size + 3) 67 i67 _ 8 120 Tryd.underlying57 HI.out HZ0.out HZ1.out HZ2.out rfl (by decide) (by decide) vo _ xs rfl hro (chCells (⟨0, x, f, g⟩ : ChangeV) F0 F1 c0 c1) rfl rfl (by simp [chCells, Value.oneCell']) (by omega) hM2.big ?_; intro v' w8 hown' hbel hg3; have hbx := (Boxed.appended (tmp := .cells (chCells (⟨0, x, f, g⟩ : ChangeV) F0 F1 c0 c1).toArray 67) hvo (by decide) (own_base hro (Nat.le_add_right _ _)) (by have := hM2.big; omega) (Nat.le_refl _) (own_base hown' (Nat.le_add_right _ _)) hg3).1; have cO3 := hbx.cell; have fO3 := hbx.frozen; have hM3 := hM2.add (c := (⟨0, x, f, g⟩ : ChangeV)) (by omega) hvo hro hok ho0 ho1 hown' hbel hg3; obtain ⟨Ao3, co3, rfl, -, -, -⟩ := own_rd hown')
              try simp only [NoOut, Exit.inBlock]
              refine ⟨hM3.ko.from _, hM3.kb, ?_⟩
              refine ⟨?_, hB.trans hM3.kb⟩
              rw [HD.out]
              exact hM3.out
          · cases tg
            · have HD : Hid (diffL a b (pre ++ [x]) = diffL a b pre ++ [⟨1, x, f, g⟩]) := diff_snoc_yes (by rw [ch_one HXa.out HXb.out, show noFile = g from (congrArg SideV.f (HXb.out.symm.trans (look_gone b x (by rw [HXb.out])))).symm])
              clear hXY
              have hxS : Ext W' (w2.setCell ⟨W'.heap.size, 0, none⟩ (.int .i64 1)) := ext_set hx3 (Nat.le_refl _) _
              have hMS := hM.ext hxS
              have hbS := blk_set hbC 0 (.int .i64 1)
              simp only [List.setIfInBounds_toArray, List.set_cons_zero] at hbS
              obtain ⟨s0, s1, s2, s3, s4, s5, s6, s7⟩ := blk8 hbS
              have ho0S : FrOwn (w1.heap.size + 3) (w2.setCell ⟨W'.heap.size, 0, none⟩ (.int .i64 1)) F0 c0 f.frags := ho0.keep3 (KeepT.set (e := 3) hbC (by decide) 0 _)
              have ho1S : FrOwn (w1.heap.size + 3) (w2.setCell ⟨W'.heap.size, 0, none⟩ (.int .i64 1)) F1 c1 g.frags := ho1.keep3 (KeepT.set (e := 3) hbC (by decide) 0 _)
              obtain ⟨vo, xs, hvo, hro, hok⟩ := hMS.out
              have cO := hvo.cell
              obtain ⟨WW, hWW⟩ : ∃ WW, WW = w2.setCell ⟨W'.heap.size, 0, none⟩ (.int .i64 1) := ⟨_, rfl⟩
              gi_wp2_with (gi_at_builtin; rw [← hWW]; rw [← hWW] at hMS hvo hro hok ho0S ho1S; have hz : w2.heap.size = WW.heap.size := (by rw [hWW]; simp [World.setCell]); try rw [hz]; clear hWW; refine wpListIn_append1 rfl (.tmp 48) (.tmp 50) 57 rfl (w1.heap.size + 3) 67 i67 _ 8 120 Tryd.underlying57 HI.out HZ0.out HZ1.out HZ2.out rfl (by decide) (by decide) vo _ xs rfl hro (chCells (⟨1, x, f, g⟩ : ChangeV) F0 F1 c0 c1) rfl rfl (by simp [chCells, Value.oneCell']) (by omega) hMS.big ?_; intro v' w8 hown' hbel hg3; have hbx := (Boxed.appended (tmp := .cells (chCells (⟨1, x, f, g⟩ : ChangeV) F0 F1 c0 c1).toArray 67) hvo (by decide) (own_base hro (Nat.le_add_right _ _)) (by have := hMS.big; omega) (Nat.le_refl _) (own_base hown' (Nat.le_add_right _ _)) hg3).1; have cO3 := hbx.cell; have fO3 := hbx.frozen; have hM3 := hMS.add (c := (⟨1, x, f, g⟩ : ChangeV)) (by omega) hvo hro hok ho0S ho1S hown' hbel hg3; obtain ⟨Ao3, co3, rfl, -, -, -⟩ := own_rd hown')
              try simp only [NoOut, Exit.inBlock]
              refine ⟨hM3.ko.from _, hM3.kb, ?_⟩
              refine ⟨?_, hB.trans hM3.kb⟩
              rw [HD.out]
              exact hM3.out
            · have hfg : ¬ f = g := fun e => hXY (by rw [e])
              have HD : Hid (diffL a b (pre ++ [x]) = diffL a b pre ++ [⟨2, x, f, g⟩]) := diff_snoc_yes (ch_two HXa.out HXb.out hfg)
              clear hfg
              clear hXY
              have hxS : Ext W' (w2.setCell ⟨W'.heap.size, 0, none⟩ (.int .i64 2)) := ext_set hx3 (Nat.le_refl _) _
              have hMS := hM.ext hxS
              have hbS := blk_set hbC 0 (.int .i64 2)
              simp only [List.setIfInBounds_toArray, List.set_cons_zero] at hbS
              obtain ⟨s0, s1, s2, s3, s4, s5, s6, s7⟩ := blk8 hbS
              have ho0S : FrOwn (w1.heap.size + 3) (w2.setCell ⟨W'.heap.size, 0, none⟩ (.int .i64 2)) F0 c0 f.frags := ho0.keep3 (KeepT.set (e := 3) hbC (by decide) 0 _)
              have ho1S : FrOwn (w1.heap.size + 3) (w2.setCell ⟨W'.heap.size, 0, none⟩ (.int .i64 2)) F1 c1 g.frags := ho1.keep3 (KeepT.set (e := 3) hbC (by decide) 0 _)
              obtain ⟨vo, xs, hvo, hro, hok⟩ := hMS.out
              have cO := hvo.cell
              obtain ⟨WW, hWW⟩ : ∃ WW, WW = w2.setCell ⟨W'.heap.size, 0, none⟩ (.int .i64 2) := ⟨_, rfl⟩
              gi_wp2_with (gi_at_builtin; rw [← hWW]; rw [← hWW] at hMS hvo hro hok ho0S ho1S; have hz : w2.heap.size = WW.heap.size := (by rw [hWW]; simp [World.setCell]); try rw [hz]; clear hWW; refine wpListIn_append1 rfl (.tmp 48) (.tmp 50) 57 rfl (w1.heap.size + 3) 67 i67 _ 8 120 Tryd.underlying57 HI.out HZ0.out HZ1.out HZ2.out rfl (by decide) (by decide) vo _ xs rfl hro (chCells (⟨2, x, f, g⟩ : ChangeV) F0 F1 c0 c1) rfl rfl (by simp [chCells, Value.oneCell']) (by omega) hMS.big ?_; intro v' w8 hown' hbel hg3; have hbx := (Boxed.appended (tmp := .cells (chCells (⟨2, x, f, g⟩ : ChangeV) F0 F1 c0 c1).toArray 67) hvo (by decide) (own_base hro (Nat.le_add_right _ _)) (by have := hMS.big; omega) (Nat.le_refl _) (own_base hown' (Nat.le_add_right _ _)) hg3).1; have cO3 := hbx.cell; have fO3 := hbx.frozen; have hM3 := hMS.add (c := (⟨2, x, f, g⟩ : ChangeV)) (by omega) hvo hro hok ho0S ho1S hown' hbel hg3; obtain ⟨Ao3, co3, rfl, -, -, -⟩ := own_rd hown')
              try simp only [NoOut, Exit.inBlock]
              refine ⟨hM3.ko.from _, hM3.kb, ?_⟩
              refine ⟨?_, hB.trans hM3.kb⟩
              rw [HD.out]
              exact hM3.out
    case done =>
      rintro D ys W hD rfl ⟨⟨vo, xs, hvo, hro, hok⟩, hB⟩ hK
      have cO := hvo.cell
      obtain ⟨Ao, co, rfl, ho1, ho2, ho3⟩ := own_rd hro
      have hX : Ext w W := Below.trans (hx.trans hxw4) (hB.below (n := w.heap.size) (by omega) (by simp; omega))
      have hR := Lib.hid (rdC_of ho3 hok)
      clear ho3
      gi_wp2_with fail
      refine ⟨by simp, .inl ⟨_, _, rfl, run_takeDeferred hK, ?_⟩⟩
      have hkc : KeepCells W (W.putObj D (.deferred none)) := KeepCells.put hK rfl _
      refine ⟨_, results_tmp2 rfl _ _ _, Ao, co, ?_, ?_, ?_⟩
      · rw [HK.out]; rfl
      · rw [HK.out]; exact RdC.keep hR.out hkc
      · exact Below.trans hX (KeepBut.below (N0 := w4.heap.size) (obs := []) (KeepBut.putObj (Nat.le_refl _) W D _ _ hD hK rfl rfl) (by have := hX.size; omega) (by simp))
    case stop =>
      rintro D c pre W _ _ h _
      exact h.elim
  · have HK : Hid (diffE a b = ([], checks [a, b])) := by rw [Hid, diffE_checks, if_neg hc]
    have q1 : (checks [a, b] == 0) = false := beq_eq_false_iff_ne.2 hc
    have q2 : (checks [a, b] != 0) = true := by simp [bne, q1]
    generalize checks [a, b] = ce at *
    gi_wp2_with fail
    try simp only [Exit.inBlock, Exit.then]
    refine ⟨_, results_tmp2 rfl _ _ _, none, 0, ?_, ?_, hx⟩
    · rw [HK.out]; rfl
    · rw [HK.out]; exact .inl rfl
end Go.Proofs.YtcjokhhcncimdaaDoor
