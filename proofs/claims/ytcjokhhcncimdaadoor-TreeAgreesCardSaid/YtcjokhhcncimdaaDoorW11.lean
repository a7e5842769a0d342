/- The walk of Merge. -/
import Derived.Test.YtcjokhhcncimdaaDoorW10
import Derived.Test.YtcjokhhcncimdaaDoorS2
import Derived.Test.YtcjokhhcncimdaaDoorS4
set_option linter.unusedVariables false
set_option linter.unusedSimpArgs false
namespace Go.Proofs.YtcjokhhcncimdaaDoor
open Go.RowKit Go.PF Go.Tr Go.Shelf
attribute [local go_sem] Oper.semAt_some

/-- What Merge returns. -/
def mergeE (base a b : List FileV) : List FileV × List ByteArray × Int :=
  if checks [base, a, b] = 0 then (if checkE (outL base a b (bothL a b)) = 0 then (outL base a b (bothL a b), confL base a b (bothL a b), 0) else ([], [], checkE (outL base a b (bothL a b)))) else ([], [], checks [base, a, b])

def RdS (w : World) (A : Option Addr) (ps : List ByteArray) : Prop := Rd w A (ps.map Value.string)

/-- What stands behind some rounds: the files so far, the conflicts so far. -/
def Inv13 (n0 Bo Bd : Nat) (w4 : World) (fs : List FileV) (ps : List ByteArray) (W : World) : Prop :=
  (∃ vo xs, Boxed W Bo 22 vo ∧ W.ownsRow n0 46 3 vo fs.length xs ∧ OutOk n0 W xs fs) ∧ (∃ vd, Boxed W Bd 25 vd ∧ W.ownsRow n0 9 1 vd ps.length (ps.map Value.string)) ∧ KeepBut n0 [Bo, Bd] w4 W
theorem inv13_own (n0 Bo Bd : Nat) (w4 : World) (fs : List ByteArray → List FileV) (ps : List ByteArray → List ByteArray) (h : n0 ≤ w4.heap.size) : OwnFrom w4.heap.size (fun pre W => Inv13 n0 Bo Bd w4 (fs pre) (ps pre) W) := by
  rintro s X Y row ⟨⟨vo, xs, h1, h2, h3⟩, ⟨vd, h4, h5⟩, h6⟩ hg hr
  have hcell : ∀ {g : Nat} {cs : Array Value} {t : TypeId} {e : Nat × Nat}, X.heap[g]? = some (.cells cs t e) → some g ≠ row := by
    intro g cs t e hh he
    obtain ⟨_, o, ho, hc⟩ := hr g he.symm
    rw [hh] at ho; cases ho; cases hc
  have hrow : ∀ {e : TypeId} {size n : Nat} {v : Value} {ys : List Value}, X.ownsRow n0 e size v n ys → Y.ownsRow n0 e size v n ys := by
    intro e size n v ys ho
    refine ho.kept hg ?_
    rcases ho.2 with ⟨rfl, _⟩ | ⟨g, cap, cur, rfl, _, hgb, _⟩
    · exact .inl rfl
    · exact .inr (hcell hgb)
  refine ⟨⟨vo, xs, h1.kept hg (hcell h1), hrow h2, h3.keep3 (fun b cs r hb => (hg.block b (Array.getElem?_eq_some_iff.1 hb).1 (hcell hb)).trans hb)⟩, ⟨vd, h4.kept hg (hcell h4), hrow h5⟩, ?_⟩
  exact KeepBut.own (obs := [Bo, Bd]) (β := Unit) w4 h h () X Y row h6 hg hr

theorem rdL_of {n0 : Nat} {w : World} {A : Option Addr} {xs : List Value} {fs : List FileV} (h : Rd w A xs) (ho : OutOk n0 w xs fs) : RdL w A fs := by
  obtain ⟨h1, h2⟩ := ho
  rcases h with rfl | ⟨b, off, hA, hc⟩
  · left
    cases fs with
    | nil => rfl
    | cons f r => simp at h1
  · refine .inr ⟨b, off, hA, fun k f hf => ?_⟩
    obtain ⟨F, c, e0, e1, e2, e3⟩ := h2 k f hf
    obtain ⟨l0, g0⟩ := List.getElem?_eq_some_iff.1 e0
    obtain ⟨l1, g1⟩ := List.getElem?_eq_some_iff.1 e1
    obtain ⟨l2, g2⟩ := List.getElem?_eq_some_iff.1 e2
    refine ⟨F, c, ?_, ?_, ?_, e3.1⟩
    · rw [hc _ l0, g0]
    · rw [Nat.add_assoc, hc _ l1, g1]
    · rw [Nat.add_assoc, hc _ l2, g2]

/-- Every row of cells stands. -/
def KeepCells (w w' : World) : Prop := ∀ (b : Nat) (o : Obj), w.heap[b]? = some o → o.isCells = true → w'.heap[b]? = some o
theorem KeepCells.trans {a b c : World} (h : KeepCells a b) (k : KeepCells b c) : KeepCells a c := fun g o hg hc => k g o (h g o hg hc) hc
theorem KeepCells.of_ext {w w' : World} (h : Ext w w') : KeepCells w w' := fun _ _ hg _ => h.blk hg
theorem KeepCells.put {w : World} {D : Nat} {o : Obj} (h : w.heap[D]? = some o) (hc : o.isCells = false) (o' : Obj) : KeepCells w (w.putObj D o') := fun g x hg hx => by
  refine (World.putObj_heap_other ?_).trans hg
  rintro rfl
  rw [h] at hg; cases hg; rw [hc] at hx; cases hx
theorem KeepCells.cell {w w' : World} (h : KeepCells w w') {a : Addr} {v : Value} (hc : w.cell? a = some v) : w'.cell? a = some v := by
  refine (World.cell?_of_block (w := w) (a := a) ?_).trans hc
  unfold World.cell? at hc
  split at hc
  · rename_i hb
    rw [hb]
    exact h _ _ hb rfl
  · cases hc
theorem Fr.keep {w w' : World} {A : Option Addr} {c : Nat} {l : List Int} (h : Fr w A c l) (hk : KeepCells w w') : Fr w' A c l := by
  refine ⟨h.le, h.max, ?_⟩
  rcases h.rd with h0 | ⟨b, off, hA, hc⟩
  · exact .inl h0
  · exact .inr ⟨b, off, hA, fun k hk' => hk.cell (hc k hk')⟩
theorem _root_.Go.Tr.RdL.keep {w w' : World} {A : Option Addr} {l : List FileV} (h : RdL w A l) (hk : KeepCells w w') : RdL w' A l := by
  rcases h with h | ⟨b, off, hA, h⟩
  · exact .inl h
  · refine .inr ⟨b, off, hA, fun k f hf => ?_⟩
    obtain ⟨F, c, h1, h2, h3, h4⟩ := h k f hf
    exact ⟨F, c, hk.cell h1, hk.cell h2, hk.cell h3, Fr.keep h4 hk⟩
theorem rd_keep {w w' : World} {A : Option Addr} {l : List Value} (h : Rd w A l) (hk : KeepCells w w') : Rd w' A l := by
  rcases h with h0 | ⟨b, off, hA, hc⟩
  · exact .inl h0
  · exact .inr ⟨b, off, hA, fun k hk' => hk.cell (hc k hk')⟩

theorem side_mono {n0 n1 : Nat} {w : World} {v : Value} {x : SideV} (h : SideOwn n0 w v x) (he : n1 ≤ n0) : SideOwn n1 w v x := by
  obtain ⟨F, c, h1, h2⟩ := h
  exact ⟨F, c, h1, h2.mono he⟩

theorem boxes3o (w : World) (v0 v1 v2 : Value) (t0 t1 t2 : TypeId) (o : Obj) :
    ∃ W, (((w.alloc (.cells #[v0] t0)).alloc (.cells #[v1] t1)).alloc (.cells #[v2] t2)).alloc o = W ∧
      Boxed W w.heap.size t0 v0 ∧ Boxed W (w.heap.size + 1) t1 v1 ∧ Boxed W (w.heap.size + 1 + 1) t2 v2 ∧ W.heap[w.heap.size + 1 + 1 + 1]? = some o ∧ W.heap.size = w.heap.size + 4 ∧ Ext w W := by
  have b0 := Boxed.new w t0 v0
  have b1 := Boxed.new (w.alloc (.cells #[v0] t0)) t1 v1
  have b2 := Boxed.new ((w.alloc (.cells #[v0] t0)).alloc (.cells #[v1] t1)) t2 v2
  have b3 := World.alloc_heap_new (((w.alloc (.cells #[v0] t0)).alloc (.cells #[v1] t1)).alloc (.cells #[v2] t2)) o
  simp only [World.size_alloc] at b1 b2 b3
  exact ⟨_, rfl, ((b0.alloc _).alloc _).alloc _, (b1.alloc _).alloc _, b2.alloc _, b3, by simp, ((((Below.refl _ _).alloc (Nat.le_refl _) _).alloc (by simp) _).alloc (by simp; omega) _).alloc (by simp; omega) _⟩
theorem boxed_ext {w w' : World} {g : Nat} {t : TypeId} {v : Value} (h : Boxed w g t v) (he : Ext w w') : Boxed w' g t v := he.blk h

theorem info46 : (Tryd.prog.info? 46).map (fun i => (i.zero, i.size, i.bytes)) = some (some (.agg #[.string ⟨#[]⟩, .int .i64 0, .slice none 0 0]), 3, 48) := by kernel_rfl
theorem info9 : (Tryd.prog.info? 9).map (fun i => (i.zero, i.size, i.bytes)) = some (some (.string ⟨#[]⟩), 1, 16) := by kernel_rfl
theorem info_parts {P : Program} {e : TypeId} {z : Value} {s b : Nat} (h : (P.info? e).map (fun i => (i.zero, i.size, i.bytes)) = some (some z, s, b)) : ∃ i, P.info? e = some i ∧ i.zero = some z ∧ i.size = s ∧ i.bytes = b := by
  cases hi : P.info? e with
  | none => rw [hi] at h; cases h
  | some i =>
    rw [hi] at h
    simp only [Option.map_some, Option.some.injEq, Prod.mk.injEq] at h
    exact ⟨i, rfl, h.1, h.2.1, h.2.2⟩

theorem look_gone (l : List FileV) (p : ByteArray) (h : (lookE l p).there = false) : lookE l p = ⟨noFile, false⟩ := by
  cases hb : hasB p l
  · exact look_no hb
  · obtain ⟨f, hf, _⟩ := has_at hb
    rw [look_yes hb hf] at h
    cases h

set_option maxRecDepth 100000 in
set_option maxHeartbeats 4000000 in
theorem merge_any (A B C : Option Addr) (ca cb cc : Nat) (base a b : List FileV) (w : World) (hm : Mx w) (h1 : base.length ≤ 500) (h2 : a.length ≤ 500) (h3 : b.length ≤ 500)
    (hs1 : Short base) (hs2 : Short a) (hs3 : Short b) (hl1 : Small base) (hl2 : Small a) (hl3 : Small b) (hA : RdL w A base) (hB : RdL w B a) (hC : RdL w C b) :
    Calls Tryd.prog 13 #[.slice A base.length ca, .slice B a.length cb, .slice C b.length cc] w fun e w' => ∃ Ao co Ac cc, e = .returned (.tuple #[.slice Ao (mergeE base a b).1.length co, .slice Ac (mergeE base a b).2.1.length cc, .int .i64 (mergeE base a b).2.2]) ∧
      RdL w' Ao (mergeE base a b).1 ∧ RdS w' Ac (mergeE base a b).2.1 ∧ Ext w w' := by
  have HA := Lib.hid hA; have HB := Lib.hid hB; have HC := Lib.hid hC; clear hA hB hC
  refine callsIn_wide.1 (?_ : CallsIn Fence.wide 3 _ _ _ _ _)
  refine callsIn_of_wp_marks Tryd.func13 rfl trivial ?_ rfl
  simp only [Tryd.ntmps13, List.size_toArray, List.length_cons, List.length_nil, Nat.reduceAdd, Nat.reduceSub, Array.replicate_succ, Array.replicate_zero, List.push_toArray, List.append_toArray, List.nil_append, List.cons_append]
  have hm1 : 1 ≤ 3 := by omega
  obtain ⟨i46, hi46, hz46, hz46', hz46''⟩ := info_parts info46
  have HI := Lib.hid hi46; have HZ0 := Lib.hid hz46; have HZ1 := Lib.hid hz46'; have HZ2 := Lib.hid hz46''
  clear hi46 hz46 hz46' hz46''
  obtain ⟨i9, hi9, hz9, hz9', hz9''⟩ := info_parts info9
  have KI := Lib.hid hi9; have KZ0 := Lib.hid hz9; have KZ1 := Lib.hid hz9'; have KZ2 := Lib.hid hz9''
  clear hi9 hz9 hz9' hz9''
  gi_wp2_with fail
  obtain ⟨W, hW, bA, bB, bC, hrow, hsz, hx⟩ := boxes3o w (.slice A base.length ca) (.slice B a.length cb) (.slice C b.length cc) 22 22 22 (.cells #[.slice A base.length ca, .slice B a.length cb, .slice C b.length cc] 22)
  rw [hW]
  clear hW
  refine ⟨trivial, callsIn_wide.2 ((checks_any (w.heap.size + 1 + 1 + 1) 0 3 [base, a, b] W (hm.ext hx) (by simp) ?hB).mono ?_)⟩
  case hB =>
    intro i l hl
    match i with
    | 0 => cases hl; exact ⟨A, ca, by rw [Nat.add_zero, cell_blk hrow]; rfl, HA.out.ext hx, by omega, hs1⟩
    | 1 => cases hl; exact ⟨B, cb, by rw [Nat.zero_add, cell_blk hrow]; rfl, HB.out.ext hx, by omega, hs2⟩
    | 2 => cases hl; exact ⟨C, cc, by rw [Nat.zero_add, cell_blk hrow]; rfl, HC.out.ext hx, by omega, hs3⟩
    | n + 3 => cases hl
  rintro e w1 ⟨rfl, hx1⟩
  replace bA := boxed_ext bA hx1
  replace bB := boxed_ext bB hx1
  replace bC := boxed_ext bC hx1
  have hsz1 := hx1.size
  replace hx := hx.trans hx1
  clear hrow hx1
  by_cases hc : checks [base, a, b] = 0
  · have HK : Hid (mergeE base a b = if checkE (outL base a b (bothL a b)) = 0 then (outL base a b (bothL a b), confL base a b (bothL a b), 0) else ([], [], checkE (outL base a b (bothL a b)))) := by
      unfold mergeE; rw [Hid, if_pos hc]
    have hk1 : checkE base = 0 ∧ checkE a = 0 ∧ checkE b = 0 := by
      simp only [checks] at hc
      split at hc
      · split at hc
        · split at hc
          · exact ⟨by assumption, by assumption, by assumption⟩
          · exact absurd hc (by assumption)
        · exact absurd hc (by assumption)
      · exact absurd hc (by assumption)
    have HS1 := Lib.hid (check_srt hk1.1)
    have HS2 := Lib.hid (check_srt hk1.2.1)
    have HS3 := Lib.hid (check_srt hk1.2.2)
    clear hk1
    rw [hc]
    clear hc
    have cB := (ext_alloc2 w1 (.cells #[.slice none 0 0] 22) (.cells #[.slice none 0 0] 25)).cell bB.cell
    have cC := (ext_alloc2 w1 (.cells #[.slice none 0 0] 22) (.cells #[.slice none 0 0] 25)).cell bC.cell
    gi_wp2_with (refine ⟨trivial, ?_⟩; gi_at_call 38; refine (both_in _ _ _ _ _ _ _ _).mono ?_; rintro e w' ⟨rfl, rfl⟩)
    clear cB cC
    obtain ⟨w4, hw4, bO, bD, bI, bJ, hsz4, hxw4⟩ := boxes4 w1 (.slice none 0 0) (.slice none 0 0) (.slice B a.length cb) (.slice C b.length cc) 22 25 22 22
    rw [hw4]
    clear hw4
    have hBO : BothOk (w1.heap.size + 1 + 1) (w1.heap.size + 1 + 1 + 1) B C cb cc a b w4 := by
      refine ⟨bI.cell, bJ.cell, fun k f hf => ?_, fun k f hf => ?_⟩
      · obtain ⟨g, off, F, c, hA, h1, -⟩ := (HB.out.ext (hx.trans hxw4)).at_ hf
        exact ⟨g, off, hA, h1⟩
      · obtain ⟨g, off, F, c, hA, h1, -⟩ := (HC.out.ext (hx.trans hxw4)).at_ hf
        exact ⟨g, off, hA, h1⟩
    have hKO : ∀ W W', KeepBut (w1.heap.size + 4) [w1.heap.size, w1.heap.size + 1] W W' → BothOk (w1.heap.size + 1 + 1) (w1.heap.size + 1 + 1 + 1) B C cb cc a b W → BothOk (w1.heap.size + 1 + 1) (w1.heap.size + 1 + 1 + 1) B C cb cc a b W' := by
      intro W W' hk ho
      have hlt : ∀ {X : Option Addr} {l : List FileV}, RdL w X l → ∀ {k : Nat} {f : FileV} {g off : Nat}, l[k]? = some f → X = some ⟨g, off, none⟩ → g < w.heap.size := by
        intro X l hr k f g off hf hX
        obtain ⟨g', off', F, c, hA, h1, -⟩ := hr.at_ hf
        rw [hX] at hA
        cases hA
        exact World.block_lt_of_cell? w _ h1
      refine ⟨(hk.cell (by show w1.heap.size + 1 + 1 < _; omega) (by simp; omega)).trans ho.boxA, (hk.cell (by show w1.heap.size + 1 + 1 + 1 < _; omega) (by simp; omega)).trans ho.boxB, fun k f hf => ?_, fun k f hf => ?_⟩
      · obtain ⟨g, off, hA, h1⟩ := ho.rdA k f hf
        have := hlt HB.out hf hA
        exact ⟨g, off, hA, (hk.cell (by show g < _; omega) (by simp; omega)).trans h1⟩
      · obtain ⟨g, off, hA, h1⟩ := ho.rdB k f hf
        have := hlt HC.out hf hA
        exact ⟨g, off, hA, (hk.cell (by show g < _; omega) (by simp; omega)).trans h1⟩
    refine wpIn_rangeFunc_ownG rfl hm1 (gf := 64) (lb := #[.pointer (some ⟨w1.heap.size + 1 + 1, 0, none⟩), .pointer (some ⟨w1.heap.size + 1 + 1 + 1, 0, none⟩)]) rfl trivial (enters_of Tryd.func64 (by kernel_rfl) rfl)
      (both_stops _ (by omega) (w1.heap.size + 1 + 1) (w1.heap.size + 1 + 1 + 1) B C cb cc a b (KeepBut (w1.heap.size + 4) [w1.heap.size, w1.heap.size + 1]) (by omega) (by omega) hKO w4 hBO)
      KeepBut.trans (KeepBut.putObj (by omega)) (Below.refl _ _) (fun _ => rfl)
      (fun pre W => Inv13 (w1.heap.size + 4) w1.heap.size (w1.heap.size + 1) w4 (outL base a b pre) (confL base a b pre) W)
      (fun _ _ _ => False)
      (inv13_own _ _ _ _ _ _ (by omega))
      (fun _ _ _ _ _ hs _ _ => hs)
      ?init
      (fun x => { tmps := #[.slice A base.length ca, .slice B a.length cb, .slice C b.length cc, .pointer (some ⟨w.heap.size, 0, none⟩), .pointer (some ⟨w.heap.size + 1, 0, none⟩), .pointer (some ⟨w.heap.size + 1 + 1, 0, none⟩), .slice none 0 0, .slice none 0 0, .int .i64 0, .int .i64 0, .pointer (some ⟨w1.heap.size, 0, none⟩), .pointer (some ⟨w1.heap.size + 1, 0, none⟩), .string x, undef, undef, undef, undef, undef, .slice A base.length ca, .slice B a.length cb, .slice C b.length cc, .slice (some ⟨w.heap.size + 1 + 1 + 1, 0, none⟩) 3 3, .int .i64 0, .int .i64 0, .bool false, undef, .slice B a.length cb, .slice C b.length cc, .func (.func 64) #[] #[.pointer (some ⟨w1.heap.size + 1 + 1, 0, none⟩), .pointer (some ⟨w1.heap.size + 1 + 1 + 1, 0, none⟩)], .string x, undef, undef, undef, undef, undef, undef, undef, undef, undef, undef, undef, undef, undef, undef, undef, undef, undef, undef, undef, undef, undef, undef, undef, undef, undef, undef, undef, undef, undef, undef, undef, undef, undef, undef, undef, undef, undef, undef, undef, undef, undef, undef, undef, undef], defers := [] }) ?assign ?body ?done ?stop
    case init => exact ⟨⟨_, _, bO, World.ownsRow_nil _ _ _ _, OutOk.nil _ _⟩, ⟨_, bD, World.ownsRow_nil _ _ _ _⟩, KeepBut.refl _ _ _⟩
    case assign =>
      intro l x W K hK
      gi_wp2
      exact hK
    case body =>
      rintro l pre x W ⟨⟨vo, xs, hvo, hro, hok⟩, ⟨vd, hvd, hrd⟩, hB⟩ hlt
      dsimp only
      have hX : Ext w W := Below.trans (hx.trans hxw4) (hB.below (n := w.heap.size) (by omega) (by simp; omega))
      have cA := (hB.boxed (boxed_ext bA hxw4) (by omega) (by simp; omega)).cell
      have cB := (hB.boxed (boxed_ext bB hxw4) (by omega) (by simp; omega)).cell
      have cC := (hB.boxed (boxed_ext bC hxw4) (by omega) (by simp; omega)).cell
      have hszW := hB.size
      have HA2 := Lib.hid ((HA.out.ext hX).ext (show Ext W W.drew from (Below.refl _ _).drew))
      have HB2 := Lib.hid ((HB.out.ext hX).ext (show Ext W W.drew from (Below.refl _ _).drew))
      have HC2 := Lib.hid ((HC.out.ext hX).ext (show Ext W W.drew from (Below.refl _ _).drew))
      gi_wp2_with fail
      refine wpIn_round_T (fun W' => Ext W.drew W') [] (by kernel_rfl) (by kernel_rfl) ?_
      have hS : Ext W.drew W.drew := Ext.refl _
      have cA' : W.drew.cell? ⟨w.heap.size, 0, none⟩ = some (.slice A base.length ca) := cA
      have cB' : W.drew.cell? ⟨w.heap.size + 1, 0, none⟩ = some (.slice B a.length cb) := cB
      have cC' : W.drew.cell? ⟨w.heap.size + 1 + 1, 0, none⟩ = some (.slice C b.length cc) := cC
      refine takeT 0 ?v0_1 rfl (by kernel_rfl) (fun _ _ _ h => h) rfl hS ?hy0_1 ?hk0_1
      case hy0_1 =>
        rintro w' he 
        have s1 := he.cell cA'
        have s2 := he.cell cB'
        have s3 := he.cell cC'
        go_simp
        first | done | with_reducible rfl
      try simp only [Act.put, List.setIfInBounds_toArray, List.set_cons_zero, List.set_cons_succ]
      refine takeT 1 ?v1_2 rfl (by kernel_rfl) (fun _ _ _ h => h) rfl hS ?hy1_2 ?hk1_2
      case hy1_2 =>
        rintro w' he 
        have s1 := he.cell cA'
        have s2 := he.cell cB'
        have s3 := he.cell cC'
        go_simp
        first | done | with_reducible rfl
      try simp only [Act.put, List.setIfInBounds_toArray, List.set_cons_zero, List.set_cons_succ]
      refine takeT 3 ?v3_3 rfl (by kernel_rfl) (fun _ _ _ h => h) rfl hS ?hy3_3 ?hk3_3
      case hy3_3 =>
        rintro w' he 
        have s1 := he.cell cA'
        have s2 := he.cell cB'
        have s3 := he.cell cC'
        go_simp
        first | done | with_reducible rfl
      try simp only [Act.put, List.setIfInBounds_toArray, List.set_cons_zero, List.set_cons_succ]
      refine takeT 4 ?v4_4 rfl (by kernel_rfl) (fun _ _ _ h => h) rfl hS ?hy4_4 ?hk4_4
      case hy4_4 =>
        rintro w' he 
        have s1 := he.cell cA'
        have s2 := he.cell cB'
        have s3 := he.cell cC'
        go_simp
        first | done | with_reducible rfl
      try simp only [Act.put, List.setIfInBounds_toArray, List.set_cons_zero, List.set_cons_succ]
      refine takeT 6 ?v6_5 rfl (by kernel_rfl) (fun _ _ _ h => h) rfl hS ?hy6_5 ?hk6_5
      case hy6_5 =>
        rintro w' he 
        have s1 := he.cell cA'
        have s2 := he.cell cB'
        have s3 := he.cell cC'
        go_simp
        first | done | with_reducible rfl
      try simp only [Act.put, List.setIfInBounds_toArray, List.set_cons_zero, List.set_cons_succ]
      refine takeT 7 ?v7_6 rfl (by kernel_rfl) (fun _ _ _ h => h) rfl hS ?hy7_6 ?hk7_6
      case hy7_6 =>
        rintro w' he 
        have s1 := he.cell cA'
        have s2 := he.cell cB'
        have s3 := he.cell cC'
        go_simp
        first | done | with_reducible rfl
      try simp only [Act.put, List.setIfInBounds_toArray, List.set_cons_zero, List.set_cons_succ]
      have hlanes : Lanes 3 (fun k => 2 + 3 * k) (fun k => 9 + k) (fun k => 12 + k) := ⟨by intros; omega, by intros; omega, by intros; omega, by intros; omega, by intros; omega, by intros; omega⟩
      refine wpAnyT_inv (fun L aa W' => ∃ (p q : Nat → Value) (B8 : Nat → Nat), aa = { tmps := #[.slice A base.length ca, .slice B a.length cb, .slice C b.length cc, .pointer (some ⟨w.heap.size, 0, none⟩), .pointer (some ⟨w.heap.size + 1, 0, none⟩), .pointer (some ⟨w.heap.size + 1 + 1, 0, none⟩), .slice none 0 0, .slice none 0 0, .int .i64 0, .int .i64 0, .pointer (some ⟨w1.heap.size, 0, none⟩), .pointer (some ⟨w1.heap.size + 1, 0, none⟩), .string x, p 0, p 1, p 2, undef, undef, .slice A base.length ca, .slice B a.length cb, .slice C b.length cc, .slice (some ⟨w.heap.size + 1 + 1 + 1, 0, none⟩) 3 3, .int .i64 0, .int .i64 0, .bool false, undef, .slice B a.length cb, .slice C b.length cc, .func (.func 64) #[] #[.pointer (some ⟨w1.heap.size + 1 + 1, 0, none⟩), .pointer (some ⟨w1.heap.size + 1 + 1 + 1, 0, none⟩)], .string x, .slice A base.length ca, .string x, q 0, .slice B a.length cb, .string x, q 1, .slice C b.length cc, .string x, q 2, undef, undef, undef, undef, undef, undef, undef, undef, undef, undef, undef, undef, undef, undef, undef, undef, undef, undef, undef, undef, undef, undef, undef, undef, undef, undef, undef, undef, undef, undef, undef, undef, undef, undef, undef], defers := [] } ∧
        St 3 (fun k => 2 + 3 * k) (fun k => 9 + k) (fun k => 12 + k) W.drew (w1.heap.size + 4) (fun k => match k with | 0 => lookE base x | 1 => lookE a x | _ => lookE b x) L p q B8 W' ∧ (L 0 = true ∧ L 1 = true ∧ L 3 = true ∧ L 4 = true ∧ L 6 = true ∧ L 7 = true))
        (by kernel_rfl) ?hS ?hstep ?hend _ _ _ _ (by rfl) (by decide) ?h0
      case hS => rintro L aa W' ⟨p, q, B8, rfl, hst, hL⟩; exact hst.ext
      case h0 =>
        refine ⟨fun _ => undef, fun _ => undef, fun _ => 0, rfl, ⟨Ext.refl _, ?_, ?_, ?_, ?_⟩, rfl, rfl, rfl, rfl, rfl, rfl⟩
        · intro k hk h; match k, hk with | 0, _ => cases h | 1, _ => cases h | 2, _ => cases h
        · intro k hk h; match k, hk with | 0, _ => cases h | 1, _ => cases h | 2, _ => cases h
        · intro k hk h; match k, hk with | 0, _ => cases h | 1, _ => cases h | 2, _ => cases h
        · intro k j hk hj hkj h; match k, hk with | 0, _ => cases h | 1, _ => cases h | 2, _ => cases h
      case hstep =>
        rintro L aa W' ⟨p, q, B8, rfl, hst, hL⟩ i oi hoi hLi hw K hK
        match i, hoi, hLi, hw with
        | 0, hoi, hLi, hw => rw [hL.1] at hLi; cases hLi
        | 1, hoi, hLi, hw => rw [hL.2.1] at hLi; cases hLi
        | 2, hoi, hLi, hw =>
          change some _ = some oi at hoi
          cases hoi
          go_simp
          refine (look_any A ca base x W' (by omega) HS1.out hl1 (HA2.out.ext hst.ext)).mono ?_
          rintro e w'' ⟨v, rfl, hso, hx''⟩
          exact hK _ _ ⟨p, upd q 0 v, B8, rfl, hst.call hlanes (k := 0) (by omega) hLi (side_mono hso (by have : W.heap.size ≤ W'.heap.size := hst.ext.size; omega)) hx'', by simpa [setL] using hL⟩
        | 3, hoi, hLi, hw => rw [hL.2.2.1] at hLi; cases hLi
        | 4, hoi, hLi, hw => rw [hL.2.2.2.1] at hLi; cases hLi
        | 5, hoi, hLi, hw =>
          change some _ = some oi at hoi
          cases hoi
          go_simp
          refine (look_any B cb a x W' (by omega) HS2.out hl2 (HB2.out.ext hst.ext)).mono ?_
          rintro e w'' ⟨v, rfl, hso, hx''⟩
          exact hK _ _ ⟨p, upd q 1 v, B8, rfl, hst.call hlanes (k := 1) (by omega) hLi (side_mono hso (by have : W.heap.size ≤ W'.heap.size := hst.ext.size; omega)) hx'', by simpa [setL] using hL⟩
        | 6, hoi, hLi, hw => rw [hL.2.2.2.2.1] at hLi; cases hLi
        | 7, hoi, hLi, hw => rw [hL.2.2.2.2.2] at hLi; cases hLi
        | 8, hoi, hLi, hw =>
          change some _ = some oi at hoi
          cases hoi
          go_simp
          refine (look_any C cc b x W' (by omega) HS3.out hl3 (HC2.out.ext hst.ext)).mono ?_
          rintro e w'' ⟨v, rfl, hso, hx''⟩
          exact hK _ _ ⟨p, upd q 2 v, B8, rfl, hst.call hlanes (k := 2) (by omega) hLi (side_mono hso (by have : W.heap.size ≤ W'.heap.size := hst.ext.size; omega)) hx'', by simpa [setL] using hL⟩
        | 9, hoi, hLi, hw =>
          change some _ = some oi at hoi
          cases hoi
          go_simp
          exact hK _ _ ⟨upd p 0 _, q, upd B8 0 _, rfl, hst.alloc hlanes (k := 0) (by omega) hLi _ _ _ _, by simpa [setL] using hL⟩
        | 10, hoi, hLi, hw =>
          change some _ = some oi at hoi
          cases hoi
          go_simp
          exact hK _ _ ⟨upd p 1 _, q, upd B8 1 _, rfl, hst.alloc hlanes (k := 1) (by omega) hLi _ _ _ _, by simpa [setL] using hL⟩
        | 11, hoi, hLi, hw =>
          change some _ = some oi at hoi
          cases hoi
          go_simp
          exact hK _ _ ⟨upd p 2 _, q, upd B8 2 _, rfl, hst.alloc hlanes (k := 2) (by omega) hLi _ _ _ _, by simpa [setL] using hL⟩
        | 12, hoi, hLi, hw =>
          change some _ = some oi at hoi
          cases hoi
          have hLa := hw 9 (by kernel_rfl)
          have hLc := hw 2 (by kernel_rfl)
          obtain ⟨hp, -, b0, b1, b2, b3, hbk, -⟩ := hst.ptr 0 (by omega) hLa
          obtain ⟨F, c, hq, -⟩ := hst.side 0 (by omega) hLc
          have hnext := hst.store hlanes (k := 0) (by omega) hLc hLa hq
          have he0 := blk_frozen hbk 0
          have he1 := blk_frozen hbk 1
          have he2 := blk_frozen hbk 2
          have he3 := blk_frozen hbk 3
          have hd0 := cell_blk hbk 0
          have hd1 := cell_blk hbk 1
          have hd2 := cell_blk hbk 2
          have hd3 := cell_blk hbk 3
          simp only [List.getElem?_toArray, List.getElem?_cons_succ, List.getElem?_cons_zero] at hd0 hd1 hd2 hd3
          rw [hp, hq]
          go_simp
          refine hK _ _ ⟨p, q, B8, ?_, hnext, by simpa [setL] using hL⟩
          rw [hp, hq]; try rfl
        | 13, hoi, hLi, hw =>
          change some _ = some oi at hoi
          cases hoi
          have hLa := hw 10 (by kernel_rfl)
          have hLc := hw 5 (by kernel_rfl)
          obtain ⟨hp, -, b0, b1, b2, b3, hbk, -⟩ := hst.ptr 1 (by omega) hLa
          obtain ⟨F, c, hq, -⟩ := hst.side 1 (by omega) hLc
          have hnext := hst.store hlanes (k := 1) (by omega) hLc hLa hq
          have he0 := blk_frozen hbk 0
          have he1 := blk_frozen hbk 1
          have he2 := blk_frozen hbk 2
          have he3 := blk_frozen hbk 3
          have hd0 := cell_blk hbk 0
          have hd1 := cell_blk hbk 1
          have hd2 := cell_blk hbk 2
          have hd3 := cell_blk hbk 3
          simp only [List.getElem?_toArray, List.getElem?_cons_succ, List.getElem?_cons_zero] at hd0 hd1 hd2 hd3
          rw [hp, hq]
          go_simp
          refine hK _ _ ⟨p, q, B8, ?_, hnext, by simpa [setL] using hL⟩
          rw [hp, hq]; try rfl
        | 14, hoi, hLi, hw =>
          change some _ = some oi at hoi
          cases hoi
          have hLa := hw 11 (by kernel_rfl)
          have hLc := hw 8 (by kernel_rfl)
          obtain ⟨hp, -, b0, b1, b2, b3, hbk, -⟩ := hst.ptr 2 (by omega) hLa
          obtain ⟨F, c, hq, -⟩ := hst.side 2 (by omega) hLc
          have hnext := hst.store hlanes (k := 2) (by omega) hLc hLa hq
          have he0 := blk_frozen hbk 0
          have he1 := blk_frozen hbk 1
          have he2 := blk_frozen hbk 2
          have he3 := blk_frozen hbk 3
          have hd0 := cell_blk hbk 0
          have hd1 := cell_blk hbk 1
          have hd2 := cell_blk hbk 2
          have hd3 := cell_blk hbk 3
          simp only [List.getElem?_toArray, List.getElem?_cons_succ, List.getElem?_cons_zero] at hd0 hd1 hd2 hd3
          rw [hp, hq]
          go_simp
          refine hK _ _ ⟨p, q, B8, ?_, hnext, by simpa [setL] using hL⟩
          rw [hp, hq]; try rfl
        | n + 15, hoi, hLi, hw => cases hoi
      case hend =>
        rintro L aa W' ⟨p, q, B8, rfl, hst, hL⟩ hall
        obtain ⟨hp0, hn0, a00, a01, a02, a03, hb0, hq0⟩ := hst.ptr 0 (by omega) (hall 9 (by decide))
        obtain ⟨hp1, hn1, a10, a11, a12, a13, hb1, hq1⟩ := hst.ptr 1 (by omega) (hall 10 (by decide))
        obtain ⟨hp2, hn2, a20, a21, a22, a23, hb2, hq2⟩ := hst.ptr 2 (by omega) (hall 11 (by decide))
        obtain ⟨F0, c0, hs0, ho0⟩ := hst.side 0 (by omega) (hall 2 (by decide))
        obtain ⟨F1, c1, hs1', ho1⟩ := hst.side 1 (by omega) (hall 5 (by decide))
        obtain ⟨F2, c2, hs2', ho2⟩ := hst.side 2 (by omega) (hall 8 (by decide))
        have e0 := hs0.symm.trans (hq0 (hall 12 (by decide)))
        have e1 := hs1'.symm.trans (hq1 (hall 13 (by decide)))
        have e2 := hs2'.symm.trans (hq2 (hall 14 (by decide)))
        have hxW := hst.ext
        have n01 := hst.sep 0 1 (by omega) (by omega) (by omega) (hall 9 (by decide)) (hall 10 (by decide))
        have n02 := hst.sep 0 2 (by omega) (by omega) (by omega) (hall 9 (by decide)) (hall 11 (by decide))
        have n12 := hst.sep 1 2 (by omega) (by omega) (by omega) (hall 10 (by decide)) (hall 11 (by decide))
        clear hq0 hq1 hq2 hst hall hL hlanes
        rw [hp0, hp1, hp2, hs0, hs1', hs2']
        clear hp0 hp1 hp2 hs0 hs1' hs2' p q
        cases e0; cases e1; cases e2
        generalize B8 0 = g0 at *
        generalize B8 1 = g1 at *
        generalize B8 2 = g2 at *
        have HT : Hid (takenAt base a b x = takeE (lookE base x) (lookE a x) (lookE b x)) := rfl
        have HN1 : Hid ((lookE a x).there = false → lookE a x = ⟨noFile, false⟩) := look_gone a x
        have HN2 : Hid ((lookE b x).there = false → lookE b x = ⟨noFile, false⟩) := look_gone b x
        generalize lookE base x = X at *
        generalize lookE a x = Y at *
        generalize lookE b x = Z at *
        simp only [NoOut]
        replace ho0 : FrOwn (w1.heap.size + 4) W' F0 c0 X.f.frags := ho0
        replace ho1 : FrOwn (w1.heap.size + 4) W' F1 c1 Y.f.frags := ho1
        replace ho2 : FrOwn (w1.heap.size + 4) W' F2 c2 Z.f.frags := ho2
        replace hb0 : W'.heap[g0]? = some (.cells #[.string X.f.path, .int .i64 X.f.len, .slice F0 X.f.frags.length c0, .bool X.there] 74 (0, 0)) := hb0
        replace hb1 : W'.heap[g1]? = some (.cells #[.string Y.f.path, .int .i64 Y.f.len, .slice F1 Y.f.frags.length c1, .bool Y.there] 74 (0, 0)) := hb1
        replace hb2 : W'.heap[g2]? = some (.cells #[.string Z.f.path, .int .i64 Z.f.len, .slice F2 Z.f.frags.length c2, .bool Z.there] 74 (0, 0)) := hb2
        replace hxW : Ext W W' := Ext.trans (show Ext W W.drew from (Below.refl _ _).drew) hxW
        have hM : Mid (w1.heap.size + 4) w1.heap.size (w1.heap.size + 1) W (outL base a b pre) (confL base a b pre) W' :=
          Mid.ext ⟨by omega, KeepBut.refl _ _ _, KeepsOthers.refl _, ⟨vo, xs, hvo, hro, hok⟩, ⟨vd, hvd, hrd⟩⟩ hxW
        clear hvo hro hok hvd hrd cA cB cC cA' cB' cC' HA2 HB2 HC2 hS
        have hsz' := hxW.size
        have hgW : w1.heap.size + 4 ≤ W'.heap.size := hM.big
        have hxA := ext_alloc1 W' (.cells #[.string Y.f.path, .int .i64 Y.f.len, .slice F1 Y.f.frags.length c1, .bool Y.there] 74)
        have hbT := World.alloc_heap_new W' (.cells #[.string Y.f.path, .int .i64 Y.f.len, .slice F1 Y.f.frags.length c1, .bool Y.there] 74)
        have d10 := cell_blk hb1 0
        have d11 := cell_blk hb1 1
        have d12 := cell_blk hb1 2
        have d13 := cell_blk hb1 3
        simp only [List.getElem?_toArray, List.getElem?_cons_succ, List.getElem?_cons_zero] at d10 d11 d12 d13
        have d20 := hxA.cell (cell_blk hb2 0)
        have d21 := hxA.cell (cell_blk hb2 1)
        have d22 := hxA.cell (cell_blk hb2 2)
        have d23 := hxA.cell (cell_blk hb2 3)
        have f10 := hxA.cell d10
        have f11 := hxA.cell d11
        have f12 := hxA.cell d12
        have f13 := hxA.cell d13
        gi_wp2_with fail
        refine ⟨trivial, CallsIn.inRound l (callsIn_wide.2 ((same_side_any _ _ Y Z _ ⟨_, _, rfl, (ho1.ext hxA).1⟩ ⟨_, _, rfl, (ho2.ext hxA).1⟩).mono ?_))⟩
        rintro e w2 ⟨rfl, hx2⟩
        clear d10 d11 d12 d13 d20 d21 d22 d23 f10 f11 f12 f13
        have hx3 := hxA.trans hx2
        replace hM := hM.ext hx3
        replace hb0 := hx3.blk hb0
        replace hb1 := hx3.blk hb1
        replace hb2 := hx3.blk hb2
        replace hbT := hx2.blk hbT
        replace ho0 := ho0.ext hx3
        replace ho1 := ho1.ext hx3
        replace ho2 := ho2.ext hx3
        generalize hgT : W'.heap.size = gT at *
        have hgT2 : w1.heap.size + 4 ≤ gT := hgW
        by_cases hYZ : Y = Z
        · have HA1 : Hid (takenAt base a b x = (Y, false)) := by rw [Hid, HT.out]; unfold takeE; rw [if_pos (.inl hYZ)]
          rw [decide_eq_true hYZ]
          clear hYZ
          have hoT := ho1
          obtain ⟨vo, xs, hvo, hro, hok⟩ := hM.out
          have cO := hvo.cell
          have d0 := cell_blk hbT 0
          have d1 := cell_blk hbT 1
          have d2 := cell_blk hbT 2
          have d3 := cell_blk hbT 3
          simp only [List.getElem?_toArray, List.getElem?_cons_succ, List.getElem?_cons_zero] at d0 d1 d2 d3
          cases hth : Y.there
          · rw [hth] at d3
            have hM3 := hM
            gi_wp2_with fail
            try simp only [NoOut, Exit.inBlock]
            refine ⟨hM3.ko.from _, hM3.kb, ?_⟩
            refine ⟨?_, ?_, hB.trans hM3.kb⟩
            · rw [outL_no (by rw [HA1.out]; exact hth)]
              exact hM3.out
            · rw [confL_no (by rw [HA1.out])]
              exact hM3.conf
          · rw [hth] at d3
            have hpl : (outL base a b pre).length ≤ 1000 := by
              have h1 := outL_len base a b pre
              have h2 := bothN_len (a.length + b.length) a b
              unfold bothL at hlt
              omega
            gi_wp2_with (gi_at_builtin; refine wpListIn_append1 rfl (.tmp 62) (.tmp 65) 22 rfl (w1.heap.size + 4) 46 i46 _ 3 48 Tryd.underlying22 HI.out HZ0.out HZ1.out HZ2.out rfl (by decide) (by decide) vo _ xs rfl hro [.string Y.f.path, .int .i64 Y.f.len, .slice F1 Y.f.frags.length c1] rfl rfl (by simp [Value.oneCell']) (by omega) hM.big ?_; intro v' w3 hown' hbel hg3; have hbx := (Boxed.appended (tmp := .cells [.string Y.f.path, .int .i64 Y.f.len, .slice F1 Y.f.frags.length c1].toArray 46) hvo (by decide) (own_base hro (Nat.le_add_right _ _)) (by have := hM.big; omega) (Nat.le_refl _) (own_base hown' (Nat.le_add_right _ _)) hg3).1; have cO3 := hbx.cell; have fO3 := hbx.frozen; have hM3 := hM.addOut (f := Y.f) (by omega) (by omega) hvo hro hok hoT hown' hbel hg3; obtain ⟨Ao3, co3, rfl, -, -, -⟩ := own_rd hown')
            try simp only [NoOut, Exit.inBlock]
            refine ⟨hM3.ko.from _, hM3.kb, ?_⟩
            refine ⟨?_, ?_, hB.trans hM3.kb⟩
            · rw [outL_yes (by rw [HA1.out]; exact hth), HA1.out]
              exact hM3.out
            · rw [confL_no (by rw [HA1.out])]
              exact hM3.conf
        · have q1 := decide_eq_false hYZ
          rw [q1]
          have HYZ := Lib.hid hYZ
          clear q1 hYZ
          have u0 := cell_blk hb0 0
          have u1 := cell_blk hb0 1
          have u2 := cell_blk hb0 2
          have u3 := cell_blk hb0 3
          have v0 := cell_blk hb2 0
          have v1 := cell_blk hb2 1
          have v2 := cell_blk hb2 2
          have v3 := cell_blk hb2 3
          simp only [List.getElem?_toArray, List.getElem?_cons_succ, List.getElem?_cons_zero] at u0 u1 u2 u3 v0 v1 v2 v3
          gi_wp2_with fail
          refine ⟨trivial, CallsIn.inRound l (callsIn_wide.2 ((same_side_any _ _ X Z _ ⟨_, _, rfl, ho0.1⟩ ⟨_, _, rfl, ho2.1⟩).mono ?_))⟩
          rintro e w3 ⟨rfl, hx4⟩
          clear u0 u1 u2 u3 v0 v1 v2 v3
          replace hb0 := hx4.blk hb0
          replace hb1 := hx4.blk hb1
          replace hb2 := hx4.blk hb2
          replace hbT := hx4.blk hbT
          replace ho0 := ho0.ext hx4
          replace ho1 := ho1.ext hx4
          replace ho2 := ho2.ext hx4
          replace hM := hM.ext hx4
          by_cases hXZ : X = Z
          · have HA1 : Hid (takenAt base a b x = (Y, false)) := by rw [Hid, HT.out]; unfold takeE; rw [if_pos (.inr hXZ)]
            rw [decide_eq_true hXZ]
            clear hXZ
            have hoT := ho1
            obtain ⟨vo, xs, hvo, hro, hok⟩ := hM.out
            have cO := hvo.cell
            have d0 := cell_blk hbT 0
            have d1 := cell_blk hbT 1
            have d2 := cell_blk hbT 2
            have d3 := cell_blk hbT 3
            simp only [List.getElem?_toArray, List.getElem?_cons_succ, List.getElem?_cons_zero] at d0 d1 d2 d3
            cases hth : Y.there
            · rw [hth] at d3
              have hM3 := hM
              gi_wp2_with fail
              try simp only [NoOut, Exit.inBlock]
              refine ⟨hM3.ko.from _, hM3.kb, ?_⟩
              refine ⟨?_, ?_, hB.trans hM3.kb⟩
              · rw [outL_no (by rw [HA1.out]; exact hth)]
                exact hM3.out
              · rw [confL_no (by rw [HA1.out])]
                exact hM3.conf
            · rw [hth] at d3
              have hpl : (outL base a b pre).length ≤ 1000 := by
                have h1 := outL_len base a b pre
                have h2 := bothN_len (a.length + b.length) a b
                unfold bothL at hlt
                omega
              gi_wp2_with (gi_at_builtin; refine wpListIn_append1 rfl (.tmp 62) (.tmp 65) 22 rfl (w1.heap.size + 4) 46 i46 _ 3 48 Tryd.underlying22 HI.out HZ0.out HZ1.out HZ2.out rfl (by decide) (by decide) vo _ xs rfl hro [.string Y.f.path, .int .i64 Y.f.len, .slice F1 Y.f.frags.length c1] rfl rfl (by simp [Value.oneCell']) (by omega) hM.big ?_; intro v' w3 hown' hbel hg3; have hbx := (Boxed.appended (tmp := .cells [.string Y.f.path, .int .i64 Y.f.len, .slice F1 Y.f.frags.length c1].toArray 46) hvo (by decide) (own_base hro (Nat.le_add_right _ _)) (by have := hM.big; omega) (Nat.le_refl _) (own_base hown' (Nat.le_add_right _ _)) hg3).1; have cO3 := hbx.cell; have fO3 := hbx.frozen; have hM3 := hM.addOut (f := Y.f) (by omega) (by omega) hvo hro hok hoT hown' hbel hg3; obtain ⟨Ao3, co3, rfl, -, -, -⟩ := own_rd hown')
              try simp only [NoOut, Exit.inBlock]
              refine ⟨hM3.ko.from _, hM3.kb, ?_⟩
              refine ⟨?_, ?_, hB.trans hM3.kb⟩
              · rw [outL_yes (by rw [HA1.out]; exact hth), HA1.out]
                exact hM3.out
              · rw [confL_no (by rw [HA1.out])]
                exact hM3.conf
          · have q1 := decide_eq_false hXZ
            rw [q1]
            have HXZ := Lib.hid hXZ
            clear q1 hXZ
            have u0 := cell_blk hb0 0
            have u1 := cell_blk hb0 1
            have u2 := cell_blk hb0 2
            have u3 := cell_blk hb0 3
            have v0 := cell_blk hb1 0
            have v1 := cell_blk hb1 1
            have v2 := cell_blk hb1 2
            have v3 := cell_blk hb1 3
            simp only [List.getElem?_toArray, List.getElem?_cons_succ, List.getElem?_cons_zero] at u0 u1 u2 u3 v0 v1 v2 v3
            gi_wp2_with fail
            refine ⟨trivial, CallsIn.inRound l (callsIn_wide.2 ((same_side_any _ _ X Y _ ⟨_, _, rfl, ho0.1⟩ ⟨_, _, rfl, ho1.1⟩).mono ?_))⟩
            rintro e w5 ⟨rfl, hx5⟩
            clear u0 u1 u2 u3 v0 v1 v2 v3
            replace hb0 := hx5.blk hb0
            replace hb1 := hx5.blk hb1
            replace hb2 := hx5.blk hb2
            replace hbT := hx5.blk hbT
            replace ho0 := ho0.ext hx5
            replace ho1 := ho1.ext hx5
            replace ho2 := ho2.ext hx5
            replace hM := hM.ext hx5
            by_cases hXY : X = Y
            · have HA1 : Hid (takenAt base a b x = (Z, false)) := by rw [Hid, HT.out]; unfold takeE; rw [if_neg (by rintro (e | e); exact HYZ.out e; exact HXZ.out e), if_pos hXY]
              rw [decide_eq_true hXY]
              clear hXY hb0 hb1
              cases hth : Z.there
              · rw [hth] at hb2
                have fT0 := blk_frozen hbT 0
                have fT1 := blk_frozen hbT 1
                have fT2 := blk_frozen hbT 2
                have fT3 := blk_frozen hbT 3
                have t0 := cell_blk hbT 0
                have t1 := cell_blk hbT 1
                have t2 := cell_blk hbT 2
                have t3 := cell_blk hbT 3
                simp only [List.getElem?_toArray, List.getElem?_cons_succ, List.getElem?_cons_zero] at t0 t1 t2 t3
                have z0 := cell_blk hb2 0
                have z1 := cell_blk hb2 1
                have z2 := cell_blk hb2 2
                have z3 := cell_blk hb2 3
                simp only [List.getElem?_toArray, List.getElem?_cons_succ, List.getElem?_cons_zero] at z0 z1 z2 z3
                have hMs := (((hM.set hbT hgT2 (.inl rfl) 0 (.string Z.f.path)).set (blk_set hbT 0 (.string Z.f.path)) hgT2 (.inl rfl) 1 (.int .i64 Z.f.len)).set (blk_set (blk_set hbT 0 (.string Z.f.path)) 1 (.int .i64 Z.f.len)) hgT2 (.inl rfl) 2 (.slice F2 Z.f.frags.length c2)).set (blk_set (blk_set (blk_set hbT 0 (.string Z.f.path)) 1 (.int .i64 Z.f.len)) 2 (.slice F2 Z.f.frags.length c2)) hgT2 (.inl rfl) 3 (.bool false)
                have kZ : Keep3 w5 ((((w5.setCell ⟨gT, 0, none⟩ (.string Z.f.path)).setCell ⟨gT, 1, none⟩ (.int .i64 Z.f.len)).setCell ⟨gT, 2, none⟩ (.slice F2 Z.f.frags.length c2)).setCell ⟨gT, 3, none⟩ (.bool false)) := (((Keep3.set hbT (by decide) 0 (.string Z.f.path)).trans (Keep3.set (blk_set hbT 0 (.string Z.f.path)) (by decide) 1 (.int .i64 Z.f.len))).trans (Keep3.set (blk_set (blk_set hbT 0 (.string Z.f.path)) 1 (.int .i64 Z.f.len)) (by decide) 2 (.slice F2 Z.f.frags.length c2))).trans (Keep3.set (blk_set (blk_set (blk_set hbT 0 (.string Z.f.path)) 1 (.int .i64 Z.f.len)) 2 (.slice F2 Z.f.frags.length c2)) (by decide) 3 (.bool false))
                have hoT := ho2.keep3 kZ
                replace hbT := blk_set4 hbT (.string Z.f.path) (.int .i64 Z.f.len) (.slice F2 Z.f.frags.length c2) (.bool false)
                replace hM := hMs
                clear hMs kZ
                obtain ⟨vo, xs, hvo, hro, hok⟩ := hM.out
                have cO := hvo.cell
                have d0 := cell_blk hbT 0
                have d1 := cell_blk hbT 1
                have d2 := cell_blk hbT 2
                have d3 := cell_blk hbT 3
                simp only [List.getElem?_toArray, List.getElem?_cons_succ, List.getElem?_cons_zero] at d0 d1 d2 d3
                have hM3 := hM
                gi_wp2_with fail
                try simp only [NoOut, Exit.inBlock]
                refine ⟨hM3.ko.from _, hM3.kb, ?_⟩
                refine ⟨?_, ?_, hB.trans hM3.kb⟩
                · rw [outL_no (by rw [HA1.out]; exact hth)]
                  exact hM3.out
                · rw [confL_no (by rw [HA1.out])]
                  exact hM3.conf
              · rw [hth] at hb2
                have fT0 := blk_frozen hbT 0
                have fT1 := blk_frozen hbT 1
                have fT2 := blk_frozen hbT 2
                have fT3 := blk_frozen hbT 3
                have t0 := cell_blk hbT 0
                have t1 := cell_blk hbT 1
                have t2 := cell_blk hbT 2
                have t3 := cell_blk hbT 3
                simp only [List.getElem?_toArray, List.getElem?_cons_succ, List.getElem?_cons_zero] at t0 t1 t2 t3
                have z0 := cell_blk hb2 0
                have z1 := cell_blk hb2 1
                have z2 := cell_blk hb2 2
                have z3 := cell_blk hb2 3
                simp only [List.getElem?_toArray, List.getElem?_cons_succ, List.getElem?_cons_zero] at z0 z1 z2 z3
                have hMs := (((hM.set hbT hgT2 (.inl rfl) 0 (.string Z.f.path)).set (blk_set hbT 0 (.string Z.f.path)) hgT2 (.inl rfl) 1 (.int .i64 Z.f.len)).set (blk_set (blk_set hbT 0 (.string Z.f.path)) 1 (.int .i64 Z.f.len)) hgT2 (.inl rfl) 2 (.slice F2 Z.f.frags.length c2)).set (blk_set (blk_set (blk_set hbT 0 (.string Z.f.path)) 1 (.int .i64 Z.f.len)) 2 (.slice F2 Z.f.frags.length c2)) hgT2 (.inl rfl) 3 (.bool true)
                have kZ : Keep3 w5 ((((w5.setCell ⟨gT, 0, none⟩ (.string Z.f.path)).setCell ⟨gT, 1, none⟩ (.int .i64 Z.f.len)).setCell ⟨gT, 2, none⟩ (.slice F2 Z.f.frags.length c2)).setCell ⟨gT, 3, none⟩ (.bool true)) := (((Keep3.set hbT (by decide) 0 (.string Z.f.path)).trans (Keep3.set (blk_set hbT 0 (.string Z.f.path)) (by decide) 1 (.int .i64 Z.f.len))).trans (Keep3.set (blk_set (blk_set hbT 0 (.string Z.f.path)) 1 (.int .i64 Z.f.len)) (by decide) 2 (.slice F2 Z.f.frags.length c2))).trans (Keep3.set (blk_set (blk_set (blk_set hbT 0 (.string Z.f.path)) 1 (.int .i64 Z.f.len)) 2 (.slice F2 Z.f.frags.length c2)) (by decide) 3 (.bool true))
                have hoT := ho2.keep3 kZ
                replace hbT := blk_set4 hbT (.string Z.f.path) (.int .i64 Z.f.len) (.slice F2 Z.f.frags.length c2) (.bool true)
                replace hM := hMs
                clear hMs kZ
                obtain ⟨vo, xs, hvo, hro, hok⟩ := hM.out
                have cO := hvo.cell
                have d0 := cell_blk hbT 0
                have d1 := cell_blk hbT 1
                have d2 := cell_blk hbT 2
                have d3 := cell_blk hbT 3
                simp only [List.getElem?_toArray, List.getElem?_cons_succ, List.getElem?_cons_zero] at d0 d1 d2 d3
                have hpl : (outL base a b pre).length ≤ 1000 := by
                  have h1 := outL_len base a b pre
                  have h2 := bothN_len (a.length + b.length) a b
                  unfold bothL at hlt
                  omega
                have hgen : ∃ WW, WW = ((((w5.setCell ⟨gT, 0, none⟩ (.string Z.f.path)).setCell ⟨gT, 1, none⟩ (.int .i64 Z.f.len)).setCell ⟨gT, 2, none⟩ (.slice F2 Z.f.frags.length c2)).setCell ⟨gT, 3, none⟩ (.bool true)) := ⟨_, rfl⟩
                obtain ⟨WW, hWW⟩ := hgen
                gi_wp2_with (gi_at_builtin; rw [← hWW]; rw [← hWW] at hM hro hok hoT hvo; have hz : w5.heap.size = WW.heap.size := (by rw [hWW]; simp [World.setCell]); try rw [hz]; clear hWW; refine wpListIn_append1 rfl (.tmp 62) (.tmp 65) 22 rfl (w1.heap.size + 4) 46 i46 _ 3 48 Tryd.underlying22 HI.out HZ0.out HZ1.out HZ2.out rfl (by decide) (by decide) vo _ xs rfl hro [.string Z.f.path, .int .i64 Z.f.len, .slice F2 Z.f.frags.length c2] rfl rfl (by simp [Value.oneCell']) (by omega) hM.big ?_; intro v' w6 hown' hbel hg3; have hbx := (Boxed.appended (tmp := .cells [.string Z.f.path, .int .i64 Z.f.len, .slice F2 Z.f.frags.length c2].toArray 46) hvo (by decide) (own_base hro (Nat.le_add_right _ _)) (by have := hM.big; omega) (Nat.le_refl _) (own_base hown' (Nat.le_add_right _ _)) hg3).1; have cO3 := hbx.cell; have fO3 := hbx.frozen; have hM3 := hM.addOut (f := Z.f) (by omega) (by omega) hvo hro hok hoT hown' hbel hg3; obtain ⟨Ao3, co3, rfl, -, -, -⟩ := own_rd hown')
                try simp only [NoOut, Exit.inBlock]
                refine ⟨hM3.ko.from _, hM3.kb, ?_⟩
                refine ⟨?_, ?_, hB.trans hM3.kb⟩
                · rw [outL_yes (by rw [HA1.out]; exact hth), HA1.out]
                  exact hM3.out
                · rw [confL_no (by rw [HA1.out])]
                  exact hM3.conf
            · have q1 := decide_eq_false hXY
              rw [q1]
              have HXY := Lib.hid hXY
              clear q1 hXY hb0
              obtain ⟨vd, hvd, hrd⟩ := hM.conf
              have cD := hvd.cell
              have hpl : (outL base a b pre).length ≤ 1000 := by
                have h1 := outL_len base a b pre
                have h2 := bothN_len (a.length + b.length) a b
                unfold bothL at hlt
                omega
              have hpc : (confL base a b pre).length ≤ 1000 := by
                have h1 := confL_len base a b pre
                have h2 := bothN_len (a.length + b.length) a b
                unfold bothL at hlt
                omega
              cases hth : Y.there
              · have HZT : True := trivial
                have HA1 : Hid (takenAt base a b x = (Z, true)) := by rw [Hid, HT.out]; unfold takeE; rw [if_neg (by rintro (e | e); exact HYZ.out e; exact HXZ.out e), if_neg HXY.out, if_neg (by rw [hth]; simp)]
                rw [hth] at hb1 hbT
                cases hzt : Z.there
                · exact absurd ((HN1.out hth).trans (HN2.out hzt).symm) HYZ.out
                · rw [hzt] at hb2
                  gi_wp2_with (first | (gi_at_builtin; refine wpListIn_append1 rfl (.tmp 40) (.tmp 42) 25 rfl (w1.heap.size + 4) 9 i9 _ 1 16 Tryd.underlying25 KI.out KZ0.out KZ1.out KZ2.out rfl (by decide) (by decide) vd _ _ rfl hrd [.string x] rfl rfl (by simp [Value.oneCell']) (by omega) hM.big ?_; intro vq w7 hownq hbelq hgq; have hbxq := (Boxed.appended (tmp := .cells [.string x].toArray 9) hvd (by decide) (own_base hrd (by omega)) (by have := hM.big; omega) (Nat.le_refl _) (own_base hownq (by omega)) hgq).1; have cQ := hbxq.cell; have fQ := hbxq.frozen; have hMq := hM.addConf (p := x) (by omega) (by omega) hvd hrd hownq hbelq hgq; have k74 : KeepT 74 w5 (w7.setCell ⟨w1.heap.size + 1, 0, none⟩ vq) := ((KeepT.of_ext (ext_alloc1 w5 (.cells [.string x].toArray 9))).trans (KeepT.append ((KeepT.of_ext (ext_alloc1 w5 (.cells [.string x].toArray 9))).own hrd) hgq (by decide))).trans (KeepT.set hbxq (by decide) 0 vq); have k33 : KeepT 3 w5 (w7.setCell ⟨w1.heap.size + 1, 0, none⟩ vq) := ((KeepT.of_ext (ext_alloc1 w5 (.cells [.string x].toArray 9))).trans (KeepT.append ((KeepT.of_ext (ext_alloc1 w5 (.cells [.string x].toArray 9))).own hrd) hgq (by decide))).trans (KeepT.set hbxq (by decide) 0 vq); replace hb1 := k74 _ _ _ hb1; replace hb2 := k74 _ _ _ hb2; replace hbT := k74 _ _ _ hbT; replace ho1 := ho1.keep3 k33; replace ho2 := ho2.keep3 k33; obtain ⟨Aq, cq, rfl, -, -, -⟩ := own_rd hownq; have y3 := cell_blk hb1 3; have fT0 := blk_frozen hbT 0; have fT1 := blk_frozen hbT 1; have fT2 := blk_frozen hbT 2; have fT3 := blk_frozen hbT 3; have t0 := cell_blk hbT 0; have t1 := cell_blk hbT 1; have t2 := cell_blk hbT 2; have t3 := cell_blk hbT 3; simp only [List.getElem?_toArray, List.getElem?_cons_succ, List.getElem?_cons_zero] at t0 t1 t2 t3; have z0 := cell_blk hb2 0; have z1 := cell_blk hb2 1; have z2 := cell_blk hb2 2; have z3 := cell_blk hb2 3; simp only [List.getElem?_toArray, List.getElem?_cons_succ, List.getElem?_cons_zero] at z0 z1 z2 z3; have hMs := (((hMq.set hbT hgT2 (.inl rfl) 0 (.string Z.f.path)).set (blk_set hbT 0 (.string Z.f.path)) hgT2 (.inl rfl) 1 (.int .i64 Z.f.len)).set (blk_set (blk_set hbT 0 (.string Z.f.path)) 1 (.int .i64 Z.f.len)) hgT2 (.inl rfl) 2 (.slice F2 Z.f.frags.length c2)).set (blk_set (blk_set (blk_set hbT 0 (.string Z.f.path)) 1 (.int .i64 Z.f.len)) 2 (.slice F2 Z.f.frags.length c2)) hgT2 (.inl rfl) 3 (.bool true); have kZ : Keep3 (w7.setCell ⟨w1.heap.size + 1, 0, none⟩ (.slice Aq ((confL base a b pre).length + 1) cq)) (((((w7.setCell ⟨w1.heap.size + 1, 0, none⟩ (.slice Aq ((confL base a b pre).length + 1) cq)).setCell ⟨gT, 0, none⟩ (.string Z.f.path)).setCell ⟨gT, 1, none⟩ (.int .i64 Z.f.len)).setCell ⟨gT, 2, none⟩ (.slice F2 Z.f.frags.length c2)).setCell ⟨gT, 3, none⟩ (.bool true)) := (((Keep3.set hbT (by decide) 0 (.string Z.f.path)).trans (Keep3.set (blk_set hbT 0 (.string Z.f.path)) (by decide) 1 (.int .i64 Z.f.len))).trans (Keep3.set (blk_set (blk_set hbT 0 (.string Z.f.path)) 1 (.int .i64 Z.f.len)) (by decide) 2 (.slice F2 Z.f.frags.length c2))).trans (Keep3.set (blk_set (blk_set (blk_set hbT 0 (.string Z.f.path)) 1 (.int .i64 Z.f.len)) 2 (.slice F2 Z.f.frags.length c2)) (by decide) 3 (.bool true)); have hoT := ho2.keep3 kZ; replace hbT := blk_set4 hbT (.string Z.f.path) (.int .i64 Z.f.len) (.slice F2 Z.f.frags.length c2) (.bool true); have hMr := hMs; clear hMs kZ; have d0 := cell_blk hbT 0; have d1 := cell_blk hbT 1; have d2 := cell_blk hbT 2; have d3 := cell_blk hbT 3; simp only [List.getElem?_toArray, List.getElem?_cons_succ, List.getElem?_cons_zero] at y3 d0 d1 d2 d3; obtain ⟨vo, xs, hvo, hro, hok⟩ := hMr.out; have cO := hvo.cell; obtain ⟨WW, hWW⟩ : ∃ WW, WW = (((((w7.setCell ⟨w1.heap.size + 1, 0, none⟩ (.slice Aq ((confL base a b pre).length + 1) cq)).setCell ⟨gT, 0, none⟩ (.string Z.f.path)).setCell ⟨gT, 1, none⟩ (.int .i64 Z.f.len)).setCell ⟨gT, 2, none⟩ (.slice F2 Z.f.frags.length c2)).setCell ⟨gT, 3, none⟩ (.bool true)) := ⟨_, rfl⟩) | (gi_at_builtin; rw [← hWW]; rw [← hWW] at hMr hro hok hoT hvo; have hz : w7.heap.size = WW.heap.size := (by rw [hWW]; simp [World.setCell]); try rw [hz]; clear hWW; refine wpListIn_append1 rfl (.tmp 62) (.tmp 65) 22 rfl (w1.heap.size + 4) 46 i46 _ 3 48 Tryd.underlying22 HI.out HZ0.out HZ1.out HZ2.out rfl (by decide) (by decide) vo _ xs rfl hro [.string Z.f.path, .int .i64 Z.f.len, .slice F2 Z.f.frags.length c2] rfl rfl (by simp [Value.oneCell']) (by omega) hMr.big ?_; intro v' w8 hown' hbel hg3; have hbx := (Boxed.appended (tmp := .cells [.string Z.f.path, .int .i64 Z.f.len, .slice F2 Z.f.frags.length c2].toArray 46) hvo (by decide) (own_base hro (Nat.le_add_right _ _)) (by have := hMr.big; omega) (Nat.le_refl _) (own_base hown' (Nat.le_add_right _ _)) hg3).1; have cO3 := hbx.cell; have fO3 := hbx.frozen; have hM3 := hMr.addOut (f := Z.f) (by omega) (by omega) hvo hro hok hoT hown' hbel hg3; obtain ⟨Ao3, co3, rfl, -, -, -⟩ := own_rd hown'))
                  try simp only [NoOut, Exit.inBlock]
                  refine ⟨hM3.ko.from _, hM3.kb, ?_⟩
                  refine ⟨?_, ?_, hB.trans hM3.kb⟩
                  · rw [outL_yes (by rw [HA1.out]; exact hzt), HA1.out]
                    exact hM3.out
                  · rw [confL_yes (by rw [HA1.out])]
                    exact hM3.conf
              · have HA1 : Hid (takenAt base a b x = (Y, true)) := by rw [Hid, HT.out]; unfold takeE; rw [if_neg (by rintro (e | e); exact HYZ.out e; exact HXZ.out e), if_neg HXY.out, if_pos hth]
                rw [hth] at hb1 hbT
                gi_wp2_with (first | (gi_at_builtin; refine wpListIn_append1 rfl (.tmp 40) (.tmp 42) 25 rfl (w1.heap.size + 4) 9 i9 _ 1 16 Tryd.underlying25 KI.out KZ0.out KZ1.out KZ2.out rfl (by decide) (by decide) vd _ _ rfl hrd [.string x] rfl rfl (by simp [Value.oneCell']) (by omega) hM.big ?_; intro vq w7 hownq hbelq hgq; have hbxq := (Boxed.appended (tmp := .cells [.string x].toArray 9) hvd (by decide) (own_base hrd (by omega)) (by have := hM.big; omega) (Nat.le_refl _) (own_base hownq (by omega)) hgq).1; have cQ := hbxq.cell; have fQ := hbxq.frozen; have hMq := hM.addConf (p := x) (by omega) (by omega) hvd hrd hownq hbelq hgq; have k74 : KeepT 74 w5 (w7.setCell ⟨w1.heap.size + 1, 0, none⟩ vq) := ((KeepT.of_ext (ext_alloc1 w5 (.cells [.string x].toArray 9))).trans (KeepT.append ((KeepT.of_ext (ext_alloc1 w5 (.cells [.string x].toArray 9))).own hrd) hgq (by decide))).trans (KeepT.set hbxq (by decide) 0 vq); have k33 : KeepT 3 w5 (w7.setCell ⟨w1.heap.size + 1, 0, none⟩ vq) := ((KeepT.of_ext (ext_alloc1 w5 (.cells [.string x].toArray 9))).trans (KeepT.append ((KeepT.of_ext (ext_alloc1 w5 (.cells [.string x].toArray 9))).own hrd) hgq (by decide))).trans (KeepT.set hbxq (by decide) 0 vq); replace hb1 := k74 _ _ _ hb1; replace hb2 := k74 _ _ _ hb2; replace hbT := k74 _ _ _ hbT; replace ho1 := ho1.keep3 k33; replace ho2 := ho2.keep3 k33; obtain ⟨Aq, cq, rfl, -, -, -⟩ := own_rd hownq; have y3 := cell_blk hb1 3; have d0 := cell_blk hbT 0; have d1 := cell_blk hbT 1; have d2 := cell_blk hbT 2; have d3 := cell_blk hbT 3; simp only [List.getElem?_toArray, List.getElem?_cons_succ, List.getElem?_cons_zero] at y3 d0 d1 d2 d3; obtain ⟨vo, xs, hvo, hro, hok⟩ := hMq.out; have cO := hvo.cell; obtain ⟨WW, hWW⟩ : ∃ WW, WW = w7.setCell ⟨w1.heap.size + 1, 0, none⟩ (.slice Aq ((confL base a b pre).length + 1) cq) := ⟨_, rfl⟩) | (gi_at_builtin; rw [← hWW]; rw [← hWW] at hMq hro hok ho1 hvo; have hz : w7.heap.size = WW.heap.size := (by rw [hWW]; simp [World.setCell]); try rw [hz]; clear hWW; refine wpListIn_append1 rfl (.tmp 62) (.tmp 65) 22 rfl (w1.heap.size + 4) 46 i46 _ 3 48 Tryd.underlying22 HI.out HZ0.out HZ1.out HZ2.out rfl (by decide) (by decide) vo _ xs rfl hro [.string Y.f.path, .int .i64 Y.f.len, .slice F1 Y.f.frags.length c1] rfl rfl (by simp [Value.oneCell']) (by omega) hMq.big ?_; intro v' w8 hown' hbel hg3; have hbx := (Boxed.appended (tmp := .cells [.string Y.f.path, .int .i64 Y.f.len, .slice F1 Y.f.frags.length c1].toArray 46) hvo (by decide) (own_base hro (Nat.le_add_right _ _)) (by have := hMq.big; omega) (Nat.le_refl _) (own_base hown' (Nat.le_add_right _ _)) hg3).1; have cO3 := hbx.cell; have fO3 := hbx.frozen; have hM3 := hMq.addOut (f := Y.f) (by omega) (by omega) hvo hro hok ho1 hown' hbel hg3; obtain ⟨Ao3, co3, rfl, -, -, -⟩ := own_rd hown'))
                try simp only [NoOut, Exit.inBlock]
                refine ⟨hM3.ko.from _, hM3.kb, ?_⟩
                refine ⟨?_, ?_, hB.trans hM3.kb⟩
                · rw [outL_yes (by rw [HA1.out]; exact hth), HA1.out]
                  exact hM3.out
                · rw [confL_yes (by rw [HA1.out])]
                  exact hM3.conf
    case done =>
      rintro D ys W hD rfl ⟨⟨vo, xs, hvo, hro, hok⟩, ⟨vd, hvd, hrd⟩, hB⟩ hK
      have cO := hvo.cell
      have cD := hvd.cell
      obtain ⟨Ao, co, rfl, ho1, ho2, ho3⟩ := own_rd hro
      obtain ⟨Ad, cd, rfl, hd1, hd2, hd3⟩ := own_rd hrd
      have hlen := bothN_len (a.length + b.length) a b
      have hol := outL_len base a b (bothL a b)
      have hbl : (bothL a b).length ≤ 1000 := by unfold bothL; omega
      have hX : Ext w W := Below.trans (hx.trans hxw4) (hB.below (n := w.heap.size) (by omega) (by simp; omega))
      have hSh : Short (outL base a b (bothL a b)) := fun f hf => (outL_mem hf).elim (hs2 f) (hs3 f)
      have hR := Lib.hid (rdL_of ho3 hok)
      have hRd := Lib.hid hd3
      clear ho3 hd3
      gi_wp2_with fail
      refine ⟨trivial, callsIn_wide.2 ((tcheck_any Ao co (outL base a b (bothL a b)) W (hm.ext hX) (by omega) hSh hR.out).mono ?_)⟩
      rintro e w2 ⟨rfl, hx2⟩
      have hK2 := hx2.blk hK
      by_cases hce : checkE (outL base a b (bothL a b)) = 0
      · rw [if_pos hce] at HK
        rw [hce]
        replace cO := hx2.cell cO
        replace cD := hx2.cell cD
        gi_wp2_with fail
        refine wpIn_wide.2 ?_
        go_quiet (fail)
        gi_wp2_with fail
        have hK3 : (w2.drewN nq).heap[D]? = some (Obj.deferred (some [])) := hK2
        refine ⟨by simp, .inl ⟨_, _, rfl, run_takeDeferred hK3, ?_⟩⟩
        have hkc : KeepCells W ((w2.drewN nq).putObj D (.deferred none)) := (KeepCells.of_ext (hx2.drewN nq)).trans (KeepCells.put hK3 rfl _)
        refine ⟨_, results_tmp3 rfl _ _ _, Ao, co, Ad, cd, ?_, ?_, ?_, ?_⟩
        · rw [HK.out]; rfl
        · rw [HK.out]; exact hR.out.keep hkc
        · rw [HK.out]; exact rd_keep hRd.out hkc
        · exact Below.trans hX (Below.trans ((hx2.drewN nq).mono (by have := hX.size; omega)) (KeepBut.below (N0 := w4.heap.size) (obs := []) (KeepBut.putObj (Nat.le_refl _) (w2.drewN nq) D _ _ hD hK3 rfl rfl) (by have := hX.size; omega) (by simp)))
      · rw [if_neg hce] at HK
        have q1 : (checkE (outL base a b (bothL a b)) == 0) = false := beq_eq_false_iff_ne.2 hce
        have q2 : (checkE (outL base a b (bothL a b)) != 0) = true := by simp [bne, q1]
        generalize checkE (outL base a b (bothL a b)) = ce at *
        gi_wp2_with fail
        refine ⟨by simp, .inl ⟨_, _, rfl, run_takeDeferred hK2, ?_⟩⟩
        refine ⟨_, results_tmp3 rfl _ _ _, none, 0, none, 0, ?_, ?_, ?_, ?_⟩
        · rw [HK.out]; rfl
        · rw [HK.out]; exact .inl rfl
        · rw [HK.out]; exact .inl rfl
        · exact Below.trans hX (Below.trans (hx2.mono (by have := hX.size; omega)) (KeepBut.below (N0 := w4.heap.size) (obs := []) (KeepBut.putObj (Nat.le_refl _) w2 D _ _ hD hK2 rfl rfl) (by have := hX.size; omega) (by simp)))
    case stop =>
      rintro D c pre W _ _ h _
      exact h.elim
  · have HK : Hid (mergeE base a b = ([], [], checks [base, a, b])) := by unfold mergeE; rw [Hid, if_neg hc]
    have q1 : (checks [base, a, b] == 0) = false := beq_eq_false_iff_ne.2 hc
    have q2 : (checks [base, a, b] != 0) = true := by simp [bne, q1]
    generalize checks [base, a, b] = ce at *
    gi_wp2_with fail
    try simp only [Exit.inBlock, Exit.then]
    refine ⟨_, results_tmp3 rfl _ _ _, none, 0, none, 0, ?_, ?_, ?_, hx⟩
    · rw [HK.out]; rfl
    · rw [HK.out]; exact .inl rfl
    · rw [HK.out]; exact .inl rfl
end Go.Proofs.YtcjokhhcncimdaaDoor
