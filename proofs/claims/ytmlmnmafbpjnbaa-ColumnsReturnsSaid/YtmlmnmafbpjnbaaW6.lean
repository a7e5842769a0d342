/- The walk of Inverse. -/
import Derived.Test.YtmlmnmafbpjnbaaW5
namespace Go.Proofs.Ytmlmnmafbpjnbaa
open Go.RowKit Go.PF Go.Col Go.Shelf
attribute [local go_sem] Oper.semAt_some

set_option maxRecDepth 100000 in
set_option maxHeartbeats 2000000 in
theorem inverse_ok (A : Option Addr) (cap n : Nat) (c : Nat → Int) (k : Nat) (w : World) (hn : n ≤ 65536) (hcap : n ≤ cap) (hk1 : 1 ≤ k) (hk : k ≤ 64) (hB : RdF w A n c) (hN : ordLen n k = n) :
    Calls Try.prog 18 #[.slice A n cap, .int .i64 k] w fun e w' => ∃ B cap', e = .returned (.tuple #[.slice B n cap', .int .i64 0]) ∧ RdF w' B n (invTo (ordAt n k) c n) ∧ Ext w w' := by
  have hl0 : limitsF n k = 0 := by unfold limitsF; rw [if_neg (by omega), if_neg (by omega)]
  have HL := Lib.hid hl0; clear hl0
  have HB := Lib.hid hB; clear hB
  have HNN := Lib.hid hN; clear hN
  have hmk := fun W => run_make_row' (P := Try.prog) 29 5 (.int .u8 0) 1 Try.underlying29 info5 rfl .i64 .i64 n (by omega) (by omega) W
  refine callsIn_wide.1 (?_ : CallsIn Fence.wide 3 _ _ _ _ _)
  refine callsIn_of_wp_marks Try.func18 rfl trivial ?_ rfl
  simp only [Try.ntmps18, List.size_toArray, List.length_cons, List.length_nil, Nat.reduceAdd, Nat.reduceSub, Array.replicate_succ, Array.replicate_zero, List.push_toArray, List.append_toArray, List.nil_append, List.cons_append]
  have h1 : 1 ≤ 3 := by omega
  gi_wp2_with (first | (refine ⟨trivial, ?_⟩; gi_at_call 20; refine (callsIn_wide.2 (limits_any _ _ _)).mono ?_; rintro e w' ⟨rfl, rfl⟩; rw [HL.out]) | (refine ⟨trivial, ?_⟩; gi_at_call 27; refine (order_in Fence.wide _ trivial rfl _ _ _).mono ?_; rintro e w' ⟨rfl, rfl⟩))
  clear HL hmk
  obtain ⟨w4, hw4, hrow0, bO4, bF4, bL4, bW4, hsz4, hxw4⟩ := boxes5 w (.cells (madeCells #[.int .u8 0] n) 5) (.slice (some ⟨w.heap.size, 0, none⟩) n n) (.slice A n cap) (.int .i64 (n : Int)) (.int .i64 (k : Int)) 29 29 3 3
  rw [hw4]
  clear hw4
  have hrow4 : w4.rowIs w.heap.size 5 n (fun j => .int .u8 (invTo (oL ([] : List {x : Nat // x < n})) c 0 j)) := (World.rowIs_made w (.int .u8 0) n 5).of_block (by rw [hrow0, World.alloc_heap_new])
  clear hrow0
  refine wpIn_rangeFunc_ownG rfl h1 (gf := 30) (lb := #[.pointer (some ⟨w.heap.size + 1 + 1 + 1 + 1, 0, none⟩), .pointer (some ⟨w.heap.size + 1 + 1 + 1, 0, none⟩)]) rfl trivial (enters_of Try.func30 (by kernel_rfl) rfl)
    (order_stops Fence.wide _ trivial rfl (by omega) (w.heap.size + 4) (w.heap.size + 3) (KeepBut (w.heap.size + 5) [w.heap.size, w.heap.size + 2]) n k hn hk1 hk (fun _ _ h => h.cell (by simp) (by simp)) (fun _ _ h => h.cell (by simp) (by simp)) w4 bW4.cell bL4.cell)
    KeepBut.trans (KeepBut.putObj (by omega)) (Below.refl _ _) (fun _ => rfl)
    (fun pre W => (Boxed W (w.heap.size + 1) 29 (.slice (some ⟨w.heap.size, 0, none⟩) n n) ∧ W.rowIs w.heap.size 5 n (fun j => .int .u8 (invTo (oL pre) c pre.length j)) ∧
      ∃ A', Boxed W (w.heap.size + 2) 29 (.slice A' (n - pre.length) (cap - pre.length)) ∧ (pre.length < n → ∃ b off, A = some ⟨b, off, none⟩ ∧ A' = some ⟨b, off + pre.length, none⟩)) ∧ KeepBut (w.heap.size + 5) [w.heap.size, w.heap.size + 2] w4 W)
    (fun _ _ _ => False)
    ?own
    (fun _ _ _ _ _ hs _ _ => hs)
    ?start
    (fun x => { tmps := #[.slice A n cap, .int .i64 (k : Int), undef, undef, .slice none 0 0, .int .i64 0, .int .i64 0, .pointer (some ⟨w.heap.size + 1, 0, none⟩), .pointer (some ⟨w.heap.size + 1 + 1, 0, none⟩), .int .i64 (x.1 : Int), .slice A n cap,
      .int .i64 (n : Int), .int .i64 (k : Int), .int .i64 0, .int .i64 0, .bool false, undef, .slice A n cap, .int .i64 (n : Int), .slice (some ⟨w.heap.size, 0, none⟩) n n, .slice A n cap, .slice A n cap, .int .i64 (n : Int), .int .i64 (k : Int),
      .func (.func 30) #[] #[.pointer (some ⟨w.heap.size + 1 + 1 + 1 + 1, 0, none⟩), .pointer (some ⟨w.heap.size + 1 + 1 + 1, 0, none⟩)], .int .i64 (x.1 : Int), undef, undef, undef, undef, undef, undef, undef, undef, undef], defers := [] }) ?assign ?body ?done ?stop
  case own =>
    rintro pre X Y row ⟨⟨hb1, hrow, A', hb2, hA⟩, hB⟩ hg hr
    have hne : ∀ g, g < w.heap.size + 5 → some g ≠ row := fun g hgl e => by have := (hr g e.symm).1; omega
    exact ⟨⟨hb1.kept hg (hne _ (by omega)), hrow.of_block (hg.block _ hrow.lt (hne _ (by omega))), A', hb2.kept hg (hne _ (by omega)), hA⟩, KeepBut.own (β := Unit) w4 (by omega) (Nat.le_of_eq hsz4.symm) () X Y row hB hg hr⟩
  case start =>
    refine ⟨⟨bO4, hrow4, A, bF4, fun h => ?_⟩, KeepBut.refl _ _ _⟩
    rcases HB.out with h0 | ⟨b, off, rfl, _⟩
    · subst h0; exact absurd h (by simp)
    · exact ⟨b, off, rfl, rfl⟩
  case assign =>
    intro l x W K hK
    gi_wp2
    exact hK
  case body =>
    rintro l pre ⟨x, hxl⟩ W ⟨⟨hb1, hrow, A', hb2, hA⟩, hB⟩ hlt
    dsimp only
    have hlt' : pre.length < n := by have := HNN.out; unfold ordLen at this; omega
    obtain ⟨b, off, rfl, rfl⟩ := hA hlt'
    clear hA
    rcases HB.out with h | ⟨b2, off2, hab, hcc⟩
    · omega
    obtain ⟨rfl, rfl⟩ : b = b2 ∧ off = off2 := by simpa using hab
    have hx0 := hcc pre.length hlt'
    have hxb := World.block_lt_of_cell? w _ hx0
    clear hcc hab
    obtain ⟨m, hm, hm1⟩ : ∃ m, n - pre.length = m + 1 ∧ m + 1 ≤ 65536 := ⟨n - pre.length - 1, by omega, by omega⟩
    obtain ⟨cm, hcm, hcm1⟩ : ∃ cm, cap - pre.length = cm + 1 ∧ m ≤ cm := ⟨cap - pre.length - 1, by omega, by omega⟩
    rw [hm, hcm] at hb2
    have HM := Lib.hid hm; have HCM := Lib.hid hcm; clear hm hcm
    have hcx := (Below.cell (Below.trans hxw4 (hB.below (n := w.heap.size) (by omega) (by simp))) hxb).trans hx0
    have hbO := hb1.cell
    have hbF := hb2.cell
    have hbFf := hb2.frozen
    have hsz := hB.size
    have hro := hrow.cell hxl
    have hrf := hrow.frozen x
    have hxi : (0 : Int) ≤ (x : Int) := by omega
    have hxn : (x : Int) < (n : Int) := by omega
    have hmi : (0 : Int) < (m : Int) + 1 := by omega
    have hmi2 : (1 : Int) ≤ (m : Int) + 1 := by omega
    have hmi3 : (m : Int) + 1 ≤ (cm : Int) + 1 := by omega
    obtain ⟨j, hj⟩ : ∃ j, j = off + pre.length := ⟨_, rfl⟩
    rw [← hj] at hcx hbF hb2
    have HJ := Lib.hid hj; clear hj hx0
    gi_wp2
    refine wpIn_round_T (fun W' => W'.cell? ⟨w.heap.size + 1, 0, none⟩ = some (.slice (some ⟨w.heap.size, 0, none⟩) n n) ∧ W'.cell? ⟨w.heap.size + 2, 0, none⟩ = some (.slice (some ⟨b, j, none⟩) (m + 1) (cm + 1)) ∧ W'.cell? ⟨b, j, none⟩ = some (.int .u8 (c pre.length))) [9] (by kernel_rfl) (by kernel_rfl) ?_
    have hS : W.drew.cell? ⟨w.heap.size + 1, 0, none⟩ = some (.slice (some ⟨w.heap.size, 0, none⟩) n n) ∧ W.drew.cell? ⟨w.heap.size + 2, 0, none⟩ = some (.slice (some ⟨b, j, none⟩) (m + 1) (cm + 1)) ∧ W.drew.cell? ⟨b, j, none⟩ = some (.int .u8 (c pre.length)) := ⟨hbO, hbF, hcx⟩
    refine takeT 0 ?v0 rfl (by kernel_rfl) (fun _ _ _ h => h) rfl hS ?hy0 ?h0
    case hy0 =>
      rintro w' ⟨h1, h2, h3⟩
      go_simp
      first | done | with_reducible rfl
    try simp only [Act.put, List.setIfInBounds_toArray, List.set_cons_zero, List.set_cons_succ]
    refine takeT 1 ?v1 rfl (by kernel_rfl) (fun _ _ _ h => h) rfl hS ?hy1 ?h1
    case hy1 =>
      rintro w' ⟨h1, h2, h3⟩
      go_simp
      first | done | with_reducible rfl
    try simp only [Act.put, List.setIfInBounds_toArray, List.set_cons_zero, List.set_cons_succ]
    refine takeT 2 ?v2 rfl (by kernel_rfl) (fun _ _ _ h => h) rfl hS ?hy2 ?h2
    case hy2 =>
      rintro w' ⟨h1, h2, h3⟩
      go_simp
      first | done | with_reducible rfl
    try simp only [Act.put, List.setIfInBounds_toArray, List.set_cons_zero, List.set_cons_succ]
    refine takeT 3 ?v3 rfl (by kernel_rfl) (fun _ _ _ h => h) rfl hS ?hy3 ?h3
    case hy3 =>
      rintro w' ⟨h1, h2, h3⟩
      go_simp
      first | done | with_reducible rfl
    try simp only [Act.put, List.setIfInBounds_toArray, List.set_cons_zero, List.set_cons_succ]
    refine takeT 4 ?v4 rfl (by kernel_rfl) (fun _ _ _ h => h) rfl hS ?hy4 ?h4
    case hy4 =>
      rintro w' ⟨h1, h2, h3⟩
      go_simp
      first | done | with_reducible rfl
    try simp only [Act.put, List.setIfInBounds_toArray, List.set_cons_zero, List.set_cons_succ]
    refine takeT 5 ?v5 rfl (by kernel_rfl) (fun _ _ _ h => h) rfl hS ?hy5 ?h5
    case hy5 =>
      rintro w' ⟨h1, h2, h3⟩
      go_simp
      first | done | with_reducible rfl
    try simp only [Act.put, List.setIfInBounds_toArray, List.set_cons_zero, List.set_cons_succ]
    refine takeT 6 ?v6 rfl (by kernel_rfl) (fun _ _ _ h => h) rfl hS ?hy6 ?h6
    case hy6 =>
      rintro w' ⟨h1, h2, h3⟩
      go_simp
      first | done | with_reducible rfl
    try simp only [Act.put, List.setIfInBounds_toArray, List.set_cons_zero, List.set_cons_succ]
    refine takeT 7 ?v7 rfl (by kernel_rfl) (fun _ _ _ h => h) rfl hS ?hy7 ?h7
    case hy7 =>
      rintro w' ⟨h1, h2, h3⟩
      go_simp
      first | done | with_reducible rfl
    try simp only [Act.put, List.setIfInBounds_toArray, List.set_cons_zero, List.set_cons_succ]
    refine oneT 8 rfl (by kernel_rfl) rfl fun K hK => ?_
    go_simp
    have hne : b ≠ w.heap.size := by omega
    refine hK _ _ (fun _ => ?_) ?_
    · exact ⟨(World.cell?_setCell_far _ _ _ _ (by simp)).trans hbO, (World.cell?_setCell_far _ _ _ _ (by simp)).trans hbF, (World.cell?_setCell_far _ _ _ _ (by simpa using Ne.symm hne)).trans hcx⟩
    have hbF2 := (hb2.set_other (W := W) (W' := (W.setCell ⟨w.heap.size, x, none⟩ (.int .u8 (c pre.length))).drew) (Below.heap_setCell _ _ _ _ (by simp)))
    have hbF3 := hbF2.cell
    have hbF4 := hbF2.frozen
    try simp only [Act.put, List.setIfInBounds_toArray, List.set_cons_zero, List.set_cons_succ]
    refine oneT 9 rfl (by kernel_rfl) rfl fun K hK => ?_
    go_simp
    refine hK _ _ (fun h => absurd (by simp) h) (doneT (by kernel_rfl) ?_ _)
    simp only [NoOut, Exit.inBlock]
    have hX : KeepBut (w.heap.size + 5) [w.heap.size, w.heap.size + 2] W (W.setCell ⟨w.heap.size, x, none⟩ (.int .u8 (c pre.length))).drew :=
      ((KeepBut.refl _ _ W).setCell (p := ⟨w.heap.size, x, none⟩) (.inl (by simp)) _).drew
    have hX2 := fun u => hX.setCell (p := ⟨w.heap.size + 2, 0, none⟩) (.inl (by simp)) u
    have hrow2 := (hrow.set x (.int .u8 (c pre.length))).drew
    refine ⟨?_, hX2 _, ⟨?_, ?_, (if cm = 0 then some ⟨b, j, none⟩ else some ⟨b, j + 1, none⟩), ?_, ?_⟩, hB.trans (hX2 _)⟩
    · exact (KeepsOthers.trans (KeepsOthers.trans (KeepsOthers.setCell _ _ _) (KeepsOthers.drew _)) (KeepsOthers.setCell _ _ _)).from _
    · exact (hb1.set_other (Below.heap_setCell _ ⟨w.heap.size, x, none⟩ _ _ (by simp))).set_other (W' := World.setCell _ ⟨w.heap.size + 2, 0, none⟩ _) (Below.heap_setCell _ _ _ _ (by simp))
    · rw [List.length_append]
      refine ((hrow2.setOther (a := ⟨w.heap.size + 2, 0, none⟩) (by simp) _)).congr fun j hj => ?_
      show _ = Value.int .u8 (invTo (oL (pre ++ [⟨x, hxl⟩])) c (pre.length + 1) j)
      rw [oL_snoc]
      show (if j = x then _ else _) = _
      split <;> rfl
    · have := Boxed.set (.slice (if cm = 0 then some ⟨b, j, none⟩ else some ⟨b, j + 1, none⟩) m cm) hbF2
      have h3 := HM.out
      have h4 := HCM.out
      rw [List.length_append]
      simp only [List.length_cons, List.length_nil]
      rw [show n - (pre.length + (0 + 1)) = m from by omega, show cap - (pre.length + (0 + 1)) = cm from by omega]
      exact this
    · intro hl
      have h3 := HM.out
      have h4 := HCM.out
      have h5 := HJ.out
      rw [List.length_append] at hl ⊢
      simp only [List.length_cons, List.length_nil] at hl ⊢
      exact ⟨b, off, rfl, by rw [if_neg (by omega), h5]; rfl⟩
  case done =>
    rintro D ys W hD hys ⟨⟨hb1, hrow, A', hb2, hA⟩, hB⟩ hK
    have hc := hb1.cell
    gi_wp2
    refine ⟨by simp, .inl ⟨_, _, rfl, run_takeDeferred hK, ?_⟩⟩
    have hrow' : (W.putObj D (.deferred none)).rowIs w.heap.size 5 n (fun j => .int .u8 (invTo (oL ys) c ys.length j)) := hrow.of_block (World.putObj_heap_other (by omega))
    have hlen : ys.length = n := by have h := congrArg List.length hys; have h2 := HNN.out; unfold ordLen at h2; simp at h; omega
    refine ⟨_, results_tmp2 rfl _ _ _, _, _, rfl, ?_, ?_⟩
    · rw [hlen, oL_ord ys hys] at hrow'
      exact rdF_row hrow'
    · exact Below.trans hxw4 ((hB.below (n := w.heap.size) (by omega) (by simp)).trans (belowK_b (w := w) (Nat.le_refl _) W D _ _ (by omega) hK rfl rfl))
  case stop =>
    rintro D c pre W _ _ h _
    exact h.elim

end Go.Proofs.Ytmlmnmafbpjnbaa
