/- The walks of Forward and Inverse. -/
import Derived.Test.YtmlmnmafbpjnbaaW4
namespace Go.Proofs.Ytmlmnmafbpjnbaa
open Go.RowKit Go.PF Go.Col Go.Shelf
attribute [local go_sem] Oper.semAt_some

theorem order_in (F : Fence) (m : Nat) (h27 : F.fn 27) (hro : F.round = none) (n k : Int) (w : World) :
    CallsIn F m Try.prog 27 #[.int .i64 n, .int .i64 k] w fun e w' => e = .returned (.func (.func 30) #[] #[.pointer (some ⟨w.heap.size + 1, 0, none⟩), .pointer (some ⟨w.heap.size, 0, none⟩)]) ∧
      w' = (w.alloc (.cells #[.int .i64 n] 3)).alloc (.cells #[.int .i64 k] 3) := by
  refine callsIn_of_wp Try.func27 rfl h27 ?_ hro
  simp only [Try.ntmps27, List.size_toArray, List.length_cons, List.length_nil, Nat.reduceAdd, Nat.reduceSub, Array.replicate_succ, Array.replicate_zero, List.push_toArray, List.append_toArray, List.nil_append, List.cons_append]
  gi_wp2
  go_ret
  exact ⟨rfl, rfl⟩

theorem order_stops (F : Fence) (m : Nat) (h30 : F.fn 30) (hro : F.round = none) (hm : 1 ≤ m) (Bw Bl : Nat) (Kp : World → World → Prop) (n k : Nat) (hn : n ≤ 65536) (hk1 : 1 ≤ k) (hk : k ≤ 64)
    (hKw : ∀ W W', Kp W W' → W'.cell? ⟨Bw, 0, none⟩ = W.cell? ⟨Bw, 0, none⟩) (hKl : ∀ W W', Kp W W' → W'.cell? ⟨Bl, 0, none⟩ = W.cell? ⟨Bl, 0, none⟩) (w : World)
    (hcw : w.cell? ⟨Bw, 0, none⟩ = some (.int .i64 (k : Int))) (hcl : w.cell? ⟨Bl, 0, none⟩ = some (.int .i64 (n : Int))) :
    SeqStopsK F m Try.prog 30 #[.pointer (some ⟨Bw, 0, none⟩), .pointer (some ⟨Bl, 0, none⟩)] (fun x : {x : Nat // x < n} => #[Value.int .i64 (x.1 : Int)]) Kp (fun ys => ys.map (·.1) = ord n k) (fun _ => True) (ord n k).length w := fun l J Jx W hW _ _ hY h0 =>
  (order1_in F m h30 hro hm l Bw Bl Kp n k hn hk1 hk hKw hKl (fun pre W => ∃ ys : List {x : Nat // x < n}, ys.map (·.1) = pre ∧ J ys W) (fun pre W => ∃ ys : List {x : Nat // x < n}, ys.map (·.1) = pre ∧ Jx ys W)
    (fun pre x W1 hJ hl hx => by
      obtain ⟨ys, rfl, hJ⟩ := hJ
      obtain ⟨fn, tmps, assign, body, h1, h2⟩ := hY ys ⟨x, hx⟩ W1 hJ (by simpa using hl)
      refine ⟨fn, tmps, assign, body, h1, h2.mono ?_⟩
      rintro e W' (⟨he, hJ', hk⟩ | ⟨he, hJ'⟩)
      · exact .inl ⟨he, ⟨_, by simp, hJ'⟩, hk⟩
      · exact .inr ⟨he, ⟨_, by simp, hJ'⟩⟩) W (Ext.cell hW hcw) (Ext.cell hW hcl) ⟨[], rfl, h0⟩).mono (by
    rintro e W' ⟨he, h⟩
    refine ⟨he, ?_⟩
    rcases h with ⟨ys, hy, xs, hxs, hJ⟩ | ⟨pre, hp, xs, hxs, hJ⟩
    · exact .inl ⟨xs, hxs.trans hy, hJ⟩
    · exact .inr ⟨xs, trivial, hJ⟩)

theorem ordBytes (c : Nat → Int) (n k : Nat) : (ord n k).map (fun x => Value.int .u8 (c x)) = bytesF (fun j => c (ordAt n k j)) (ordLen n k) := by
  apply List.ext_getElem
  · simp [bytesF, ordLen]
  · intro i h1 h2
    simp only [List.length_map] at h1
    simp [bytesF, ordAt, List.getElem?_eq_getElem h1]

theorem ord_get (n k : Nat) : (fun j => ordAt n k j) = fun j => (ord n k)[j]?.getD 0 := rfl

set_option maxRecDepth 100000 in
set_option maxHeartbeats 2000000 in
theorem forward_ok2 (A : Option Addr) (cap n : Nat) (c : Nat → Int) (k : Nat) (w : World) (hn : n ≤ 65536) (hk1 : 1 ≤ k) (hk : k ≤ 64) (hB : RdF w A n c) :
    Calls Try.prog 15 #[.slice A n cap, .int .i64 k] w fun e w' => ∃ B cap', e = .returned (.tuple #[.slice B (ordLen n k) cap', .int .i64 0]) ∧ RdF w' B (ordLen n k) (fun j => c (ordAt n k j)) ∧ Ext w w' ∧ ordLen n k ≤ cap' := by
  have hl0 : limitsF n k = 0 := by unfold limitsF; rw [if_neg (by omega), if_neg (by omega)]
  have HL := Lib.hid hl0; clear hl0
  obtain ⟨i0, hi, hz0, hz1, hz2⟩ := info_parts info5
  have HI := Lib.hid hi; have HZ0 := Lib.hid hz0; have HZ1 := Lib.hid hz1; have HZ2 := Lib.hid hz2
  clear hi hz0 hz1 hz2
  have HB := Lib.hid hB; clear hB
  refine callsIn_wide.1 (?_ : CallsIn Fence.wide 3 _ _ _ _ _)
  refine callsIn_of_wp_marks Try.func15 rfl trivial ?_ rfl
  simp only [Try.ntmps15, List.size_toArray, List.length_cons, List.length_nil, Nat.reduceAdd, Nat.reduceSub, Array.replicate_succ, Array.replicate_zero, List.push_toArray, List.append_toArray, List.nil_append, List.cons_append]
  have h1 : 1 ≤ 3 := by omega
  gi_wp2_with (first | (refine ⟨trivial, ?_⟩; gi_at_call 20; refine (callsIn_wide.2 (limits_any _ _ _)).mono ?_; rintro e w' ⟨rfl, rfl⟩; rw [HL.out]) | (refine ⟨trivial, ?_⟩; gi_at_call 27; refine (order_in Fence.wide _ trivial rfl _ _ _).mono ?_; rintro e w' ⟨rfl, rfl⟩))
  clear HL
  obtain ⟨w4, hw4, bA4, bO4, bL4, bW4, hsz4, hxw4⟩ := boxes4 w (.slice A n cap) (.slice none 0 0) (.int .i64 (n : Int)) (.int .i64 (k : Int)) 29 29 3 3
  rw [hw4]
  clear hw4
  refine wpIn_rangeFunc_ownG rfl h1 (gf := 30) (lb := #[.pointer (some ⟨w.heap.size + 1 + 1 + 1, 0, none⟩), .pointer (some ⟨w.heap.size + 1 + 1, 0, none⟩)]) rfl trivial (enters_of Try.func30 (by kernel_rfl) rfl)
    (order_stops Fence.wide _ trivial rfl (by omega) (w.heap.size + 3) (w.heap.size + 2) (KeepBut (w.heap.size + 4) [w.heap.size + 1]) n k hn hk1 hk (fun _ _ h => h.cell (by simp) (by simp)) (fun _ _ h => h.cell (by simp) (by simp)) w4 bW4.cell bL4.cell)
    KeepBut.trans (KeepBut.putObj (by omega)) (Below.refl _ _) (fun _ => rfl)
    (fun pre W => (∃ v, Boxed W (w.heap.size + 1) 29 v ∧ W.ownsRow (w.heap.size + 4) 5 1 v pre.length (pre.map fun j => .int .u8 (c j.1)) ∧ True) ∧ KeepBut (w.heap.size + 4) [w.heap.size + 1] w4 W)
    (fun _ _ _ => False)
    (OwnFrom.and (Own.from (holdsRow_own (w.heap.size + 4) (w.heap.size + 1) 29 5 1 (fun pre : List {x : Nat // x < n} => pre.length) (fun pre => pre.map fun j => .int .u8 (c j.1)) (fun _ _ => True)) _) (KeepBut.own w4 (by omega) (by omega)))
    (fun _ _ _ _ _ hs _ _ => hs)
    ⟨⟨_, bO4, World.ownsRow_nil _ _ _ _, trivial⟩, KeepBut.refl _ _ _⟩
    (fun x => { tmps := #[.slice A n cap, .int .i64 (k : Int), .pointer (some ⟨w.heap.size, 0, none⟩), undef, .slice none 0 0, .int .i64 0, .int .i64 0, .pointer (some ⟨w.heap.size + 1, 0, none⟩), .int .i64 (x.1 : Int), .slice A n cap,
      .int .i64 (n : Int), .int .i64 (k : Int), .int .i64 0, .int .i64 0, .bool false, undef, .slice A n cap, .int .i64 (n : Int), .int .i64 (k : Int),
      .func (.func 30) #[] #[.pointer (some ⟨w.heap.size + 1 + 1 + 1, 0, none⟩), .pointer (some ⟨w.heap.size + 1 + 1, 0, none⟩)], .int .i64 (x.1 : Int), undef, undef, undef, undef, undef, undef, undef, undef], defers := [] }) ?assign ?body ?done ?stop
  case assign =>
    intro l x W K hK
    gi_wp2
    exact hK
  case body =>
    rintro l pre ⟨x, hxl⟩ W ⟨⟨v, hv, hrow, -⟩, hB⟩ hlt
    dsimp only
    have hbA := (hB.boxed bA4 (by omega) (by simp)).cell
    have hbO := hv.cell
    have hbOf := hv.frozen
    rcases HB.out with h | ⟨b, off, rfl, hcc⟩
    · omega
    have hx0 := hcc x hxl
    have hxb := World.block_lt_of_cell? w _ hx0
    have hcx := (Below.cell (Below.trans hxw4 (hB.below (n := w.heap.size) (by omega) (by simp))) hxb).trans hx0
    clear hcc
    have hsz := hB.size
    have hown0 := hrow.drew
    have hxi : (0 : Int) ≤ (x : Int) := by omega
    have hxn : (x : Int) < (n : Int) := by omega
    gi_wp2
    refine wpIn_round_T (fun W' => W'.cell? ⟨w.heap.size + 1, 0, none⟩ = some v ∧ W'.cell? ⟨w.heap.size, 0, none⟩ = some (.slice (some ⟨b, off, none⟩) n cap) ∧ W'.cell? ⟨b, off + x, none⟩ = some (.int .u8 (c x))) [7] (by kernel_rfl) (by kernel_rfl) ?_
    have hS : W.drew.cell? ⟨w.heap.size + 1, 0, none⟩ = some v ∧ W.drew.cell? ⟨w.heap.size, 0, none⟩ = some (.slice (some ⟨b, off, none⟩) n cap) ∧ W.drew.cell? ⟨b, off + x, none⟩ = some (.int .u8 (c x)) := ⟨hbO, hbA, hcx⟩
    refine takeT 0 ?v0 rfl (by kernel_rfl) (fun _ _ _ h => h) rfl hS ?hy0 ?h0
    case hy0 =>
      rintro w' ⟨h1, h2, h3⟩
      go_simp
      first | done | with_reducible rfl
    simp only [Act.put, List.setIfInBounds_toArray, List.set_cons_zero, List.set_cons_succ]
    refine takeT 1 ?v1 rfl (by kernel_rfl) (fun _ _ _ h => h) rfl hS ?hy1 ?h1
    case hy1 =>
      rintro w' ⟨h1, h2, h3⟩
      go_simp
      first | done | with_reducible rfl
    simp only [Act.put, List.setIfInBounds_toArray, List.set_cons_zero, List.set_cons_succ]
    refine takeT 2 ?v2 rfl (by kernel_rfl) (fun _ _ _ h => h) rfl hS ?hy2 ?h2
    case hy2 =>
      rintro w' ⟨h1, h2, h3⟩
      go_simp
      first | done | with_reducible rfl
    simp only [Act.put, List.setIfInBounds_toArray, List.set_cons_zero, List.set_cons_succ]
    refine takeT 3 ?v3 rfl (by kernel_rfl) (fun _ _ _ h => h) rfl hS ?hy3 ?h3
    case hy3 =>
      rintro w' ⟨h1, h2, h3⟩
      go_simp
      first | done | with_reducible rfl
    simp only [Act.put, List.setIfInBounds_toArray, List.set_cons_zero, List.set_cons_succ]
    refine takeT 4 ?v4 rfl (by kernel_rfl) (fun _ _ _ h => h) rfl hS ?hy4 ?h4
    case hy4 =>
      rintro w' ⟨h1, h2, h3⟩
      go_simp
      first | done | with_reducible rfl
    simp only [Act.put, List.setIfInBounds_toArray, List.set_cons_zero, List.set_cons_succ]
    refine oneT 5 rfl (by kernel_rfl) rfl fun K hK => ?_
    go_simp
    refine hK _ _ (fun _ => ?_) ?_
    · refine ⟨?_, ?_, ?_⟩
      · exact (World.cell?_alloc_lt _ _ _ hv.lt).trans hbO
      · exact (World.cell?_alloc_lt _ _ _ (by have := bA4.lt; show w.heap.size < W.heap.size; omega)).trans hbA
      · exact (World.cell?_alloc_lt _ _ _ (World.block_lt_of_cell? _ _ hcx)).trans hcx
    try simp only [Act.put, List.setIfInBounds_toArray, List.set_cons_zero, List.set_cons_succ]
    refine oneT 6 rfl (by kernel_rfl) rfl fun K hK => ?_
    refine wp_append1 (w := W.drew) (.tmp 21) (.tmp 26) 29 rfl (w.heap.size + 4) 5 i0 (.int .u8 0) 1 1 Try.underlying29 HI.out HZ0.out HZ1.out HZ2.out rfl (by decide) (by decide) v pre.length _ rfl hown0 [.int .u8 (c x)] rfl rfl (by simp [Value.oneCell']) (by have := ord_bound n k hn hk; omega) (by show _ ≤ W.heap.size; omega) ?_
    intro v' w1 hown' hbel hob hgrow
    have hv1 : Boxed w1 (w.heap.size + 1) 29 v := (hbel.block _ (by omega)).trans hv
    have hb1 := hv1.cell
    have hf1 := hv1.frozen
    refine hK _ _ (fun _ => ⟨hb1, (hbel.cell (p := ⟨w.heap.size, 0, none⟩) (by show w.heap.size < w.heap.size + 4; omega)).trans hbA, (hbel.cell (p := ⟨b, off + x, none⟩) (by show b < w.heap.size + 4; omega)).trans hcx⟩) ?_
    obtain ⟨B', cap', rfl, _, _, -⟩ := own_rd hown'
    try simp only [Act.put, List.setIfInBounds_toArray, List.set_cons_zero, List.set_cons_succ]
    refine oneT 7 rfl (by kernel_rfl) rfl fun K hK => ?_
    go_simp
    refine hK _ _ (fun h => absurd (by simp) h) (doneT (by kernel_rfl) ?_ _)
    simp only [NoOut, Exit.inBlock]
    have hX : KeepBut (w.heap.size + 4) [w.heap.size + 1] W (w1.setCell ⟨w.heap.size + 1, 0, none⟩ (.slice B' (pre.length + 1) cap')) :=
      ((KeepBut.of_below (A := W) (B := W.drew) (Below.refl _ _).drew).trans (KeepBut.of_below hbel)).setCell (p := ⟨w.heap.size + 1, 0, none⟩) (.inl (by simp)) _
    have hO := (Boxed.appended (W := W.drew) (n₀ := w.heap.size + 1) (e := 5) (t := 29) hv (by decide) (own_base hown0 (by omega)) (by have := hv.lt; show _ ≤ W.heap.size; omega) (Nat.le_refl _) (own_base hown' (by omega)) hgrow)
    refine ⟨?_, hX, ⟨_, hO.2.1, ?_, trivial⟩, hB.trans hX⟩
    · exact (KeepsOthers.trans (KeepsOthers.drew W) hO.2.2.2.1).from _
    · refine ownsRow_setCell_below ?_ (by show w.heap.size + 1 < w.heap.size + 4; omega) _
      rw [List.length_append, List.map_append]
      exact hown'
  case done =>
    rintro D ys W hD hys ⟨⟨v, hv, hrow, -⟩, hB⟩ hK
    have hc := hv.cell
    gi_wp2
    refine ⟨by simp, .inl ⟨_, _, rfl, run_takeDeferred hK, ?_⟩⟩
    have hrow' := ownsRow_putObj hrow (.deferred none) hK rfl
    have hlen : ys.length = ordLen n k := by have := congrArg List.length hys; simpa [ordLen] using this
    obtain ⟨B, cap', rfl, hcc, _, hr⟩ := own_rd hrow'
    refine ⟨_, results_tmp2 rfl _ _ _, B, cap', by rw [← hlen]; rfl, ?_, ?_, by rw [← hlen]; exact hcc⟩
    · have e : ys.map (fun j => Value.int .u8 (c j.1)) = bytesF (fun j => c (ordAt n k j)) (ordLen n k) := by
        rw [← ordBytes, ← hys, List.map_map]; rfl
      rw [e] at hr
      exact rdF_of hr
    · exact Below.trans hxw4 ((hB.below (n := w.heap.size) (by omega) (by simp)).trans (belowK_b (w := w) (Nat.le_refl _) W D _ _ (by omega) hK rfl rfl))
  case stop =>
    rintro D c pre W _ _ h _
    exact h.elim

theorem forward_ok (A : Option Addr) (cap n : Nat) (c : Nat → Int) (k : Nat) (w : World) (hn : n ≤ 65536) (hk1 : 1 ≤ k) (hk : k ≤ 64) (hB : RdF w A n c) :
    Calls Try.prog 15 #[.slice A n cap, .int .i64 k] w fun e w' => ∃ B cap', e = .returned (.tuple #[.slice B (ordLen n k) cap', .int .i64 0]) ∧ RdF w' B (ordLen n k) (fun j => c (ordAt n k j)) ∧ Ext w w' :=
  (forward_ok2 A cap n c k w hn hk1 hk hB).mono fun _ _ ⟨B, cap', h1, h2, h3, _⟩ => ⟨B, cap', h1, h2, h3⟩

end Go.Proofs.Ytmlmnmafbpjnbaa
