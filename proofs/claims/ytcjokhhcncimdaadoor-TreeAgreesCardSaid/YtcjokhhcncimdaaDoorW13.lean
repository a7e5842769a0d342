/- The walk of awake. -/
import Derived.Test.YtcjokhhcncimdaaDoorW11
import Derived.Test.YtcjokhhcncimdaaDoorW12
set_option linter.unusedVariables false
set_option linter.unusedSimpArgs false
namespace Go.Proofs.YtcjokhhcncimdaaDoor
open Go.RowKit Go.PF Go.Tr

def fx (n : Int) : FileV := ⟨⟨#[120]⟩, 1, [n]⟩
def fy (n : Int) : FileV := ⟨⟨#[121]⟩, 1, [n]⟩
def fz (n : Int) : FileV := ⟨⟨#[122]⟩, 1, [n]⟩
theorem awake_m1 : mergeE [fx 1, fy 2] [fx 3, fy 2] [fx 1, fz 4] = ([fx 3, fz 4], [], 0) := by decide +kernel
theorem awake_m2 : mergeE [fx 1, fy 2] [fx 3] [fx 1, fy 5] = ([fx 3, fy 5], [⟨#[121]⟩], 0) := by decide +kernel
theorem awake_p0 : pathE ⟨#[]⟩ = 24 := by decide +kernel
theorem awake_p1 : pathE ⟨#[47, 97]⟩ = 24 := by decide +kernel
theorem awake_p2 : pathE ⟨#[97, 47, 47, 98]⟩ = 24 := by decide +kernel
theorem awake_p3 : pathE ⟨#[97, 47, 46, 46]⟩ = 24 := by decide +kernel
theorem awake_p4 : pathE ⟨#[97, 32, 98]⟩ = 24 := by decide +kernel
theorem awake_p5 : pathE ⟨#[97, 47, 98, 45, 49, 46, 116, 120, 116]⟩ = 0 := by decide +kernel

theorem rd2 {n0 : Nat} {w : World} {f g : FileV} {F G : Option Addr} {c d : Nat} (h1 : FrOwn n0 w F c f.frags) (h2 : FrOwn n0 w G d g.frags) :
    RdL (w.alloc (.cells #[.string f.path, .int .i64 f.len, .slice F f.frags.length c, .string g.path, .int .i64 g.len, .slice G g.frags.length d] 46)) (some ⟨w.heap.size, 0, none⟩) [f, g] := by
  have hx := ext_alloc1 w (.cells #[.string f.path, .int .i64 f.len, .slice F f.frags.length c, .string g.path, .int .i64 g.len, .slice G g.frags.length d] 46)
  exact rdL_row (World.alloc_heap_new w _) (((OutOk.nil n0 _).snoc (h1.ext hx)).snoc (h2.ext hx))
theorem rd1 {n0 : Nat} {w : World} {f : FileV} {F : Option Addr} {c : Nat} (h1 : FrOwn n0 w F c f.frags) :
    RdL (w.alloc (.cells #[.string f.path, .int .i64 f.len, .slice F f.frags.length c] 46)) (some ⟨w.heap.size, 0, none⟩) [f] := by
  have hx := ext_alloc1 w (.cells #[.string f.path, .int .i64 f.len, .slice F f.frags.length c] 46)
  exact rdL_row (World.alloc_heap_new w _) ((OutOk.nil n0 _).snoc (h1.ext hx))

theorem short_l (l : List FileV) (h : l.all (fun f => decide (f.path.size ≤ 1)) = true) : Short l := by
  intro f hf
  have := List.all_eq_true.1 h f hf
  simp only [decide_eq_true_eq] at this
  show f.path.size ≤ 9223372036854775807
  omega
theorem small_l (l : List FileV) (h : l.all (fun f => decide (f.frags.length ≤ 100)) = true) : Small l := by
  intro f hf
  have := List.all_eq_true.1 h f hf
  simp only [decide_eq_true_eq] at this
  omega
theorem merge1_any (A B C : Option Addr) (w : World) (hm : Mx w) (hA : RdL w A [fx 1, fy 2]) (hB : RdL w B [fx 3, fy 2]) (hC : RdL w C [fx 1, fz 4]) :
    Calls Tryd.prog 13 #[.slice A 2 2, .slice B 2 2, .slice C 2 2] w fun e w' => ∃ Ao co Ac cc, e = .returned (.tuple #[.slice Ao 2 co, .slice Ac 0 cc, .int .i64 0]) ∧ RdL w' Ao [fx 3, fz 4] ∧ Ext w w' := by
  refine (merge_any A B C 2 2 2 [fx 1, fy 2] [fx 3, fy 2] [fx 1, fz 4] w hm (by decide) (by decide) (by decide) (short_l _ (by decide)) (short_l _ (by decide)) (short_l _ (by decide)) (small_l _ (by decide)) (small_l _ (by decide)) (small_l _ (by decide)) hA hB hC).mono ?_
  intro e w' h
  rw [awake_m1] at h
  obtain ⟨Ao, co, Ac, cc, he, h1, h2, h3⟩ := h
  exact ⟨Ao, co, Ac, cc, he, h1, h3⟩
theorem merge2_any (A B C : Option Addr) (w : World) (hm : Mx w) (hA : RdL w A [fx 1, fy 2]) (hB : RdL w B [fx 3]) (hC : RdL w C [fx 1, fy 5]) :
    Calls Tryd.prog 13 #[.slice A 2 2, .slice B 1 1, .slice C 2 2] w fun e w' => ∃ Ao co Ac cc, e = .returned (.tuple #[.slice Ao 2 co, .slice Ac 1 cc, .int .i64 0]) ∧ RdL w' Ao [fx 3, fy 5] ∧ RdS w' Ac [⟨#[121]⟩] ∧ Ext w w' := by
  refine (merge_any A B C 2 1 2 [fx 1, fy 2] [fx 3] [fx 1, fy 5] w hm (by decide) (by decide) (by decide) (short_l _ (by decide)) (short_l _ (by decide)) (short_l _ (by decide)) (small_l _ (by decide)) (small_l _ (by decide)) (small_l _ (by decide)) hA hB hC).mono ?_
  intro e w' h
  rw [awake_m2] at h
  obtain ⟨Ao, co, Ac, cc, he, h1, h2, h3⟩ := h
  exact ⟨Ao, co, Ac, cc, he, h1, h2, h3⟩

theorem same_two (A1 A2 : Option Addr) (c1 c2 : Nat) (f g : FileV) (w : World) (h1 : RdL w A1 [f, g]) (h2 : RdL w A2 [f, g]) :
    Calls Tryd.prog 15 #[.slice A1 2 c1, .slice A2 2 c2] w fun e w' => e = .returned (.bool true) ∧ Ext w w' := by
  refine (same_any A1 A2 c1 c2 [f, g] [f, g] w (by simp [maxLen]) (by simp [maxLen]) h1 h2).mono ?_
  rintro e w' ⟨rfl, hx⟩
  exact ⟨by simp, hx⟩
theorem eqstr_one (F1 F2 : Option Addr) (k1 k2 : Nat) (p : ByteArray) (w : World) (h1 : RdS w F1 [p]) (h2 : RdS w F2 [p]) :
    Calls Tryd.prog 16 #[.slice F1 1 k1, .slice F2 1 k2] w fun e w' => e = .returned (.bool true) ∧ Ext w w' := by
  refine (eqstr_any F1 F2 k1 k2 [p] [p] w h1 h2 (by simp) (by simp)).mono ?_
  rintro e w' ⟨rfl, hx⟩
  exact ⟨by simp, hx⟩
theorem rdS_one (w : World) (p : ByteArray) : RdS (w.alloc (.cells #[.string p] 9)) (some ⟨w.heap.size, 0, none⟩) [p] := by
  refine .inr ⟨_, 0, rfl, fun k hk => ?_⟩
  have hk0 : k = 0 := by simpa using hk
  subst hk0
  rw [cell_blk (World.alloc_heap_new w _)]
  rfl

set_option maxRecDepth 100000 in
set_option maxHeartbeats 1000000 in
theorem awake_any (w : World) (hm : Mx w) : Calls Tryd.prog 12 #[] w fun e w' => e = .returned (.bool true) ∧ Ext w w' := by
  go_enter Tryd.func12, Tryd.ntmps12
  go_wp2_with fail
  have hb := World.alloc_heap_new w (.cells #[.string { data := #[] }, .string { data := #[47, 97] }, .string { data := #[97, 47, 47, 98] }, .string { data := #[97, 47, 46, 46] }, .string { data := #[97, 32, 98] }] 9)
  have hx := ext_alloc1 w (.cells #[.string { data := #[] }, .string { data := #[47, 97] }, .string { data := #[97, 47, 47, 98] }, .string { data := #[97, 47, 46, 46] }, .string { data := #[97, 32, 98] }] 9)
  generalize w.alloc (.cells #[.string { data := #[] }, .string { data := #[47, 97] }, .string { data := #[97, 47, 47, 98] }, .string { data := #[97, 47, 46, 46] }, .string { data := #[97, 32, 98] }] 9) = W at *
  have HB := Lib.hid hb; clear hb
  go_loopg [14] 6 (fun f i wr => ∃ (i' : Nat), i = .int .i64 i' ∧ i' ≤ 5 ∧ 6 ≤ i' + f ∧ Ext W wr)
  case atStart => exact ⟨0, rfl, by omega, by omega, Ext.refl _⟩
  case round =>
    obtain ⟨i', rfl, h1, h2, hxr⟩ := hrel
    by_cases hlt : i' < 5
    · obtain ⟨s, hc, HE, hs⟩ : ∃ s, wr.cell? ⟨w.heap.size, i', none⟩ = some (.string s) ∧ Hid (pathE s = 24) ∧ s.size ≤ maxLen := by
        match i', hlt with
        | 0, _ => exact ⟨_, hxr.cell (by rw [cell_blk HB.out]; rfl), awake_p0, by decide⟩
        | 1, _ => exact ⟨_, hxr.cell (by rw [cell_blk HB.out]; rfl), awake_p1, by decide⟩
        | 2, _ => exact ⟨_, hxr.cell (by rw [cell_blk HB.out]; rfl), awake_p2, by decide⟩
        | 3, _ => exact ⟨_, hxr.cell (by rw [cell_blk HB.out]; rfl), awake_p3, by decide⟩
        | 4, _ => exact ⟨_, hxr.cell (by rw [cell_blk HB.out]; rfl), awake_p4, by decide⟩
      go_wp2_with fail
      refine (tpath_any s hs wr (hm.ext (hx.trans hxr))).mono ?_
      rintro e w1 ⟨rfl, hx1⟩
      rw [HE.out]
      go_wp2_with fail
      go_roundg (gk - 1)
      case measure => omega
      case rel => exact ⟨i' + 1, by go_num, by omega, by omega, hxr.trans hx1⟩
    · obtain rfl : i' = 5 := by omega
      replace hx := hx.trans hxr
      clear hlt h1 h2 hxr HB
      go_wp2_with fail
      refine (file_any ⟨#[120]⟩ 1 _).mono ?_
      rintro e w1a ⟨v, rfl, ⟨F1a, c1a, rfl, o1a⟩, hx1a⟩
      go_wp2_with fail
      refine (file_any ⟨#[121]⟩ 2 _).mono ?_
      rintro e w1b ⟨v, rfl, ⟨F1b, c1b, rfl, o1b⟩, hx1b⟩
      go_wp2_with fail
      have r1 := rd2 (f := fx 1) (g := fy 2) ((o1a.ext hx1b).mono (Nat.zero_le _)) (o1b.mono (Nat.zero_le _))
      have hx1 := (hx.trans (hx1a.trans hx1b)).trans (ext_alloc1 w1b (.cells #[.string ⟨#[120]⟩, .int .i64 1, .slice F1a 1 c1a, .string ⟨#[121]⟩, .int .i64 1, .slice F1b 1 c1b] 46))
      have hy1 := (hx1a.trans hx1b).trans (ext_alloc1 w1b (.cells #[.string ⟨#[120]⟩, .int .i64 1, .slice F1a 1 c1a, .string ⟨#[121]⟩, .int .i64 1, .slice F1b 1 c1b] 46))
      dsimp only [fx, fy, fz, List.length_cons, List.length_nil] at r1
      generalize w1b.alloc (.cells #[.string ⟨#[120]⟩, .int .i64 1, .slice F1a 1 c1a, .string ⟨#[121]⟩, .int .i64 1, .slice F1b 1 c1b] 46) = W1 at *
      clear o1a o1b hx1a hx1b
      refine (file_any ⟨#[120]⟩ 3 _).mono ?_
      rintro e w2a ⟨v, rfl, ⟨F2a, c2a, rfl, o2a⟩, hx2a⟩
      go_wp2_with fail
      refine (file_any ⟨#[121]⟩ 2 _).mono ?_
      rintro e w2b ⟨v, rfl, ⟨F2b, c2b, rfl, o2b⟩, hx2b⟩
      go_wp2_with fail
      have r2 := rd2 (f := fx 3) (g := fy 2) ((o2a.ext hx2b).mono (Nat.zero_le _)) (o2b.mono (Nat.zero_le _))
      have hx2 := (hx1.trans (hx2a.trans hx2b)).trans (ext_alloc1 w2b (.cells #[.string ⟨#[120]⟩, .int .i64 1, .slice F2a 1 c2a, .string ⟨#[121]⟩, .int .i64 1, .slice F2b 1 c2b] 46))
      have hy2 := (hx2a.trans hx2b).trans (ext_alloc1 w2b (.cells #[.string ⟨#[120]⟩, .int .i64 1, .slice F2a 1 c2a, .string ⟨#[121]⟩, .int .i64 1, .slice F2b 1 c2b] 46))
      dsimp only [fx, fy, fz, List.length_cons, List.length_nil] at r2
      generalize w2b.alloc (.cells #[.string ⟨#[120]⟩, .int .i64 1, .slice F2a 1 c2a, .string ⟨#[121]⟩, .int .i64 1, .slice F2b 1 c2b] 46) = W2 at *
      clear o2a o2b hx2a hx2b
      refine (file_any ⟨#[120]⟩ 1 _).mono ?_
      rintro e w3a ⟨v, rfl, ⟨F3a, c3a, rfl, o3a⟩, hx3a⟩
      go_wp2_with fail
      refine (file_any ⟨#[122]⟩ 4 _).mono ?_
      rintro e w3b ⟨v, rfl, ⟨F3b, c3b, rfl, o3b⟩, hx3b⟩
      go_wp2_with fail
      have r3 := rd2 (f := fx 1) (g := fz 4) ((o3a.ext hx3b).mono (Nat.zero_le _)) (o3b.mono (Nat.zero_le _))
      have hx3 := (hx2.trans (hx3a.trans hx3b)).trans (ext_alloc1 w3b (.cells #[.string ⟨#[120]⟩, .int .i64 1, .slice F3a 1 c3a, .string ⟨#[122]⟩, .int .i64 1, .slice F3b 1 c3b] 46))
      have hy3 := (hx3a.trans hx3b).trans (ext_alloc1 w3b (.cells #[.string ⟨#[120]⟩, .int .i64 1, .slice F3a 1 c3a, .string ⟨#[122]⟩, .int .i64 1, .slice F3b 1 c3b] 46))
      dsimp only [fx, fy, fz, List.length_cons, List.length_nil] at r3
      generalize w3b.alloc (.cells #[.string ⟨#[120]⟩, .int .i64 1, .slice F3a 1 c3a, .string ⟨#[122]⟩, .int .i64 1, .slice F3b 1 c3b] 46) = W3 at *
      clear o3a o3b hx3a hx3b
      refine (merge1_any _ _ _ W3 (hm.ext hx3) (r1.ext (hy2.trans hy3)) (r2.ext hy3) r3).mono ?_
      rintro e W4 ⟨Ao, co, Ac, cc, rfl, r4, hy4⟩
      have hx4 := hx3.trans hy4
      replace r1 := r1.ext ((hy2.trans hy3).trans hy4)
      clear r2 r3 hy1 hy2 hy3 hx1 hx2 hx3
      go_wp2_with fail
      refine (file_any ⟨#[120]⟩ 3 _).mono ?_
      rintro e w5a ⟨v, rfl, ⟨F5a, c5a, rfl, o5a⟩, hx5a⟩
      go_wp2_with fail
      have r5 := rd1 (f := fx 3) (o5a.mono (Nat.zero_le _))
      have hx5 := (hx4.trans hx5a).trans (ext_alloc1 w5a (.cells #[.string ⟨#[120]⟩, .int .i64 1, .slice F5a 1 c5a] 46))
      have hy5 := hx5a.trans (ext_alloc1 w5a (.cells #[.string ⟨#[120]⟩, .int .i64 1, .slice F5a 1 c5a] 46))
      dsimp only [fx, fy, fz, List.length_cons, List.length_nil] at r5
      generalize w5a.alloc (.cells #[.string ⟨#[120]⟩, .int .i64 1, .slice F5a 1 c5a] 46) = W5 at *
      clear o5a hx5a
      refine (file_any ⟨#[120]⟩ 1 _).mono ?_
      rintro e w6a ⟨v, rfl, ⟨F6a, c6a, rfl, o6a⟩, hx6a⟩
      go_wp2_with fail
      refine (file_any ⟨#[121]⟩ 5 _).mono ?_
      rintro e w6b ⟨v, rfl, ⟨F6b, c6b, rfl, o6b⟩, hx6b⟩
      go_wp2_with fail
      have r6 := rd2 (f := fx 1) (g := fy 5) ((o6a.ext hx6b).mono (Nat.zero_le _)) (o6b.mono (Nat.zero_le _))
      have hx6 := (hx5.trans (hx6a.trans hx6b)).trans (ext_alloc1 w6b (.cells #[.string ⟨#[120]⟩, .int .i64 1, .slice F6a 1 c6a, .string ⟨#[121]⟩, .int .i64 1, .slice F6b 1 c6b] 46))
      have hy6 := (hx6a.trans hx6b).trans (ext_alloc1 w6b (.cells #[.string ⟨#[120]⟩, .int .i64 1, .slice F6a 1 c6a, .string ⟨#[121]⟩, .int .i64 1, .slice F6b 1 c6b] 46))
      dsimp only [fx, fy, fz, List.length_cons, List.length_nil] at r6
      generalize w6b.alloc (.cells #[.string ⟨#[120]⟩, .int .i64 1, .slice F6a 1 c6a, .string ⟨#[121]⟩, .int .i64 1, .slice F6b 1 c6b] 46) = W6 at *
      clear o6a o6b hx6a hx6b
      refine (merge2_any _ _ _ W6 (hm.ext hx6) (r1.ext (hy5.trans hy6)) (r5.ext hy6) r6).mono ?_
      rintro e W7 ⟨Bo, do_, Bc, dc, rfl, r7, s7, hy7⟩
      have hx7 := hx6.trans hy7
      replace r4 := r4.ext ((hy5.trans hy6).trans hy7)
      clear r1 r5 r6 hy4 hy5 hy6 hy7 hx4 hx5 hx6 hx
      go_wp2_with fail
      refine (tpath_any _ (by decide) W7 (hm.ext hx7)).mono ?_
      rintro e W8 ⟨rfl, hy8⟩
      rw [awake_p5]
      have hx8 := hx7.trans hy8
      replace r4 := r4.ext hy8
      replace r7 := r7.ext hy8
      replace s7 : RdS W8 Bc _ := Rd.ext s7 hy8
      clear hx7 hy8
      go_wp2_with fail
      refine (file_any ⟨#[120]⟩ 3 _).mono ?_
      rintro e w9a ⟨v, rfl, ⟨F9a, c9a, rfl, o9a⟩, hx9a⟩
      go_wp2_with fail
      refine (file_any ⟨#[122]⟩ 4 _).mono ?_
      rintro e w9b ⟨v, rfl, ⟨F9b, c9b, rfl, o9b⟩, hx9b⟩
      go_wp2_with fail
      have r9 := rd2 (f := fx 3) (g := fz 4) ((o9a.ext hx9b).mono (Nat.zero_le _)) (o9b.mono (Nat.zero_le _))
      have hx9 := (hx8.trans (hx9a.trans hx9b)).trans (ext_alloc1 w9b (.cells #[.string ⟨#[120]⟩, .int .i64 1, .slice F9a 1 c9a, .string ⟨#[122]⟩, .int .i64 1, .slice F9b 1 c9b] 46))
      have hy9 := (hx9a.trans hx9b).trans (ext_alloc1 w9b (.cells #[.string ⟨#[120]⟩, .int .i64 1, .slice F9a 1 c9a, .string ⟨#[122]⟩, .int .i64 1, .slice F9b 1 c9b] 46))
      dsimp only [fx, fy, fz, List.length_cons, List.length_nil] at r9
      generalize w9b.alloc (.cells #[.string ⟨#[120]⟩, .int .i64 1, .slice F9a 1 c9a, .string ⟨#[122]⟩, .int .i64 1, .slice F9b 1 c9b] 46) = W9 at *
      clear o9a o9b hx9a hx9b
      refine (same_two _ _ _ _ (fx 3) (fz 4) W9 (r4.ext hy9) r9).mono ?_
      rintro e W10 ⟨rfl, hy10⟩
      have hx10 := hx9.trans hy10
      replace r7 := r7.ext (hy9.trans hy10)
      replace s7 : RdS W10 Bc _ := Rd.ext s7 (hy9.trans hy10)
      clear r4 r9 hy9 hy10 hx8 hx9
      go_wp2_with fail
      refine (file_any ⟨#[120]⟩ 3 _).mono ?_
      rintro e w11a ⟨v, rfl, ⟨F11a, c11a, rfl, o11a⟩, hx11a⟩
      go_wp2_with fail
      refine (file_any ⟨#[121]⟩ 5 _).mono ?_
      rintro e w11b ⟨v, rfl, ⟨F11b, c11b, rfl, o11b⟩, hx11b⟩
      go_wp2_with fail
      have r11 := rd2 (f := fx 3) (g := fy 5) ((o11a.ext hx11b).mono (Nat.zero_le _)) (o11b.mono (Nat.zero_le _))
      have hx11 := (hx10.trans (hx11a.trans hx11b)).trans (ext_alloc1 w11b (.cells #[.string ⟨#[120]⟩, .int .i64 1, .slice F11a 1 c11a, .string ⟨#[121]⟩, .int .i64 1, .slice F11b 1 c11b] 46))
      have hy11 := (hx11a.trans hx11b).trans (ext_alloc1 w11b (.cells #[.string ⟨#[120]⟩, .int .i64 1, .slice F11a 1 c11a, .string ⟨#[121]⟩, .int .i64 1, .slice F11b 1 c11b] 46))
      dsimp only [fx, fy, fz, List.length_cons, List.length_nil] at r11
      generalize w11b.alloc (.cells #[.string ⟨#[120]⟩, .int .i64 1, .slice F11a 1 c11a, .string ⟨#[121]⟩, .int .i64 1, .slice F11b 1 c11b] 46) = W11 at *
      clear o11a o11b hx11a hx11b
      refine (same_two _ _ _ _ (fx 3) (fy 5) W11 (r7.ext hy11) r11).mono ?_
      rintro e W12 ⟨rfl, hy12⟩
      have hx12 := hx11.trans hy12
      replace s7 : RdS W12 Bc _ := Rd.ext s7 (hy11.trans hy12)
      clear r7 r11 hy11 hy12 hx10 hx11
      go_wp2_with fail
      refine (eqstr_one _ _ _ _ ⟨#[121]⟩ _ (Rd.ext s7 (ext_alloc1 _ _)) (rdS_one W12 ⟨#[121]⟩)).mono ?_
      rintro e W13 ⟨rfl, hy13⟩
      go_wp2_with fail
      go_ret
      exact ⟨rfl, (hx12.trans (ext_alloc1 _ _)).trans hy13⟩
end Go.Proofs.YtcjokhhcncimdaaDoor
