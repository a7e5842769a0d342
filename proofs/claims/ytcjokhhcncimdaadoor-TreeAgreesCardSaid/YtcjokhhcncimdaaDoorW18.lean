/- The walk of the reference's paths. -/
import Derived.Test.YtcjokhhcncimdaaDoorW17
set_option linter.unusedVariables false
set_option linter.unusedSimpArgs false
namespace Go.Proofs.YtcjokhhcncimdaaDoor
open Go.RowKit Go.PF Go.Tr

/-- The cells of some files whose fragments read in a world. -/
def RowAt (w0 : World) (xs : List Value) (fs : List FileV) : Prop := xs.length = fs.length * 3 ∧ ∀ k f, fs[k]? = some f → ∃ F c, xs[k * 3]? = some (.string f.path) ∧ xs[k * 3 + 1]? = some (.int .i64 f.len) ∧ xs[k * 3 + 2]? = some (.slice F f.frags.length c) ∧ Fr w0 F c f.frags
theorem RowAt.nil (w0 : World) : RowAt w0 [] [] := ⟨rfl, fun k f hf => (by simp at hf)⟩
theorem RowAt.snoc {w0 : World} {xs : List Value} {fs : List FileV} (h : RowAt w0 xs fs) {F : Option Addr} {c : Nat} {f : FileV} (ho : Fr w0 F c f.frags) :
    RowAt w0 (xs ++ [.string f.path, .int .i64 f.len, .slice F f.frags.length c]) (fs ++ [f]) := by
  obtain ⟨h1, h2⟩ := h
  refine ⟨by simp [h1]; omega, fun k g hk => ?_⟩
  rcases Nat.lt_or_ge k fs.length with hlt | hge
  · rw [List.getElem?_append_left hlt] at hk
    obtain ⟨F', c', h3, h4, h5, h6⟩ := h2 k g hk
    exact ⟨F', c', by rw [List.getElem?_append_left (by omega)]; exact h3, by rw [List.getElem?_append_left (by omega)]; exact h4, by rw [List.getElem?_append_left (by omega)]; exact h5, h6⟩
  · rw [List.getElem?_append_right hge] at hk
    have hk0 : k = fs.length := by
      rcases Nat.eq_zero_or_pos (k - fs.length) with h | h
      · omega
      · rw [List.getElem?_eq_none (by simp; omega)] at hk; cases hk
    subst hk0
    simp at hk
    subst hk
    exact ⟨F, c, by rw [List.getElem?_append_right (by omega), h1, Nat.sub_self]; rfl, by rw [List.getElem?_append_right (by omega), h1, Nat.add_sub_cancel_left]; rfl, by rw [List.getElem?_append_right (by omega), h1, Nat.add_sub_cancel_left]; rfl, ho⟩
theorem RowAt.rd {w0 w : World} {A : Option Addr} {xs : List Value} {fs : List FileV} (h : Rd w A xs) (ho : RowAt w0 xs fs) (hx : Ext w0 w) : RdL w A fs := by
  obtain ⟨h1, h2⟩ := ho
  rcases h with rfl | ⟨b, off, hA, hc⟩
  · left
    cases fs with
    | nil => rfl
    | cons f r => simp at h1
  · refine .inr ⟨b, off, hA, fun k f hf => ?_⟩
    obtain ⟨F, c, e0, e1, e2, e3⟩ := h2 k f hf
    obtain ⟨l0, g0⟩ := List.getElem?_eq_some_iff.1 e0
    obtain ⟨l1, g1⟩ := List.getElem?_eq_some_iff.1 e1
    obtain ⟨l2, g2⟩ := List.getElem?_eq_some_iff.1 e2
    refine ⟨F, c, ?_, ?_, ?_, e3.ext hx⟩
    · rw [hc _ l0, g0]
    · rw [Nat.add_assoc, hc _ l1, g1]
    · rw [Nat.add_assoc, hc _ l2, g2]

theorem take_succ_eq {l : List FileV} {i : Nat} {f : FileV} (h : l[i]? = some f) : l.take (i + 1) = l.take i ++ [f] := by rw [List.take_add_one, h]; rfl

theorem without_small {l : List FileV} (p : ByteArray) (h : Small l) : Small (withoutL p l) := fun f hf => h f (without_mem.1 hf).1
theorem with_small {l : List FileV} {f : FileV} (h : Small l) (hf : f.frags.length * 8 ≤ 140737488355328) : Small (withL f false l) := fun g hg => by
  rcases with_mem.1 hg with rfl | hg
  · exact hf
  · exact h g hg
theorem put_small {l : List FileV} {f : FileV} (h : Small l) (hf : f.frags.length * 8 ≤ 140737488355328) : Small (putL f l) := with_small (without_small _ h) hf
theorem all_small : ∀ {b a : List FileV}, Small a → Small b → Small (allL a b)
  | [], a, h, _ => h
  | g :: b, a, h, hb => all_small (b := b) (put_small h (hb g (List.mem_cons_self ..))) fun f hf => hb f (List.mem_cons_of_mem _ hf)

set_option maxRecDepth 100000 in
set_option maxHeartbeats 2000000 in
theorem paths_any (A B : Option Addr) (ca cb : Nat) (a b : List FileV) (w : World) (ha : a.length ≤ 400) (hb : b.length ≤ 400) (hsa : Small a) (hsb : Small b) (hA : RdL w A a) (hB : RdL w B b) :
    Calls Tryd.prog 41 #[.slice A a.length ca, .slice B b.length cb] w fun e w' => ∃ v, e = .returned v ∧ w'.ownsRow w.heap.size 9 1 v (pathsL a b).length ((pathsL a b).map Value.string) ∧ Ext w w' := by
  have HA := Lib.hid hA; have HB := Lib.hid hB; clear hA hB
  have HSA := Lib.hid hsa; have HSB := Lib.hid hsb; clear hsa hsb
  obtain ⟨i46, hi46, hz46, hz46', hz46''⟩ := info_parts info46
  have HI := Lib.hid hi46; have HZ0 := Lib.hid hz46; have HZ1 := Lib.hid hz46'; have HZ2 := Lib.hid hz46''
  clear hi46 hz46 hz46' hz46''
  obtain ⟨i9, hi9, hz9, hz9', hz9''⟩ := info_parts info9
  have KI := Lib.hid hi9; have KZ0 := Lib.hid hz9; have KZ1 := Lib.hid hz9'; have KZ2 := Lib.hid hz9''
  clear hi9 hz9 hz9' hz9''
  go_enter Tryd.func41, Tryd.ntmps41
  go_wp2_with fail
  go_loopg [5, 6] (a.length + 1) (fun f out i wr => ∃ (i' : Nat) (xs : List Value), i = .int .i64 i' ∧ i' ≤ a.length ∧ a.length + 1 ≤ i' + f ∧ wr.ownsRow w.heap.size 46 3 out i' xs ∧ Hid (RowAt w xs (a.take i')) ∧ Ext w wr)
  case atStart => exact ⟨0, [], rfl, by omega, by omega, World.ownsRow_nil _ _ _ _, RowAt.nil _, Ext.refl _⟩
  case round =>
    obtain ⟨i', xs, rfl, h2, h3, hro, HK, hx⟩ := hrel
    by_cases hlt : i' < a.length
    · obtain ⟨f, hf⟩ : ∃ x, a[i']? = some x := ⟨_, List.getElem?_eq_getElem hlt⟩
      obtain ⟨g, o, F, k, rfl, hr1, hr2, hr3, hr4⟩ := HA.out.at_ hf
      replace hr1 := hx.cell hr1
      replace hr2 := hx.cell hr2
      replace hr3 := hx.cell hr3
      have HN : Hid (RowAt w (xs ++ [.string f.path, .int .i64 f.len, .slice F f.frags.length k]) (a.take (i' + 1))) := by rw [Hid, take_succ_eq hf]; exact HK.out.snoc hr4
      have hsz := hx.size
      clear hf hr4
      go_wp2_with (at_builtin; refine wpList_append1 rfl (.tmp 16) (.tmp 21) 22 rfl w.heap.size 46 i46 _ 3 48 Tryd.underlying22 HI.out HZ0.out HZ1.out HZ2.out rfl (by decide) (by decide) u5 _ xs rfl hro [.string f.path, .int .i64 f.len, .slice F f.frags.length k] rfl rfl (by simp [Value.oneCell']) (by omega) hsz ?_; intro v' w2 hown' hbel _ hgr; clear hro hgr)
      go_roundg (gk - 1)
      case measure => omega
      case rel => exact ⟨i' + 1, _, by go_num, by omega, by omega, hown', HN.out, Below.trans hx hbel⟩
    · obtain rfl : i' = a.length := by omega
      obtain ⟨A1, c1, rfl, hle1, hmx1, hrd1⟩ := own_rd hro
      have HR : Hid (RdL wr A1 a) := by have := RowAt.rd hrd1 HK.out hx; rwa [List.take_length] at this
      clear hro hrd1 HK hlt
      go_wp2_with fail
      go_loopg [5, 7] (b.length + 1) (fun f out i wr2 => ∃ (i' : Nat) (A' : Option Addr) (c' : Nat), i = .int .i64 i' ∧ i' ≤ b.length ∧ b.length + 1 ≤ i' + f ∧ out = .slice A' (allL a (b.take i')).length c' ∧ Hid (RdL wr2 A' (allL a (b.take i'))) ∧ Ext w wr2)
      case atStart => exact ⟨0, A1, c1, rfl, by omega, by omega, rfl, HR.out, hx⟩
      case round =>
        clear hx HR
        obtain ⟨i', A', c', rfl, h2, h3, rfl, HM, hx⟩ := hrel
        by_cases hlt : i' < b.length
        · obtain ⟨g, hg⟩ : ∃ x, b[i']? = some x := ⟨_, List.getElem?_eq_getElem hlt⟩
          have HT := Lib.hid (all_take (a := a) hg)
          obtain ⟨gb, o, F, k, rfl, hr1, hr2, hr3, hr4⟩ := HB.out.at_ hg
          have hgs := HSB.out g (List.mem_of_getElem? hg)
          have hml : (allL a (b.take i')).length ≤ 800 := by
            have h1 := all_len (b.take i') a
            have h2 := List.length_take_le i' b
            omega
          have HMS := Lib.hid (all_small (a := a) (b := b.take i') HSA.out fun f hf => HSB.out f (List.mem_of_mem_take hf))
          generalize allL a (b.take i') = m at *
          clear hg
          have hxd : Ext wr wr.drew := (Below.refl _ _).drew
          have cA : wr.drew.cell? ⟨gb, o + i' * 3, none⟩ = some (.string g.path) := (hx.trans hxd).cell hr1
          have cB : wr.drew.cell? ⟨gb, o + i' * 3 + 1, none⟩ = some (.int .i64 g.len) := (hx.trans hxd).cell hr2
          have cC : wr.drew.cell? ⟨gb, o + i' * 3 + 2, none⟩ = some (.slice F g.frags.length k) := (hx.trans hxd).cell hr3
          have HF := Lib.hid (hr4.ext (hx.trans hxd))
          clear hr1 hr2 hr3 hr4
          go_wp2_with fail
          refine wp_region_T (fun W' => Ext wr.drew W') [] (by kernel_rfl) ?_
          have hS : Ext wr.drew wr.drew := Ext.refl _
          refine takeT 0 ?v0_1 rfl (by kernel_rfl) (fun _ _ _ h => h) rfl hS ?hy0_1 ?hk0_1
          case hy0_1 =>
            rintro w' he 
            have s1 := he.cell cA
            have s2 := he.cell cB
            have s3 := he.cell cC
            go_simp
            first | done | with_reducible rfl
          try simp only [Act.put, List.setIfInBounds_toArray, List.set_cons_zero, List.set_cons_succ]
          refine takeT 1 ?v1_2 rfl (by kernel_rfl) (fun _ _ _ h => h) rfl hS ?hy1_2 ?hk1_2
          case hy1_2 =>
            rintro w' he 
            have s1 := he.cell cA
            have s2 := he.cell cB
            have s3 := he.cell cC
            go_simp
            first | done | with_reducible rfl
          try simp only [Act.put, List.setIfInBounds_toArray, List.set_cons_zero, List.set_cons_succ]
          refine takeT 2 ?v2_3 rfl (by kernel_rfl) (fun _ _ _ h => h) rfl hS ?hy2_3 ?hk2_3
          case hy2_3 =>
            rintro w' he 
            have s1 := he.cell cA
            have s2 := he.cell cB
            have s3 := he.cell cC
            go_simp
            first | done | with_reducible rfl
          try simp only [Act.put, List.setIfInBounds_toArray, List.set_cons_zero, List.set_cons_succ]
          refine takeT 3 ?v3_4 rfl (by kernel_rfl) (fun _ _ _ h => h) rfl hS ?hy3_4 ?hk3_4
          case hy3_4 =>
            rintro w' he 
            have s1 := he.cell cA
            have s2 := he.cell cB
            have s3 := he.cell cC
            go_simp
            first | done | with_reducible rfl
          try simp only [Act.put, List.setIfInBounds_toArray, List.set_cons_zero, List.set_cons_succ]
          refine takeT 4 ?v4_5 rfl (by kernel_rfl) (fun _ _ _ h => h) rfl hS ?hy4_5 ?hk4_5
          case hy4_5 =>
            rintro w' he 
            have s1 := he.cell cA
            have s2 := he.cell cB
            have s3 := he.cell cC
            go_simp
            first | done | with_reducible rfl
          try simp only [Act.put, List.setIfInBounds_toArray, List.set_cons_zero, List.set_cons_succ]
          refine takeT 5 ?v5_6 rfl (by kernel_rfl) (fun _ _ _ h => h) rfl hS ?hy5_6 ?hk5_6
          case hy5_6 =>
            rintro w' he 
            have s1 := he.cell cA
            have s2 := he.cell cB
            have s3 := he.cell cC
            go_simp
            first | done | with_reducible rfl
          try simp only [Act.put, List.setIfInBounds_toArray, List.set_cons_zero, List.set_cons_succ]
          refine takeT 7 ?v7_7 rfl (by kernel_rfl) (fun _ _ _ h => h) rfl hS ?hy7_7 ?hk7_7
          case hy7_7 =>
            rintro w' he 
            have s1 := he.cell cA
            have s2 := he.cell cB
            have s3 := he.cell cC
            go_simp
            first | done | with_reducible rfl
          try simp only [Act.put, List.setIfInBounds_toArray, List.set_cons_zero, List.set_cons_succ]
          refine takeT 8 ?v8_8 rfl (by kernel_rfl) (fun _ _ _ h => h) rfl hS ?hy8_8 ?hk8_8
          case hy8_8 =>
            rintro w' he 
            have s1 := he.cell cA
            have s2 := he.cell cB
            have s3 := he.cell cC
            go_simp
            first | done | with_reducible rfl
          try simp only [Act.put, List.setIfInBounds_toArray, List.set_cons_zero, List.set_cons_succ]
          refine takeT 9 ?v9_9 rfl (by kernel_rfl) (fun _ _ _ h => h) rfl hS ?hy9_9 ?hk9_9
          case hy9_9 =>
            rintro w' he 
            have s1 := he.cell cA
            have s2 := he.cell cB
            have s3 := he.cell cC
            go_simp
            first | done | with_reducible rfl
          try simp only [Act.put, List.setIfInBounds_toArray, List.set_cons_zero, List.set_cons_succ]
          refine takeT 10 ?v10_10 rfl (by kernel_rfl) (fun _ _ _ h => h) rfl hS ?hy10_10 ?hk10_10
          case hy10_10 =>
            rintro w' he 
            have s1 := he.cell cA
            have s2 := he.cell cB
            have s3 := he.cell cC
            go_simp
            first | done | with_reducible rfl
          try simp only [Act.put, List.setIfInBounds_toArray, List.set_cons_zero, List.set_cons_succ]
          refine oneT 6 rfl (by kernel_rfl) rfl fun K hK => ?_
          go_simp
          refine (without_any A' c' m g.path wr.drew (by omega) HMS.out (HM.out.ext hxd)).mono ?_
          rintro e w3 ⟨v3, rfl, ho3, hx3⟩
          obtain ⟨A3, c3, rfl, hr3⟩ := ho3.rd
          refine hK _ _ (fun _ => hx3) ?_
          clear hK K ho3
          try simp only [Act.put, List.setIfInBounds_toArray, List.set_cons_zero, List.set_cons_succ]
          have hwl := without_len g.path m
          refine oneT 11 rfl (by kernel_rfl) rfl fun K hK => ?_
          go_simp
          refine (with_any A3 c3 (withoutL g.path m) _ g w3 (by omega) (without_small _ HMS.out) hgs hr3 ⟨_, _, rfl, HF.out.ext hx3⟩).mono ?_
          rintro e w4 ⟨v4, rfl, ho4, hx4⟩
          obtain ⟨A4, c4, rfl, hr4⟩ := ho4.rd
          refine hK _ _ (fun _ => hx3.trans hx4) ?_
          clear hK K ho4 hr3
          try simp only [Act.put, List.setIfInBounds_toArray, List.set_cons_zero, List.set_cons_succ]
          refine takeT 12 ?v12 rfl (by kernel_rfl) (fun _ _ _ h => h) rfl (hx3.trans hx4) ?hy12 ?hk12
          case hy12 =>
            rintro w' he
            go_simp
            first | done | with_reducible rfl
          try simp only [Act.put, List.setIfInBounds_toArray, List.set_cons_zero, List.set_cons_succ]
          refine doneT (by kernel_rfl) ?_ _
          have HN : Hid (RdL w4 A4 (allL a (b.take (i' + 1)))) := by rw [Hid, HT.out]; exact hr4
          have HL : Hid ((allL a (b.take (i' + 1))).length = (withL g false (withoutL g.path m)).length) := by rw [Hid, HT.out]; rfl
          clear hr4 cA cB cC hS
          rw [← HL.out]
          go_wp2_with fail
          go_roundg (gk - 1)
          case measure => omega
          case rel => exact ⟨i' + 1, A4, c4, by go_num, by omega, by omega, rfl, HN.out, hx.trans (hxd.trans (hx3.trans hx4))⟩
        · obtain rfl : i' = b.length := by omega
          have HR : Hid (RdL wr A' (allL a b)) := by have := HM.out; rwa [List.take_length] at this
          have hml : (allL a b).length ≤ 800 := by
            have h1 := all_len b a
            omega
          rw [List.take_length]
          clear HM hlt
          have HPL : Hid (pathsL a b = (allL a b).map FileV.path) := rfl
          generalize allL a b = m at *
          go_wp2_with fail
          obtain ⟨W0, hW0⟩ : ∃ W0, W0 = wr := ⟨_, rfl⟩
          rw [← hW0]
          rw [← hW0] at hx HR
          clear hW0
          go_loopg [8, 9] (m.length + 1) (fun f out i wr2 => ∃ (i' : Nat), i = .int .i64 i' ∧ i' ≤ m.length ∧ m.length + 1 ≤ i' + f ∧ wr2.ownsRow W0.heap.size 9 1 out i' ((m.take i').map fun f => Value.string f.path) ∧ Ext W0 wr2)
          case atStart => exact ⟨0, rfl, by omega, by omega, World.ownsRow_nil _ _ _ _, Ext.refl _⟩
          case round =>
            obtain ⟨i', rfl, h2, h3, hro, hx2⟩ := hrel
            by_cases hlt : i' < m.length
            · obtain ⟨f, hf⟩ : ∃ x, m[i']? = some x := ⟨_, List.getElem?_eq_getElem hlt⟩
              obtain ⟨g, o, F, k, rfl, hr1, hr2, hr3, hr4⟩ := (HR.out.ext hx2).at_ hf
              have HN : Hid ((m.take (i' + 1)).map (fun f => Value.string f.path) = (m.take i').map (fun f => Value.string f.path) ++ [.string f.path]) := by rw [Hid, take_succ_eq hf, List.map_append]; rfl
              have hsz := hx2.size
              clear hf hr4
              go_wp2_with (at_builtin; refine wpList_append1 rfl (.tmp 47) (.tmp 53) 25 rfl W0.heap.size 9 i9 _ 1 16 Tryd.underlying25 KI.out KZ0.out KZ1.out KZ2.out rfl (by decide) (by decide) u8 _ _ rfl hro [.string f.path] rfl rfl (by simp [Value.oneCell']) (by omega) hsz ?_; intro v' w2 hown' hbel _ hgr; clear hro hgr)
              go_roundg (gk - 1)
              case measure => omega
              case rel => exact ⟨i' + 1, by go_num, by omega, by omega, by rw [HN.out]; exact hown', Below.trans hx2 hbel⟩
            · obtain rfl : i' = m.length := by omega
              rw [List.take_length] at hro
              have HO := Lib.hid hro
              clear hro
              go_wp2_with fail
              go_ret
              refine ⟨_, rfl, ?_, hx.trans hx2⟩
              rw [HPL.out, List.length_map, List.map_map]
              exact own_base HO.out hx.size
end Go.Proofs.YtcjokhhcncimdaaDoor
