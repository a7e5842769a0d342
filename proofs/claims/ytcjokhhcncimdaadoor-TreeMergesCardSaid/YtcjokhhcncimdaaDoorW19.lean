/- The walk of the reference's Merge. -/
import Derived.Test.YtcjokhhcncimdaaDoorW18
import Derived.Test.YtcjokhhcncimdaaDoorS5
set_option linter.unusedVariables false
set_option linter.unusedSimpArgs false
namespace Go.Proofs.YtcjokhhcncimdaaDoor
open Go.RowKit Go.PF Go.Tr

/-- The files and the conflicts so far, in rows of their own behind W0. -/
structure RMid (W0 : World) (vo vd : Value) (fs : List FileV) (ps : List ByteArray) (W : World) : Prop where
  ext : Ext W0 W
  out : OwnL W0.heap.size W vo fs
  conf : W.ownsRow W0.heap.size 9 1 vd ps.length (ps.map Value.string)
variable {W0 W W' : World} {vo vd : Value} {fs : List FileV} {ps : List ByteArray}
theorem RMid.go (h : RMid W0 vo vd fs ps W) (hx : Ext W W') : RMid W0 vo vd fs ps W' := ⟨h.ext.trans hx, h.out.ext hx, (KeepT.of_ext hx).own h.conf⟩
theorem RMid.set {g : Nat} {cs : Array Value} {x : Nat × Nat} (h : RMid W0 vo vd fs ps W) (hg : W.heap[g]? = some (.cells cs 79 x)) (hn : W0.heap.size ≤ g) (j : Nat) (v : Value) : RMid W0 vo vd fs ps (W.setCell ⟨g, j, none⟩ v) := by
  obtain ⟨h1, ⟨xs, h2, h3⟩, h4⟩ := h
  exact ⟨ext_set h1 hn v, ⟨xs, (KeepT.set (e := 46) hg (by decide) j v).own h2, h3.keep3 (KeepT.set (e := 3) hg (by decide) j v)⟩, (KeepT.set (e := 9) hg (by decide) j v).own h4⟩
theorem RMid.addConf {w1 : World} {v' : Value} {p : ByteArray} (h : RMid W0 vo vd fs ps W)
    (hown : w1.ownsRow W0.heap.size 9 1 v' (ps.length + 1) (ps.map Value.string ++ [.string p])) (hbel : Below W0.heap.size W w1) (hg : (W.alloc (.cells [Value.string p].toArray 9)).grownBy w1 vd.ownBlock) :
    RMid W0 vo v' fs (ps ++ [p]) w1 := by
  obtain ⟨h1, ⟨xs, h2, h3⟩, h4⟩ := h
  have hx := ext_alloc1 W (.cells [Value.string p].toArray 9)
  have ka : ∀ e : TypeId, 9 ≠ e → KeepT e W w1 := fun e he => (KeepT.of_ext hx).trans (KeepT.append ((KeepT.of_ext hx).own h4) hg he)
  exact ⟨Below.trans h1 hbel, ⟨xs, (ka 46 (by decide)).own h2, h3.keep3 (ka 3 (by decide))⟩, by rw [List.length_append, List.map_append]; exact hown⟩
theorem RMid.addOut {w1 : World} {v' : Value} {xs : List Value} {f : FileV} {F : Option Addr} {c : Nat} (h : RMid W0 vo vd fs ps W) (hrow : W.ownsRow W0.heap.size 46 3 vo fs.length xs) (hok : OutOk W0.heap.size W xs fs) (hF : FrOwn W0.heap.size W F c f.frags)
    (hown : w1.ownsRow W0.heap.size 46 3 v' (fs.length + 1) (xs ++ [.string f.path, .int .i64 f.len, .slice F f.frags.length c])) (hbel : Below W0.heap.size W w1) (hg : (W.alloc (.cells [.string f.path, .int .i64 f.len, .slice F f.frags.length c].toArray 46)).grownBy w1 vo.ownBlock) :
    RMid W0 v' vd (fs ++ [f]) ps w1 := by
  obtain ⟨h1, h2, h4⟩ := h
  have hx := ext_alloc1 W (.cells [.string f.path, .int .i64 f.len, .slice F f.frags.length c].toArray 46)
  have ka : ∀ e : TypeId, 46 ≠ e → KeepT e W w1 := fun e he => (KeepT.of_ext hx).trans (KeepT.append ((KeepT.of_ext hx).own hrow) hg he)
  exact ⟨Below.trans h1 hbel, OwnL.snoc hrow hok hF hown hg, (ka 9 (by decide)).own h4⟩

theorem setL_mono {L : Nat → Bool} {i j : Nat} (h : L j = true) : setL L i j = true := by unfold setL; split; rfl; exact h
theorem takeP_succ {l : List ByteArray} {i : Nat} {p : ByteArray} (h : l[i]? = some p) : l.take (i + 1) = l.take i ++ [p] := by rw [List.take_add_one, h]; rfl

set_option maxRecDepth 100000 in
set_option maxHeartbeats 4000000 in
theorem rmerge_any (A B C : Option Addr) (ca cb cc : Nat) (base a b : List FileV) (w : World) (h1 : base.length ≤ 400) (h2 : a.length ≤ 400) (h3 : b.length ≤ 400)
    (hs1 : Short base) (hs2 : Short a) (hs3 : Short b) (hl1 : Small base) (hl2 : Small a) (hl3 : Small b) (hA : RdL w A base) (hB : RdL w B a) (hC : RdL w C b) :
    Calls Tryd.prog 14 #[.slice A base.length ca, .slice B a.length cb, .slice C b.length cc] w fun e w' => ∃ Ao co Ac cc, e = .returned (.tuple #[.slice Ao (mergeE base a b).1.length co, .slice Ac (mergeE base a b).2.1.length cc, .int .i64 (mergeE base a b).2.2]) ∧
      RdL w' Ao (mergeE base a b).1 ∧ RdS w' Ac (mergeE base a b).2.1 ∧ Ext w w' := by
  have HA := Lib.hid hA; have HB := Lib.hid hB; have HC := Lib.hid hC; clear hA hB hC
  have HS1 := Lib.hid hs1; have HS2 := Lib.hid hs2; have HS3 := Lib.hid hs3; clear hs1 hs2 hs3
  have HL1 := Lib.hid hl1; have HL2 := Lib.hid hl2; have HL3 := Lib.hid hl3; clear hl1 hl2 hl3
  obtain ⟨i46, hi46, hz46, hz46', hz46''⟩ := info_parts info46
  have HI := Lib.hid hi46; have HZ0 := Lib.hid hz46; have HZ1 := Lib.hid hz46'; have HZ2 := Lib.hid hz46''
  clear hi46 hz46 hz46' hz46''
  obtain ⟨i9, hi9, hz9, hz9', hz9''⟩ := info_parts info9
  have KI := Lib.hid hi9; have KZ0 := Lib.hid hz9; have KZ1 := Lib.hid hz9'; have KZ2 := Lib.hid hz9''
  clear hi9 hz9 hz9' hz9''
  go_enter Tryd.func14, Tryd.ntmps14
  go_wp2_with fail
  refine (rcheck_any A ca base w (by omega) HS1.out HA.out).mono ?_
  rintro e w1 ⟨rfl, hx1⟩
  by_cases hc1 : checkE base = 0
  · rw [hc1]
    have HC1 := Lib.hid hc1; clear hc1
    go_wp2_with fail
    refine (rcheck_any B cb a w1 (by omega) HS2.out (HB.out.ext hx1)).mono ?_
    rintro e w2 ⟨rfl, hx2⟩
    replace hx2 := hx1.trans hx2
    clear hx1
    by_cases hc2 : checkE a = 0
    · rw [hc2]
      have HC2 := Lib.hid hc2; clear hc2
      go_wp2_with fail
      refine (rcheck_any C cc b w2 (by omega) HS3.out (HC.out.ext hx2)).mono ?_
      rintro e w3 ⟨rfl, hx3⟩
      replace hx3 := hx2.trans hx3
      clear hx2
      by_cases hc3 : checkE b = 0
      · rw [hc3]
        have HC3 := Lib.hid hc3; clear hc3
        have HK : Hid (mergeE base a b = if checkE (outL base a b (bothL a b)) = 0 then (outL base a b (bothL a b), confL base a b (bothL a b), 0) else ([], [], checkE (outL base a b (bothL a b)))) := by
          unfold mergeE; rw [Hid, if_pos (by simp [checks, HC1.out, HC2.out, HC3.out])]
        go_wp2_with fail
        refine (paths_any B C cb cc a b w3 h2 h3 HL2.out HL3.out (HB.out.ext hx3) (HC.out.ext hx3)).mono ?_
        rw [paths_eq (check_srt HC2.out) (check_srt HC3.out)]
        rintro e w4 ⟨vp, rfl, hop, hx4⟩
        obtain ⟨Ap, cp, rfl, -, -, hrp⟩ := own_rd hop
        have HRP : Hid (Rd w4 Ap ((bothL a b).map Value.string)) := hrp
        replace hx4 := hx3.trans hx4
        have hpl : (bothL a b).length ≤ 1000 := by
          have := bothN_len (a.length + b.length) a b
          unfold bothL; omega
        clear hop hrp hx3
        generalize bothL a b = ps at *
        go_wp2_with fail
        go_loopg [12, 13, 15] (ps.length + 1) (fun f out cf i wr => ∃ (i' : Nat), i = .int .i64 i' ∧ i' ≤ ps.length ∧ ps.length + 1 ≤ i' + f ∧ Hid (RMid w4 out cf (outL base a b (ps.take i')) (confL base a b (ps.take i')) wr))
        case atStart => exact ⟨0, rfl, by omega, by omega, ⟨Ext.refl _, OwnL.nil _ _, World.ownsRow_nil _ _ _ _⟩⟩
        case round =>
          obtain ⟨i', rfl, e2, e3, HM0⟩ := hrel
          by_cases hlt : i' < ps.length
          · obtain ⟨x, hp⟩ : ∃ x, ps[i']? = some x := ⟨_, List.getElem?_eq_getElem hlt⟩
            obtain ⟨gp, op, rfl, hcp⟩ := Rd.at_ (HRP.out) (k := i') (by simpa using hlt)
            have cP : w4.cell? ⟨gp, op + i', none⟩ = some (.string x) := by
              rw [hcp i' (by simpa using hlt)]
              rw [List.getElem?_eq_getElem hlt] at hp
              simp only [Option.some.injEq] at hp
              simp [hp]
            have HTK := Lib.hid (takeP_succ hp)
            have hol := outL_len base a b (ps.take i')
            have hcl := confL_len base a b (ps.take i')
            have htl := List.length_take_le i' ps
            clear hcp hp
            have hxd : Ext wr wr.drew := (Below.refl _ _).drew
            have hxr := HM0.out.ext
            have cP' : wr.drew.cell? ⟨gp, op + i', none⟩ = some (.string x) := (hxr.trans hxd).cell cP
            have cP0 := Lib.hid cP
            clear cP
            have HA2 := Lib.hid (HA.out.ext ((hx4.trans hxr).trans hxd))
            have HB2 := Lib.hid (HB.out.ext ((hx4.trans hxr).trans hxd))
            have HC2x := Lib.hid (HC.out.ext ((hx4.trans hxr).trans hxd))
            go_wp2_with fail
            refine wp_region_T (fun W' => Ext wr.drew W') [] (by kernel_rfl) ?_
            have hS : Ext wr.drew wr.drew := Ext.refl _
            refine takeT 0 ?v0_1 rfl (by kernel_rfl) (fun _ _ _ h => h) rfl hS ?hy0_1 ?hk0_1
            case hy0_1 =>
              rintro w' he 
              have s1 := he.cell cP'
              go_simp
              first | done | with_reducible rfl
            try simp only [Act.put, List.setIfInBounds_toArray, List.set_cons_zero, List.set_cons_succ]
            refine takeT 1 ?v1_2 rfl (by kernel_rfl) (fun _ _ _ h => h) rfl hS ?hy1_2 ?hk1_2
            case hy1_2 =>
              rintro w' he 
              have s1 := he.cell cP'
              go_simp
              first | done | with_reducible rfl
            try simp only [Act.put, List.setIfInBounds_toArray, List.set_cons_zero, List.set_cons_succ]
            refine takeT 2 ?v2_3 rfl (by kernel_rfl) (fun _ _ _ h => h) rfl hS ?hy2_3 ?hk2_3
            case hy2_3 =>
              rintro w' he 
              have s1 := he.cell cP'
              go_simp
              first | done | with_reducible rfl
            try simp only [Act.put, List.setIfInBounds_toArray, List.set_cons_zero, List.set_cons_succ]
            refine takeT 3 ?v3_4 rfl (by kernel_rfl) (fun _ _ _ h => h) rfl hS ?hy3_4 ?hk3_4
            case hy3_4 =>
              rintro w' he 
              have s1 := he.cell cP'
              go_simp
              first | done | with_reducible rfl
            try simp only [Act.put, List.setIfInBounds_toArray, List.set_cons_zero, List.set_cons_succ]
            refine takeT 4 ?v4_5 rfl (by kernel_rfl) (fun _ _ _ h => h) rfl hS ?hy4_5 ?hk4_5
            case hy4_5 =>
              rintro w' he 
              have s1 := he.cell cP'
              go_simp
              first | done | with_reducible rfl
            try simp only [Act.put, List.setIfInBounds_toArray, List.set_cons_zero, List.set_cons_succ]
            refine takeT 6 ?v6_6 rfl (by kernel_rfl) (fun _ _ _ h => h) rfl hS ?hy6_6 ?hk6_6
            case hy6_6 =>
              rintro w' he 
              have s1 := he.cell cP'
              go_simp
              first | done | with_reducible rfl
            try simp only [Act.put, List.setIfInBounds_toArray, List.set_cons_zero, List.set_cons_succ]
            refine takeT 7 ?v7_7 rfl (by kernel_rfl) (fun _ _ _ h => h) rfl hS ?hy7_7 ?hk7_7
            case hy7_7 =>
              rintro w' he 
              have s1 := he.cell cP'
              go_simp
              first | done | with_reducible rfl
            try simp only [Act.put, List.setIfInBounds_toArray, List.set_cons_zero, List.set_cons_succ]
            refine takeT 8 ?v8_8 rfl (by kernel_rfl) (fun _ _ _ h => h) rfl hS ?hy8_8 ?hk8_8
            case hy8_8 =>
              rintro w' he 
              have s1 := he.cell cP'
              go_simp
              first | done | with_reducible rfl
            try simp only [Act.put, List.setIfInBounds_toArray, List.set_cons_zero, List.set_cons_succ]
            refine takeT 9 ?v9_9 rfl (by kernel_rfl) (fun _ _ _ h => h) rfl hS ?hy9_9 ?hk9_9
            case hy9_9 =>
              rintro w' he 
              have s1 := he.cell cP'
              go_simp
              first | done | with_reducible rfl
            try simp only [Act.put, List.setIfInBounds_toArray, List.set_cons_zero, List.set_cons_succ]
            refine takeT 10 ?v10_10 rfl (by kernel_rfl) (fun _ _ _ h => h) rfl hS ?hy10_10 ?hk10_10
            case hy10_10 =>
              rintro w' he 
              have s1 := he.cell cP'
              go_simp
              first | done | with_reducible rfl
            try simp only [Act.put, List.setIfInBounds_toArray, List.set_cons_zero, List.set_cons_succ]
            refine takeT 12 ?v12_11 rfl (by kernel_rfl) (fun _ _ _ h => h) rfl hS ?hy12_11 ?hk12_11
            case hy12_11 =>
              rintro w' he 
              have s1 := he.cell cP'
              go_simp
              first | done | with_reducible rfl
            try simp only [Act.put, List.setIfInBounds_toArray, List.set_cons_zero, List.set_cons_succ]
            refine takeT 13 ?v13_12 rfl (by kernel_rfl) (fun _ _ _ h => h) rfl hS ?hy13_12 ?hk13_12
            case hy13_12 =>
              rintro w' he 
              have s1 := he.cell cP'
              go_simp
              first | done | with_reducible rfl
            try simp only [Act.put, List.setIfInBounds_toArray, List.set_cons_zero, List.set_cons_succ]
            refine takeT 14 ?v14_13 rfl (by kernel_rfl) (fun _ _ _ h => h) rfl hS ?hy14_13 ?hk14_13
            case hy14_13 =>
              rintro w' he 
              have s1 := he.cell cP'
              go_simp
              first | done | with_reducible rfl
            try simp only [Act.put, List.setIfInBounds_toArray, List.set_cons_zero, List.set_cons_succ]
            refine takeT 15 ?v15_14 rfl (by kernel_rfl) (fun _ _ _ h => h) rfl hS ?hy15_14 ?hk15_14
            case hy15_14 =>
              rintro w' he 
              have s1 := he.cell cP'
              go_simp
              first | done | with_reducible rfl
            try simp only [Act.put, List.setIfInBounds_toArray, List.set_cons_zero, List.set_cons_succ]
            refine takeT 16 ?v16_15 rfl (by kernel_rfl) (fun _ _ _ h => h) rfl hS ?hy16_15 ?hk16_15
            case hy16_15 =>
              rintro w' he 
              have s1 := he.cell cP'
              go_simp
              first | done | with_reducible rfl
            try simp only [Act.put, List.setIfInBounds_toArray, List.set_cons_zero, List.set_cons_succ]
            have hlanes : Lanes 3 (fun k => 5 + 6 * k) (fun k => 18 + k) (fun k => 21 + k) := ⟨by intros; omega, by intros; omega, by intros; omega, by intros; omega, by intros; omega, by intros; omega⟩
            refine wpAnyT_inv (fun L aa W' => ∃ (pp q : Nat → Value) (B8 : Nat → Nat), aa = { tmps := #[Value.slice A base.length ca, Value.slice B a.length cb, Value.slice C b.length cc, undef, undef, undef, Value.slice none 0 0, Value.slice none 0 0, Value.int IntKind.i64 0, Value.int IntKind.i64 0, Value.int IntKind.i64 0, Value.int IntKind.i64 0, u12, u13, Value.slice (some ⟨gp, op, none⟩) ps.length cp, Value.int IntKind.i64 (i' : Int), pp 0, pp 1, pp 2, u19, undef, Value.slice A base.length ca, Value.int IntKind.i64 0, Value.int IntKind.i64 0, Value.bool false, undef, Value.slice B a.length cb, Value.int IntKind.i64 0, Value.int IntKind.i64 0, Value.bool false, undef, Value.slice C b.length cc, Value.int IntKind.i64 0, Value.int IntKind.i64 0, Value.bool false, undef, Value.slice B a.length cb, Value.slice C b.length cc, Value.slice (some ⟨gp, op, none⟩) ps.length cp, Value.int IntKind.i64 (i' : Int), Value.slice (some ⟨gp, op, none⟩) ps.length cp, Value.int IntKind.i64 (ps.length : Int), Value.bool true, u43, u44, Value.slice A base.length ca, Value.slice (some ⟨gp, op, none⟩) ps.length cp, Value.int IntKind.i64 (i' : Int), Value.pointer (some ⟨gp, op + i', none⟩), Value.string x, q 0, Value.slice B a.length cb, Value.slice (some ⟨gp, op, none⟩) ps.length cp, Value.int IntKind.i64 (i' : Int), Value.pointer (some ⟨gp, op + i', none⟩), Value.string x, q 1, Value.slice C b.length cc, Value.slice (some ⟨gp, op, none⟩) ps.length cp, Value.int IntKind.i64 (i' : Int), Value.pointer (some ⟨gp, op + i', none⟩), Value.string x, q 2, u63, u64, u65, u66, u67, u68, u69, u70, u71, u72, u73, u74, u75, u76, u77, u78, u79, u80, u81, u82, u83, u84, u85, u86, u87, u88, u89, u90, u91, u92, u93, u94, u95, u96, u97, u98, u99, u100, u101, undef, undef, undef, undef, undef, undef, undef], defers := [] } ∧
              St9 3 (fun k => 5 + 6 * k) (fun k => 18 + k) (fun k => 21 + k) wr.drew w4.heap.size (fun k => match k with | 0 => lookE base x | 1 => lookE a x | _ => lookE b x) L pp q B8 W' ∧ (∀ j, j ∈ [0, 1, 2, 3, 4, 6, 7, 8, 9, 10, 12, 13, 14, 15, 16] → L j = true))
              (by kernel_rfl) ?hS ?hstep ?hend _ _ _ _ (by rfl) (by decide) ?h0
            case hS => rintro L aa W' ⟨pp, q, B8, rfl, hst, hL⟩; exact hst.ext
            case h0 =>
              refine ⟨fun k => match k with | 0 => u16 | 1 => u17 | _ => u18, fun k => match k with | 0 => u50 | 1 => u56 | _ => u62, fun _ => 0, rfl, ⟨Ext.refl _, ?_, ?_, ?_, ?_⟩, by decide⟩
              · intro k hk h; match k, hk with | 0, _ => cases h | 1, _ => cases h | 2, _ => cases h
              · intro k hk h; match k, hk with | 0, _ => cases h | 1, _ => cases h | 2, _ => cases h
              · intro k hk h; match k, hk with | 0, _ => cases h | 1, _ => cases h | 2, _ => cases h
              · intro k j hk hj hkj h; match k, hk with | 0, _ => cases h | 1, _ => cases h | 2, _ => cases h
            case hstep =>
              rintro L aa W' ⟨pp, q, B8, rfl, hst, hL⟩ i oi hoi hLi hw K hK
              have hL' : ∀ j, j ∈ [0, 1, 2, 3, 4, 6, 7, 8, 9, 10, 12, 13, 14, 15, 16] → setL L i j = true := fun j hj => setL_mono (hL j hj)
              match i, hoi, hLi, hw, hL' with
              | 0, hoi, hLi, hw, hL' => rw [hL 0 (by decide)] at hLi; cases hLi
              | 1, hoi, hLi, hw, hL' => rw [hL 1 (by decide)] at hLi; cases hLi
              | 2, hoi, hLi, hw, hL' => rw [hL 2 (by decide)] at hLi; cases hLi
              | 3, hoi, hLi, hw, hL' => rw [hL 3 (by decide)] at hLi; cases hLi
              | 4, hoi, hLi, hw, hL' => rw [hL 4 (by decide)] at hLi; cases hLi
              | 5, hoi, hLi, hw, hL' =>
                change some _ = some oi at hoi
                cases hoi
                go_simp
                refine (rlook_any A ca base x W' (by omega) HL1.out (HA2.out.ext hst.ext)).mono ?_
                rw [get_look x (check_srt HC1.out)]
                rintro e w'' ⟨v, rfl, hso, hx''⟩
                exact hK _ _ ⟨pp, upd q 0 v, B8, rfl, hst.call hlanes (k := 0) (by omega) hLi (side_mono hso (by have : wr.heap.size ≤ W'.heap.size := hst.ext.size; have := hxr.size; omega)) hx'', hL'⟩
              | 6, hoi, hLi, hw, hL' => rw [hL 6 (by decide)] at hLi; cases hLi
              | 7, hoi, hLi, hw, hL' => rw [hL 7 (by decide)] at hLi; cases hLi
              | 8, hoi, hLi, hw, hL' => rw [hL 8 (by decide)] at hLi; cases hLi
              | 9, hoi, hLi, hw, hL' => rw [hL 9 (by decide)] at hLi; cases hLi
              | 10, hoi, hLi, hw, hL' => rw [hL 10 (by decide)] at hLi; cases hLi
              | 11, hoi, hLi, hw, hL' =>
                change some _ = some oi at hoi
                cases hoi
                go_simp
                refine (rlook_any B cb a x W' (by omega) HL2.out (HB2.out.ext hst.ext)).mono ?_
                rw [get_look x (check_srt HC2.out)]
                rintro e w'' ⟨v, rfl, hso, hx''⟩
                exact hK _ _ ⟨pp, upd q 1 v, B8, rfl, hst.call hlanes (k := 1) (by omega) hLi (side_mono hso (by have : wr.heap.size ≤ W'.heap.size := hst.ext.size; have := hxr.size; omega)) hx'', hL'⟩
              | 12, hoi, hLi, hw, hL' => rw [hL 12 (by decide)] at hLi; cases hLi
              | 13, hoi, hLi, hw, hL' => rw [hL 13 (by decide)] at hLi; cases hLi
              | 14, hoi, hLi, hw, hL' => rw [hL 14 (by decide)] at hLi; cases hLi
              | 15, hoi, hLi, hw, hL' => rw [hL 15 (by decide)] at hLi; cases hLi
              | 16, hoi, hLi, hw, hL' => rw [hL 16 (by decide)] at hLi; cases hLi
              | 17, hoi, hLi, hw, hL' =>
                change some _ = some oi at hoi
                cases hoi
                go_simp
                refine (rlook_any C cc b x W' (by omega) HL3.out (HC2x.out.ext hst.ext)).mono ?_
                rw [get_look x (check_srt HC3.out)]
                rintro e w'' ⟨v, rfl, hso, hx''⟩
                exact hK _ _ ⟨pp, upd q 2 v, B8, rfl, hst.call hlanes (k := 2) (by omega) hLi (side_mono hso (by have : wr.heap.size ≤ W'.heap.size := hst.ext.size; have := hxr.size; omega)) hx'', hL'⟩
              | 18, hoi, hLi, hw, hL' =>
                change some _ = some oi at hoi
                cases hoi
                go_simp
                exact hK _ _ ⟨upd pp 0 _, q, upd B8 0 _, rfl, hst.alloc hlanes (k := 0) (by omega) hLi _ _ _ _, hL'⟩
              | 19, hoi, hLi, hw, hL' =>
                change some _ = some oi at hoi
                cases hoi
                go_simp
                exact hK _ _ ⟨upd pp 1 _, q, upd B8 1 _, rfl, hst.alloc hlanes (k := 1) (by omega) hLi _ _ _ _, hL'⟩
              | 20, hoi, hLi, hw, hL' =>
                change some _ = some oi at hoi
                cases hoi
                go_simp
                exact hK _ _ ⟨upd pp 2 _, q, upd B8 2 _, rfl, hst.alloc hlanes (k := 2) (by omega) hLi _ _ _ _, hL'⟩
              | 21, hoi, hLi, hw, hL' =>
                change some _ = some oi at hoi
                cases hoi
                have hLa := hw 18 (by kernel_rfl)
                have hLc := hw 5 (by kernel_rfl)
                obtain ⟨hp, -, b0, b1, b2, b3, hbk, -⟩ := hst.ptr 0 (by omega) hLa
                obtain ⟨F, c, hq, -⟩ := hst.side 0 (by omega) hLc
                have hnext := hst.store hlanes (k := 0) (by omega) hLc hLa hq
                have he0 := blk_frozen hbk 0
                have he1 := blk_frozen hbk 1
                have he2 := blk_frozen hbk 2
                have he3 := blk_frozen hbk 3
                have hd0 := cell_blk hbk 0
                have hd1 := cell_blk hbk 1
                have hd2 := cell_blk hbk 2
                have hd3 := cell_blk hbk 3
                simp only [List.getElem?_toArray, List.getElem?_cons_succ, List.getElem?_cons_zero] at hd0 hd1 hd2 hd3
                rw [hp, hq]
                go_simp
                refine hK _ _ ⟨pp, q, B8, ?_, hnext, hL'⟩
                rw [hp, hq]; try rfl
              | 22, hoi, hLi, hw, hL' =>
                change some _ = some oi at hoi
                cases hoi
                have hLa := hw 19 (by kernel_rfl)
                have hLc := hw 11 (by kernel_rfl)
                obtain ⟨hp, -, b0, b1, b2, b3, hbk, -⟩ := hst.ptr 1 (by omega) hLa
                obtain ⟨F, c, hq, -⟩ := hst.side 1 (by omega) hLc
                have hnext := hst.store hlanes (k := 1) (by omega) hLc hLa hq
                have he0 := blk_frozen hbk 0
                have he1 := blk_frozen hbk 1
                have he2 := blk_frozen hbk 2
                have he3 := blk_frozen hbk 3
                have hd0 := cell_blk hbk 0
                have hd1 := cell_blk hbk 1
                have hd2 := cell_blk hbk 2
                have hd3 := cell_blk hbk 3
                simp only [List.getElem?_toArray, List.getElem?_cons_succ, List.getElem?_cons_zero] at hd0 hd1 hd2 hd3
                rw [hp, hq]
                go_simp
                refine hK _ _ ⟨pp, q, B8, ?_, hnext, hL'⟩
                rw [hp, hq]; try rfl
              | 23, hoi, hLi, hw, hL' =>
                change some _ = some oi at hoi
                cases hoi
                have hLa := hw 20 (by kernel_rfl)
                have hLc := hw 17 (by kernel_rfl)
                obtain ⟨hp, -, b0, b1, b2, b3, hbk, -⟩ := hst.ptr 2 (by omega) hLa
                obtain ⟨F, c, hq, -⟩ := hst.side 2 (by omega) hLc
                have hnext := hst.store hlanes (k := 2) (by omega) hLc hLa hq
                have he0 := blk_frozen hbk 0
                have he1 := blk_frozen hbk 1
                have he2 := blk_frozen hbk 2
                have he3 := blk_frozen hbk 3
                have hd0 := cell_blk hbk 0
                have hd1 := cell_blk hbk 1
                have hd2 := cell_blk hbk 2
                have hd3 := cell_blk hbk 3
                simp only [List.getElem?_toArray, List.getElem?_cons_succ, List.getElem?_cons_zero] at hd0 hd1 hd2 hd3
                rw [hp, hq]
                go_simp
                refine hK _ _ ⟨pp, q, B8, ?_, hnext, hL'⟩
                rw [hp, hq]; try rfl
              | n + 24, hoi, hLi, hw, hL' => cases hoi
            case hend =>
              rintro L aa W' ⟨pp, q, B8, rfl, hst, hL⟩ hall
              obtain ⟨hp0, hn0, a00, a01, a02, a03, hb0, hq0⟩ := hst.ptr 0 (by omega) (hall 18 (by decide))
              obtain ⟨hp1, hn1, a10, a11, a12, a13, hb1, hq1⟩ := hst.ptr 1 (by omega) (hall 19 (by decide))
              obtain ⟨hp2, hn2, a20, a21, a22, a23, hb2, hq2⟩ := hst.ptr 2 (by omega) (hall 20 (by decide))
              obtain ⟨F0, c0, hs0, ho0⟩ := hst.side 0 (by omega) (hall 5 (by decide))
              obtain ⟨F1, c1, hs1', ho1⟩ := hst.side 1 (by omega) (hall 11 (by decide))
              obtain ⟨F2, c2, hs2', ho2⟩ := hst.side 2 (by omega) (hall 17 (by decide))
              have e0 := hs0.symm.trans (hq0 (hall 21 (by decide)))
              have e1 := hs1'.symm.trans (hq1 (hall 22 (by decide)))
              have e2 := hs2'.symm.trans (hq2 (hall 23 (by decide)))
              have hxW := hst.ext
              clear hq0 hq1 hq2 hst hall hL hlanes
              rw [hp0, hp1, hp2, hs0, hs1', hs2']
              clear hp0 hp1 hp2 hs0 hs1' hs2' pp q
              cases e0; cases e1; cases e2
              generalize B8 0 = g0 at *
              generalize B8 1 = g1 at *
              generalize B8 2 = g2 at *
              have HT : Hid (takenAt base a b x = takeE (lookE base x) (lookE a x) (lookE b x)) := rfl
              have HN1 : Hid ((lookE a x).there = false → lookE a x = ⟨noFile, false⟩) := look_gone a x
              have HN2 : Hid ((lookE b x).there = false → lookE b x = ⟨noFile, false⟩) := look_gone b x
              generalize lookE base x = X at *
              generalize lookE a x = Y at *
              generalize lookE b x = Z at *
              replace ho0 : FrOwn w4.heap.size W' F0 c0 X.f.frags := ho0
              replace ho1 : FrOwn w4.heap.size W' F1 c1 Y.f.frags := ho1
              replace ho2 : FrOwn w4.heap.size W' F2 c2 Z.f.frags := ho2
              replace hb0 : W'.heap[g0]? = some (.cells #[.string X.f.path, .int .i64 X.f.len, .slice F0 X.f.frags.length c0, .bool X.there] 79 (0, 0)) := hb0
              replace hb1 : W'.heap[g1]? = some (.cells #[.string Y.f.path, .int .i64 Y.f.len, .slice F1 Y.f.frags.length c1, .bool Y.there] 79 (0, 0)) := hb1
              replace hb2 : W'.heap[g2]? = some (.cells #[.string Z.f.path, .int .i64 Z.f.len, .slice F2 Z.f.frags.length c2, .bool Z.there] 79 (0, 0)) := hb2
              replace hxW : Ext wr W' := hxd.trans hxW
              have hM := HM0.out.go hxW
              have cP := (hxr.trans hxW).cell cP0.out
              clear cP' HM0 HA2 HB2 HC2x hS hxd hn0 hn1 hn2
              have hgW : w4.heap.size ≤ W'.heap.size := hM.ext.size
              clear hxr hxW
              have hxA := ext_alloc1 W' (.cells #[.string Y.f.path, .int .i64 Y.f.len, .slice F1 Y.f.frags.length c1, .bool Y.there] 79)
              have hbT := World.alloc_heap_new W' (.cells #[.string Y.f.path, .int .i64 Y.f.len, .slice F1 Y.f.frags.length c1, .bool Y.there] 79)
              have d0 := cell_blk hb1 0
              have d1 := cell_blk hb1 1
              have d2 := cell_blk hb1 2
              have d3 := cell_blk hb1 3
              have f0 := hxA.cell (cell_blk hb1 0)
              have f1 := hxA.cell (cell_blk hb1 1)
              have f2 := hxA.cell (cell_blk hb1 2)
              have f3 := hxA.cell (cell_blk hb1 3)
              have z0 := hxA.cell (cell_blk hb2 0)
              have z1 := hxA.cell (cell_blk hb2 1)
              have z2 := hxA.cell (cell_blk hb2 2)
              have z3 := hxA.cell (cell_blk hb2 3)
              simp only [List.getElem?_toArray, List.getElem?_cons_succ, List.getElem?_cons_zero] at d0 d1 d2 d3 f0 f1 f2 f3 z0 z1 z2 z3
              go_wp2_with fail
              refine (rsame_any _ _ Y Z _ ⟨_, _, rfl, (ho1.ext hxA).1⟩ ⟨_, _, rfl, (ho2.ext hxA).1⟩).mono ?_
              rintro e w5 ⟨rfl, hx5⟩
              clear d0 d1 d2 d3 f0 f1 f2 f3 z0 z1 z2 z3
              replace hbT := hx5.blk hbT
              have hxB := hxA.trans hx5
              generalize hgT0 : W'.heap.size = gT at *
              have hgT : w4.heap.size ≤ gT := hgW
              clear hgT0 hxA hx5
              replace hb0 := hxB.blk hb0
              replace hb1 := hxB.blk hb1
              replace hb2 := hxB.blk hb2
              replace ho0 := ho0.ext hxB
              replace ho1 := ho1.ext hxB
              replace ho2 := ho2.ext hxB
              replace hM := hM.go hxB
              replace cP := hxB.cell cP
              by_cases hYZ : Y = Z
              · have HA1 : Hid (takenAt base a b x = (Y, false)) := by rw [Hid, HT.out]; unfold takeE; rw [if_pos (.inl hYZ)]
                rw [decide_eq_true hYZ]
                have HE := Lib.hid hYZ
                clear hYZ
                have u0 := cell_blk hb1 0
                have u1 := cell_blk hb1 1
                have u2 := cell_blk hb1 2
                have u3 := cell_blk hb1 3
                have v0 := cell_blk hb2 0
                have v1 := cell_blk hb2 1
                have v2 := cell_blk hb2 2
                have v3 := cell_blk hb2 3
                simp only [List.getElem?_toArray, List.getElem?_cons_succ, List.getElem?_cons_zero] at u0 u1 u2 u3 v0 v1 v2 v3
                go_wp2_with fail
                refine (rsame_any _ _ Y Z _ ⟨_, _, rfl, ho1.1⟩ ⟨_, _, rfl, ho2.1⟩).mono ?_
                rintro e w6 ⟨rfl, hx6⟩
                clear u0 u1 u2 u3 v0 v1 v2 v3
                replace hb0 := hx6.blk hb0
                replace hb1 := hx6.blk hb1
                replace hb2 := hx6.blk hb2
                replace hbT := hx6.blk hbT
                replace ho0 := ho0.ext hx6
                replace ho1 := ho1.ext hx6
                replace ho2 := ho2.ext hx6
                replace hM := hM.go hx6
                replace cP := hx6.cell cP
                rw [decide_eq_true HE.out]
                cases hth : Y.there
                · rw [hth] at hbT
                  have d0 := cell_blk hbT 0
                  have d1 := cell_blk hbT 1
                  have d2 := cell_blk hbT 2
                  have d3 := cell_blk hbT 3
                  simp only [List.getElem?_toArray, List.getElem?_cons_succ, List.getElem?_cons_zero] at d0 d1 d2 d3
                  have HM9 := Lib.hid hM
                  go_wp2_with fail
                  go_roundg (gk - 1)
                  case measure => omega
                  case rel => exact ⟨i' + 1, by go_num, by omega, by omega, by rw [Hid, HTK.out, outL_no (by rw [HA1.out]; exact hth), confL_no (by rw [HA1.out])]; exact HM9.out⟩
                · rw [hth] at hbT
                  have d0 := cell_blk hbT 0
                  have d1 := cell_blk hbT 1
                  have d2 := cell_blk hbT 2
                  have d3 := cell_blk hbT 3
                  simp only [List.getElem?_toArray, List.getElem?_cons_succ, List.getElem?_cons_zero] at d0 d1 d2 d3
                  obtain ⟨-, ⟨xs, hro, hok⟩, -⟩ := id hM
                  have HOK := Lib.hid hok
                  have hszW := hM.ext.size
                  clear hok
                  go_wp2_with (at_builtin; refine wpList_append1 rfl (.tmp 97) (.tmp 100) 22 rfl w4.heap.size 46 i46 _ 3 48 Tryd.underlying22 HI.out HZ0.out HZ1.out HZ2.out rfl (by decide) (by decide) u12 _ xs rfl hro [.string Y.f.path, .int .i64 Y.f.len, .slice F1 Y.f.frags.length c1] rfl rfl (by simp [Value.oneCell']) (by omega) hszW ?_; intro v' w9 hown' hbel _ hg3; have HM9 := Lib.hid (hM.addOut (f := Y.f) hro HOK.out ho1 hown' hbel hg3); clear hro hown' hg3)
                  go_roundg (gk - 1)
                  case measure => omega
                  case rel => exact ⟨i' + 1, by go_num, by omega, by omega, by rw [Hid, HTK.out, outL_yes (by rw [HA1.out]; exact hth), HA1.out, confL_no (by rw [HA1.out])]; exact HM9.out⟩
              · have HYZ := Lib.hid hYZ
                rw [decide_eq_false hYZ]
                clear hYZ
                have u0 := cell_blk hb0 0
                have u1 := cell_blk hb0 1
                have u2 := cell_blk hb0 2
                have u3 := cell_blk hb0 3
                have v0 := cell_blk hb1 0
                have v1 := cell_blk hb1 1
                have v2 := cell_blk hb1 2
                have v3 := cell_blk hb1 3
                simp only [List.getElem?_toArray, List.getElem?_cons_succ, List.getElem?_cons_zero] at u0 u1 u2 u3 v0 v1 v2 v3
                go_wp2_with fail
                refine (rsame_any _ _ X Y _ ⟨_, _, rfl, ho0.1⟩ ⟨_, _, rfl, ho1.1⟩).mono ?_
                rintro e w6 ⟨rfl, hx6⟩
                clear u0 u1 u2 u3 v0 v1 v2 v3
                replace hb0 := hx6.blk hb0
                replace hb1 := hx6.blk hb1
                replace hb2 := hx6.blk hb2
                replace hbT := hx6.blk hbT
                replace ho0 := ho0.ext hx6
                replace ho1 := ho1.ext hx6
                replace ho2 := ho2.ext hx6
                replace hM := hM.go hx6
                replace cP := hx6.cell cP
                by_cases hXY : X = Y
                · have HA1 : Hid (takenAt base a b x = (Z, false)) := by
                    rw [Hid, HT.out]; unfold takeE
                    rw [if_neg (by rintro (e | e); exact HYZ.out e; exact HYZ.out (hXY.symm.trans e)), if_pos hXY]
                  rw [decide_eq_true hXY]
                  clear hXY
                  cases hth : Z.there
                  · rw [hth] at hb2
                    have fT0 := blk_frozen hbT 0
                    have fT1 := blk_frozen hbT 1
                    have fT2 := blk_frozen hbT 2
                    have fT3 := blk_frozen hbT 3
                    have t0 := cell_blk hbT 0
                    have t1 := cell_blk hbT 1
                    have t2 := cell_blk hbT 2
                    have t3 := cell_blk hbT 3
                    have z0 := cell_blk hb2 0
                    have z1 := cell_blk hb2 1
                    have z2 := cell_blk hb2 2
                    have z3 := cell_blk hb2 3
                    simp only [List.getElem?_toArray, List.getElem?_cons_succ, List.getElem?_cons_zero] at t0 t1 t2 t3 z0 z1 z2 z3
                    have hMs := (((hM.set hbT hgT 0 (.string Z.f.path)).set (blk_set hbT 0 (.string Z.f.path)) hgT 1 (.int .i64 Z.f.len)).set (blk_set (blk_set hbT 0 (.string Z.f.path)) 1 (.int .i64 Z.f.len)) hgT 2 (.slice F2 Z.f.frags.length c2)).set (blk_set (blk_set (blk_set hbT 0 (.string Z.f.path)) 1 (.int .i64 Z.f.len)) 2 (.slice F2 Z.f.frags.length c2)) hgT 3 (.bool false)
                    have kZ := (((Keep3.set hbT (by decide) 0 (.string Z.f.path)).trans (Keep3.set (blk_set hbT 0 (.string Z.f.path)) (by decide) 1 (.int .i64 Z.f.len))).trans (Keep3.set (blk_set (blk_set hbT 0 (.string Z.f.path)) 1 (.int .i64 Z.f.len)) (by decide) 2 (.slice F2 Z.f.frags.length c2))).trans (Keep3.set (blk_set (blk_set (blk_set hbT 0 (.string Z.f.path)) 1 (.int .i64 Z.f.len)) 2 (.slice F2 Z.f.frags.length c2)) (by decide) 3 (.bool false))
                    have hoT := ho2.keep3 kZ
                    have hbS := blk_set4 hbT (.string Z.f.path) (.int .i64 Z.f.len) (.slice F2 Z.f.frags.length c2) (.bool false)
                    clear kZ hM
                    have hM := hMs
                    clear hMs
                    have d0 := cell_blk hbS 0
                    have d1 := cell_blk hbS 1
                    have d2 := cell_blk hbS 2
                    have d3 := cell_blk hbS 3
                    simp only [List.getElem?_toArray, List.getElem?_cons_succ, List.getElem?_cons_zero] at d0 d1 d2 d3
                    have HM9 := Lib.hid hM
                    go_wp2_with fail
                    go_roundg (gk - 1)
                    case measure => omega
                    case rel => exact ⟨i' + 1, by go_num, by omega, by omega, by rw [Hid, HTK.out, outL_no (by rw [HA1.out]; exact hth), confL_no (by rw [HA1.out])]; exact HM9.out⟩
                  · rw [hth] at hb2
                    have fT0 := blk_frozen hbT 0
                    have fT1 := blk_frozen hbT 1
                    have fT2 := blk_frozen hbT 2
                    have fT3 := blk_frozen hbT 3
                    have t0 := cell_blk hbT 0
                    have t1 := cell_blk hbT 1
                    have t2 := cell_blk hbT 2
                    have t3 := cell_blk hbT 3
                    have z0 := cell_blk hb2 0
                    have z1 := cell_blk hb2 1
                    have z2 := cell_blk hb2 2
                    have z3 := cell_blk hb2 3
                    simp only [List.getElem?_toArray, List.getElem?_cons_succ, List.getElem?_cons_zero] at t0 t1 t2 t3 z0 z1 z2 z3
                    have hMs := (((hM.set hbT hgT 0 (.string Z.f.path)).set (blk_set hbT 0 (.string Z.f.path)) hgT 1 (.int .i64 Z.f.len)).set (blk_set (blk_set hbT 0 (.string Z.f.path)) 1 (.int .i64 Z.f.len)) hgT 2 (.slice F2 Z.f.frags.length c2)).set (blk_set (blk_set (blk_set hbT 0 (.string Z.f.path)) 1 (.int .i64 Z.f.len)) 2 (.slice F2 Z.f.frags.length c2)) hgT 3 (.bool true)
                    have kZ := (((Keep3.set hbT (by decide) 0 (.string Z.f.path)).trans (Keep3.set (blk_set hbT 0 (.string Z.f.path)) (by decide) 1 (.int .i64 Z.f.len))).trans (Keep3.set (blk_set (blk_set hbT 0 (.string Z.f.path)) 1 (.int .i64 Z.f.len)) (by decide) 2 (.slice F2 Z.f.frags.length c2))).trans (Keep3.set (blk_set (blk_set (blk_set hbT 0 (.string Z.f.path)) 1 (.int .i64 Z.f.len)) 2 (.slice F2 Z.f.frags.length c2)) (by decide) 3 (.bool true))
                    have hoT := ho2.keep3 kZ
                    have hbS := blk_set4 hbT (.string Z.f.path) (.int .i64 Z.f.len) (.slice F2 Z.f.frags.length c2) (.bool true)
                    clear kZ hM
                    have hM := hMs
                    clear hMs
                    have d0 := cell_blk hbS 0
                    have d1 := cell_blk hbS 1
                    have d2 := cell_blk hbS 2
                    have d3 := cell_blk hbS 3
                    simp only [List.getElem?_toArray, List.getElem?_cons_succ, List.getElem?_cons_zero] at d0 d1 d2 d3
                    obtain ⟨WW, hWW⟩ : ∃ WW, WW = ((((w6.setCell ⟨gT, 0, none⟩ (.string Z.f.path)).setCell ⟨gT, 1, none⟩ (.int .i64 Z.f.len)).setCell ⟨gT, 2, none⟩ (.slice F2 Z.f.frags.length c2)).setCell ⟨gT, 3, none⟩ (.bool true)) := ⟨_, rfl⟩
                    obtain ⟨-, ⟨xs, hro, hok⟩, -⟩ := id hM
                    have HOK := Lib.hid hok
                    have hszW := hM.ext.size
                    clear hok
                    go_wp2_with (at_builtin; rw [← hWW]; rw [← hWW] at hM hro HOK hoT hszW; have hz : w6.heap.size = WW.heap.size := (by rw [hWW]; simp [World.setCell]); try rw [hz]; clear hWW; refine wpList_append1 rfl (.tmp 97) (.tmp 100) 22 rfl w4.heap.size 46 i46 _ 3 48 Tryd.underlying22 HI.out HZ0.out HZ1.out HZ2.out rfl (by decide) (by decide) u12 _ xs rfl hro [.string Z.f.path, .int .i64 Z.f.len, .slice F2 Z.f.frags.length c2] rfl rfl (by simp [Value.oneCell']) (by omega) hszW ?_; intro v' w9 hown' hbel _ hg3; have HM9 := Lib.hid (hM.addOut (f := Z.f) hro HOK.out hoT hown' hbel hg3); clear hro hown' hg3)
                    go_roundg (gk - 1)
                    case measure => omega
                    case rel => exact ⟨i' + 1, by go_num, by omega, by omega, by rw [Hid, HTK.out, outL_yes (by rw [HA1.out]; exact hth), HA1.out, confL_no (by rw [HA1.out])]; exact HM9.out⟩
                · have HXY := Lib.hid hXY
                  rw [decide_eq_false hXY]
                  clear hXY
                  have u0 := cell_blk hb1 0
                  have u1 := cell_blk hb1 1
                  have u2 := cell_blk hb1 2
                  have u3 := cell_blk hb1 3
                  have v0 := cell_blk hb2 0
                  have v1 := cell_blk hb2 1
                  have v2 := cell_blk hb2 2
                  have v3 := cell_blk hb2 3
                  simp only [List.getElem?_toArray, List.getElem?_cons_succ, List.getElem?_cons_zero] at u0 u1 u2 u3 v0 v1 v2 v3
                  go_wp2_with fail
                  refine (rsame_any _ _ Y Z _ ⟨_, _, rfl, ho1.1⟩ ⟨_, _, rfl, ho2.1⟩).mono ?_
                  rintro e w7 ⟨rfl, hx7⟩
                  clear u0 u1 u2 u3 v0 v1 v2 v3
                  replace hb0 := hx7.blk hb0
                  replace hb1 := hx7.blk hb1
                  replace hb2 := hx7.blk hb2
                  replace hbT := hx7.blk hbT
                  replace ho0 := ho0.ext hx7
                  replace ho1 := ho1.ext hx7
                  replace ho2 := ho2.ext hx7
                  replace hM := hM.go hx7
                  replace cP := hx7.cell cP
                  rw [decide_eq_false HYZ.out]
                  have u0 := cell_blk hb0 0
                  have u1 := cell_blk hb0 1
                  have u2 := cell_blk hb0 2
                  have u3 := cell_blk hb0 3
                  have v0 := cell_blk hb2 0
                  have v1 := cell_blk hb2 1
                  have v2 := cell_blk hb2 2
                  have v3 := cell_blk hb2 3
                  simp only [List.getElem?_toArray, List.getElem?_cons_succ, List.getElem?_cons_zero] at u0 u1 u2 u3 v0 v1 v2 v3
                  go_wp2_with fail
                  refine (rsame_any _ _ X Z _ ⟨_, _, rfl, ho0.1⟩ ⟨_, _, rfl, ho2.1⟩).mono ?_
                  rintro e w8 ⟨rfl, hx8⟩
                  clear u0 u1 u2 u3 v0 v1 v2 v3
                  replace hb0 := hx8.blk hb0
                  replace hb1 := hx8.blk hb1
                  replace hb2 := hx8.blk hb2
                  replace hbT := hx8.blk hbT
                  replace ho0 := ho0.ext hx8
                  replace ho1 := ho1.ext hx8
                  replace ho2 := ho2.ext hx8
                  replace hM := hM.go hx8
                  replace cP := hx8.cell cP
                  by_cases hXZ : X = Z
                  · have HA1 : Hid (takenAt base a b x = (Y, false)) := by rw [Hid, HT.out]; unfold takeE; rw [if_pos (.inr hXZ)]
                    rw [decide_eq_true hXZ]
                    clear hXZ
                    cases hth : Y.there
                    · rw [hth] at hbT
                      have d0 := cell_blk hbT 0
                      have d1 := cell_blk hbT 1
                      have d2 := cell_blk hbT 2
                      have d3 := cell_blk hbT 3
                      simp only [List.getElem?_toArray, List.getElem?_cons_succ, List.getElem?_cons_zero] at d0 d1 d2 d3
                      have HM9 := Lib.hid hM
                      go_wp2_with fail
                      go_roundg (gk - 1)
                      case measure => omega
                      case rel => exact ⟨i' + 1, by go_num, by omega, by omega, by rw [Hid, HTK.out, outL_no (by rw [HA1.out]; exact hth), confL_no (by rw [HA1.out])]; exact HM9.out⟩
                    · rw [hth] at hbT
                      have d0 := cell_blk hbT 0
                      have d1 := cell_blk hbT 1
                      have d2 := cell_blk hbT 2
                      have d3 := cell_blk hbT 3
                      simp only [List.getElem?_toArray, List.getElem?_cons_succ, List.getElem?_cons_zero] at d0 d1 d2 d3
                      obtain ⟨-, ⟨xs, hro, hok⟩, -⟩ := id hM
                      have HOK := Lib.hid hok
                      have hszW := hM.ext.size
                      clear hok
                      go_wp2_with (at_builtin; refine wpList_append1 rfl (.tmp 97) (.tmp 100) 22 rfl w4.heap.size 46 i46 _ 3 48 Tryd.underlying22 HI.out HZ0.out HZ1.out HZ2.out rfl (by decide) (by decide) u12 _ xs rfl hro [.string Y.f.path, .int .i64 Y.f.len, .slice F1 Y.f.frags.length c1] rfl rfl (by simp [Value.oneCell']) (by omega) hszW ?_; intro v' w9 hown' hbel _ hg3; have HM9 := Lib.hid (hM.addOut (f := Y.f) hro HOK.out ho1 hown' hbel hg3); clear hro hown' hg3)
                      go_roundg (gk - 1)
                      case measure => omega
                      case rel => exact ⟨i' + 1, by go_num, by omega, by omega, by rw [Hid, HTK.out, outL_yes (by rw [HA1.out]; exact hth), HA1.out, confL_no (by rw [HA1.out])]; exact HM9.out⟩
                  · have HXZ := Lib.hid hXZ
                    rw [decide_eq_false hXZ]
                    clear hXZ
                    obtain ⟨-, -, hrd⟩ := id hM
                    have hszD := hM.ext.size
                    clear hb0 ho0
                    cases hth1 : Y.there
                    · cases hth : Z.there
                      · exact absurd ((HN1.out hth1).trans (HN2.out hth).symm) HYZ.out
                      · have HA1 : Hid (takenAt base a b x = (Z, true)) := by rw [Hid, HT.out]; unfold takeE; rw [if_neg (by rintro (e | e); exact HYZ.out e; exact HXZ.out e), if_neg HXY.out, if_neg (by rw [hth1]; simp)]
                        rw [hth1] at hb1 hbT
                        rw [hth] at hb2
                        go_wp2_with (first | (at_builtin; refine wpList_append1 rfl (.tmp 84) (.tmp 89) 25 rfl w4.heap.size 9 i9 _ 1 16 Tryd.underlying25 KI.out KZ0.out KZ1.out KZ2.out rfl (by decide) (by decide) u13 _ _ rfl hrd [.string x] rfl rfl (by simp [Value.oneCell']) (by omega) hszD ?_; intro vq wq hownq hbelq _ hgq; have hMq := hM.addConf (p := x) hownq hbelq hgq; have k79 : KeepT 79 w8 wq := (KeepT.of_ext (ext_alloc1 w8 (.cells [.string x].toArray 9))).trans (KeepT.append ((KeepT.of_ext (ext_alloc1 w8 (.cells [.string x].toArray 9))).own hrd) hgq (by decide)); have k33 : KeepT 3 w8 wq := (KeepT.of_ext (ext_alloc1 w8 (.cells [.string x].toArray 9))).trans (KeepT.append ((KeepT.of_ext (ext_alloc1 w8 (.cells [.string x].toArray 9))).own hrd) hgq (by decide)); replace hb1 := k79 _ _ _ hb1; replace hb2 := k79 _ _ _ hb2; replace hbT := k79 _ _ _ hbT; replace ho1 := ho1.keep3 k33; replace ho2 := ho2.keep3 k33; have y3 := cell_blk hb1 3; have fT0 := blk_frozen hbT 0; have fT1 := blk_frozen hbT 1; have fT2 := blk_frozen hbT 2; have fT3 := blk_frozen hbT 3; have t0 := cell_blk hbT 0; have t1 := cell_blk hbT 1; have t2 := cell_blk hbT 2; have t3 := cell_blk hbT 3; have z0 := cell_blk hb2 0; have z1 := cell_blk hb2 1; have z2 := cell_blk hb2 2; have z3 := cell_blk hb2 3; have hMs := (((hMq.set hbT hgT 0 (.string Z.f.path)).set (blk_set hbT 0 (.string Z.f.path)) hgT 1 (.int .i64 Z.f.len)).set (blk_set (blk_set hbT 0 (.string Z.f.path)) 1 (.int .i64 Z.f.len)) hgT 2 (.slice F2 Z.f.frags.length c2)).set (blk_set (blk_set (blk_set hbT 0 (.string Z.f.path)) 1 (.int .i64 Z.f.len)) 2 (.slice F2 Z.f.frags.length c2)) hgT 3 (.bool true); have kZ := (((Keep3.set hbT (by decide) 0 (.string Z.f.path)).trans (Keep3.set (blk_set hbT 0 (.string Z.f.path)) (by decide) 1 (.int .i64 Z.f.len))).trans (Keep3.set (blk_set (blk_set hbT 0 (.string Z.f.path)) 1 (.int .i64 Z.f.len)) (by decide) 2 (.slice F2 Z.f.frags.length c2))).trans (Keep3.set (blk_set (blk_set (blk_set hbT 0 (.string Z.f.path)) 1 (.int .i64 Z.f.len)) 2 (.slice F2 Z.f.frags.length c2)) (by decide) 3 (.bool true)); have hoT := ho2.keep3 kZ; have hbS := blk_set4 hbT (.string Z.f.path) (.int .i64 Z.f.len) (.slice F2 Z.f.frags.length c2) (.bool true); clear kZ hM; have d0 := cell_blk hbS 0; have d1 := cell_blk hbS 1; have d2 := cell_blk hbS 2; have d3 := cell_blk hbS 3; simp only [List.getElem?_toArray, List.getElem?_cons_succ, List.getElem?_cons_zero] at y3 t0 t1 t2 t3 z0 z1 z2 z3 d0 d1 d2 d3; obtain ⟨WW, hWW⟩ : ∃ WW, WW = ((((wq.setCell ⟨gT, 0, none⟩ (.string Z.f.path)).setCell ⟨gT, 1, none⟩ (.int .i64 Z.f.len)).setCell ⟨gT, 2, none⟩ (.slice F2 Z.f.frags.length c2)).setCell ⟨gT, 3, none⟩ (.bool true)) := ⟨_, rfl⟩; obtain ⟨-, ⟨xs, hro, hok⟩, -⟩ := id hMs; have HOK := Lib.hid hok; have hszW := hMs.ext.size; clear hok hrd) | (at_builtin; rw [← hWW]; rw [← hWW] at hMs hro HOK hoT hszW; have hz : wq.heap.size = WW.heap.size := (by rw [hWW]; simp [World.setCell]); try rw [hz]; clear hWW; refine wpList_append1 rfl (.tmp 97) (.tmp 100) 22 rfl w4.heap.size 46 i46 _ 3 48 Tryd.underlying22 HI.out HZ0.out HZ1.out HZ2.out rfl (by decide) (by decide) u12 _ xs rfl hro [.string Z.f.path, .int .i64 Z.f.len, .slice F2 Z.f.frags.length c2] rfl rfl (by simp [Value.oneCell']) (by omega) hszW ?_; intro v' w9 hown' hbel _ hg3; have HM9 := Lib.hid (hMs.addOut (f := Z.f) hro HOK.out hoT hown' hbel hg3); clear hro hown' hg3))
                        go_roundg (gk - 1)
                        case measure => omega
                        case rel => exact ⟨i' + 1, by go_num, by omega, by omega, by rw [Hid, HTK.out, outL_yes (by rw [HA1.out]; exact hth), HA1.out, confL_yes (by rw [HA1.out])]; exact HM9.out⟩
                    · have hth := hth1
                      have HA1 : Hid (takenAt base a b x = (Y, true)) := by rw [Hid, HT.out]; unfold takeE; rw [if_neg (by rintro (e | e); exact HYZ.out e; exact HXZ.out e), if_neg HXY.out, if_pos hth]
                      rw [hth] at hb1 hbT
                      go_wp2_with (first | (at_builtin; refine wpList_append1 rfl (.tmp 84) (.tmp 89) 25 rfl w4.heap.size 9 i9 _ 1 16 Tryd.underlying25 KI.out KZ0.out KZ1.out KZ2.out rfl (by decide) (by decide) u13 _ _ rfl hrd [.string x] rfl rfl (by simp [Value.oneCell']) (by omega) hszD ?_; intro vq wq hownq hbelq _ hgq; have hMq := hM.addConf (p := x) hownq hbelq hgq; have k79 : KeepT 79 w8 wq := (KeepT.of_ext (ext_alloc1 w8 (.cells [.string x].toArray 9))).trans (KeepT.append ((KeepT.of_ext (ext_alloc1 w8 (.cells [.string x].toArray 9))).own hrd) hgq (by decide)); have k33 : KeepT 3 w8 wq := (KeepT.of_ext (ext_alloc1 w8 (.cells [.string x].toArray 9))).trans (KeepT.append ((KeepT.of_ext (ext_alloc1 w8 (.cells [.string x].toArray 9))).own hrd) hgq (by decide)); replace hb1 := k79 _ _ _ hb1; replace hb2 := k79 _ _ _ hb2; replace hbT := k79 _ _ _ hbT; replace ho1 := ho1.keep3 k33; replace ho2 := ho2.keep3 k33; have y3 := cell_blk hb1 3; have d0 := cell_blk hbT 0; have d1 := cell_blk hbT 1; have d2 := cell_blk hbT 2; have d3 := cell_blk hbT 3; simp only [List.getElem?_toArray, List.getElem?_cons_succ, List.getElem?_cons_zero] at y3 d0 d1 d2 d3; obtain ⟨-, ⟨xs, hro, hok⟩, -⟩ := id hMq; have HOK := Lib.hid hok; have hszW := hMq.ext.size; clear hok hrd hM) | (at_builtin; refine wpList_append1 rfl (.tmp 97) (.tmp 100) 22 rfl w4.heap.size 46 i46 _ 3 48 Tryd.underlying22 HI.out HZ0.out HZ1.out HZ2.out rfl (by decide) (by decide) u12 _ xs rfl hro [.string Y.f.path, .int .i64 Y.f.len, .slice F1 Y.f.frags.length c1] rfl rfl (by simp [Value.oneCell']) (by omega) hszW ?_; intro v' w9 hown' hbel _ hg3; have HM9 := Lib.hid (hMq.addOut (f := Y.f) hro HOK.out ho1 hown' hbel hg3); clear hro hown' hg3))
                      go_roundg (gk - 1)
                      case measure => omega
                      case rel => exact ⟨i' + 1, by go_num, by omega, by omega, by rw [Hid, HTK.out, outL_yes (by rw [HA1.out]; exact hth), HA1.out, confL_yes (by rw [HA1.out])]; exact HM9.out⟩
          · obtain rfl : i' = ps.length := by omega
            have HM : Hid (RMid w4 u12 u13 (outL base a b ps) (confL base a b ps) wr) := by have := HM0.out; rwa [List.take_length] at this
            have hx := hx4.trans HM.out.ext
            obtain ⟨Ao, co, rfl, hro⟩ := HM.out.out.rd
            have HR := Lib.hid hro
            obtain ⟨Ad, cd, rfl, -, -, hrd⟩ := own_rd HM.out.conf
            have HD : Hid (RdS wr Ad (confL base a b ps)) := hrd
            have hSh : Short (outL base a b ps) := fun f hf => (outL_mem hf).elim (HS2.out f) (HS3.out f)
            have hol := outL_len base a b ps
            clear HM0 HM hro hrd hlt
            go_wp2_with fail
            refine (rcheck_any Ao co (outL base a b ps) wr (by omega) hSh HR.out).mono ?_
            rintro e w5 ⟨rfl, hx5⟩
            by_cases hce : checkE (outL base a b ps) = 0
            · rw [if_pos hce] at HK
              rw [hce]
              clear hce
              go_wp2_with fail
              try simp only [Exit.inBlock, Exit.then]
              refine bodyPost_ret (results_tmp3 rfl _ _ _) rfl ?_
              exact ⟨Ao, co, Ad, cd, by rw [HK.out]; rfl, by rw [HK.out]; exact HR.out.ext hx5, by rw [HK.out]; exact Rd.ext HD.out hx5, hx.trans hx5⟩
            · rw [if_neg hce] at HK
              have q1 : (checkE (outL base a b ps) == 0) = false := beq_eq_false_iff_ne.2 hce
              have q2 : (checkE (outL base a b ps) != 0) = true := by simp [bne, q1]
              clear hce
              generalize checkE (outL base a b ps) = ce at *
              go_wp2_with fail
              try simp only [Exit.inBlock, Exit.then]
              refine bodyPost_ret (results_tmp3 rfl _ _ _) rfl ?_
              exact ⟨none, 0, none, 0, by rw [HK.out]; rfl, by rw [HK.out]; exact .inl rfl, by rw [HK.out]; exact .inl rfl, hx.trans hx5⟩
      · have HK : Hid (mergeE base a b = ([], [], checkE b)) := by unfold mergeE; rw [Hid, if_neg (by simp [checks, HC1.out, HC2.out, hc3])]; simp [checks, HC1.out, HC2.out, hc3]
        have q1 : (checkE b == 0) = false := beq_eq_false_iff_ne.2 hc3
        have q2 : (checkE b != 0) = true := by simp [bne, q1]
        clear hc3
        generalize checkE b = ce at *
        go_wp2_with fail
        try simp only [Exit.inBlock, Exit.then]
        refine bodyPost_ret (results_tmp3 rfl _ _ _) rfl ?_
        exact ⟨none, 0, none, 0, by rw [HK.out]; rfl, by rw [HK.out]; exact .inl rfl, by rw [HK.out]; exact .inl rfl, hx3⟩
    · have HK : Hid (mergeE base a b = ([], [], checkE a)) := by unfold mergeE; rw [Hid, if_neg (by simp [checks, HC1.out, hc2])]; simp [checks, HC1.out, hc2]
      have q1 : (checkE a == 0) = false := beq_eq_false_iff_ne.2 hc2
      have q2 : (checkE a != 0) = true := by simp [bne, q1]
      clear hc2
      generalize checkE a = ce at *
      go_wp2_with fail
      try simp only [Exit.inBlock, Exit.then]
      refine bodyPost_ret (results_tmp3 rfl _ _ _) rfl ?_
      exact ⟨none, 0, none, 0, by rw [HK.out]; rfl, by rw [HK.out]; exact .inl rfl, by rw [HK.out]; exact .inl rfl, hx2⟩
  · have HK : Hid (mergeE base a b = ([], [], checkE base)) := by unfold mergeE; rw [Hid, if_neg (by simp [checks, hc1])]; simp [checks, hc1]
    have q1 : (checkE base == 0) = false := beq_eq_false_iff_ne.2 hc1
    have q2 : (checkE base != 0) = true := by simp [bne, q1]
    clear hc1
    generalize checkE base = ce at *
    go_wp2_with fail
    try simp only [Exit.inBlock, Exit.then]
    refine bodyPost_ret (results_tmp3 rfl _ _ _) rfl ?_
    exact ⟨none, 0, none, 0, by rw [HK.out]; rfl, by rw [HK.out]; exact .inl rfl, by rw [HK.out]; exact .inl rfl, hx1⟩
end Go.Proofs.YtcjokhhcncimdaaDoor
