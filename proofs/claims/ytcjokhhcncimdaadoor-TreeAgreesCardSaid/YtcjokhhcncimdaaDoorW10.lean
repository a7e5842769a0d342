/- The walks of the iterator over the paths of two trees. -/
import Derived.Test.YtcjokhhcncimdaaDoorW9
import Derived.Test.YtcjokhhcncimdaaDoorLaws
import Derived.Sort.QuietIn
set_option linter.unusedVariables false
set_option linter.unusedSimpArgs false
namespace Go.Proofs.YtcjokhhcncimdaaDoor
open Go.RowKit Go.PF Go.Tr Go.Shelf
attribute [local go_sem] Oper.semAt_some

theorem both_in (m : Nat) (A B : Option Addr) (na ca nb cb : Nat) (w : World) :
    CallsIn Fence.wide m Tryd.prog 38 #[.slice A na ca, .slice B nb cb] w fun e w' => e = .returned (.func (.func 64) #[] #[.pointer (some ⟨w.heap.size, 0, none⟩), .pointer (some ⟨w.heap.size + 1, 0, none⟩)]) ∧
      w' = (w.alloc (.cells #[.slice A na ca] 22)).alloc (.cells #[.slice B nb cb] 22) := by
  refine callsIn_of_wp Tryd.func38 rfl trivial ?_ rfl
  simp only [Tryd.ntmps38, List.size_toArray, List.length_cons, List.length_nil, Nat.reduceAdd, Nat.reduceSub, Array.replicate_succ, Array.replicate_zero, List.push_toArray, List.append_toArray, List.nil_append, List.cons_append]
  gi_wp2
  go_ret
  exact ⟨rfl, rfl⟩

/-- What the iterator reads. -/
structure BothOk (Ba Bb : Nat) (A B : Option Addr) (ca cb : Nat) (a b : List FileV) (W : World) : Prop where
  boxA : W.cell? ⟨Ba, 0, none⟩ = some (.slice A a.length ca)
  boxB : W.cell? ⟨Bb, 0, none⟩ = some (.slice B b.length cb)
  rdA : ∀ k f, a[k]? = some f → ∃ g off, A = some ⟨g, off, none⟩ ∧ W.cell? ⟨g, off + k * 3, none⟩ = some (.string f.path)
  rdB : ∀ k f, b[k]? = some f → ∃ g off, B = some ⟨g, off, none⟩ ∧ W.cell? ⟨g, off + k * 3, none⟩ = some (.string f.path)

theorem BothOk.drewN {Ba Bb : Nat} {A B : Option Addr} {ca cb : Nat} {a b : List FileV} {W : World} (h : BothOk Ba Bb A B ca cb a b W) (n : Nat) : BothOk Ba Bb A B ca cb a b (W.drewN n) := ⟨h.boxA, h.boxB, h.rdA, h.rdB⟩

set_option maxRecDepth 100000 in
set_option maxHeartbeats 4000000 in
theorem both1_in (m : Nat) (hm : 1 ≤ m) (l Ba Bb : Nat) (A B : Option Addr) (ca cb : Nat) (a b : List FileV) (Kp : World → World → Prop) (ha : a.length ≤ 1000) (hb : b.length ≤ 1000)
    (hK : ∀ W W', Kp W W' → BothOk Ba Bb A B ca cb a b W → BothOk Ba Bb A B ca cb a b W') (J Jx : List ByteArray → World → Prop)
    (hY : ∀ (pre : List ByteArray) (x : ByteArray) W, J pre W → pre.length < (bothL a b).length → YieldAt Fence.wide (m - 1) Tryd.prog l #[.string x] W fun e W' =>
      (e = .returned (.bool true) ∧ J (pre ++ [x]) W' ∧ Kp W W') ∨ (e = .returned (.bool false) ∧ Jx (pre ++ [x]) W'))
    (hJ : ∀ pre W n, J pre W → J pre (W.drewN n))
    (W : World) (hok : BothOk Ba Bb A B ca cb a b W) (h0 : J [] W) :
    CallsIn Fence.wide m Tryd.prog 64 #[.func (.yield l) #[] #[], .pointer (some ⟨Ba, 0, none⟩), .pointer (some ⟨Bb, 0, none⟩)] W fun e W' => (∃ v, e = .returned v) ∧
      ((∃ ys, ys = bothL a b ∧ J ys W') ∨ (∃ pre, pre <+: bothL a b ∧ Jx pre W')) := by
  refine callsIn_of_wp Tryd.func64 rfl trivial ?_ rfl
  simp only [Tryd.ntmps64, List.size_toArray, List.length_cons, List.length_nil, Nat.reduceAdd, Nat.reduceSub, Array.replicate_succ, Array.replicate_zero, List.push_toArray, List.append_toArray, List.nil_append, List.cons_append]
  have HK := Lib.hid hK; clear hK
  have HJ := Lib.hid hJ; clear hJ
  gi_wp2
  gi_loopg [4, 5] (a.length + b.length) (fun f i k wr => ∃ (i' k' fu : Nat) (pre : List ByteArray), i = .int .i64 i' ∧ k = .int .i64 k' ∧ i' ≤ a.length ∧ k' ≤ b.length ∧ a.length + b.length ≤ i' + k' + f ∧ a.length + b.length ≤ i' + k' + fu ∧
    Hid (pre ++ bothN fu (a.drop i') (b.drop k') = bothL a b) ∧ J pre wr ∧ Hid (BothOk Ba Bb A B ca cb a b wr))
  case atStart => exact ⟨0, 0, _, [], rfl, rfl, by omega, by omega, by omega, (by show _ ≤ 0 + 0 + (a.length + b.length); omega), rfl, h0, hok⟩
  case round =>
    clear hok h0
    obtain ⟨i', k', fu, pre, rfl, rfl, h1, h2, h3, h4, HP, hJ, HO⟩ := hrel
    have hbA := HO.out.boxA
    have hbB := HO.out.boxB
    rcases Nat.lt_or_ge i' a.length with hi | hi
    · obtain ⟨n, rfl⟩ : ∃ n, fu = n + 1 := ⟨fu - 1, by omega⟩
      obtain ⟨f, hf⟩ : ∃ x, a[i']? = some x := ⟨_, List.getElem?_eq_getElem hi⟩
      obtain ⟨ga, oa, rfl, hca⟩ := HO.out.rdA _ _ hf
      rcases Nat.lt_or_ge k' b.length with hk | hk
      · obtain ⟨g, hg⟩ : ∃ x, b[k']? = some x := ⟨_, List.getElem?_eq_getElem hk⟩
        obtain ⟨gb, ob, rfl, hcb⟩ := HO.out.rdB _ _ hg
        have k1 : ((k' : Int) == (b.length : Int)) = false := beq_eq_false_iff_ne.2 (by omega)
        by_cases hp : f.path = g.path
        · have HQ := Lib.hid (both_eq (n := n) hf hg hp)
          have q1 : (f.path.toList == g.path.toList) = true := by rw [hp]; simp
          have q2 : (g.path.toList == f.path.toList) = true := by rw [hp]; simp
          have HF := Lib.hid hf; have HG := Lib.hid hg; clear hf hg hp
          have hpl : pre.length < (bothL a b).length := by
            have h := congrArg List.length HP.out
            rw [HQ.out] at h
            simp at h
            omega
          have HPL := Lib.hid hpl; clear hpl
          have HP2 : Hid (pre ++ [f.path] ++ bothN n (a.drop (i' + 1)) (b.drop (k' + 1)) = bothL a b) := by
            have h := HP.out
            rw [HQ.out] at h
            rw [Hid, ← h]; simp
          have HPF : Hid (pre ++ [f.path] <+: bothL a b) := ⟨_, HP2.out⟩
          have HJ1 := Lib.hid hJ; clear hJ HP HQ
          gi_wp2
          refine wpIn_wide.2 ?_
          go_quiet (fail)
          have HO1 := Lib.hid (HO.out.drewN nq)
          obtain ⟨fn, tmps, assign, body, hy, hR⟩ := hY pre f.path (wr.drewN nq) (HJ.out _ _ _ HJ1.out) HPL.out
          clear HPL
          gi_wp2
          refine hR.mono ?_
          rintro e W3 (⟨rfl, hJ3, hk3⟩ | ⟨rfl, hJx3⟩)
          · have HO3 := Lib.hid (HK.out _ _ hk3 HO1.out)
            have hcA3 := HO3.out.boxA
            have hcB3 := HO3.out.boxB
            obtain ⟨ga3, oa3, hA3, hca3⟩ := HO3.out.rdA _ _ HF.out
            cases hA3
            obtain ⟨gb3, ob3, hB3, hcb3⟩ := HO3.out.rdB _ _ HG.out
            cases hB3
            clear hbA hbB
            clear hca
            clear hcb
            gi_wp2
            gi_roundg (gk - 1)
            case measure => omega
            case rel => exact ⟨i' + 1, k' + 1, n, pre ++ [f.path], by go_num, by go_num, by omega, by omega, by omega, by omega, HP2.out, hJ3, HO3⟩
          · gi_wp2
            refine bodyPost_ret (results_none rfl _ _ _) rfl ?_
            exact ⟨⟨_, rfl⟩, .inr ⟨_, HPF.out, hJx3⟩⟩
        · have q1 : (f.path.toList == g.path.toList) = false := beq_eq_false_iff_ne.2 (fun e => hp (ba_inj e))
          have q2 : (g.path.toList == f.path.toList) = false := beq_eq_false_iff_ne.2 (fun e => hp (ba_inj e.symm))
          cases hl : lessB f.path g.path
          · have HQ := Lib.hid (both_gt (n := n) hf hg hp hl)
            have q3 : Op.bytesLess f.path.toList g.path.toList = false := hl
            have HF := Lib.hid hf; have HG := Lib.hid hg; clear hf hg hp hl
            have hpl : pre.length < (bothL a b).length := by
              have h := congrArg List.length HP.out
              rw [HQ.out] at h
              simp at h
              omega
            have HPL := Lib.hid hpl; clear hpl
            have HP2 : Hid (pre ++ [g.path] ++ bothN n (a.drop i') (b.drop (k' + 1)) = bothL a b) := by
              have h := HP.out
              rw [HQ.out] at h
              rw [Hid, ← h]; simp
            have HPF : Hid (pre ++ [g.path] <+: bothL a b) := ⟨_, HP2.out⟩
            have HJ1 := Lib.hid hJ; clear hJ HP HQ
            gi_wp2
            refine wpIn_wide.2 ?_
            go_quiet (fail)
            have HO1 := Lib.hid (HO.out.drewN nq)
            obtain ⟨fn, tmps, assign, body, hy, hR⟩ := hY pre g.path (wr.drewN nq) (HJ.out _ _ _ HJ1.out) HPL.out
            clear HPL
            gi_wp2
            refine hR.mono ?_
            rintro e W3 (⟨rfl, hJ3, hk3⟩ | ⟨rfl, hJx3⟩)
            · have HO3 := Lib.hid (HK.out _ _ hk3 HO1.out)
              have hcA3 := HO3.out.boxA
              have hcB3 := HO3.out.boxB
              obtain ⟨ga3, oa3, hA3, hca3⟩ := HO3.out.rdA _ _ HF.out
              cases hA3
              obtain ⟨gb3, ob3, hB3, hcb3⟩ := HO3.out.rdB _ _ HG.out
              cases hB3
              clear hbA hbB
              clear hca
              clear hcb
              gi_wp2
              gi_roundg (gk - 1)
              case measure => omega
              case rel => exact ⟨i', k' + 1, n, pre ++ [g.path], by go_num, by go_num, by omega, by omega, by omega, by omega, HP2.out, hJ3, HO3⟩
            · gi_wp2
              refine bodyPost_ret (results_none rfl _ _ _) rfl ?_
              exact ⟨⟨_, rfl⟩, .inr ⟨_, HPF.out, hJx3⟩⟩
          · have HQ := Lib.hid (both_lt (n := n) hf hg hp hl)
            have q3 : Op.bytesLess f.path.toList g.path.toList = true := hl
            have HF := Lib.hid hf; have HG := Lib.hid hg; clear hf hg hp hl
            have hpl : pre.length < (bothL a b).length := by
              have h := congrArg List.length HP.out
              rw [HQ.out] at h
              simp at h
              omega
            have HPL := Lib.hid hpl; clear hpl
            have HP2 : Hid (pre ++ [f.path] ++ bothN n (a.drop (i' + 1)) (b.drop k') = bothL a b) := by
              have h := HP.out
              rw [HQ.out] at h
              rw [Hid, ← h]; simp
            have HPF : Hid (pre ++ [f.path] <+: bothL a b) := ⟨_, HP2.out⟩
            have HJ1 := Lib.hid hJ; clear hJ HP HQ
            gi_wp2
            refine wpIn_wide.2 ?_
            go_quiet (fail)
            have HO1 := Lib.hid (HO.out.drewN nq)
            obtain ⟨fn, tmps, assign, body, hy, hR⟩ := hY pre f.path (wr.drewN nq) (HJ.out _ _ _ HJ1.out) HPL.out
            clear HPL
            gi_wp2
            refine hR.mono ?_
            rintro e W3 (⟨rfl, hJ3, hk3⟩ | ⟨rfl, hJx3⟩)
            · have HO3 := Lib.hid (HK.out _ _ hk3 HO1.out)
              have hcA3 := HO3.out.boxA
              have hcB3 := HO3.out.boxB
              obtain ⟨ga3, oa3, hA3, hca3⟩ := HO3.out.rdA _ _ HF.out
              cases hA3
              obtain ⟨gb3, ob3, hB3, hcb3⟩ := HO3.out.rdB _ _ HG.out
              cases hB3
              clear hbA hbB
              clear hca
              clear hcb
              gi_wp2
              gi_roundg (gk - 1)
              case measure => omega
              case rel => exact ⟨i' + 1, k', n, pre ++ [f.path], by go_num, by go_num, by omega, by omega, by omega, by omega, HP2.out, hJ3, HO3⟩
            · gi_wp2
              refine bodyPost_ret (results_none rfl _ _ _) rfl ?_
              exact ⟨⟨_, rfl⟩, .inr ⟨_, HPF.out, hJx3⟩⟩
      · have HQ := Lib.hid (both_left (n := n) hf hk)
        have HF := Lib.hid hf; clear hf
        obtain rfl : k' = b.length := by omega
        have hpl : pre.length < (bothL a b).length := by
          have h := congrArg List.length HP.out
          rw [HQ.out] at h
          simp at h
          omega
        have HPL := Lib.hid hpl; clear hpl
        have HP2 : Hid (pre ++ [f.path] ++ bothN n (a.drop (i' + 1)) (b.drop b.length) = bothL a b) := by
          have h := HP.out
          rw [HQ.out] at h
          rw [Hid, ← h]; simp
        have HPF : Hid (pre ++ [f.path] <+: bothL a b) := ⟨_, HP2.out⟩
        have HJ1 := Lib.hid hJ; clear hJ HP HQ
        gi_wp2
        refine wpIn_wide.2 ?_
        go_quiet (fail)
        have HO1 := Lib.hid (HO.out.drewN nq)
        obtain ⟨fn, tmps, assign, body, hy, hR⟩ := hY pre f.path (wr.drewN nq) (HJ.out _ _ _ HJ1.out) HPL.out
        clear HPL
        gi_wp2
        refine hR.mono ?_
        rintro e W3 (⟨rfl, hJ3, hk3⟩ | ⟨rfl, hJx3⟩)
        · have HO3 := Lib.hid (HK.out _ _ hk3 HO1.out)
          have hcA3 := HO3.out.boxA
          have hcB3 := HO3.out.boxB
          obtain ⟨ga3, oa3, hA3, hca3⟩ := HO3.out.rdA _ _ HF.out
          cases hA3
          clear hbA hbB
          clear hca
          gi_wp2
          gi_roundg (gk - 1)
          case measure => omega
          case rel => exact ⟨i' + 1, b.length, n, pre ++ [f.path], by go_num, by go_num, by omega, by omega, by omega, by omega, HP2.out, hJ3, HO3⟩
        · gi_wp2
          refine bodyPost_ret (results_none rfl _ _ _) rfl ?_
          exact ⟨⟨_, rfl⟩, .inr ⟨_, HPF.out, hJx3⟩⟩
    · rcases Nat.lt_or_ge k' b.length with hk | hk
      · obtain ⟨n, rfl⟩ : ∃ n, fu = n + 1 := ⟨fu - 1, by omega⟩
        obtain ⟨g, hg⟩ : ∃ x, b[k']? = some x := ⟨_, List.getElem?_eq_getElem hk⟩
        obtain ⟨gb, ob, rfl, hcb⟩ := HO.out.rdB _ _ hg
        have k1 : ((k' : Int) == (b.length : Int)) = false := beq_eq_false_iff_ne.2 (by omega)
        have HQ := Lib.hid (both_right (n := n) hi hg)
        have HG := Lib.hid hg; clear hg
        obtain rfl : i' = a.length := by omega
        have hpl : pre.length < (bothL a b).length := by
          have h := congrArg List.length HP.out
          rw [HQ.out] at h
          simp at h
          omega
        have HPL := Lib.hid hpl; clear hpl
        have HP2 : Hid (pre ++ [g.path] ++ bothN n (a.drop a.length) (b.drop (k' + 1)) = bothL a b) := by
          have h := HP.out
          rw [HQ.out] at h
          rw [Hid, ← h]; simp
        have HPF : Hid (pre ++ [g.path] <+: bothL a b) := ⟨_, HP2.out⟩
        have HJ1 := Lib.hid hJ; clear hJ HP HQ
        gi_wp2
        refine wpIn_wide.2 ?_
        go_quiet (fail)
        have HO1 := Lib.hid (HO.out.drewN nq)
        obtain ⟨fn, tmps, assign, body, hy, hR⟩ := hY pre g.path (wr.drewN nq) (HJ.out _ _ _ HJ1.out) HPL.out
        clear HPL
        gi_wp2
        refine hR.mono ?_
        rintro e W3 (⟨rfl, hJ3, hk3⟩ | ⟨rfl, hJx3⟩)
        · have HO3 := Lib.hid (HK.out _ _ hk3 HO1.out)
          have hcA3 := HO3.out.boxA
          have hcB3 := HO3.out.boxB
          obtain ⟨gb3, ob3, hB3, hcb3⟩ := HO3.out.rdB _ _ HG.out
          cases hB3
          clear hbA hbB
          clear hcb
          gi_wp2
          gi_roundg (gk - 1)
          case measure => omega
          case rel => exact ⟨a.length, k' + 1, n, pre ++ [g.path], by go_num, by go_num, by omega, by omega, by omega, by omega, HP2.out, hJ3, HO3⟩
        · gi_wp2
          refine bodyPost_ret (results_none rfl _ _ _) rfl ?_
          exact ⟨⟨_, rfl⟩, .inr ⟨_, HPF.out, hJx3⟩⟩
      · have HQ := Lib.hid (both_end (n := fu) hi hk)
        obtain rfl : i' = a.length := by omega
        obtain rfl : k' = b.length := by omega
        gi_wp2
        go_end0
        refine ⟨⟨_, rfl⟩, .inl ⟨pre, ?_, hJ⟩⟩
        have := HP.out
        rw [HQ.out] at this
        simpa using this

theorem BothOk.ext {Ba Bb : Nat} {A B : Option Addr} {ca cb : Nat} {a b : List FileV} {W W' : World} (h : BothOk Ba Bb A B ca cb a b W) (he : Ext W W') : BothOk Ba Bb A B ca cb a b W' :=
  ⟨he.cell h.boxA, he.cell h.boxB, fun k f hf => (h.rdA k f hf).imp fun _ => Exists.imp fun _ ⟨h1, h2⟩ => ⟨h1, he.cell h2⟩, fun k f hf => (h.rdB k f hf).imp fun _ => Exists.imp fun _ ⟨h1, h2⟩ => ⟨h1, he.cell h2⟩⟩

theorem both_stops (m : Nat) (hm : 1 ≤ m) (Ba Bb : Nat) (A B : Option Addr) (ca cb : Nat) (a b : List FileV) (Kp : World → World → Prop) (ha : a.length ≤ 1000) (hb : b.length ≤ 1000)
    (hK : ∀ W W', Kp W W' → BothOk Ba Bb A B ca cb a b W → BothOk Ba Bb A B ca cb a b W') (w : World) (hok : BothOk Ba Bb A B ca cb a b w) :
    SeqStopsK Fence.wide m Tryd.prog 64 #[.pointer (some ⟨Ba, 0, none⟩), .pointer (some ⟨Bb, 0, none⟩)] (fun x : ByteArray => #[Value.string x]) Kp (fun ys => ys = bothL a b) (fun _ => True) (bothL a b).length w := fun l J Jx W hW hab _ hY h0 =>
  (both1_in m hm l Ba Bb A B ca cb a b Kp ha hb hK J Jx hY (fun pre W1 n h => hab pre W1 (W1.drewN n) none h ⟨rfl, rfl, rfl, Nat.le_refl _, fun _ _ _ => rfl⟩ (fun r e => by cases e)) W (hok.ext hW) h0).mono (by
    rintro e W' ⟨he, h⟩
    refine ⟨he, ?_⟩
    rcases h with ⟨ys, hy, hJ⟩ | ⟨pre, hp, hJ⟩
    · exact .inl ⟨ys, hy, hJ⟩
    · exact .inr ⟨pre, trivial, hJ⟩)
end Go.Proofs.YtcjokhhcncimdaaDoor
