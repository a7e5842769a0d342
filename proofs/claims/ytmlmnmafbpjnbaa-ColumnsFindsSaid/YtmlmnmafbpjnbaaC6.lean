/- The walk of ColumnsFinds. -/
import Derived.Test.YtmlmnmafbpjnbaaW10
namespace Go.Proofs.Ytmlmnmafbpjnbaa
open Go.RowKit Go.PF Go.Col

theorem fscore_any (A : Option Addr) (cap n : Nat) (c : Nat → Int) (k B : Nat) (w : World) (hl : n ≤ 65536) (hk1 : 1 ≤ k) (hk : k ≤ 64) (hB : RdF w A n c) (hbox : w.cell? ⟨B, 0, none⟩ = some (.slice A n cap)) :
    Calls Try.prog 16 #[.int .i64 k, .pointer (some ⟨B, 0, none⟩)] w fun e w' => e = .returned (.int .i64 (scoreTo c k n)) ∧ ∃ n, w' = w.drewN n := by
  by_cases h0 : k < n
  · rcases hB with hB | ⟨b, off, rfl, hc⟩
    · omega
    have HC := Lib.hid hc; clear hc
    go_enter Try.func16, Try.ntmps16
    go_wp2
    go_loopg [4, 5] n (fun f v i wr => ∃ (i' m : Nat), v = .int .i64 (scoreTo c k i') ∧ i = .int .i64 i' ∧ k ≤ i' ∧ i' ≤ n ∧ n ≤ i' + f ∧ wr = w.drewN m)
    case atStart => exact ⟨k, 0, by rw [scoreTo_zero c k k (Nat.le_refl _)]; rfl, rfl, by omega, by omega, by omega, rfl⟩
    case round =>
      obtain ⟨i', m, rfl, rfl, h1, h2, h4, rfl⟩ := hrel
      by_cases hlt : i' < n
      · have hc1 := HC.out i' hlt
        have hc2 := HC.out (i' - k) (by omega)
        have hx : ((i' : Int) - (k : Int)).toNat = i' - k := by omega
        have hq : (0:Int) ≤ (i' : Int) - k := by omega
        have hs := scoreTo_le c k i'
        go_wp2
        go_quiet (fail)
        all_goals go_wp2
        all_goals
          go_roundg (gk - 1)
        case measure => omega
        case rel =>
          have hb : (c i' == c (i' - k)) = true := by assumption
          have he : c i' = c (i' - k) := by simpa using hb
          exact ⟨i' + 1, _, by rw [scoreTo_yes c k i' h1 he]; go_num, by go_num, by omega, by omega, by omega, rfl⟩
        case measure => omega
        case rel =>
          have hb : (c i' == c (i' - k)) = false := by assumption
          have he : c i' ≠ c (i' - k) := by simpa using hb
          exact ⟨i' + 1, _, by rw [scoreTo_no c k i' he], by go_num, by omega, by omega, by omega, rfl⟩
      · go_wp2
        go_ret
        obtain rfl : i' = n := by omega
        exact ⟨rfl, _, rfl⟩
  · have h0' : n ≤ k := by omega
    go_enter Try.func16, Try.ntmps16
    go_wp2
    refine wp_loop_once ?_
    go_wp2
    go_ret
    exact ⟨by rw [scoreTo_zero c k n h0']; rfl, 0, rfl⟩

/-- c over and over -/
def rep (c : Nat → Int) (m : Nat) (i : Nat) : Int := c (i % m)
theorem bytesF_rep (c : Nat → Int) (m : Nat) (j : Nat) : bytesF (rep c m) (j * m) ++ bytesF c m = bytesF (rep c m) ((j + 1) * m) := by
  have h : ∀ t, t ≤ m → bytesF (rep c m) (j * m) ++ bytesF c t = bytesF (rep c m) (j * m + t) := by
    intro t
    induction t with
    | zero => intro _; simp [bytesF]
    | succ t ih =>
      intro ht
      rw [bytesF_succ, ← List.append_assoc, ih (by omega), ← Nat.add_assoc, bytesF_succ]
      unfold rep
      rw [show j * m + t = t + m * j from by rw [Nat.mul_comm]; omega, Nat.add_mul_mod_self_left, Nat.mod_eq_of_lt (by omega)]
  rw [h m (Nat.le_refl _), Nat.add_mul, Nat.one_mul]
theorem rep_per (c : Nat → Int) (m j : Nat) (h : m ≤ j) : rep c m j = rep c m (j - m) := by
  unfold rep
  rw [show j = (j - m) + m from by omega, Nat.add_mod_right]
  congr 2; omega

section
variable {P : Program} {w : World}
/-- append(s, x...), x an argument that is not empty. -/
theorem wpList_appendA {ops : Array Oper} {rest : List Oper} {o : Oper} {a : Act} {Q : Exit → Act → World → Prop} (hgd : o.guard = none) (s x : Operand) (t : TypeId)
    (ho : o.op = .call { callee := .builtin .append, args := #[s, x], argTypes := #[t, t] })
    (base : Nat) (e : TypeId) (i : TypeInfo) (z : Value) (bytes : Nat) (ht : P.underlying t = some (.slice e)) (hi : P.info? e = some i) (hz : i.zero = some z)
    (hsize : i.size = 1) (hby : i.bytes = bytes) (hzs : z.cells.size = 1) (hb : bytes ≤ 1024)
    (v : Value) (n : Nat) (xs : List Value) (hs : a.eval s = v) (hown : w.ownsRow base e 1 v n xs) (b off m cap : Nat) (news : List Value) (hx : a.eval x = .slice (some ⟨b, off, none⟩) m cap)
    (hl : news.length = m) (hnews : ∀ (j : Nat) (u : Value), news[j]? = some u → w.cell? ⟨b, off + j, none⟩ = some u) (h1 : ∀ u ∈ news, u.oneCell' = true)
    (hn : n + m ≤ 68719476736) (hbase : base ≤ w.heap.size)
    (h : ∀ v' w', w'.ownsRow base e 1 v' (n + m) (xs ++ news) → Below base w w' → w.grownBy w' v.ownBlock → wpList P ops Q rest (a.put o.dst v') w') :
    wpList P ops Q (o :: rest) a w := by
  refine wpList_plain hgd fun _ hK => ?_
  have hcells : ∀ j u, news[j]? = some u → w.cell? ((⟨b, off, none⟩ : Addr).add j) = some u := by
    intro j u hu
    have hadd : (⟨b, off, none⟩ : Addr).add j = ⟨b, off + j, none⟩ := by unfold Addr.add; split <;> simp_all
    rw [hadd]; exact hnews j u hu
  obtain ⟨v', w', hrun, h2, h3, _, _⟩ := run_append_own_at (P := P) w base t o.type e i z 1 bytes ht hi hz hsize hby hzs (by omega) v n xs hown ⟨b, off, none⟩ m cap news (by omega) hcells h1
    (by simp only [maxLen]; omega) (by
      have : (n + m) * bytes ≤ 68719476736 * 1024 := Nat.mul_le_mul (by omega) hb
      omega) hbase
  unfold Oper.wp execOp
  simp only [ho, resolve, invoke, builtin, Sem.run_bind, Sem.run_pure, Result.andThen_ok, List.map_toArray, List.map_cons, List.map_nil, hs, hx, hrun]
  exact hK _ _ (h v' w' h2 ((Below.refl base w).grown h3 hbase (fun k hk => (hown.lt k hk).1)) h3)
end

set_option maxHeartbeats 2000000 in
theorem finds_ok (A : Option Addr) (m cap : Nat) (c : Nat → Int) (a : Int) (w : World) (hB : RdF w A m c) (hm0 : 1 ≤ m) (hm : m ≤ 40) (ha : 0 ≤ a) (ha2 : a < 256) :
    Calls Try.prog 6 #[.slice A m cap, .int .u8 a] w fun e w' => e = .returned (.bool true) ∧ Below w.heap.size w w' := by
  obtain ⟨i0, hi, hz0, hz1, hz2⟩ := info_parts info5
  have HI := Lib.hid hi; have HZ0 := Lib.hid hz0; have HZ1 := Lib.hid hz1; have HZ2 := Lib.hid hz2
  clear hi hz0 hz1 hz2
  rcases hB with h | ⟨b, off, rfl, hcell⟩
  · omega
  have HC : Hid (∀ (j : Nat) (u : Value), (bytesF c m)[j]? = some u → w.cell? ⟨b, off + j, none⟩ = some u) := by
    intro j u hu
    obtain ⟨hj, hu⟩ := List.getElem?_eq_some_iff.1 hu
    rw [bytesF_len] at hj
    rw [hcell j hj, ← hu]
    simp [bytesF]
  clear hcell
  obtain ⟨r, hr, hr1, hr2⟩ : ∃ r : Nat, 2 + a % 8 = (r : Int) ∧ 2 ≤ r ∧ r ≤ 9 := ⟨(2 + a % 8).toNat, by omega, by omega, by omega⟩
  have hm0' : ((m : Int) == 0) = false := by simp; omega
  have bO := Boxed.new w 29 (.slice none 0 0)
  go_enter Try.func6, Try.ntmps6
  go_wp2_with fail
  go_loopg [6] r (fun f i wr => ∃ (i' : Nat) (v : Value), i = .int .i64 i' ∧ i' ≤ r ∧ r ≤ i' + f ∧ Boxed wr w.heap.size 29 v ∧ wr.ownsRow (w.heap.size + 1) 5 1 v (i' * m) (bytesF (rep c m) (i' * m)) ∧ Ext w wr ∧ w.heap.size + 1 ≤ wr.heap.size)
  case atStart => exact ⟨0, _, rfl, by omega, by omega, bO, by simpa [bytesF] using World.ownsRow_nil _ _ _ _, (Below.refl _ _).alloc (Nat.le_refl _) _, by simp⟩
  case round =>
    clear bO
    obtain ⟨i', v, rfl, h1, h2, bO, hown, hx, hsz⟩ := hrel
    by_cases hlt : i' < r
    · have hcb := bO.cell
      have hmul : i' * m ≤ 9 * 40 := Nat.mul_le_mul (by omega) hm
      have HM := Lib.hid hmul
      clear hmul
      go_wp2_with (at_builtin; refine wpList_appendA rfl (.tmp 27) (.tmp 28) 29 rfl (w.heap.size + 1) 5 i0 (.int .u8 0) 1 Try.underlying29 HI.out HZ0.out HZ1.out HZ2.out rfl (by decide) v (i' * m) _ rfl hown b off m cap (bytesF c m) rfl (bytesF_len _ _) (fun j u hu => hx.cell (HC.out j u hu)) (by intro u hu; simp [bytesF] at hu; obtain ⟨_, _, rfl⟩ := hu; rfl) (by have := HM.out; omega) hsz ?_; intro v' w1 hown' hbel hgrow; clear hcb; have hb1 : Boxed w1 w.heap.size 29 v := (hbel.block _ (by omega)).trans bO; have hc1 := hb1.cell; have hf1 := hb1.frozen; obtain ⟨A', cap', rfl, _, _, _⟩ := own_rd hown')
      go_roundg (gk - 1)
      case measure => omega
      case rel =>
        refine ⟨i' + 1, _, by go_num, by omega, by omega, hb1.set _, ?_, (Below.trans hx (hbel.mono (by omega))).setCell (p := ⟨w.heap.size, 0, none⟩) (Nat.le_refl _) _, by have := hbel.size; simp [World.setCell]; omega⟩
        refine ownsRow_setCell_below ?_ (by show w.heap.size < w.heap.size + 1; omega) _
        rw [← bytesF_rep, Nat.add_mul, Nat.one_mul]
        exact hown'
    · obtain rfl : i' = r := by omega
      obtain ⟨n, hn⟩ : ∃ n, n = i' * m := ⟨_, rfl⟩
      have hn1 : n ≤ 360 := by rw [hn]; exact Nat.mul_le_mul hr2 hm
      have hn2 : m ≤ n := by rw [hn]; exact Nat.le_mul_of_pos_left _ (by omega)
      have hn3 : 2 * m ≤ n := by rw [hn]; exact Nat.mul_le_mul_right _ hr1
      rw [← hn] at hown
      clear hn
      obtain ⟨A', cap', rfl, hcc, hcm, hrd⟩ := own_rd hown
      have hB := rdF_of hrd
      clear hrd hown
      have hcb := bO.cell
      have hscore : ∀ k, 1 ≤ k → k ≤ 64 → scoreTo (rep c m) k n ≤ n - k := fun k _ _ => scoreTo_le' _ _ _
      have hall : scoreTo (rep c m) m n = n - m := scoreTo_all _ _ _ (fun j h1 _ => rep_per c m j h1)
      have hmin : min n 4096 = n := by omega
      have hbest := guessTo_best (fun k => scoreTo (rep c m) k (min n 4096)) 63
      have hgb := guessTo_bd (fun k => scoreTo (rep c m) k (min n 4096)) 63
      have hgu := guess_any A' cap' n (rep c m) wr (by omega) hcc hB
      rw [hmin] at hbest hgb hgu
      generalize hG : guessTo (fun k => scoreTo (rep c m) k n) 63 = g at *
      clear hG hmin
      have HB := Lib.hid hB; have HS := Lib.hid hscore; have HA := Lib.hid hall; have HBE := Lib.hid hbest; have HGU := Lib.hid hgu
      clear hB hscore hall hbest hgu
      have hg1 : 1 ≤ g := hgb.1
      have hg2 : g ≤ 64 := by have := hgb.2; omega
      clear hgb
      have hgm : g ≤ m := by
        have h3 := (HBE.out m hm0 (by omega)).1
        have h4 := HS.out g hg1 hg2
        rw [HA.out] at h3
        omega
      go_wp2_with fail
      refine HGU.out.mono ?_
      rintro e w2 ⟨rfl, hx2⟩
      have hcb2 := hx2.cell hcb
      go_wp2_with fail
      have HB2 := Lib.hid (HB.out.ext hx2)
      have sm := HA.out
      have sg := (HBE.out m hm0 (by omega)).1
      have hA1 : ((scoreTo (rep c m) m n : Int) != (n : Int) - (m : Int)) = false := by rw [sm]; simp; omega
      have hA2 : decide ((scoreTo (rep c m) g n : Int) < (n : Int) - (m : Int)) = false := by rw [sm] at sg; simp; omega
      clear sm sg
      have d1 : decide ((g : Int) < 1) = false := by simp; omega
      have d2 : decide (64 < (g : Int)) = false := by simp; omega
      have d3 : decide (m < g) = false := by simp; omega
      have dw : IntKind.i64.wrap ((n : Int) - (m : Int)) = (n : Int) - (m : Int) := IntWalk.i64_in _ (by omega)
      go_quiet ((go_at_call 16; refine Calls.quiet_of (fscore_any A' cap' n (rep c m) _ _ _ (by omega) ?_ ?_ HB2.out hcb2) <;> omega))
      clear dw hA1 hA2 d1 d2 d3
      go_wp2_with fail
      go_loopg [9] 64 (fun f i wr => ∃ (k q : Nat), i = .int .i64 k ∧ 1 ≤ k ∧ k ≤ 65 ∧ 65 ≤ k + f ∧ wr = w2.drewN q)
      case atStart => exact ⟨1, nq, rfl, by omega, by omega, by omega, rfl⟩
      case round =>
        obtain ⟨k, q, rfl, e1, e2, e3, rfl⟩ := hrel
        by_cases hk : k ≤ 64
        · have hb := HBE.out k e1 (by omega)
          have hle : (scoreTo (rep c m) k n : Int) ≤ (scoreTo (rep c m) g n : Int) := by have := hb.1; omega
          have HEQ : Hid (scoreTo (rep c m) k n = scoreTo (rep c m) g n → g ≤ k) := hb.2
          clear hb
          by_cases heq : scoreTo (rep c m) k n = scoreTo (rep c m) g n
          · have hgk := HEQ.out heq
            have hbt : ((scoreTo (rep c m) k n : Int) == (scoreTo (rep c m) g n : Int)) = true := by rw [heq]; simp
            clear heq
            go_wp2_with fail
            refine (fscore_any A' cap' n (rep c m) k _ (w2.drewN q) (by omega) (by omega) (by omega) HB2.out hcb2).mono ?_
            rintro e w' ⟨rfl, q1, rfl⟩
            go_wp2_with fail
            refine (fscore_any A' cap' n (rep c m) g _ (w2.drewN (q + q1)) (by omega) (by omega) (by omega) HB2.out hcb2).mono ?_
            rintro e w' ⟨rfl, q2, rfl⟩
            go_wp2_with fail
            refine (fscore_any A' cap' n (rep c m) k _ (w2.drewN (q + q1 + q2)) (by omega) (by omega) (by omega) HB2.out hcb2).mono ?_
            rintro e w' ⟨rfl, q3, rfl⟩
            go_wp2_with fail
            refine (fscore_any A' cap' n (rep c m) g _ (w2.drewN (q + q1 + q2 + q3)) (by omega) (by omega) (by omega) HB2.out hcb2).mono ?_
            rintro e w' ⟨rfl, q4, rfl⟩
            go_wp2_with fail
            go_roundg (gk - 1)
            case measure => omega
            case rel => exact ⟨k + 1, _, by go_num, by omega, by omega, by omega, rfl⟩
          · have hbt : ((scoreTo (rep c m) k n : Int) == (scoreTo (rep c m) g n : Int)) = false := by simp; omega
            clear heq
            go_wp2_with fail
            refine (fscore_any A' cap' n (rep c m) k _ (w2.drewN q) (by omega) (by omega) (by omega) HB2.out hcb2).mono ?_
            rintro e w' ⟨rfl, q1, rfl⟩
            go_wp2_with fail
            refine (fscore_any A' cap' n (rep c m) g _ (w2.drewN (q + q1)) (by omega) (by omega) (by omega) HB2.out hcb2).mono ?_
            rintro e w' ⟨rfl, q2, rfl⟩
            go_wp2_with fail
            refine (fscore_any A' cap' n (rep c m) k _ (w2.drewN (q + q1 + q2)) (by omega) (by omega) (by omega) HB2.out hcb2).mono ?_
            rintro e w' ⟨rfl, q3, rfl⟩
            go_wp2_with fail
            refine (fscore_any A' cap' n (rep c m) g _ (w2.drewN (q + q1 + q2 + q3)) (by omega) (by omega) (by omega) HB2.out hcb2).mono ?_
            rintro e w' ⟨rfl, q4, rfl⟩
            go_wp2_with fail
            go_roundg (gk - 1)
            case measure => omega
            case rel => exact ⟨k + 1, _, by go_num, by omega, by omega, by omega, rfl⟩
        · go_wp2_with fail
          refine (awake_any _).mono ?_
          rintro e w3 ⟨rfl, hx3⟩
          go_wp2_with fail
          go_ret
          exact ⟨rfl, ((hx.trans hx2).drewN q).trans hx3⟩

end Go.Proofs.Ytmlmnmafbpjnbaa
