/- Contracts in the form in which the statements of layer 39 use them. -/
import Derived.Test.YtmlmnmafbpjnbaaW9
namespace Go.Proofs.Ytmlmnmafbpjnbaa
open Go.RowKit Go.PF Go.Col

def plOk (n k a : Int) : Bool := decide (0 ≤ n ∧ n ≤ 65536 ∧ 1 ≤ k ∧ k ≤ 64 ∧ 0 ≤ a ∧ a < n)
def plP (n k a : Int) : Int := if plOk n k a then (placeF n.toNat k.toNat a.toNat : Int) else 0
def plE (n k a : Int) : Int := if plOk n k a then 0 else 2

theorem plBad {n k a : Int} (h : ¬ (0 ≤ n ∧ n ≤ 65536 ∧ 1 ≤ k ∧ k ≤ 64 ∧ 0 ≤ a ∧ a < n)) : n < 0 ∨ limitsF n k ≠ 0 ∨ a < 0 ∨ n ≤ a := by
  unfold limitsF
  by_cases h1 : n < 0
  · exact .inl h1
  by_cases h2 : a < 0
  · exact .inr (.inr (.inl h2))
  by_cases h3 : n ≤ a
  · exact .inr (.inr (.inr h3))
  refine .inr (.inl ?_)
  split
  · omega
  · split <;> omega

theorem placeAll (n k a : Int) (w : World) : Calls Try.prog 11 #[.int .i64 n, .int .i64 k, .int .i64 a] w fun e w' => e = .returned (.tuple #[.int .i64 (plP n k a), .int .i64 (plE n k a)]) ∧ Ext w w' := by
  by_cases h : 0 ≤ n ∧ n ≤ 65536 ∧ 1 ≤ k ∧ k ≤ 64 ∧ 0 ≤ a ∧ a < n
  · have hb : plOk n k a = true := decide_eq_true h
    unfold plP plE
    rw [if_pos hb, if_pos hb]
    obtain ⟨h1, h2, h3, h4, h5, h6⟩ := h
    clear hb
    obtain ⟨n, rfl⟩ := Int.eq_ofNat_of_zero_le h1
    obtain ⟨k, rfl⟩ := Int.eq_ofNat_of_zero_le (show 0 ≤ k by omega)
    obtain ⟨a, rfl⟩ := Int.eq_ofNat_of_zero_le h5
    simp only [Int.toNat_natCast]
    exact place_ext n k a w (by omega) (by omega) (by omega) (by omega)
  · have hb : plOk n k a = false := decide_eq_false h
    unfold plP plE
    rw [hb, if_neg (by simp), if_neg (by simp)]
    exact (place_bad n k a w (plBad h)).mono fun e w' ⟨h, m, hm⟩ => ⟨h, by rw [hm]; exact (Ext.refl w).drewN m⟩

theorem rplaceAll (n k a : Int) (w : World) : Calls Try.prog 12 #[.int .i64 n, .int .i64 k, .int .i64 a] w fun e w' => e = .returned (.tuple #[.int .i64 (plP n k a), .int .i64 (plE n k a)]) ∧ Ext w w' := by
  by_cases h : 0 ≤ n ∧ n ≤ 65536 ∧ 1 ≤ k ∧ k ≤ 64 ∧ 0 ≤ a ∧ a < n
  · have hb : plOk n k a = true := decide_eq_true h
    unfold plP plE
    rw [if_pos hb, if_pos hb]
    obtain ⟨h1, h2, h3, h4, h5, h6⟩ := h
    clear hb
    obtain ⟨n, rfl⟩ := Int.eq_ofNat_of_zero_le h1
    obtain ⟨k, rfl⟩ := Int.eq_ofNat_of_zero_le (show 0 ≤ k by omega)
    obtain ⟨a, rfl⟩ := Int.eq_ofNat_of_zero_le h5
    simp only [Int.toNat_natCast]
    have := rplace_ok n k a w (by omega) (by omega) (by omega) (by omega)
    rw [place_law n k a (by omega) (by omega)] at this
    exact this
  · have hb : plOk n k a = false := decide_eq_false h
    unfold plP plE
    rw [hb, if_neg (by simp), if_neg (by simp)]
    exact (rplace_bad n k a w (plBad h)).mono fun e w' ⟨h, hm⟩ => ⟨h, by rw [← hm]; exact Ext.refl w⟩

/-- What an argument that is a slice of bytes reads as. -/
theorem rdF_arg {w : World} {a : Option Addr} {len cap : Nat} {zs : List Int} (h : (a = none ∧ len = 0 ∧ cap = 0 ∧ zs = []) ∨
    ∃ x, a = some x ∧ len ≤ cap ∧ cap ≤ maxLen ∧ zs.length = cap ∧ (∀ i, i < zs.length → w.cell? (x.add i) = some (.int .u8 (zs.getD i 0))) ∧ ∀ n ∈ zs, (Lit.int .u8 n).wf = true) :
    ∃ c : Nat → Int, RdF w a len c ∧ len ≤ cap ∧ cap ≤ maxLen ∧ ∀ i, 0 ≤ c i ∧ c i < 256 := by
  rcases h with ⟨rfl, rfl, rfl, rfl⟩ | ⟨x, rfl, hl, hm, hz, hc, hw⟩
  · exact ⟨fun _ => 0, .inl rfl, Nat.le_refl _, Nat.zero_le _, fun _ => ⟨Int.le_refl _, by show (0 : Int) < 256; omega⟩⟩
  · refine ⟨fun i => zs.getD i 0, ?_, hl, hm, fun i => ?_⟩
    · rcases Nat.eq_zero_or_pos len with h0 | h0
      · exact .inl h0
      · obtain ⟨b, off, spot⟩ := x
        have h1 := hc 0 (by omega)
        have hs : spot = none := by simpa [Addr.add] using World.cell?_spot h1
        subst hs
        refine .inr ⟨b, off, rfl, fun k hk => ?_⟩
        have := hc k (by omega)
        have hadd : (⟨b, off, none⟩ : Addr).add k = ⟨b, off + k, none⟩ := by unfold Addr.add; split <;> simp_all
        rwa [hadd] at this
    · show 0 ≤ zs.getD i 0 ∧ zs.getD i 0 < 256
      rw [List.getD_eq_getElem?_getD]
      rcases Nat.lt_or_ge i zs.length with hi | hi
      · rw [List.getElem?_eq_getElem hi]
        have := hw _ (List.getElem_mem hi)
        simp [Lit.wf, show IntKind.u8.min = 0 from rfl, show IntKind.u8.max = 255 from rfl] at this ⊢
        omega
      · rw [List.getElem?_eq_none hi]; simp

end Go.Proofs.Ytmlmnmafbpjnbaa
