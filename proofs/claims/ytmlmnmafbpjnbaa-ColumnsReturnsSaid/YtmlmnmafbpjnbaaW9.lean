/- The walk of the chapter's examples ('awake'); a slice of bytes as a string. -/
import Derived.Test.YtmlmnmafbpjnbaaW8
import Derived.Test.YtmlmnmafbpjnbaaSpe2
import Derived.Laws.BytesString
import Derived.Lib.SlBytesConst
namespace Go.Proofs.Ytmlmnmafbpjnbaa
open Go.RowKit Go.PF Go.Col

/-- the string of the bytes f 0, .. -/
def strF (f : Nat → Int) (n : Nat) : ByteArray := ((List.range n).map f).foldl (fun r m => r.push (UInt8.ofNat m.toNat)) ByteArray.empty

theorem conv_bytes {w : World} {A : Option Addr} {n : Nat} {f : Nat → Int} (h : RdF w A n f) (cap : Nat) : (convert 29 9 (.slice A n cap)).run Try.prog w = .ok (.string (strF f n)) w := by
  rw [run_convert_bytes_string w 29 9 5 A n cap Try.underlying29 Try.underlying5 (by rfl)]
  rcases A with _ | a
  · rcases h with h | ⟨b, off, h, _⟩
    · subst h; rfl
    · cases h
  · have hl : (loadCells a n).run Try.prog w = .ok (((List.range n).map f).map (Value.int .u8)).toArray w := by
      have := run_loadCells (P := Try.prog) (w := w) a n (fun j => .int .u8 (f j)) (fun j hj => by
        rcases h with h | ⟨b, off, h, hc⟩
        · omega
        · cases h
          have hadd : (⟨b, off, none⟩ : Addr).add j = ⟨b, off + j, none⟩ := by unfold Addr.add; split <;> simp_all
          rw [hadd]; exact hc j hj)
      rw [this]
      congr 1
      apply Array.ext'
      simp [List.map_map, Function.comp_def]
    exact run_bytesToString w a n cap _ hl

theorem strF_congr {f g : Nat → Int} {n : Nat} (h : ∀ j, j < n → f j = g j) : strF f n = strF g n := by
  unfold strF
  rw [List.map_congr_left (fun j hj => h j (List.mem_range.1 hj))]

def aw1 (j : Nat) : Int := [97, 98, 99, 100, 101, 102, 103].getD j 0
def aw2 (j : Nat) : Int := [97, 98, 99, 97, 98, 99, 97].getD j 0
theorem aw1_fwd : strF (fun j => aw1 (ordAt 7 3 j)) 7 = { data := #[97, 100, 103, 98, 101, 99, 102] } := by decide +kernel
theorem aw2_guess : guessTo (fun k => scoreTo aw2 k (min 7 4096)) 63 = 3 := by decide +kernel
theorem aw_place : placeF 7 3 4 = 4 := by decide +kernel
theorem aw_len : ordLen 7 3 = 7 := by decide +kernel
theorem rd7 (w : World) (a b c d e f g : Int) : RdF (w.alloc (.cells #[.int .u8 a, .int .u8 b, .int .u8 c, .int .u8 d, .int .u8 e, .int .u8 f, .int .u8 g] 5 (7, 8))) (some ⟨w.heap.size, 0, none⟩) 7 (fun j => [a, b, c, d, e, f, g].getD j 0) := by
  refine .inr ⟨w.heap.size, 0, rfl, fun k hk => ?_⟩
  rw [Nat.zero_add]
  rw [World.cell?_alloc_mark]
  match k, hk with
  | 0, _ | 1, _ | 2, _ | 3, _ | 4, _ | 5, _ | 6, _ => rfl

theorem place_ext (n k a : Nat) (w : World) (hn : n ≤ 65536) (hk1 : 1 ≤ k) (hk : k ≤ 64) (ha : a < n) :
    Calls Try.prog 11 #[.int .i64 n, .int .i64 k, .int .i64 a] w fun e w' => e = .returned (.tuple #[.int .i64 (placeF n k a), .int .i64 0]) ∧ Ext w w' :=
  (place_any n k a w hn hk1 hk ha).mono fun e w' ⟨h, m, hm⟩ => ⟨h, by rw [hm]; exact (Ext.refl w).drewN m⟩

set_option maxHeartbeats 1000000 in
theorem awake_any (w : World) : Calls Try.prog 10 #[] w fun e w' => e = .returned (.bool true) ∧ Ext w w' := by
  have kc := fun (w : World) (C : Array Value) (n c : Nat) => Lib.run_convert_bytes_const (P := Try.prog) w 29 5 C n c Try.underlying29 Try.underlying5
  go_enter Try.func10, Try.ntmps10
  go_wp2_with fail
  refine (forward_ok _ 7 7 aw1 3 _ (by omega) (by omega) (by omega) (rd7 w 97 98 99 100 101 102 103)).mono ?_
  rintro e w1 ⟨B, cap', rfl, hr, hx⟩
  rw [aw_len] at hr ⊢
  have hx1 : Ext w w1 := Ext.trans (b := w.alloc (.cells #[.int .u8 97, .int .u8 98, .int .u8 99, .int .u8 100, .int .u8 101, .int .u8 102, .int .u8 103] 5 (7, 8))) ((Below.refl _ _).alloc (Nat.le_refl _) _) hx
  clear hx
  go_wp2_with fail
  refine (place_ext 7 3 4 _ (by omega) (by omega) (by omega) (by omega)).mono ?_
  rintro e w2 ⟨rfl, hx2⟩
  rw [aw_place]
  have hs := conv_bytes (hr.ext hx2) cap'
  rw [aw1_fwd] at hs
  have HR := Lib.hid hr; clear hr
  go_wp2_with fail
  refine (guess_any _ 7 7 aw2 _ (by omega) (by omega) (rd7 w2 97 98 99 97 98 99 97)).mono ?_
  rintro e w3 ⟨rfl, hx⟩
  rw [aw2_guess]
  clear hs kc
  go_wp2_with fail
  go_ret
  exact ⟨rfl, (hx1.trans hx2).trans (Ext.trans (b := w2.alloc (.cells #[.int .u8 97, .int .u8 98, .int .u8 99, .int .u8 97, .int .u8 98, .int .u8 99, .int .u8 97] 5 (7, 8))) ((Below.refl _ _).alloc (Nat.le_refl _) _) hx)⟩

end Go.Proofs.Ytmlmnmafbpjnbaa
