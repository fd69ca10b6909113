/- The program's functions on identities (package ident). -/
import Derived.Test.YtdbmggdnbdcanaaId3
namespace Go.Proofs.Ytdbmggdnbdcanaa
open Go.RowKit
open BigFrame

/-- What a round of the subtraction leaves. -/
theorem sub_keep {w wr : World} {X Y : List Value} {A : Array Value} {t : TypeId} (q : Kept w wr) (r1 : rowAt wr w.heap.size 0 16 = some X) (r2 : rowAt wr (w.heap.size + 1) 0 16 = some Y)
    (c1 : canPut wr (w.heap.size + 1 + 1) 0 16 = true) (h3 : wr.heap[w.heap.size + 1 + 1 + 1]? = some (.cells A t (0, 0))) (n j : Nat) (v : Value) :
    Kept w ((wr.drewN n).setCell ⟨w.heap.size + 1 + 1 + 1, j, none⟩ v) ∧ rowAt ((wr.drewN n).setCell ⟨w.heap.size + 1 + 1 + 1, j, none⟩ v) w.heap.size 0 16 = some X ∧
    rowAt ((wr.drewN n).setCell ⟨w.heap.size + 1 + 1 + 1, j, none⟩ v) (w.heap.size + 1) 0 16 = some Y ∧ canPut ((wr.drewN n).setCell ⟨w.heap.size + 1 + 1 + 1, j, none⟩ v) (w.heap.size + 1 + 1) 0 16 = true ∧
    ((wr.drewN n).setCell ⟨w.heap.size + 1 + 1 + 1, j, none⟩ v).heap[w.heap.size + 1 + 1 + 1]? = some (.cells (A.setIfInBounds j v) t (0, 0)) := by
  refine ⟨ks (kdn q n) (by show w.heap.size ≤ w.heap.size + 1 + 1 + 1; omega) v, ?_, ?_, ?_, heap_setCell_same _ _ _ _ _ _ h3⟩
  · rw [rowAt_set_other _ _ _ _ _ _ (by show w.heap.size ≠ w.heap.size + 1 + 1 + 1; omega)]; exact r1
  · rw [rowAt_set_other _ _ _ _ _ _ (by show w.heap.size + 1 ≠ w.heap.size + 1 + 1 + 1; omega)]; exact r2
  · rw [canPut_set_other _ _ _ _ _ _ (by show w.heap.size + 1 + 1 ≠ w.heap.size + 1 + 1 + 1; omega)]; exact c1

set_option maxHeartbeats 1600000 in
theorem isub_any (x y : Id) (w : World) :
    Calls Try.prog 36 #[.agg (idL x).toArray, .agg (idL y).toArray] w fun e w' => e = .returned (.agg (idL (x - y)).toArray) ∧ Kept w w' := by
  go_enter Try.func36, Try.ntmps36
  go_wp2_with fail
  refine wp_any_world (fun W => Kept w W ∧ rowAt W w.heap.size 0 16 = some (idL x) ∧ rowAt W (w.heap.size + 1) 0 16 = some (idL y) ∧ canPut W (w.heap.size + 1 + 1) 0 16 = true ∧ W.heap[w.heap.size + 1 + 1 + 1]? = some (.cells (idTail (x - y) 0) 23 (0, 0))) ⟨ka (ka (ka (ka (k0 w) _) _) _) _, by go_simp, by go_simp, by go_simp, by rw [idTail_zero]; exact heap_at _ _ (by simp)⟩ ?_
  rintro W ⟨q, r1, r2, c1, h3⟩
  go_loopw [6, 10] (fun bv iv wr => ∃ i r : Nat, i ≤ 16 ∧ iv = .int .i64 i ∧ bv = .int .i64 r ∧ r ≤ 1 ∧ Hid (r = brw x y i) ∧ Kept w wr ∧ rowAt wr w.heap.size 0 16 = some (idL x) ∧ rowAt wr (w.heap.size + 1) 0 16 = some (idL y) ∧ canPut wr (w.heap.size + 1 + 1) 0 16 = true ∧ wr.heap[w.heap.size + 1 + 1 + 1]? = some (.cells (idTail (x - y) i) 23 (0, 0))) (fun _ iv _ => 16 - (intOf iv).toNat)
  case atStart => exact ⟨0, 0, by omega, rfl, rfl, by omega, (brw_zero x y).symm, q, r1, r2, c1, h3⟩
  case round =>
    obtain ⟨i, r, hi, rfl, rfl, hr, H, q, r1, r2, c1, h3⟩ := hrel
    by_cases hlt : i < 16
    · have b1 : wr.cell? ⟨w.heap.size, 15 - i, none⟩ = some (.int .u8 (byt x (15 - i) : Nat)) := by
        have := rowAt_cell r1 (15 - i) (by omega)
        rwa [Nat.zero_add, idL_get x _ (by omega)] at this
      have b2 : wr.cell? ⟨w.heap.size + 1, 15 - i, none⟩ = some (.int .u8 (byt y (15 - i) : Nat)) := by
        have := rowAt_cell r2 (15 - i) (by omega)
        rwa [Nat.zero_add, idL_get y _ (by omega)] at this
      have l1 := byt_lt x (15 - i)
      have l2 := byt_lt y (15 - i)
      have i1 : (0 : Int) ≤ 15 - (i : Int) := by omega
      have i2 : (15 : Int) - (i : Int) < 16 := by omega
      have b3 : wr.cell? ⟨w.heap.size + 1 + 1 + 1, 15 - i, none⟩ = some (.int .u8 0) := by
        rw [cell_of_row wr _ _ _ _ _ h3, idTail_get _ i _ (by omega), if_neg (by omega)]
      have b4 : wr.frozen? ⟨w.heap.size + 1 + 1 + 1, 15 - i, none⟩ = false := frozen_of_row wr _ _ _ _ h3
      go_wp2_with fail
      go_quiet (fail)
      by_cases hb : byt x (15 - i) < byt y (15 - i) + r
      · go_wp2_with fail
        go_roundw
        case rel =>
          have K := sub_keep q r1 r2 c1 h3 nq (15 - i) (.int .u8 (byt (x - y) (15 - i) : Nat))
          rw [idTail_step (x - y) i hlt] at K
          have e : ((byt x (15 - i) : Nat) : Int) - (byt y (15 - i) : Nat) - r + 256 = (byt (x - y) (15 - i) : Nat) := by
            have := ((sub_byte x y i hlt).1 (by rw [← H.out]; exact hb)).1
            rw [← H.out] at this; omega
          rw [e]
          exact ⟨i + 1, 1, by omega, by go_num, rfl, by omega, (((sub_byte x y i hlt).1 (by rw [← H.out]; exact hb)).2).symm, K⟩
        case measure => simp [intOf]; omega
      · go_wp2_with fail
        go_roundw
        case rel =>
          have K := sub_keep q r1 r2 c1 h3 nq (15 - i) (.int .u8 (byt (x - y) (15 - i) : Nat))
          rw [idTail_step (x - y) i hlt] at K
          have e : ((byt x (15 - i) : Nat) : Int) - (byt y (15 - i) : Nat) - r = (byt (x - y) (15 - i) : Nat) := by
            have := ((sub_byte x y i hlt).2 (by rw [← H.out]; omega)).1
            rw [← H.out] at this; omega
          rw [e]
          exact ⟨i + 1, 0, by omega, by go_num, rfl, by omega, (((sub_byte x y i hlt).2 (by rw [← H.out]; omega)).2).symm, K⟩
        case measure => simp [intOf]; omega
    · have r3 := rowAt_heap (L := idL (x - y)) (k := 16) (by rw [h3, show i = 16 by omega, idTail_full]) (by simp)
      go_wp2
      refine bodyPost_ret (v := .agg (idL (x - y)).toArray) (results_row rfl _ _ (w.heap.size + 1 + 1) (idL (x - y)) _ 16 rfl (by go_simp) Try.underlying23 rfl (by kernel_rfl)) rfl ⟨rfl, kp q (by omega) _ _⟩

end Go.Proofs.Ytdbmggdnbdcanaa
