/- The program's functions on identities (package ident): Compare, Far, Nearer. -/
import Derived.Test.YtdbmggdnbdcanaaId4
import Derived.Test.YtdbmggdnbdcanaaCmp
import Derived.Test.YtdbmggdnbdcanaaRegion
namespace Go.Proofs.Ytdbmggdnbdcanaa
open Go.RowKit
open BigFrame

set_option maxHeartbeats 800000 in
theorem bcompare_any (x y : Id) (b1 b2 n1 n2 : Nat) (w : World) (h1 : rowAt w b1 0 16 = some (idL x)) (h2 : rowAt w b2 0 16 = some (idL y)) :
    Calls Try.prog 40 #[.slice (some ⟨b1, 0, none⟩) 16 n1, .slice (some ⟨b2, 0, none⟩) 16 n2] w fun e w' => e = .returned (.int .i64 (cmpI x y)) ∧ Kept w w' := by
  have e := run_callFunc_extern Try.func51 (by kernel_rfl) (by kernel_rfl) (by kernel_rfl) (e := Extern.BytealgCompare.compare) (by kernel_rfl) #[.slice (some ⟨b1, 0, none⟩) 16 n1, .slice (some ⟨b2, 0, none⟩) 16 n2] w
  rw [run_compare_ids _ w x y b1 b2 n1 n2 h1 h2] at e
  simp only [Result.andThen] at e
  go_enter Try.func40, Try.ntmps40
  go_wp2
  go_ret
  exact ⟨rfl, k0 _⟩

set_option maxHeartbeats 800000 in
theorem compare_any (x y : Id) (w : World) :
    Calls Try.prog 30 #[.agg (idL x).toArray, .agg (idL y).toArray] w fun e w' => e = .returned (.int .i64 (cmpI x y)) ∧ Kept w w' := by
  go_enter Try.func30, Try.ntmps30
  go_wp2_with fail
  refine wp_any_world (fun W => Kept w W ∧ rowAt W w.heap.size 0 16 = some (idL x) ∧ rowAt W (w.heap.size + 1) 0 16 = some (idL y)) ⟨ka (ka (k0 w) _) _, by go_simp, by go_simp⟩ ?_
  rintro W ⟨q, r1, r2⟩
  have f1 := rowAt_later r1
  have f2 := rowAt_later r2
  refine wp_region_later (by kernel_rfl) (by kernel_rfl) ?_
  repeat (go_big_quiet_step (first | (go_at_call 40; exact calls_later (bcompare_any _ _ _ _ _ _ _ (f1 _) (f2 _)))))
  refine wpQuiet_nil ?_
  rintro w1 hq
  go_wp2
  go_ret
  exact ⟨rfl, kt q hq⟩

@[go_sem] theorem rowOk_zero : rowOk #[.int .u8 0, .int .u8 0, .int .u8 0, .int .u8 0, .int .u8 0, .int .u8 0, .int .u8 0, .int .u8 0, .int .u8 0, .int .u8 0, .int .u8 0, .int .u8 0, .int .u8 0, .int .u8 0, .int .u8 0, .int .u8 0] 16 = true := by simp [rowOk, Value.oneCell']
theorem alloc_id (W : World) : (Instr.alloc 23 true (.tuple #[])).run Try.prog W = .ok (.pointer (some ⟨W.heap.size, 0, none⟩)) (W.alloc (.cells (idPart 0 0) 23)) := by
  rw [idPart_zero]
  go_simp

theorem farI_lt {x y : Id} (h : cmpI (x - y) (y - x) < 0) : farI x y = x - y := by
  unfold cmpI at h
  unfold farI ltB
  rw [if_neg]
  simp only [decide_eq_true_eq]
  split at h
  · omega
  · split at h <;> omega
theorem farI_ge {x y : Id} (h : 0 ≤ cmpI (x - y) (y - x)) : farI x y = y - x := by
  unfold cmpI at h
  unfold farI ltB
  by_cases hl : (y - x).toNat < (x - y).toNat
  · rw [if_pos (by simpa using hl)]
  · rw [if_neg (by simpa using hl)]
    apply BitVec.eq_of_toNat_eq
    split at h
    · omega
    · omega

set_option maxHeartbeats 3200000 in
theorem far_any (x y : Id) (w : World) :
    Calls Try.prog 35 #[.agg (idL x).toArray, .agg (idL y).toArray] w fun e w' => e = .returned (.agg (idL (farI x y)).toArray) ∧ Kept w w' := by
  go_enter Try.func35, Try.ntmps35
  go_wp2_with fail
  refine wp_any_world (fun W => Kept w W ∧ rowAt W w.heap.size 0 16 = some (idL x) ∧ rowAt W (w.heap.size + 1) 0 16 = some (idL y) ∧ canPut W (w.heap.size + 1 + 1) 0 16 = true) ⟨ka (ka (ka (k0 w) _) _) _, by go_simp, by go_simp, by go_simp⟩ ?_
  rintro W ⟨q, r1, r2, c1⟩
  refine wp_region_two (af := ?af) ⟨6, 8, 5, 9, 23, 16, idL (x - y)⟩ ⟨7, 9, 6, 12, 23, 16, idL (y - x)⟩ (by kernel_rfl) (by kernel_rfl) (by kernel_rfl) (by kernel_rfl) (idPart 0 0) (by simp) alloc_id (idPart 0 0) (by simp) alloc_id (by kernel_rfl) (by kernel_rfl) (show (5 : Nat) ≠ 6 by decide) (show (8 : Nat) ≠ 9 by decide) (by simp) (by simp) ?g1 ?g2 ?hh (rowOk_id _) ?g3 (rowOk_id _) ?g4 ?hq
  case hh =>
    intro V hV
    have f1 := rowAt_later (rowAt_below hV r1)
    have f2 := rowAt_later (rowAt_below hV r2)
    simp (config := { decide := true }) only [nopAt, nopOf, ↓reduceIte]
    repeat (go_big_quiet_step (first | (go_at_call 36; exact calls_later (isub_any _ _ _))))
    refine wpQuiet_nil ?_
    rfl
  case g1 => simp
  case g2 => simp
  case g3 => rfl
  case g4 => rfl
  case hq =>
    intro b b2 W1 hk _ _ hne _ t1 _ t2
    simp only [Act.put, List.setIfInBounds_toArray, List.set_cons_zero, List.set_cons_succ]
    have c2 := canPut_below hk c1
    have q2 := kt q hk
    clear hk q c1 r1 r2
    go_wp2_with fail
    refine (compare_any _ _ _).mono ?_
    rintro e w2 ⟨rfl, hb2⟩
    have c4 := canPut_below hb2 c2
    have q4 := kt q2 hb2
    have t3 := rowAt_below hb2 t1
    have t4 := rowAt_below hb2 t2
    clear hb2 c2 q2 t1 t2
    go_wp2
    · refine bodyPost_ret (v := .agg (idL (x - y)).toArray) (results_row rfl _ _ (w.heap.size + 1 + 1) (idL (x - y)) _ 16 rfl (by go_simp) Try.underlying23 rfl (by kernel_rfl)) rfl ⟨?_, kp q4 (by omega) _ _⟩
      have h : cmpI (x - y) (y - x) < 0 := by assumption
      rw [farI_lt h]
    · refine bodyPost_ret (v := .agg (idL (y - x)).toArray) (results_row rfl _ _ (w.heap.size + 1 + 1) (idL (y - x)) _ 16 rfl (by go_simp) Try.underlying23 rfl (by kernel_rfl)) rfl ⟨?_, kp q4 (by omega) _ _⟩
      have h : 0 ≤ cmpI (x - y) (y - x) := by assumption
      rw [farI_ge h]

end Go.Proofs.Ytdbmggdnbdcanaa
