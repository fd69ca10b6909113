/- The functions on identities of the reference (annuletref01), third part. -/
import Derived.Test.YtdbmggdnbdcanaaId2
namespace Go.Proofs.Ytdbmggdnbdcanaa
open Go.RowKit
open BigFrame

/-- The shorter way. -/
def farI (x y : Id) : Id := if ltB (y - x) (x - y) = true then y - x else x - y

set_option maxHeartbeats 800000 in
theorem rfar_any (x y : Id) (w : World) :
    Calls Try.prog 24 #[.agg (idL x).toArray, .agg (idL y).toArray] w fun e w' => e = .returned (.agg (idL (farI x y)).toArray) ∧ Kept w w' := by
  go_enter Try.func24, Try.ntmps24
  go_wp2_with fail
  refine wp_any_world (fun W => Kept w W ∧ rowAt W w.heap.size 0 16 = some (idL x) ∧ rowAt W (w.heap.size + 1) 0 16 = some (idL y) ∧ canPut W (w.heap.size + 1 + 1) 0 16 = true) ⟨ka (ka (ka (k0 w) _) _) _, by go_simp, by go_simp, by go_simp⟩ ?_
  rintro W ⟨q, r1, r2, c1⟩
  have f1 := rowAt_later r1
  have f2 := rowAt_later r2
  refine wp_region_later (by kernel_rfl) (by kernel_rfl) ?_
  repeat (go_big_quiet_step (first | (go_at_call 23; exact calls_later (sub_any _ _ _)) | (go_at_call 22; exact calls_later (less_any _ _ _))))
  refine wpQuiet_nil ?_
  rintro w1 hq
  have r3 := rowAt_below hq r1
  have r4 := rowAt_below hq r2
  have c3 := canPut_below hq c1
  have q3 := kt q hq
  clear f1 f2 r1 r2 c1 q hq
  go_wp2_with fail
  all_goals
    refine (sub_any _ _ _).mono ?_
    rintro e w2 ⟨rfl, hb2⟩
    have c4 := canPut_below hb2 c3
    have q4 := kt q3 hb2
    clear hb2 r3 r4 c3 q3
    go_wp2
  · refine bodyPost_ret (v := .agg (idL (y - x)).toArray) (results_row rfl _ _ (w.heap.size + 1 + 1) (idL (y - x)) _ 16 rfl (by go_simp) Try.underlying23 rfl (by kernel_rfl)) rfl ⟨?_, kp q4 (by omega) _ _⟩
    have h : ltB (y - x) (x - y) = true := by assumption
    unfold farI; rw [if_pos h]
  · refine bodyPost_ret (v := .agg (idL (x - y)).toArray) (results_row rfl _ _ (w.heap.size + 1 + 1) (idL (x - y)) _ 16 rfl (by go_simp) Try.underlying23 rfl (by kernel_rfl)) rfl ⟨?_, kp q4 (by omega) _ _⟩
    have h : ltB (y - x) (x - y) = false := by assumption
    unfold farI; rw [if_neg (by rw [h]; exact Bool.false_ne_true)]

end Go.Proofs.Ytdbmggdnbdcanaa
