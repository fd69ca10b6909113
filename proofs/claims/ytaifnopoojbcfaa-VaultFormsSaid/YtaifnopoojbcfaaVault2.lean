/- vault.take into an empty map. -/
import Derived.Test.YtaifnopoojbcfaaVault1
namespace Go.Proofs.Ytaifnopoojbcfaa
open Go.RowKit
open BigFrame

set_option maxHeartbeats 1600000 in
theorem take_any (vb lb mb inc : Nat) (x : It) (w : World) (hv : VaultAt w vb lb mb inc) (hm : MapAt w mb none) :
    Calls Try.prog 39 #[.pointer (some ⟨vb, 0, none⟩), .agg (itemL x).toArray] w fun e w' => e = .returned (.tuple #[]) ∧ MapAt w' mb (some (x.key, x)) ∧ KeptX [mb] w w' := by
  go_enter Try.func39, Try.ntmps39
  go_wp2_with fail
  refine wp_any_world (fun W => Kept w W ∧ rowAt W w.heap.size 0 34 = some (itemL x)) ⟨ka (k0 w) _, rowAt_alloc_at _ _ _ _ _ rfl (itemL_length _)⟩ ?_
  rintro W ⟨q, r0⟩
  have hv1 := vault_kept q hv
  have hm1 := map_kept q hm
  refine wp_region_one (af := ?af) ⟨10, 11, 4, 14, 28, 34, itemL zItem⟩ (by kernel_rfl) (by kernel_rfl) (by kernel_rfl) (by kernel_rfl) (itemL zItem).toArray (by simp) alloc_item (by kernel_rfl) (by simp) ?g1 ?hh (rowOk_item _ rfl) ?g3 ?hq
  case hh =>
    intro V hV
    obtain ⟨c0, c1, c2, -⟩ := vault_cells (vault_kept hV hv1)
    have f1 := cell_later c1
    have f2 := rowAt_later (item_key (rowAt_below hV r0))
    have f3 := fun p : Regrown => run_lookupM (later V p) mb none x.key true (map_kept (kept_later V p) (map_kept hV hm1))
    simp only [got, if_true] at f3
    clear c0 c1 c2
    simp (config := { decide := true }) only [nopAt, nopOf, ↓reduceIte]
    repeat (go_big_quiet_step (fail))
    refine wpQuiet_nil ?_
    rfl
  case g1 => simp
  case g3 => rfl
  case hq =>
    intro b W1 hk hb _ hr
    simp only [Act.put, List.setIfInBounds_toArray, List.set_cons_zero, List.set_cons_succ]
    have r1 := rowAt_below hk r0
    have rk := item_key r1
    obtain ⟨c0, c1, c2, -⟩ := vault_cells (vault_kept hk hv1)
    have hm2 := map_kept hk hm1
    have q2 := kt q hk
    go_wp2_with fail
    go_still_tail 7, (by kernel_rfl)
    refine wpList_update rfl (.tmp 28) (.tmp 30) (.tmp 31) rfl mb none x.key x rfl rfl rfl (map_kept (kd (k0 _)) hm2) (by intro y z h; cases h) ?_
    intro w3 hm3 x3
    go_wp2_with fail
    go_end0
    exact ⟨rfl, hm3, xt (xk q2) (xt (xk (kd (k0 _))) x3)⟩
end Go.Proofs.Ytaifnopoojbcfaa
