/- vault.Get; vault.Merge. -/
import Derived.Test.YtaifnopoojbcfaaVault6
namespace Go.Proofs.Ytaifnopoojbcfaa
open Go.RowKit
open BigFrame

set_option maxHeartbeats 1600000 in
theorem get_any (vb lb mb inc : Nat) (key : Id) (x : It) (t : List UInt8) (w : World) (hV : VaultAt w vb lb mb inc) (hM : MapAt w mb (some (key, x))) (hsl : isSl x.val = true) (hs : ElV w x.val (bL t)) (ht : t.length ≤ 20) :
    Calls Try.prog 16 #[.pointer (some ⟨vb, 0, none⟩), .agg (idL key).toArray] w fun e w' => ∃ v', e = .returned (.tuple #[.agg (itemL ⟨x.key, x.ver, v'⟩).toArray, .bool true]) ∧ OwV w' w.heap.size 5 v' (bL t) ∧ Kept w w' := by
  go_enter Try.func16, Try.ntmps16
  go_wp2_with fail
  refine wp_any_world (fun W => Kept w W ∧ rowAt W w.heap.size 0 16 = some (idL key) ∧ canPut W (w.heap.size + 1) 0 34 = true) ⟨ka (ka (k0 w) _) _, by go_simp, by go_simp⟩ ?_
  rintro W ⟨q, r0, cp⟩
  refine wp_region_one (af := ?af) ⟨9, 10, 6, 18, 28, 34, itemL x⟩ (by kernel_rfl) (by kernel_rfl) (by kernel_rfl) (by kernel_rfl) (itemL zItem).toArray (by simp) alloc_item (by kernel_rfl) (by simp) ?g1 ?hh (rowOk_item _ hsl) ?g3 ?hq
  case hh =>
    intro V hV'
    obtain ⟨c0, c1, c2, -⟩ := vault_cells (vault_kept (kt q hV') hV)
    have f1 := cell_later c1
    have f2 := rowAt_later (rowAt_below hV' r0)
    have f3 := fun p : Regrown => run_lookupM (later V p) mb (some (key, x)) key true (map_kept (kept_later V p) (map_kept (kt q hV') hM))
    simp only [got, if_true] at f3
    clear c0 c1 c2
    simp (config := { decide := true }) only [nopAt, nopOf, ↓reduceIte]
    repeat (go_big_quiet_step (fail))
    refine wpQuiet_nil ?_
    rfl
  case g1 => simp
  case g3 => rfl
  case hq =>
    intro b W1 hk hb _ hr
    simp only [Act.put, List.setIfInBounds_toArray, List.set_cons_zero, List.set_cons_succ]
    have q2 := kt q hk
    have c1 := canPut_below hk cp
    go_wp2_with fail
    refine (copied_any x t _ (elV_kept q2 hs) (by omega)).mono ?_
    rintro e w3 ⟨v3, rfl, o3, q3⟩
    have c3 := canPut_below q3 c1
    obtain ⟨a3, cp3, rfl, -, -⟩ := elV_form (owV_elV o3)
    rw [bL_length] at o3 ⊢
    have hro := rowOk_item ⟨x.key, x.ver, .slice a3 t.length cp3⟩ rfl
    have q4 := kt q2 q3
    have hs1 := canPut_size cp
    have hs2 := hk.size
    go_wp2_with fail
    exact bodyPost_ret (v := .tuple #[.agg (itemL ⟨x.key, x.ver, .slice a3 t.length cp3⟩).toArray, .bool true]) (results_row2 (p := 4) (q := 5) rfl _ _ (w.heap.size + 1) (itemL ⟨x.key, x.ver, .slice a3 t.length cp3⟩) _ 34 rfl (rowAt_put_same _ _ _ _ _ (by simp) c3) Try.underlying28 rfl (by kernel_rfl)) rfl ⟨_, rfl, owV_mono (owV_x (bs := [w.heap.size + 1]) (xput (x0 _ _) (by simp) _ _) o3 (by intro k hk; simp at hk; omega)) q2.size, kp q4 (by omega) _ _⟩
end Go.Proofs.Ytaifnopoojbcfaa
