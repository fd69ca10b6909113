/- The program's Sorted. -/
import Derived.Test.YtdbmggdnbdcanaaSort2
namespace Go.Proofs.Ytdbmggdnbdcanaa
open Go.RowKit
open BigFrame

theorem without_length (x : Id) (l : List Id) : (without x l).length ≤ l.length := List.length_filter_le _ _
theorem uniqN_length (l : List Id) : ∀ n, (uniqN l n).length ≤ n
  | 0 => Nat.le_refl _
  | n + 1 => by
    have := uniqN_length l n
    rw [uniqN]
    split
    · omega
    · simp; omega

set_option maxHeartbeats 6400000 in
theorem sorted_any (self : Id) (v : Value) (l : List Id) (w : World) (hv : IdsV w v l) (hl : l.length ≤ 4000000000) :
    Calls Try.prog 20 #[.agg (idL self).toArray, v] w fun e w' => ∃ v' l', e = .returned v' ∧ l'.Perm (without self l) ∧ (∀ i j, i < j → j < l'.length → ltB (l'.getD j 0) (l'.getD i 0) = false) ∧ OwnV w' w.heap.size v' (uniqN l' l'.length) ∧ Kept w w' := by
  go_enter Try.func20, Try.ntmps20
  go_wp2_with (go_at_call 27; refine (clone_any v l _ (idsV_kept (ka (k0 w) _) hv) (by omega)).mono ?_; rintro e w1 ⟨v1, rfl, o1, q1⟩; refine stop_here ?_)
  refine Stopped.go ?_
  have r1 : rowAt w1 w.heap.size 0 16 = some (idL self) := rowAt_below q1 (by go_simp)
  have z1 : w.heap.size + 1 ≤ w1.heap.size := by have := q1.size; simpa using this
  have k1 : Kept w w1 := kt (ka (k0 w) _) q1
  have o1' : OwnV w1 (w.heap.size + 1) v1 l := ownV_mono o1 (by simp)
  clear o1 q1
  go_wp2_with (go_at_call 26; refine (del_any self w.heap.size (w.heap.size + 1) v1 l w1 o1' (by omega) z1 r1 (by omega)).mono ?_; rintro e w2 ⟨v2, rfl, o2, b2⟩; refine stop_here ?_)
  refine Stopped.go ?_
  have z2 := Nat.le_trans z1 b2.size
  have hwl := without_length self l
  go_wp2_with (go_at_call 29; refine (sort_any (w.heap.size + 1) v2 (without self l) w2 o2 z2 (by omega)).mono ?_; rintro e w3 ⟨rfl, l', hp, hs, o3, b3⟩; refine stop_here ?_)
  refine Stopped.go ?_
  have z3 := Nat.le_trans z2 b3.size
  have hpl := hp.length_eq
  have hs' := Lib.hid hs
  clear hs
  go_wp2_with (go_at_call 31; refine (compact_any (w.heap.size + 1) v2 l' w3 o3 z3 (by omega)).mono ?_; rintro e w4 ⟨v4, rfl, o4, b4⟩; refine stop_here ?_)
  refine Stopped.go ?_
  have z4 := Nat.le_trans z3 b4.size
  have hul := uniqN_length l' l'.length
  have k4 : Kept w w4 := kept_bl k1 (by omega) (b2.trans (b3.trans b4))
  go_wp2_with (at_builtin; refine stop_here ?_)
  refine Stopped.go (wpList_app2 rfl (.const (.slice none 0 0)) (.tmp 13) rfl w.heap.size _ _ [] (uniqN l' l'.length) rfl rfl ?h1 ?h2 ?h3 ?h4 ?_)
  case h1 => exact ownV_nil _ _
  case h2 => exact ownV_ids o4
  case h3 => simp; omega
  case h4 => omega
  intro v5 w5 o5 g5
  go_wp2_with fail
  go_ret
  exact ⟨v5, l', rfl, hp, hs'.out, by simpa using o5, g5 w k4 (Nat.le_refl _)⟩
end Go.Proofs.Ytdbmggdnbdcanaa
