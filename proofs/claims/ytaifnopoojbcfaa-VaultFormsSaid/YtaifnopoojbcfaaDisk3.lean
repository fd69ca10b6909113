/- disk.New, Power. -/
import Derived.Test.YtaifnopoojbcfaaDisk2
namespace Go.Proofs.Ytaifnopoojbcfaa
open Go.RowKit
open BigFrame

theorem info_sec : (Try.prog.info? 91).map (fun i => (i.zero, i.size, i.bytes)) = some (some (.agg (bL zsec).toArray), 64, 64) := by kernel_rfl

set_option maxHeartbeats 800000 in
theorem power_any (a g : Nat) (S : List (List UInt8)) (p : Int) (n : Int) (w : World) (hD : DiskAt w a g S p) :
    Calls Try.prog 11 #[.pointer (some ⟨a, 0, none⟩), .int .i64 n] w fun e w' => e = .returned (.tuple #[]) ∧ DiskAt w' a g S (max n (-1)) ∧ KeptX [a, g] w w' := by
  obtain ⟨c0, c1, f1, f2, dn, c2⟩ := disk_cells hD
  go_enter Try.func11, Try.ntmps11
  go_wp2_with fail
  · have hlt : n < -1 := by assumption
    go_end0
    rw [show max n (-1) = -1 by omega]
    exact ⟨rfl, disk_pow hD _, xset (x0 _ _) (by simp) _⟩
  · have hge : -1 ≤ n := by assumption
    go_end0
    rw [show max n (-1) = n by omega]
    exact ⟨rfl, disk_pow hD _, xset (x0 _ _) (by simp) _⟩

theorem made_zero (n : Nat) : (madeCells (Value.agg (bL zsec).toArray).cells (n * 64)).toList = bL (List.replicate n zsec).flatten := by
  have h1 : (List.replicate n zsec).flatten = List.replicate (n * 64) 0 := by
    unfold zsec
    rw [List.flatten_replicate_replicate]
  have hz : ∀ j, j < 64 → (bL zsec)[j]? = some (bC 0) := by
    intro j hj
    unfold bL zsec
    rw [List.map_replicate, List.getElem?_replicate, if_pos hj]
  have hl : (bL zsec).length = 64 := by rw [bL_length, zsec_length]
  rw [h1]
  generalize bL zsec = Z at *
  apply List.ext_getElem?
  intro i
  by_cases hi : i < n * 64
  · have h64 : i % 64 < 64 := Nat.mod_lt _ (by omega)
    have h3 := hz (i % 64) h64
    simp [madeCells, bL, Value.cells, hi, hl]
    rw [h3]
    rfl
  · simp [madeCells, bL, hi]

set_option maxHeartbeats 800000 in
theorem dnew_any (n : Nat) (w : World) (hn : n ≤ 4096) :
    Calls Try.prog 10 #[.int .i64 n] w fun e w' => ∃ a g, e = .returned (.pointer (some ⟨a, 0, none⟩)) ∧ w.heap.size ≤ a ∧ w.heap.size ≤ g ∧ DiskAt w' a g (List.replicate n zsec) (-1) ∧ Kept w w' := by
  obtain ⟨i0, hi, hz0, hz1, hz2⟩ := info_parts info_sec
  have m1 : max (n : Int) 0 = n := by omega
  have m2 : min (n : Int) 4096 = n := by omega
  go_enter Try.func10, Try.ntmps10
  go_wp2_with (at_make; refine stop_here ?_)
  refine Stopped.go (wpList_make_full _ rfl (.tmp 5) (.tmp 5) 58 rfl w.heap.size 91 i0 _ 64 Try.underlying58 hi hz0 hz1 _ _ _ _ n rfl rfl rfl rfl (by rw [hz2]; omega) (by unfold maxLen; omega) (Nat.le_refl _) ?_)
  intro w1 o1 g1
  have hk : Kept w w1 := (k0 w).grown g1 (Nat.le_refl _) (by simp)
  have hD : DiskAt (w1.alloc (.cells #[.slice (some ⟨w.heap.size, 0, none⟩) n n, .int .i64 (-1), .int .i64 0] 60)) w1.heap.size w.heap.size (List.replicate n zsec) (-1) := by
    rcases o1 with ⟨ol, ⟨h1, _⟩ | ⟨gg, cap, cur, h1, _, h2, _, _, h5, h6⟩⟩
    · cases h1
    · simp only [Value.slice.injEq, Option.some.injEq, Addr.mk.injEq] at h1
      obtain ⟨⟨rfl, -, -⟩, -, rfl⟩ := h1
      have hlt := (Array.getElem?_eq_some_iff.1 h2).1
      have hc : cur = (bL (List.replicate n zsec).flatten).toArray := by
        apply Array.toList_inj.1
        rw [List.take_of_length_le (by rw [Array.length_toList]; omega)] at h6
        rw [h6, made_zero]
      refine ⟨⟨0, by rw [heap_alloc_new, List.length_replicate]⟩, by rw [Below.heap_alloc _ _ _ hlt, h2, hc], by omega, ?_, by simpa using hn⟩
      intro s hs
      rw [List.eq_of_mem_replicate hs, zsec_length]
  have hs1 := hk.size
  clear o1 g1
  go_wp2_with fail
  go_ret
  exact ⟨_, _, rfl, hs1, Nat.le_refl _, hD, ka hk _⟩
end Go.Proofs.Ytaifnopoojbcfaa
