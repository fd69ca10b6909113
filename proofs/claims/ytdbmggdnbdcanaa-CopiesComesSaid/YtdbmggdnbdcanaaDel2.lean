/- slices.DeleteFunc with ring.Sorted's predicate. -/
import Derived.Test.YtdbmggdnbdcanaaDel
namespace Go.Proofs.Ytdbmggdnbdcanaa
open Go.RowKit
open BigFrame

theorem zero_cells (n : Nat) : (Builtin.zeroCells (Value.agg (idL 0).toArray).cells n).toList.length = n * 16 := by
  simp [Builtin.zeroCells, Value.cells]
theorem zero_one (n : Nat) : ∀ v ∈ (Builtin.zeroCells (Value.agg (idL 0).toArray).cells n).toList, v.oneCell' = true := by
  intro v hv
  simp only [Builtin.zeroCells, Array.toList_map, List.mem_map, Array.toList_range, List.mem_range] at hv
  obtain ⟨i, _, rfl⟩ := hv
  have hc : (Value.agg (idL 0).toArray).cells = (idL 0).toArray := rfl
  rw [hc]
  have hsz : (idL 0).toArray.size = 16 := by simp
  rw [hsz]
  have hs : i % 16 < (idL 0).toArray.size := by rw [hsz]; exact Nat.mod_lt _ (by omega)
  rw [getElem!_pos (idL 0).toArray (i % 16) hs]
  have := rowOk_id 0
  unfold rowOk at this
  simp only [Bool.and_eq_true, Array.all_eq_true_iff_forall_mem] at this
  exact this.2 _ (by simp)

/-- clear(s[i:]): the row's head stays. -/
theorem own_clear {w : World} {g cap : Nat} {l : List Id} (h : Own w g cap l) (i : Nat) (L : List Value) (hL : i * 16 + L.length ≤ cap * 16) : Own (putRow w g (i * 16) L) g cap (l.take i) := by
  obtain ⟨cur, h1, h2, h3, h4, h5⟩ := h
  obtain ⟨c', g1, g2, g3⟩ := heap_putRow_same (L := L) h1 (o := i * 16) (by omega)
  refine ⟨c', g1, by rw [g2, h2], by simp; omega, h4, ?_⟩
  rw [List.length_take, g3, List.append_assoc, List.take_append_of_le_length (by simp; omega), List.take_take, ← flat_take, ← h5, List.take_take]
  congr 1
  omega

theorem run_clear_ids {w : World} (g i n c cap : Nat) (l : List Id) (hn : 0 < n) (hown : Own w g cap l) (hi : i + n ≤ cap) :
    ∃ Z : List Value, (∀ ty, (Builtin.clear_ #[24] ty #[.slice (some ⟨g, i * 16, none⟩) n c]).run Try.prog w = .ok (.tuple #[]) (putRow w g (i * 16) Z)) ∧ Own (putRow w g (i * 16) Z) g cap (l.take i) := by
  have hput : canPut w g (i * 16) (n * 16) = true := by
    obtain ⟨cur, h1, h2, _⟩ := hown
    unfold canPut
    rw [h1]
    simp only [Bool.and_eq_true, decide_eq_true_eq]
    exact ⟨by omega, rfl⟩
  have hth := canPut_there hput
  have hv : ∀ w, (zeroValue 23).run Try.prog w = .ok (Value.agg (idL 0).toArray) w := by
    intro w
    exact Try.zeroValue23 w
  have hst := run_storeCells_cells (P := Try.prog) g (i * 16) (Builtin.zeroCells (Value.agg (idL 0).toArray).cells n).toList 0 w (by
    intro j hj; rw [zero_cells] at hj; exact (hth j hj).1) (by intro j hj; rw [zero_cells] at hj; exact (hth j hj).2) (zero_one n)
  obtain ⟨m, rfl⟩ : ∃ m, n = m + 1 := ⟨n - 1, by omega⟩
  refine ⟨_, fun ty => ?_, own_clear hown i (Builtin.zeroCells (Value.agg (idL 0).toArray).cells (m + 1)).toList (by rw [zero_cells]; omega)⟩
  simp only [Nat.add_zero] at hst
  simp [Builtin.clear_, run_underlying Try.underlying24, hv]
  rw [show (0#128 : Id) = 0 from rfl, hst]
  rfl
end Go.Proofs.Ytdbmggdnbdcanaa
