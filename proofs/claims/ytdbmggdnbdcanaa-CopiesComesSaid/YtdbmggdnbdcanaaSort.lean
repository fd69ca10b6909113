/- slices.SortFunc at identities, by ident.Compare: the shelf's contract. -/
import Derived.Test.YtdbmggdnbdcanaaComp
import Derived.Test.YtdbmggdnbdcanaaSlay
namespace Go.Proofs.Ytdbmggdnbdcanaa
open Go.RowKit
open BigFrame
open Go.Sort (flatK size_flatK get_flatK HoldsK)

set_option maxHeartbeats 800000 in
theorem bcompare_draw (x y : Id) (b1 b2 n1 n2 : Nat) (w : World) (h1 : rowAt w b1 0 16 = some (idL x)) (h2 : rowAt w b2 0 16 = some (idL y)) :
    Calls Try.prog 40 #[.slice (some ⟨b1, 0, none⟩) 16 n1, .slice (some ⟨b2, 0, none⟩) 16 n2] w fun e w' => e = .returned (.int .i64 (cmpI x y)) ∧ ∃ n, w' = w.drewN n := by
  have e := run_callFunc_extern Try.func51 (by kernel_rfl) (by kernel_rfl) (by kernel_rfl) (e := Extern.BytealgCompare.compare) (by kernel_rfl) #[.slice (some ⟨b1, 0, none⟩) 16 n1, .slice (some ⟨b2, 0, none⟩) 16 n2] w
  rw [run_compare_ids _ w x y b1 b2 n1 n2 h1 h2] at e
  simp only [Result.andThen] at e
  go_enter Try.func40, Try.ntmps40
  go_wp2
  go_ret
  exact ⟨rfl, 0, rfl⟩

set_option maxHeartbeats 800000 in
theorem compare_grow (x y : Id) (w : World) :
    Calls Try.prog 30 #[.agg (idL x).toArray, .agg (idL y).toArray] w fun e w' => e = .returned (.int .i64 (cmpI x y)) ∧ ∃ q os, w' = Go.Sort.grow (w.drewN q) os := by
  go_enter Try.func30, Try.ntmps30
  go_wp2_with fail
  refine wp_any_world (fun W => W = (w.alloc (.cells (idL x).toArray 23)).alloc (.cells (idL y).toArray 23) ∧ rowAt W w.heap.size 0 16 = some (idL x) ∧ rowAt W (w.heap.size + 1) 0 16 = some (idL y)) ⟨rfl, by go_simp, by go_simp⟩ ?_
  rintro W ⟨q, r1, r2⟩
  have q' := Lib.hid q
  clear q
  go_quiet (first | (go_at_call 40; refine Calls.quiet_of (bcompare_draw x y _ _ _ _ _ ?_ ?_) <;> go_simp))
  go_wp2
  go_ret
  refine ⟨rfl, nq, #[.cells (idL x).toArray 23] ++ #[.cells (idL y).toArray 23], ?_⟩
  rw [q'.out, Go.Sort.alloc_eq_grow, Go.Sort.alloc_eq_grow, Go.Sort.grow_grow]
  rfl

theorem flatK_flat (d : Array Id) : flatK idL 16 d = (flat d.toList).toArray := by
  apply Array.ext
  · simp [flat_length]
  · intro t h1 h2
    rw [size_flatK] at h1
    have hi : t / 16 < d.toList.length := by rw [Array.length_toList]; omega
    have h3 := flat_row d.toList (t / 16) hi
    have h4 : (flat d.toList)[t]? = (idL (d.toList.getD (t / 16) 0))[t % 16]? := by
      rw [← h3, List.getElem?_take_of_lt (Nat.mod_lt _ (by omega)), List.getElem?_drop, show t / 16 * 16 + t % 16 = t by omega]
    have h5 := get_flatK idL 16 d t h1
    rw [getElem!_pos (flatK idL 16 d) t (by rw [size_flatK]; exact h1)] at h5
    have hd : d[t / 16]! = d.toList.getD (t / 16) 0 := by
      have : t / 16 < d.size := by omega
      rw [getElem!_pos d (t / 16) this]
      simp [List.getD, this]
    rw [hd] at h5
    have h6 : t % 16 < (idL (d.toList.getD (t / 16) 0)).length := by rw [idL_length]; exact Nat.mod_lt _ (by omega)
    rw [h5, getElem!_pos (idL (d.toList.getD (t / 16) 0)) (t % 16) h6]
    rw [List.getElem?_eq_getElem h6] at h4
    have h7 := (List.getElem?_eq_some_iff.1 h4).2
    simp only [List.getElem_toArray]
    exact h7.symm

theorem own_holds {w : World} {g cap : Nat} {l : List Id} (h : Own w g cap l) : HoldsK idL 16 w g 0 l.toArray := by
  intro j hj
  rw [flatK_flat] at hj ⊢
  have hj' : j < (flat l).length := by simpa using hj
  have hc := ids_cells (own_ids h) j (flat l)[j] (List.getElem?_eq_getElem hj')
  refine ⟨?_, ?_⟩
  · rw [hc, getElem!_pos (flat l).toArray j (by simpa using hj')]
    simp
  · rw [Nat.zero_add]
    obtain ⟨cur, h1, h2, h3, h4, h5⟩ := h
    exact frozen_of_row w g j cur _ h1

theorem own_sorted {w : World} {g cap : Nat} {l : List Id} (h : Own w g cap l) (n : Nat) (d : Array Id) (hd : d.size = l.length) (os : Array Obj) : Own (sortWorldK idL 16 w g 0 n d os) g cap d.toList := by
  have hlt := own_lt h
  obtain ⟨cur, h1, h2, h3, h4, h5⟩ := h
  refine ⟨Go.Sort.putCells id 0 (flatK idL 16 d) cur, ?_, by simp [Go.Sort.putCells, h2], by simpa [hd] using h3, h4, ?_⟩
  · unfold sortWorldK Go.Sort.grow Go.Sort.putRowK Go.Sort.putRow Go.Sort.mapBlock Go.Sort.ahead
    simp only
    rw [Array.getElem?_append_left (by simpa using hlt), Array.getElem?_modify, if_pos rfl, h1]
    rfl
  · apply List.ext_getElem?
    intro t
    by_cases ht : t < d.toList.length * 16
    · have ht2 : t < cur.size := by rw [Array.length_toList] at ht; omega
      have ht3 : t < (flatK idL 16 d).size := by rw [size_flatK]; simpa using ht
      rw [List.getElem?_take_of_lt ht, Array.getElem?_toList, Go.Sort.putCells, Array.getElem?_mapIdx, Array.getElem?_eq_getElem ht2]
      simp only [Option.map_some]
      rw [if_pos ⟨Nat.zero_le _, by omega⟩, Nat.sub_zero, getElem!_pos (flatK idL 16 d) t ht3]
      have h6 : (flatK idL 16 d)[t]? = (flat d.toList)[t]? := by rw [flatK_flat]; simp
      rw [← h6, Array.getElem?_eq_getElem ht3]
      rfl
    · rw [List.getElem?_eq_none (by simp; simp at ht; omega), List.getElem?_eq_none (by rw [flat_length]; omega)]
end Go.Proofs.Ytdbmggdnbdcanaa
