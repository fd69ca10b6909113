/- An item's record: the program's and the reference's Form. -/
import Derived.Test.YtaifnopoojbcfaaVTypes
namespace Go.Proofs.Ytaifnopoojbcfaa
open Go.RowKit
open BigFrame

def text1 (t : List UInt8) : List UInt8 := num1 t.length ++ t
def formB (key : Id) (n : Nat) (who : Id) (t : List UInt8) : List UInt8 := num1 2 ++ bytL key ++ num1 n ++ bytL who ++ text1 t
theorem idL_bL (x : Id) : idL x = bL (bytL x) := idL_cells x
theorem bytL_length (x : Id) : (bytL x).length = 16 := by simp [bytL]
theorem num1_le (n : Nat) (h : n < 18446744073709551616) : (num1 n).length ≤ 9 := by rw [num1_length]; have := wideN_le h; omega
theorem putNums_one (n : Nat) : putNums [n] = num1 n := by simp [putNums]
/-- The parts of an item in memory. -/
theorem item_key {w : World} {b : Nat} {x : It} (h : rowAt w b 0 34 = some (itemL x)) : rowAt w b 0 16 = some (idL x.key) := by
  have := rowAt_sub h 0 16 (by omega)
  rwa [Nat.zero_add, List.drop_zero, itemL_key] at this
theorem item_who {w : World} {b : Nat} {x : It} (h : rowAt w b 0 34 = some (itemL x)) : rowAt w b 17 16 = some (idL x.ver.who) := by
  have := rowAt_sub h 17 16 (by omega)
  rwa [Nat.zero_add, itemL_who] at this
theorem item_ver {w : World} {b : Nat} {x : It} (h : rowAt w b 0 34 = some (itemL x)) : rowAt w b 16 17 = some (verL x.ver) := by
  have := rowAt_sub h 16 17 (by omega)
  rwa [Nat.zero_add, itemL_ver] at this
theorem item_n {w : World} {b : Nat} {x : It} (h : rowAt w b 0 34 = some (itemL x)) : w.cell? ⟨b, 16, none⟩ = some (.int .i64 x.ver.n) := by
  have := rowAt_cell h 16 (by omega)
  rwa [Nat.zero_add, itemL_n] at this
theorem item_val {w : World} {b : Nat} {x : It} (h : rowAt w b 0 34 = some (itemL x)) : w.cell? ⟨b, 33, none⟩ = some x.val := by
  have := rowAt_cell h 33 (by omega)
  rwa [Nat.zero_add, itemL_val] at this

theorem cell_made (w : World) (x : Value) (t : TypeId) : (w.alloc (.cells #[x] t)).cell? ⟨w.heap.size, 0, none⟩ = some x := by go_simp

set_option maxHeartbeats 1600000 in
theorem rtext_any (s : Value) (t : List UInt8) (w : World) (hs : ElV w s (bL t)) (hl : t.length ≤ 140737488351232) :
    Calls Try.prog 22 #[s] w fun e w' => ∃ v', e = .returned v' ∧ OwV w' w.heap.size 5 v' (bL (text1 t)) ∧ Kept w w' := by
  obtain ⟨ao, cap, rfl, hcap, hao⟩ := elV_form hs
  simp only [bL_length] at hcap hs ⊢
  go_enter Try.func22, Try.ntmps22
  go_wp2_with fail
  refine (rnum_any t.length _ (by omega)).mono ?_
  rintro e w1 ⟨v1, rfl, o1, q1⟩
  have n1 := num1_le t.length (by omega)
  go_wp2_with (at_builtin; refine stop_here ?_)
  refine Stopped.go (wpList_appB rfl (.tmp 6) (.tmp 7) rfl w.heap.size _ _ (num1 t.length) t rfl rfl o1 (elV_kept q1 hs) (by omega) q1.size ?_)
  intro v2 w2 o2 g2
  have q2 := g2 w q1 (Nat.le_refl _)
  go_wp2_with fail
  go_ret
  exact ⟨_, rfl, o2, q2⟩

set_option maxHeartbeats 1600000 in
theorem ptext_any (g : Nat) (s : Value) (t : List UInt8) (w : World) (hg : w.cell? ⟨g, 0, none⟩ = some s) (hs : ElV w s (bL t)) (hl : t.length ≤ 140737488351232) :
    Calls Try.prog 20 #[.slice (some ⟨g, 0, none⟩) 1 1] w fun e w' => ∃ v', e = .returned v' ∧ OwV w' w.heap.size 5 v' (bL (text1 t)) ∧ Kept w w' := by
  obtain ⟨ao, cap, rfl, hcap, hao⟩ := elV_form hs
  simp only [bL_length] at hcap hs hg ⊢
  go_enter Try.func20, Try.ntmps20
  go_wp2_with fail
  go_loopw [3, 8] (fun ov iv wr => ((iv = .int .i64 0 ∧ OwV wr w.heap.size 5 ov (bL [])) ∨ (iv = .int .i64 1 ∧ OwV wr w.heap.size 5 ov (bL (text1 t)))) ∧ Kept w wr) (fun _ iv _ => 1 - (intOf iv).toNat)
  case atStart => exact ⟨.inl ⟨rfl, owV_nil _ _ _⟩, k0 _⟩
  case round =>
    obtain ⟨⟨rfl, ho⟩ | ⟨rfl, ho⟩, q⟩ := hrel
    · have hg1 : wr.cell? ⟨g, 0, none⟩ = some (.slice ao t.length cap) := by rw [q.cell (p := ⟨g, 0, none⟩) (block_lt_of_cell hg)]; exact hg
      have n1 := num1_le t.length (by omega)
      go_wp2_with fail
      refine (putnum_any _ [t.length] _ (elV_made1 _ _ _) (by intro n hn; simp at hn; omega) (by simp)).mono ?_
      rintro e w1 ⟨v1, rfl, o1, q1⟩
      have q2 := kt (ka q _) q1
      rw [putNums_one] at o1
      go_wp2_with (at_builtin; refine stop_here ?_)
      refine Stopped.go (wpList_appB rfl (.tmp 12) (.tmp 17) rfl w.heap.size _ _ [] (num1 t.length) rfl rfl (owV_kept q1 (owV_kept (ka (k0 _) _) ho)) (owV_elV o1) (by simp; omega) q2.size ?_)
      intro v2 w2 o2 g2
      have q3 := g2 w q2 (Nat.le_refl _)
      rw [List.nil_append] at o2
      go_wp2_with (at_builtin; refine stop_here ?_)
      refine Stopped.go (wpList_appB rfl (.tmp 18) (.tmp 19) rfl w.heap.size _ _ (num1 t.length) t rfl rfl o2 (elV_kept q3 hs) (by omega) q3.size ?_)
      intro v3 w3 o3 g3
      have q4 := g3 w q3 (Nat.le_refl _)
      go_wp2_with fail
      go_roundw
      case rel => exact ⟨.inr ⟨rfl, o3⟩, q4⟩
      case measure => simp [intOf]
    · go_wp2_with fail
      go_ret
      exact ⟨_, rfl, ho, q⟩

set_option maxHeartbeats 1600000 in
theorem pform_any (key : Id) (n : Nat) (who : Id) (s : Value) (t : List UInt8) (w : World) (hs : ElV w s (bL t)) (hl : t.length ≤ 140737488351232) (hn : n ≤ 9223372036854775807) :
    Calls Try.prog 6 #[.agg (itemL ⟨key, ⟨n, who⟩, s⟩).toArray] w fun e w' => ∃ v', e = .returned v' ∧ OwV w' w.heap.size 5 v' (bL (formB key n who t)) ∧ Kept w w' := by
  obtain ⟨ao, cap, rfl, -, -⟩ := elV_form hs
  simp only [bL_length] at hs ⊢
  go_enter Try.func6, Try.ntmps6
  go_wp2_with fail
  refine (putnum_any _ [2] _ (elV_made_at _ _ (by simp)) (by intro m hm; simp at hm; omega) (by simp)).mono ?_
  rintro e w1 ⟨v1, rfl, o1, q1⟩
  rw [putNums_one] at o1
  have k1 : Kept (w.alloc (.cells (itemL ⟨key, ⟨n, who⟩, .slice ao t.length cap⟩).toArray 28)) w1 := kt (ka (k0 _) _) q1
  clear q1
  have r1 : rowAt w1 w.heap.size 0 34 = some (itemL ⟨key, ⟨n, who⟩, .slice ao t.length cap⟩) := rowAt_below k1 (by go_simp)
  have hw1 : w.heap.size + 1 ≤ w1.heap.size := by have := k1.size; simpa using this
  have o1 := owV_mono (base' := w.heap.size + 1) o1 (by simp)
  have l1 : (num1 2).length ≤ 9 := num1_le 2 (by omega)
  have l2 := num1_le n (by omega)
  have l3 := bytL_length key
  have l4 := bytL_length who
  have Hl := Lib.hid (And.intro l3 l4)
  clear l3 l4
  have hx : ElV w1 (.slice (some ⟨w.heap.size, 0, none⟩) 16 16) (bL (bytL key)) := by rw [← idL_bL]; exact elV_row (item_key r1) (Nat.le_refl _)
  go_wp2_with (at_builtin; refine stop_here ?_)
  refine Stopped.go (wpList_appB rfl (.tmp 6) (.tmp 8) rfl (w.heap.size + 1) _ _ (num1 2) (bytL key) rfl rfl o1 hx (by rw [Hl.out.1]; omega) hw1 ?_)
  intro v2 w2 o2 g2
  have k2 := g2 (w.alloc (.cells (itemL ⟨key, ⟨n, who⟩, .slice ao t.length cap⟩).toArray 28)) k1 (by simp)
  have r2 : rowAt w2 w.heap.size 0 34 = some (itemL ⟨key, ⟨n, who⟩, .slice ao t.length cap⟩) := rowAt_below k2 (by go_simp)
  have hw2 : w.heap.size + 1 ≤ w2.heap.size := by have := k2.size; simpa using this
  have c2 := item_n r2
  clear o1 hx g2 r1 k1 hw1
  go_wp2_with fail
  refine (putnum_any _ [n] _ (elV_made_at _ _ rfl) (by intro m hm; simp at hm; omega) (by simp)).mono ?_
  rintro e w3 ⟨v3, rfl, o3, q3⟩
  rw [putNums_one] at o3
  have k23 : Kept w2 w3 := kt (ka (k0 _) _) q3
  clear q3
  have k3 := kt k2 k23
  have hw3 : w.heap.size + 1 ≤ w3.heap.size := by have := k3.size; simpa using this
  have o2' := owV_kept k23 o2
  clear c2 o2 k23 k2 hw2 r2
  go_wp2_with (at_builtin; refine stop_here ?_)
  refine Stopped.go (wpList_appB rfl (.tmp 10) (.tmp 16) rfl (w.heap.size + 1) _ _ (num1 2 ++ bytL key) (num1 n) rfl rfl o2' (owV_elV o3) (by rw [List.length_append, Hl.out.1]; omega) hw3 ?_)
  intro v4 w4 o4 g4
  have k4 := g4 (w.alloc (.cells (itemL ⟨key, ⟨n, who⟩, .slice ao t.length cap⟩).toArray 28)) k3 (by simp)
  have r4 : rowAt w4 w.heap.size 0 34 = some (itemL ⟨key, ⟨n, who⟩, .slice ao t.length cap⟩) := rowAt_below k4 (by go_simp)
  have hw4 : w.heap.size + 1 ≤ w4.heap.size := by have := k4.size; simpa using this
  have hx : ElV w4 (.slice (some ⟨w.heap.size, 17, none⟩) 16 16) (bL (bytL who)) := by rw [← idL_bL]; exact elV_row (item_who r4) (Nat.le_refl _)
  clear o2' o3 g4 k3 hw3
  go_wp2_with (at_builtin; refine stop_here ?_)
  refine Stopped.go (wpList_appB rfl (.tmp 18) (.tmp 21) rfl (w.heap.size + 1) _ _ (num1 2 ++ bytL key ++ num1 n) (bytL who) rfl rfl o4 hx (by rw [List.length_append, List.length_append, Hl.out.1, Hl.out.2]; omega) hw4 ?_)
  intro v5 w5 o5 g5
  have k5 := g5 (w.alloc (.cells (itemL ⟨key, ⟨n, who⟩, .slice ao t.length cap⟩).toArray 28)) k4 (by simp)
  have r5 : rowAt w5 w.heap.size 0 34 = some (itemL ⟨key, ⟨n, who⟩, .slice ao t.length cap⟩) := rowAt_below k5 (by go_simp)
  have hw5 : w.heap.size + 1 ≤ w5.heap.size := by have := k5.size; simpa using this
  have c5 := item_val r5
  have hs5 := elV_kept (kt (ka (k0 w) _) k5) hs
  clear o4 hx g5 k4 hw4 r4
  go_wp2_with fail
  refine (ptext_any w5.heap.size _ t _ (cell_made w5 _ _) (elV_kept (ka (k0 _) _) hs5) hl).mono ?_
  rintro e w6 ⟨v6, rfl, o6, q6⟩
  have k56 : Kept w5 w6 := kt (ka (k0 _) _) q6
  clear q6
  have k6 := kt k5 k56
  have hw6 : w.heap.size + 1 ≤ w6.heap.size := by have := k6.size; simpa using this
  have o5' := owV_kept k56 o5
  have l7 : (text1 t).length ≤ 140737488351241 := by unfold text1; rw [List.length_append]; have := num1_le t.length (by omega); omega
  clear c5 o5 k56 k5 hw5 r5 hs5
  go_wp2_with (at_builtin; refine stop_here ?_)
  refine Stopped.go (wpList_appB rfl (.tmp 23) (.tmp 27) rfl (w.heap.size + 1) _ _ (num1 2 ++ bytL key ++ num1 n ++ bytL who) (text1 t) rfl rfl o5' (owV_elV o6) (by rw [List.length_append, List.length_append, List.length_append, Hl.out.1, Hl.out.2]; omega) hw6 ?_)
  intro v7 w7 o7 g7
  have k7 := g7 (w.alloc (.cells (itemL ⟨key, ⟨n, who⟩, .slice ao t.length cap⟩).toArray 28)) k6 (by simp)
  go_wp2_with fail
  go_ret
  exact ⟨_, rfl, owV_mono o7 (by omega), kt (ka (k0 w) _) k7⟩

set_option maxHeartbeats 1600000 in
theorem rform_any (key : Id) (n : Nat) (who : Id) (s : Value) (t : List UInt8) (w : World) (hs : ElV w s (bL t)) (hl : t.length ≤ 140737488351232) (hn : n ≤ 9223372036854775807) :
    Calls Try.prog 7 #[.agg (itemL ⟨key, ⟨n, who⟩, s⟩).toArray] w fun e w' => ∃ v', e = .returned v' ∧ OwV w' w.heap.size 5 v' (bL (formB key n who t)) ∧ Kept w w' := by
  obtain ⟨ao, cap, rfl, -, -⟩ := elV_form hs
  simp only [bL_length] at hs ⊢
  go_enter Try.func7, Try.ntmps7
  go_wp2_with fail
  refine (rnum_any 2 _ (by omega)).mono ?_
  rintro e w1 ⟨v1, rfl, o1, q1⟩
  have k1 : Kept (w.alloc (.cells (itemL ⟨key, ⟨n, who⟩, .slice ao t.length cap⟩).toArray 28)) w1 := q1
  clear q1
  have r1 : rowAt w1 w.heap.size 0 34 = some (itemL ⟨key, ⟨n, who⟩, .slice ao t.length cap⟩) := rowAt_below k1 (by go_simp)
  have hw1 : w.heap.size + 1 ≤ w1.heap.size := by have := k1.size; simpa using this
  have o1 := owV_mono (base' := w.heap.size + 1) o1 (by simp)
  have l1 : (num1 2).length ≤ 9 := num1_le 2 (by omega)
  have l2 := num1_le n (by omega)
  have l3 := bytL_length key
  have l4 := bytL_length who
  have Hl := Lib.hid (And.intro l3 l4)
  clear l3 l4
  have hx : ElV w1 (.slice (some ⟨w.heap.size, 0, none⟩) 16 16) (bL (bytL key)) := by rw [← idL_bL]; exact elV_row (item_key r1) (Nat.le_refl _)
  go_wp2_with (at_builtin; refine stop_here ?_)
  refine Stopped.go (wpList_appB rfl (.tmp 5) (.tmp 7) rfl (w.heap.size + 1) _ _ (num1 2) (bytL key) rfl rfl o1 hx (by rw [Hl.out.1]; omega) hw1 ?_)
  intro v2 w2 o2 g2
  have k2 := g2 (w.alloc (.cells (itemL ⟨key, ⟨n, who⟩, .slice ao t.length cap⟩).toArray 28)) k1 (by simp)
  have r2 : rowAt w2 w.heap.size 0 34 = some (itemL ⟨key, ⟨n, who⟩, .slice ao t.length cap⟩) := rowAt_below k2 (by go_simp)
  have hw2 : w.heap.size + 1 ≤ w2.heap.size := by have := k2.size; simpa using this
  have c2 := item_n r2
  clear o1 hx g2 r1 k1 hw1
  go_wp2_with fail
  refine (rnum_any n _ (by omega)).mono ?_
  rintro e w3 ⟨v3, rfl, o3, q3⟩
  have k23 : Kept w2 w3 := q3
  clear q3
  have k3 := kt k2 k23
  have hw3 : w.heap.size + 1 ≤ w3.heap.size := by have := k3.size; simpa using this
  have o2' := owV_kept k23 o2
  clear c2 o2 k23 k2 hw2 r2
  go_wp2_with (at_builtin; refine stop_here ?_)
  refine Stopped.go (wpList_appB rfl (.tmp 9) (.tmp 14) rfl (w.heap.size + 1) _ _ (num1 2 ++ bytL key) (num1 n) rfl rfl o2' (owV_elV o3) (by rw [List.length_append, Hl.out.1]; omega) hw3 ?_)
  intro v4 w4 o4 g4
  have k4 := g4 (w.alloc (.cells (itemL ⟨key, ⟨n, who⟩, .slice ao t.length cap⟩).toArray 28)) k3 (by simp)
  have r4 : rowAt w4 w.heap.size 0 34 = some (itemL ⟨key, ⟨n, who⟩, .slice ao t.length cap⟩) := rowAt_below k4 (by go_simp)
  have hw4 : w.heap.size + 1 ≤ w4.heap.size := by have := k4.size; simpa using this
  have hx : ElV w4 (.slice (some ⟨w.heap.size, 17, none⟩) 16 16) (bL (bytL who)) := by rw [← idL_bL]; exact elV_row (item_who r4) (Nat.le_refl _)
  clear o2' o3 g4 k3 hw3
  go_wp2_with (at_builtin; refine stop_here ?_)
  refine Stopped.go (wpList_appB rfl (.tmp 16) (.tmp 19) rfl (w.heap.size + 1) _ _ (num1 2 ++ bytL key ++ num1 n) (bytL who) rfl rfl o4 hx (by rw [List.length_append, List.length_append, Hl.out.1, Hl.out.2]; omega) hw4 ?_)
  intro v5 w5 o5 g5
  have k5 := g5 (w.alloc (.cells (itemL ⟨key, ⟨n, who⟩, .slice ao t.length cap⟩).toArray 28)) k4 (by simp)
  have r5 : rowAt w5 w.heap.size 0 34 = some (itemL ⟨key, ⟨n, who⟩, .slice ao t.length cap⟩) := rowAt_below k5 (by go_simp)
  have hw5 : w.heap.size + 1 ≤ w5.heap.size := by have := k5.size; simpa using this
  have c5 := item_val r5
  have hs5 := elV_kept (kt (ka (k0 w) _) k5) hs
  clear o4 hx g5 k4 hw4 r4
  go_wp2_with fail
  refine (rtext_any _ t _ hs5 hl).mono ?_
  rintro e w6 ⟨v6, rfl, o6, q6⟩
  have k56 : Kept w5 w6 := q6
  clear q6
  have k6 := kt k5 k56
  have hw6 : w.heap.size + 1 ≤ w6.heap.size := by have := k6.size; simpa using this
  have o5' := owV_kept k56 o5
  have l7 : (text1 t).length ≤ 140737488351241 := by unfold text1; rw [List.length_append]; have := num1_le t.length (by omega); omega
  clear c5 o5 k56 k5 hw5 r5 hs5
  go_wp2_with (at_builtin; refine stop_here ?_)
  refine Stopped.go (wpList_appB rfl (.tmp 21) (.tmp 24) rfl (w.heap.size + 1) _ _ (num1 2 ++ bytL key ++ num1 n ++ bytL who) (text1 t) rfl rfl o5' (owV_elV o6) (by rw [List.length_append, List.length_append, List.length_append, Hl.out.1, Hl.out.2]; omega) hw6 ?_)
  intro v7 w7 o7 g7
  have k7 := g7 (w.alloc (.cells (itemL ⟨key, ⟨n, who⟩, .slice ao t.length cap⟩).toArray 28)) k6 (by simp)
  go_wp2_with fail
  go_ret
  exact ⟨_, rfl, owV_mono o7 (by omega), kt (ka (k0 w) _) k7⟩
end Go.Proofs.Ytaifnopoojbcfaa
