/- The vault's small functions: copied, Inc, Down; what a vault is in memory. -/
import Derived.Test.YtaifnopoojbcfaaMap
namespace Go.Proofs.Ytaifnopoojbcfaa
open Go.RowKit
open BigFrame

def VaultAt (w : World) (vb lb mb inc : Nat) : Prop := w.heap[vb]? = some (.cells #[.pointer (some ⟨lb, 0, none⟩), .map (some mb), .int .i64 inc] 67 (0, 0))
theorem vault_cells {w : World} {vb lb mb inc : Nat} (h : VaultAt w vb lb mb inc) : w.cell? ⟨vb, 0, none⟩ = some (.pointer (some ⟨lb, 0, none⟩)) ∧ w.cell? ⟨vb, 1, none⟩ = some (.map (some mb)) ∧ w.cell? ⟨vb, 2, none⟩ = some (.int .i64 inc) ∧ w.frozen? ⟨vb, 2, none⟩ = false :=
  ⟨cell_of_row w vb 0 _ _ _ h, cell_of_row w vb 1 _ _ _ h, cell_of_row w vb 2 _ _ _ h, frozen_of_row w vb 2 _ _ h⟩
theorem vault_x {bs : List Nat} {w w' : World} (hk : KeptX bs w w') {vb lb mb inc : Nat} (h : VaultAt w vb lb mb inc) (hn : vb ∉ bs) : VaultAt w' vb lb mb inc := heap_x hk h hn
theorem vault_kept {w w' : World} (hk : Kept w w') {vb lb mb inc : Nat} (h : VaultAt w vb lb mb inc) : VaultAt w' vb lb mb inc := heap_kept hk h
theorem vault_lt {w : World} {vb lb mb inc : Nat} (h : VaultAt w vb lb mb inc) : vb < w.heap.size := (Array.getElem?_eq_some_iff.1 h).1
theorem vault_inc {w : World} {vb lb mb inc : Nat} (h : VaultAt w vb lb mb inc) (n : Nat) : VaultAt (w.setCell ⟨vb, 2, none⟩ (.int .i64 n)) vb lb mb n := heap_setCell_same w vb 2 _ _ _ h

set_option maxHeartbeats 400000 in
theorem inc_any (vb lb mb inc : Nat) (w : World) (h : VaultAt w vb lb mb inc) :
    Calls Try.prog 13 #[.pointer (some ⟨vb, 0, none⟩)] w fun e w' => e = .returned (.int .i64 inc) ∧ Kept w w' := by
  obtain ⟨c0, c1, c2, f2⟩ := vault_cells h
  go_enter Try.func13, Try.ntmps13
  go_wp2_with fail
  go_ret
  exact ⟨rfl, k0 _⟩
set_option maxHeartbeats 400000 in
theorem ldown_any (lb a gen u n : Nat) (d : Bool) (w : World) (h : LogAt w lb a gen u n d) :
    Calls Try.prog 29 #[.pointer (some ⟨lb, 0, none⟩)] w fun e w' => e = .returned (.bool d) ∧ Kept w w' := by
  obtain ⟨c0, c1, c2, c3, c4⟩ := log_cells h
  go_enter Try.func29, Try.ntmps29
  go_wp2_with fail
  go_ret
  exact ⟨rfl, k0 _⟩
set_option maxHeartbeats 400000 in
theorem vdown_any (vb lb mb inc a gen u n : Nat) (d : Bool) (w : World) (hv : VaultAt w vb lb mb inc) (h : LogAt w lb a gen u n d) :
    Calls Try.prog 18 #[.pointer (some ⟨vb, 0, none⟩)] w fun e w' => e = .returned (.bool d) ∧ Kept w w' := by
  obtain ⟨c0, c1, c2, f2⟩ := vault_cells hv
  go_enter Try.func18, Try.ntmps18
  go_wp2_with fail
  refine (ldown_any lb a gen u n d _ h).mono ?_
  rintro e w1 ⟨rfl, q1⟩
  go_wp2_with fail
  go_ret
  exact ⟨rfl, q1⟩

theorem item_setval {w : World} {b : Nat} {x : It} {t : TypeId} (h : w.heap[b]? = some (.cells (itemL x).toArray t (0, 0))) (v : Value) : rowAt (w.setCell ⟨b, 33, none⟩ v) b 0 34 = some (itemL ⟨x.key, x.ver, v⟩) := by
  have h1 := heap_setCell_same w b 33 _ _ v h
  have e : (itemL x).toArray.setIfInBounds 33 v = (itemL ⟨x.key, x.ver, v⟩).toArray := by
    apply Array.toList_inj.1
    rw [Array.toList_setIfInBounds]
    have hl : (idL x.key ++ verL x.ver).length = 33 := by simp
    have e1 : itemL x = (idL x.key ++ verL x.ver) ++ [x.val] := by unfold itemL; rw [List.append_assoc]
    have e2 : itemL ⟨x.key, x.ver, v⟩ = (idL x.key ++ verL x.ver) ++ [v] := by unfold itemL; rw [List.append_assoc]
    show (itemL x).set 33 v = itemL ⟨x.key, x.ver, v⟩
    rw [e1, e2, List.set_append_right _ _ (by omega), hl]
    rfl
  rw [e] at h1
  exact rowAt_heap h1 (itemL_length _)

set_option maxHeartbeats 1600000 in
theorem copied_any (x : It) (t : List UInt8) (w : World) (hs : ElV w x.val (bL t)) (hl : t.length ≤ 1000) :
    Calls Try.prog 28 #[.agg (itemL x).toArray] w fun e w' => ∃ v', e = .returned (.agg (itemL ⟨x.key, x.ver, v'⟩).toArray) ∧ OwV w' w.heap.size 5 v' (bL t) ∧ Kept w w' := by
  go_enter Try.func28, Try.ntmps28
  go_wp2_with (with_reducible refine stop_slot 3 rfl ?_)
  refine Stopped.go (wpList_any_world (fun W => Kept w W ∧ W.heap[w.heap.size]? = some (.cells (itemL x).toArray 28 (0, 0)) ∧ canPut W (w.heap.size + 1) 0 34 = true) ⟨ka (ka (k0 w) _) _, heap_past _ _ (heap_at _ _ rfl), by go_simp⟩ ?_)
  rintro W ⟨q, hh, hcp⟩
  have c33 := item_val (rowAt_heap hh (itemL_length _))
  have hs1 := elV_kept q hs
  obtain ⟨ao, cap, hval, -, -⟩ := elV_form hs1
  rw [bL_length] at hval
  rw [hval] at c33 hs1
  go_wp2_with (at_builtin; refine stop_here ?_)
  refine Stopped.go (wpList_appB rfl (.const (.slice none 0 0)) (.tmp 4) rfl W.heap.size _ _ [] t rfl rfl (owV_nil _ _ _) hs1 (by simp; omega) (Nat.le_refl _) ?_)
  intro v1 w1 o1 g1
  rw [List.nil_append] at o1
  have q1 := g1 W (k0 _) (Nat.le_refl _)
  obtain ⟨ao1, cap1, rfl, -, -⟩ := elV_form (owV_elV o1)
  rw [bL_length] at o1 ⊢
  have hh1 := heap_kept q1 hh
  have hcp1 := canPut_below q1 hcp
  have c1 := item_val (rowAt_heap hh1 (itemL_length _))
  have f1 : w1.frozen? ⟨w.heap.size, 33, none⟩ = false := frozen_of_row w1 _ _ _ _ hh1
  have hr := item_setval hh1 (.slice ao1 t.length cap1)
  have q2 := kt q q1
  have O1 := Lib.hid o1
  have hlt1 : w.heap.size + 1 < W.heap.size := canPut_size hcp
  have hcs : canPut (w1.setCell ⟨w.heap.size, 33, none⟩ (.slice ao1 t.length cap1)) (w.heap.size + 1) 0 34 = true := by rw [canPut_set_other _ _ _ _ _ _ (by show w.heap.size + 1 ≠ w.heap.size; omega)]; exact hcp1
  have hro := rowOk_item ⟨x.key, x.ver, .slice ao1 t.length cap1⟩ rfl
  clear o1 hs1 c33 hh g1 hcp
  go_wp2_with fail
  exact bodyPost_ret (v := .agg (itemL ⟨x.key, x.ver, .slice ao1 t.length cap1⟩).toArray) (results_row rfl _ _ (w.heap.size + 1) (itemL ⟨x.key, x.ver, .slice ao1 t.length cap1⟩) _ 34 rfl (rowAt_put_same _ _ _ _ _ (by simp) hcs) Try.underlying28 rfl (by kernel_rfl)) rfl ⟨_, rfl, owV_mono (owV_x (bs := [w.heap.size, w.heap.size + 1]) (xput (xset (x0 _ _) (by simp) _) (by simp) _ _) O1.out (by intro k hk; simp at hk; omega)) q.size, kp (ks q2 (Nat.le_refl _) _) (by omega) _ _⟩
end Go.Proofs.Ytaifnopoojbcfaa
