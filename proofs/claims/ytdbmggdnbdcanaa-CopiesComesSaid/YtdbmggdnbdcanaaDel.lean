/- All but one: slices.IndexFunc, slices.DeleteFunc with ring.Sorted's predicate. -/
import Derived.Test.YtdbmggdnbdcanaaRoot
namespace Go.Proofs.Ytdbmggdnbdcanaa
open Go.RowKit
open BigFrame

/-- Of the blocks below B nothing turns. -/
theorem bl_alloc {B : Nat} {w W : World} (h : Below B w W) (hb : B ≤ w.heap.size) (o : Obj) : Below B w (W.alloc o) := h.alloc (Nat.le_trans hb h.size) o
theorem bl_kept {B : Nat} {w W W' : World} (h : Below B w W) (hb : B ≤ w.heap.size) (hk : Kept W W') : Below B w W' := h.trans (hk.mono (Nat.le_trans hb h.size))
theorem kept_bl {B : Nat} {w0 w W : World} (h : Kept w0 w) (hb : w0.heap.size ≤ B) (hk : Below B w W) : Kept w0 W := h.trans (hk.mono hb)
theorem row_bl {B : Nat} {w W : World} (h : Below B w W) {b o k : Nat} {cs : List Value} (hb : b < B) (hr : rowAt w b o k = some cs) : rowAt W b o k = some cs := by
  rw [rowAt_same (h.block b hb)]; exact hr
theorem own_kept {w w' : World} (hk : Kept w w') {g cap : Nat} {l : List Id} (h : Own w g cap l) : Own w' g cap l := own_same h (hk.block g (own_lt h))

set_option maxHeartbeats 1600000 in
theorem isself_any (self x : Id) (blk : Nat) (w : World) (hr : rowAt w blk 0 16 = some (idL self)) :
    Calls Try.prog 28 #[.agg (idL x).toArray, .pointer (some ⟨blk, 0, none⟩)] w fun e w' => e = .returned (.bool (x == self)) ∧ Kept w w' := by
  have r1 := rowAt_below (ka (k0 w) (.cells (idL x).toArray 23)) hr
  go_enter Try.func28, Try.ntmps28
  go_wp2_with fail
  go_ret
  exact ⟨rfl, ka (k0 w) _⟩

/-- The first place of x. -/
def idxI (x : Id) (l : List Id) : Nat → Nat → Int
  | _, 0 => -1
  | i, n + 1 => if l.getD i 0 == x then i else idxI x l (i + 1) n

set_option maxHeartbeats 3200000 in
theorem index_any (self : Id) (blk : Nat) (v : Value) (l : List Id) (w : World) (hv : IdsV w v l) (hr : rowAt w blk 0 16 = some (idL self)) (hl : l.length ≤ 9223372036854775807) :
    Calls Try.prog 37 #[v, .func (.func 28) #[] #[.pointer (some ⟨blk, 0, none⟩)]] w fun e w' => e = .returned (.int .i64 (idxI self l 0 l.length)) ∧ Kept w w' := by
  obtain ⟨ao, cap, rfl, hO⟩ := idsV_form hv
  go_enter Try.func37, Try.ntmps37
  go_wp2_with fail
  refine wp_any_world (fun W => Kept w W ∧ rowAt W blk 0 16 = some (idL self)) ⟨k0 w, hr⟩ ?_
  rintro W ⟨q, r1⟩
  go_loopw [8] (fun iv wr => ∃ i : Nat, i ≤ l.length ∧ iv = .int .i64 i ∧ Hid (idxI self l 0 l.length = idxI self l i (l.length - i)) ∧ Kept w wr ∧ rowAt wr blk 0 16 = some (idL self)) (fun iv _ => l.length - (intOf iv).toNat)
  case atStart => exact ⟨0, by omega, rfl, rfl, q, r1⟩
  case round =>
    obtain ⟨i, hi, rfl, H, q, r1⟩ := hrel
    by_cases hlt : i < l.length
    · obtain ⟨b, off, rfl, hr⟩ := idsO_at hO hlt
      have i1 : (i : Int) < (l.length : Int) := by omega
      have r2 := rowAt_below q (hr i hlt)
      have hf : idxI self l i (l.length - i) = if l[i] == self then (i : Int) else idxI self l (i + 1) (l.length - (i + 1)) := by
        rw [show l.length - i = l.length - (i + 1) + 1 by omega, idxI]; simp [List.getD, hlt]
      obtain ⟨cb, hcb⟩ : ∃ cb, (l[i] == self) = cb := ⟨_, rfl⟩
      have L := isself_any self l[i] blk wr r1
      rw [hcb] at L hf
      have L' := Lib.hid L
      have hf' := Lib.hid hf
      clear L hcb hf
      go_wp2_with (go_at_call 28; refine L'.out.mono ?_; rintro e w3 ⟨rfl, hq⟩)
      · have h : cb = true := by assumption
        go_ret
        refine ⟨?_, kt q hq⟩
        rw [Hid] at H
        rw [H, hf'.out, h]
        rfl
      · have h : cb = false := by assumption
        go_roundw
        case rel => exact ⟨i + 1, hlt, by simp, by rw [Hid] at H ⊢; rw [H, hf'.out, h]; rfl, kt q hq, rowAt_below hq r1⟩
        case measure => simp [intOf]; omega
    · have hle : i = l.length := by omega
      subst hle
      go_wp2_with fail
      go_ret
      refine ⟨?_, q⟩
      rw [Hid] at H
      rw [H, Nat.sub_self]
      rfl
end Go.Proofs.Ytdbmggdnbdcanaa
