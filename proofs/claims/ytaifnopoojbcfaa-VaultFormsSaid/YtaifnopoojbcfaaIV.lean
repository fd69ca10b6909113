/- The reference's functions on identities (annuletref01), as far as the vault's laws reach: Wide, Less; the program's Compare; identities compared. -/
import Derived.Test.YtaifnopoojbcfaaChecked
import Derived.Test.YtaifnopoojbcfaaIdPlain
import Derived.Test.YtaifnopoojbcfaaKit
import Derived.Test.YtaifnopoojbcfaaCmp
namespace Go.Proofs.Ytaifnopoojbcfaa
open Go.RowKit

@[go_sem ↓] theorem loadAt_id (x : Value) : Instr.loadAt 23 x = loadRow 23 x := rfl
@[go_sem] theorem run_load_id (b o : Nat) (W : World) : (loadRow 23 (.pointer (some ⟨b, o, none⟩))).run Try.prog W = (match rowAt W b o 16 with | some cs => .ok (.agg cs.toArray) W | none => (loadRowStuck 23 (.pointer (some ⟨b, o, none⟩))).run Try.prog W) :=
  run_loadRow_of Try.underlying23 rfl (by kernel_rfl) b o W
@[go_sem ↓] theorem storeAt_id (x v : Value) : Instr.storeAt 23 x v = storeRow 23 x v := rfl
@[go_sem] theorem run_store_id (b o : Nat) (cs : Array Value) (W : World) : (storeRow 23 (.pointer (some ⟨b, o, none⟩)) (.agg cs)).run Try.prog W =
    (if rowOk cs 16 = true then (if canPut W b o 16 = true then .ok () (putRow W b o cs.toList) else (storeRowStuck 23 (.pointer (some ⟨b, o, none⟩)) (.agg cs)).run Try.prog W) else (storeRowStuck 23 (.pointer (some ⟨b, o, none⟩)) (.agg cs)).run Try.prog W) :=
  run_storeRow_of (by kernel_rfl) b o cs W
@[go_sem] theorem rowOk_id (x : Id) : rowOk (idL x).toArray 16 = true := by
  simp [rowOk, idL, List.range_succ, Value.oneCell']

set_option maxHeartbeats 400000 in
theorem wide_any (x : Id) (w : World) :
    Calls Try.prog 31 #[.agg (idL x).toArray] w fun e w' => e = .returned (.tuple #[.int .u64 (hi64 x : Nat), .int .u64 (lo64 x : Nat)]) ∧ Below w.heap.size w w' := by
  go_enter Try.func31, Try.ntmps31
  go_wp2
  go_loop [4, 5, 6] (fun hi lo i => ∃ k h l : Nat, k ≤ 8 ∧ i = .int .i64 k ∧ hi = .int .u64 h ∧ lo = .int .u64 l ∧ Hid (h = hiTo x k ∧ l = loTo x k)) (fun _ _ i => 8 - (intOf i).toNat)
  case atStart => exact ⟨0, 0, 0, by omega, rfl, rfl, rfl, (hiTo_zero x).symm, (loTo_zero x).symm⟩
  case round =>
    obtain ⟨k, h, l, hk, rfl, rfl, rfl, H⟩ := hrel
    by_cases hlt : k < 8
    · have b1 := idL_get x k (by omega)
      have b2 := idL_get x (8 + k) (by omega)
      have l1 := byt_lt x k
      have l2 := byt_lt x (8 + k)
      have bh : h ≤ 72057594037927935 := by rw [H.out.1]; exact hiTo_le x k hlt
      have bl : l ≤ 72057594037927935 := by rw [H.out.2]; exact loTo_le x k hlt
      go_wp2
      go_round
      case rel => exact ⟨k + 1, h * 256 + byt x k, l * 256 + byt x (8 + k), by omega, by go_num, by go_num, by go_num, by rw [H.out.1, hiTo_succ x k hlt], by rw [H.out.2, loTo_succ x k hlt]⟩
      case measure => simp [intOf]; omega
    · go_wp2
      go_ret2
      obtain rfl : k = 8 := by omega
      refine ⟨?_, (Below.refl _ _).alloc (Nat.le_refl _) _⟩
      rw [H.out.1, H.out.2, hiTo_eight, loTo_eight]
      rfl

open BigFrame
set_option maxHeartbeats 800000 in
theorem less_any (x y : Id) (w : World) :
    Calls Try.prog 24 #[.agg (idL x).toArray, .agg (idL y).toArray] w fun e w' => e = .returned (.bool (ltB x y)) ∧ Kept w w' := by
  rcases Nat.lt_trichotomy (hi64 x) (hi64 y) with h | h | h
  · have R : Hid (ltB x y = true) := ltB_hi h
    go_enter Try.func24, Try.ntmps24
    go_wp2_with fail
    refine (wide_any _ _).mono ?_
    rintro e w1 ⟨rfl, hb1⟩
    have r1 := rowAt_below hb1 (show rowAt _ (w.heap.size + 1) 0 16 = some (idL y) by go_simp)
    have q1 := kt (ka (ka (k0 w) _) _) hb1
    clear hb1
    go_wp2_with fail
    refine (wide_any _ _).mono ?_
    rintro e w2 ⟨rfl, hb2⟩
    have q2 := kt q1 hb2
    clear hb2 q1
    go_wp2
    go_ret
    exact ⟨by rw [R.out]; rfl, q2⟩
  · have R : Hid (ltB x y = decide (lo64 x < lo64 y)) := ltB_eq h
    have h1 : hi64 x ≤ hi64 y := by omega
    have h2 : hi64 y ≤ hi64 x := by omega
    have H : Hid (hi64 x = hi64 y) := h
    clear h
    go_enter Try.func24, Try.ntmps24
    go_wp2_with fail
    refine (wide_any _ _).mono ?_
    rintro e w1 ⟨rfl, hb1⟩
    have r1 := rowAt_below hb1 (show rowAt _ (w.heap.size + 1) 0 16 = some (idL y) by go_simp)
    have q1 := kt (ka (ka (k0 w) _) _) hb1
    clear hb1
    go_wp2_with fail
    refine (wide_any _ _).mono ?_
    rintro e w2 ⟨rfl, hb2⟩
    have q2 := kt q1 hb2
    clear hb2 q1
    go_wp2
    go_ret
    exact ⟨by rw [R.out]; go_num, q2⟩
  · have R : Hid (ltB x y = false) := ltB_gt h
    go_enter Try.func24, Try.ntmps24
    go_wp2_with fail
    refine (wide_any _ _).mono ?_
    rintro e w1 ⟨rfl, hb1⟩
    have r1 := rowAt_below hb1 (show rowAt _ (w.heap.size + 1) 0 16 = some (idL y) by go_simp)
    have q1 := kt (ka (ka (k0 w) _) _) hb1
    clear hb1
    go_wp2_with fail
    refine (wide_any _ _).mono ?_
    rintro e w2 ⟨rfl, hb2⟩
    have q2 := kt q1 hb2
    clear hb2 q1
    go_wp2
    go_ret
    refine ⟨?_, q2⟩
    show Ending.returned (.bool (decide (hi64 x < hi64 y))) = _
    rw [R.out, decide_eq_false (by omega)]

set_option maxHeartbeats 800000 in
theorem bcompare_any (x y : Id) (b1 b2 n1 n2 : Nat) (w : World) (h1 : rowAt w b1 0 16 = some (idL x)) (h2 : rowAt w b2 0 16 = some (idL y)) :
    Calls Try.prog 30 #[.slice (some ⟨b1, 0, none⟩) 16 n1, .slice (some ⟨b2, 0, none⟩) 16 n2] w fun e w' => e = .returned (.int .i64 (cmpI x y)) ∧ Kept w w' := by
  have e := run_callFunc_extern Try.func42 (by kernel_rfl) (by kernel_rfl) (by kernel_rfl) (e := Extern.BytealgCompare.compare) (by kernel_rfl) #[.slice (some ⟨b1, 0, none⟩) 16 n1, .slice (some ⟨b2, 0, none⟩) 16 n2] w
  rw [run_compare_ids _ w x y b1 b2 n1 n2 h1 h2] at e
  simp only [Result.andThen] at e
  go_enter Try.func30, Try.ntmps30
  go_wp2
  go_ret
  exact ⟨rfl, k0 _⟩

set_option maxHeartbeats 800000 in
theorem compare_any (x y : Id) (w : World) :
    Calls Try.prog 23 #[.agg (idL x).toArray, .agg (idL y).toArray] w fun e w' => e = .returned (.int .i64 (cmpI x y)) ∧ Kept w w' := by
  go_enter Try.func23, Try.ntmps23
  go_wp2_with fail
  refine wp_any_world (fun W => Kept w W ∧ rowAt W w.heap.size 0 16 = some (idL x) ∧ rowAt W (w.heap.size + 1) 0 16 = some (idL y)) ⟨ka (ka (k0 w) _) _, by go_simp, by go_simp⟩ ?_
  rintro W ⟨q, r1, r2⟩
  have f1 := rowAt_later r1
  have f2 := rowAt_later r2
  refine wp_region_later (by kernel_rfl) (by kernel_rfl) ?_
  repeat (go_big_quiet_step (first | (go_at_call 30; exact calls_later (bcompare_any _ _ _ _ _ _ _ (f1 _) (f2 _)))))
  refine wpQuiet_nil ?_
  rintro w1 hq
  go_wp2
  go_ret
  exact ⟨rfl, kt q hq⟩

@[go_sem] theorem rowOk_zero : rowOk #[.int .u8 0, .int .u8 0, .int .u8 0, .int .u8 0, .int .u8 0, .int .u8 0, .int .u8 0, .int .u8 0, .int .u8 0, .int .u8 0, .int .u8 0, .int .u8 0, .int .u8 0, .int .u8 0, .int .u8 0, .int .u8 0] 16 = true := by simp [rowOk, Value.oneCell']
theorem alloc_id (W : World) : (Instr.alloc 23 true (.tuple #[])).run Try.prog W = .ok (.pointer (some ⟨W.heap.size, 0, none⟩)) (W.alloc (.cells (idPart 0 0) 23)) := by
  rw [idPart_zero]
  go_simp

@[go_sem ↓] theorem eql_id (x y : Value) : binOp .eql 23 x y = eqRow 23 x y := rfl
@[go_sem ↓] theorem neq_id (x y : Value) : binOp .neq 23 x y = neRow 23 x y := rfl
@[go_sem] theorem run_eql_id (x y : Id) (W : World) : (eqRow 23 (.agg (idL x).toArray) (.agg (idL y).toArray)).run Try.prog W = .ok (.bool (x == y)) W :=
  run_eqRow_of Try.underlying23 Try.underlying5 Try.sizeOf5 x y W
@[go_sem] theorem run_neq_id (x y : Id) (W : World) : (neRow 23 (.agg (idL x).toArray) (.agg (idL y).toArray)).run Try.prog W = .ok (.bool (x != y)) W :=
  run_neRow_of Try.underlying23 Try.underlying5 Try.sizeOf5 x y W
@[go_sem] theorem guard_id (o : BinOp) (x y : Operand) (xs ys : Array Value) (W : World) : (eqGuard o 23 x y (.agg xs) (.agg ys)).run Try.prog W = .ok () W :=
  run_eqGuard_agg W o _ x y xs ys (by kernel_rfl)


end Go.Proofs.Ytaifnopoojbcfaa
