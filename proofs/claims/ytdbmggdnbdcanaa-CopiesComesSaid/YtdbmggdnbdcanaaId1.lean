/- The functions on identities of the reference (annuletref01): what each comes to. -/
import Derived.Test.YtdbmggdnbdcanaaChecked
import Derived.Test.YtdbmggdnbdcanaaIdPlain
import Derived.Test.YtdbmggdnbdcanaaKit
namespace Go.Proofs.Ytdbmggdnbdcanaa
open Go.RowKit

@[go_sem ↓] theorem loadAt_id (x : Value) : Instr.loadAt 23 x = loadRow 23 x := rfl
@[go_sem] theorem run_load_id (b o : Nat) (W : World) : (loadRow 23 (.pointer (some ⟨b, o, none⟩))).run Try.prog W = (match rowAt W b o 16 with | some cs => .ok (.agg cs.toArray) W | none => (loadRowStuck 23 (.pointer (some ⟨b, o, none⟩))).run Try.prog W) :=
  run_loadRow_of Try.underlying23 rfl (by kernel_rfl) b o W
@[go_sem ↓] theorem storeAt_id (x v : Value) : Instr.storeAt 23 x v = storeRow 23 x v := rfl
@[go_sem] theorem run_store_id (b o : Nat) (cs : Array Value) (W : World) : (storeRow 23 (.pointer (some ⟨b, o, none⟩)) (.agg cs)).run Try.prog W =
    (if rowOk cs 16 = true then (if canPut W b o 16 = true then .ok () (putRow W b o cs.toList) else (storeRowStuck 23 (.pointer (some ⟨b, o, none⟩)) (.agg cs)).run Try.prog W) else (storeRowStuck 23 (.pointer (some ⟨b, o, none⟩)) (.agg cs)).run Try.prog W) :=
  run_storeRow_of (by kernel_rfl) b o cs W
@[go_sem] theorem rowOk_id (x : Id) : rowOk (idL x).toArray 16 = true := by
  simp [rowOk, idL, List.range_succ, Value.oneCell']

set_option maxHeartbeats 400000 in
theorem wide_any (x : Id) (w : World) :
    Calls Try.prog 33 #[.agg (idL x).toArray] w fun e w' => e = .returned (.tuple #[.int .u64 (hi64 x : Nat), .int .u64 (lo64 x : Nat)]) ∧ Below w.heap.size w w' := by
  go_enter Try.func33, Try.ntmps33
  go_wp2
  go_loop [4, 5, 6] (fun hi lo i => ∃ k h l : Nat, k ≤ 8 ∧ i = .int .i64 k ∧ hi = .int .u64 h ∧ lo = .int .u64 l ∧ Hid (h = hiTo x k ∧ l = loTo x k)) (fun _ _ i => 8 - (intOf i).toNat)
  case atStart => exact ⟨0, 0, 0, by omega, rfl, rfl, rfl, (hiTo_zero x).symm, (loTo_zero x).symm⟩
  case round =>
    obtain ⟨k, h, l, hk, rfl, rfl, rfl, H⟩ := hrel
    by_cases hlt : k < 8
    · have b1 := idL_get x k (by omega)
      have b2 := idL_get x (8 + k) (by omega)
      have l1 := byt_lt x k
      have l2 := byt_lt x (8 + k)
      have bh : h ≤ 72057594037927935 := by rw [H.out.1]; exact hiTo_le x k hlt
      have bl : l ≤ 72057594037927935 := by rw [H.out.2]; exact loTo_le x k hlt
      go_wp2
      go_round
      case rel => exact ⟨k + 1, h * 256 + byt x k, l * 256 + byt x (8 + k), by omega, by go_num, by go_num, by go_num, by rw [H.out.1, hiTo_succ x k hlt], by rw [H.out.2, loTo_succ x k hlt]⟩
      case measure => simp [intOf]; omega
    · go_wp2
      go_ret2
      obtain rfl : k = 8 := by omega
      refine ⟨?_, (Below.refl _ _).alloc (Nat.le_refl _) _⟩
      rw [H.out.1, H.out.2, hiTo_eight, loTo_eight]
      rfl

/-- The words on the way: what is left of them behind k rounds. -/
theorem shift_step (h k : Nat) : h / 256 ^ k / 256 = h / 256 ^ (k + 1) := by rw [Nat.pow_succ, Nat.div_div_eq_div_mul]

set_option maxHeartbeats 800000 in
theorem id_any (h l : Nat) (w : World) (hh : h ≤ 18446744073709551615) (hl : l ≤ 18446744073709551615) :
    Calls Try.prog 34 #[.int .u64 h, .int .u64 l] w fun e w' => e = .returned (.agg (idL (ofWords h l)).toArray) ∧ Below w.heap.size w w' := by
  go_enter Try.func34, Try.ntmps34
  go_wp2
  go_loopw [0, 1, 6] (fun hv lv iv wr => ∃ k : Nat, k ≤ 8 ∧ iv = .int .i64 (7 - (k : Int)) ∧ hv = .int .u64 (h / 256 ^ k : Nat) ∧ lv = .int .u64 (l / 256 ^ k : Nat) ∧ wr = (w.alloc (.cells (idPart 0 0) 23)).alloc (.cells (idPart (ofWords h l) k) 23)) (fun _ _ iv _ => (intOf iv + 1).toNat)
  case atStart => exact ⟨0, by omega, rfl, by simp, by simp, by rw [idPart_zero, idPart_zero]⟩
  case round =>
    obtain ⟨k, hk, rfl, rfl, rfl, rfl⟩ := hrel
    by_cases hlt : k < 8
    · obtain ⟨a, ha⟩ : ∃ a, a = h / 256 ^ k := ⟨_, rfl⟩
      obtain ⟨b, hb⟩ : ∃ b, b = l / 256 ^ k := ⟨_, rfl⟩
      have ha1 : a ≤ 18446744073709551615 := by rw [ha]; exact Nat.le_trans (Nat.div_le_self _ _) hh
      have hb1 : b ≤ 18446744073709551615 := by rw [hb]; exact Nat.le_trans (Nat.div_le_self _ _) hl
      rw [← ha, ← hb]
      have H : Hid (a = h / 256 ^ k ∧ b = l / 256 ^ k) := ⟨ha, hb⟩
      clear ha hb
      obtain ⟨v1, f1⟩ : ∃ v, (idPart (ofWords h l) k)[7 - k]? = some v := ⟨_, idPart_get _ k (7 - k) (by omega)⟩
      obtain ⟨v2, f2⟩ : ∃ v, (idPart (ofWords h l) k)[8 + (7 - k)]? = some v := ⟨_, idPart_get _ k (8 + (7 - k)) (by omega)⟩
      go_wp2
      go_roundw
      case rel =>
        refine ⟨k + 1, by omega, by go_num, ?_, ?_, ?_⟩
        · rw [← shift_step, ← H.out.1]; rfl
        · rw [← shift_step, ← H.out.2]; rfl
        · have e1 : byt (ofWords h l) (7 - k) = a % 256 := by
            rw [byt_ofWords_hi h l (by omega) (7 - k) (by omega), show 7 - (7 - k) = k by omega, ← H.out.1]
          have e2 : byt (ofWords h l) (15 - k) = b % 256 := by
            rw [show 15 - k = 8 + (7 - k) by omega, byt_ofWords_lo h l (by omega) (7 - k) (by omega), show 7 - (7 - k) = k by omega, ← H.out.2]
          rw [← idPart_step _ k hlt, e1, e2, show 15 - k = 8 + (7 - k) by omega]
          rfl
      case measure => simp [intOf]; omega
    · have e8 : idPart (ofWords h l) k = (idL (ofWords h l)).toArray := by rw [show k = 8 by omega]; exact idPart_eight _
      rw [e8]
      clear e8
      go_wp2
      refine bodyPost_ret (v := .agg (idL (ofWords h l)).toArray) (results_row rfl _ _ w.heap.size (idL (ofWords h l)) _ 16 rfl (by go_simp) Try.underlying23 rfl (by kernel_rfl)) rfl ⟨rfl, ?_⟩
      exact ((Below.refl _ _).alloc (Nat.le_refl _) _).alloc (by simp) _

end Go.Proofs.Ytdbmggdnbdcanaa
