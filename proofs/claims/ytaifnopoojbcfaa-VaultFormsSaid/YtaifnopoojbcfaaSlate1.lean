/- The slate's heads: need, number, head, laid. -/
import Derived.Test.YtaifnopoojbcfaaDisk3
import Derived.Laws.BitsAllLaws
namespace Go.Proofs.Ytaifnopoojbcfaa
open Go.RowKit
open BigFrame

set_option maxHeartbeats 400000 in
theorem need_one (n : Nat) (w : World) (hn : n ≤ 62) :
    Calls Try.prog 35 #[.int .i64 n] w fun e w' => e = .returned (.int .i64 1) ∧ Kept w w' := by
  go_enter Try.func35, Try.ntmps35
  go_wp2_with fail
  go_ret
  refine ⟨?_, k0 _⟩
  have e : (2 + (n : Int) + 64 - 1) / 64 = 1 := by omega
  simp [e]

theorem or_byte (a x : Nat) (ha : a ≤ 72057594037927935) (hx : x < 256) : bits .or .u64 ((a : Int) * 256) (x : Int) = ((a * 256 + x : Nat) : Int) := by
  have := u64_or_nat (a * 256) x (by omega) (by omega)
  rw [nat_join 8 (a * 256) x (by omega) (by omega)] at this
  exact this

set_option maxHeartbeats 800000 in
theorem number_any (b off n cap : Nat) (l : List UInt8) (w : World) (hv : ElV w (.slice (some ⟨b, off, none⟩) n cap) (bL l)) (hn : n = l.length) (hl : 8 ≤ l.length) (hc : l.length ≤ cap) (hm : cap ≤ maxLen) :
    Calls Try.prog 43 #[.slice (some ⟨b, off, none⟩) n cap] w fun e w' => e = .returned (.int .u64 (valB (l.take 8) : Nat)) ∧ Kept w w' := by
  unfold maxLen at hm
  have hcap : 8 ≤ cap := by omega
  go_enter Try.func43, Try.ntmps43
  go_wp2_with fail
  go_loop [3, 9] (fun nv iv => ∃ i : Nat, i ≤ 8 ∧ iv = .int .i64 i ∧ nv = .int .u64 (valB (l.take i) : Nat)) (fun _ iv => 8 - (intOf iv).toNat)
  case atStart => exact ⟨0, by omega, rfl, rfl⟩
  case round =>
    obtain ⟨i, hi, rfl, rfl⟩ := hrel
    by_cases hlt : i < 8
    · have i1 : (i : Int) < 8 := by omega
      have hcl : w.cell? ⟨b, off + i, none⟩ = some (.int .u8 (l[i].toNat : Nat)) := by
        rw [elV_cell hv i (by simp; omega), bL_get l i (by omega)]
      have hsn : valB (l.take (i + 1)) = valB (l.take i) * 256 + l[i].toNat := by rw [List.take_succ_eq_append_getElem (by omega), valB_snoc]
      have hlt2 := valB_lt (l.take i)
      have hp : 256 ^ (l.take i).length ≤ 256 ^ 7 := Nat.pow_le_pow_right (by decide) (by simp; omega)
      have hbd : valB (l.take i) ≤ 72057594037927935 := by omega
      have hx := l[i].toNat_lt
      generalize l[i].toNat = x at *
      generalize valB (l.take i) = a at *
      have HS := Lib.hid hsn
      clear hsn hlt2 hp
      go_wp2_with fail
      go_round
      case rel => exact ⟨i + 1, by omega, by go_num, by rw [HS.out, or_byte a x hbd (by omega)]⟩
      case measure => simp [intOf]; omega
    · obtain rfl : i = 8 := by omega
      go_wp2_with fail
      go_ret
      exact ⟨rfl, k0 _⟩

set_option maxHeartbeats 1600000 in
theorem head_any (b off cap : Nat) (l : List UInt8) (w : World) (hv : ElV w (.slice (some ⟨b, off, none⟩) 64 cap) (bL l)) (hl : l.length = 64) (hc : 64 ≤ cap) (hm : cap ≤ maxLen) (hz : ∀ c ∈ l.drop 24, c = 0) :
    Calls Try.prog 34 #[.slice (some ⟨b, off, none⟩) 64 cap] w fun e w' => e = .returned (.tuple #[.int .u64 (valB (l.take 8) : Nat), .int .u64 (valB ((l.drop 8).take 8) : Nat), .int .u64 (valB ((l.drop 16).take 8) : Nat)]) ∧ Kept w w' := by
  have hm0 := hm
  unfold maxLen at hm
  have h24 : 24 ≤ cap := by omega
  have n24 : (cap = 24) = False := by simp; omega
  have n8 : (cap = 8) = False := by simp; omega
  have n16 : (cap = 16) = False := by simp; omega
  go_enter Try.func34, Try.ntmps34
  go_wp2_with fail
  go_loop [10] (fun iv => ∃ i : Nat, i ≤ 40 ∧ iv = .int .i64 i) (fun iv => 40 - (intOf iv).toNat)
  case atStart => exact ⟨0, by omega, rfl⟩
  case round =>
    obtain ⟨i, hi, rfl⟩ := hrel
    by_cases hlt : i < 40
    · have i1 : (i : Int) < 40 := by omega
      have hcl : w.cell? ⟨b, off + 24 + i, none⟩ = some (.int .u8 0) := by
        rw [Nat.add_assoc, elV_cell hv (24 + i) (by simp; omega), bL_get l _ (by omega)]
        have : l[24 + i]'(by omega) = 0 := hz _ (by rw [List.mem_iff_getElem]; exact ⟨i, by simp; omega, by simp⟩)
        rw [this]; rfl
      go_wp2_with fail
      go_round
      case rel => exact ⟨i + 1, by omega, by go_num⟩
      case measure => simp [intOf]; omega
    · obtain rfl : i = 40 := by omega
      go_wp2_with fail
      have e1 := fun p : Regrown => elV_kept (kept_later w p) hv
      have L1 := Lib.hid fun p : Regrown => number_any b off 64 cap l _ (e1 p) hl.symm (by omega) (by omega) hm0
      have L2 := Lib.hid fun p : Regrown => number_any b (off + 8) 56 (cap - 8) (l.drop 8) _ (by have := elV_sub (e1 p) 8 56 (cap - 8) (by simp; omega) (by omega); rwa [List.take_of_length_le (by simp; omega), show (bL l).drop 8 = bL (l.drop 8) by simp [bL]] at this) (by simp [hl]) (by simp [hl]) (by simp [hl]; omega) (by unfold maxLen; omega)
      have L3 := Lib.hid fun p : Regrown => number_any b (off + 16) 48 (cap - 16) (l.drop 16) _ (by have := elV_sub (e1 p) 16 48 (cap - 16) (by simp; omega) (by omega); rwa [List.take_of_length_le (by simp; omega), show (bL l).drop 16 = bL (l.drop 16) by simp [bL]] at this) (by simp [hl]) (by simp [hl]) (by simp [hl]; omega) (by unfold maxLen; omega)
      clear e1
      refine wp_region_later (by kernel_rfl) (by kernel_rfl) ?_
      repeat (go_big_quiet_step (first | (go_at_call 43; first | (with_reducible exact calls_later (L1.out _)) | (with_reducible exact calls_later (L2.out _)) | (with_reducible exact calls_later (L3.out _)))))
      refine wpQuiet_nil ?_
      rintro w1 q1
      go_wp2_with fail
      go_ret3
      exact ⟨rfl, q1⟩
end Go.Proofs.Ytaifnopoojbcfaa
