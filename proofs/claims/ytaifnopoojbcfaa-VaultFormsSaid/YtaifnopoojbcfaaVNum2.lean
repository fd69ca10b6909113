/- Numbers and texts laid in bytes: the reference's Num and Text, wire.PutText. -/
import Derived.Test.YtaifnopoojbcfaaVNum
namespace Go.Proofs.Ytaifnopoojbcfaa
open Go.RowKit
open BigFrame

theorem bL_low (a : Nat) : bL [UInt8.ofNat a] = [.int .u8 ((a : Int) % 256)] := by rw [bL_one_mod]; rfl

set_option maxHeartbeats 3200000 in
theorem rnum_any (n : Nat) (w : World) (hn : n ≤ 18446744073709551615) :
    Calls Try.prog 21 #[.int .u64 n] w fun e w' => ∃ v', e = .returned v' ∧ OwV w' w.heap.size 5 v' (bL (num1 n)) ∧ Kept w w' := by
  have hw8 := wideN_le (n := n) (by omega)
  have HM : Hid (num1 n = UInt8.ofNat (wideN n) :: be n (wideN n)) := Lib.hid rfl
  have HS : Hid (∀ k, n / 256 ^ k = 0 ↔ wideN n ≤ k) := Lib.hid (wideN_div n)
  generalize wideN n = m at *
  go_enter Try.func21, Try.ntmps21
  go_wp2_with fail
  go_loopw [0, 3] (fun nv lv wr => ∃ k : Nat, k ≤ m ∧ nv = .int .u64 (n / 256 ^ k : Nat) ∧ OwV wr w.heap.size 5 lv (bL (lowB n k)) ∧ Kept w wr) (fun nv _ _ => (intOf nv).toNat)
  case atStart => exact ⟨0, by omega, by simp, owV_nil _ _ _, k0 _⟩
  case round =>
    obtain ⟨k, hk, rfl, hlv, q⟩ := hrel
    have hle : n / 256 ^ k ≤ 18446744073709551615 := Nat.le_trans (Nat.div_le_self _ _) hn
    by_cases hlt : k < m
    · have hpos : 0 < n / 256 ^ k := Nat.pos_of_ne_zero (by rw [Ne, HS.out]; omega)
      have hsn := lowB_succ n k
      have hds := div_pow_succ n k
      have hll := lowB_length n k
      have hub : UInt8.ofNat (n / 256 ^ k) = UInt8.ofNat (n / 256 ^ k) := rfl
      generalize hA : n / 256 ^ k = a at hpos hle hsn hds ⊢
      have HSN := Lib.hid hsn
      have HDS := Lib.hid hds
      have HLL := Lib.hid hll
      clear hA hsn hds hub hll
      go_wp2_with (at_builtin; refine stop_here ?_)
      refine Stopped.go (wpList_appB rfl (.tmp 10) (.tmp 14) rfl w.heap.size _ _ (lowB n k) [UInt8.ofNat a] rfl rfl ?_ ?_ ?_ ?_ ?_)
      · exact owV_kept (ka (k0 _) _) hlv
      · rw [bL_low]; exact elV_made1 _ _ _
      · rw [HLL.out]; simp; omega
      · have := q.size; simp; omega
      · intro v1 w1 o1 g1
        have q1 := g1 w (ka q _) (Nat.le_refl _)
        rw [← HSN.out] at o1
        go_wp2_with fail
        go_roundw
        case rel => exact ⟨k + 1, by omega, by rw [HDS.out]; rfl, o1, q1⟩
        case measure => simp [intOf]; omega
    · obtain rfl : k = m := by omega
      have hz : n / 256 ^ k = 0 := (HS.out k).2 (Nat.le_refl _)
      have hll := lowB_length n k
      obtain ⟨ao, cap, rfl, hcap, hao⟩ := elV_form (owV_elV hlv)
      have HLL : (bL (lowB n k)).length = k := by simp
      rw [HLL] at hcap hlv ⊢
      rw [hz, show ((0 : Nat) : Int) = 0 from rfl]
      clear hz hll
      have hlv2 := owV_elV hlv
      have HLL2 := Lib.hid HLL
      clear HLL hle
      go_wp2_with fail
      have o1 : OwV (wr.alloc (.cells #[.int .u8 (k : Nat)] 5)) wr.heap.size 5 (.slice (some ⟨wr.heap.size, 0, none⟩) 1 1) (bL [UInt8.ofNat k]) := by rw [bL_one_of (by omega)]; exact owV_made wr [_] _ _ rfl (by unfold maxLen; simp)
      obtain ⟨wo, rfl⟩ : ∃ wo : World, wo = wr := ⟨_, rfl⟩
      go_loopw [4, 5] (fun ov iv wi => ∃ j m : Nat, j + m = k ∧ iv = .int .i64 ((m : Int) - 1) ∧ OwV wi wo.heap.size 5 ov (bL (UInt8.ofNat k :: (be n k).take j)) ∧ Kept wo wi) (fun _ iv _ => (intOf iv + 1).toNat)
      case atStart => exact ⟨0, k, by omega, rfl, o1, ka (k0 _) _⟩
      case round =>
        obtain ⟨j, m, hjm, rfl, hoj, qj⟩ := hrel
        have hwk := q.size
        cases m with
        | zero =>
          obtain rfl : j = k := by omega
          rw [List.take_of_length_le (l := be n j) (by simp), ← HM.out] at hoj
          go_wp2_with fail
          go_ret
          exact ⟨_, rfl, owV_mono hoj q.size, kt q qj⟩
        | succ m =>
          have e2 : (((m + 1 : Nat) : Int) - 1) = (m : Int) := by omega
          rw [e2]
          obtain ⟨b, off, cap', he, _, hr⟩ := elV_at hlv2 (by intro e; have := congrArg List.length e; rw [HLL2.out] at this; simp at this; omega)
          simp only [Value.slice.injEq] at he
          obtain ⟨rfl, -, rfl⟩ := he
          have hc := hr m (by rw [HLL2.out]; omega)
          rw [bL_get _ m (by simp; omega)] at hc
          have hg := lowB_get n k m (by omega)
          rw [List.getElem?_eq_getElem (by simp; omega)] at hg
          rw [Option.some.inj hg] at hc
          have hc2 := hc
          rw [← qj.cell (p := ⟨b, off + m, none⟩) (block_lt_of_cell hc)] at hc
          have hmk : (m : Int) < (k : Int) := by omega
          have HSN := Lib.hid (num1_snoc n k j (by omega))
          rw [show k - 1 - j = m by omega] at HSN
          have hbl : bL [UInt8.ofNat (n / 256 ^ m)] = [.int .u8 ((UInt8.ofNat (n / 256 ^ m)).toNat : Nat)] := rfl
          generalize UInt8.ofNat (n / 256 ^ m) = c at *
          have HBL := Lib.hid hbl
          clear hr hg hc2 e2 hbl
          go_wp2_with (at_builtin; refine stop_here ?_)
          refine Stopped.go (wpList_appB rfl (.tmp 27) (.tmp 32) rfl wo.heap.size _ _ (UInt8.ofNat k :: (be n k).take j) [c] rfl rfl ?_ ?_ ?_ ?_ ?_)
          · exact owV_kept (ka (k0 _) _) hoj
          · rw [HBL.out]; exact elV_made1 _ _ _
          · simp; omega
          · have := qj.size; simp; omega
          · intro v2 w2 o2 g2
            have q2 := g2 wo (ka qj _) (Nat.le_refl _)
            rw [← HSN.out] at o2
            go_wp2_with fail
            go_roundw
            case rel => exact ⟨j + 1, m, by omega, rfl, o2, q2⟩
            case measure => simp [intOf]
end Go.Proofs.Ytaifnopoojbcfaa
