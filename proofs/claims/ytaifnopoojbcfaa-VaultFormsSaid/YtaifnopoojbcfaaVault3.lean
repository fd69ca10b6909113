/- vault.read: a beginning's record; an item's. -/
import Derived.Test.YtaifnopoojbcfaaVault2
namespace Go.Proofs.Ytaifnopoojbcfaa
open Go.RowKit
open BigFrame

theorem wideN_one {m : Nat} (h0 : 0 < m) (h : m < 256) : wideN m = 1 := by
  rw [wideN_pos h0, show m / 256 = 0 by omega, wideN_zero]
theorem num1_small {m : Nat} (h0 : 0 < m) (h : m < 256) : num1 m = [1, UInt8.ofNat m] := by
  unfold num1
  rw [wideN_one h0 h]
  simp [be]
theorem begin_rec {m : Nat} (h0 : 0 < m) (h : m < 256) : putNums [1, m] = [1, 1, 1, UInt8.ofNat m] := by
  have : putNums [1, m] = num1 1 ++ num1 m := by simp [putNums]
  rw [this, num1_small h0 h, num1_small (by omega) (by omega)]
  rfl
theorem u8_ne0 {m : Nat} (h0 : 0 < m) (h : m < 256) : UInt8.ofNat m ≠ 0 := by
  intro e
  have := congrArg UInt8.toNat e
  simp at this
  omega
theorem u8_nat {m : Nat} (h : m < 256) : (UInt8.ofNat m).toNat = m := by simp; omega

set_option maxRecDepth 100000 in
set_option maxHeartbeats 1600000 in
theorem read_begin (vb lb mb inc m : Nat) (b off cap : Nat) (w : World) (hv : VaultAt w vb lb mb inc) (hr : ElV w (.slice (some ⟨b, off, none⟩) 4 cap) (bL (putNums [1, m]))) (hc : 4 ≤ cap) (h0 : inc < m) (h : m < 256) :
    Calls Try.prog 26 #[.pointer (some ⟨vb, 0, none⟩), .slice (some ⟨b, off, none⟩) 4 cap] w fun e w' => e = .returned (.bool true) ∧ VaultAt w' vb lb mb m ∧ KeptX [vb] w w' := by
  rw [begin_rec (by omega) h] at hr
  have G0 := fun (W : World) (hk : Kept w W) => getnum_one b off cap [1, 1, 1, UInt8.ofNat m] 0 1 W (elV_kept hk hr) hc (by simp) rfl rfl (by decide)
  have G1 := fun (W : World) (hk : Kept w W) => getnum_one b off cap [1, 1, 1, UInt8.ofNat m] 2 (UInt8.ofNat m) W (elV_kept hk hr) hc (by simp) rfl rfl (u8_ne0 (by omega) h)
  rw [u8_nat h] at G1
  have HG0 := Lib.hid G0
  have HG1 := Lib.hid G1
  have d1 : decide ((m : Int) ≤ (inc : Int)) = false := by simp; omega
  have d2 : decide (1048576 < (m : Int)) = false := by simp; omega
  clear G0 G1
  go_enter Try.func26, Try.ntmps26
  go_wp2_with fail
  refine (HG0.out _ (k0 _)).mono ?_
  rintro e w1 ⟨rfl, q1⟩
  go_wp2_with fail
  refine (HG1.out _ q1).mono ?_
  rintro e w2 ⟨rfl, q2⟩
  have q2 := kt q1 q2
  have hv2 := vault_kept q2 hv
  obtain ⟨c0, c1, c2, f2⟩ := vault_cells hv2
  go_wp2_with fail
  go_ret
  exact ⟨rfl, vault_inc hv2 m, xset (xk q2) (by simp) _⟩
end Go.Proofs.Ytaifnopoojbcfaa
