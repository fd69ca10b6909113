/- wire.GetNum of a number of one byte, GetID, GetText. -/
import Derived.Test.YtaifnopoojbcfaaSlate4
namespace Go.Proofs.Ytaifnopoojbcfaa
open Go.RowKit
open BigFrame

theorem or_small64 : ∀ n : Nat, n ≤ 255 → bits .or .u64 0 (n : Int) = (n : Int) := by
  intro n hn
  have := u64_or_nat 0 n (by omega) (by omega)
  simpa using this

set_option maxRecDepth 100000 in
set_option maxHeartbeats 1600000 in
theorem getnum_one (b off cap : Nat) (l : List UInt8) (k : Nat) (x : UInt8) (w : World) (hv : ElV w (.slice (some ⟨b, off, none⟩) l.length cap) (bL l)) (hc : l.length ≤ cap) (hm : l.length ≤ 1000)
    (h1 : l[k]? = some 1) (h2 : l[k + 1]? = some x) (hx : x ≠ 0) :
    Calls Try.prog 36 #[.slice (some ⟨b, off, none⟩) l.length cap, .int .i64 k] w fun e w' => e = .returned (.tuple #[.int .u64 (x.toNat : Nat), .int .i64 ((k : Int) + 2), .int .i64 0]) ∧ Kept w w' := by
  have hk : k + 1 < l.length := (List.getElem?_eq_some_iff.1 h2).1
  have c0 : w.cell? ⟨b, off + k, none⟩ = some (.int .u8 1) := by
    rw [elV_cell hv k (by simp; omega), bL, List.getElem?_map, h1]; rfl
  have c1 : w.cell? ⟨b, off + (k + 1), none⟩ = some (.int .u8 (x.toNat : Nat)) := by
    rw [elV_cell hv (k + 1) (by simp; omega), bL, List.getElem?_map, h2]; rfl
  have c1' : w.cell? ⟨b, off + k + 1, none⟩ = some (.int .u8 (x.toNat : Nat)) := by rw [Nat.add_assoc]; exact c1
  have hx0 : x.toNat ≠ 0 := fun e => hx (UInt8.toNat_inj.1 e)
  have hx8 : x.toNat ≤ 255 := by have := x.toNat_lt; omega
  have HO := Lib.hid (or_small64 x.toNat hx8)
  have d1 : decide ((k : Int) < 0) = false := by simp
  have d2 : decide (l.length < k) = false := by simp; omega
  have d3 : decide ((l.length : Int) - (k : Int) - 1 < 1) = false := by simp; omega
  have i2 : ((k : Int) == (l.length : Int)) = false := by simp; omega
  have i3 : (k : Int) < (l.length : Int) := by omega
  have i4 : (k : Int) + 1 < (l.length : Int) := by omega
  have i5 : ((x.toNat : Int) == 0) = false := by simp; omega
  have n1 : (cap = k + 1) = False := by simp; omega
  have i7 : (k : Int) + 1 ≤ (l.length : Int) := by omega
  have i8 : (1 : Int) ≤ (cap : Int) - ((k : Int) + 1) := by omega
  generalize x.toNat = y at *
  clear h1 h2 hx hv
  go_enter Try.func36, Try.ntmps36
  go_wp2_with fail
  go_quiet (fail)
  go_wp2_with fail
  go_loop [7, 66] (fun nv iv => (iv = .int .i64 0 ∧ nv = .int .u64 0) ∨ (iv = .int .i64 1 ∧ nv = .int .u64 (y : Nat))) (fun _ iv => 1 - (intOf iv).toNat)
  case atStart => exact .inl ⟨rfl, rfl⟩
  case round =>
    rcases hrel with ⟨rfl, rfl⟩ | ⟨rfl, rfl⟩
    · go_wp2_with fail
      go_round
      case rel => exact .inr ⟨rfl, by rw [HO.out]⟩
      case measure => simp [intOf]
    · go_wp2_with fail
      go_quiet (fail)
      go_wp2_with fail
      go_ret3
      refine ⟨?_, kdn (kdn (k0 _) _) _⟩
      have e : (k : Int) + 1 + 1 = (k : Int) + 2 := by omega
      rw [← e]
      rfl
end Go.Proofs.Ytaifnopoojbcfaa
