/- Numbers laid in bytes: how the wire and the slate lay them. Plain; no program. -/
import Derived.WalkKit
namespace Go.Proofs.Ytaifnopoojbcfaa
open Go.RowKit

/-- How many bytes a number takes. -/
def wideN (n : Nat) : Nat := if n = 0 then 0 else wideN (n / 256) + 1
termination_by n
decreasing_by omega
theorem wideN_zero : wideN 0 = 0 := by unfold wideN; simp
theorem wideN_pos {n : Nat} (h : 0 < n) : wideN n = wideN (n / 256) + 1 := by rw [wideN, if_neg (by omega)]
theorem div_pow_succ (n k : Nat) : n / 256 ^ (k + 1) = n / 256 ^ k / 256 := by rw [Nat.pow_succ, Nat.div_div_eq_div_mul]
theorem div_succ_pow (n k : Nat) : n / 256 ^ (k + 1) = n / 256 / 256 ^ k := by rw [Nat.pow_succ, Nat.mul_comm, Nat.div_div_eq_div_mul]
theorem wideN_div (n : Nat) : ∀ k, n / 256 ^ k = 0 ↔ wideN n ≤ k := by
  intro k
  induction k generalizing n with
  | zero =>
    rw [Nat.pow_zero, Nat.div_one]
    by_cases h : n = 0
    · subst h; simp [wideN_zero]
    · rw [wideN_pos (n := n) (by omega)]; omega
  | succ k ih =>
    rw [div_succ_pow, ih]
    by_cases h : n = 0
    · subst h; simp [wideN_zero]
    · rw [wideN_pos (n := n) (by omega)]; omega
theorem wideN_le {n : Nat} (h : n < 18446744073709551616) : wideN n ≤ 8 := by
  rw [← wideN_div]
  exact Nat.div_eq_of_lt (by simpa using h)

/-- The last k bytes of a number, the highest first. -/
def be (n k : Nat) : List UInt8 := (List.range k).map fun i => UInt8.ofNat (n / 256 ^ (k - 1 - i))
@[simp] theorem be_length (n k : Nat) : (be n k).length = k := by simp [be]
theorem be_get (n k i : Nat) (h : i < k) : (be n k)[i]? = some (UInt8.ofNat (n / 256 ^ (k - 1 - i))) := by
  simp [be, List.getElem?_map, List.getElem?_range h]
theorem be_take (n k i : Nat) (h : i < k) : (be n k).take (i + 1) = (be n k).take i ++ [UInt8.ofNat (n / 256 ^ (k - 1 - i))] := by
  have hl : i < (be n k).length := by simpa using h
  have := be_get n k i h
  rw [List.getElem?_eq_getElem hl] at this
  rw [List.take_succ_eq_append_getElem hl, Option.some.inj this]
/-- A number's form: how wide it is, its bytes. -/
def num1 (n : Nat) : List UInt8 := UInt8.ofNat (wideN n) :: be n (wideN n)
theorem num1_length (n : Nat) : (num1 n).length = wideN n + 1 := by simp [num1]
def putNums (l : List Nat) : List UInt8 := l.flatMap num1
theorem putNums_snoc (l : List Nat) (k : Nat) (h : k < l.length) : putNums (l.take (k + 1)) = putNums (l.take k) ++ num1 l[k] := by
  rw [List.take_succ_eq_append_getElem h]; unfold putNums; rw [List.flatMap_append]; simp
theorem putNums_length (l : List Nat) (h : ∀ n ∈ l, n < 18446744073709551616) : (putNums l).length ≤ 9 * l.length := by
  induction l with
  | nil => simp [putNums]
  | cons x r ih =>
    have h1 := ih fun n hn => h n (by simp [hn])
    have h2 := wideN_le (h x (by simp))
    have h3 : putNums (x :: r) = num1 x ++ putNums r := rfl
    rw [h3, List.length_append, num1_length, List.length_cons]; omega

/-- The low bytes, the lowest first. -/
def lowB (n k : Nat) : List UInt8 := (List.range k).map fun i => UInt8.ofNat (n / 256 ^ i)
@[simp] theorem lowB_length (n k : Nat) : (lowB n k).length = k := by simp [lowB]
theorem lowB_succ (n k : Nat) : lowB n (k + 1) = lowB n k ++ [UInt8.ofNat (n / 256 ^ k)] := by simp [lowB, List.range_succ]
theorem lowB_get (n k i : Nat) (h : i < k) : (lowB n k)[i]? = some (UInt8.ofNat (n / 256 ^ i)) := by
  simp [lowB, List.getElem?_map, List.getElem?_range h]
theorem u8_mod (n : Nat) : UInt8.ofNat (n % 256) = UInt8.ofNat n := by
  apply UInt8.toNat_inj.1; simp

/-- Eight bytes as a number. -/
def valB (l : List UInt8) : Nat := l.foldl (fun a c => a * 256 + c.toNat) 0
theorem valB_snoc (l : List UInt8) (c : UInt8) : valB (l ++ [c]) = valB l * 256 + c.toNat := by simp [valB]
theorem valB_lt (l : List UInt8) : valB l < 256 ^ l.length := by
  have key : ∀ k, k ≤ l.length → valB (l.take k) < 256 ^ k := by
    intro k
    induction k with
    | zero => intro _; simp [valB]
    | succ k ih =>
      intro h
      have h1 := ih (by omega)
      rw [List.take_succ_eq_append_getElem (by omega), valB_snoc, Nat.pow_succ]
      have := (l[k]).toNat_lt
      omega
  have := key l.length (Nat.le_refl _)
  rwa [List.take_of_length_le (Nat.le_refl _)] at this
theorem valB_be (n : Nat) : ∀ k j, j ≤ k → valB ((be n k).take j) = n / 256 ^ (k - j) % 256 ^ j
  | k, 0, _ => by simp [valB, Nat.mod_one]
  | k, j + 1, h => by
    rw [be_take n k j (by omega), valB_snoc, valB_be n k j (by omega)]
    have e : k - j = (k - (j + 1)) + 1 := by omega
    rw [e, div_pow_succ, show k - 1 - j = k - (j + 1) by omega]
    generalize n / 256 ^ (k - (j + 1)) = m
    have h1 : (UInt8.ofNat m).toNat = m % 256 := by simp
    rw [h1, Nat.pow_succ, Nat.mul_comm (256 ^ j) 256, Nat.mod_mul]
    omega
theorem valB_be8 {n : Nat} (h : n < 18446744073709551616) : valB (be n 8) = n := by
  have := valB_be n 8 8 (Nat.le_refl _)
  rw [List.take_of_length_le (by simp)] at this
  rw [this]
  simp
  omega
end Go.Proofs.Ytaifnopoojbcfaa
