/- The ring: who isn't the nearest has a neighbour who is nearer. Plain; no program. -/
import Derived.Test.YtdbmggdnbdcanaaWant
import Derived.Test.YtdbmggdnbdcanaaSorted2
namespace Go.Proofs.Ytdbmggdnbdcanaa
open Go.RowKit

/-- On the ring of 2^128 places: how far it is, the shorter way, then clockwise. -/
def farM (x : Nat) : Nat := if (340282366920938463463374607431768211456 - x) % 340282366920938463463374607431768211456 < x then (340282366920938463463374607431768211456 - x) % 340282366920938463463374607431768211456 else x
def rk (x : Nat) : Nat := farM x * 340282366920938463463374607431768211456 + x
/-- How far it is from z to x, clockwise. -/
def dm (x z : Nat) : Nat := (x + 340282366920938463463374607431768211456 - z) % 340282366920938463463374607431768211456

theorem far_lo {x : Nat} (_h : x < 340282366920938463463374607431768211456) (h2 : 2 * x ≤ 340282366920938463463374607431768211456) : farM x = x := by
  unfold farM; split <;> omega
theorem far_hi {x : Nat} (_h : x < 340282366920938463463374607431768211456) (h2 : 340282366920938463463374607431768211456 < 2 * x) : farM x = 340282366920938463463374607431768211456 - x := by
  unfold farM; split <;> omega
theorem rk_lt {u v : Nat} (hu : u < 340282366920938463463374607431768211456) (hv : v < 340282366920938463463374607431768211456) : rk u < rk v ↔ farM u < farM v ∨ farM u = farM v ∧ u < v := by
  unfold rk
  generalize farM u = a
  generalize farM v = b
  constructor
  · intro h
    by_cases h1 : a < b
    · exact .inl h1
    · by_cases h2 : a = b
      · subst h2; exact .inr ⟨rfl, by omega⟩
      · omega
  · rintro (h | ⟨rfl, h⟩)
    · omega
    · omega
theorem ring_pred {x y z : Nat} (hx : x < 340282366920938463463374607431768211456) (hy : y < 340282366920938463463374607431768211456) (hz : z < 340282366920938463463374607431768211456)
    (hlo : 2 * x ≤ 340282366920938463463374607431768211456) (hr : rk y < rk x) (hd : dm x z ≤ dm x y) (hne : z ≠ x) : rk z < rk x := by
  rw [rk_lt hy hx, far_lo hx hlo] at hr
  rw [rk_lt hz hx, far_lo hx hlo]
  unfold dm at hd
  have fy : farM y = y ∨ (farM y = 340282366920938463463374607431768211456 - y ∧ 340282366920938463463374607431768211456 < 2 * y) := by
    by_cases h : 2 * y ≤ 340282366920938463463374607431768211456
    · exact .inl (far_lo hy h)
    · exact .inr ⟨far_hi hy (by omega), by omega⟩
  have fz : (farM z = z ∧ 2 * z ≤ 340282366920938463463374607431768211456) ∨ (farM z = 340282366920938463463374607431768211456 - z ∧ 340282366920938463463374607431768211456 < 2 * z) := by
    by_cases h : 2 * z ≤ 340282366920938463463374607431768211456
    · exact .inl ⟨far_lo hz h, h⟩
    · exact .inr ⟨far_hi hz (by omega), by omega⟩
  omega
theorem ring_succ {x y z : Nat} (hx : x < 340282366920938463463374607431768211456) (hy : y < 340282366920938463463374607431768211456) (hz : z < 340282366920938463463374607431768211456)
    (hhi : 340282366920938463463374607431768211456 < 2 * x) (hr : rk y < rk x) (hd : dm z x ≤ dm y x) (hne : z ≠ x) : rk z < rk x := by
  rw [rk_lt hy hx, far_hi hx hhi] at hr
  rw [rk_lt hz hx, far_hi hx hhi]
  unfold dm at hd
  have fy : (farM y = y ∧ 2 * y ≤ 340282366920938463463374607431768211456) ∨ (farM y = 340282366920938463463374607431768211456 - y ∧ 340282366920938463463374607431768211456 < 2 * y) := by
    by_cases h : 2 * y ≤ 340282366920938463463374607431768211456
    · exact .inl ⟨far_lo hy h, h⟩
    · exact .inr ⟨far_hi hy (by omega), by omega⟩
  have fz : (farM z = z ∧ 2 * z ≤ 340282366920938463463374607431768211456) ∨ (farM z = 340282366920938463463374607431768211456 - z ∧ 340282366920938463463374607431768211456 < 2 * z) := by
    by_cases h : 2 * z ≤ 340282366920938463463374607431768211456
    · exact .inl ⟨far_lo hz h, h⟩
    · exact .inr ⟨far_hi hz (by omega), by omega⟩
  omega

theorem sub_nat (a b : Id) : (a - b).toNat = dm a.toNat b.toNat := by
  rw [BitVec.toNat_sub]
  unfold dm
  have h1 := a.isLt
  have h2 := b.isLt
  rw [show (2 : Nat) ^ 128 = 340282366920938463463374607431768211456 by decide] at *
  congr 1
  omega
theorem rank_rk (d a : Id) : rank d a = rk (a - d).toNat := by
  unfold rank rk
  have hb : (2 : Nat) ^ 128 = 340282366920938463463374607431768211456 := by decide
  rw [hb]
  congr 2
  have h : (d - a).toNat = (340282366920938463463374607431768211456 - (a - d).toNat) % 340282366920938463463374607431768211456 := by
    rw [sub_nat, sub_nat]
    unfold dm
    have h1 := a.isLt
    have h2 := d.isLt
    rw [hb] at h1 h2
    omega
  unfold farI ltB farM
  rw [h]
  split
  · rename_i hc
    rw [decide_eq_true_eq] at hc
    rw [if_pos hc, h]
  · rename_i hc
    rw [decide_eq_true_eq] at hc
    rw [if_neg hc]
theorem dm_rel (a p k : Id) : (a - p).toNat = dm (a - k).toNat (p - k).toNat := by
  rw [sub_nat, sub_nat, sub_nat]
  unfold dm
  have h1 := a.isLt
  have h2 := p.isLt
  have h3 := k.isLt
  rw [show (2 : Nat) ^ 128 = 340282366920938463463374607431768211456 by decide] at *
  omega

/-- Who isn't the nearest has a neighbour who is nearer. -/
theorem near_pred {k a b c : Id} (hlo : 2 * (a - k).toNat ≤ 340282366920938463463374607431768211456) (hr : rank k b < rank k a) (hd : (a - c).toNat ≤ (a - b).toNat) (hne : c ≠ a) : rank k c < rank k a := by
  rw [rank_rk, rank_rk] at hr ⊢
  rw [dm_rel a c k, dm_rel a b k] at hd
  refine ring_pred (a - k).isLt (b - k).isLt (c - k).isLt hlo hr hd fun e => hne ?_
  have := BitVec.eq_of_toNat_eq e
  have h2 : c - k + k = a - k + k := by rw [this]
  simpa [BitVec.sub_add_cancel] using h2
theorem near_succ {k a b c : Id} (hhi : 340282366920938463463374607431768211456 < 2 * (a - k).toNat) (hr : rank k b < rank k a) (hd : (c - a).toNat ≤ (b - a).toNat) (hne : c ≠ a) : rank k c < rank k a := by
  rw [rank_rk, rank_rk] at hr ⊢
  rw [dm_rel c a k, dm_rel b a k] at hd
  refine ring_succ (a - k).isLt (b - k).isLt (c - k).isLt hhi hr hd fun e => hne ?_
  have := BitVec.eq_of_toNat_eq e
  have h2 : c - k + k = a - k + k := by rw [this]
  simpa [BitVec.sub_add_cancel] using h2

theorem rightN_zero (self : Id) (s : List Id) (i : Nat) : ∀ n, (∀ k, k < n → (s.getD i 0 - self).toNat ≤ (s.getD k 0 - self).toNat) → rightN self s i n = 0
  | 0, _ => rfl
  | n + 1, h => by
    rw [rightN, rightN_zero self s i n fun k hk => h k (by omega), if_neg]
    have := h n (by omega)
    simpa [ltB] using this
theorem leftN_zero (self : Id) (s : List Id) (i : Nat) : ∀ n, (∀ k, k < n → (self - s.getD i 0).toNat ≤ (self - s.getD k 0).toNat) → leftN self s i n = 0
  | 0, _ => rfl
  | n + 1, h => by
    rw [leftN, leftN_zero self s i n fun k hk => h k (by omega), if_neg]
    have := h n (by omega)
    simpa [ltB] using this
theorem wantN_mem (self : Id) (half : Nat) (s : List Id) (x : Id) : ∀ n, x ∈ wantN self half s n ↔ ∃ i, i < n ∧ (rightN self s i s.length < half ∨ leftN self s i s.length < half) ∧ x = s.getD i 0
  | 0 => by simp [wantN]
  | n + 1 => by
    rw [wantN, List.mem_append, wantN_mem self half s x n]
    constructor
    · rintro (⟨i, h1, h2, h3⟩ | h)
      · exact ⟨i, by omega, h2, h3⟩
      · split at h
        · rename_i hc
          exact ⟨n, by omega, hc, by simpa using h⟩
        · cases h
    · rintro ⟨i, h1, h2, h3⟩
      by_cases e : i = n
      · subst e
        exact .inr (by rw [if_pos h2]; simpa using h3)
      · exact .inl ⟨i, by omega, h2, h3⟩
theorem wantN_strict (self : Id) (half : Nat) (s : List Id) (hs : Strict s) : ∀ n, n ≤ s.length → Strict (wantN self half s n)
  | 0, _ => List.Pairwise.nil
  | n + 1, hn => by
    rw [wantN]
    refine List.pairwise_append.2 ⟨wantN_strict self half s hs n (by omega), by split <;> simp, fun x hx y hy => ?_⟩
    obtain ⟨i, h1, _, rfl⟩ := (wantN_mem self half s x n).1 hx
    split at hy
    · rw [List.mem_singleton] at hy
      subst hy
      have := List.pairwise_iff_getElem.1 hs i n (by omega) (by omega) h1
      simpa [List.getD, show i < s.length by omega, show n < s.length by omega] using this
    · cases hy

theorem want_strict (self : Id) (half : Nat) (l : List Id) : Strict (wantR self half l) := wantN_strict self half _ (sortR_spec self l l.length (Nat.le_refl _)).1 _ (Nat.le_refl _)
theorem want_mem {self : Id} {half : Nat} {l : List Id} {x : Id} (h : x ∈ wantR self half l) : x ∈ l ∧ x ≠ self := by
  obtain ⟨i, h1, _, rfl⟩ := (wantN_mem self half _ x _).1 h
  have : (sortR self l l.length).getD i 0 ∈ sortR self l l.length := by
    simp [List.getD, h1]
  have h2 := ((sortR_spec self l l.length (Nat.le_refl _)).2 _).1 this
  rwa [List.take_length] at h2
/-- Who isn't the nearest of all wants one who is nearer. -/
theorem want_near {k a b : Id} {half : Nat} {l : List Id} (hh : 1 ≤ half) (hb : b ∈ l) (hr : rank k b < rank k a) : ∃ c, c ∈ wantR a half l ∧ rank k c < rank k a := by
  have hne : b ≠ a := fun e => by rw [e] at hr; omega
  have hs := (sortR_spec a l l.length (Nat.le_refl _)).2
  rw [List.take_length] at hs
  have hbs := (hs b).2 ⟨hb, hne⟩
  obtain ⟨j, hj, hjb⟩ := List.getElem_of_mem hbs
  have hgj : (sortR a l l.length).getD j 0 = b := by simp [List.getD, hj, hjb]
  have hin : ∀ i, i < (sortR a l l.length).length → (sortR a l l.length).getD i 0 ≠ a := fun i hi => by
    have : (sortR a l l.length).getD i 0 ∈ sortR a l l.length := by simp [List.getD, hi]
    exact ((hs _).1 this).2
  by_cases hlo : 2 * (a - k).toNat ≤ 340282366920938463463374607431768211456
  · obtain ⟨i, hi, hm⟩ := exists_min (fun i => (a - (sortR a l l.length).getD i 0).toNat) (sortR a l l.length).length (by omega)
    refine ⟨(sortR a l l.length).getD i 0, (wantN_mem a half _ _ _).2 ⟨i, hi, .inr ?_, rfl⟩, near_pred hlo hr ?_ (hin i hi)⟩
    · rw [leftN_zero a _ i _ hm]; omega
    · have := hm j hj
      simpa only [hgj] using this
  · obtain ⟨i, hi, hm⟩ := exists_min (fun i => ((sortR a l l.length).getD i 0 - a).toNat) (sortR a l l.length).length (by omega)
    refine ⟨(sortR a l l.length).getD i 0, (wantN_mem a half _ _ _).2 ⟨i, hi, .inl ?_, rfl⟩, near_succ (by omega) hr ?_ (hin i hi)⟩
    · rw [rightN_zero a _ i _ hm]; omega
    · have := hm j hj
      simpa only [hgj] using this

theorem sort_want (a : Id) (half : Nat) (l : List Id) : sortR a (wantR a half l) (wantR a half l).length = wantR a half l := by
  obtain ⟨h1, h2⟩ := sortR_spec a (wantR a half l) (wantR a half l).length (Nat.le_refl _)
  refine strict_ext h1 (want_strict a half l) fun x => ?_
  rw [h2, List.take_length]
  exact ⟨fun h => h.1, fun h => ⟨h, (want_mem h).2⟩⟩
end Go.Proofs.Ytdbmggdnbdcanaa
