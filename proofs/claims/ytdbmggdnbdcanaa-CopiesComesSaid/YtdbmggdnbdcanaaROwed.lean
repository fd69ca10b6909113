/- The reference's Owed. -/
import Derived.Test.YtdbmggdnbdcanaaRSort
namespace Go.Proofs.Ytdbmggdnbdcanaa
open Go.RowKit
open BigFrame

/-- To whom it is owed, by the reference. -/
def owedR (self key : Id) (l : List Id) : List Id :=
  let s := sortR self l l.length
  if rootN self key s s.length = true then s else [s.getD (firstI key s 0 s.length).toNat 0]

theorem firstI_some (d : Id) (l : List Id) : ∀ n i, (∃ j, i ≤ j ∧ j < i + n ∧ okN d l j l.length = true) → ∃ j : Nat, firstI d l i n = j ∧ i ≤ j ∧ j < i + n
  | 0, i, ⟨j, h1, h2, _⟩ => by omega
  | n + 1, i, ⟨j, h1, h2, h3⟩ => by
    unfold firstI
    split
    · exact ⟨i, rfl, by omega, by omega⟩
    · rename_i hne
      have : j ≠ i := fun e => hne (e ▸ h3)
      obtain ⟨k, hk⟩ := firstI_some d l n (i + 1) ⟨j, by omega, by omega, h3⟩
      exact ⟨k, hk.1, by omega, by omega⟩

/-- A number by which nearness goes. -/
def rank (d a : Id) : Nat := (farI a d).toNat * 2 ^ 128 + (a - d).toNat
theorem nearB_rank (d a b : Id) : nearB d a b = decide (rank d a < rank d b) := by
  unfold nearB ltB rank
  have h1 := (farI a d).isLt
  have h2 := (farI b d).isLt
  have h3 := (a - d).isLt
  have h4 := (b - d).isLt
  generalize a - d = x at *
  generalize b - d = y at *
  generalize farI a d = u at *
  generalize farI b d = v at *
  by_cases h5 : u.toNat < v.toNat
  · have : u.toNat * 2 ^ 128 + x.toNat < v.toNat * 2 ^ 128 + y.toNat := by omega
    rw [decide_eq_true h5, decide_eq_true this]; rfl
  · by_cases h6 : u = v
    · subst h6; simp
    · have h7 : u.toNat ≠ v.toNat := fun e => h6 (BitVec.eq_of_toNat_eq e)
      have : ¬ (u.toNat * 2 ^ 128 + x.toNat < v.toNat * 2 ^ 128 + y.toNat) := by omega
      rw [decide_eq_false h5, decide_eq_false this, beq_eq_false_iff_ne.2 h6]; rfl
theorem okN_iff (d : Id) (l : List Id) (i : Nat) : ∀ n, okN d l i n = true ↔ ∀ k, k < n → rank d (l.getD i 0) ≤ rank d (l.getD k 0)
  | 0 => by simp [okN]
  | n + 1 => by
    rw [okN, Bool.and_eq_true, okN_iff d l i n, nearB_rank]
    constructor
    · rintro ⟨h1, h2⟩ k hk
      by_cases e : k = n
      · subst e; simpa using h2
      · exact h1 k (by omega)
    · intro h
      exact ⟨fun k hk => h k (by omega), by simpa using h n (by omega)⟩
theorem exists_min (f : Nat → Nat) : ∀ n, 0 < n → ∃ j, j < n ∧ ∀ k, k < n → f j ≤ f k
  | 0, h => absurd h (by omega)
  | 1, _ => ⟨0, by omega, fun k hk => by rw [show k = 0 by omega]; exact Nat.le_refl _⟩
  | n + 2, _ => by
    obtain ⟨j, h1, h2⟩ := exists_min f (n + 1) (by omega)
    by_cases h : f (n + 1) ≤ f j
    · exact ⟨n + 1, by omega, fun k hk => by
        by_cases e : k = n + 1
        · rw [e]; exact Nat.le_refl _
        · exact Nat.le_trans h (h2 k (by omega))⟩
    · exact ⟨j, by omega, fun k hk => by
        by_cases e : k = n + 1
        · rw [e]; omega
        · exact h2 k (by omega)⟩
theorem firstI_nat (d : Id) (l : List Id) (h : 0 < l.length) : ∃ j : Nat, firstI d l 0 l.length = j ∧ j < l.length := by
  obtain ⟨j, h1, h2⟩ := exists_min (fun k => rank d (l.getD k 0)) l.length h
  obtain ⟨k, h3, _, h4⟩ := firstI_some d l l.length 0 ⟨j, by omega, by omega, (okN_iff d l j l.length).2 h2⟩
  exact ⟨k, h3, by omega⟩
theorem rootN_nil (self key : Id) (l : List Id) (h : rootN self key l l.length = false) : 0 < l.length := by
  cases l with
  | nil => cases h
  | cons => simp

set_option maxHeartbeats 6400000 in
theorem rowed_any (self : Id) (v : Value) (key : Id) (l : List Id) (w : World) (hv : IdsV w v l) (hl : l.length ≤ 4000000000) :
    Calls Try.prog 13 #[.agg (idL self).toArray, v, .agg (idL key).toArray] w fun e w' => ∃ v', e = .returned v' ∧ IdsV w' v' (owedR self key l) ∧ Kept w w' := by
  obtain ⟨res, hres⟩ : ∃ res, owedR self key l = res := ⟨_, rfl⟩
  rw [hres]
  have hres' := Lib.hid hres
  clear hres
  go_enter Try.func13, Try.ntmps13
  go_wp2_with (go_at_call 21; refine (rsort_any self v l _ (idsV_kept (ka (ka (k0 w) _) _) hv) hl).mono ?_; rintro e w1 ⟨v1, rfl, o1, q1⟩; refine stop_here ?_)
  refine Stopped.go ?_
  have s1 : rowAt w1 w.heap.size 0 16 = some (idL self) := rowAt_below q1 (by go_simp)
  have s2 : rowAt w1 (w.heap.size + 1) 0 16 = some (idL key) := rowAt_below q1 (by go_simp)
  have q2 : Kept w w1 := kt (ka (ka (k0 w) _) _) q1
  have hsl := sortR_length self l l.length
  obtain ⟨s, hs⟩ : ∃ s, sortR self l l.length = s := ⟨_, rfl⟩
  have hz : res = if rootN self key s s.length = true then s else [s.getD (firstI key s 0 s.length).toNat 0] := by rw [← hres'.out, ← hs]; rfl
  rw [hs] at o1 hsl
  clear hs hres'
  have hv2 := ownV_ids o1
  clear o1 q1
  obtain ⟨rb, hrb⟩ : ∃ rb, rootN self key s s.length = rb := ⟨_, rfl⟩
  have L := rroot_any self v1 key s
  rw [hrb] at L hz
  have L' := Lib.hid L
  have hrb' := Lib.hid hrb
  clear L hrb
  go_wp2_with (go_at_call 10; refine (L'.out _ hv2 (by omega)).mono ?_; rintro e w2 ⟨rfl, q3⟩; refine stop_here ?_)
  refine Stopped.go ?_
  cases rb
  · obtain ⟨j, hj, hjl⟩ := firstI_nat key s (rootN_nil _ _ _ hrb'.out)
    obtain ⟨ao, cap, rfl, hO⟩ := idsV_form hv2
    obtain ⟨b, off, rfl, hr⟩ := idsO_at hO hjl
    have r4 := rowAt_below q3 s2
    have q4 := kt q2 q3
    have hv3 := idsV_kept q3 hv2
    have L := first_any key (.slice (some ⟨b, off, none⟩) s.length cap) s w2 hv3 (by omega)
    rw [hj] at L
    have j1 : (j : Int) < (s.length : Int) := by omega
    have e1 : s.getD j 0 = s[j] := by simp [List.getD, hjl]
    rw [hj, if_neg (by decide), Int.toNat_natCast, e1] at hz
    subst hz
    have L2 := Lib.hid L
    clear L hj e1
    go_wp2_with (go_at_call 15; refine L2.out.mono ?_; rintro e w3 ⟨rfl, q5⟩; have r5 := rowAt_below q5 (rowAt_below q3 (hr j hjl)))
    go_ret
    exact ⟨_, rfl, ownV_ids (ownV_made1 _ 0 _ (Nat.zero_le _)), ka (kt q4 q5) _⟩
  · rw [if_pos rfl] at hz
    subst hz
    have hv3 := idsV_kept q3 hv2
    go_wp2_with fail
    go_ret
    exact ⟨_, rfl, hv3, kt q2 q3⟩
end Go.Proofs.Ytdbmggdnbdcanaa
