/- The program's Owed is the reference's. -/
import Derived.Test.YtdbmggdnbdcanaaSorted2
namespace Go.Proofs.Ytdbmggdnbdcanaa
open Go.RowKit
open BigFrame

theorem bestI_spec (d : Id) (l : List Id) : ∀ n, 0 < n → ∃ b : Nat, bestI d l n = b ∧ b < n ∧ (∀ k, k < n → rank d (l.getD b 0) ≤ rank d (l.getD k 0)) ∧ ∀ k, k < b → rank d (l.getD b 0) < rank d (l.getD k 0)
  | 0, h => absurd h (by omega)
  | 1, _ => ⟨0, by simp [bestI], by omega, fun k hk => by rw [show k = 0 by omega]; exact Nat.le_refl _, fun k hk => absurd hk (by omega)⟩
  | n + 2, _ => by
    obtain ⟨b, h1, h2, h3, h4⟩ := bestI_spec d l (n + 1) (by omega)
    rw [bestI, h1, Int.toNat_natCast, nearB_rank]
    by_cases hc : rank d (l.getD (n + 1) 0) < rank d (l.getD b 0)
    · rw [if_pos (.inr (by simpa using hc))]
      refine ⟨n + 1, rfl, by omega, fun k hk => ?_, fun k hk => ?_⟩
      · by_cases e : k = n + 1
        · rw [e]; exact Nat.le_refl _
        · have := h3 k (by omega); omega
      · have := h3 k (by omega); omega
    · have hno : ¬ ((b : Int) < 0 ∨ decide (rank d (l.getD (n + 1) 0) < rank d (l.getD b 0)) = true) := by
        rintro (h | h)
        · omega
        · exact hc (by simpa using h)
      rw [if_neg hno]
      refine ⟨b, rfl, by omega, fun k hk => ?_, h4⟩
      by_cases e : k = n + 1
      · rw [e]; omega
      · exact h3 k (by omega)
theorem firstI_spec (d : Id) (l : List Id) : ∀ n i, i + n ≤ l.length → (∀ j, j < i → okN d l j l.length = false) → (firstI d l i n = -1 ∧ ∀ j, j < i + n → okN d l j l.length = false) ∨ ∃ b : Nat, firstI d l i n = b ∧ b < i + n ∧ okN d l b l.length = true ∧ ∀ k, k < b → okN d l k l.length = false
  | 0, i, _, h => .inl ⟨rfl, fun j hj => h j (by omega)⟩
  | n + 1, i, hin, h => by
    unfold firstI
    cases hc : okN d l i l.length with
    | true => exact .inr ⟨i, rfl, by omega, hc, h⟩
    | false =>
      rw [if_neg (by decide)]
      rcases firstI_spec d l n (i + 1) (by omega) (fun j hj => by
        by_cases e : j = i
        · rw [e]; exact hc
        · exact h j (by omega)) with ⟨h1, h2⟩ | ⟨b, h1, h2, h3, h4⟩
      · exact .inl ⟨h1, fun j hj => h2 j (by omega)⟩
      · exact .inr ⟨b, h1, by omega, h3, h4⟩
theorem best_first (d : Id) (l : List Id) : bestI d l l.length = firstI d l 0 l.length := by
  by_cases h0 : l.length = 0
  · rw [h0]; rfl
  · obtain ⟨b, h1, h2, h3, h4⟩ := bestI_spec d l l.length (by omega)
    have hb : okN d l b l.length = true := (okN_iff d l b _).2 h3
    rcases firstI_spec d l l.length 0 (by omega) (fun j hj => absurd hj (by omega)) with ⟨_, h⟩ | ⟨c, g1, g2, g3, g4⟩
    · rw [h b (by omega)] at hb; cases hb
    · rw [h1, g1]
      have hcm := (okN_iff d l c _).1 g3
      by_cases e : b = c
      · rw [e]
      · exfalso
        rcases Nat.lt_or_ge b c with hlt | hge
        · rw [g4 b hlt] at hb; cases hb
        · have x1 := h4 c (by omega)
          have x2 := hcm b h2
          omega
theorem rootN_iff (self key : Id) (l : List Id) : ∀ n, rootN self key l n = true ↔ ∀ k, k < n → rank key self ≤ rank key (l.getD k 0)
  | 0 => by simp [rootN]
  | n + 1 => by
    rw [rootN, Bool.and_eq_true, rootN_iff self key l n, nearB_rank]
    constructor
    · rintro ⟨h1, h2⟩ k hk
      by_cases e : k = n
      · subst e; simpa using h2
      · exact h1 k (by omega)
    · intro h
      exact ⟨fun k hk => h k (by omega), by simpa using h n (by omega)⟩
theorem best_root (self key : Id) (l : List Id) : decide (bestI key (self :: l) (self :: l).length = 0) = rootN self key l l.length := by
  obtain ⟨b, h1, h2, h3, h4⟩ := bestI_spec key (self :: l) (self :: l).length (by simp)
  rw [h1, Bool.eq_iff_iff, decide_eq_true_iff, rootN_iff]
  constructor
  · intro e k hk
    have hb : b = 0 := by omega
    subst hb
    have := h3 (k + 1) (by simp; omega)
    simpa using this
  · intro h
    by_cases e : b = 0
    · omega
    · exfalso
      obtain ⟨c, rfl⟩ : ∃ c, b = c + 1 := ⟨b - 1, by omega⟩
      have h5 := h4 0 (by omega)
      have h6 := h c (by simp at h2; omega)
      simp at h5
      simp at h6
      omega

set_option maxHeartbeats 6400000 in
theorem powed_any (self : Id) (v : Value) (key : Id) (l : List Id) (w : World) (hv : IdsV w v l) (hl : l.length ≤ 4000000000) :
    Calls Try.prog 12 #[.agg (idL self).toArray, v, .agg (idL key).toArray] w fun e w' => ∃ v', e = .returned v' ∧ IdsV w' v' (owedR self key l) ∧ Kept w w' := by
  obtain ⟨res, hres⟩ : ∃ res, owedR self key l = res := ⟨_, rfl⟩
  rw [hres]
  have hres' := Lib.hid hres
  clear hres
  go_enter Try.func12, Try.ntmps12
  go_wp2_with (go_at_call 20; refine (psort_any self v l _ (idsV_kept (ka (ka (k0 w) _) _) hv) hl).mono ?_; rintro e w1 ⟨v1, rfl, o1, q1⟩; refine stop_here ?_)
  refine Stopped.go ?_
  have s1 : rowAt w1 w.heap.size 0 16 = some (idL self) := rowAt_below q1 (by go_simp)
  have s2 : rowAt w1 (w.heap.size + 1) 0 16 = some (idL key) := rowAt_below q1 (by go_simp)
  have q2 : Kept w w1 := kt (ka (ka (k0 w) _) _) q1
  have hsl := sortR_length self l l.length
  obtain ⟨s, hs⟩ : ∃ s, sortR self l l.length = s := ⟨_, rfl⟩
  have hz : res = if rootN self key s s.length = true then s else [s.getD (firstI key s 0 s.length).toNat 0] := by rw [← hres'.out, ← hs]; rfl
  rw [hs] at o1 hsl
  clear hs hres'
  have hv2 := ownV_ids o1
  clear o1 q1
  obtain ⟨ao, cap, rfl, hO⟩ := idsV_form hv2
  by_cases h0 : s.length = 0
  · have hrs : res = s := by
      have hs0 := List.eq_nil_of_length_eq_zero h0
      rw [hz, hs0]
      rfl
    have n0 : ((s.length : Int) == 0) = true := by rw [h0]; rfl
    have hrs' := Lib.hid hrs
    clear hz hrs h0
    go_wp2_with fail
    go_ret
    rw [hrs'.out]
    exact ⟨_, rfl, hv2, q2⟩
  · obtain ⟨rb, hrb⟩ : ∃ rb, rootN self key s s.length = rb := ⟨_, rfl⟩
    have L := root_any self (.slice ao s.length cap) key s
    rw [best_root, hrb] at L
    rw [hrb] at hz
    have L' := Lib.hid L
    have hrb' := Lib.hid hrb
    have hz' := Lib.hid hz
    have n0 : ((s.length : Int) == 0) = false := by rw [beq_eq_false_iff_ne]; omega
    clear L hrb hz
    go_wp2_with (go_at_call 9; refine (L'.out _ hv2 (by omega)).mono ?_; rintro e w2 ⟨rfl, q3⟩; refine stop_here ?_)
    refine Stopped.go ?_
    cases rb
    · obtain ⟨j, hj, hjl⟩ := firstI_nat key s (rootN_nil _ _ _ hrb'.out)
      obtain ⟨b, off, rfl, hr⟩ := idsO_at hO hjl
      have r4 := rowAt_below q3 s2
      have q4 := kt q2 q3
      have hv3 := idsV_kept q3 hv2
      have L := best_any key (.slice (some ⟨b, off, none⟩) s.length cap) s w2 hv3 (by omega)
      rw [best_first, hj] at L
      have j1 : (j : Int) < (s.length : Int) := by omega
      have e1 : s.getD j 0 = s[j] := by simp [List.getD, hjl]
      have hz := hz'.out
      rw [hj, if_neg (by decide), Int.toNat_natCast, e1] at hz
      subst hz
      have L2 := Lib.hid L
      clear L hj e1 hz'
      go_wp2_with (go_at_call 19; refine L2.out.mono ?_; rintro e w3 ⟨rfl, q5⟩; have r5 := rowAt_below q5 (rowAt_below q3 (hr j hjl)))
      go_ret
      exact ⟨_, rfl, ownV_ids (ownV_made1 _ 0 _ (Nat.zero_le _)), ka (kt q4 q5) _⟩
    · have hz := hz'.out
      rw [if_pos rfl] at hz
      subst hz
      have hv3 := idsV_kept q3 hv2
      clear hz'
      go_wp2_with fail
      go_ret
      exact ⟨_, rfl, hv3, kt q2 q3⟩
end Go.Proofs.Ytdbmggdnbdcanaa
