/- Two lists compared. -/
import Derived.Test.YtdbmggdnbdcanaaCopy
namespace Go.Proofs.Ytdbmggdnbdcanaa
open Go.RowKit
open BigFrame

/-- The address of a slice that holds l. -/
def IdsO (w : World) (ao : Option Addr) (l : List Id) : Prop := l = [] ∨ ∃ b off, ao = some ⟨b, off, none⟩ ∧ IdsAt w b off l
theorem idsV_form {w : World} {v : Value} {l : List Id} (h : IdsV w v l) : ∃ ao cap, v = .slice ao l.length cap ∧ IdsO w ao l := by
  rcases h with ⟨ao, cap, rfl, _, rfl⟩ | ⟨b, off, cap, rfl, hr⟩
  · exact ⟨ao, cap, rfl, .inl rfl⟩
  · exact ⟨_, cap, rfl, .inr ⟨b, off, rfl, hr⟩⟩
theorem idsO_at {w : World} {ao : Option Addr} {l : List Id} (h : IdsO w ao l) {i : Nat} (hi : i < l.length) : ∃ b off, ao = some ⟨b, off, none⟩ ∧ IdsAt w b off l := by
  rcases h with rfl | h
  · cases hi
  · exact h
theorem idsO_kept {w w' : World} (hk : Kept w w') {ao : Option Addr} {l : List Id} (h : IdsO w ao l) : IdsO w' ao l := by
  rcases h with h | ⟨b, off, h1, h2⟩
  · exact .inl h
  · exact .inr ⟨b, off, h1, idsAt_kept hk h2⟩

theorem eq_upto {l m : List Id} (hlen : l.length = m.length) (h : ∀ j, j < l.length → l.getD j 0 = m.getD j 0) : l = m := by
  refine List.ext_getElem hlen fun j h1 h2 => ?_
  have := h j h1
  simpa [List.getD, h1, h2] using this

set_option maxHeartbeats 1600000 in
/-- SameIDs. -/
theorem same_any (u v : Value) (l m : List Id) (w : World) (hu : IdsV w u l) (hv : IdsV w v m) (hl : l.length ≤ 9223372036854775807) (hm : m.length ≤ 9223372036854775807) :
    Calls Try.prog 11 #[u, v] w fun e w' => e = .returned (.bool (l == m)) ∧ Kept w w' := by
  obtain ⟨ao, cap, rfl, hO⟩ := idsV_form hu
  obtain ⟨bo, cap2, rfl, hP⟩ := idsV_form hv
  by_cases hlen : l.length = m.length
  · go_enter Try.func11, Try.ntmps11
    go_wp2_with fail
    refine wp_any_world (fun W => Kept w W) (k0 w) ?_
    rintro W q
    go_loopw [5] (fun iv wr => ∃ i : Nat, i ≤ l.length ∧ iv = .int .i64 i ∧ Hid (∀ j, j < i → l.getD j 0 = m.getD j 0) ∧ Kept w wr) (fun iv _ => l.length - (intOf iv).toNat)
    case atStart => exact ⟨0, by omega, rfl, fun j hj => absurd hj (by omega), q⟩
    case round =>
      obtain ⟨i, hi, rfl, H, q⟩ := hrel
      by_cases hlt : i < l.length
      · have hlt2 : i < m.length := by omega
        obtain ⟨b, off, rfl, hr⟩ := idsO_at hO hlt
        obtain ⟨b2, off2, rfl, hr2⟩ := idsO_at hP hlt2
        have r1 := rowAt_below q (hr i hlt)
        have r2 := rowAt_below q (hr2 i hlt2)
        have i1 : (i : Int) < (l.length : Int) := by omega
        have i2 : (i : Int) < (m.length : Int) := by omega
        clear hlen
        go_wp2_with fail
        go_quiet (fail)
        go_wp2_with fail
        · have h : (l[i] != m[i]) = true := by assumption
          go_ret
          refine ⟨?_, kdn q _⟩
          have : (l == m) = false := by
            rw [beq_eq_false_iff_ne]
            rintro rfl
            simp at h
          rw [this]
          rfl
        · have h : (l[i] != m[i]) = false := by assumption
          go_roundw
          case rel =>
            refine ⟨i + 1, hlt, by simp, fun j hj => ?_, kdn q _⟩
            by_cases hji : j = i
            · subst hji
              simpa [List.getD, hlt, hlt2] using h
            · exact H j (by omega)
          case measure => simp [intOf]; omega
      · have hle : i = l.length := by omega
        subst hle
        go_wp2_with fail
        go_ret
        refine ⟨?_, q⟩
        rw [eq_upto hlen H]
        simp
  · have hne : ¬ (l.length : Int) = (m.length : Int) := by omega
    go_enter Try.func11, Try.ntmps11
    go_wp2_with fail
    go_ret
    refine ⟨?_, k0 w⟩
    have : (l == m) = false := by
      rw [beq_eq_false_iff_ne]
      rintro rfl
      exact hlen rfl
    rw [this]
    rfl
end Go.Proofs.Ytdbmggdnbdcanaa
