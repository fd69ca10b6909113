/- The nearest of some: the program's function. -/
import Derived.Test.YtdbmggdnbdcanaaSame
namespace Go.Proofs.Ytdbmggdnbdcanaa
open Go.RowKit
open BigFrame

/-- The place of the nearest of the first n; -1: none. -/
def bestI (d : Id) (l : List Id) : Nat → Int
  | 0 => -1
  | n + 1 => if bestI d l n < 0 ∨ nearB d (l.getD n 0) (l.getD (bestI d l n).toNat 0) = true then n else bestI d l n
theorem bestI_lt (d : Id) (l : List Id) : ∀ n, bestI d l n < n ∧ -1 ≤ bestI d l n ∧ (0 < n → 0 ≤ bestI d l n)
  | 0 => ⟨by simp [bestI], by simp [bestI], fun h => absurd h (by omega)⟩
  | n + 1 => by
    have := bestI_lt d l n
    unfold bestI
    split
    · omega
    · rename_i h
      have : ¬ bestI d l n < 0 := fun hh => h (.inl hh)
      omega

set_option maxHeartbeats 3200000 in
theorem best_any (d : Id) (v : Value) (l : List Id) (w : World) (hv : IdsV w v l) (hl : l.length ≤ 9223372036854775807) :
    Calls Try.prog 19 #[.agg (idL d).toArray, v] w fun e w' => e = .returned (.int .i64 (bestI d l l.length)) ∧ Kept w w' := by
  obtain ⟨ao, cap, rfl, hO⟩ := idsV_form hv
  go_enter Try.func19, Try.ntmps19
  go_wp2_with fail
  refine wp_any_world (fun W => Kept w W ∧ rowAt W w.heap.size 0 16 = some (idL d)) ⟨ka (k0 w) _, by go_simp⟩ ?_
  rintro W ⟨q, r1⟩
  go_loopw [5, 10] (fun bv iv wr => ∃ i : Nat, i ≤ l.length ∧ iv = .int .i64 i ∧ bv = .int .i64 (bestI d l i) ∧ Kept w wr ∧ rowAt wr w.heap.size 0 16 = some (idL d)) (fun _ iv _ => l.length - (intOf iv).toNat)
  case atStart => exact ⟨0, by omega, rfl, rfl, q, r1⟩
  case round =>
    obtain ⟨i, hi, rfl, rfl, q, r1⟩ := hrel
    by_cases hlt : i < l.length
    · obtain ⟨b, off, rfl, hr⟩ := idsO_at hO hlt
      have r2 := rowAt_below q (hr i hlt)
      have i1 : (i : Int) < (l.length : Int) := by omega
      by_cases h0 : i = 0
      · have hk : bestI d l i = -1 := by rw [h0]; rfl
        have hn : bestI d l (i + 1) = i := by rw [bestI, if_pos (.inl (by rw [hk]; decide))]
        rw [hk]
        clear h0
        go_wp2_with fail
        go_quiet (fail)
        go_wp2_with fail
        go_roundw
        case rel => exact ⟨i + 1, hlt, by simp, by rw [hn], kdn (ka q _) _, rowAt_below (kdn (ka (k0 wr) _) _) r1⟩
        case measure => simp [intOf]; omega
      · obtain ⟨k, hk⟩ : ∃ k : Nat, bestI d l i = k := ⟨(bestI d l i).toNat, by have := bestI_lt d l i; omega⟩
        have hki : k < i := by have := bestI_lt d l i; omega
        have hkl : k < l.length := by omega
        have r3 := rowAt_below q (hr k hkl)
        rw [hk]
        go_wp2_with fail
        refine wp_any_world (fun W => Kept w W ∧ rowAt W w.heap.size 0 16 = some (idL d) ∧ rowAt W wr.heap.size 0 16 = some (idL l[i]) ∧ rowAt W b (off + k * 16) 16 = some (idL (l.getD k 0))) ⟨ka q _, rowAt_below (ka (k0 wr) _) r1, by go_simp, rowAt_below (ka (k0 wr) _) r3⟩ ?_
        rintro W2 ⟨q2, s1, s2, s3⟩
        have f1 := rowAt_later s1
        have f2 := rowAt_later s2
        have f3 := rowAt_later s3
        have k1 : (k : Int) < (l.length : Int) := by omega
        have k2 : decide ((k : Int) < 0) = false := by simp
        refine wp_region_later (by kernel_rfl) (by kernel_rfl) ?_
        repeat (go_big_quiet_step (first | (go_at_call 25; exact calls_later (near_any _ _ _ _))))
        refine wpQuiet_nil ?_
        rintro w3 hq
        have hl1 : l.getD i 0 = l[i] := by simp [List.getD, hlt]
        have hl2 : l.getD k 0 = l[k] := by simp [List.getD, hkl]
        have hn : bestI d l (i + 1) = if nearB d l[i] l[k] = true then (i : Int) else k := by
          rw [bestI, hk, Int.toNat_natCast, hl1, hl2]
          have : ¬ (k : Int) < 0 := by omega
          simp [this]
        clear hl1 hl2
        go_wp2_with fail
        · have h : nearB d l[i] l[k] = true := by assumption
          go_roundw
          case rel => exact ⟨i + 1, hlt, by simp, by rw [hn, if_pos h], kt q2 hq, rowAt_below hq s1⟩
          case measure => simp [intOf]; omega
        · have h : nearB d l[i] l[k] = false := by assumption
          go_roundw
          case rel => exact ⟨i + 1, hlt, by simp, by rw [hn, h]; simp, kt q2 hq, rowAt_below hq s1⟩
          case measure => simp [intOf]; omega
    · have hle : i = l.length := by omega
      subst hle
      go_wp2_with fail
      go_ret
      exact ⟨rfl, q⟩
end Go.Proofs.Ytdbmggdnbdcanaa
