/- The nearest of some: the reference's functions. -/
import Derived.Test.YtdbmggdnbdcanaaBest
namespace Go.Proofs.Ytdbmggdnbdcanaa
open Go.RowKit
open BigFrame

/-- Is none of the first n nearer than the one at i? -/
def okN (d : Id) (l : List Id) (i : Nat) : Nat → Bool
  | 0 => true
  | n + 1 => okN d l i n && !nearB d (l.getD n 0) (l.getD i 0)
/-- The first place, from i on, n places long, than which none is nearer. -/
def firstI (d : Id) (l : List Id) : Nat → Nat → Int
  | _, 0 => -1
  | i, n + 1 => if okN d l i l.length = true then i else firstI d l (i + 1) n

set_option maxHeartbeats 3200000 in
theorem first_any (d : Id) (v : Value) (l : List Id) (w : World) (hv : IdsV w v l) (hl : l.length ≤ 9223372036854775807) :
    Calls Try.prog 15 #[.agg (idL d).toArray, v] w fun e w' => e = .returned (.int .i64 (firstI d l 0 l.length)) ∧ Kept w w' := by
  obtain ⟨ao, cap, rfl, hO⟩ := idsV_form hv
  go_enter Try.func15, Try.ntmps15
  go_wp2_with fail
  refine wp_any_world (fun W => Kept w W ∧ rowAt W w.heap.size 0 16 = some (idL d)) ⟨ka (k0 w) _, by go_simp⟩ ?_
  rintro W ⟨q, r1⟩
  go_loopw [5] (fun iv wr => ∃ i : Nat, i ≤ l.length ∧ iv = .int .i64 i ∧ Hid (firstI d l 0 l.length = firstI d l i (l.length - i)) ∧ Kept w wr ∧ rowAt wr w.heap.size 0 16 = some (idL d)) (fun iv _ => l.length - (intOf iv).toNat)
  case atStart => exact ⟨0, by omega, rfl, rfl, q, r1⟩
  case round =>
    obtain ⟨i, hi, rfl, H, q, r1⟩ := hrel
    by_cases hlt : i < l.length
    · obtain ⟨b, off, rfl, hr⟩ := idsO_at hO hlt
      have i1 : (i : Int) < (l.length : Int) := by omega
      go_wp2_with fail
      refine wp_any_world (fun W => Kept w W ∧ rowAt W w.heap.size 0 16 = some (idL d)) ⟨q, r1⟩ ?_
      clear q r1
      rintro W2 ⟨q, r1⟩
      go_loopw [6, 7] (fun bv kv wr => ∃ k : Nat, k ≤ l.length ∧ kv = .int .i64 k ∧ bv = .bool (okN d l i k) ∧ Kept w wr ∧ rowAt wr w.heap.size 0 16 = some (idL d)) (fun _ kv _ => l.length - (intOf kv).toNat)
      case atStart => exact ⟨0, by omega, rfl, rfl, q, r1⟩
      case round =>
        obtain ⟨k, hk, rfl, rfl, q, r1⟩ := hrel
        by_cases hlk : k < l.length
        · have r2 := rowAt_below q (hr i hlt)
          have r3 := rowAt_below q (hr k hlk)
          have k1 : (k : Int) < (l.length : Int) := by omega
          have hl1 : l.getD i 0 = l[i] := by simp [List.getD, hlt]
          have hl2 : l.getD k 0 = l[k] := by simp [List.getD, hlk]
          cases hok : okN d l i k
          · have hn : okN d l i (k + 1) = false := by rw [okN, hok]; rfl
            go_wp2_with fail
            go_quiet (fail)
            go_wp2_with fail
            go_roundw
            case rel => exact ⟨k + 1, hlk, by simp, by rw [hn], kdn q _, rowAt_below (kdn (k0 _) _) r1⟩
            case measure => simp [intOf]; omega
          · have hn : okN d l i (k + 1) = !nearB d l[k] l[i] := by rw [okN, hok, hl1, hl2]; rfl
            have f1 := rowAt_later r1
            have f2 := rowAt_later r2
            have f3 := rowAt_later r3
            clear hl1 hl2
            go_wp2_with fail
            refine wp_region_later (by kernel_rfl) (by kernel_rfl) ?_
            repeat (go_big_quiet_step (first | (go_at_call 16; exact calls_later (rnear_any _ _ _ _))))
            refine wpQuiet_nil ?_
            rintro w3 hq
            go_wp2_with fail
            go_roundw
            case rel => exact ⟨k + 1, hlk, by simp, by rw [hn], kt q hq, rowAt_below hq r1⟩
            case measure => simp [intOf]; omega
        · have hle : k = l.length := by omega
          subst hle
          have hf : firstI d l i (l.length - i) = if okN d l i l.length = true then (i : Int) else firstI d l (i + 1) (l.length - (i + 1)) := by
            rw [show l.length - i = l.length - (i + 1) + 1 by omega, firstI]
          cases hok : okN d l i l.length
          · go_wp2_with fail
            go_roundw
            case rel => exact ⟨i + 1, hlt, by simp, by rw [Hid] at H ⊢; rw [H, hf, hok]; rfl, q, r1⟩
            case measure => simp [intOf]; omega
          · go_wp2_with fail
            go_ret
            refine ⟨?_, q⟩
            rw [Hid] at H
            rw [H, hf, hok]
            rfl
    · have hle : i = l.length := by omega
      subst hle
      go_wp2_with fail
      go_ret
      refine ⟨?_, q⟩
      rw [Hid] at H
      rw [H, Nat.sub_self]
      rfl

/-- Is none of the first n of l nearer to key than self? -/
def rootN (self key : Id) (l : List Id) : Nat → Bool
  | 0 => true
  | n + 1 => rootN self key l n && !nearB key (l.getD n 0) self

set_option maxHeartbeats 3200000 in
theorem rroot_any (self : Id) (v : Value) (key : Id) (l : List Id) (w : World) (hv : IdsV w v l) (hl : l.length ≤ 9223372036854775807) :
    Calls Try.prog 10 #[.agg (idL self).toArray, v, .agg (idL key).toArray] w fun e w' => e = .returned (.bool (rootN self key l l.length)) ∧ Kept w w' := by
  obtain ⟨ao, cap, rfl, hO⟩ := idsV_form hv
  go_enter Try.func10, Try.ntmps10
  go_wp2_with fail
  refine wp_any_world (fun W => Kept w W ∧ rowAt W w.heap.size 0 16 = some (idL self) ∧ rowAt W (w.heap.size + 1) 0 16 = some (idL key)) ⟨ka (ka (k0 w) _) _, by go_simp, by go_simp⟩ ?_
  rintro W ⟨q, r1, r2⟩
  go_loopw [7] (fun iv wr => ∃ i : Nat, i ≤ l.length ∧ iv = .int .i64 i ∧ Hid (rootN self key l i = true) ∧ Kept w wr ∧ rowAt wr w.heap.size 0 16 = some (idL self) ∧ rowAt wr (w.heap.size + 1) 0 16 = some (idL key)) (fun iv _ => l.length - (intOf iv).toNat)
  case atStart => exact ⟨0, by omega, rfl, rfl, q, r1, r2⟩
  case round =>
    obtain ⟨i, hi, rfl, H, q, r1, r2⟩ := hrel
    by_cases hlt : i < l.length
    · obtain ⟨b, off, rfl, hr⟩ := idsO_at hO hlt
      have i1 : (i : Int) < (l.length : Int) := by omega
      have r3 := rowAt_below q (hr i hlt)
      have f1 := rowAt_later r1
      have f2 := rowAt_later r2
      have f3 := rowAt_later r3
      have hl1 : l.getD i 0 = l[i] := by simp [List.getD, hlt]
      have hn : rootN self key l (i + 1) = !nearB key l[i] self := by rw [Hid] at H; rw [rootN, H, hl1]; rfl
      clear hl1
      go_wp2_with fail
      refine wp_region_later (by kernel_rfl) (by kernel_rfl) ?_
      repeat (go_big_quiet_step (first | (go_at_call 16; exact calls_later (rnear_any _ _ _ _))))
      refine wpQuiet_nil ?_
      rintro w3 hq
      go_wp2_with fail
      · have h : nearB key l[i] self = true := by assumption
        go_ret
        refine ⟨?_, kt q hq⟩
        have hf : rootN self key l l.length = false := by
          have key2 : ∀ n, i < n → rootN self key l n = false := by
            intro n hin
            induction n with
            | zero => omega
            | succ n ih =>
              by_cases hc : i = n
              · rw [← hc, hn, h]; rfl
              · rw [rootN, ih (by omega)]; rfl
          exact key2 _ hlt
        rw [hf]
        rfl
      · have h : nearB key l[i] self = false := by assumption
        go_roundw
        case rel => exact ⟨i + 1, hlt, by simp, by rw [Hid, hn, h]; rfl, kt q hq, rowAt_below hq r1, rowAt_below hq r2⟩
        case measure => simp [intOf]; omega
    · have hle : i = l.length := by omega
      subst hle
      go_wp2_with fail
      go_ret
      refine ⟨?_, q⟩
      rw [Hid] at H
      rw [H]
      rfl
end Go.Proofs.Ytdbmggdnbdcanaa
