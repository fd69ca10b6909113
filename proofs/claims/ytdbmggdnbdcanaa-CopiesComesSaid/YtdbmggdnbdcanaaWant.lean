/- The reference's Want. -/
import Derived.Test.YtdbmggdnbdcanaaRoot
namespace Go.Proofs.Ytdbmggdnbdcanaa
open Go.RowKit
open BigFrame

def rightN (self : Id) (s : List Id) (i : Nat) : Nat → Nat
  | 0 => 0
  | k + 1 => rightN self s i k + if ltB (s.getD k 0 - self) (s.getD i 0 - self) = true then 1 else 0
def leftN (self : Id) (s : List Id) (i : Nat) : Nat → Nat
  | 0 => 0
  | k + 1 => leftN self s i k + if ltB (self - s.getD k 0) (self - s.getD i 0) = true then 1 else 0
def wantN (self : Id) (half : Nat) (s : List Id) : Nat → List Id
  | 0 => []
  | n + 1 => wantN self half s n ++ if rightN self s n s.length < half ∨ leftN self s n s.length < half then [s.getD n 0] else []
def wantR (self : Id) (half : Nat) (l : List Id) : List Id := wantN self half (sortR self l l.length) (sortR self l l.length).length
theorem wantN_length (self : Id) (half : Nat) (s : List Id) : ∀ n, (wantN self half s n).length ≤ n
  | 0 => Nat.le_refl _
  | n + 1 => by
    have := wantN_length self half s n
    rw [wantN, List.length_append]
    split <;> simp <;> omega
theorem rightN_le (self : Id) (s : List Id) (i : Nat) : ∀ k, rightN self s i k ≤ k
  | 0 => Nat.le_refl _
  | k + 1 => by
    have := rightN_le self s i k
    rw [rightN]
    split <;> omega
theorem leftN_le (self : Id) (s : List Id) (i : Nat) : ∀ k, leftN self s i k ≤ k
  | 0 => Nat.le_refl _
  | k + 1 => by
    have := leftN_le self s i k
    rw [leftN]
    split <;> omega

set_option maxHeartbeats 12800000 in
theorem want_any (self : Id) (v : Value) (half : Nat) (l : List Id) (w : World) (hv : IdsV w v l) (hl : l.length ≤ 4000000000) :
    Calls Try.prog 14 #[.agg (idL self).toArray, v, .int .i64 half] w fun e w' => ∃ v', e = .returned v' ∧ IdsV w' v' (wantR self half l) ∧ Kept w w' := by
  obtain ⟨res, hres⟩ : ∃ res, wantR self half l = res := ⟨_, rfl⟩
  rw [hres]
  have hres' := Lib.hid hres
  clear hres
  go_enter Try.func14, Try.ntmps14
  go_wp2_with (go_at_call 21; refine (rsort_any self v l _ (idsV_kept (ka (k0 w) _) hv) hl).mono ?_; rintro e w1 ⟨v1, rfl, o1, q1⟩; refine stop_here ?_)
  refine Stopped.go ?_
  have s1 : rowAt w1 w.heap.size 0 16 = some (idL self) := rowAt_below q1 (by go_simp)
  have q2 : Kept w w1 := kt (ka (k0 w) _) q1
  have hsl := sortR_length self l l.length
  obtain ⟨s, hs⟩ : ∃ s, sortR self l l.length = s := ⟨_, rfl⟩
  have hz : wantN self half s s.length = res := by rw [← hres'.out, ← hs]; rfl
  rw [hs] at o1 hsl
  have hz' := Lib.hid hz
  obtain ⟨so, scap, rfl, hO⟩ := idsV_form (ownV_ids o1)
  clear hs hres' o1 q1 hz
  go_wp2_with fail
  go_loopw [8, 9] (fun ov iv wr => ∃ i : Nat, i ≤ s.length ∧ iv = .int .i64 i ∧ OwnV wr w1.heap.size ov (wantN self half s i) ∧ Kept w1 wr) (fun _ iv _ => s.length - (intOf iv).toNat)
  case atStart => exact ⟨0, by omega, rfl, ownV_nil _ _, k0 _⟩
  case round =>
    obtain ⟨i, hi, rfl, hov, q⟩ := hrel
    by_cases hlt : i < s.length
    · obtain ⟨b, off, rfl, hr⟩ := idsO_at hO hlt
      have i1 : (i : Int) < (s.length : Int) := by omega
      go_wp2_with fail
      refine wp_any_world (fun W => Kept w1 W ∧ OwnV W w1.heap.size u8 (wantN self half s i)) ⟨q, hov⟩ ?_
      clear q hov
      rintro W2 ⟨q, hov⟩
      go_loopw [10, 11, 12] (fun rv lv kv wi => ∃ k : Nat, k ≤ s.length ∧ kv = .int .i64 k ∧ rv = .int .i64 (rightN self s i k) ∧ lv = .int .i64 (leftN self s i k) ∧ Kept W2 wi) (fun _ _ kv _ => s.length - (intOf kv).toNat)
      case atStart => exact ⟨0, by omega, rfl, rfl, rfl, k0 _⟩
      case round =>
        obtain ⟨k, hk, rfl, rfl, rfl, q3⟩ := hrel
        by_cases hlk : k < s.length
        · have k1 : (k : Int) < (s.length : Int) := by omega
          have q4 := kt q q3
          have r1 := rowAt_below q4 s1
          have r2 := rowAt_below q4 (hr i hlt)
          have r3 := rowAt_below q4 (hr k hlk)
          have hl1 : s.getD i 0 = s[i] := by simp [List.getD, hlt]
          have hl2 : s.getD k 0 = s[k] := by simp [List.getD, hlk]
          obtain ⟨rb, hrb⟩ : ∃ rb, ltB (s[k] - self) (s[i] - self) = rb := ⟨_, rfl⟩
          obtain ⟨lb, hlb⟩ : ∃ lb, ltB (self - s[k]) (self - s[i]) = lb := ⟨_, rfl⟩
          have L1 : ∀ W, Calls Try.prog 22 #[.agg (idL (s[k] - self)).toArray, .agg (idL (s[i] - self)).toArray] W fun e w' => e = .returned (.bool rb) ∧ Kept W w' := fun W => by rw [← hrb]; exact less_any _ _ W
          have L2 : ∀ W, Calls Try.prog 22 #[.agg (idL (self - s[k])).toArray, .agg (idL (self - s[i])).toArray] W fun e w' => e = .returned (.bool lb) ∧ Kept W w' := fun W => by rw [← hlb]; exact less_any _ _ W
          have hn1 : rightN self s i (k + 1) = rightN self s i k + if rb = true then 1 else 0 := by rw [rightN, hl1, hl2, hrb]
          have hn2 : leftN self s i (k + 1) = leftN self s i k + if lb = true then 1 else 0 := by rw [leftN, hl1, hl2, hlb]
          have L1' := Lib.hid L1
          have L2' := Lib.hid L2
          have hn1' := Lib.hid hn1
          have hn2' := Lib.hid hn2
          have f1 := rowAt_later r1
          have f2 := rowAt_later r2
          have f3 := rowAt_later r3
          have b1 := rightN_le self s i k
          have b2 := leftN_le self s i k
          have m1 := rowAt_below (k0 wr) r1
          clear L1 L2 hn1 hn2 hl1 hl2 hrb hlb m1
          generalize rightN self s i k = rn at *
          generalize leftN self s i k = ln at *
          go_wp2_with fail
          refine wp_region_later (by kernel_rfl) (by kernel_rfl) ?_
          repeat (go_big_quiet_step (first | (go_at_call 22; exact calls_later (L1'.out _)) | (go_at_call 23; exact calls_later (sub_any _ _ _))))
          refine wpQuiet_nil ?_
          rintro w4 hq4
          have g1 := rowAt_later (rowAt_below hq4 r1)
          have g2 := rowAt_later (rowAt_below hq4 r2)
          have g3 := rowAt_later (rowAt_below hq4 r3)
          clear f1 f2 f3
          go_wp2_with fail
          all_goals
            refine wp_region_later (by kernel_rfl) (by kernel_rfl) ?_
            repeat (go_big_quiet_step (first | (go_at_call 22; exact calls_later (L2'.out _)) | (go_at_call 23; exact calls_later (sub_any _ _ _))))
            refine wpQuiet_nil ?_
            rintro w5 hq5
            go_wp2_with fail
            all_goals
              go_roundw
              case rel =>
                refine ⟨k + 1, hlk, by simp, ?_, ?_, kt q3 (kt hq4 hq5)⟩
                · rw [hn1'.out]
                  cases rb <;> first | contradiction | simp
                · rw [hn2'.out]
                  cases lb <;> first | contradiction | simp
              case measure => simp [intOf]; omega
        · have hks : k = s.length := by omega
          subst hks
          have nk : ¬ (s.length : Int) < (s.length : Int) := by omega
          have q4 := kt q q3
          have hl1 : s.getD i 0 = s[i] := by simp [List.getD, hlt]
          have hn : wantN self half s (i + 1) = wantN self half s i ++ if rightN self s i s.length < half ∨ leftN self s i s.length < half then [s[i]] else [] := by rw [wantN, hl1]
          have b1 := rightN_le self s i s.length
          have b2 := leftN_le self s i s.length
          have hov2 := ownV_kept q3 hov
          have r2 := rowAt_below q4 (hr i hlt)
          have hn' := Lib.hid hn
          have hwl := wantN_length self half s i
          clear hn hl1 hov
          generalize rightN self s i s.length = rn at *
          generalize leftN self s i s.length = ln at *
          generalize wantN self half s i = out at *
          go_wp2_with (at_builtin; refine stop_here ?_)
          all_goals first
            | (refine Stopped.go (wpList_app2 rfl (.tmp 66) (.tmp 71) rfl w1.heap.size _ _ out [s[i]] rfl rfl ?_ ?_ ?_ ?_ ?_)
               · exact ownV_kept (ka (k0 _) _) hov2
               · exact ownV_ids (ownV_made1 _ 0 _ (Nat.zero_le _))
               · simp; omega
               · have := q4.size; simp; omega
               · intro v5 w5 o5 g5
                 have k5 : Kept w1 w5 := g5 w1 (ka q4 _) (Nat.le_refl _)
                 go_wp2_with fail
                 go_roundw
                 case rel => exact ⟨i + 1, hlt, by simp, by rw [hn'.out, if_pos (by omega)]; exact o5, k5⟩
                 case measure => simp [intOf]; omega)
            | (go_roundw
               case rel => exact ⟨i + 1, hlt, by simp, by rw [hn'.out, if_neg (by omega), List.append_nil]; exact hov2, q4⟩
               case measure => simp [intOf]; omega)
    · have his : i = s.length := by omega
      subst his
      have ni : ¬ (s.length : Int) < (s.length : Int) := by omega
      go_wp2_with fail
      go_ret
      have := hz'.out
      rw [this] at hov
      exact ⟨_, rfl, ownV_ids hov, kt q2 q⟩
end Go.Proofs.Ytdbmggdnbdcanaa
