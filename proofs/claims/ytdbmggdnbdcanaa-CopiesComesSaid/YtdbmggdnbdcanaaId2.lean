/- The functions on identities of the reference (annuletref01), second part. -/
import Derived.Test.YtdbmggdnbdcanaaId1
namespace Go.Proofs.Ytdbmggdnbdcanaa
open Go.RowKit

set_option maxHeartbeats 800000 in
theorem less_any (x y : Id) (w : World) :
    Calls Try.prog 22 #[.agg (idL x).toArray, .agg (idL y).toArray] w fun e w' => e = .returned (.bool (ltB x y)) ∧ Kept w w' := by
  rcases Nat.lt_trichotomy (hi64 x) (hi64 y) with h | h | h
  · have R : Hid (ltB x y = true) := ltB_hi h
    go_enter Try.func22, Try.ntmps22
    go_wp2_with fail
    refine (wide_any _ _).mono ?_
    rintro e w1 ⟨rfl, hb1⟩
    have r1 := rowAt_below hb1 (show rowAt _ (w.heap.size + 1) 0 16 = some (idL y) by go_simp)
    have q1 := kt (ka (ka (k0 w) _) _) hb1
    clear hb1
    go_wp2_with fail
    refine (wide_any _ _).mono ?_
    rintro e w2 ⟨rfl, hb2⟩
    have q2 := kt q1 hb2
    clear hb2 q1
    go_wp2
    go_ret
    exact ⟨by rw [R.out]; rfl, q2⟩
  · have R : Hid (ltB x y = decide (lo64 x < lo64 y)) := ltB_eq h
    have h1 : hi64 x ≤ hi64 y := by omega
    have h2 : hi64 y ≤ hi64 x := by omega
    have H : Hid (hi64 x = hi64 y) := h
    clear h
    go_enter Try.func22, Try.ntmps22
    go_wp2_with fail
    refine (wide_any _ _).mono ?_
    rintro e w1 ⟨rfl, hb1⟩
    have r1 := rowAt_below hb1 (show rowAt _ (w.heap.size + 1) 0 16 = some (idL y) by go_simp)
    have q1 := kt (ka (ka (k0 w) _) _) hb1
    clear hb1
    go_wp2_with fail
    refine (wide_any _ _).mono ?_
    rintro e w2 ⟨rfl, hb2⟩
    have q2 := kt q1 hb2
    clear hb2 q1
    go_wp2
    go_ret
    exact ⟨by rw [R.out]; go_num, q2⟩
  · have R : Hid (ltB x y = false) := ltB_gt h
    go_enter Try.func22, Try.ntmps22
    go_wp2_with fail
    refine (wide_any _ _).mono ?_
    rintro e w1 ⟨rfl, hb1⟩
    have r1 := rowAt_below hb1 (show rowAt _ (w.heap.size + 1) 0 16 = some (idL y) by go_simp)
    have q1 := kt (ka (ka (k0 w) _) _) hb1
    clear hb1
    go_wp2_with fail
    refine (wide_any _ _).mono ?_
    rintro e w2 ⟨rfl, hb2⟩
    have q2 := kt q1 hb2
    clear hb2 q1
    go_wp2
    go_ret
    refine ⟨?_, q2⟩
    show Ending.returned (.bool (decide (hi64 x < hi64 y))) = _
    rw [R.out, decide_eq_false (by omega)]

theorem u64_lo (n : Int) : 0 ≤ IntKind.u64.wrap n := by rw [IntKind.wrap_u64]; omega
theorem u64_hi (n : Int) : IntKind.u64.wrap n ≤ 18446744073709551615 := by rw [IntKind.wrap_u64]; omega

set_option maxHeartbeats 800000 in
theorem id_int (a b : Int) (w : World) (ha : 0 ≤ a) (ha' : a ≤ 18446744073709551615) (hb : 0 ≤ b) (hb' : b ≤ 18446744073709551615) :
    Calls Try.prog 34 #[.int .u64 a, .int .u64 b] w fun e w' => e = .returned (.agg (idL (ofWords a.toNat b.toNat)).toArray) ∧ Kept w w' := by
  obtain ⟨m, rfl⟩ := Int.eq_ofNat_of_zero_le ha
  obtain ⟨n, rfl⟩ := Int.eq_ofNat_of_zero_le hb
  exact id_any m n w (by omega) (by omega)

set_option maxHeartbeats 800000 in
theorem sub_any (x y : Id) (w : World) :
    Calls Try.prog 23 #[.agg (idL x).toArray, .agg (idL y).toArray] w fun e w' => e = .returned (.agg (idL (x - y)).toArray) ∧ Kept w w' := by
  by_cases h : lo64 x < lo64 y
  · go_enter Try.func23, Try.ntmps23
    go_wp2_with fail
    refine (wide_any _ _).mono ?_
    rintro e w1 ⟨rfl, hb1⟩
    have r1 := rowAt_below hb1 (show rowAt _ (w.heap.size + 1) 0 16 = some (idL y) by go_simp)
    have c1 := canPut_below hb1 (show canPut _ (w.heap.size + 1 + 1) 0 16 = true by go_simp)
    have q1 := kt (ka (ka (ka (k0 w) _) _) _) hb1
    clear hb1
    go_wp2_with fail
    refine (wide_any _ _).mono ?_
    rintro e w2 ⟨rfl, hb2⟩
    have c2 := canPut_below hb2 c1
    have q2 := kt q1 hb2
    clear hb2 q1 c1
    go_wp2_with fail
    refine (id_int _ _ _ (u64_lo _) (u64_hi _) (u64_lo _) (u64_hi _)).mono ?_
    rintro e w3 ⟨rfl, hb3⟩
    have c3 := canPut_below hb3 c2
    have q3 := kt q2 hb3
    clear hb3 q2 c2
    go_wp2
    refine bodyPost_ret (v := .agg (idL (ofWords (IntKind.u64.wrap (IntKind.u64.wrap (↑(hi64 x) - ↑(hi64 y)) - 1)).toNat (IntKind.u64.wrap (↑(lo64 x) - ↑(lo64 y))).toNat)).toArray) (results_row rfl _ _ (w.heap.size + 1 + 1) (idL _) _ 16 rfl (by go_simp) Try.underlying23 rfl (by kernel_rfl)) rfl ⟨?_, ?_⟩
    · rw [sub_words x y _ _ _ _]
      · have a1 := hi64_le x
        have a2 := hi64_le y
        rw [if_pos h, IntKind.wrap_u64, IntKind.wrap_u64]; omega
      · have a1 := lo64_le x
        have a2 := lo64_le y
        rw [IntKind.wrap_u64]; omega
    · exact kp q3 (by omega) _ _
  · go_enter Try.func23, Try.ntmps23
    go_wp2_with fail
    refine (wide_any _ _).mono ?_
    rintro e w1 ⟨rfl, hb1⟩
    have r1 := rowAt_below hb1 (show rowAt _ (w.heap.size + 1) 0 16 = some (idL y) by go_simp)
    have c1 := canPut_below hb1 (show canPut _ (w.heap.size + 1 + 1) 0 16 = true by go_simp)
    have q1 := kt (ka (ka (ka (k0 w) _) _) _) hb1
    clear hb1
    go_wp2_with fail
    refine (wide_any _ _).mono ?_
    rintro e w2 ⟨rfl, hb2⟩
    have c2 := canPut_below hb2 c1
    have q2 := kt q1 hb2
    clear hb2 q1 c1
    go_wp2_with fail
    refine (id_int _ _ _ (u64_lo _) (u64_hi _) (u64_lo _) (u64_hi _)).mono ?_
    rintro e w3 ⟨rfl, hb3⟩
    have c3 := canPut_below hb3 c2
    have q3 := kt q2 hb3
    clear hb3 q2 c2
    go_wp2
    refine bodyPost_ret (v := .agg (idL (ofWords (IntKind.u64.wrap (↑(hi64 x) - ↑(hi64 y))).toNat (IntKind.u64.wrap (↑(lo64 x) - ↑(lo64 y))).toNat)).toArray) (results_row rfl _ _ (w.heap.size + 1 + 1) (idL _) _ 16 rfl (by go_simp) Try.underlying23 rfl (by kernel_rfl)) rfl ⟨?_, ?_⟩
    · rw [sub_words x y _ _ _ _]
      · have a1 := hi64_le x
        have a2 := hi64_le y
        rw [if_neg h, IntKind.wrap_u64]; omega
      · have a1 := lo64_le x
        have a2 := lo64_le y
        rw [IntKind.wrap_u64]; omega
    · exact kp q3 (by omega) _ _

end Go.Proofs.Ytdbmggdnbdcanaa
