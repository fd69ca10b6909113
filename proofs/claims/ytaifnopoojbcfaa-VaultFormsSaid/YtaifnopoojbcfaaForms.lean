/- VaultForms: the walk. -/
import Derived.Test.YtaifnopoojbcfaaVFixed
namespace Go.Proofs.Ytaifnopoojbcfaa
open Go.RowKit
open BigFrame

theorem newer_not (a b : Vr) : (newerB a b && newerB b a) = false := by
  unfold newerB ltB
  rcases Int.lt_trichotomy a.n b.n with h | h | h
  · have h1 : ¬ b.n < a.n := by omega
    have h2 : ¬ a.n = b.n := by omega
    simp [h1, h2]
  · rw [h]
    simp
    omega
  · have h1 : ¬ a.n < b.n := by omega
    have h2 : ¬ b.n = a.n := by omega
    simp [h1, h2]
theorem newer_one (a b : Vr) : ((a.n == b.n && a.who == b.who) || newerB a b || newerB b a) = true := by
  unfold newerB ltB
  rcases Int.lt_trichotomy a.n b.n with h | h | h
  · simp [h]
  · rw [h]
    by_cases h1 : a.who = b.who
    · simp [h1]
    · have : a.who.toNat ≠ b.who.toNat := fun e => h1 (BitVec.eq_of_toNat_eq e)
      simp [h1]
      omega
  · simp [h]
def evB (a b : Vr) : Bool := a.n == b.n && a.who == b.who
theorem newer_one' (a b : Vr) : (evB a b || newerB a b || newerB b a) = true := newer_one a b
theorem itemL_set16 (key who : Id) (N : Int) (s : Value) (m : Int) : (itemL ⟨key, ⟨N, who⟩, s⟩).set 16 (.int .i64 m) = itemL ⟨key, ⟨m, who⟩, s⟩ := by
  unfold itemL
  rw [List.set_append_right _ _ (by simp), idL_length]
  rfl
-- DEF begins
def formDs (X : It) (a b : Vr) (FB : List UInt8) : Nat → Value → World → Prop := fun t y W =>
  match t with
  | 13 => y = .bool true
  | 14 => y = .bool true
  | 15 => y = .agg (itemL X).toArray
  | 16 => ElV W y (bL FB)
  | 17 => y = .string ⟨FB.toArray⟩
  | 18 => y = .agg (itemL X).toArray
  | 19 => ElV W y (bL FB)
  | 20 => y = .string ⟨FB.toArray⟩
  | 21 => y = .bool true
  | 22 => y = .bool true
  | 23 => y = .bool true
  | 24 => y = .agg (verL a).toArray
  | 25 => y = .agg (verL b).toArray
  | 26 => y = .bool (newerB a b)
  | 27 => y = .agg (verL a).toArray
  | 28 => y = .agg (verL b).toArray
  | 29 => y = .bool (newerB a b)
  | 30 => y = .bool true
  | 31 => y = .bool true
  | 32 => y = .bool true
  | 33 => y = .agg (verL a).toArray
  | 34 => y = .agg (verL b).toArray
  | 35 => y = .bool (newerB a b)
  | 36 => y = .bool (newerB a b)
  | 37 => newerB a b = true → y = .agg (verL b).toArray
  | 38 => newerB a b = true → y = .agg (verL a).toArray
  | 39 => newerB a b = true → y = .bool (newerB b a)
  | 40 => y = .bool false
  | 41 => y = .bool true
  | 42 => y = .bool true
  | 43 => y = .bool true
  | 44 => y = .agg (verL a).toArray
  | 45 => y = .agg (verL b).toArray
  | 46 => y = .bool (evB a b)
  | 47 => y = .bool (evB a b)
  | 48 => evB a b = false → y = .agg (verL a).toArray
  | 49 => evB a b = false → y = .agg (verL b).toArray
  | 50 => evB a b = false → y = .bool (newerB a b)
  | 51 => y = .bool (evB a b || newerB a b)
  | 52 => y = .bool (evB a b || newerB a b)
  | 53 => (evB a b || newerB a b) = false → y = .agg (verL b).toArray
  | 54 => (evB a b || newerB a b) = false → y = .agg (verL a).toArray
  | 55 => (evB a b || newerB a b) = false → y = .bool (newerB b a)
  | 56 => y = .bool true
  | 57 => y = .bool true
  | 6 => y = .bool true
  | _ => True
-- DEF ends
-- NEG begins
set_option maxRecDepth 100000 in
set_option maxHeartbeats 3200000 in
theorem forms_neg (key who : Id) (N : Int) (s : Value) (t : List UInt8) (a b : Vr) (w : World) (hs : ElV w s (bL t)) (hl : t.length ≤ 140737488351232) (hN : N < 0) :
    Calls Try.prog 3 #[.agg (itemL ⟨key, ⟨N, who⟩, s⟩).toArray, .agg (verL a).toArray, .agg (verL b).toArray] w fun e w' => e = .returned (.bool true) ∧ Kept w w' := by
  obtain ⟨ao, cap, rfl, -, -⟩ := elV_form hs
  simp only [bL_length] at hs ⊢
  have hro := rowOk_item ⟨key, ⟨N, who⟩, .slice ao t.length cap⟩ rfl
  have hro1 := rowOk_item ⟨key, ⟨0, who⟩, .slice ao t.length cap⟩ rfl
  have hset := itemL_set16 key who N (.slice ao t.length cap) 0
  have hn : 0 ≤ 9223372036854775807 := by omega
  go_enter Try.func3, Try.ntmps3
  go_wp2_with fail
  refine wp_any_world (fun W => Kept w W ∧ rowAt W w.heap.size 0 34 = some (itemL ⟨key, ⟨0, who⟩, .slice ao t.length cap⟩) ∧ rowAt W (w.heap.size + 1) 0 17 = some (verL a) ∧ rowAt W (w.heap.size + 1 + 1) 0 17 = some (verL b)) ⟨ka (ka (ka (k0 w) _) _) _, (by simp [go_sem]), (by simp [go_sem]), (by simp [go_sem])⟩ ?_
  rintro W ⟨q, rx, ra, rb⟩
  have hs1 := elV_kept q hs
  clear hs hset hro
  refine wp_region_loose (formDs ⟨key, ⟨0, who⟩, .slice ao t.length cap⟩ a b (formB key 0 who t)) ?mk (by kernel_rfl) (by kernel_rfl) ?hmk ?hmono ?hstep ?hQ
  case hmk =>
    intro f
    simp only [mkOf, List.foldl, Act.put, List.setIfInBounds_toArray, List.set_cons_zero, List.set_cons_succ]
    rfl
  case hmono =>
    intro t x W1 W2 h hk
    unfold formDs at h ⊢
    split <;> simp only at h ⊢ <;> first | exact h | exact elV_kept hk h
  case hstep =>
    refine ⟨?s0, ?s1, ?s2, ?s3, ?s4, ?s5, ?s6, ?s7, ?s8, ?s9, ?s10, ?s11, ?s12, ?s13, ?s14, ?s15, ?s16, ?s17, ?s18, ?s19, ?s20, ?s21, ?s22, ?s23, ?s24, ?s25, ?s26, ?s27, ?s28, ?s29, ?s30, ?s31, ?s32, ?s33, ?s34, ?s35, ?s36, ?s37, ?s38, ?s39, ?s40, ?s41, ?s42, ?s43, ?s44, ?s45, trivial⟩
    case s0 =>
      intro f W2 hk hd
      rw [if_pos (by kernel_rfl)]
      intro K hK
      go_simp
      refine (fixed_any _).mono ?_
      rintro e w' ⟨rfl, hkk⟩
      exact hK _ _ ⟨.bool true, by simp [Act.put], hkk, fun t ht => by obtain rfl := Option.some.inj ht; exact rfl⟩
    case s1 =>
      intro f W2 hk hd
      have h13 : f 13 = .bool true := dep hd 13 (by kernel_rfl)
      rw [if_pos (by kernel_rfl)]
      intro K hK
      go_simp
      exact hK _ _ ⟨.bool true, by simp [Act.put, h13], k0 _, fun t ht => by obtain rfl := Option.some.inj ht; exact rfl⟩
    case s2 =>
      intro f W2 hk hd
      have h14 : f 14 = .bool true := dep hd 14 (by kernel_rfl)
      rw [if_pos (by simp [Region.wanted, yielded, h14])]
      intro K hK
      have r9 : rowAt W2 w.heap.size 0 34 = some (itemL ⟨key, ⟨0, who⟩, .slice ao t.length cap⟩) := rowAt_below hk rx
      go_simp
      exact hK _ _ ⟨.agg (itemL ⟨key, ⟨0, who⟩, .slice ao t.length cap⟩).toArray, by simp [Act.put, h14], k0 _, fun t ht => by obtain rfl := Option.some.inj ht; exact rfl⟩
    case s3 =>
      intro f W2 hk hd
      have h15 : f 15 = .agg (itemL ⟨key, ⟨0, who⟩, .slice ao t.length cap⟩).toArray := dep hd 15 (by kernel_rfl)
      have h14 : f 14 = .bool true := dep hd 14 (by kernel_rfl)
      rw [if_pos (by simp [Region.wanted, yielded, h14])]
      intro K hK
      go_simp
      refine (pform_any key 0 who _ t W2 (elV_kept hk hs1) hl hn).mono ?_
      rintro e w' ⟨v', rfl, hi, hkk⟩
      exact hK _ _ ⟨v', by simp [Act.put, h15, h14], hkk, fun t ht => by obtain rfl := Option.some.inj ht; exact owV_elV hi⟩
    case s4 =>
      intro f W2 hk hd
      have h14 : f 14 = .bool true := dep hd 14 (by kernel_rfl)
      rw [if_pos (by simp [Region.wanted, yielded, h14])]
      intro K hK
      have h16 : ElV W2 (f 16) (bL (formB key 0 who t)) := dep hd 16 (by kernel_rfl)
      have fs := run_strOf h16
      go_simp
      exact hK _ _ ⟨.string ⟨(formB key 0 who t).toArray⟩, by simp [Act.put, h14], k0 _, fun t ht => by obtain rfl := Option.some.inj ht; exact rfl⟩
    case s5 =>
      intro f W2 hk hd
      have h14 : f 14 = .bool true := dep hd 14 (by kernel_rfl)
      rw [if_pos (by simp [Region.wanted, yielded, h14])]
      intro K hK
      have r9 : rowAt W2 w.heap.size 0 34 = some (itemL ⟨key, ⟨0, who⟩, .slice ao t.length cap⟩) := rowAt_below hk rx
      go_simp
      exact hK _ _ ⟨.agg (itemL ⟨key, ⟨0, who⟩, .slice ao t.length cap⟩).toArray, by simp [Act.put, h14], k0 _, fun t ht => by obtain rfl := Option.some.inj ht; exact rfl⟩
    case s6 =>
      intro f W2 hk hd
      have h18 : f 18 = .agg (itemL ⟨key, ⟨0, who⟩, .slice ao t.length cap⟩).toArray := dep hd 18 (by kernel_rfl)
      have h14 : f 14 = .bool true := dep hd 14 (by kernel_rfl)
      rw [if_pos (by simp [Region.wanted, yielded, h14])]
      intro K hK
      go_simp
      refine (rform_any key 0 who _ t W2 (elV_kept hk hs1) hl hn).mono ?_
      rintro e w' ⟨v', rfl, hi, hkk⟩
      exact hK _ _ ⟨v', by simp [Act.put, h18, h14], hkk, fun t ht => by obtain rfl := Option.some.inj ht; exact owV_elV hi⟩
    case s7 =>
      intro f W2 hk hd
      have h14 : f 14 = .bool true := dep hd 14 (by kernel_rfl)
      rw [if_pos (by simp [Region.wanted, yielded, h14])]
      intro K hK
      have h19 : ElV W2 (f 19) (bL (formB key 0 who t)) := dep hd 19 (by kernel_rfl)
      have fs := run_strOf h19
      go_simp
      exact hK _ _ ⟨.string ⟨(formB key 0 who t).toArray⟩, by simp [Act.put, h14], k0 _, fun t ht => by obtain rfl := Option.some.inj ht; exact rfl⟩
    case s8 =>
      intro f W2 hk hd
      have h17 : f 17 = .string ⟨(formB key 0 who t).toArray⟩ := dep hd 17 (by kernel_rfl)
      have h20 : f 20 = .string ⟨(formB key 0 who t).toArray⟩ := dep hd 20 (by kernel_rfl)
      have h14 : f 14 = .bool true := dep hd 14 (by kernel_rfl)
      rw [if_pos (by simp [Region.wanted, yielded, h14])]
      intro K hK
      go_simp
      exact hK _ _ ⟨.bool true, by simp [Act.put, h17, h20, h14], k0 _, fun t ht => by obtain rfl := Option.some.inj ht; exact rfl⟩
    case s9 =>
      intro f W2 hk hd
      have h14 : f 14 = .bool true := dep hd 14 (by kernel_rfl)
      have h21 : f 21 = .bool true := dep hd 21 (by kernel_rfl)
      rw [if_pos (by kernel_rfl)]
      intro K hK
      go_simp
      exact hK _ _ ⟨.bool true, by simp [Act.put, h14, h21], k0 _, fun t ht => by obtain rfl := Option.some.inj ht; exact rfl⟩
    case s10 =>
      intro f W2 hk hd
      have h22 : f 22 = .bool true := dep hd 22 (by kernel_rfl)
      rw [if_pos (by kernel_rfl)]
      intro K hK
      go_simp
      exact hK _ _ ⟨.bool true, by simp [Act.put, h22], k0 _, fun t ht => by obtain rfl := Option.some.inj ht; exact rfl⟩
    case s11 =>
      intro f W2 hk hd
      have h23 : f 23 = .bool true := dep hd 23 (by kernel_rfl)
      rw [if_pos (by simp [Region.wanted, yielded, h23])]
      intro K hK
      have r9 : rowAt W2 (w.heap.size + 1) 0 17 = some (verL a) := rowAt_below hk ra
      go_simp
      exact hK _ _ ⟨.agg (verL a).toArray, by simp [Act.put, h23], k0 _, fun t ht => by obtain rfl := Option.some.inj ht; exact rfl⟩
    case s12 =>
      intro f W2 hk hd
      have h23 : f 23 = .bool true := dep hd 23 (by kernel_rfl)
      rw [if_pos (by simp [Region.wanted, yielded, h23])]
      intro K hK
      have r9 : rowAt W2 (w.heap.size + 1 + 1) 0 17 = some (verL b) := rowAt_below hk rb
      go_simp
      exact hK _ _ ⟨.agg (verL b).toArray, by simp [Act.put, h23], k0 _, fun t ht => by obtain rfl := Option.some.inj ht; exact rfl⟩
    case s13 =>
      intro f W2 hk hd
      have h24 : f 24 = .agg (verL a).toArray := dep hd 24 (by kernel_rfl)
      have h25 : f 25 = .agg (verL b).toArray := dep hd 25 (by kernel_rfl)
      have h23 : f 23 = .bool true := dep hd 23 (by kernel_rfl)
      rw [if_pos (by simp [Region.wanted, yielded, h23])]
      intro K hK
      go_simp
      refine (newer_any a b _).mono ?_
      rintro e w' ⟨rfl, hkk⟩
      exact hK _ _ ⟨.bool (newerB a b), by simp [Act.put, h24, h25, h23], hkk, fun t ht => by obtain rfl := Option.some.inj ht; exact rfl⟩
    case s14 =>
      intro f W2 hk hd
      have h23 : f 23 = .bool true := dep hd 23 (by kernel_rfl)
      rw [if_pos (by simp [Region.wanted, yielded, h23])]
      intro K hK
      have r9 : rowAt W2 (w.heap.size + 1) 0 17 = some (verL a) := rowAt_below hk ra
      go_simp
      exact hK _ _ ⟨.agg (verL a).toArray, by simp [Act.put, h23], k0 _, fun t ht => by obtain rfl := Option.some.inj ht; exact rfl⟩
    case s15 =>
      intro f W2 hk hd
      have h23 : f 23 = .bool true := dep hd 23 (by kernel_rfl)
      rw [if_pos (by simp [Region.wanted, yielded, h23])]
      intro K hK
      have r9 : rowAt W2 (w.heap.size + 1 + 1) 0 17 = some (verL b) := rowAt_below hk rb
      go_simp
      exact hK _ _ ⟨.agg (verL b).toArray, by simp [Act.put, h23], k0 _, fun t ht => by obtain rfl := Option.some.inj ht; exact rfl⟩
    case s16 =>
      intro f W2 hk hd
      have h27 : f 27 = .agg (verL a).toArray := dep hd 27 (by kernel_rfl)
      have h28 : f 28 = .agg (verL b).toArray := dep hd 28 (by kernel_rfl)
      have h23 : f 23 = .bool true := dep hd 23 (by kernel_rfl)
      rw [if_pos (by simp [Region.wanted, yielded, h23])]
      intro K hK
      go_simp
      refine (rnewer_any a b _).mono ?_
      rintro e w' ⟨rfl, hkk⟩
      exact hK _ _ ⟨.bool (newerB a b), by simp [Act.put, h27, h28, h23], hkk, fun t ht => by obtain rfl := Option.some.inj ht; exact rfl⟩
    case s17 =>
      intro f W2 hk hd
      have h26 : f 26 = .bool (newerB a b) := dep hd 26 (by kernel_rfl)
      have h29 : f 29 = .bool (newerB a b) := dep hd 29 (by kernel_rfl)
      have h23 : f 23 = .bool true := dep hd 23 (by kernel_rfl)
      rw [if_pos (by simp [Region.wanted, yielded, h23])]
      intro K hK
      go_simp
      exact hK _ _ ⟨.bool true, by simp [Act.put, h26, h29, h23], k0 _, fun t ht => by obtain rfl := Option.some.inj ht; exact rfl⟩
    case s18 =>
      intro f W2 hk hd
      have h23 : f 23 = .bool true := dep hd 23 (by kernel_rfl)
      have h30 : f 30 = .bool true := dep hd 30 (by kernel_rfl)
      rw [if_pos (by kernel_rfl)]
      intro K hK
      go_simp
      exact hK _ _ ⟨.bool true, by simp [Act.put, h23, h30], k0 _, fun t ht => by obtain rfl := Option.some.inj ht; exact rfl⟩
    case s19 =>
      intro f W2 hk hd
      have h31 : f 31 = .bool true := dep hd 31 (by kernel_rfl)
      rw [if_pos (by kernel_rfl)]
      intro K hK
      go_simp
      exact hK _ _ ⟨.bool true, by simp [Act.put, h31], k0 _, fun t ht => by obtain rfl := Option.some.inj ht; exact rfl⟩
    case s20 =>
      intro f W2 hk hd
      have h32 : f 32 = .bool true := dep hd 32 (by kernel_rfl)
      rw [if_pos (by simp [Region.wanted, yielded, h32])]
      intro K hK
      have r9 : rowAt W2 (w.heap.size + 1) 0 17 = some (verL a) := rowAt_below hk ra
      go_simp
      exact hK _ _ ⟨.agg (verL a).toArray, by simp [Act.put, h32], k0 _, fun t ht => by obtain rfl := Option.some.inj ht; exact rfl⟩
    case s21 =>
      intro f W2 hk hd
      have h32 : f 32 = .bool true := dep hd 32 (by kernel_rfl)
      rw [if_pos (by simp [Region.wanted, yielded, h32])]
      intro K hK
      have r9 : rowAt W2 (w.heap.size + 1 + 1) 0 17 = some (verL b) := rowAt_below hk rb
      go_simp
      exact hK _ _ ⟨.agg (verL b).toArray, by simp [Act.put, h32], k0 _, fun t ht => by obtain rfl := Option.some.inj ht; exact rfl⟩
    case s22 =>
      intro f W2 hk hd
      have h33 : f 33 = .agg (verL a).toArray := dep hd 33 (by kernel_rfl)
      have h34 : f 34 = .agg (verL b).toArray := dep hd 34 (by kernel_rfl)
      have h32 : f 32 = .bool true := dep hd 32 (by kernel_rfl)
      rw [if_pos (by simp [Region.wanted, yielded, h32])]
      intro K hK
      go_simp
      refine (newer_any a b _).mono ?_
      rintro e w' ⟨rfl, hkk⟩
      exact hK _ _ ⟨.bool (newerB a b), by simp [Act.put, h33, h34, h32], hkk, fun t ht => by obtain rfl := Option.some.inj ht; exact rfl⟩
    case s23 =>
      intro f W2 hk hd
      have h35 : f 35 = .bool (newerB a b) := dep hd 35 (by kernel_rfl)
      have h32 : f 32 = .bool true := dep hd 32 (by kernel_rfl)
      rw [if_pos (by simp [Region.wanted, yielded, h32])]
      intro K hK
      go_simp
      exact hK _ _ ⟨.bool (newerB a b), by simp [Act.put, h35, h32], k0 _, fun t ht => by obtain rfl := Option.some.inj ht; exact rfl⟩
    case s24 =>
      intro f W2 hk hd
      have h36 : f 36 = .bool (newerB a b) := dep hd 36 (by kernel_rfl)
      cases hn9 : newerB a b with
      | false =>
        rw [hn9] at h36
        rw [if_neg (by simp [Region.wanted, yielded, h36])]
        intro t ht
        obtain rfl := Option.some.inj ht
        exact fun h => absurd (hn9.symm.trans h) (by simp)
      | true =>
        rw [hn9] at h36
        rw [if_pos (by simp [Region.wanted, yielded, h36])]
        intro K hK
        have r9 : rowAt W2 (w.heap.size + 1 + 1) 0 17 = some (verL b) := rowAt_below hk rb
        go_simp
        exact hK _ _ ⟨.agg (verL b).toArray, by simp [Act.put, h36], k0 _, fun t ht => by obtain rfl := Option.some.inj ht; exact fun _ => rfl⟩
    case s25 =>
      intro f W2 hk hd
      have h36 : f 36 = .bool (newerB a b) := dep hd 36 (by kernel_rfl)
      cases hn9 : newerB a b with
      | false =>
        rw [hn9] at h36
        rw [if_neg (by simp [Region.wanted, yielded, h36])]
        intro t ht
        obtain rfl := Option.some.inj ht
        exact fun h => absurd (hn9.symm.trans h) (by simp)
      | true =>
        rw [hn9] at h36
        rw [if_pos (by simp [Region.wanted, yielded, h36])]
        intro K hK
        have r9 : rowAt W2 (w.heap.size + 1) 0 17 = some (verL a) := rowAt_below hk ra
        go_simp
        exact hK _ _ ⟨.agg (verL a).toArray, by simp [Act.put, h36], k0 _, fun t ht => by obtain rfl := Option.some.inj ht; exact fun _ => rfl⟩
    case s26 =>
      intro f W2 hk hd
      have h36 : f 36 = .bool (newerB a b) := dep hd 36 (by kernel_rfl)
      cases hn9 : newerB a b with
      | false =>
        rw [hn9] at h36
        rw [if_neg (by simp [Region.wanted, yielded, h36])]
        intro t ht
        obtain rfl := Option.some.inj ht
        exact fun h => absurd (hn9.symm.trans h) (by simp)
      | true =>
        rw [hn9] at h36
        have h37 : f 37 = .agg (verL b).toArray := dep hd 37 (by kernel_rfl) hn9
        have h38 : f 38 = .agg (verL a).toArray := dep hd 38 (by kernel_rfl) hn9
        rw [if_pos (by simp [Region.wanted, yielded, h36])]
        intro K hK
        go_simp
        refine (newer_any b a _).mono ?_
        rintro e w' ⟨rfl, hkk⟩
        exact hK _ _ ⟨.bool (newerB b a), by simp [Act.put, h37, h38, h36], hkk, fun t ht => by obtain rfl := Option.some.inj ht; exact fun _ => rfl⟩
    case s27 =>
      intro f W2 hk hd
      have h36 : f 36 = .bool (newerB a b) := dep hd 36 (by kernel_rfl)
      have h32 : f 32 = .bool true := dep hd 32 (by kernel_rfl)
      rw [if_pos (by simp [Region.wanted, yielded, h32])]
      intro K hK
      cases hn9 : newerB a b with
      | false =>
        rw [hn9] at h36
        go_simp
        exact hK _ _ ⟨.bool false, by simp [Act.put, h36, h32], k0 _, fun t ht => by obtain rfl := Option.some.inj ht; exact rfl⟩
      | true =>
        rw [hn9] at h36
        have h39 : f 39 = .bool (newerB b a) := dep hd 39 (by kernel_rfl) hn9
        have hx : newerB b a = false := by have := newer_not a b; rw [hn9] at this; simpa using this
        go_simp
        exact hK _ _ ⟨.bool false, by simp [Act.put, h36, h32, h39, hx], k0 _, fun t ht => by obtain rfl := Option.some.inj ht; exact rfl⟩
    case s28 =>
      intro f W2 hk hd
      have h40 : f 40 = .bool false := dep hd 40 (by kernel_rfl)
      have h32 : f 32 = .bool true := dep hd 32 (by kernel_rfl)
      rw [if_pos (by simp [Region.wanted, yielded, h32])]
      intro K hK
      go_simp
      exact hK _ _ ⟨.bool true, by simp [Act.put, h40, h32], k0 _, fun t ht => by obtain rfl := Option.some.inj ht; exact rfl⟩
    case s29 =>
      intro f W2 hk hd
      have h32 : f 32 = .bool true := dep hd 32 (by kernel_rfl)
      have h41 : f 41 = .bool true := dep hd 41 (by kernel_rfl)
      rw [if_pos (by kernel_rfl)]
      intro K hK
      go_simp
      exact hK _ _ ⟨.bool true, by simp [Act.put, h32, h41], k0 _, fun t ht => by obtain rfl := Option.some.inj ht; exact rfl⟩
    case s30 =>
      intro f W2 hk hd
      have h42 : f 42 = .bool true := dep hd 42 (by kernel_rfl)
      rw [if_pos (by kernel_rfl)]
      intro K hK
      go_simp
      exact hK _ _ ⟨.bool true, by simp [Act.put, h42], k0 _, fun t ht => by obtain rfl := Option.some.inj ht; exact rfl⟩
    case s31 =>
      intro f W2 hk hd
      have h43 : f 43 = .bool true := dep hd 43 (by kernel_rfl)
      rw [if_pos (by simp [Region.wanted, yielded, h43])]
      intro K hK
      have r9 : rowAt W2 (w.heap.size + 1) 0 17 = some (verL a) := rowAt_below hk ra
      go_simp
      exact hK _ _ ⟨.agg (verL a).toArray, by simp [Act.put, h43], k0 _, fun t ht => by obtain rfl := Option.some.inj ht; exact rfl⟩
    case s32 =>
      intro f W2 hk hd
      have h43 : f 43 = .bool true := dep hd 43 (by kernel_rfl)
      rw [if_pos (by simp [Region.wanted, yielded, h43])]
      intro K hK
      have r9 : rowAt W2 (w.heap.size + 1 + 1) 0 17 = some (verL b) := rowAt_below hk rb
      go_simp
      exact hK _ _ ⟨.agg (verL b).toArray, by simp [Act.put, h43], k0 _, fun t ht => by obtain rfl := Option.some.inj ht; exact rfl⟩
    case s33 =>
      intro f W2 hk hd
      have h44 : f 44 = .agg (verL a).toArray := dep hd 44 (by kernel_rfl)
      have h45 : f 45 = .agg (verL b).toArray := dep hd 45 (by kernel_rfl)
      have h43 : f 43 = .bool true := dep hd 43 (by kernel_rfl)
      rw [if_pos (by simp [Region.wanted, yielded, h43])]
      intro K hK
      go_simp
      exact hK _ _ ⟨.bool (evB a b), by simp [Act.put, h44, h45, h43, evB], k0 _, fun t ht => by obtain rfl := Option.some.inj ht; exact rfl⟩
    case s34 =>
      intro f W2 hk hd
      have h46 : f 46 = .bool (evB a b) := dep hd 46 (by kernel_rfl)
      have h43 : f 43 = .bool true := dep hd 43 (by kernel_rfl)
      rw [if_pos (by simp [Region.wanted, yielded, h43])]
      intro K hK
      go_simp
      exact hK _ _ ⟨.bool (evB a b), by simp [Act.put, h46, h43], k0 _, fun t ht => by obtain rfl := Option.some.inj ht; exact rfl⟩
    case s35 =>
      intro f W2 hk hd
      have h47 : f 47 = .bool (evB a b) := dep hd 47 (by kernel_rfl)
      cases hn9 : evB a b with
      | false =>
        rw [hn9] at h47
        rw [if_pos (by simp [Region.wanted, yielded, h47])]
        intro K hK
        have r9 : rowAt W2 (w.heap.size + 1) 0 17 = some (verL a) := rowAt_below hk ra
        go_simp
        exact hK _ _ ⟨.agg (verL a).toArray, by simp [Act.put, h47], k0 _, fun t ht => by obtain rfl := Option.some.inj ht; exact fun _ => rfl⟩
      | true =>
        rw [hn9] at h47
        rw [if_neg (by simp [Region.wanted, yielded, h47])]
        intro t ht
        obtain rfl := Option.some.inj ht
        exact fun h => absurd (hn9.symm.trans h) (by simp)
    case s36 =>
      intro f W2 hk hd
      have h47 : f 47 = .bool (evB a b) := dep hd 47 (by kernel_rfl)
      cases hn9 : evB a b with
      | false =>
        rw [hn9] at h47
        rw [if_pos (by simp [Region.wanted, yielded, h47])]
        intro K hK
        have r9 : rowAt W2 (w.heap.size + 1 + 1) 0 17 = some (verL b) := rowAt_below hk rb
        go_simp
        exact hK _ _ ⟨.agg (verL b).toArray, by simp [Act.put, h47], k0 _, fun t ht => by obtain rfl := Option.some.inj ht; exact fun _ => rfl⟩
      | true =>
        rw [hn9] at h47
        rw [if_neg (by simp [Region.wanted, yielded, h47])]
        intro t ht
        obtain rfl := Option.some.inj ht
        exact fun h => absurd (hn9.symm.trans h) (by simp)
    case s37 =>
      intro f W2 hk hd
      have h47 : f 47 = .bool (evB a b) := dep hd 47 (by kernel_rfl)
      cases hn9 : evB a b with
      | false =>
        rw [hn9] at h47
        have h48 : f 48 = .agg (verL a).toArray := dep hd 48 (by kernel_rfl) hn9
        have h49 : f 49 = .agg (verL b).toArray := dep hd 49 (by kernel_rfl) hn9
        rw [if_pos (by simp [Region.wanted, yielded, h47])]
        intro K hK
        go_simp
        refine (newer_any a b _).mono ?_
        rintro e w' ⟨rfl, hkk⟩
        exact hK _ _ ⟨.bool (newerB a b), by simp [Act.put, h48, h49, h47], hkk, fun t ht => by obtain rfl := Option.some.inj ht; exact fun _ => rfl⟩
      | true =>
        rw [hn9] at h47
        rw [if_neg (by simp [Region.wanted, yielded, h47])]
        intro t ht
        obtain rfl := Option.some.inj ht
        exact fun h => absurd (hn9.symm.trans h) (by simp)
    case s38 =>
      intro f W2 hk hd
      have h47 : f 47 = .bool (evB a b) := dep hd 47 (by kernel_rfl)
      have h43 : f 43 = .bool true := dep hd 43 (by kernel_rfl)
      rw [if_pos (by simp [Region.wanted, yielded, h43])]
      intro K hK
      cases hn9 : evB a b with
      | false =>
        rw [hn9] at h47
        have h50 : f 50 = .bool (newerB a b) := dep hd 50 (by kernel_rfl) hn9
        go_simp
        exact hK _ _ ⟨.bool (evB a b || newerB a b), by simp [Act.put, h47, h43, h50, hn9], k0 _, fun t ht => by obtain rfl := Option.some.inj ht; exact rfl⟩
      | true =>
        rw [hn9] at h47
        go_simp
        exact hK _ _ ⟨.bool (evB a b || newerB a b), by simp [Act.put, h47, h43, hn9], k0 _, fun t ht => by obtain rfl := Option.some.inj ht; exact rfl⟩
    case s39 =>
      intro f W2 hk hd
      have h51 : f 51 = .bool (evB a b || newerB a b) := dep hd 51 (by kernel_rfl)
      have h43 : f 43 = .bool true := dep hd 43 (by kernel_rfl)
      rw [if_pos (by simp [Region.wanted, yielded, h43])]
      intro K hK
      go_simp
      exact hK _ _ ⟨.bool (evB a b || newerB a b), by simp [Act.put, h51, h43], k0 _, fun t ht => by obtain rfl := Option.some.inj ht; exact rfl⟩
    case s40 =>
      intro f W2 hk hd
      have h52 : f 52 = .bool (evB a b || newerB a b) := dep hd 52 (by kernel_rfl)
      cases hn9 : (evB a b || newerB a b) with
      | false =>
        rw [hn9] at h52
        rw [if_pos (by simp [Region.wanted, yielded, h52])]
        intro K hK
        have r9 : rowAt W2 (w.heap.size + 1 + 1) 0 17 = some (verL b) := rowAt_below hk rb
        go_simp
        exact hK _ _ ⟨.agg (verL b).toArray, by simp [Act.put, h52], k0 _, fun t ht => by obtain rfl := Option.some.inj ht; exact fun _ => rfl⟩
      | true =>
        rw [hn9] at h52
        rw [if_neg (by simp [Region.wanted, yielded, h52])]
        intro t ht
        obtain rfl := Option.some.inj ht
        exact fun h => absurd (hn9.symm.trans h) (by simp)
    case s41 =>
      intro f W2 hk hd
      have h52 : f 52 = .bool (evB a b || newerB a b) := dep hd 52 (by kernel_rfl)
      cases hn9 : (evB a b || newerB a b) with
      | false =>
        rw [hn9] at h52
        rw [if_pos (by simp [Region.wanted, yielded, h52])]
        intro K hK
        have r9 : rowAt W2 (w.heap.size + 1) 0 17 = some (verL a) := rowAt_below hk ra
        go_simp
        exact hK _ _ ⟨.agg (verL a).toArray, by simp [Act.put, h52], k0 _, fun t ht => by obtain rfl := Option.some.inj ht; exact fun _ => rfl⟩
      | true =>
        rw [hn9] at h52
        rw [if_neg (by simp [Region.wanted, yielded, h52])]
        intro t ht
        obtain rfl := Option.some.inj ht
        exact fun h => absurd (hn9.symm.trans h) (by simp)
    case s42 =>
      intro f W2 hk hd
      have h52 : f 52 = .bool (evB a b || newerB a b) := dep hd 52 (by kernel_rfl)
      cases hn9 : (evB a b || newerB a b) with
      | false =>
        rw [hn9] at h52
        have h53 : f 53 = .agg (verL b).toArray := dep hd 53 (by kernel_rfl) hn9
        have h54 : f 54 = .agg (verL a).toArray := dep hd 54 (by kernel_rfl) hn9
        rw [if_pos (by simp [Region.wanted, yielded, h52])]
        intro K hK
        go_simp
        refine (newer_any b a _).mono ?_
        rintro e w' ⟨rfl, hkk⟩
        exact hK _ _ ⟨.bool (newerB b a), by simp [Act.put, h53, h54, h52], hkk, fun t ht => by obtain rfl := Option.some.inj ht; exact fun _ => rfl⟩
      | true =>
        rw [hn9] at h52
        rw [if_neg (by simp [Region.wanted, yielded, h52])]
        intro t ht
        obtain rfl := Option.some.inj ht
        exact fun h => absurd (hn9.symm.trans h) (by simp)
    case s43 =>
      intro f W2 hk hd
      have h52 : f 52 = .bool (evB a b || newerB a b) := dep hd 52 (by kernel_rfl)
      have h43 : f 43 = .bool true := dep hd 43 (by kernel_rfl)
      rw [if_pos (by simp [Region.wanted, yielded, h43])]
      intro K hK
      cases hn9 : (evB a b || newerB a b) with
      | false =>
        rw [hn9] at h52
        have h55 : f 55 = .bool (newerB b a) := dep hd 55 (by kernel_rfl) hn9
        have hx : newerB b a = true := by have := newer_one' a b; rw [hn9] at this; simpa using this
        go_simp
        exact hK _ _ ⟨.bool true, by simp [Act.put, h52, h43, h55, hx], k0 _, fun t ht => by obtain rfl := Option.some.inj ht; exact rfl⟩
      | true =>
        rw [hn9] at h52
        go_simp
        exact hK _ _ ⟨.bool true, by simp [Act.put, h52, h43], k0 _, fun t ht => by obtain rfl := Option.some.inj ht; exact rfl⟩
    case s44 =>
      intro f W2 hk hd
      have h43 : f 43 = .bool true := dep hd 43 (by kernel_rfl)
      have h56 : f 56 = .bool true := dep hd 56 (by kernel_rfl)
      rw [if_pos (by kernel_rfl)]
      intro K hK
      go_simp
      exact hK _ _ ⟨.bool true, by simp [Act.put, h43, h56], k0 _, fun t ht => by obtain rfl := Option.some.inj ht; exact rfl⟩
    case s45 =>
      intro f W2 hk hd
      have h57 : f 57 = .bool true := dep hd 57 (by kernel_rfl)
      rw [if_pos (by kernel_rfl)]
      intro K hK
      go_simp
      exact hK _ _ ⟨.bool true, by simp [Act.put, h57], k0 _, fun t ht => by obtain rfl := Option.some.inj ht; exact rfl⟩
  case hQ =>
    intro f W2 hk hd
    have h6 : f 6 = .bool true := hd 6 (dst_of (by kernel_rfl))
    have k2 := kt q hk
    go_wp2_with fail
    rw [h6]
    go_ret
    exact ⟨rfl, k2⟩
-- NEG ends
-- POS begins
set_option maxRecDepth 100000 in
set_option maxHeartbeats 3200000 in
theorem forms_pos (key who : Id) (n : Nat) (s : Value) (t : List UInt8) (a b : Vr) (w : World) (hs : ElV w s (bL t)) (hl : t.length ≤ 140737488351232) (hN : n ≤ 9223372036854775807) :
    Calls Try.prog 3 #[.agg (itemL ⟨key, ⟨(n : Int), who⟩, s⟩).toArray, .agg (verL a).toArray, .agg (verL b).toArray] w fun e w' => e = .returned (.bool true) ∧ Kept w w' := by
  obtain ⟨ao, cap, rfl, -, -⟩ := elV_form hs
  simp only [bL_length] at hs ⊢
  have hro := rowOk_item ⟨key, ⟨(n : Int), who⟩, .slice ao t.length cap⟩ rfl
  have hro1 := rowOk_item ⟨key, ⟨n, who⟩, .slice ao t.length cap⟩ rfl
  have hset := itemL_set16 key who (n : Int) (.slice ao t.length cap) 0
  have hn : n ≤ 9223372036854775807 := by omega
  go_enter Try.func3, Try.ntmps3
  go_wp2_with fail
  refine wp_any_world (fun W => Kept w W ∧ rowAt W w.heap.size 0 34 = some (itemL ⟨key, ⟨n, who⟩, .slice ao t.length cap⟩) ∧ rowAt W (w.heap.size + 1) 0 17 = some (verL a) ∧ rowAt W (w.heap.size + 1 + 1) 0 17 = some (verL b)) ⟨ka (ka (ka (k0 w) _) _) _, (by simp [go_sem]), (by simp [go_sem]), (by simp [go_sem])⟩ ?_
  rintro W ⟨q, rx, ra, rb⟩
  have hs1 := elV_kept q hs
  clear hs hset hro
  refine wp_region_loose (formDs ⟨key, ⟨n, who⟩, .slice ao t.length cap⟩ a b (formB key n who t)) ?mk (by kernel_rfl) (by kernel_rfl) ?hmk ?hmono ?hstep ?hQ
  case hmk =>
    intro f
    simp only [mkOf, List.foldl, Act.put, List.setIfInBounds_toArray, List.set_cons_zero, List.set_cons_succ]
    rfl
  case hmono =>
    intro t x W1 W2 h hk
    unfold formDs at h ⊢
    split <;> simp only at h ⊢ <;> first | exact h | exact elV_kept hk h
  case hstep =>
    refine ⟨?s0, ?s1, ?s2, ?s3, ?s4, ?s5, ?s6, ?s7, ?s8, ?s9, ?s10, ?s11, ?s12, ?s13, ?s14, ?s15, ?s16, ?s17, ?s18, ?s19, ?s20, ?s21, ?s22, ?s23, ?s24, ?s25, ?s26, ?s27, ?s28, ?s29, ?s30, ?s31, ?s32, ?s33, ?s34, ?s35, ?s36, ?s37, ?s38, ?s39, ?s40, ?s41, ?s42, ?s43, ?s44, ?s45, trivial⟩
    case s0 =>
      intro f W2 hk hd
      rw [if_pos (by kernel_rfl)]
      intro K hK
      go_simp
      refine (fixed_any _).mono ?_
      rintro e w' ⟨rfl, hkk⟩
      exact hK _ _ ⟨.bool true, by simp [Act.put], hkk, fun t ht => by obtain rfl := Option.some.inj ht; exact rfl⟩
    case s1 =>
      intro f W2 hk hd
      have h13 : f 13 = .bool true := dep hd 13 (by kernel_rfl)
      rw [if_pos (by kernel_rfl)]
      intro K hK
      go_simp
      exact hK _ _ ⟨.bool true, by simp [Act.put, h13], k0 _, fun t ht => by obtain rfl := Option.some.inj ht; exact rfl⟩
    case s2 =>
      intro f W2 hk hd
      have h14 : f 14 = .bool true := dep hd 14 (by kernel_rfl)
      rw [if_pos (by simp [Region.wanted, yielded, h14])]
      intro K hK
      have r9 : rowAt W2 w.heap.size 0 34 = some (itemL ⟨key, ⟨n, who⟩, .slice ao t.length cap⟩) := rowAt_below hk rx
      go_simp
      exact hK _ _ ⟨.agg (itemL ⟨key, ⟨n, who⟩, .slice ao t.length cap⟩).toArray, by simp [Act.put, h14], k0 _, fun t ht => by obtain rfl := Option.some.inj ht; exact rfl⟩
    case s3 =>
      intro f W2 hk hd
      have h15 : f 15 = .agg (itemL ⟨key, ⟨n, who⟩, .slice ao t.length cap⟩).toArray := dep hd 15 (by kernel_rfl)
      have h14 : f 14 = .bool true := dep hd 14 (by kernel_rfl)
      rw [if_pos (by simp [Region.wanted, yielded, h14])]
      intro K hK
      go_simp
      refine (pform_any key n who _ t W2 (elV_kept hk hs1) hl hn).mono ?_
      rintro e w' ⟨v', rfl, hi, hkk⟩
      exact hK _ _ ⟨v', by simp [Act.put, h15, h14], hkk, fun t ht => by obtain rfl := Option.some.inj ht; exact owV_elV hi⟩
    case s4 =>
      intro f W2 hk hd
      have h14 : f 14 = .bool true := dep hd 14 (by kernel_rfl)
      rw [if_pos (by simp [Region.wanted, yielded, h14])]
      intro K hK
      have h16 : ElV W2 (f 16) (bL (formB key n who t)) := dep hd 16 (by kernel_rfl)
      have fs := run_strOf h16
      go_simp
      exact hK _ _ ⟨.string ⟨(formB key n who t).toArray⟩, by simp [Act.put, h14], k0 _, fun t ht => by obtain rfl := Option.some.inj ht; exact rfl⟩
    case s5 =>
      intro f W2 hk hd
      have h14 : f 14 = .bool true := dep hd 14 (by kernel_rfl)
      rw [if_pos (by simp [Region.wanted, yielded, h14])]
      intro K hK
      have r9 : rowAt W2 w.heap.size 0 34 = some (itemL ⟨key, ⟨n, who⟩, .slice ao t.length cap⟩) := rowAt_below hk rx
      go_simp
      exact hK _ _ ⟨.agg (itemL ⟨key, ⟨n, who⟩, .slice ao t.length cap⟩).toArray, by simp [Act.put, h14], k0 _, fun t ht => by obtain rfl := Option.some.inj ht; exact rfl⟩
    case s6 =>
      intro f W2 hk hd
      have h18 : f 18 = .agg (itemL ⟨key, ⟨n, who⟩, .slice ao t.length cap⟩).toArray := dep hd 18 (by kernel_rfl)
      have h14 : f 14 = .bool true := dep hd 14 (by kernel_rfl)
      rw [if_pos (by simp [Region.wanted, yielded, h14])]
      intro K hK
      go_simp
      refine (rform_any key n who _ t W2 (elV_kept hk hs1) hl hn).mono ?_
      rintro e w' ⟨v', rfl, hi, hkk⟩
      exact hK _ _ ⟨v', by simp [Act.put, h18, h14], hkk, fun t ht => by obtain rfl := Option.some.inj ht; exact owV_elV hi⟩
    case s7 =>
      intro f W2 hk hd
      have h14 : f 14 = .bool true := dep hd 14 (by kernel_rfl)
      rw [if_pos (by simp [Region.wanted, yielded, h14])]
      intro K hK
      have h19 : ElV W2 (f 19) (bL (formB key n who t)) := dep hd 19 (by kernel_rfl)
      have fs := run_strOf h19
      go_simp
      exact hK _ _ ⟨.string ⟨(formB key n who t).toArray⟩, by simp [Act.put, h14], k0 _, fun t ht => by obtain rfl := Option.some.inj ht; exact rfl⟩
    case s8 =>
      intro f W2 hk hd
      have h17 : f 17 = .string ⟨(formB key n who t).toArray⟩ := dep hd 17 (by kernel_rfl)
      have h20 : f 20 = .string ⟨(formB key n who t).toArray⟩ := dep hd 20 (by kernel_rfl)
      have h14 : f 14 = .bool true := dep hd 14 (by kernel_rfl)
      rw [if_pos (by simp [Region.wanted, yielded, h14])]
      intro K hK
      go_simp
      exact hK _ _ ⟨.bool true, by simp [Act.put, h17, h20, h14], k0 _, fun t ht => by obtain rfl := Option.some.inj ht; exact rfl⟩
    case s9 =>
      intro f W2 hk hd
      have h14 : f 14 = .bool true := dep hd 14 (by kernel_rfl)
      have h21 : f 21 = .bool true := dep hd 21 (by kernel_rfl)
      rw [if_pos (by kernel_rfl)]
      intro K hK
      go_simp
      exact hK _ _ ⟨.bool true, by simp [Act.put, h14, h21], k0 _, fun t ht => by obtain rfl := Option.some.inj ht; exact rfl⟩
    case s10 =>
      intro f W2 hk hd
      have h22 : f 22 = .bool true := dep hd 22 (by kernel_rfl)
      rw [if_pos (by kernel_rfl)]
      intro K hK
      go_simp
      exact hK _ _ ⟨.bool true, by simp [Act.put, h22], k0 _, fun t ht => by obtain rfl := Option.some.inj ht; exact rfl⟩
    case s11 =>
      intro f W2 hk hd
      have h23 : f 23 = .bool true := dep hd 23 (by kernel_rfl)
      rw [if_pos (by simp [Region.wanted, yielded, h23])]
      intro K hK
      have r9 : rowAt W2 (w.heap.size + 1) 0 17 = some (verL a) := rowAt_below hk ra
      go_simp
      exact hK _ _ ⟨.agg (verL a).toArray, by simp [Act.put, h23], k0 _, fun t ht => by obtain rfl := Option.some.inj ht; exact rfl⟩
    case s12 =>
      intro f W2 hk hd
      have h23 : f 23 = .bool true := dep hd 23 (by kernel_rfl)
      rw [if_pos (by simp [Region.wanted, yielded, h23])]
      intro K hK
      have r9 : rowAt W2 (w.heap.size + 1 + 1) 0 17 = some (verL b) := rowAt_below hk rb
      go_simp
      exact hK _ _ ⟨.agg (verL b).toArray, by simp [Act.put, h23], k0 _, fun t ht => by obtain rfl := Option.some.inj ht; exact rfl⟩
    case s13 =>
      intro f W2 hk hd
      have h24 : f 24 = .agg (verL a).toArray := dep hd 24 (by kernel_rfl)
      have h25 : f 25 = .agg (verL b).toArray := dep hd 25 (by kernel_rfl)
      have h23 : f 23 = .bool true := dep hd 23 (by kernel_rfl)
      rw [if_pos (by simp [Region.wanted, yielded, h23])]
      intro K hK
      go_simp
      refine (newer_any a b _).mono ?_
      rintro e w' ⟨rfl, hkk⟩
      exact hK _ _ ⟨.bool (newerB a b), by simp [Act.put, h24, h25, h23], hkk, fun t ht => by obtain rfl := Option.some.inj ht; exact rfl⟩
    case s14 =>
      intro f W2 hk hd
      have h23 : f 23 = .bool true := dep hd 23 (by kernel_rfl)
      rw [if_pos (by simp [Region.wanted, yielded, h23])]
      intro K hK
      have r9 : rowAt W2 (w.heap.size + 1) 0 17 = some (verL a) := rowAt_below hk ra
      go_simp
      exact hK _ _ ⟨.agg (verL a).toArray, by simp [Act.put, h23], k0 _, fun t ht => by obtain rfl := Option.some.inj ht; exact rfl⟩
    case s15 =>
      intro f W2 hk hd
      have h23 : f 23 = .bool true := dep hd 23 (by kernel_rfl)
      rw [if_pos (by simp [Region.wanted, yielded, h23])]
      intro K hK
      have r9 : rowAt W2 (w.heap.size + 1 + 1) 0 17 = some (verL b) := rowAt_below hk rb
      go_simp
      exact hK _ _ ⟨.agg (verL b).toArray, by simp [Act.put, h23], k0 _, fun t ht => by obtain rfl := Option.some.inj ht; exact rfl⟩
    case s16 =>
      intro f W2 hk hd
      have h27 : f 27 = .agg (verL a).toArray := dep hd 27 (by kernel_rfl)
      have h28 : f 28 = .agg (verL b).toArray := dep hd 28 (by kernel_rfl)
      have h23 : f 23 = .bool true := dep hd 23 (by kernel_rfl)
      rw [if_pos (by simp [Region.wanted, yielded, h23])]
      intro K hK
      go_simp
      refine (rnewer_any a b _).mono ?_
      rintro e w' ⟨rfl, hkk⟩
      exact hK _ _ ⟨.bool (newerB a b), by simp [Act.put, h27, h28, h23], hkk, fun t ht => by obtain rfl := Option.some.inj ht; exact rfl⟩
    case s17 =>
      intro f W2 hk hd
      have h26 : f 26 = .bool (newerB a b) := dep hd 26 (by kernel_rfl)
      have h29 : f 29 = .bool (newerB a b) := dep hd 29 (by kernel_rfl)
      have h23 : f 23 = .bool true := dep hd 23 (by kernel_rfl)
      rw [if_pos (by simp [Region.wanted, yielded, h23])]
      intro K hK
      go_simp
      exact hK _ _ ⟨.bool true, by simp [Act.put, h26, h29, h23], k0 _, fun t ht => by obtain rfl := Option.some.inj ht; exact rfl⟩
    case s18 =>
      intro f W2 hk hd
      have h23 : f 23 = .bool true := dep hd 23 (by kernel_rfl)
      have h30 : f 30 = .bool true := dep hd 30 (by kernel_rfl)
      rw [if_pos (by kernel_rfl)]
      intro K hK
      go_simp
      exact hK _ _ ⟨.bool true, by simp [Act.put, h23, h30], k0 _, fun t ht => by obtain rfl := Option.some.inj ht; exact rfl⟩
    case s19 =>
      intro f W2 hk hd
      have h31 : f 31 = .bool true := dep hd 31 (by kernel_rfl)
      rw [if_pos (by kernel_rfl)]
      intro K hK
      go_simp
      exact hK _ _ ⟨.bool true, by simp [Act.put, h31], k0 _, fun t ht => by obtain rfl := Option.some.inj ht; exact rfl⟩
    case s20 =>
      intro f W2 hk hd
      have h32 : f 32 = .bool true := dep hd 32 (by kernel_rfl)
      rw [if_pos (by simp [Region.wanted, yielded, h32])]
      intro K hK
      have r9 : rowAt W2 (w.heap.size + 1) 0 17 = some (verL a) := rowAt_below hk ra
      go_simp
      exact hK _ _ ⟨.agg (verL a).toArray, by simp [Act.put, h32], k0 _, fun t ht => by obtain rfl := Option.some.inj ht; exact rfl⟩
    case s21 =>
      intro f W2 hk hd
      have h32 : f 32 = .bool true := dep hd 32 (by kernel_rfl)
      rw [if_pos (by simp [Region.wanted, yielded, h32])]
      intro K hK
      have r9 : rowAt W2 (w.heap.size + 1 + 1) 0 17 = some (verL b) := rowAt_below hk rb
      go_simp
      exact hK _ _ ⟨.agg (verL b).toArray, by simp [Act.put, h32], k0 _, fun t ht => by obtain rfl := Option.some.inj ht; exact rfl⟩
    case s22 =>
      intro f W2 hk hd
      have h33 : f 33 = .agg (verL a).toArray := dep hd 33 (by kernel_rfl)
      have h34 : f 34 = .agg (verL b).toArray := dep hd 34 (by kernel_rfl)
      have h32 : f 32 = .bool true := dep hd 32 (by kernel_rfl)
      rw [if_pos (by simp [Region.wanted, yielded, h32])]
      intro K hK
      go_simp
      refine (newer_any a b _).mono ?_
      rintro e w' ⟨rfl, hkk⟩
      exact hK _ _ ⟨.bool (newerB a b), by simp [Act.put, h33, h34, h32], hkk, fun t ht => by obtain rfl := Option.some.inj ht; exact rfl⟩
    case s23 =>
      intro f W2 hk hd
      have h35 : f 35 = .bool (newerB a b) := dep hd 35 (by kernel_rfl)
      have h32 : f 32 = .bool true := dep hd 32 (by kernel_rfl)
      rw [if_pos (by simp [Region.wanted, yielded, h32])]
      intro K hK
      go_simp
      exact hK _ _ ⟨.bool (newerB a b), by simp [Act.put, h35, h32], k0 _, fun t ht => by obtain rfl := Option.some.inj ht; exact rfl⟩
    case s24 =>
      intro f W2 hk hd
      have h36 : f 36 = .bool (newerB a b) := dep hd 36 (by kernel_rfl)
      cases hn9 : newerB a b with
      | false =>
        rw [hn9] at h36
        rw [if_neg (by simp [Region.wanted, yielded, h36])]
        intro t ht
        obtain rfl := Option.some.inj ht
        exact fun h => absurd (hn9.symm.trans h) (by simp)
      | true =>
        rw [hn9] at h36
        rw [if_pos (by simp [Region.wanted, yielded, h36])]
        intro K hK
        have r9 : rowAt W2 (w.heap.size + 1 + 1) 0 17 = some (verL b) := rowAt_below hk rb
        go_simp
        exact hK _ _ ⟨.agg (verL b).toArray, by simp [Act.put, h36], k0 _, fun t ht => by obtain rfl := Option.some.inj ht; exact fun _ => rfl⟩
    case s25 =>
      intro f W2 hk hd
      have h36 : f 36 = .bool (newerB a b) := dep hd 36 (by kernel_rfl)
      cases hn9 : newerB a b with
      | false =>
        rw [hn9] at h36
        rw [if_neg (by simp [Region.wanted, yielded, h36])]
        intro t ht
        obtain rfl := Option.some.inj ht
        exact fun h => absurd (hn9.symm.trans h) (by simp)
      | true =>
        rw [hn9] at h36
        rw [if_pos (by simp [Region.wanted, yielded, h36])]
        intro K hK
        have r9 : rowAt W2 (w.heap.size + 1) 0 17 = some (verL a) := rowAt_below hk ra
        go_simp
        exact hK _ _ ⟨.agg (verL a).toArray, by simp [Act.put, h36], k0 _, fun t ht => by obtain rfl := Option.some.inj ht; exact fun _ => rfl⟩
    case s26 =>
      intro f W2 hk hd
      have h36 : f 36 = .bool (newerB a b) := dep hd 36 (by kernel_rfl)
      cases hn9 : newerB a b with
      | false =>
        rw [hn9] at h36
        rw [if_neg (by simp [Region.wanted, yielded, h36])]
        intro t ht
        obtain rfl := Option.some.inj ht
        exact fun h => absurd (hn9.symm.trans h) (by simp)
      | true =>
        rw [hn9] at h36
        have h37 : f 37 = .agg (verL b).toArray := dep hd 37 (by kernel_rfl) hn9
        have h38 : f 38 = .agg (verL a).toArray := dep hd 38 (by kernel_rfl) hn9
        rw [if_pos (by simp [Region.wanted, yielded, h36])]
        intro K hK
        go_simp
        refine (newer_any b a _).mono ?_
        rintro e w' ⟨rfl, hkk⟩
        exact hK _ _ ⟨.bool (newerB b a), by simp [Act.put, h37, h38, h36], hkk, fun t ht => by obtain rfl := Option.some.inj ht; exact fun _ => rfl⟩
    case s27 =>
      intro f W2 hk hd
      have h36 : f 36 = .bool (newerB a b) := dep hd 36 (by kernel_rfl)
      have h32 : f 32 = .bool true := dep hd 32 (by kernel_rfl)
      rw [if_pos (by simp [Region.wanted, yielded, h32])]
      intro K hK
      cases hn9 : newerB a b with
      | false =>
        rw [hn9] at h36
        go_simp
        exact hK _ _ ⟨.bool false, by simp [Act.put, h36, h32], k0 _, fun t ht => by obtain rfl := Option.some.inj ht; exact rfl⟩
      | true =>
        rw [hn9] at h36
        have h39 : f 39 = .bool (newerB b a) := dep hd 39 (by kernel_rfl) hn9
        have hx : newerB b a = false := by have := newer_not a b; rw [hn9] at this; simpa using this
        go_simp
        exact hK _ _ ⟨.bool false, by simp [Act.put, h36, h32, h39, hx], k0 _, fun t ht => by obtain rfl := Option.some.inj ht; exact rfl⟩
    case s28 =>
      intro f W2 hk hd
      have h40 : f 40 = .bool false := dep hd 40 (by kernel_rfl)
      have h32 : f 32 = .bool true := dep hd 32 (by kernel_rfl)
      rw [if_pos (by simp [Region.wanted, yielded, h32])]
      intro K hK
      go_simp
      exact hK _ _ ⟨.bool true, by simp [Act.put, h40, h32], k0 _, fun t ht => by obtain rfl := Option.some.inj ht; exact rfl⟩
    case s29 =>
      intro f W2 hk hd
      have h32 : f 32 = .bool true := dep hd 32 (by kernel_rfl)
      have h41 : f 41 = .bool true := dep hd 41 (by kernel_rfl)
      rw [if_pos (by kernel_rfl)]
      intro K hK
      go_simp
      exact hK _ _ ⟨.bool true, by simp [Act.put, h32, h41], k0 _, fun t ht => by obtain rfl := Option.some.inj ht; exact rfl⟩
    case s30 =>
      intro f W2 hk hd
      have h42 : f 42 = .bool true := dep hd 42 (by kernel_rfl)
      rw [if_pos (by kernel_rfl)]
      intro K hK
      go_simp
      exact hK _ _ ⟨.bool true, by simp [Act.put, h42], k0 _, fun t ht => by obtain rfl := Option.some.inj ht; exact rfl⟩
    case s31 =>
      intro f W2 hk hd
      have h43 : f 43 = .bool true := dep hd 43 (by kernel_rfl)
      rw [if_pos (by simp [Region.wanted, yielded, h43])]
      intro K hK
      have r9 : rowAt W2 (w.heap.size + 1) 0 17 = some (verL a) := rowAt_below hk ra
      go_simp
      exact hK _ _ ⟨.agg (verL a).toArray, by simp [Act.put, h43], k0 _, fun t ht => by obtain rfl := Option.some.inj ht; exact rfl⟩
    case s32 =>
      intro f W2 hk hd
      have h43 : f 43 = .bool true := dep hd 43 (by kernel_rfl)
      rw [if_pos (by simp [Region.wanted, yielded, h43])]
      intro K hK
      have r9 : rowAt W2 (w.heap.size + 1 + 1) 0 17 = some (verL b) := rowAt_below hk rb
      go_simp
      exact hK _ _ ⟨.agg (verL b).toArray, by simp [Act.put, h43], k0 _, fun t ht => by obtain rfl := Option.some.inj ht; exact rfl⟩
    case s33 =>
      intro f W2 hk hd
      have h44 : f 44 = .agg (verL a).toArray := dep hd 44 (by kernel_rfl)
      have h45 : f 45 = .agg (verL b).toArray := dep hd 45 (by kernel_rfl)
      have h43 : f 43 = .bool true := dep hd 43 (by kernel_rfl)
      rw [if_pos (by simp [Region.wanted, yielded, h43])]
      intro K hK
      go_simp
      exact hK _ _ ⟨.bool (evB a b), by simp [Act.put, h44, h45, h43, evB], k0 _, fun t ht => by obtain rfl := Option.some.inj ht; exact rfl⟩
    case s34 =>
      intro f W2 hk hd
      have h46 : f 46 = .bool (evB a b) := dep hd 46 (by kernel_rfl)
      have h43 : f 43 = .bool true := dep hd 43 (by kernel_rfl)
      rw [if_pos (by simp [Region.wanted, yielded, h43])]
      intro K hK
      go_simp
      exact hK _ _ ⟨.bool (evB a b), by simp [Act.put, h46, h43], k0 _, fun t ht => by obtain rfl := Option.some.inj ht; exact rfl⟩
    case s35 =>
      intro f W2 hk hd
      have h47 : f 47 = .bool (evB a b) := dep hd 47 (by kernel_rfl)
      cases hn9 : evB a b with
      | false =>
        rw [hn9] at h47
        rw [if_pos (by simp [Region.wanted, yielded, h47])]
        intro K hK
        have r9 : rowAt W2 (w.heap.size + 1) 0 17 = some (verL a) := rowAt_below hk ra
        go_simp
        exact hK _ _ ⟨.agg (verL a).toArray, by simp [Act.put, h47], k0 _, fun t ht => by obtain rfl := Option.some.inj ht; exact fun _ => rfl⟩
      | true =>
        rw [hn9] at h47
        rw [if_neg (by simp [Region.wanted, yielded, h47])]
        intro t ht
        obtain rfl := Option.some.inj ht
        exact fun h => absurd (hn9.symm.trans h) (by simp)
    case s36 =>
      intro f W2 hk hd
      have h47 : f 47 = .bool (evB a b) := dep hd 47 (by kernel_rfl)
      cases hn9 : evB a b with
      | false =>
        rw [hn9] at h47
        rw [if_pos (by simp [Region.wanted, yielded, h47])]
        intro K hK
        have r9 : rowAt W2 (w.heap.size + 1 + 1) 0 17 = some (verL b) := rowAt_below hk rb
        go_simp
        exact hK _ _ ⟨.agg (verL b).toArray, by simp [Act.put, h47], k0 _, fun t ht => by obtain rfl := Option.some.inj ht; exact fun _ => rfl⟩
      | true =>
        rw [hn9] at h47
        rw [if_neg (by simp [Region.wanted, yielded, h47])]
        intro t ht
        obtain rfl := Option.some.inj ht
        exact fun h => absurd (hn9.symm.trans h) (by simp)
    case s37 =>
      intro f W2 hk hd
      have h47 : f 47 = .bool (evB a b) := dep hd 47 (by kernel_rfl)
      cases hn9 : evB a b with
      | false =>
        rw [hn9] at h47
        have h48 : f 48 = .agg (verL a).toArray := dep hd 48 (by kernel_rfl) hn9
        have h49 : f 49 = .agg (verL b).toArray := dep hd 49 (by kernel_rfl) hn9
        rw [if_pos (by simp [Region.wanted, yielded, h47])]
        intro K hK
        go_simp
        refine (newer_any a b _).mono ?_
        rintro e w' ⟨rfl, hkk⟩
        exact hK _ _ ⟨.bool (newerB a b), by simp [Act.put, h48, h49, h47], hkk, fun t ht => by obtain rfl := Option.some.inj ht; exact fun _ => rfl⟩
      | true =>
        rw [hn9] at h47
        rw [if_neg (by simp [Region.wanted, yielded, h47])]
        intro t ht
        obtain rfl := Option.some.inj ht
        exact fun h => absurd (hn9.symm.trans h) (by simp)
    case s38 =>
      intro f W2 hk hd
      have h47 : f 47 = .bool (evB a b) := dep hd 47 (by kernel_rfl)
      have h43 : f 43 = .bool true := dep hd 43 (by kernel_rfl)
      rw [if_pos (by simp [Region.wanted, yielded, h43])]
      intro K hK
      cases hn9 : evB a b with
      | false =>
        rw [hn9] at h47
        have h50 : f 50 = .bool (newerB a b) := dep hd 50 (by kernel_rfl) hn9
        go_simp
        exact hK _ _ ⟨.bool (evB a b || newerB a b), by simp [Act.put, h47, h43, h50, hn9], k0 _, fun t ht => by obtain rfl := Option.some.inj ht; exact rfl⟩
      | true =>
        rw [hn9] at h47
        go_simp
        exact hK _ _ ⟨.bool (evB a b || newerB a b), by simp [Act.put, h47, h43, hn9], k0 _, fun t ht => by obtain rfl := Option.some.inj ht; exact rfl⟩
    case s39 =>
      intro f W2 hk hd
      have h51 : f 51 = .bool (evB a b || newerB a b) := dep hd 51 (by kernel_rfl)
      have h43 : f 43 = .bool true := dep hd 43 (by kernel_rfl)
      rw [if_pos (by simp [Region.wanted, yielded, h43])]
      intro K hK
      go_simp
      exact hK _ _ ⟨.bool (evB a b || newerB a b), by simp [Act.put, h51, h43], k0 _, fun t ht => by obtain rfl := Option.some.inj ht; exact rfl⟩
    case s40 =>
      intro f W2 hk hd
      have h52 : f 52 = .bool (evB a b || newerB a b) := dep hd 52 (by kernel_rfl)
      cases hn9 : (evB a b || newerB a b) with
      | false =>
        rw [hn9] at h52
        rw [if_pos (by simp [Region.wanted, yielded, h52])]
        intro K hK
        have r9 : rowAt W2 (w.heap.size + 1 + 1) 0 17 = some (verL b) := rowAt_below hk rb
        go_simp
        exact hK _ _ ⟨.agg (verL b).toArray, by simp [Act.put, h52], k0 _, fun t ht => by obtain rfl := Option.some.inj ht; exact fun _ => rfl⟩
      | true =>
        rw [hn9] at h52
        rw [if_neg (by simp [Region.wanted, yielded, h52])]
        intro t ht
        obtain rfl := Option.some.inj ht
        exact fun h => absurd (hn9.symm.trans h) (by simp)
    case s41 =>
      intro f W2 hk hd
      have h52 : f 52 = .bool (evB a b || newerB a b) := dep hd 52 (by kernel_rfl)
      cases hn9 : (evB a b || newerB a b) with
      | false =>
        rw [hn9] at h52
        rw [if_pos (by simp [Region.wanted, yielded, h52])]
        intro K hK
        have r9 : rowAt W2 (w.heap.size + 1) 0 17 = some (verL a) := rowAt_below hk ra
        go_simp
        exact hK _ _ ⟨.agg (verL a).toArray, by simp [Act.put, h52], k0 _, fun t ht => by obtain rfl := Option.some.inj ht; exact fun _ => rfl⟩
      | true =>
        rw [hn9] at h52
        rw [if_neg (by simp [Region.wanted, yielded, h52])]
        intro t ht
        obtain rfl := Option.some.inj ht
        exact fun h => absurd (hn9.symm.trans h) (by simp)
    case s42 =>
      intro f W2 hk hd
      have h52 : f 52 = .bool (evB a b || newerB a b) := dep hd 52 (by kernel_rfl)
      cases hn9 : (evB a b || newerB a b) with
      | false =>
        rw [hn9] at h52
        have h53 : f 53 = .agg (verL b).toArray := dep hd 53 (by kernel_rfl) hn9
        have h54 : f 54 = .agg (verL a).toArray := dep hd 54 (by kernel_rfl) hn9
        rw [if_pos (by simp [Region.wanted, yielded, h52])]
        intro K hK
        go_simp
        refine (newer_any b a _).mono ?_
        rintro e w' ⟨rfl, hkk⟩
        exact hK _ _ ⟨.bool (newerB b a), by simp [Act.put, h53, h54, h52], hkk, fun t ht => by obtain rfl := Option.some.inj ht; exact fun _ => rfl⟩
      | true =>
        rw [hn9] at h52
        rw [if_neg (by simp [Region.wanted, yielded, h52])]
        intro t ht
        obtain rfl := Option.some.inj ht
        exact fun h => absurd (hn9.symm.trans h) (by simp)
    case s43 =>
      intro f W2 hk hd
      have h52 : f 52 = .bool (evB a b || newerB a b) := dep hd 52 (by kernel_rfl)
      have h43 : f 43 = .bool true := dep hd 43 (by kernel_rfl)
      rw [if_pos (by simp [Region.wanted, yielded, h43])]
      intro K hK
      cases hn9 : (evB a b || newerB a b) with
      | false =>
        rw [hn9] at h52
        have h55 : f 55 = .bool (newerB b a) := dep hd 55 (by kernel_rfl) hn9
        have hx : newerB b a = true := by have := newer_one' a b; rw [hn9] at this; simpa using this
        go_simp
        exact hK _ _ ⟨.bool true, by simp [Act.put, h52, h43, h55, hx], k0 _, fun t ht => by obtain rfl := Option.some.inj ht; exact rfl⟩
      | true =>
        rw [hn9] at h52
        go_simp
        exact hK _ _ ⟨.bool true, by simp [Act.put, h52, h43], k0 _, fun t ht => by obtain rfl := Option.some.inj ht; exact rfl⟩
    case s44 =>
      intro f W2 hk hd
      have h43 : f 43 = .bool true := dep hd 43 (by kernel_rfl)
      have h56 : f 56 = .bool true := dep hd 56 (by kernel_rfl)
      rw [if_pos (by kernel_rfl)]
      intro K hK
      go_simp
      exact hK _ _ ⟨.bool true, by simp [Act.put, h43, h56], k0 _, fun t ht => by obtain rfl := Option.some.inj ht; exact rfl⟩
    case s45 =>
      intro f W2 hk hd
      have h57 : f 57 = .bool true := dep hd 57 (by kernel_rfl)
      rw [if_pos (by kernel_rfl)]
      intro K hK
      go_simp
      exact hK _ _ ⟨.bool true, by simp [Act.put, h57], k0 _, fun t ht => by obtain rfl := Option.some.inj ht; exact rfl⟩
  case hQ =>
    intro f W2 hk hd
    have h6 : f 6 = .bool true := hd 6 (dst_of (by kernel_rfl))
    have k2 := kt q hk
    go_wp2_with fail
    rw [h6]
    go_ret
    exact ⟨rfl, k2⟩
-- POS ends
end Go.Proofs.Ytaifnopoojbcfaa
