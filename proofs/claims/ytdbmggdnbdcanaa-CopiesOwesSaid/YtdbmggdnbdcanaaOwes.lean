/- CopiesOwes: the walk. -/
import Derived.Test.YtdbmggdnbdcanaaFixed
namespace Go.Proofs.Ytdbmggdnbdcanaa
open Go.RowKit
open BigFrame

def owesDs (self key : Id) (v1 v2 : Value) (rb : Bool) (ow : List Id) : Nat → Value → World → Prop := fun t x W =>
  match t with
  | 12 => x = .bool true
  | 13 => x = .bool true
  | 14 => x = .agg (idL self).toArray
  | 15 => x = v1
  | 16 => x = .agg (idL key).toArray
  | 17 => x = .bool rb
  | 18 => x = .agg (idL self).toArray
  | 19 => x = v2
  | 20 => x = .agg (idL key).toArray
  | 21 => x = .bool rb
  | 22 => x = .bool true
  | 23 => x = .bool true
  | 24 => x = .bool true
  | 25 => x = .agg (idL self).toArray
  | 26 => x = v1
  | 27 => x = .agg (idL key).toArray
  | 28 => IdsV W x ow
  | 29 => x = .agg (idL self).toArray
  | 30 => x = v2
  | 31 => x = .agg (idL key).toArray
  | 32 => IdsV W x ow
  | 33 => x = .bool true
  | 34 => x = .bool true
  | 35 => x = .bool true
  | 36 => x = v1
  | 37 => x = v2
  | 38 => x = .bool true
  | 39 => x = .bool true
  | 6 => x = .bool true
  | _ => True

set_option maxHeartbeats 12800000 in
theorem owes_any (self : Id) (v : Value) (key : Id) (l : List Id) (w : World) (hv : IdsV w v l) (hlm : ∀ ao n cap, v = .slice ao n cap → n ≤ cap) :
    Calls Try.prog 3 #[.agg (idL self).toArray, v, .agg (idL key).toArray] w fun e w' => e = .returned (.bool true) ∧ Kept w w' := by
  have hc : (l.take 40).length ≤ 40 := by rw [List.length_take]; omega
  generalize hcl : l.take 40 = c at hc
  have hcl' := Lib.hid hcl
  clear hcl
  go_enter Try.func3, Try.ntmps3
  go_wp2_with (go_at_call 6; refine (cut_any v l 40 _ (idsV_kept (ka (ka (k0 w) _) _) hv) (by omega) hlm).mono ?_; rintro e w1 ⟨v1, rfl, hv1, q1⟩; refine stop_here ?_)
  refine Stopped.go ?_
  rw [hcl'.out] at hv1
  have s1 : rowAt w1 w.heap.size 0 16 = some (idL self) := rowAt_below q1 (by go_simp)
  have s2 : rowAt w1 (w.heap.size + 1) 0 16 = some (idL key) := rowAt_below q1 (by go_simp)
  have k1 : Kept w w1 := kt (ka (ka (k0 w) _) _) q1
  clear q1
  go_wp2_with (go_at_call 7; refine (copy_any v1 c w1 hv1 (by omega)).mono ?_; rintro e w2 ⟨v2, rfl, o2, q2⟩)
  refine wp_any_world (fun W => Kept w W ∧ rowAt W w.heap.size 0 16 = some (idL self) ∧ rowAt W (w.heap.size + 1) 0 16 = some (idL key) ∧ IdsV W v1 c ∧ IdsV W v2 c) ⟨kt k1 q2, rowAt_below q2 s1, rowAt_below q2 s2, idsV_kept q2 hv1, ownV_ids o2⟩ ?_
  clear hv1 s1 s2 k1 o2 q2
  rintro W ⟨q, r1, r2, hv1, hv2⟩
  obtain ⟨rb, hrb⟩ : ∃ rb, rootN self key c c.length = rb := ⟨_, rfl⟩
  obtain ⟨ow, how⟩ : ∃ ow, owedR self key c = ow := ⟨_, rfl⟩
  have hol : ow.length ≤ 40 := by
    have h1 := sortR_length self c c.length
    rw [← how, owedR]
    split
    · omega
    · simp
  have L17 := Lib.hid (show ∀ W', IdsV W' v1 c → Calls Try.prog 9 #[.agg (idL self).toArray, v1, .agg (idL key).toArray] W' fun e w' => e = .returned (.bool rb) ∧ Kept W' w' from fun W' h => by
    have := root_any self v1 key c W' h (by omega)
    rwa [best_root, hrb] at this)
  have L21 := Lib.hid (show ∀ W', IdsV W' v2 c → Calls Try.prog 10 #[.agg (idL self).toArray, v2, .agg (idL key).toArray] W' fun e w' => e = .returned (.bool rb) ∧ Kept W' w' from fun W' h => by
    have := rroot_any self v2 key c W' h (by omega)
    rwa [hrb] at this)
  have L28 := Lib.hid (show ∀ W', IdsV W' v1 c → Calls Try.prog 12 #[.agg (idL self).toArray, v1, .agg (idL key).toArray] W' fun e w' => ∃ v', e = .returned v' ∧ IdsV w' v' ow ∧ Kept W' w' from fun W' h => by
    have := powed_any self v1 key c W' h (by omega)
    rwa [how] at this)
  have L32 := Lib.hid (show ∀ W', IdsV W' v2 c → Calls Try.prog 13 #[.agg (idL self).toArray, v2, .agg (idL key).toArray] W' fun e w' => ∃ v', e = .returned v' ∧ IdsV w' v' ow ∧ Kept W' w' from fun W' h => by
    have := rowed_any self v2 key c W' h (by omega)
    rwa [how] at this)
  have L33 := Lib.hid (show ∀ W' x y, IdsV W' x ow → IdsV W' y ow → Calls Try.prog 11 #[x, y] W' fun e w' => e = .returned (.bool true) ∧ Kept W' w' from fun W' x y h h' => by
    have := same_any x y ow ow W' h h' (by omega) (by omega)
    rwa [beq_self_eq_true] at this)
  have L38 := Lib.hid (show ∀ W', IdsV W' v1 c → IdsV W' v2 c → Calls Try.prog 11 #[v1, v2] W' fun e w' => e = .returned (.bool true) ∧ Kept W' w' from fun W' h h' => by
    have := same_any v1 v2 c c W' h h' (by omega) (by omega)
    rwa [beq_self_eq_true] at this)
  clear hrb how
  refine wp_region_loose (owesDs self key v1 v2 rb ow) ?mk (by kernel_rfl) (by kernel_rfl) ?hmk ?hmono ?hstep ?hQ
  case hmk =>
    intro f
    simp only [mkOf, List.foldl, Act.put, List.setIfInBounds_toArray, List.set_cons_zero, List.set_cons_succ]
    rfl
  case hmono =>
    intro t x W1 W2 h hk
    unfold owesDs at h ⊢
    split <;> simp only at h ⊢ <;> first | exact h | exact idsV_kept hk h
  case hstep =>
    refine ⟨?s0, ?s1, ?s2, ?s3, ?s4, ?s5, ?s6, ?s7, ?s8, ?s9, ?s10, ?s11, ?s12, ?s13, ?s14, ?s15, ?s16, ?s17, ?s18, ?s19, ?s20, ?s21, ?s22, ?s23, ?s24, ?s25, ?s26, ?s27, ?s28, trivial⟩
    case s0 =>
      intro f W2 hk hd
      rw [if_pos (by kernel_rfl)]
      intro K hK
      go_simp
      refine (fixed_any _).mono ?_
      rintro e w' ⟨rfl, hkk⟩
      exact hK _ _ ⟨.bool true, by simp [Act.put], hkk, fun t ht => by obtain rfl := Option.some.inj ht; exact rfl⟩
    case s1 =>
      intro f W2 hk hd
      have h12 : f 12 = .bool true := dep hd 12 (by kernel_rfl)
      rw [if_pos (by kernel_rfl)]
      intro K hK
      go_simp
      exact hK _ _ ⟨.bool true, by simp [Act.put, h12], k0 _, fun t ht => by obtain rfl := Option.some.inj ht; exact rfl⟩
    case s2 =>
      intro f W2 hk hd
      have h13 : f 13 = .bool true := dep hd 13 (by kernel_rfl)
      rw [if_pos (by simp [Region.wanted, yielded, h13])]
      intro K hK
      have r := rowAt_below hk r1
      go_simp
      exact hK _ _ ⟨.agg (idL self).toArray, by simp [Act.put, h13], k0 _, fun t ht => by obtain rfl := Option.some.inj ht; exact rfl⟩
    case s3 =>
      intro f W2 hk hd
      have h13 : f 13 = .bool true := dep hd 13 (by kernel_rfl)
      rw [if_pos (by simp [Region.wanted, yielded, h13])]
      intro K hK
      go_simp
      exact hK _ _ ⟨v1, by simp [Act.put, h13], k0 _, fun t ht => by obtain rfl := Option.some.inj ht; exact rfl⟩
    case s4 =>
      intro f W2 hk hd
      have h13 : f 13 = .bool true := dep hd 13 (by kernel_rfl)
      rw [if_pos (by simp [Region.wanted, yielded, h13])]
      intro K hK
      have r := rowAt_below hk r2
      go_simp
      exact hK _ _ ⟨.agg (idL key).toArray, by simp [Act.put, h13], k0 _, fun t ht => by obtain rfl := Option.some.inj ht; exact rfl⟩
    case s5 =>
      intro f W2 hk hd
      have h14 : f 14 = .agg (idL self).toArray := dep hd 14 (by kernel_rfl)
      have h15 : f 15 = v1 := dep hd 15 (by kernel_rfl)
      have h16 : f 16 = .agg (idL key).toArray := dep hd 16 (by kernel_rfl)
      have h13 : f 13 = .bool true := dep hd 13 (by kernel_rfl)
      rw [if_pos (by simp [Region.wanted, yielded, h13])]
      intro K hK
      go_simp
      refine (L17.out _ (idsV_kept hk hv1)).mono ?_
      rintro e w' ⟨rfl, hkk⟩
      exact hK _ _ ⟨.bool rb, by simp [Act.put, h14, h15, h16, h13], hkk, fun t ht => by obtain rfl := Option.some.inj ht; exact rfl⟩
    case s6 =>
      intro f W2 hk hd
      have h13 : f 13 = .bool true := dep hd 13 (by kernel_rfl)
      rw [if_pos (by simp [Region.wanted, yielded, h13])]
      intro K hK
      have r := rowAt_below hk r1
      go_simp
      exact hK _ _ ⟨.agg (idL self).toArray, by simp [Act.put, h13], k0 _, fun t ht => by obtain rfl := Option.some.inj ht; exact rfl⟩
    case s7 =>
      intro f W2 hk hd
      have h13 : f 13 = .bool true := dep hd 13 (by kernel_rfl)
      rw [if_pos (by simp [Region.wanted, yielded, h13])]
      intro K hK
      go_simp
      exact hK _ _ ⟨v2, by simp [Act.put, h13], k0 _, fun t ht => by obtain rfl := Option.some.inj ht; exact rfl⟩
    case s8 =>
      intro f W2 hk hd
      have h13 : f 13 = .bool true := dep hd 13 (by kernel_rfl)
      rw [if_pos (by simp [Region.wanted, yielded, h13])]
      intro K hK
      have r := rowAt_below hk r2
      go_simp
      exact hK _ _ ⟨.agg (idL key).toArray, by simp [Act.put, h13], k0 _, fun t ht => by obtain rfl := Option.some.inj ht; exact rfl⟩
    case s9 =>
      intro f W2 hk hd
      have h18 : f 18 = .agg (idL self).toArray := dep hd 18 (by kernel_rfl)
      have h19 : f 19 = v2 := dep hd 19 (by kernel_rfl)
      have h20 : f 20 = .agg (idL key).toArray := dep hd 20 (by kernel_rfl)
      have h13 : f 13 = .bool true := dep hd 13 (by kernel_rfl)
      rw [if_pos (by simp [Region.wanted, yielded, h13])]
      intro K hK
      go_simp
      refine (L21.out _ (idsV_kept hk hv2)).mono ?_
      rintro e w' ⟨rfl, hkk⟩
      exact hK _ _ ⟨.bool rb, by simp [Act.put, h18, h19, h20, h13], hkk, fun t ht => by obtain rfl := Option.some.inj ht; exact rfl⟩
    case s10 =>
      intro f W2 hk hd
      have h17 : f 17 = .bool rb := dep hd 17 (by kernel_rfl)
      have h21 : f 21 = .bool rb := dep hd 21 (by kernel_rfl)
      have h13 : f 13 = .bool true := dep hd 13 (by kernel_rfl)
      rw [if_pos (by simp [Region.wanted, yielded, h13])]
      intro K hK
      go_simp
      exact hK _ _ ⟨.bool true, by simp [Act.put, h17, h21, h13], k0 _, fun t ht => by obtain rfl := Option.some.inj ht; exact rfl⟩
    case s11 =>
      intro f W2 hk hd
      have h13 : f 13 = .bool true := dep hd 13 (by kernel_rfl)
      have h22 : f 22 = .bool true := dep hd 22 (by kernel_rfl)
      rw [if_pos (by kernel_rfl)]
      intro K hK
      go_simp
      exact hK _ _ ⟨.bool true, by simp [Act.put, h13, h22], k0 _, fun t ht => by obtain rfl := Option.some.inj ht; exact rfl⟩
    case s12 =>
      intro f W2 hk hd
      have h23 : f 23 = .bool true := dep hd 23 (by kernel_rfl)
      rw [if_pos (by kernel_rfl)]
      intro K hK
      go_simp
      exact hK _ _ ⟨.bool true, by simp [Act.put, h23], k0 _, fun t ht => by obtain rfl := Option.some.inj ht; exact rfl⟩
    case s13 =>
      intro f W2 hk hd
      have h24 : f 24 = .bool true := dep hd 24 (by kernel_rfl)
      rw [if_pos (by simp [Region.wanted, yielded, h24])]
      intro K hK
      have r := rowAt_below hk r1
      go_simp
      exact hK _ _ ⟨.agg (idL self).toArray, by simp [Act.put, h24], k0 _, fun t ht => by obtain rfl := Option.some.inj ht; exact rfl⟩
    case s14 =>
      intro f W2 hk hd
      have h24 : f 24 = .bool true := dep hd 24 (by kernel_rfl)
      rw [if_pos (by simp [Region.wanted, yielded, h24])]
      intro K hK
      go_simp
      exact hK _ _ ⟨v1, by simp [Act.put, h24], k0 _, fun t ht => by obtain rfl := Option.some.inj ht; exact rfl⟩
    case s15 =>
      intro f W2 hk hd
      have h24 : f 24 = .bool true := dep hd 24 (by kernel_rfl)
      rw [if_pos (by simp [Region.wanted, yielded, h24])]
      intro K hK
      have r := rowAt_below hk r2
      go_simp
      exact hK _ _ ⟨.agg (idL key).toArray, by simp [Act.put, h24], k0 _, fun t ht => by obtain rfl := Option.some.inj ht; exact rfl⟩
    case s16 =>
      intro f W2 hk hd
      have h25 : f 25 = .agg (idL self).toArray := dep hd 25 (by kernel_rfl)
      have h26 : f 26 = v1 := dep hd 26 (by kernel_rfl)
      have h27 : f 27 = .agg (idL key).toArray := dep hd 27 (by kernel_rfl)
      have h24 : f 24 = .bool true := dep hd 24 (by kernel_rfl)
      rw [if_pos (by simp [Region.wanted, yielded, h24])]
      intro K hK
      go_simp
      refine (L28.out _ (idsV_kept hk hv1)).mono ?_
      rintro e w' ⟨v', rfl, hi, hkk⟩
      exact hK _ _ ⟨v', by simp [Act.put, h25, h26, h27, h24], hkk, fun t ht => by obtain rfl := Option.some.inj ht; exact hi⟩
    case s17 =>
      intro f W2 hk hd
      have h24 : f 24 = .bool true := dep hd 24 (by kernel_rfl)
      rw [if_pos (by simp [Region.wanted, yielded, h24])]
      intro K hK
      have r := rowAt_below hk r1
      go_simp
      exact hK _ _ ⟨.agg (idL self).toArray, by simp [Act.put, h24], k0 _, fun t ht => by obtain rfl := Option.some.inj ht; exact rfl⟩
    case s18 =>
      intro f W2 hk hd
      have h24 : f 24 = .bool true := dep hd 24 (by kernel_rfl)
      rw [if_pos (by simp [Region.wanted, yielded, h24])]
      intro K hK
      go_simp
      exact hK _ _ ⟨v2, by simp [Act.put, h24], k0 _, fun t ht => by obtain rfl := Option.some.inj ht; exact rfl⟩
    case s19 =>
      intro f W2 hk hd
      have h24 : f 24 = .bool true := dep hd 24 (by kernel_rfl)
      rw [if_pos (by simp [Region.wanted, yielded, h24])]
      intro K hK
      have r := rowAt_below hk r2
      go_simp
      exact hK _ _ ⟨.agg (idL key).toArray, by simp [Act.put, h24], k0 _, fun t ht => by obtain rfl := Option.some.inj ht; exact rfl⟩
    case s20 =>
      intro f W2 hk hd
      have h29 : f 29 = .agg (idL self).toArray := dep hd 29 (by kernel_rfl)
      have h30 : f 30 = v2 := dep hd 30 (by kernel_rfl)
      have h31 : f 31 = .agg (idL key).toArray := dep hd 31 (by kernel_rfl)
      have h24 : f 24 = .bool true := dep hd 24 (by kernel_rfl)
      rw [if_pos (by simp [Region.wanted, yielded, h24])]
      intro K hK
      go_simp
      refine (L32.out _ (idsV_kept hk hv2)).mono ?_
      rintro e w' ⟨v', rfl, hi, hkk⟩
      exact hK _ _ ⟨v', by simp [Act.put, h29, h30, h31, h24], hkk, fun t ht => by obtain rfl := Option.some.inj ht; exact hi⟩
    case s21 =>
      intro f W2 hk hd
      obtain h28 : IdsV W2 (f 28) ow := dep hd 28 (by kernel_rfl)
      obtain h32 : IdsV W2 (f 32) ow := dep hd 32 (by kernel_rfl)
      have h24 : f 24 = .bool true := dep hd 24 (by kernel_rfl)
      rw [if_pos (by simp [Region.wanted, yielded, h24])]
      intro K hK
      go_simp
      refine (L33.out _ _ _ h28 h32).mono ?_
      rintro e w' ⟨rfl, hkk⟩
      exact hK _ _ ⟨.bool true, by simp [Act.put, h24], hkk, fun t ht => by obtain rfl := Option.some.inj ht; exact rfl⟩
    case s22 =>
      intro f W2 hk hd
      have h24 : f 24 = .bool true := dep hd 24 (by kernel_rfl)
      have h33 : f 33 = .bool true := dep hd 33 (by kernel_rfl)
      rw [if_pos (by kernel_rfl)]
      intro K hK
      go_simp
      exact hK _ _ ⟨.bool true, by simp [Act.put, h24, h33], k0 _, fun t ht => by obtain rfl := Option.some.inj ht; exact rfl⟩
    case s23 =>
      intro f W2 hk hd
      have h34 : f 34 = .bool true := dep hd 34 (by kernel_rfl)
      rw [if_pos (by kernel_rfl)]
      intro K hK
      go_simp
      exact hK _ _ ⟨.bool true, by simp [Act.put, h34], k0 _, fun t ht => by obtain rfl := Option.some.inj ht; exact rfl⟩
    case s24 =>
      intro f W2 hk hd
      have h35 : f 35 = .bool true := dep hd 35 (by kernel_rfl)
      rw [if_pos (by simp [Region.wanted, yielded, h35])]
      intro K hK
      go_simp
      exact hK _ _ ⟨v1, by simp [Act.put, h35], k0 _, fun t ht => by obtain rfl := Option.some.inj ht; exact rfl⟩
    case s25 =>
      intro f W2 hk hd
      have h35 : f 35 = .bool true := dep hd 35 (by kernel_rfl)
      rw [if_pos (by simp [Region.wanted, yielded, h35])]
      intro K hK
      go_simp
      exact hK _ _ ⟨v2, by simp [Act.put, h35], k0 _, fun t ht => by obtain rfl := Option.some.inj ht; exact rfl⟩
    case s26 =>
      intro f W2 hk hd
      have h36 : f 36 = v1 := dep hd 36 (by kernel_rfl)
      have h37 : f 37 = v2 := dep hd 37 (by kernel_rfl)
      have h35 : f 35 = .bool true := dep hd 35 (by kernel_rfl)
      rw [if_pos (by simp [Region.wanted, yielded, h35])]
      intro K hK
      go_simp
      refine (L38.out _ (idsV_kept hk hv1) (idsV_kept hk hv2)).mono ?_
      rintro e w' ⟨rfl, hkk⟩
      exact hK _ _ ⟨.bool true, by simp [Act.put, h36, h37, h35], hkk, fun t ht => by obtain rfl := Option.some.inj ht; exact rfl⟩
    case s27 =>
      intro f W2 hk hd
      have h35 : f 35 = .bool true := dep hd 35 (by kernel_rfl)
      have h38 : f 38 = .bool true := dep hd 38 (by kernel_rfl)
      rw [if_pos (by kernel_rfl)]
      intro K hK
      go_simp
      exact hK _ _ ⟨.bool true, by simp [Act.put, h35, h38], k0 _, fun t ht => by obtain rfl := Option.some.inj ht; exact rfl⟩
    case s28 =>
      intro f W2 hk hd
      have h39 : f 39 = .bool true := dep hd 39 (by kernel_rfl)
      rw [if_pos (by kernel_rfl)]
      intro K hK
      go_simp
      exact hK _ _ ⟨.bool true, by simp [Act.put, h39], k0 _, fun t ht => by obtain rfl := Option.some.inj ht; exact rfl⟩
  case hQ =>
    intro f W2 hk hd
    have h6 : f 6 = .bool true := hd 6 (dst_of (by kernel_rfl))
    go_wp2_with fail
    go_ret
    exact ⟨congrArg Ending.returned h6, kt q hk⟩
end Go.Proofs.Ytdbmggdnbdcanaa
